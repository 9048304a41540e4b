/- Slices, texts, structs and arrays that are built. -/
import Derived.Test.YtjgbikhnnkigpaaFwF
import Derived.Laws.Build
import Derived.Laws.MakeOwn
set_option linter.unusedSimpArgs false
set_option linter.unusedVariables false
namespace Go.Fw
open Go Go.RowKit

/-- The elements of a slice, as cells. -/
def AS.elems (s : AS) (z : Nat) : AV → Option (Nat × List AV)
  | .slc _ z' n l => if z' = z then some (n, l) else none
  | .bs id z' off n => if z' = z then (match s.box id with
    | some (.mut _ l) => if off + n * z ≤ l.length then some (n, (l.drop off).take (n * z)) else none
    | _ => none) else none
  | .v (.slice none 0 0) => some (0, [])
  | _ => none

def AV.isByte : AV → Bool
  | .v (.int .u8 _) => true
  | _ => false
def AV.byte : AV → UInt8
  | .v (.int _ n) => UInt8.ofNat n.toNat
  | _ => 0
def AV.int : AV → Int
  | .v (.int _ n) => n
  | _ => 0
/-- The text of bytes. -/
def strOf (l : List AV) : ByteArray := ⟨(l.map AV.byte).toArray⟩

/-- A bound of a slice expression. -/
def bndOk : Option AV → Bool
  | none => true
  | some (.v (.int _ k)) => decide (0 ≤ k)
  | _ => false
def bnd (d : Nat) : Option AV → Nat
  | some (.v (.int _ k)) => k.toNat
  | _ => d

def evSlice (P : Program) (t : TypeId) (x : AV) (lo hi mx : Option AV) : Option AV :=
  match x with
  | .v (.string b) => if strP P t = true ∧ mx.isNone = true ∧ bndOk lo = true ∧ bndOk hi = true ∧ bnd 0 lo ≤ bnd b.size hi ∧ bnd b.size hi ≤ b.size then
      some (.v (.string (b.extract (bnd 0 lo) (bnd b.size hi)))) else none
  | .v (.slice none 0 0) => if (elemP P t).bind (szP P) ≠ none ∧ mx.isNone = true ∧ bndOk lo = true ∧ bndOk hi = true ∧ bnd 0 lo = 0 ∧ bnd 0 hi = 0 then some (.v (.slice none 0 0)) else none
  | .slc _ z n l =>
    if (elemP P t).bind (szP P) = some z ∧ bndOk lo = true ∧ bndOk hi = true ∧ bndOk mx = true ∧ bnd 0 lo ≤ bnd n hi ∧ bnd n hi ≤ n ∧ (mx.isSome = true → bnd n mx = bnd n hi ∧ hi.isSome = true) then
      some (.slc mx.isSome z (bnd n hi - bnd 0 lo) ((l.drop (bnd 0 lo * z)).take ((bnd n hi - bnd 0 lo) * z))) else none
  | .bs id z off n =>
    if (elemP P t).bind (szP P) = some z ∧ bndOk lo = true ∧ bndOk hi = true ∧ mx.isNone = true ∧ bnd 0 lo ≤ bnd n hi ∧ bnd n hi ≤ n then
      some (.bs id z (off + bnd 0 lo * z) (bnd n hi - bnd 0 lo)) else none
  | _ => none

def setAt (l : List AV) (o : Nat) (cs : List AV) : List AV := l.take o ++ cs ++ l.drop (o + cs.length)

def fillA (place : Nat → Option (Nat × Nat)) (l : List AV) : List (Nat × AV) → Option (List AV)
  | [] => some l
  | (i, v) :: rest =>
    match place i, v.cells? with
    | some (o, n), some cs => if cs.length = n ∧ o + n ≤ l.length then fillA place (setAt l o cs) rest else none
    | _, _ => none

/-- The zero value's cells. -/
def zeroP (P : Program) (t : TypeId) : Option (List Value) :=
  match (P.info? t).bind (·.zero) with
  | some z => if z.cells.toList.all (·.oneCell') = true then some z.cells.toList else none
  | none => none

def evBuild (P : Program) (t : TypeId) (parts : List (Nat × AV)) : Option AV :=
  match zeroP P t with
  | none => none
  | some zs =>
    match P.underlying t with
    | some (.struct fs) => if fs.toList.all (fun f => (szP P f.type).isSome) = true then
        (fillA (fun i => (fs[i]?).bind fun f => (szP P f.type).map fun n => (f.offset, n)) (zs.map .v) parts).map .agg else none
    | some (.array _ e) => match szP P e with
      | some z => (fillA (fun i => some (i * z, z)) (zs.map .v) parts).map .agg
      | none => none
    | _ => none

def evConv (P : Program) (s : AS) (src dst : TypeId) (x : AV) : Option AV :=
  match x with
  | .v (.int _ n) => if (P.underlying src).isSome = true then (intP P dst).map fun k => .v (.int k (k.wrap n)) else none
  | .v (.string b) => if (P.underlying src).isSome = true ∧ strP P dst = true then some (.v (.string b)) else none
  | x => if (elemP P src).bind (intP P) = some .u8 ∧ strP P dst = true then (match s.elems 1 x with
    | some (_, l) => if l.all AV.isByte = true then some (.v (.string (strOf l))) else none
    | none => none) else none

section
variable {P : Program} {C : Ctx} {M : Mem} {β : Loc} {s : AS} {w : World} {nt : Nat} {a : Act}

theorem elems_ok (h : Rel C M β s w) {v : AV} {x : Value} (hv : Ok M β s v x) {z n : Nat} {l : List AV} (he : s.elems z v = some (n, l)) :
    ∃ ad cap, x = .slice ad n cap ∧ l.length = n * z ∧ n ≤ cap ∧ cap ≤ maxLen ∧ (∀ j ∈ refsL l, s.used j) ∧
      ∃ ys : List Value, ys.length = l.length ∧ RepAt M β l ys.toArray 0 ∧ (∀ y ∈ ys, y.oneCell' = true) ∧
        (0 < n → ∃ b o, ad = some ⟨b, o, none⟩ ∧ ∀ j y, ys[j]? = some y → w.cell? ⟨b, o + j, none⟩ = some y) := by
  unfold AS.elems at he
  split at he
  · rename_i f z' n' l'
    split at he
    · rename_i hz
      subst hz
      cases he
      obtain ⟨ad, cap, rfl, h1, h2, h3, h4, h5, h6⟩ := hv.rep
      refine ⟨ad, cap, rfl, h1, h2, h3, fun j hj => (by rw [h5] at hj; cases hj), ?_⟩
      rcases Nat.eq_zero_or_pos n with h0 | h0
      · subst h0
        have : l = [] := List.eq_nil_of_length_eq_zero (by simpa using h1)
        subst this
        exact ⟨[], rfl, trivial, by simp, fun h => absurd h (by omega)⟩
      · obtain ⟨b, o, cs, rfl, h7, h8⟩ := h6 h0
        obtain ⟨ty, fz, hh⟩ := h.mem b cs h7
        obtain ⟨ys, k1, k2, k3, k4⟩ := h8.cells
        exact ⟨ys, k1, RepAt.mono (MemLe.refl M) _ _ _ (fun j hj => by rw [h5] at hj; cases hj) k4, k3, fun _ => ⟨b, o, rfl, fun j y hy => cell_of hh (k2 j y hy)⟩⟩
    · cases he
  · rename_i id z' off n'
    split at he
    · rename_i hz
      subst hz
      split at he
      · rename_i e l' hb
        split at he
        · rename_i hle
          cases he
          obtain ⟨ad, cap, rfl, h1, h2, h3⟩ := hv.rep
          refine ⟨ad, cap, rfl, by simp; omega, h1, h2, fun j hj => h.refB id e l' hb j (refsL_sub (fun a ha => List.mem_of_mem_drop (List.mem_of_mem_take ha)) hj), ?_⟩
          rcases Nat.eq_zero_or_pos n with h0 | h0
          · subst h0
            exact ⟨[], by simp, by simp [RepAt], by simp, fun h => absurd h (by omega)⟩
          · obtain ⟨b, sz, h4, rfl, h5⟩ := h3 (by omega)
            rcases h.mutb id e l' hb with ⟨hn, _⟩ | ⟨b', cs, k1, ⟨fz, k2, _⟩, k3, _⟩
            · rw [hn] at h4; cases h4
            · rw [k1] at h4; cases h4
              have hd := (k3.drop off).take (n * z')
              simp only [Nat.zero_add] at hd
              obtain ⟨ys, j1, j2, j3, j4⟩ := hd.cells
              exact ⟨ys, j1, j4, j3, fun _ => ⟨b, off, rfl, fun j y hy => cell_of k2 (j2 j y hy)⟩⟩
        · cases he
      · cases he
    · cases he
  · cases he
    obtain ⟨rfl, _⟩ := hv.rep
    exact ⟨none, 0, rfl, by simp, Nat.le_refl _, by simp [maxLen], by simp [refsL], [], rfl, trivial, by simp, fun h => absurd h (by omega)⟩
  · cases he

theorem foldl_push (ns : List Int) : ∀ (r : ByteArray), ns.foldl (fun r n => r.push (UInt8.ofNat n.toNat)) r = ⟨r.data ++ (ns.map fun n => UInt8.ofNat n.toNat).toArray⟩ := by
  induction ns with
  | nil => intro r; simp
  | cons n ns ih =>
    intro r
    rw [List.foldl_cons, ih]
    congr 1
    apply Array.ext'
    simp [ByteArray.push]

theorem bytes_list {l : List AV} {ys : List Value} (h : RepAt M β l ys.toArray 0) (hl : ys.length = l.length) (hb : l.all AV.isByte = true) :
    ys = (l.map AV.int).map (Value.int .u8) := by
  apply List.ext_getElem?
  intro i
  rw [List.getElem?_map, List.getElem?_map]
  cases hi : l[i]? with
  | none =>
    simp
    rw [List.getElem?_eq_none_iff] at hi
    omega
  | some v =>
    obtain ⟨y, h1, _, h3⟩ := (RepAt.iff _ _ _).1 h i v hi
    simp only [Nat.zero_add, List.getElem?_toArray] at h1
    rw [h1]
    have := List.all_eq_true.1 hb v (List.mem_of_getElem? hi)
    cases v with
    | v x =>
      cases x <;> simp only [AV.isByte] at this <;> try (cases this; done)
      rename_i k n
      cases k <;> simp at this
      obtain ⟨rfl, _⟩ := h3
      rfl
    | _ => simp [AV.isByte] at this

theorem strOf_eq {l : List AV} (hb : l.all AV.isByte = true) : ((l.map AV.int).foldl (fun r n => r.push (UInt8.ofNat n.toNat)) ByteArray.empty) = strOf l := by
  rw [foldl_push]
  unfold strOf
  congr 1
  apply Array.ext'
  simp only [Array.toList_append, ByteArray.data_empty, List.map_map]
  simp
  intro v hv
  have := List.all_eq_true.1 hb v hv
  cases v with
  | v x => cases x <;> simp only [AV.isByte] at this <;> first | (cases this; done) | rfl
  | _ => simp [AV.isByte] at this

theorem conv_ok (h : Rel C M β s w) {x r : AV} {u : Value} (hx : Ok M β s x u) {src dst : TypeId} (hr : evConv P s src dst x = some r) :
    ∃ z, (convert src dst u).run P w = .ok z w ∧ Ok M β s r z := by
  unfold evConv at hr
  split at hr
  · rename_i kk n
    obtain ⟨rfl, _⟩ := hx.rep
    split at hr
    · rename_i hs
      obtain ⟨d, hd⟩ := Option.isSome_iff_exists.1 hs
      cases hk : intP P dst with
      | none => simp [hk] at hr
      | some k =>
        simp [hk] at hr
        subst hr
        refine ⟨.int k (k.wrap n), ?_, ⟨rfl, rfl⟩, by simp [AV.refs]⟩
        simp only [convert, Sem.run_bind, run_underlying hd, run_underlying (intP_spec hk), Result.andThen_ok]
        simp [Conv.intToInt]
    · cases hr
  · rename_i b
    obtain ⟨rfl, _⟩ := hx.rep
    split at hr
    · rename_i hc
      obtain ⟨hs, hd⟩ := hc
      obtain ⟨d, hd'⟩ := Option.isSome_iff_exists.1 hs
      cases hr
      refine ⟨.string b, ?_, ⟨rfl, rfl⟩, by simp [AV.refs]⟩
      simp only [convert, Sem.run_bind, run_underlying hd', run_underlying (strP_spec hd), Result.andThen_ok]
      simp
    · cases hr
  · split at hr
    · rename_i hc
      obtain ⟨hs, hd⟩ := hc
      split at hr
      · rename_i n l hel
        split at hr
        · rename_i hb
          cases hr
          cases hee : elemP P src with
          | none => simp [hee] at hs
          | some e =>
            simp [hee] at hs
            obtain ⟨ad, cap, rfl, h1, h2, _, _, ys, h3, h4, h5, h6⟩ := elems_ok h hx hel
            simp only [Nat.mul_one] at h1
            refine ⟨.string (strOf l), ?_, ⟨rfl, rfl⟩, by simp [AV.refs]⟩
            rw [run_convert_bytes_string w src dst e ad n cap (elemP_spec hee) (intP_spec hs) (strP_spec hd)]
            rcases Nat.eq_zero_or_pos n with h0 | h0
            · have hl : l = [] := List.eq_nil_of_length_eq_zero (by omega)
              subst hl
              subst h0
              cases ad with
              | none => simp [Conv.bytesToString, strOf]; rfl
              | some ad =>
                have := run_bytesToString (P := P) w ad 0 cap [] (by simp [loadCells, loadCellsFrom])
                rw [this]; rfl
            · obtain ⟨b, o, rfl, h7⟩ := h6 h0
              have hys := bytes_list h4 h3 hb
              have hld := run_loadCells_list (P := P) w ⟨b, o, none⟩ ys (fun j y hy => by rw [Addr.add_lit]; exact h7 j y hy)
              rw [h3, h1, hys] at hld
              rw [run_bytesToString w _ n cap (l.map AV.int) hld, strOf_eq hb]
        · cases hr
      · cases hr
    · cases hr

theorem bnd_run {o : Option AV} {x : Option Value} (hx : match o, x with | some v, some u => Rep M β v u | none, none => True | _, _ => False) (hb : bndOk o = true) (d : Nat) :
    (x = none ∧ o = none ∧ bnd d o = d) ∨ ∃ k i, x = some (.int k i) ∧ 0 ≤ i ∧ i.toNat = bnd d o ∧ o.isSome = true := by
  cases o with
  | none => cases x with
    | none => exact .inl ⟨rfl, rfl, rfl⟩
    | some u => exact hx.elim
  | some v =>
    cases x with
    | none => exact hx.elim
    | some u =>
      right
      cases v with
      | v y =>
        cases y <;> simp only [bndOk] at hb <;> try (cases hb; done)
        rename_i k i
        obtain ⟨rfl, _⟩ := hx
        exact ⟨k, i, rfl, by simpa using hb, rfl, rfl⟩
      | _ => simp [bndOk] at hb

/-- An operand that may be missing. -/
def OkO (M : Mem) (β : Loc) (o : Option AV) (x : Option Value) : Prop := match o, x with | some v, some u => Rep M β v u | none, none => True | _, _ => False

theorem bounds_run (b : Bool) {n cap : Nat} (hnc : n ≤ cap) {lo hi : Option AV} {lo' hi' : Option Value} (hlo : OkO M β lo lo') (hhi : OkO M β hi hi') (h1 : bndOk lo = true) (h2 : bndOk hi = true)
    (h3 : bnd 0 lo ≤ bnd n hi) (h4 : bnd n hi ≤ n) : (Instr.sliceBounds b n cap lo' hi' none).run P w = .ok (bnd 0 lo, bnd n hi, cap) w := by
  rcases bnd_run hlo h1 0 with ⟨rfl, rfl, e1⟩ | ⟨k, i, rfl, i0, e1, _⟩ <;> rcases bnd_run hhi h2 n with ⟨rfl, rfl, e2⟩ | ⟨k', i', rfl, i0', e2, _⟩
  · simp [Instr.sliceBounds, e1, e2]
  · rw [← e2] at h3 h4 ⊢
    have : i' ≤ (cap : Int) := by omega
    simp [Instr.sliceBounds, Instr.sliceBound, asIntOf, i0', this, e1]
  · rw [← e1] at h3 ⊢
    rw [e2] at h3 ⊢
    have : i ≤ (n : Int) := by omega
    simp [Instr.sliceBounds, Instr.sliceBound, asIntOf, i0, this]
  · rw [← e1, ← e2] at h3
    rw [← e2] at h4
    rw [← e1, ← e2]
    have t1 : i' ≤ (cap : Int) := by omega
    have t2 : i ≤ i' := by omega
    have t3 : i ≤ (i'.toNat : Int) := by omega
    simp [Instr.sliceBounds, Instr.sliceBound, asIntOf, i0, i0', t1]
    intro hh
    omega

theorem bounds_run_max {n cap : Nat} (hnc : n ≤ cap) {lo hi mx : Option AV} {lo' hi' mx' : Option Value} (hlo : OkO M β lo lo') (hhi : OkO M β hi hi') (hmx : OkO M β mx mx')
    (h1 : bndOk lo = true) (h2 : bndOk hi = true) (h2' : bndOk mx = true)
    (h3 : bnd 0 lo ≤ bnd n hi) (h4 : bnd n hi ≤ n) (h5 : mx.isSome = true) (h6 : bnd n mx = bnd n hi) (h7 : hi.isSome = true) :
    (Instr.sliceBounds true n cap lo' hi' mx').run P w = .ok (bnd 0 lo, bnd n hi, bnd n hi) w := by
  rcases bnd_run hmx h2' n with ⟨rfl, rfl, _⟩ | ⟨k2, i2, rfl, i02, e3, _⟩
  · simp at h5
  rcases bnd_run hhi h2 n with ⟨rfl, rfl, _⟩ | ⟨k', i', rfl, i0', e2, _⟩
  · simp at h7
  rw [h6, ← e2] at e3
  have e4 : i2 = i' := by omega
  subst e4
  rw [← e2] at h3 h4 ⊢
  have t1 : i2 ≤ (cap : Int) := by omega
  rcases bnd_run hlo h1 0 with ⟨rfl, rfl, e1⟩ | ⟨k, i, rfl, i0, e1, _⟩
  · simp [Instr.sliceBounds, Instr.sliceBound, asIntOf, i02, t1, e1]
    intro hh
    omega
  · rw [← e1] at h3 ⊢
    simp [Instr.sliceBounds, Instr.sliceBound, asIntOf, i02, t1, i0]
    rw [if_pos (by omega), if_pos (by omega)]

theorem sliceAt_eq {t : TypeId} {d : TypeDesc} (hu : P.underlying t = some d) (hd : ∀ n e, d ≠ .array n e) (x : Value) (lo hi mx : Option Value) :
    (Instr.sliceAt t x lo hi mx).run P w = (Instr.slice t x lo hi mx).run P w := by
  simp only [Instr.sliceAt, Sem.run_bind, run_underlying hu, Result.andThen_ok]

theorem slice_ok {x r : AV} {u : Value} (hx : Ok M β s x u) {t : TypeId} {lo hi mx : Option AV} {lo' hi' mx' : Option Value}
    (hlo : OkO M β lo lo') (hhi : OkO M β hi hi') (hmx : OkO M β mx mx') (hr : evSlice P t x lo hi mx = some r) :
    ∃ y, (Instr.sliceAt t u lo' hi' mx').run P w = .ok y w ∧ Ok M β s r y := by
  unfold evSlice at hr
  split at hr
  · rename_i b
    obtain ⟨rfl, _⟩ := hx.rep
    split at hr
    · rename_i hc
      obtain ⟨c1, c2, c3, c4, c5, c6⟩ := hc
      cases hr
      have hu := strP_spec c1
      have hm : mx' = none := by
        cases mx with
        | none => cases mx' with
          | none => rfl
          | some => exact hmx.elim
        | some => simp at c2
      subst hm
      have hb := bounds_run (P := P) (w := w) false (Nat.le_refl b.size) hlo hhi c3 c4 c5 c6
      refine ⟨.string (b.extract (bnd 0 lo) (bnd b.size hi)), ?_, ⟨rfl, rfl⟩, by simp [AV.refs]⟩
      rw [sliceAt_eq hu (by intro n e he; cases he)]
      simp [Instr.slice, run_underlying hu, hb]
    · cases hr
  · obtain ⟨rfl, _⟩ := hx.rep
    split at hr
    · rename_i hc
      obtain ⟨c0, c2, c3, c4, c5, c6⟩ := hc
      cases hr
      have hm : mx' = none := by
        cases mx with
        | none => cases mx' with
          | none => rfl
          | some => exact hmx.elim
        | some => simp at c2
      subst hm
      cases hz : (elemP P t).bind (szP P) with
      | none => exact absurd hz c0
      | some z =>
        obtain ⟨e, hu, hsz⟩ := bind_szP hz
        have hb := bounds_run (P := P) (w := w) true (Nat.le_refl 0) hlo hhi c3 c4 (by omega) (by omega)
        refine ⟨.slice none 0 0, ?_, ⟨rfl, rfl⟩, by simp [AV.refs]⟩
        rw [sliceAt_eq hu (by intro n e he; cases he)]
        simp [Instr.slice, run_underlying hu, hb, szP_spec hsz, c5, c6]
    · cases hr
  · rename_i f z n l
    split at hr
    · rename_i hc
      obtain ⟨c0, c1, c2, c3, c4, c5, c6⟩ := hc
      cases hr
      obtain ⟨e, hu, hsz⟩ := bind_szP c0
      obtain ⟨ad, cap, rfl, h1, h2, h3, h4, h5, h6⟩ := hx.rep
      have main : ∀ m, bnd n hi ≤ m → m ≤ cap → (mx.isSome = true → m = bnd n hi) → (Instr.sliceBounds true n cap lo' hi' mx').run P w = .ok (bnd 0 lo, bnd n hi, m) w →
          ∃ y, (Instr.sliceAt t (.slice ad n cap) lo' hi' mx').run P w = .ok y w ∧ Ok M β s (.slc mx.isSome z (bnd n hi - bnd 0 lo) ((l.drop (bnd 0 lo * z)).take ((bnd n hi - bnd 0 lo) * z))) y := by
        intro m hm1 hm2 hm3 hb
        refine ⟨.slice (if m = bnd 0 lo then ad else ad.map (·.add (bnd 0 lo * z))) (bnd n hi - bnd 0 lo) (m - bnd 0 lo), ?_, ⟨_, _, rfl, ?_, by omega, by omega, fun hf => by rw [hm3 hf], ?_, fun hn => ?_⟩, by simp [AV.refs]⟩
        · rw [sliceAt_eq hu (by intro n e he; cases he)]
          simp [Instr.slice, run_underlying hu, hb, szP_spec hsz]
        · have : (bnd n hi - bnd 0 lo) * z ≤ (n - bnd 0 lo) * z := Nat.mul_le_mul_right z (by omega)
          have e1 : n * z - bnd 0 lo * z = (n - bnd 0 lo) * z := by rw [Nat.sub_mul]
          simp; omega
        · exact refsL_nil_sub (fun a ha => List.mem_of_mem_drop (List.mem_of_mem_take ha)) h5
        · obtain ⟨b, o, cs, rfl, h7, h8⟩ := h6 (by omega)
          refine ⟨b, o + bnd 0 lo * z, cs, ?_, h7, (h8.drop _).take _⟩
          rw [if_neg (by omega)]
          simp [Addr.add_lit]
      cases hmxx : mx with
      | none =>
        subst hmxx
        have hm : mx' = none := by
          cases mx' with
          | none => rfl
          | some => exact hmx.elim
        subst hm
        exact main cap (by omega) (Nat.le_refl _) (by simp) (bounds_run true h2 hlo hhi c1 c2 c4 c5)
      | some mv =>
        have c6' := c6 (by rw [hmxx]; rfl)
        rw [← hmxx]
        exact main (bnd n hi) (Nat.le_refl _) (by omega) (fun _ => rfl) (bounds_run_max h2 hlo hhi hmx c1 c2 c3 c4 c5 (by rw [hmxx]; rfl) c6'.1 c6'.2)
    · cases hr
  · rename_i id z off n
    split at hr
    · rename_i hc
      obtain ⟨c0, c1, c2, c3, c4, c5⟩ := hc
      cases hr
      have hm : mx' = none := by
        cases mx with
        | none => cases mx' with
          | none => rfl
          | some => exact hmx.elim
        | some => simp at c3
      subst hm
      obtain ⟨e, hu, hsz⟩ := bind_szP c0
      obtain ⟨ad, cap, rfl, h1, h2, h3⟩ := hx.rep
      have hb := bounds_run (P := P) (w := w) true h1 hlo hhi c1 c2 c4 c5
      refine ⟨.slice (if cap = bnd 0 lo then ad else ad.map (·.add (bnd 0 lo * z))) (bnd n hi - bnd 0 lo) (cap - bnd 0 lo), ?_, ⟨_, _, rfl, by omega, by omega, fun hn => ?_⟩, fun j hj => hx.ref j (by simpa [AV.refs] using hj)⟩
      · rw [sliceAt_eq hu (by intro n e he; cases he)]
        simp [Instr.slice, run_underlying hu, hb, szP_spec hsz]
      · obtain ⟨b, sz, k1, rfl, k3⟩ := h3 (by omega)
        refine ⟨b, sz, k1, ?_, ?_⟩
        · rw [if_neg (by omega)]
          simp [Addr.add_lit]
        · rw [← k3, Nat.sub_mul]
          have : bnd 0 lo * z ≤ cap * z := Nat.mul_le_mul_right z (by omega)
          omega
    · cases hr
  · cases hr
end
end Go.Fw

/- Operations that make or write memory. -/
import Derived.Test.YtjgbikhnnkigpaaFwI
import Derived.Maps.AppendAt
set_option linter.unusedSimpArgs false
set_option linter.unusedVariables false
namespace Go.Fw
open Go Go.RowKit

/-- What an operation on memory does: its value; the box that is gone, the box that is new (or written anew). -/
structure Eff where
  v : AV
  kill : Option Nat
  d : Nat
  e : TypeId
  l : List AV
  fresh : Bool

def AS.eff (s : AS) (f : Eff) : AS :=
  ⟨s.env, upd (killBox f.kill s.box) f.d (some (.mut f.e f.l)), if f.fresh = true then (fun i => i = f.d ∨ s.used i) else s.used⟩

def bytesP (P : Program) (t : TypeId) : Option Nat := (P.info? t).map (·.bytes)

def inOrder : Nat → List (Nat × AV) → Bool
  | _, [] => true
  | k, p :: r => p.1 == k && inOrder (k + 1) r

/-- The cells of parts of one size, one behind the other. -/
def catA (z : Nat) : List (Nat × AV) → Option (List AV)
  | [] => some []
  | p :: r => match p.2.cells?, catA z r with
    | some cs, some l => if cs.length = z then some (cs ++ l) else none
    | _, _ => none

def byteV (c : UInt8) : AV := .v (.int .u8 c.toNat)

/-- Where an append goes: how many elements there are, their cells, the box that is gone. -/
def appDest (s : AS) (e : TypeId) (z : Nat) : AV → Option (Nat × List AV × Option Nat)
  | .bs id z' off n => match s.box id with
    | some (.mut e' l) => if z' = z ∧ off = 0 ∧ e' = e ∧ n * z = l.length then some (n, l, some id) else none
    | _ => none
  | .v (.slice none 0 0) => some (0, [], none)
  | .slc true z' n _ => if z' = z ∧ n = 0 then some (0, [], none) else none
  | _ => none

def evAppend (P : Program) (s : AS) (d : Nat) (args : List AV) (ts : List TypeId) : Option Eff :=
  match args, ts with
  | [x, y], [t, u] =>
    match elemP P t with
    | some e => match szP P e, bytesP P e, zeroP P e with
      | some z, some b, some zs => match appDest s e z x, s.elems z y with
        | some (n, l, k), some (m, l') =>
          if t = u ∧ 0 < z ∧ zs.length = z ∧ (n + m) * b ≤ 140737488355328 ∧ n + m ≤ 9223372036854775807 then
            some ⟨.bs (if k = some d then d + 1000 else d) z 0 (n + m), k, if k = some d then d + 1000 else d, e, l ++ l', true⟩ else none
        | _, _ => none
      | _, _, _ => none
    | none => none
  | _, _ => none

def evMem (P : Program) (s : AS) (dst : Option Nat) : Op → Option Eff
  | .alloc t => match dst, zeroP P t with
    | some d, some zs => some ⟨.bp d 0, none, d, t, zs.map .v, true⟩
    | _, _ => none
  | .box t x => match dst, (s.val x).cells? with
    | some d, some cs => some ⟨.bp d 0, none, d, t, cs, true⟩
    | _, _ => none
  | .buildSlice t n parts => match dst, elemP P t with
    | some d, some e => match szP P e, zeroP P e, catA ((szP P e).getD 0) (parts.toList.map fun p => (p.1, s.val p.2)) with
      | some z, some zs, some l => if zs.length = z ∧ parts.size = n ∧ inOrder 0 (parts.toList.map fun p => (p.1, s.val p.2)) = true ∧ n * z ≤ 16777216 ∧ 0 < z then
          some ⟨.bs d z 0 n, none, d, e, l, true⟩ else none
      | _, _, _ => none
    | _, _ => none
  | .makeSlice t n c => match dst, elemP P t, s.val n, s.val c with
    | some d, some e, .v (.int _ n), .v (.int _ c) => match szP P e, bytesP P e, zeroP P e with
      | some 1, some b, some [x] => if 0 ≤ n ∧ n ≤ c ∧ (b : Int) * c ≤ 281474976710656 ∧ c ≤ 9223372036854775807 then
          some ⟨.bs d 1 0 n.toNat, none, d, e, List.replicate n.toNat (.v x), true⟩ else none
      | _, _, _ => none
    | _, _, _, _ => none
  | .store t p x => match dst, s.val p, (s.val x).cells? with
    | none, .bp id off, some cs => match s.box id with
      | some (.mut e l) => if szP P t = some cs.length ∧ off + cs.length ≤ l.length then some ⟨.tup [], some id, id, e, setAt l off cs, false⟩ else none
      | _ => none
    | _, _, _ => none
  | .convert src ty x => match dst, s.val x, elemP P ty with
    | some d, .v (.string b), some e => if strP P src = true ∧ intP P e = some .u8 ∧ b.size ≤ 9223372036854775807 then
        some ⟨.bs d 1 0 b.size, none, d, e, b.data.toList.map byteV, true⟩ else none
    | _, _, _ => none
  | .call c => match dst, c.callee with
    | some d, .builtin .append => evAppend P s d (c.args.toList.map s.val) c.argTypes.toList
    | _, _ => none
  | _ => none

/-- Cells stored into a row of which none is frozen. -/
theorem run_storeCells_free (P : Program) (g o : Nat) (t : TypeId) (fz : Nat × Nat) : ∀ (vs : List Value) (i : Nat) (cur : Array Value) (w : World), w.heap[g]? = some (.cells cur t fz) → Free cur.size fz →
    o + i + vs.length ≤ cur.size → (∀ v ∈ vs, v.oneCell' = true) →
    (storeCells ⟨g, o, none⟩ vs i).run P w = .ok () (w.setRow g (cur.toList.take (o + i) ++ vs ++ cur.toList.drop (o + i + vs.length)).toArray)
  | [], i, cur, w, hg, _, _, _ => by
    simp only [storeCells, List.append_nil, List.length_nil, Nat.add_zero, List.take_append_drop, Array.toArray_toList]
    rw [setRow_self w g cur t fz hg]
    rfl
  | v :: rest, i, cur, w, hg, hf, hl, h1 => by
    have hi : o + i < cur.size := by simp at hl; omega
    have hadd : (⟨g, o, none⟩ : Addr).add i = ⟨g, o + i, none⟩ := Addr.add_lit g o i
    have hcell : w.cell? ⟨g, o + i, none⟩ = some cur[o + i] := by simp [World.cell?, hg, hi]
    have hfro : w.frozen? ⟨g, o + i, none⟩ = false := by
      have := hf (o + i) hi
      simp only [World.frozen?, hg]
      exact this
    have hst : (store ((⟨g, o, none⟩ : Addr).add i) v).run P w = .ok () (w.setRow g (cur.setIfInBounds (o + i) v)) := by
      rw [hadd, run_store P w _ v _ (h1 v (by simp)), hcell]
      simp [hfro, setCell_eq_setRow w g (o + i) cur t fz v hg]
    have ih := run_storeCells_free P g o t fz rest (i + 1) (cur.setIfInBounds (o + i) v) (w.setRow g (cur.setIfInBounds (o + i) v)) (setRow_heap w g cur _ t _ hg) (by simpa using hf) (by simp at hl ⊢; omega) (fun x hx => h1 x (by simp [hx]))
    simp only [storeCells, Sem.run_bind, hst, Result.andThen_ok, ih, setRow_setRow]
    congr 3
    have e := list_seg_step cur.toList (o + i) v rest (by simp at hl ⊢; omega)
    simpa [Array.toList_setIfInBounds, Nat.add_assoc] using e

section
variable {P : Program} {C : Ctx} {M : Mem} {β : Loc} {s : AS} {w : World} {nt : Nat} {a : Act}

/-- What a memory operation leaves. -/
def After (C : Ctx) (M : Mem) (β : Loc) (s : AS) (f : Eff) (r : Result Next) : Prop :=
  ∃ y w' β', (r = .ok (.value y) w' ∨ (r = .ok .skip w' ∧ y = undef)) ∧ Rel C M β' (s.eff f) w' ∧ (∀ id, s.used id → β' id = β id) ∧ Rep M β' f.v y ∧ ∀ id ∈ f.v.refs, (s.eff f).used id

theorem after_new (h : Rel C M β s w) {d : Nat} (hd : ¬ s.used d) {e : TypeId} {cs : Array Value} {l : List AV} (hl : RepAt M β l cs 0) (hlen : l.length ≤ cs.size)
    (hr : ∀ j ∈ refsL l, s.used j) {v : AV} (hv : v.refs = [d]) {r : Result Next} {y : Value} (hrun : r = .ok (.value y) (w.alloc (.cells cs e)))
    (hy : Rep M (upd β d (some (w.heap.size, cs.size))) v y) : After C M β s ⟨v, none, d, e, l, true⟩ r := by
  obtain ⟨h1, h2⟩ := h.alloc hd (e := e) hl hlen hr
  exact ⟨y, _, _, .inl hrun, h1.env rfl rfl, h2, hy, fun id hid => by rw [hv] at hid; simp at hid; subst hid; exact .inl rfl⟩

theorem alloc_ok (h : Rel C M β s w) {t d : Nat} (hd : ¬ s.used d) {zs : List Value} (hz : zeroP P t = some zs) (o : Oper) (ho : o.op = .alloc t) :
    After C M β s ⟨.bp d 0, none, d, t, zs.map .v, true⟩ ((execOp a.eval o).run P w) := by
  obtain ⟨z, h1, h2, h3⟩ := zeroP_spec (P := P) (w := w) hz
  subst h2
  have hrep : RepAt M β (z.cells.toList.map .v) z.cells 0 := by simpa using repAt_v (M := M) (β := β) z.cells.toList h3
  refine after_new (cs := z.cells) h hd hrep (by simp) (fun j hj => by rw [refsL_map_v] at hj; cases hj) rfl (y := .pointer (some ⟨w.heap.size, 0, none⟩)) ?_ ⟨w.heap.size, z.cells.size, by simp [upd], rfl⟩
  simp [execOp, ho, Instr.alloc, h1, newVar, newRow]

theorem box_ok (h : Rel C M β s w) (hs : Slots nt M β s a) {t d : Nat} (hd : ¬ s.used d) {x : Operand} {cs : List AV} (hc : (s.val x).cells? = some cs) (o : Oper) (ho : o.op = .box t x) :
    After C M β s ⟨.bp d 0, none, d, t, cs, true⟩ ((execOp a.eval o).run P w) := by
  have hx := val_ok h hs x
  obtain ⟨h1, h2, h3, _⟩ := cells_ok hx.rep hc
  refine after_new h hd h1 (by omega) (fun j hj => hx.ref j (by rw [← h3]; exact hj)) rfl (y := .pointer (some ⟨w.heap.size, 0, none⟩)) ?_ ⟨w.heap.size, (a.eval x).cells.size, by simp [upd], rfl⟩
  simp [execOp, ho, Instr.box, newVar, newRow]

theorem store_ok (h : Rel C M β s w) (hs : Slots nt M β s a) {t : TypeId} {p x : Operand} {id off : Nat} (hp : s.val p = .bp id off) {cs : List AV} (hc : (s.val x).cells? = some cs)
    {e : TypeId} {l : List AV} (hb : s.box id = some (.mut e l)) (hsz : szP P t = some cs.length) (hle : off + cs.length ≤ l.length) (o : Oper) (ho : o.op = .store t p x) :
    After C M β s ⟨.tup [], some id, id, e, setAt l off cs, false⟩ ((execOp a.eval o).run P w) := by
  have hx := val_ok h hs x
  have hpp := val_ok h hs p
  rw [hp] at hpp
  obtain ⟨b, sz, k1, hpv⟩ := hpp.rep
  obtain ⟨c1, c2, c3, c4⟩ := cells_ok hx.rep hc
  rcases h.mutb id e l hb with ⟨hn, _⟩ | ⟨b', cur, k2, ⟨fz, k3, kf⟩, k4, k5, k6, k7⟩
  · rw [hn] at k1; cases k1
  · rw [k2] at k1; cases k1
    have hst := run_storeCells_free P b off e fz (a.eval x).cells.toList 0 cur w k3 kf (by simp; omega) c4
    simp only [Nat.add_zero] at hst
    let new := (cur.toList.take off ++ (a.eval x).cells.toList ++ cur.toList.drop (off + (a.eval x).cells.toList.length)).toArray
    have hns : new.size = cur.size := by simp [new]; omega
    have hrep : RepAt M β (setAt l off cs) new 0 := by
      rw [RepAt.iff]
      intro i v hv
      rw [setAt_get l cs off hle] at hv
      simp only [Nat.zero_add, new, List.getElem?_toArray]
      by_cases h1 : off ≤ i ∧ i < off + cs.length
      · rw [if_pos h1] at hv
        have := (RepAt.iff cs _ 0).1 c1 (i - off) v hv
        rw [List.append_assoc, List.getElem?_append_right (by simp; omega), List.getElem?_append_left (by simp; omega)]
        simp only [Nat.zero_add, List.length_take, Array.length_toList, Array.getElem?_toList] at this ⊢
        rwa [show min off cur.size = off from by omega]
      · rw [if_neg h1] at hv
        have := (RepAt.iff l _ 0).1 k4 i v hv
        simp only [Nat.zero_add] at this
        by_cases h2 : i < off
        · rw [List.append_assoc, List.getElem?_append_left (by simp; omega), List.getElem?_take, if_pos h2]
          simpa using this
        · rw [List.getElem?_append_right (by simp; omega), List.getElem?_drop]
          simp only [List.length_append, List.length_take, Array.length_toList, Array.getElem?_toList]
          rw [show off + (a.eval x).cells.size + (i - (min off cur.size + (a.eval x).cells.size)) = i from by omega]
          exact this
    have hRel := h.renew (w' := w.setRow b new) (some id) id e (setAt l off cs) (β id) (some b) (.inr ⟨rfl, rfl⟩) rfl rfl rfl (by simp [World.setRow]) (fun k _ hk => setRow_other w b k _ (fun he => hk (by rw [he])))
      (fun b' hb' => by cases hb'; exact ⟨id, e, l, cur.size, rfl, hb, k2⟩)
      (.inr ⟨b, new, by rw [hns]; exact k2, ⟨fz, setRow_heap w b cur new e fz k3, by rw [hns]; exact kf⟩, hrep, by rw [setAt_length l cs off hle]; omega, .inr rfl⟩)
      (fun j hj => by
        rcases setAt_refs hj with hj | hj
        · exact h.refB id e l hb j hj
        · exact hx.ref j (by rw [← c3]; exact hj))
    refine ⟨undef, w.setRow b new, upd β id (β id), .inr ⟨?_, rfl⟩, ?_, hRel.2, ⟨#[], rfl, rfl, trivial⟩, by simp [AV.refs, refsL]⟩
    · have hcs : (a.eval x).cells.size = cs.length := c2
      simp [execOp, ho, Instr.storeAt, hpv, Instr.sureAddr, storeVar, szP_spec hsz, hcs, hst, new]
    · refine hRel.1.less (fun i x hx => hx) (fun i x hx => ?_) (fun i e' l' hi j hj => ?_) (fun i hi => (h.pin i hi).1) _
      · rcases hRel.1.useB i (by rw [hx]; simp) with h1 | h1
        · subst h1; exact h.useB i (by rw [hb]; simp)
        · exact h1
      · rcases hRel.1.refB i e' l' hi j hj with h1 | h1
        · subst h1; exact h.useB j (by rw [hb]; simp)
        · exact h1
theorem catA_len {z : Nat} : ∀ (ps : List (Nat × AV)) (l : List AV), catA z ps = some l → l.length = ps.length * z
  | [], l, h => by simp [catA] at h; subst h; simp
  | p :: r, l, h => by
    simp only [catA] at h
    split at h
    · rename_i cs l' hc hl
      split at h
      · rename_i hz
        cases h
        simp [catA_len r l' hl, hz, Nat.add_mul]; omega
      · cases h
    · cases h

theorem fillA_cat {z : Nat} : ∀ (ps : List (Nat × AV)) (done zr l : List AV) (k : Nat), done.length = k * z → zr.length = ps.length * z → inOrder k ps = true → catA z ps = some l →
    fillA (fun i => some (i * z, z)) (done ++ zr) ps = some (done ++ l)
  | [], done, zr, l, k, _, h2, _, h4 => by
    simp [catA] at h4
    subst h4
    have : zr = [] := List.eq_nil_of_length_eq_zero (by simpa using h2)
    subst this
    rfl
  | p :: r, done, zr, l, k, h1, h2, h3, h4 => by
    simp only [inOrder, Bool.and_eq_true, beq_iff_eq] at h3
    simp only [catA] at h4
    split at h4
    · rename_i cs l' hc hl
      split at h4
      · rename_i hz
        cases h4
        obtain ⟨i, v⟩ := p
        simp only at h3 hc
        obtain ⟨rfl, h3⟩ := h3
        simp only [List.length_cons, Nat.add_mul] at h2
        have hset : setAt (done ++ zr) (i * z) cs = (done ++ cs) ++ zr.drop z := by
          unfold setAt
          rw [← h1, List.take_left, hz, List.drop_append]
          simp
        simp only [fillA, hc]
        rw [if_pos ⟨hz, by simp; omega⟩, hset]
        rw [fillA_cat r (done ++ cs) (zr.drop z) l' (i + 1) (by simp [h1, hz, Nat.add_mul]) (by simp; omega) h3 hl]
        simp
      · cases h4
    · cases h4

theorem catA_refs {z : Nat} : ∀ (ps : List (Nat × AV)) (l : List AV), catA z ps = some l → (∀ p ∈ ps, ∀ j ∈ p.2.refs, s.used j) → (∀ p ∈ ps, ∀ cs, p.2.cells? = some cs → refsL cs = p.2.refs) → ∀ j ∈ refsL l, s.used j
  | [], l, h, _, _ => by simp [catA] at h; subst h; simp [refsL]
  | p :: r, l, h, h1, h2 => by
    simp only [catA] at h
    split at h
    · rename_i cs l' hc hl
      split at h
      · cases h
        intro j hj
        obtain ⟨v, hv, hj⟩ := mem_refsL.1 hj
        rcases List.mem_append.1 hv with hv | hv
        · exact h1 p (by simp) j (by rw [← h2 p (by simp) cs hc]; exact mem_refsL.2 ⟨v, hv, hj⟩)
        · exact catA_refs r l' hl (fun q hq => h1 q (by simp [hq])) (fun q hq => h2 q (by simp [hq])) j (mem_refsL.2 ⟨v, hv, hj⟩)
      · cases h
    · cases h

theorem zero_row (zc : Array Value) (n : Nat) (hz : zc.toList.all (·.oneCell') = true) (hn : n = 0 ∨ 0 < zc.size) :
    RepAt M β (((Array.range n).map (zc[· % zc.size]!)).toList.map .v) ((Array.range n).map (zc[· % zc.size]!)) 0 := by
  have := repAt_v (M := M) (β := β) ((Array.range n).map (zc[· % zc.size]!)).toList (by
    rw [List.all_eq_true]
    intro x hx
    simp only [Array.toList_map, List.mem_map] at hx
    obtain ⟨i, hi, rfl⟩ := hx
    rcases hn with rfl | hn
    · simp at hi
    · have hlt : i % zc.size < zc.size := Nat.mod_lt _ hn
      rw [getElem!_pos zc _ hlt]
      exact List.all_eq_true.1 hz _ (by simp))
  rwa [Array.toArray_toList] at this

theorem buildSlice_ok (h : Rel C M β s w) (hs : Slots nt M β s a) {t d n e z : Nat} (hd : ¬ s.used d) {parts : Array (Nat × Operand)} {zs : List Value} {l : List AV}
    (he : elemP P t = some e) (hsz : szP P e = some z) (hz : zeroP P e = some zs) (hc : catA z (parts.toList.map fun p => (p.1, s.val p.2)) = some l)
    (hzl : zs.length = z) (hn : parts.size = n) (ho : inOrder 0 (parts.toList.map fun p => (p.1, s.val p.2)) = true) (h24 : n * z ≤ 16777216) (hz0 : 0 < z) (o : Oper) (hop : o.op = .buildSlice t n parts) :
    After C M β s ⟨.bs d z 0 n, none, d, e, l, true⟩ ((execOp a.eval o).run P w) := by
  obtain ⟨zv, h1, h2, h3⟩ := zeroP_spec (P := P) (w := w) hz
  subst h2
  have hzz : zv.cells.size = z := by simpa using hzl
  have hlen : l.length = n * z := by rw [catA_len _ _ hc]; simp [hn]
  have href : ∀ j ∈ refsL l, s.used j := catA_refs _ _ hc
    (fun p hp j hj => by obtain ⟨q, _, rfl⟩ := List.mem_map.1 hp; exact (val_ok h hs q.2).ref j hj)
    (fun p hp cs hcs => by obtain ⟨q, _, rfl⟩ := List.mem_map.1 hp; exact (cells_ok (val_ok h hs q.2).rep hcs).2.2.1)
  have hn24 : n ≤ 16777216 := Nat.le_trans (Nat.le_mul_of_pos_right n hz0) h24
  let zc : Array Value := if n * z = 0 then #[] else zv.cells
  have hzc1 : zc.toList.all (·.oneCell') = true := by
    simp only [zc]
    split
    · rfl
    · exact h3
  have hzc2 : n * z = 0 ∨ 0 < zc.size := by
    by_cases h0 : n * z = 0
    · exact .inl h0
    · right
      simp only [zc, h0, if_false, hzz]
      exact hz0
  have hrow := zero_row (M := M) (β := β) zc (n * z) hzc1 hzc2
  let row := (Array.range (n * z)).map (zc[· % zc.size]!)
  have hrs : row.size = n * z := by simp [row]
  have hfa : fillA (fun i => some (i * z, z)) (row.toList.map .v) (parts.toList.map fun p => (p.1, s.val p.2)) = some l := by
    have := fillA_cat (parts.toList.map fun p => (p.1, s.val p.2)) [] (row.toList.map .v) l 0 (by simp) (by simp [hrs, hn]) ho hc
    simpa using this
  obtain ⟨us, u1, u2, u3, u4⟩ := fill_ok (s := s) (M := M) (β := β) (fun i => some (i * z, z)) (parts.toList.map fun p => (p.1, s.val p.2)) (parts.toList.map fun p => (p.1, a.eval p.2)) (row.toList.map .v) l row (by simp)
    (fun i p q hp hq => by
        rw [List.getElem?_map] at hp hq
        cases ho : parts.toList[i]? with
        | none => rw [ho] at hp; cases hp
        | some o => rw [ho] at hp hq; cases hp; cases hq; exact ⟨rfl, val_ok h hs o.2⟩) hrow (by simp) (fun j hj => by rw [refsL_map_v] at hj; cases hj) hfa
  refine after_new h hd u2 (by omega) href rfl (y := .slice (some ⟨w.heap.size, 0, none⟩) n n) ?_ ⟨_, n, rfl, Nat.le_refl _, by simp only [maxLen]; omega, fun _ => ⟨w.heap.size, us.size, by simp [upd], rfl, by omega⟩⟩
  have e1 : (parts.map fun x => match x with | (i, x) => (i, a.eval x)) = (parts.toList.map fun p => (p.1, a.eval p.2)).toArray := by
    apply Array.ext'
    simp
  have hrun : (Instr.buildSlice t n (parts.map fun x => match x with | (i, x) => (i, a.eval x))).run P w = .ok (.slice (some ⟨w.heap.size, 0, none⟩) n n) (w.alloc (.cells us e)) := by
    rw [e1]
    simp only [Instr.buildSlice, Sem.run_bind, run_underlying (elemP_spec he), Result.andThen_ok, szP_spec hsz]
    rw [if_neg (by omega)]
    have hfill : Instr.fill (fun i => some (i * z, z)) ((Array.range (n * z)).map (zc[· % zc.size]!)) (parts.toList.map fun p => (p.1, a.eval p.2)) = some us := u1
    by_cases h0 : n * z = 0
    · simp only [zc, h0, if_true] at hfill
      simp only [h0, if_true, Sem.run_bind, Sem.run_pure, Result.andThen_ok]
      rw [hfill]
      rfl
    · simp only [zc, h0, if_false] at hfill
      simp only [h0, if_false, Sem.run_bind, Sem.run_pure, h1, Result.andThen_ok]
      rw [hfill]
      rfl
  simp only [execOp, hop, Sem.run_bind, hrun, Result.andThen_ok, Sem.run_pure]
end
end Go.Fw

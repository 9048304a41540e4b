/- FwY, FwZ, FwZ2, put together. -/
import Derived.Test.YtmmkclefdpmjlaaFw2
import Derived.WalkKit
import Derived.ProofKit
import Derived.OpenShut
import Derived.ShutString
import Derived.ChangeOld
set_option linter.unusedSimpArgs false
set_option linter.unusedVariables false
namespace Go.Fw
open Go Go.RowKit
def allMem (w : World) : Mem := fun b => match w.heap[b]? with
  | some (.cells cs _ _) => some cs
  | _ => none
theorem allMem_ok (w : World) : MemOk (allMem w) w := by
  intro b cs h
  unfold allMem at h
  split at h
  · rename_i cs' ty fz he
    cases h
    exact ⟨ty, fz, he⟩
  · cases h
def IsRow (k : IntKind) (w : World) (a : Option Addr) (len cap : Nat) (zs : List Int) : Prop :=
  (a = none ∧ len = 0 ∧ cap = 0 ∧ zs = []) ∨
  ∃ x, a = some x ∧ len ≤ cap ∧ cap ≤ maxLen ∧ zs.length = cap ∧ (∀ i, i < zs.length → w.cell? (x.add i) = some (.int k (zs.getD i 0))) ∧ ∀ n ∈ zs, (Lit.int k n).wf = true
theorem refsL_ints (k : IntKind) (l : List Int) : refsL (l.map fun n => AV.v (.int k n)) = [] := by
  induction l with
  | nil => rfl
  | cons a l ih => simpa [refsL, AV.refs] using ih
theorem cell_block {w : World} {x : Addr} {i : Nat} {v : Value} (h : w.cell? (x.add i) = some v) : ∃ cs, allMem w x.block = some cs ∧ cs[x.off + i]? = some v := by
  have e1 : (x.add i).block = x.block := by unfold Addr.add; split <;> rfl
  have e2 : (x.add i).off = x.off + i := by
    unfold Addr.add
    split
    · rename_i hi; simp [hi]
    · rfl
  unfold World.cell? at h
  rw [e1, e2] at h
  unfold allMem
  cases hb : w.heap[x.block]? with
  | none => rw [hb] at h; cases h
  | some o =>
    rw [hb] at h
    cases o with
    | cells cs ty fz =>
      simp only at h
      split at h
      · cases h
      · exact ⟨cs, rfl, h⟩
    | _ => cases h
theorem cell_spot0 {w : World} {x : Addr} {v : Value} (h : w.cell? (x.add 0) = some v) : x.spot = none := by
  have := World.cell?_spot h
  simpa [Addr.add] using this
theorem IsRow.rep {k : IntKind} {w : World} {a : Option Addr} {len cap : Nat} {zs : List Int} (h : IsRow k w a len cap zs) :
    (zs.take len).length = len ∧ Rep (allMem w) noLoc (.slc false 1 len ((zs.take len).map fun n => .v (.int k n))) (.slice a len cap) := by
  rcases h with ⟨rfl, rfl, rfl, rfl⟩ | ⟨x, rfl, h1, h2, h3, h4, h5⟩
  · exact ⟨rfl, none, 0, rfl, rfl, Nat.le_refl _, by simp [maxLen], (fun h => by cases h), rfl, fun h => by omega⟩
  · have hl : (zs.take len).length = len := by rw [List.length_take]; omega
    refine ⟨hl, some x, cap, rfl, by rw [List.length_map, hl, Nat.mul_one], h1, h2, (fun h => by cases h), refsL_ints k _, fun hn => ?_⟩
    have hs := cell_spot0 (h4 0 (by omega))
    obtain ⟨cs, hm, _⟩ := cell_block (h4 0 (by omega))
    obtain ⟨b, o, sp⟩ := x
    simp only at hs hm
    subst hs
    refine ⟨b, o, cs, rfl, hm, (RepAt.iff _ _ _).2 fun i v hv => ?_⟩
    rw [List.getElem?_map] at hv
    cases hz : (zs.take len)[i]? with
    | none => rw [hz] at hv; cases hv
    | some n =>
      rw [hz] at hv
      cases hv
      have hi : i < len := by rw [← hl]; exact (List.getElem?_eq_some_iff.1 hz).1
      obtain ⟨cs', hm', hc⟩ := cell_block (h4 i (by omega))
      simp only at hm' hc
      rw [hm] at hm'
      cases hm'
      refine ⟨_, hc, rfl, ?_, rfl⟩
      rw [List.getElem?_take] at hz
      rw [if_pos hi] at hz
      simp [hz]
theorem bytes_of {l : List Int} (h : ∀ n ∈ l, (Lit.int .u8 n).wf = true) : ∃ bs : List UInt8, (l.map fun n => AV.v (.int .u8 n)) = bs.map byteV := by
  induction l with
  | nil => exact ⟨[], rfl⟩
  | cons a l ih =>
    obtain ⟨bs, hb⟩ := ih fun n hn => h n (by simp [hn])
    have ha := h a (by simp)
    have hr : 0 ≤ a ∧ a < 256 := by
      simp [Lit.wf, IntKind.min, IntKind.max, IntKind.signed, IntKind.bits] at ha
      omega
    refine ⟨UInt8.ofNat a.toNat :: bs, ?_⟩
    simp only [List.map_cons, hb]
    congr 1
    simp only [byteV, UInt8.toNat_ofNat']
    congr 2
    omega
theorem IsRow.bytes {w : World} {a : Option Addr} {len cap : Nat} {zs : List Int} (h : IsRow .u8 w a len cap zs) :
    ∃ bs : List UInt8, bs.length = len ∧ Rep (allMem w) noLoc (.slc false 1 len (bs.map byteV)) (.slice a len cap) := by
  obtain ⟨h1, h2⟩ := h.rep
  obtain ⟨bs, hb⟩ := bytes_of (l := zs.take len) (fun n hn => by
    rcases h with ⟨_, _, _, rfl⟩ | ⟨_, _, _, _, _, _, h5⟩
    · simp at hn
    · exact h5 n (List.mem_of_mem_take hn))
  refine ⟨bs, ?_, by rw [← hb]; exact h2⟩
  have := congrArg List.length hb
  simp only [List.length_map] at this
  omega
theorem law_calls {P : Program} {f : FuncId} {args : List AV} (hent : Enters P f) (h : Eval P f args (.ret (.v (.bool true)))) (w : World) (vs : Array Value) (hl : vs.size = args.length) (hr : RepT (allMem w) noLoc args vs 0) :
    Calls P f vs w fun e w' => e = .returned (.bool true) ∧ Below w.heap.size w w' := by
  have key : ∀ e w', (∃ M', MemLe (allMem w) M' ∧ MemOk M' w' ∧ (∀ b, b < w.heap.size → M' b = allMem w b) ∧ Below w.heap.size w w' ∧ EndO M' w' w.heap.size (.ret (.v (.bool true))) e) → e = .returned (.bool true) ∧ Below w.heap.size w w' := by
    rintro e w' ⟨M', _, _, _, hb, he⟩
    cases e with
    | returned x =>
      obtain ⟨bl, h1, _⟩ := he
      exact ⟨by rw [h1.1.1], hb⟩
    | panicked l => exact he.elim
    | outgrown => exact he.elim
  rcases h (allMem w) w vs (allMem_ok w) hl hr with ⟨_, h⟩ | ⟨x, h, _⟩
  · exact Calls.mono h key
  · rw [hent vs w] at h
    cases h
#print axioms law_calls
end Go.Fw
namespace Go.Fw
open Go Go.RowKit
def Sub (a b : AV) : Prop := (∀ M β x, Rep M β a x → Rep M β b x) ∧ ∀ i ∈ b.refs, i ∈ a.refs
def SubL : List AV → List AV → Prop
  | [], [] => True
  | a :: l, b :: l' => Sub a b ∧ SubL l l'
  | _, _ => False
theorem Sub.refl (a : AV) : Sub a a := ⟨fun _ _ _ h => h, fun _ h => h⟩
theorem Sub.trans {a b c : AV} (h : Sub a b) (k : Sub b c) : Sub a c := ⟨fun M β x hx => k.1 M β x (h.1 M β x hx), fun i hi => h.2 i (k.2 i hi)⟩
theorem SubL.refl : ∀ l : List AV, SubL l l
  | [] => trivial
  | a :: l => ⟨Sub.refl a, SubL.refl l⟩
theorem SubL.nil : SubL [] [] := trivial
theorem SubL.cons {a b : AV} {l l' : List AV} (h : Sub a b) (k : SubL l l') : SubL (a :: l) (b :: l') := ⟨h, k⟩
theorem SubL.append : ∀ {l l' m m' : List AV}, SubL l l' → SubL m m' → SubL (l ++ m) (l' ++ m')
  | [], [], _, _, _, h => h
  | a :: l, b :: l', _, _, h, k => ⟨h.1, SubL.append h.2 k⟩
theorem SubL.length : ∀ {l l' : List AV}, SubL l l' → l.length = l'.length
  | [], [], _ => rfl
  | a :: l, b :: l', h => by simp [SubL.length h.2]
theorem SubL.refs : ∀ {l l' : List AV}, SubL l l' → ∀ i ∈ refsL l', i ∈ refsL l
  | [], [], _, i, hi => hi
  | a :: l, b :: l', h, i, hi => by
    simp only [refsL, List.mem_append] at hi ⊢
    exact hi.elim (fun h1 => .inl (h.1.2 i h1)) (fun h1 => .inr (SubL.refs h.2 i h1))
theorem SubL.repAt {M : Mem} {β : Loc} : ∀ {l l' : List AV} {vs : Array Value} {o : Nat}, SubL l l' → RepAt M β l vs o → RepAt M β l' vs o
  | [], [], _, _, _, h => h
  | a :: l, b :: l', vs, o, h, ⟨⟨y, h1, h2, h3⟩, h4⟩ => ⟨⟨y, h1, h2, h.1.1 M β y h3⟩, SubL.repAt h.2 h4⟩
theorem SubL.repT {M : Mem} {β : Loc} : ∀ {l l' : List AV} {vs : Array Value} {o : Nat}, SubL l l' → RepT M β l vs o → RepT M β l' vs o
  | [], [], _, _, _, h => h
  | a :: l, b :: l', vs, o, h, ⟨⟨y, h1, h3⟩, h4⟩ => ⟨⟨y, h1, h.1.1 M β y h3⟩, SubL.repT h.2 h4⟩
theorem Sub.agg {l l' : List AV} (h : SubL l l') : Sub (.agg l) (.agg l') := by
  refine ⟨fun M β x hx => ?_, fun i hi => by simp only [AV.refs] at hi ⊢; exact h.refs i hi⟩
  obtain ⟨vs, h1, h2, h3⟩ := hx
  exact ⟨vs, h1, h2.trans h.length, h.repAt h3⟩
theorem Sub.tup {l l' : List AV} (h : SubL l l') : Sub (.tup l) (.tup l') := by
  refine ⟨fun M β x hx => ?_, fun i hi => by simp only [AV.refs] at hi ⊢; exact h.refs i hi⟩
  obtain ⟨vs, h1, h2, h3⟩ := hx
  exact ⟨vs, h1, h2.trans h.length, h.repT h3⟩
theorem Sub.nil (f : Bool) (z : Nat) : Sub (.v (.slice none 0 0)) (.slc f z 0 []) :=
  ⟨fun M β x ⟨hx, _⟩ => by subst hx; exact ⟨none, 0, rfl, by simp, Nat.le_refl _, by simp [maxLen], fun _ => rfl, rfl, fun h => absurd h (by omega)⟩, by simp [AV.refs]⟩
theorem Sub.full (z n : Nat) (l : List AV) : Sub (.slc true z n l) (.slc false z n l) :=
  ⟨fun M β x ⟨a, cap, h1, h2, h3, h4, _, h6, h7⟩ => ⟨a, cap, h1, h2, h3, h4, fun h => (by cases h), h6, h7⟩, by simp [AV.refs]⟩
section
variable {P : Program} {f : FuncId} {args args' : List AV}
theorem RepC.sub {M : Mem} {w : World} {r r' : AV} {x : Value} {bl : List Nat} (hs : Sub r r') (ho : r.isOwn = false) (ho' : r'.isOwn = false) (h : RepC M w r x bl) : RepC M w r' x bl := by
  have h' : Rep M noLoc r x ∧ r.refs = [] ∧ bl = [] := by
    cases r with
    | own => simp [AV.isOwn] at ho
    | _ => exact h
  obtain ⟨h1, h2, h3⟩ := h'
  have h4 : r'.refs = [] := List.eq_nil_iff_forall_not_mem.2 fun i hi => by have := hs.2 i hi; rw [h2] at this; cases this
  cases r' with
  | own => simp [AV.isOwn] at ho'
  | _ => exact ⟨hs.1 _ _ _ h1, h4, h3⟩
theorem Eval.out {r r' : AV} (h : Eval P f args (.ret r)) (hs : Sub r r') (ho : r.isOwn = false) (ho' : r'.isOwn = false) (ht : ∀ l, r ≠ .tup l) (ht' : ∀ l, r' ≠ .tup l) : Eval P f args (.ret r') := by
  intro M w vs h1 h2 h3
  refine Ends.mono (h M w vs h1 h2 h3) ?_
  rintro e w' ⟨M', q1, q2, q3, q4, q5⟩
  refine ⟨M', q1, q2, q3, q4, ?_⟩
  cases e with
  | panicked l => exact q5.elim
  | outgrown => exact q5.elim
  | returned x =>
    obtain ⟨bl, b1, b2, b3⟩ := q5
    refine ⟨bl, ?_, b2, b3⟩
    have k : RepC M' w' r x bl := by
      cases r with
      | tup l => exact absurd rfl (ht l)
      | _ => exact b1
    have k' := k.sub hs ho ho'
    cases r' with
    | tup l => exact absurd rfl (ht' l)
    | _ => exact k'
variable {s : AS} {nt : NT} {Q : Exit → AS → Prop}
end
@[congr] theorem vcn_congr {P : Program} {ops r : List Oper} {Q : Exit → AS → Prop} {s s' : AS} (h : s = s') : vcn P ops Q r s = vcn P ops Q r s' := by rw [h]
@[congr] theorem vcnD_congr {P : Program} {ops r : List Oper} {A : List (List Nat)} {Q : AS → Prop} {s s' : AS} {acc acc' : List (List Nat × List Nat)} (h : s = s') (h' : acc = acc') : vcnD P ops A Q r s acc = vcnD P ops A Q r s' acc' := by rw [h, h']
@[congr] theorem W_congr {P : Program} {nt : NT} {c : Code} {Q : Exit → AS → Prop} {s s' : AS} (h : s = s') : W P nt c s Q = W P nt c s' Q := by rw [h]
mutual
theorem ren_id (ρ : Nat → Nat) : ∀ v : AV, v.refs = [] → ren ρ v = v
  | .bp id off, h => by simp [AV.refs] at h
  | .bs id z off n, h => by simp [AV.refs] at h
  | .fn f l, h => by simp only [AV.refs] at h; simp only [ren, renL_id ρ l h]
  | .agg l, h => by simp only [AV.refs] at h; simp only [ren, renL_id ρ l h]
  | .tup l, h => by simp only [AV.refs] at h; simp only [ren, renL_id ρ l h]
  | .v x, _ => rfl
  | .slc _ _ _ _, _ => rfl
  | .ip _, _ => rfl
  | .own _ _ _ _, _ => rfl
  | .junk, _ => rfl
  | .unk, _ => rfl
theorem renL_id (ρ : Nat → Nat) : ∀ l : List AV, refsL l = [] → renL ρ l = l
  | [], _ => rfl
  | a :: l, h => by
    simp only [refsL, List.append_eq_nil_iff] at h
    simp only [renL, ren_id ρ a h.1, renL_id ρ l h.2]
end
end Go.Fw
namespace Go.Fw
open Go Go.RowKit
section
variable {P : Program} {nt : NT} {y : Code} {Q : Exit → AS → Prop} {s : AS}
theorem thenW_n (h : W P nt y s Q) : thenW P nt y Q .normal s := h
theorem thenW_ret (h : Q .ret s) : thenW P nt y Q .ret s := h
theorem thenW_exit {i : Nat} (h : Q (.exit i) s) : thenW P nt y Q (.exit i) s := h
theorem thenW_panic {l : List PanicEntry} (h : Q (.panic l) s) : thenW P nt y Q (.panic l) s := h
theorem blockW_n {id : Nat} (h : Q .normal s) : blockW id Q .normal s := h
theorem blockW_ret {id : Nat} (h : Q .ret s) : blockW id Q .ret s := h
theorem blockW_panic {id : Nat} {l : List PanicEntry} (h : Q (.panic l) s) : blockW id Q (.panic l) s := h
theorem blockW_same {id : Nat} (h : Q .normal s) : blockW id Q (.exit id) s := by simp [blockW, h]
theorem blockW_other {id i : Nat} (hi : (i == id) = false) (h : Q (.exit i) s) : blockW id Q (.exit i) s := by
  have : i ≠ id := by simpa using hi
  simp [blockW, h, this]
def loopW {X : Type} (env : X → List (Nat × AV)) (box : X → List (Nat × Box)) (μ : X → Nat) (I : X → Prop) (x : X) (Q : Exit → AS → Prop) : Exit → AS → Prop
  | .normal, s' => ∃ x', μ x' < μ x ∧ I x' ∧ ∃ ρ, Wk s' (env x') (box x') ρ
  | e, s' => Q e s'
variable {X : Type} {env : X → List (Nat × AV)} {box : X → List (Nat × Box)} {μ : X → Nat} {I : X → Prop} {x : X}
theorem loopW_n (x' : X) (ρ : Nat → Nat) (h1 : μ x' < μ x) (h2 : I x') (h3 : Wk s (env x') (box x') ρ) : loopW env box μ I x Q .normal s := ⟨x', h1, h2, ρ, h3⟩
theorem loopW_ret (h : Q .ret s) : loopW env box μ I x Q .ret s := h
theorem loopW_exit {i : Nat} (h : Q (.exit i) s) : loopW env box μ I x Q (.exit i) s := h
theorem loopW_panic {l : List PanicEntry} (h : Q (.panic l) s) : loopW env box μ I x Q (.panic l) s := h
@[congr] theorem thenW_congr {e : Exit} {s' : AS} (h : s = s') : thenW P nt y Q e s = thenW P nt y Q e s' := by rw [h]
@[congr] theorem blockW_congr {id : Nat} {e : Exit} {s' : AS} (h : s = s') : blockW id Q e s = blockW id Q e s' := by rw [h]
@[congr] theorem loopW_congr {e : Exit} {s' : AS} (h : s = s') : loopW env box μ I x Q e s = loopW env box μ I x Q e s' := by rw [h]
@[congr] theorem post_congr {fn : Func} {out : Out} {e : Exit} {s' : AS} (h : s = s') : post P fn out e s = post P fn out e s' := by rw [h]
theorem W_loopW {c : Code} (env : X → List (Nat × AV)) (box : X → List (Nat × Box)) (μ : X → Nat) (I : X → Prop) (x0 : X) (ρ0 : Nat → Nat) (h0 : I x0) (hs : Wk s (env x0) (box x0) ρ0)
    (round : ∀ x, I x → W P nt c (mkS (env x) (box x)) (loopW env box μ I x Q)) : W P nt (.loop c) s Q := by
  refine W_loop env box μ I x0 ρ0 h0 hs fun x hx => W_mono (round x hx) fun e s' h => ?_
  cases e <;> exact h
def joinW (P : Program) (nt : NT) (y : Code) {X : Type} (env : X → List (Nat × AV)) (box : X → List (Nat × Box)) (I : X → Prop) (Q : Exit → AS → Prop) : Exit → AS → Prop
  | .normal, s' => ∃ p, I p ∧ ∃ ρ, Wk s' (env p) (box p) ρ
  | e, s' => Q e s'
theorem joinW_n {I : X → Prop} (p : X) (ρ : Nat → Nat) (h1 : I p) (h2 : Wk s (env p) (box p) ρ) : joinW P nt y env box I Q .normal s := ⟨p, h1, ρ, h2⟩
theorem joinW_ret (h : Q .ret s) : joinW P nt y env box I Q .ret s := h
theorem joinW_exit {i : Nat} (h : Q (.exit i) s) : joinW P nt y env box I Q (.exit i) s := h
theorem joinW_panic {l : List PanicEntry} (h : Q (.panic l) s) : joinW P nt y env box I Q (.panic l) s := h
@[congr] theorem joinW_congr {I : X → Prop} {e : Exit} {s' : AS} (h : s = s') : joinW P nt y env box I Q e s = joinW P nt y env box I Q e s' := by rw [h]
theorem W_joinW {c : Code} (env : X → List (Nat × AV)) (box : X → List (Nat × Box)) (I : X → Prop) (hx : W P nt c s (joinW P nt y env box I Q))
    (hy : ∀ p, I p → W P nt y (mkS (env p) (box p)) Q) : W P nt (.seq c y) s Q := by
  refine W_join env box I (W_mono hx fun e s' h => ?_) hy
  cases e <;> exact h
theorem W_joinQ {c : Code} (env : X → List (Nat × AV)) (box : X → List (Nat × Box)) (I : X → Prop) (hx : W P nt c s (joinW P nt y env box I (thenW P nt y Q)))
    (hy : ∀ p, I p → W P nt y (mkS (env p) (box p)) Q) : W P nt c s (thenW P nt y Q) := by
  refine W_mono hx fun e s' h => ?_
  cases e with
  | normal =>
    obtain ⟨p, hp, ρ, hw⟩ := h
    exact W_wk _ _ ρ hw (hy p hp)
  | _ => exact h
theorem W_id {c : Code} (h : W P nt c s Q) : W P nt c s Q := h
def condW (v : AV) (A B : Prop) : Prop := ∃ b : Bool, v = .v (.bool b) ∧ (b = true → A) ∧ (b = false → B)
@[congr] theorem condW_congr {v v' : AV} {A B : Prop} (h : v = v') : condW v A B = condW v' A B := by rw [h]
theorem condW_true (A B : Prop) : condW (.v (.bool true)) A B = A := by simp [condW]
theorem condW_false (A B : Prop) : condW (.v (.bool false)) A B = B := by simp [condW]
theorem condW_b {b : Bool} {A B : Prop} (ht : b = true → A) (hf : b = false → B) : condW (.v (.bool b)) A B := ⟨b, rfl, ht, hf⟩
theorem W_condW {c : Operand} {a b : Code} (h : condW (s.val c) (W P nt a s Q) (W P nt b s Q)) : W P nt (.cond c a b) s Q := by
  obtain ⟨x, h1, h2, h3⟩ := h
  exact W_cond h1 h2 h3
end
theorem mkS_env (env : List (Nat × AV)) (box : List (Nat × Box)) (t : Nat) : (mkS env box).env t = (lk env t).getD .junk := rfl
theorem mkS_box (env : List (Nat × AV)) (box : List (Nat × Box)) (i : Nat) : (mkS env box).box i = lk box i := rfl
theorem mkS_used (env : List (Nat × AV)) (box : List (Nat × Box)) (i : Nat) : (mkS env box).used i = (i ∈ box.map (·.1) ∨ 1000000 ≤ i) := rfl
theorem entry_env (args : List AV) (t : Nat) : (entry args).env t = (args[t]?).getD (.tup []) := rfl
theorem entry_box (args : List AV) (i : Nat) : (entry args).box i = none := rfl
theorem entry_used (args : List AV) (i : Nat) : (entry args).used i = (1000000 ≤ i) := rfl
end Go.Fw

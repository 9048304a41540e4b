/- A value that says less: nil as an empty slice; a call, a return, a slot by what says less. -/
import Derived.Test.YtjgbikhnnkigpaaFwY
set_option linter.unusedSimpArgs false
set_option linter.unusedVariables false
namespace Go.Fw
open Go Go.RowKit

/-- What stands for the first value stands for the second one, too. -/
def Sub (a b : AV) : Prop := (∀ M β x, Rep M β a x → Rep M β b x) ∧ ∀ i ∈ b.refs, i ∈ a.refs
def SubL : List AV → List AV → Prop
  | [], [] => True
  | a :: l, b :: l' => Sub a b ∧ SubL l l'
  | _, _ => False

theorem Sub.refl (a : AV) : Sub a a := ⟨fun _ _ _ h => h, fun _ h => h⟩
theorem Sub.trans {a b c : AV} (h : Sub a b) (k : Sub b c) : Sub a c := ⟨fun M β x hx => k.1 M β x (h.1 M β x hx), fun i hi => h.2 i (k.2 i hi)⟩
theorem SubL.refl : ∀ l : List AV, SubL l l
  | [] => trivial
  | a :: l => ⟨Sub.refl a, SubL.refl l⟩
theorem SubL.nil : SubL [] [] := trivial
theorem SubL.cons {a b : AV} {l l' : List AV} (h : Sub a b) (k : SubL l l') : SubL (a :: l) (b :: l') := ⟨h, k⟩
theorem SubL.append : ∀ {l l' m m' : List AV}, SubL l l' → SubL m m' → SubL (l ++ m) (l' ++ m')
  | [], [], _, _, _, h => h
  | a :: l, b :: l', _, _, h, k => ⟨h.1, SubL.append h.2 k⟩
theorem SubL.length : ∀ {l l' : List AV}, SubL l l' → l.length = l'.length
  | [], [], _ => rfl
  | a :: l, b :: l', h => by simp [SubL.length h.2]
theorem SubL.refs : ∀ {l l' : List AV}, SubL l l' → ∀ i ∈ refsL l', i ∈ refsL l
  | [], [], _, i, hi => hi
  | a :: l, b :: l', h, i, hi => by
    simp only [refsL, List.mem_append] at hi ⊢
    exact hi.elim (fun h1 => .inl (h.1.2 i h1)) (fun h1 => .inr (SubL.refs h.2 i h1))
theorem SubL.repAt {M : Mem} {β : Loc} : ∀ {l l' : List AV} {vs : Array Value} {o : Nat}, SubL l l' → RepAt M β l vs o → RepAt M β l' vs o
  | [], [], _, _, _, h => h
  | a :: l, b :: l', vs, o, h, ⟨⟨y, h1, h2, h3⟩, h4⟩ => ⟨⟨y, h1, h2, h.1.1 M β y h3⟩, SubL.repAt h.2 h4⟩
theorem SubL.repT {M : Mem} {β : Loc} : ∀ {l l' : List AV} {vs : Array Value} {o : Nat}, SubL l l' → RepT M β l vs o → RepT M β l' vs o
  | [], [], _, _, _, h => h
  | a :: l, b :: l', vs, o, h, ⟨⟨y, h1, h3⟩, h4⟩ => ⟨⟨y, h1, h.1.1 M β y h3⟩, SubL.repT h.2 h4⟩

theorem Sub.agg {l l' : List AV} (h : SubL l l') : Sub (.agg l) (.agg l') := by
  refine ⟨fun M β x hx => ?_, fun i hi => by simp only [AV.refs] at hi ⊢; exact h.refs i hi⟩
  obtain ⟨vs, h1, h2, h3⟩ := hx
  exact ⟨vs, h1, h2.trans h.length, h.repAt h3⟩
theorem Sub.tup {l l' : List AV} (h : SubL l l') : Sub (.tup l) (.tup l') := by
  refine ⟨fun M β x hx => ?_, fun i hi => by simp only [AV.refs] at hi ⊢; exact h.refs i hi⟩
  obtain ⟨vs, h1, h2, h3⟩ := hx
  exact ⟨vs, h1, h2.trans h.length, h.repT h3⟩
theorem Sub.nil (f : Bool) (z : Nat) : Sub (.v (.slice none 0 0)) (.slc f z 0 []) :=
  ⟨fun M β x ⟨hx, _⟩ => by subst hx; exact ⟨none, 0, rfl, by simp, Nat.le_refl _, by simp [maxLen], fun _ => rfl, rfl, fun h => absurd h (by omega)⟩, by simp [AV.refs]⟩
theorem Sub.full (z n : Nat) (l : List AV) : Sub (.slc true z n l) (.slc false z n l) :=
  ⟨fun M β x ⟨a, cap, h1, h2, h3, h4, _, h6, h7⟩ => ⟨a, cap, h1, h2, h3, h4, fun h => (by cases h), h6, h7⟩, by simp [AV.refs]⟩

section
variable {P : Program} {f : FuncId} {args args' : List AV}

theorem Eval.arg {out : Out} (h : Eval P f args' out) (hs : SubL args args') : Eval P f args out := fun M w vs h1 h2 h3 => h M w vs h1 (h2.trans hs.length) (hs.repT h3)

theorem RepC.sub {M : Mem} {w : World} {r r' : AV} {x : Value} {bl : List Nat} (hs : Sub r r') (ho : r.isOwn = false) (ho' : r'.isOwn = false) (h : RepC M w r x bl) : RepC M w r' x bl := by
  have h' : Rep M noLoc r x ∧ r.refs = [] ∧ bl = [] := by
    cases r with
    | own => simp [AV.isOwn] at ho
    | _ => exact h
  obtain ⟨h1, h2, h3⟩ := h'
  have h4 : r'.refs = [] := List.eq_nil_iff_forall_not_mem.2 fun i hi => by have := hs.2 i hi; rw [h2] at this; cases this
  cases r' with
  | own => simp [AV.isOwn] at ho'
  | _ => exact ⟨hs.1 _ _ _ h1, h4, h3⟩

/-- One result that says less. -/
theorem Eval.out {r r' : AV} (h : Eval P f args (.ret r)) (hs : Sub r r') (ho : r.isOwn = false) (ho' : r'.isOwn = false) (ht : ∀ l, r ≠ .tup l) (ht' : ∀ l, r' ≠ .tup l) : Eval P f args (.ret r') := by
  intro M w vs h1 h2 h3
  refine Ends.mono (h M w vs h1 h2 h3) ?_
  rintro e w' ⟨M', q1, q2, q3, q4, q5⟩
  refine ⟨M', q1, q2, q3, q4, ?_⟩
  cases e with
  | panicked l => exact q5.elim
  | outgrown => exact q5.elim
  | returned x =>
    obtain ⟨bl, b1, b2, b3⟩ := q5
    refine ⟨bl, ?_, b2, b3⟩
    have k : RepC M' w' r x bl := by
      cases r with
      | tup l => exact absurd rfl (ht l)
      | _ => exact b1
    have k' := k.sub hs ho ho'
    cases r' with
    | tup l => exact absurd rfl (ht' l)
    | _ => exact k'

variable {s : AS} {nt : Nat} {Q : Exit → AS → Prop}

/-- A slot by what says less. -/
theorem W_sub {c : Code} (t : Nat) {v : AV} (hs : Sub (s.env t) v) (h : W P nt c { s with env := upd s.env t v } Q) : W P nt c s Q := by
  intro C M β a w hR hS
  refine h C M β a w (hR.env rfl rfl) ⟨hS.dfr, hS.size, fun t' => ?_, fun t' i hi => ?_⟩
  · simp only [upd]
    split
    · rename_i he; subst he; exact hs.1 _ _ _ (hS.slot t')
    · exact hS.slot t'
  · simp only [upd] at hi
    split at hi
    · rename_i he; subst he; exact hS.refE t' i (hs.2 i hi)
    · exact hS.refE t' i hi
end

/-! simp looks at the state alone. -/
@[congr] theorem vcn_congr {P : Program} {ops r : List Oper} {Q : Exit → AS → Prop} {s s' : AS} (h : s = s') : vcn P ops Q r s = vcn P ops Q r s' := by rw [h]
@[congr] theorem vcnD_congr {P : Program} {ops r : List Oper} {A : List (List Nat)} {Q : AS → Prop} {s s' : AS} {acc acc' : List (List Nat × List Nat)} (h : s = s') (h' : acc = acc') : vcnD P ops A Q r s acc = vcnD P ops A Q r s' acc' := by rw [h, h']
@[congr] theorem W_congr {P : Program} {nt : Nat} {c : Code} {Q : Exit → AS → Prop} {s s' : AS} (h : s = s') : W P nt c s Q = W P nt c s' Q := by rw [h]
mutual
theorem ren_id (ρ : Nat → Nat) : ∀ v : AV, v.refs = [] → ren ρ v = v
  | .bp id off, h => by simp [AV.refs] at h
  | .bs id z off n, h => by simp [AV.refs] at h
  | .fn f l, h => by simp only [AV.refs] at h; simp only [ren, renL_id ρ l h]
  | .agg l, h => by simp only [AV.refs] at h; simp only [ren, renL_id ρ l h]
  | .tup l, h => by simp only [AV.refs] at h; simp only [ren, renL_id ρ l h]
  | .v x, _ => rfl
  | .slc _ _ _ _, _ => rfl
  | .ip _, _ => rfl
  | .own _ _ _ _, _ => rfl
  | .junk, _ => rfl
  | .unk, _ => rfl
theorem renL_id (ρ : Nat → Nat) : ∀ l : List AV, refsL l = [] → renL ρ l = l
  | [], _ => rfl
  | a :: l, h => by
    simp only [refsL, List.append_eq_nil_iff] at h
    simp only [renL, ren_id ρ a h.1, renL_id ρ l h.2]
end
end Go.Fw

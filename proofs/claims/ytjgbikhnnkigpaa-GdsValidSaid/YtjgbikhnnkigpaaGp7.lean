/- gds: a library, plain. -/
import Derived.Test.YtjgbikhnnkigpaaGp6
set_option linter.unusedSimpArgs false
set_option linter.unusedVariables false
set_option linter.unusedVariables false
set_option linter.unusedSimpArgs false
-- VALS: recAV
namespace Go.Fw
open Go Go.Proofs Go.IntWalk
set_option linter.unusedSimpArgs false
set_option maxRecDepth 100000
def whileF {α : Type} (c : Nat → Bool) (step : Nat → Option (α × Nat)) : Nat → Nat → Option (List α × Nat)
 | 0, a => some ([], a)
 | f + 1, a => if c a = true then match step a with
   | none => none
   | some (x, a') => (whileF c step f a').map fun p => (x :: p.1, p.2)
  else some ([], a)
def whileS {α : Type} (n : Nat) (c : Nat → Bool) (step : Nat → Option (α × Nat)) (a : Nat) : Option (List α × Nat) := whileF c step (n - a) a
theorem whileF_fuel {α : Type} {n : Nat} {c : Nat → Bool} {step : Nat → Option (α × Nat)} (hc : ∀ a, c a = true → a < n) (hs : ∀ a x a', c a = true → step a = some (x, a') → a < a') :
  ∀ (f g a : Nat), n - a ≤ f → n - a ≤ g → whileF c step f a = whileF c step g a := by
 intro f
 induction f with
 | zero =>
  intro g a h1 h2
  cases g with
  | zero => rfl
  | succ g =>
   rw [whileF, whileF, if_neg]
   intro h
   have := hc a h
   omega
 | succ f ih =>
  intro g a h1 h2
  cases g with
  | zero =>
   rw [whileF, whileF, if_neg]
   intro h
   have := hc a h
   omega
  | succ g =>
   rw [whileF, whileF]
   split
   ·
    rename_i h
    have h3 := hc a h
    cases hx : step a with
    | none => rfl
    | some p =>
     obtain ⟨x, a'⟩ := p
     have h4 := hs a x a' h hx
     simp only
     rw [ih g a' (by omega) (by omega)]
   · rfl
theorem whileS_eq {α : Type} {n : Nat} {c : Nat → Bool} {step : Nat → Option (α × Nat)} (hc : ∀ a, c a = true → a < n) (hs : ∀ a x a', c a = true → step a = some (x, a') → a < a') (a : Nat) :
  whileS n c step a = if c a = true then match step a with
   | none => none
   | some (x, a') => (whileS n c step a').map fun p => (x :: p.1, p.2)
  else some ([], a) := by
 rw [whileS, whileF_fuel hc hs (n - a) (n - a + 1) a (Nat.le_refl _) (Nat.le_succ _), whileF]
 split
 ·
  rename_i h
  have h3 := hc a h
  cases hx : step a with
  | none => rfl
  | some p =>
   obtain ⟨x, a'⟩ := p
   have h4 := hs a x a' h hx
   simp only [whileS]
   rw [whileF_fuel hc hs (n - a) (n - a') a' (by omega) (Nat.le_refl _)]
 · rfl
def manyS (L : List Rec) (k : UInt8) (a : Nat) : Option (List Rec × Nat) := whileS L.length (fun a => seesS L a [k]) (fun a => (mustS L a k).map fun r => (r, a + 1)) a
theorem manyS_eq (L : List Rec) (k : UInt8) (a : Nat) : manyS L k a = if seesS L a [k] = true then match mustS L a k with
   | none => none
   | some r => (manyS L k (a + 1)).map fun p => (r :: p.1, p.2)
  else some ([], a) := by
 rw [manyS, whileS_eq (fun a h => seesS_lt h) (fun a x a' _ h => by
  cases hm : mustS L a k with
  | none => rw [hm] at h; cases h
  | some r => rw [hm] at h; cases h; omega)]
 split
 · cases mustS L a k <;> rfl
 · rfl
theorem rowS_pos {L : List Rec} {a k : Nat} {ks : List Nat} {p : List Rec × Nat} (h : rowS L a (k :: ks) = some p) (hk : k < 256) (ha : a ≤ L.length) : a < p.2 := by
 rw [rowS_cons, if_pos (.inl hk)] at h
 cases hm : mustS L a (UInt8.ofNat k) with
 | none => rw [hm] at h; cases h
 | some r =>
  rw [hm, rowM] at h
  have hlt := (mustS_lt hm).1
  cases hq : rowS L (a + 1) ks with
  | none => rw [hq] at h; cases h
  | some q =>
   rw [hq] at h
   have h2 := rowS_le hq (by omega)
   cases h
   simp only
   omega
theorem propsS_le {L : List Rec} : ∀ (n a : Nat) (p : List Rec × Nat), L.length - a ≤ n → a ≤ L.length → propsS L a = some p → a ≤ p.2 ∧ p.2 ≤ L.length := by
 intro n
 induction n with
 | zero =>
  intro a p h1 h2 h
  rw [propsS_eq, if_neg (fun h => by have := seesS_lt h; omega)] at h
  cases h
  exact ⟨Nat.le_refl _, h2⟩
 | succ n ih =>
  intro a p h1 h2 h
  rw [propsS_eq] at h
  split at h
  ·
   cases hr : rowS L a [43, 44] with
   | none => rw [hr] at h; cases h
   | some q =>
    obtain ⟨r, a'⟩ := q
    rw [hr] at h
    have h3 := rowS_le hr h2
    have h4 := rowS_pos hr (by decide) h2
    simp only at h h3 h4
    cases hp : propsS L a' with
    | none => rw [hp] at h; cases h
    | some t =>
     rw [hp] at h
     have := ih a' t (by omega) h3.1 hp
     cases h
     simp only
     omega
  ·
   cases h
   exact ⟨Nat.le_refl _, h2⟩
theorem catS_le {L : List Rec} : ∀ (ps : List (Option (List Nat))) (a : Nat) (p : List Rec × Nat), a ≤ L.length → catS L ps a = some p → a ≤ p.2 ∧ p.2 ≤ L.length
 | [], a, p, ha, h => by cases h; exact ⟨Nat.le_refl _, ha⟩
 | q :: ps, a, p, ha, h => by
  rw [catS] at h
  cases hq : partS L q a with
  | none => rw [hq] at h; cases h
  | some t =>
   obtain ⟨r, a'⟩ := t
   rw [hq] at h
   have h1 := partS_le hq ha
   simp only at h h1
   cases hc : catS L ps a' with
   | none => rw [hc] at h; cases h
   | some u =>
    obtain ⟨r', a''⟩ := u
    rw [hc] at h
    have h2 := catS_le ps a' _ h1.1 hc
    cases h
    simp only at h2 ⊢
    omega
theorem itemS_le {L : List Rec} {a : Nat} {x : Item} {a' : Nat} (h : itemS L a = some (x, a')) : a < a' ∧ a' ≤ L.length := by
 unfold itemS at h
 cases hx : L[a]? with
 | none => rw [hx] at h; cases h
 | some r0 =>
  have hlt := (List.getElem?_eq_some_iff.1 hx).1
  rw [hx] at h
  simp only at h
  cases hr : rowS L a [r0.1.toNat, 294, 303] with
  | none => rw [hr] at h; cases h
  | some q =>
   obtain ⟨f0, a1⟩ := q
   rw [hr] at h
   have h1 := rowS_le hr (by omega)
   have h2 := rowS_pos hr (by have := r0.1.toNat_lt; omega) (by omega)
   simp only at h h1 h2
   cases hc : catS L (itemParts r0.1) a1 with
   | none => rw [hc] at h; cases h
   | some t =>
    obtain ⟨f1, a2⟩ := t
    rw [hc] at h
    have h3 := catS_le _ _ _ h1.1 hc
    simp only [endS] at h h3
    cases hp : propsS L a2 with
    | none => rw [hp] at h; cases h
    | some u =>
     obtain ⟨ps, a3⟩ := u
     rw [hp] at h
     have h4 := propsS_le _ a2 _ (Nat.le_refl _) h3.2 hp
     simp only at h h4
     cases hm : mustS L a3 0x11 with
     | none => rw [hm] at h; cases h
     | some r =>
      rw [hm] at h
      have := (mustS_lt hm).1
      cases h
      omega
def itemsS (L : List Rec) (a : Nat) : Option (List Item × Nat) := whileS L.length (fun a => seesS L a itemKinds) (itemS L) a
theorem itemsS_eq (L : List Rec) (a : Nat) : itemsS L a = if seesS L a itemKinds = true then match itemS L a with
   | none => none
   | some (x, a') => (itemsS L a').map fun p => (x :: p.1, p.2)
  else some ([], a) := by
 rw [itemsS, whileS_eq (fun _ h => seesS_lt h) (fun _ _ _ _ h => (itemS_le h).1)]
 split
 ·
  cases itemS L a with
  | none => rfl
  | some p => rfl
 · rfl
abbrev Cell := List Rec × List Item
abbrev Lib := List Rec × List Cell
def cellS (L : List Rec) (a : Nat) : Option (Cell × Nat) := match rowS L a [5, 6, 308] with
 | none => none
 | some (h, a1) => match itemsS L a1 with
  | none => none
  | some (xs, a2) => match mustS L a2 7 with
   | none => none
   | some _ => some ((h, xs), a2 + 1)
theorem itemsS_le {L : List Rec} : ∀ (n a : Nat) (p : List Item × Nat), L.length - a ≤ n → a ≤ L.length → itemsS L a = some p → a + p.1.length ≤ p.2 ∧ p.2 ≤ L.length := by
 intro n
 induction n with
 | zero =>
  intro a p h1 h2 h
  rw [itemsS_eq, if_neg (fun h => by have := seesS_lt h; omega)] at h
  cases h
  exact ⟨Nat.le_refl _, h2⟩
 | succ n ih =>
  intro a p h1 h2 h
  rw [itemsS_eq] at h
  split at h
  ·
   cases hr : itemS L a with
   | none => rw [hr] at h; cases h
   | some q =>
    obtain ⟨x, a'⟩ := q
    rw [hr] at h
    have h3 := itemS_le hr
    simp only at h
    cases hp : itemsS L a' with
    | none => rw [hp] at h; cases h
    | some t =>
     rw [hp] at h
     have := ih a' t (by omega) h3.2 hp
     cases h
     simp only [List.length_cons]
     omega
  ·
   cases h
   exact ⟨Nat.le_refl _, h2⟩
theorem cellS_le {L : List Rec} {a : Nat} {x : Cell} {a' : Nat} (ha : a ≤ L.length) (h : cellS L a = some (x, a')) : a < a' ∧ a' ≤ L.length := by
 unfold cellS at h
 cases hr : rowS L a [5, 6, 308] with
 | none => rw [hr] at h; cases h
 | some q =>
  obtain ⟨f0, a1⟩ := q
  rw [hr] at h
  have h1 := rowS_le hr ha
  have h2 := rowS_pos hr (by decide) ha
  simp only at h h1 h2
  cases hp : itemsS L a1 with
  | none => rw [hp] at h; cases h
  | some u =>
   obtain ⟨ps, a3⟩ := u
   rw [hp] at h
   have h4 := itemsS_le _ a1 _ (Nat.le_refl _) h1.1 hp
   simp only at h h4
   cases hm : mustS L a3 7 with
   | none => rw [hm] at h; cases h
   | some r =>
    rw [hm] at h
    have := (mustS_lt hm).1
    cases h
    omega
def cellsS (L : List Rec) (a : Nat) : Option (List Cell × Nat) := whileS L.length (fun a => seesS L a [5]) (cellS L) a
theorem cellsS_eq (L : List Rec) (a : Nat) : cellsS L a = if seesS L a [5] = true then match cellS L a with
   | none => none
   | some (x, a') => (cellsS L a').map fun p => (x :: p.1, p.2)
  else some ([], a) := by
 rw [cellsS, whileS_eq (fun _ h => seesS_lt h) (fun a _ _ h1 h => (cellS_le (Nat.le_of_lt (seesS_lt h1)) h).1)]
 split
 ·
  cases cellS L a with
  | none => rfl
  | some p => rfl
 · rfl
def headRow : List Nat := [0, 1, 313, 314, 315, 2, 287, 288, 291, 290]
def maskS (L : List Rec) (a : Nat) : Option (List Rec × Nat) := match mustS L a 0x36 with
 | none => none
 | some r0 => match manyS L 0x37 (a + 1) with
  | none => none
  | some (ms, a2) => if a + 1 < a2 then match mustS L a2 0x38 with
    | none => none
    | some r1 => some (r0 :: ms ++ [r1], a2 + 1)
   else some (r0 :: ms, a2)
def headS (L : List Rec) : Option (List Rec × Nat) := match rowS L 0 headRow with
 | none => none
 | some (h0, a1) => match (if seesS L a1 [0x36] = true then maskS L a1 else some ([], a1)) with
  | none => none
  | some (m, a2) => match mustS L a2 3 with
   | none => none
   | some r => some (h0 ++ m ++ [r], a2 + 1)
def libS (L : List Rec) : Option (Lib × Nat) := match headS L with
 | none => none
 | some (h, a1) => match cellsS L a1 with
  | none => none
  | some (cs, a2) => match mustS L a2 4 with
   | none => none
   | some _ => some ((h, cs), a2 + 1)
def itemCells (x : Item) : List AV := [rowsAV x.1, rowsAV x.2]
def itemsCells (l : List Item) : List AV := l.flatMap itemCells
def itemsAV (l : List Item) : AV := .slc false 2 l.length (itemsCells l)
def cellCells (c : Cell) : List AV := [rowsAV c.1, itemsAV c.2]
def cellsCells (l : List Cell) : List AV := l.flatMap cellCells
def cellsAV (l : List Cell) : AV := .slc false 2 l.length (cellsCells l)
def libAV (t : Lib) : AV := .agg [rowsAV t.1, cellsAV t.2]
theorem itemsCells_len (l : List Item) : (itemsCells l).length = l.length * 2 := by
 induction l with
 | nil => rfl
 | cons a l ih => simp only [itemsCells, List.flatMap_cons, List.length_append] at ih ⊢; rw [ih]; simp [itemCells]; omega
theorem itemsCells_refs (l : List Item) : refsL (itemsCells l) = [] := by
 induction l with
 | nil => rfl
 | cons a l ih => simp only [itemsCells, List.flatMap_cons] at ih ⊢; rw [refsL_append, ih]; rfl
theorem cellsCells_len (l : List Cell) : (cellsCells l).length = l.length * 2 := by
 induction l with
 | nil => rfl
 | cons a l ih => simp only [cellsCells, List.flatMap_cons, List.length_append] at ih ⊢; rw [ih]; simp [cellCells]; omega
theorem cellsCells_refs (l : List Cell) : refsL (cellsCells l) = [] := by
 induction l with
 | nil => rfl
 | cons a l ih => simp only [cellsCells, List.flatMap_cons] at ih ⊢; rw [refsL_append, ih]; rfl
theorem itemsCells_snoc (l : List Item) (x : Item) : itemsCells l ++ [rowsAV x.1, rowsAV x.2] = itemsCells (l ++ [x]) := by simp [itemsCells, itemCells]
theorem cellsCells_snoc (l : List Cell) (x : Cell) : cellsCells l ++ [rowsAV x.1, itemsAV x.2] = cellsCells (l ++ [x]) := by simp [cellsCells, cellCells]
end Go.Fw

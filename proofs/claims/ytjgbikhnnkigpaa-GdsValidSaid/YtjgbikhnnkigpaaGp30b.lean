import Derived.Test.YtjgbikhnnkigpaaGp25b
import Derived.Test.YtjgbikhnnkigpaaGp12b
set_option linter.unusedSimpArgs false
set_option linter.unusedVariables false
namespace Go.Fw
open Go Go.Proofs Go.IntWalk
set_option linter.unusedSimpArgs false
set_option maxRecDepth 100000
def ItemsMade : List Item → List Rec → Prop
 | [], l => l = []
 | x :: xs, l => ∃ e m, l = x.1 ++ (x.2 ++ e :: m) ∧ ItemsMade xs m
def CellsMade : List Cell → List Rec → Prop
 | [], l => l = []
 | c :: cs, l => ∃ m e k, l = c.1 ++ (m ++ e :: k) ∧ ItemsMade c.2 m ∧ CellsMade cs k
theorem itemsF_made : ∀ xs : List Item, ItemsMade xs (itemsF xs)
 | [] => rfl
 | x :: xs => ⟨(17, 0, []), itemsF xs, by simp [itemsF, itemF], itemsF_made xs⟩
theorem cellsF_made : ∀ cs : List Cell, CellsMade cs (cellsF cs)
 | [] => rfl
 | c :: cs => ⟨itemsF c.2, (7, 0, []), cellsF cs, by simp [cellsF, cellF], itemsF_made c.2, cellsF_made cs⟩
theorem items_inj : ∀ (xs ys : List Item) (m m' r r' : List Rec), ItemsMade xs m → ItemsMade ys m' → like2 itemLike xs ys = true → m ++ r = m' ++ r' → xs = ys ∧ m = m' ∧ r = r'
 | [], [], m, m', r, r', h1, h2, _, h => by
  cases h1
  cases h2
  exact ⟨rfl, rfl, h⟩
 | [], y :: ys, _, _, _, _, _, _, h, _ => by cases h
 | x :: xs, [], _, _, _, _, _, _, h, _ => by cases h
 | (f, p) :: xs, (f', p') :: ys, m, m', r, r', h1, h2, hl, h => by
  obtain ⟨e, n, rfl, h1⟩ := h1
  obtain ⟨e', n', rfl, h2⟩ := h2
  rw [like2] at hl
  simp only [itemLike, Bool.and_eq_true, decide_eq_true_eq] at hl
  obtain ⟨⟨l1, l2⟩, l3⟩ := hl
  simp only [List.append_assoc, List.cons_append] at h
  obtain ⟨a1, h⟩ := List.append_inj h l1
  obtain ⟨a2, h⟩ := List.append_inj h l2
  injection h with a3 h
  obtain ⟨b1, b2, b3⟩ := items_inj xs ys n n' r r' h1 h2 l3 h
  subst a1 a2 a3 b1 b2 b3
  exact ⟨rfl, rfl, rfl⟩
theorem cells_inj : ∀ (cs ds : List Cell) (m m' r r' : List Rec), CellsMade cs m → CellsMade ds m' → like2 cellLike cs ds = true → m ++ r = m' ++ r' → cs = ds ∧ m = m' ∧ r = r'
 | [], [], m, m', r, r', h1, h2, _, h => by
  cases h1
  cases h2
  exact ⟨rfl, rfl, h⟩
 | [], y :: ys, _, _, _, _, _, _, h, _ => by cases h
 | x :: xs, [], _, _, _, _, _, _, h, _ => by cases h
 | (f, p) :: xs, (f', p') :: ys, m, m', r, r', h1, h2, hl, h => by
  obtain ⟨u, e, n, rfl, g1, h1⟩ := h1
  obtain ⟨u', e', n', rfl, g2, h2⟩ := h2
  rw [like2] at hl
  simp only [cellLike, Bool.and_eq_true, decide_eq_true_eq] at hl
  obtain ⟨⟨l1, l2⟩, l3⟩ := hl
  simp only [List.append_assoc, List.cons_append] at h
  obtain ⟨a1, h⟩ := List.append_inj h l1
  obtain ⟨c1, c2, h⟩ := items_inj p p' u u' _ _ g1 g2 l2 h
  injection h with a3 h
  obtain ⟨b1, b2, b3⟩ := cells_inj xs ys n n' r r' h1 h2 l3 h
  subst a1 c1 c2 a3 b1 b2 b3
  exact ⟨rfl, rfl, rfl⟩
theorem lib_inj (t u : Lib) (m r : List Rec) (hm : CellsMade u.2 m) (hl : libLike t u = true) (h : flatS t = u.1 ++ (m ++ r)) : t = u := by
 obtain ⟨H, cs⟩ := t
 obtain ⟨G, ds⟩ := u
 simp only [libLike, Bool.and_eq_true, decide_eq_true_eq] at hl
 simp only [flatS, List.append_assoc] at h
 obtain ⟨a1, h⟩ := List.append_inj h hl.1
 obtain ⟨b1, _, _⟩ := cells_inj cs ds _ _ _ _ (cellsF_made cs) hm hl.2 h
 rw [a1, b1]
end Go.Fw
namespace Go.Fw
open Go Go.Proofs Go.IntWalk
set_option linter.unusedSimpArgs false
set_option maxRecDepth 100000
theorem row_drop {L : List Rec} {a : Nat} {ks : List Nat} {r : List Rec} {b : Nat} (h : rowS L a ks = some (r, b)) : L.drop a = r ++ L.drop b := by
 obtain ⟨h1, h2⟩ := rowS_take L ks a _ h
 simp only at h1 h2
 have h3 : L.drop b = (L.drop a).drop (b - a) := by
  rw [List.drop_drop]
  congr 1
  omega
 rw [h2, h3, List.take_append_drop]
theorem must_drop {L : List Rec} {a : Nat} {k : UInt8} {r : Rec} (h : mustS L a k = some r) : L.drop a = r :: L.drop (a + 1) := by
 obtain ⟨hlt, hr⟩ := mustS_lt h
 rw [List.getElem?_eq_getElem hlt] at hr
 cases hr
 exact List.drop_eq_getElem_cons hlt
theorem part_drop {L : List Rec} {q : Option (List Nat)} {a : Nat} {r : List Rec} {b : Nat} (h : partS L q a = some (r, b)) : L.drop a = r ++ L.drop b := by
 cases q with
 | some ks => exact row_drop h
 | none =>
  rw [partS, transS] at h
  split at h
  · exact row_drop h
  ·
   cases h
   rfl
theorem cat_drop {L : List Rec} : ∀ (ps : List (Option (List Nat))) (a : Nat) (r : List Rec) (b : Nat), catS L ps a = some (r, b) → L.drop a = r ++ L.drop b
 | [], a, r, b, h => by cases h; rfl
 | q :: ps, a, r, b, h => by
  rw [catS] at h
  cases hq : partS L q a with
  | none => rw [hq] at h; cases h
  | some t =>
   obtain ⟨r1, c⟩ := t
   rw [hq] at h
   simp only at h
   cases hc : catS L ps c with
   | none => rw [hc] at h; cases h
   | some u =>
    obtain ⟨r2, d⟩ := u
    rw [hc] at h
    cases h
    rw [part_drop hq, cat_drop ps c r2 _ hc, List.append_assoc]
theorem props_drop {L : List Rec} : ∀ (n a : Nat) (r : List Rec) (b : Nat), L.length - a ≤ n → propsS L a = some (r, b) → L.drop a = r ++ L.drop b := by
 intro n
 induction n with
 | zero =>
  intro a r b h1 h
  rw [propsS_eq, if_neg (fun h => by have := seesS_lt h; omega)] at h
  cases h
  rfl
 | succ n ih =>
  intro a r b h1 h
  rw [propsS_eq] at h
  split at h
  ·
   rename_i hs
   have hlt := seesS_lt hs
   cases hr : rowS L a [43, 44] with
   | none => rw [hr] at h; cases h
   | some q =>
    obtain ⟨r1, c⟩ := q
    have hp := rowS_pos hr (by decide) (by omega)
    rw [hr] at h
    simp only at h hp
    cases hq : propsS L c with
    | none => rw [hq] at h; cases h
    | some u =>
     obtain ⟨r2, d⟩ := u
     rw [hq] at h
     cases h
     rw [row_drop hr, ih c r2 _ (by omega) hq, List.append_assoc]
  ·
   cases h
   rfl
theorem item_drop {L : List Rec} {a : Nat} {x : Item} {b : Nat} (h : itemS L a = some (x, b)) : ∃ e, L.drop a = x.1 ++ (x.2 ++ e :: L.drop b) := by
 rw [itemS] at h
 cases hx : L[a]? with
 | none => rw [hx] at h; cases h
 | some r0 =>
  rw [hx] at h
  simp only at h
  cases hr : rowS L a [r0.1.toNat, 294, 303] with
  | none => rw [hr] at h; cases h
  | some q =>
   obtain ⟨f0, a1⟩ := q
   rw [hr] at h
   simp only at h
   cases hc : catS L (itemParts r0.1) a1 with
   | none => rw [hc] at h; cases h
   | some u =>
    obtain ⟨f1, a2⟩ := u
    rw [hc] at h
    simp only [endS] at h
    cases hp : propsS L a2 with
    | none => rw [hp] at h; cases h
    | some v =>
     obtain ⟨ps, a3⟩ := v
     rw [hp] at h
     simp only at h
     cases hm : mustS L a3 0x11 with
     | none => rw [hm] at h; cases h
     | some e =>
      rw [hm] at h
      cases h
      exact ⟨e, by rw [row_drop hr, cat_drop _ _ _ _ hc, props_drop _ _ _ _ (Nat.le_refl _) hp, must_drop hm, List.append_assoc]⟩
end Go.Fw
namespace Go.Fw
open Go Go.Proofs Go.IntWalk
set_option linter.unusedSimpArgs false
set_option maxRecDepth 100000
theorem items_made {L : List Rec} : ∀ (n a : Nat) (xs : List Item) (b : Nat), L.length - a ≤ n → itemsS L a = some (xs, b) → ∃ m, L.drop a = m ++ L.drop b ∧ ItemsMade xs m := by
 intro n
 induction n with
 | zero =>
  intro a xs b h1 h
  rw [itemsS_eq, if_neg (fun h => by have := seesS_lt h; omega)] at h
  cases h
  exact ⟨[], rfl, rfl⟩
 | succ n ih =>
  intro a xs b h1 h
  rw [itemsS_eq] at h
  split at h
  ·
   rename_i hs
   have hlt := seesS_lt hs
   cases hi : itemS L a with
   | none => rw [hi] at h; cases h
   | some q =>
    obtain ⟨x, c⟩ := q
    have hp := itemS_le hi
    obtain ⟨e, he⟩ := item_drop hi
    rw [hi] at h
    simp only at h
    cases hq : itemsS L c with
    | none => rw [hq] at h; cases h
    | some u =>
     obtain ⟨ys, d⟩ := u
     rw [hq] at h
     cases h
     obtain ⟨m, hm, hM⟩ := ih c ys _ (by omega) hq
     exact ⟨x.1 ++ (x.2 ++ e :: m), by rw [he, hm]; simp, e, m, rfl, hM⟩
  ·
   cases h
   exact ⟨[], rfl, rfl⟩
theorem cells_made {L : List Rec} : ∀ (n a : Nat) (cs : List Cell) (b : Nat), L.length - a ≤ n → cellsS L a = some (cs, b) → ∃ m, L.drop a = m ++ L.drop b ∧ CellsMade cs m := by
 intro n
 induction n with
 | zero =>
  intro a xs b h1 h
  rw [cellsS_eq, if_neg (fun h => by have := seesS_lt h; omega)] at h
  cases h
  exact ⟨[], rfl, rfl⟩
 | succ n ih =>
  intro a xs b h1 h
  rw [cellsS_eq] at h
  split at h
  ·
   rename_i hs
   have hlt := seesS_lt hs
   cases hi : cellS L a with
   | none => rw [hi] at h; cases h
   | some q =>
    obtain ⟨x, c⟩ := q
    have hp := cellS_le (by omega) hi
    rw [hi] at h
    simp only at h
    cases hq : cellsS L c with
    | none => rw [hq] at h; cases h
    | some u =>
     obtain ⟨ys, d⟩ := u
     rw [hq] at h
     cases h
     obtain ⟨m, hm, hM⟩ := ih c ys _ (by omega) hq
     rw [cellS] at hi
     cases hr : rowS L a [5, 6, 308] with
     | none => rw [hr] at hi; cases hi
     | some t =>
      obtain ⟨h0, a1⟩ := t
      rw [hr] at hi
      simp only at hi
      cases hit : itemsS L a1 with
      | none => rw [hit] at hi; cases hi
      | some v =>
       obtain ⟨its, a2⟩ := v
       rw [hit] at hi
       simp only at hi
       cases hm7 : mustS L a2 7 with
       | none => rw [hm7] at hi; cases hi
       | some e =>
        rw [hm7] at hi
        cases hi
        obtain ⟨k, hk, hK⟩ := items_made _ a1 its a2 (Nat.le_refl _) hit
        exact ⟨h0 ++ (k ++ e :: m), by rw [row_drop hr, hk, must_drop hm7, hm]; simp, k, e, m, rfl, hK, hM⟩
  ·
   cases h
   exact ⟨[], rfl, rfl⟩
end Go.Fw
namespace Go.Fw
open Go Go.Proofs Go.IntWalk
set_option linter.unusedSimpArgs false
set_option maxRecDepth 100000
def refValidS (t : Lib) : Prop := parseS (flatS t) = some t
theorem many_drop {L : List Rec} {k : UInt8} : ∀ (n a : Nat) (r : List Rec) (b : Nat), L.length - a ≤ n → manyS L k a = some (r, b) → L.drop a = r ++ L.drop b := by
 intro n
 induction n with
 | zero =>
  intro a r b h1 h
  rw [manyS_eq, if_neg (fun h => by have := seesS_lt h; omega)] at h
  cases h
  rfl
 | succ n ih =>
  intro a r b h1 h
  rw [manyS_eq] at h
  split at h
  ·
   rename_i hs
   have hlt := seesS_lt hs
   cases hr : mustS L a k with
   | none => rw [hr] at h; cases h
   | some q =>
    rw [hr] at h
    simp only at h
    cases hq : manyS L k (a + 1) with
    | none => rw [hq] at h; cases h
    | some u =>
     obtain ⟨r2, d⟩ := u
     rw [hq] at h
     cases h
     rw [must_drop hr, ih (a + 1) r2 _ (by omega) hq]
     rfl
  ·
   cases h
   rfl
theorem mask_drop {L : List Rec} {a : Nat} {r : List Rec} {b : Nat} (h : maskS L a = some (r, b)) : L.drop a = r ++ L.drop b := by
 rw [maskS] at h
 cases hr : mustS L a 0x36 with
 | none => rw [hr] at h; cases h
 | some r0 =>
  rw [hr] at h
  simp only at h
  cases hm : manyS L 0x37 (a + 1) with
  | none => rw [hm] at h; cases h
  | some u =>
   obtain ⟨ms, c⟩ := u
   rw [hm] at h
   simp only at h
   split at h
   ·
    cases h8 : mustS L c 0x38 with
    | none => rw [h8] at h; cases h
    | some r1 =>
     rw [h8] at h
     cases h
     rw [must_drop hr, many_drop _ _ _ _ (Nat.le_refl _) hm, must_drop h8]
     simp
   ·
    cases h
    rw [must_drop hr, many_drop _ _ _ _ (Nat.le_refl _) hm]
    rfl
theorem head_drop {L : List Rec} {r : List Rec} {b : Nat} (h : headS L = some (r, b)) : L = r ++ L.drop b := by
 rw [headS] at h
 cases hr : rowS L 0 headRow with
 | none => rw [hr] at h; cases h
 | some u =>
  obtain ⟨h0, a1⟩ := u
  rw [hr] at h
  simp only at h
  have e0 : L = h0 ++ L.drop a1 := row_drop hr
  obtain ⟨o, ho⟩ : ∃ o, o = (if seesS L a1 [0x36] = true then maskS L a1 else some ([], a1)) := ⟨_, rfl⟩
  rw [← ho] at h
  cases o with
  | none => cases h
  | some v =>
   obtain ⟨m, a2⟩ := v
   simp only at h
   have e1 : L.drop a1 = m ++ L.drop a2 := by
    split at ho
    · exact mask_drop ho.symm
    ·
     cases ho
     rfl
   cases h3 : mustS L a2 3 with
   | none => rw [h3] at h; cases h
   | some e =>
    rw [h3] at h
    cases h
    conv => lhs; rw [e0, e1, must_drop h3]
    simp
theorem parse_made {L : List Rec} {u : Lib} (h : parseS L = some u) : ∃ m r, L = u.1 ++ (m ++ r) ∧ CellsMade u.2 m := by
 rw [parseS] at h
 cases hl : libS L with
 | none => rw [hl] at h; cases h
 | some q =>
  obtain ⟨t, a⟩ := q
  rw [hl] at h
  simp only at h
  split at h
  ·
   cases h
   rw [libS] at hl
   cases hh : headS L with
   | none => rw [hh] at hl; cases hl
   | some v =>
    obtain ⟨H, a1⟩ := v
    rw [hh] at hl
    simp only at hl
    cases hc : cellsS L a1 with
    | none => rw [hc] at hl; cases hl
    | some w =>
     obtain ⟨cs, a2⟩ := w
     rw [hc] at hl
     simp only at hl
     cases hm : mustS L a2 4 with
     | none => rw [hm] at hl; cases hl
     | some e =>
      rw [hm] at hl
      cases hl
      obtain ⟨m, hm1, hM⟩ := cells_made _ a1 cs a2 (Nat.le_refl _) hc
      exact ⟨m, L.drop a2, (head_drop hh).trans (by rw [hm1]), hM⟩
  · cases h
theorem like2_refl {α : Type} (f : α → α → Bool) (hf : ∀ a, f a a = true) : ∀ l, like2 f l l = true
 | [] => rfl
 | a :: l => by rw [like2, hf, like2_refl f hf l]; rfl
theorem libLike_refl (t : Lib) : libLike t t = true := by
 simp [libLike, like2_refl _ (fun c : Cell => show cellLike c c = true by simp [cellLike, like2_refl _ (fun x : Item => show itemLike x x = true by simp [itemLike])])]
theorem valid_iff (t : Lib) : validS t = true ↔ refValidS t := by
 rw [validS, refValidS]
 cases h : parseS (flatS t) with
 | none => simp
 | some u =>
  simp only [Option.some.injEq]
  constructor
  ·
   intro hl
   obtain ⟨m, r, h1, h2⟩ := parse_made h
   exact (lib_inj t u m r h2 hl h1).symm
  ·
   rintro rfl
   exact libLike_refl _
end Go.Fw

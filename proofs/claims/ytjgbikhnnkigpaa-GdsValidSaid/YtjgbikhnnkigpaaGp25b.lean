import Derived.Test.YtjgbikhnnkigpaaGp19b
set_option linter.unusedSimpArgs false
set_option linter.unusedVariables false
namespace Go.Fw
open Go Go.Proofs Go.IntWalk
set_option linter.unusedSimpArgs false
set_option maxRecDepth 100000
def thenR (x : Option (List Rec × Nat)) (f : Nat → Option (List Rec × Nat)) : Option (List Rec × Nat) := match x with
 | none => none
 | some (r, b) => (f b).map fun p => (r ++ p.1, p.2)
theorem rowS_app (L : List Rec) (ks' : List Nat) : ∀ (ks : List Nat) (a : Nat), rowS L a (ks ++ ks') = thenR (rowS L a ks) fun b => rowS L b ks'
 | [], a => by
  show rowS L a ks' = (rowS L a ks').map fun p => ([] ++ p.1, p.2)
  cases rowS L a ks' <;> rfl
 | k :: ks, a => by
  rw [List.cons_append, rowS_cons, rowS_cons]
  by_cases h : k < 256 ∨ seesS L a [UInt8.ofNat k] = true
  ·
   rw [if_pos h, if_pos h]
   cases mustS L a (UInt8.ofNat k) with
   | none => rfl
   | some r =>
    rw [rowM, rowM, rowS_app L ks' ks (a + 1)]
    cases rowS L (a + 1) ks with
    | none => rfl
    | some q =>
     obtain ⟨q1, q2⟩ := q
     show ((rowS L q2 ks').map _).map _ = (rowS L q2 ks').map _
     cases rowS L q2 ks' <;> rfl
  ·
   rw [if_neg h, if_neg h]
   exact rowS_app L ks' ks a
def orR (x y : Option (List Rec × Nat)) : Option (List Rec × Nat) := match x with
 | none => y
 | some p => some p
theorem must_sees {L : List Rec} {a : Nat} {k : UInt8} {r : Rec} (h : mustS L a k = some r) : seesS L a [k] = true := by
 unfold mustS at h
 unfold seesS
 cases hx : L[a]? with
 | none => rw [hx] at h; cases h
 | some s =>
  rw [hx] at h
  simp only at h ⊢
  split at h
  ·
   rename_i hc
   simp [hc.1]
  · cases h
theorem sees_ne {L : List Rec} {a : Nat} {k k' : UInt8} (h : seesS L a [k] = true) (hk : k ≠ k') : seesS L a [k'] = false := by
 unfold seesS at h ⊢
 cases hx : L[a]? with
 | none => rfl
 | some s =>
  rw [hx] at h
  simp only at h ⊢
  have : s.1 = k := by simpa using h
  rw [this]
  simp [hk]
theorem turn_or (L : List Rec) (b k0 : Nat) (ps : List Nat) (hk : k0 < 256) (hne : UInt8.ofNat k0 ≠ 26) :
  orR (rowS L b (k0 :: ps)) (rowS L b ([26, 283, 284] ++ k0 :: ps)) = thenR (transS L b) fun c => rowS L c (k0 :: ps) := by
 by_cases hs : seesS L b [0x1a] = true
 ·
  have h1 : rowS L b (k0 :: ps) = none := by
   rw [rowS_cons, if_pos (.inl hk)]
   cases hm : mustS L b (UInt8.ofNat k0) with
   | none => rfl
   | some r =>
    have h2 := must_sees hm
    rw [sees_ne hs (fun e => hne (by rw [← e]))] at h2
    cases h2
  rw [h1, rowS_app, transS, if_pos hs]
  rfl
 ·
  have h2 : rowS L b ([26, 283, 284] ++ k0 :: ps) = none := by
   rw [List.cons_append, rowS_cons, if_pos (.inl (by decide))]
   cases hm : mustS L b (UInt8.ofNat 26) with
   | none => rfl
   | some r => exact absurd (must_sees hm) hs
  rw [h2, transS, if_neg hs]
  show orR _ none = (rowS L b (k0 :: ps)).map fun p => ([] ++ p.1, p.2)
  cases rowS L b (k0 :: ps) <;> rfl
end Go.Fw
namespace Go.Fw
open Go Go.Proofs Go.IntWalk
set_option linter.unusedSimpArgs false
set_option maxRecDepth 100000
theorem orR_then (x : Option (List Rec × Nat)) (f g : Nat → Option (List Rec × Nat)) : orR (thenR x f) (thenR x g) = thenR x fun b => orR (f b) (g b) := by
 cases x with
 | none => rfl
 | some p =>
  obtain ⟨r, b⟩ := p
  show orR ((f b).map _) ((g b).map _) = (orR (f b) (g b)).map _
  cases f b with
  | none => rfl
  | some q => rfl
theorem thenR_end (x : Option (List Rec × Nat)) : (thenR x fun b => some ([], b)) = x := by
 cases x with
 | none => rfl
 | some p =>
  obtain ⟨r, b⟩ := p
  simp [thenR]
theorem catS_cons (L : List Rec) (p : Option (List Nat)) (ps : List (Option (List Nat))) (a : Nat) : catS L (p :: ps) a = thenR (partS L p a) fun b => catS L ps b := by
 rw [catS]
 cases partS L p a with
 | none => rfl
 | some q =>
  obtain ⟨r, b⟩ := q
  show _ = (catS L ps b).map _
  simp only
  cases catS L ps b with
  | none => rfl
  | some t => rfl
theorem fields_plain (L : List Rec) (a : Nat) (pre p : List Nat) : rowS L a (pre ++ p) = thenR (rowS L a pre) fun b => catS L [some p] b := by
 rw [rowS_app]
 congr 1
 funext b
 rw [catS_cons]
 exact (thenR_end _).symm
theorem fields_turn (L : List Rec) (a : Nat) (pre p ps : List Nat) (k0 : Nat) (hk : k0 < 256) (hne : UInt8.ofNat k0 ≠ 26) :
  orR (rowS L a (pre ++ (p ++ k0 :: ps))) (rowS L a (pre ++ (p ++ ([26, 283, 284] ++ k0 :: ps)))) = thenR (rowS L a pre) fun b => catS L [some p, none, some (k0 :: ps)] b := by
 rw [rowS_app, rowS_app L (p ++ ([26, 283, 284] ++ k0 :: ps)), orR_then]
 congr 1
 funext b
 rw [rowS_app, rowS_app L ([26, 283, 284] ++ k0 :: ps), orR_then, catS_cons]
 congr 1
 funext c
 rw [turn_or L c k0 ps hk hne, catS_cons]
 congr 1
 funext d
 rw [catS_cons]
 exact (thenR_end _).symm
def rowsP (k : UInt8) (b : Bool) : Option (List Nat) := (itemParts k).foldr (fun p x => x.map fun l => (match p with
 | some q => q
 | none => if b = true then [26, 283, 284] else []) ++ l) (if itemKinds.contains k = true then some [] else none) |>.map fun l => [k.toNat, 294, 303] ++ l
theorem rowsP_rowsD (k : UInt8) (b : Bool) : rowsD k b = (rowsP k b).map fun l => l.map convK := by
 by_cases h : itemKinds.contains k = true
 ·
  have : k = 8 ∨ k = 9 ∨ k = 10 ∨ k = 11 ∨ k = 12 ∨ k = 21 ∨ k = 45 := by simpa [itemKinds] using h
  cases b <;> rcases this with rfl | rfl | rfl | rfl | rfl | rfl | rfl <;> decide
 ·
  have h2 : ¬ (k = 8 ∨ k = 9 ∨ k = 10 ∨ k = 11 ∨ k = 12 ∨ k = 21 ∨ k = 45) := by simpa [itemKinds] using h
  simp only [not_or] at h2
  obtain ⟨h8, h9, h10, h11, h12, h21, h45⟩ := h2
  have e : itemParts k = [] := by
   rw [itemParts, if_neg h8, if_neg h9, if_neg h10, if_neg h11, if_neg h12, if_neg h21, if_neg h45]
  rw [rowsD, if_neg h8, if_neg h9, if_neg h10, if_neg h11, if_neg h12, if_neg h21, if_neg h45, rowsP, e, if_neg h]
  rfl
theorem orR_self (x : Option (List Rec × Nat)) : orR x x = x := by cases x <;> rfl
theorem fields_eq (L : List Rec) (a : Nat) (k : UInt8) (ks kt : List Nat) (h : rowsP k false = some ks) (h2 : rowsP k true = some kt) :
  orR (rowS L a ks) (rowS L a kt) = thenR (rowS L a [k.toNat, 294, 303]) fun b => catS L (itemParts k) b := by
 by_cases hc : itemKinds.contains k = true
 ·
  have : k = 8 ∨ k = 9 ∨ k = 10 ∨ k = 11 ∨ k = 12 ∨ k = 21 ∨ k = 45 := by simpa [itemKinds] using hc
  rcases this with rfl | rfl | rfl | rfl | rfl | rfl | rfl
  · cases h; cases h2; exact (orR_self _).trans (fields_plain L a [8, 294, 303] [13, 14, 16])
  · cases h; cases h2; exact (orR_self _).trans (fields_plain L a [9, 294, 303] [13, 14, 289, 271, 304, 305, 16])
  · cases h; cases h2; exact fields_turn L a [10, 294, 303] [18] [] 16 (by decide) (by decide)
  · cases h; cases h2; exact fields_turn L a [11, 294, 303] [18] [16] 19 (by decide) (by decide)
  · cases h; cases h2; exact fields_turn L a [12, 294, 303] [13, 22, 279, 289, 271] [25] 16 (by decide) (by decide)
  · cases h; cases h2; exact (orR_self _).trans (fields_plain L a [21, 294, 303] [13, 42, 16])
  · cases h; cases h2; exact (orR_self _).trans (fields_plain L a [45, 294, 303] [13, 46, 16])
 ·
  have h3 : ¬ (k = 8 ∨ k = 9 ∨ k = 10 ∨ k = 11 ∨ k = 12 ∨ k = 21 ∨ k = 45) := by simpa [itemKinds] using hc
  simp only [not_or] at h3
  obtain ⟨h8, h9, h10, h11, h12, h21, h45⟩ := h3
  have e : itemParts k = [] := by
   rw [itemParts, if_neg h8, if_neg h9, if_neg h10, if_neg h11, if_neg h12, if_neg h21, if_neg h45]
  rw [rowsP, e, if_neg hc] at h
  cases h
end Go.Fw
namespace Go.Fw
open Go Go.Proofs Go.IntWalk
set_option linter.unusedSimpArgs false
set_option maxRecDepth 100000
def propsDF (L : List Rec) : Nat → Nat → List Rec × Nat
 | 0, a => ([], a)
 | f + 1, a => match rowS L a [43, 44] with
  | none => ([], a)
  | some (r, b) => (r ++ (propsDF L f b).1, (propsDF L f b).2)
def endE (L : List Rec) (o : Option (List Rec × Nat)) : Option (List Rec × Nat) := o.bind fun p => (mustS L p.2 17).map fun _ => (p.1, p.2 + 1)
theorem endE_map (L : List Rec) (r : List Rec) (o : Option (List Rec × Nat)) : endE L (o.map fun p => (r ++ p.1, p.2)) = (endE L o).map fun p => (r ++ p.1, p.2) := by
 cases o with
 | none => rfl
 | some p =>
  show (mustS L p.2 17).map _ = ((mustS L p.2 17).map _).map _
  cases mustS L p.2 17 <;> rfl
theorem row43_none {L : List Rec} {a : Nat} (h : ¬ seesS L a [0x2b] = true) : rowS L a [43, 44] = none := by
 rw [rowS_cons, if_pos (.inl (by decide))]
 cases hm : mustS L a (UInt8.ofNat 43) with
 | none => rfl
 | some r => exact absurd (must_sees hm) h
end Go.Fw
namespace Go.Fw
open Go Go.Proofs Go.IntWalk
set_option linter.unusedSimpArgs false
set_option maxRecDepth 100000
def itemsDF (L : List Rec) : Nat → Nat → Option (List Item × Nat)
 | 0, a => some ([], a)
 | f + 1, a => match L[a]? with
  | none => some ([], a)
  | some r => if r.1 = 7 then some ([], a) else if itemKinds.contains r.1 = true then match itemS L a with
    | none => none
    | some (x, b) => (itemsDF L f b).map fun p => (x :: p.1, p.2)
   else none
def end7 (L : List Rec) (o : Option (List Item × Nat)) : Option (List Item × Nat) := o.bind fun p => (mustS L p.2 7).map fun _ => (p.1, p.2 + 1)
theorem end7_map (L : List Rec) (x : Item) (o : Option (List Item × Nat)) : end7 L (o.map fun p => (x :: p.1, p.2)) = (end7 L o).map fun p => (x :: p.1, p.2) := by
 cases o with
 | none => rfl
 | some p =>
  show (mustS L p.2 7).map _ = ((mustS L p.2 7).map _).map _
  cases mustS L p.2 7 <;> rfl
theorem sees_at {L : List Rec} {a : Nat} {r : Rec} (h : L[a]? = some r) (ks : List UInt8) : seesS L a ks = ks.contains r.1 := by
 rw [seesS, h]
end Go.Fw
set_option linter.unusedVariables false
set_option linter.unusedSimpArgs false
namespace Go.Fw
open Go Go.Proofs Go.IntWalk
set_option linter.unusedSimpArgs false
set_option maxRecDepth 100000
def manyDF (L : List Rec) (k : UInt8) : Nat → Nat → List Rec × Nat
 | 0, a => ([], a)
 | f + 1, a => match mustS L a k with
  | none => ([], a)
  | some r => (r :: (manyDF L k f (a + 1)).1, (manyDF L k f (a + 1)).2)
theorem many_eq (L : List Rec) (k : UInt8) : ∀ (n f a : Nat), L.length - a ≤ n → n ≤ f → a ≤ L.length → manyS L k a = some (manyDF L k f a) ∨ manyS L k a = none ∧ seesS L (manyDF L k f a).2 [k] = true := by
 intro n
 induction n with
 | zero =>
  intro f a h1 h2 h3
  have hs : ¬ seesS L a [k] = true := fun h => by have := seesS_lt h; omega
  have hm : mustS L a k = none := by
   cases hm : mustS L a k with
   | none => rfl
   | some r => exact absurd (must_sees hm) hs
  left
  rw [manyS_eq, if_neg hs]
  cases f with
  | zero => rfl
  | succ f => rw [manyDF, hm]
 | succ n ih =>
  intro f a h1 h2 h3
  cases f with
  | zero => omega
  | succ f =>
   rw [manyS_eq, manyDF]
   by_cases hs : seesS L a [k] = true
   ·
    have hlt := seesS_lt hs
    rw [if_pos hs]
    cases hm : mustS L a k with
    | none => exact .inr ⟨rfl, hs⟩
    | some r =>
     simp only
     rcases ih f (a + 1) (by omega) (by omega) (by omega) with h | ⟨h, h'⟩
     · left; rw [h]; rfl
     · right; rw [h]; exact ⟨rfl, h'⟩
   ·
    have hm : mustS L a k = none := by
     cases hm : mustS L a k with
     | none => rfl
     | some r => exact absurd (must_sees hm) hs
    rw [if_neg hs, hm]
    exact .inl rfl
theorem must_not {L : List Rec} {a : Nat} {k k' : UInt8} (h : seesS L a [k] = true) (hk : k ≠ k') : mustS L a k' = none := by
 cases hm : mustS L a k' with
 | none => rfl
 | some r =>
  have := must_sees hm
  rw [sees_ne h hk] at this
  cases this
def masksD (L : List Rec) (a : Nat) : Option (List Rec × Nat) := match mustS L a 0x36 with
 | none => none
 | some r0 => if (manyDF L 0x37 L.length (a + 1)).1 = [] then some ([r0], a + 1) else match mustS L (manyDF L 0x37 L.length (a + 1)).2 0x38 with
  | none => none
  | some r1 => some (r0 :: (manyDF L 0x37 L.length (a + 1)).1 ++ [r1], (manyDF L 0x37 L.length (a + 1)).2 + 1)
theorem manyDF_pos (L : List Rec) (k : UInt8) : ∀ (f a : Nat), (manyDF L k f a).2 = a + (manyDF L k f a).1.length
 | 0, a => rfl
 | f + 1, a => by
  rw [manyDF]
  cases mustS L a k with
  | none => rfl
  | some r =>
   simp only [List.length_cons]
   rw [manyDF_pos L k f (a + 1)]
   omega
theorem masks_end (L : List Rec) (a : Nat) (ha : a ≤ L.length) :
  (match maskS L a with | none => none | some (m, b) => (mustS L b 3).map fun r => (m ++ [r], b + 1)) =
  (match masksD L a with | none => none | some (m, b) => (mustS L b 3).map fun r => (m ++ [r], b + 1)) := by
 rw [maskS, masksD]
 cases hm : mustS L a 0x36 with
 | none => rfl
 | some r0 =>
  have hlt := (mustS_lt hm).1
  have hp := manyDF_pos L 0x37 L.length (a + 1)
  simp only
  rcases many_eq L 0x37 (L.length - (a + 1)) L.length (a + 1) (Nat.le_refl _) (by omega) (by omega) with h | ⟨h, h'⟩
  ·
   rw [h]
   obtain ⟨q, hq⟩ : ∃ q, q = manyDF L 0x37 L.length (a + 1) := ⟨_, rfl⟩
   rw [← hq] at hp ⊢
   obtain ⟨ms, b⟩ := q
   simp only at hp ⊢
   by_cases he : ms = []
   ·
    subst he
    have hb : b = a + 1 := by simpa using hp
    rw [if_neg (by omega), if_pos rfl, hb]
   ·
    have := List.length_pos_iff.2 he
    rw [if_pos (by omega), if_neg he]
    cases mustS L b 0x38 <;> rfl
  ·
   rw [h]
   obtain ⟨q, hq⟩ : ∃ q, q = manyDF L 0x37 L.length (a + 1) := ⟨_, rfl⟩
   rw [← hq] at hp h' ⊢
   obtain ⟨ms, b⟩ := q
   simp only at hp h' ⊢
   by_cases he : ms = []
   ·
    subst he
    have hb : b = a + 1 := by simpa using hp
    rw [if_pos rfl]
    subst hb
    show none = (mustS L (a + 1) 3).map _
    rw [must_not h' (by decide)]
    rfl
   · rw [if_neg he, must_not h' (by decide)]
end Go.Fw

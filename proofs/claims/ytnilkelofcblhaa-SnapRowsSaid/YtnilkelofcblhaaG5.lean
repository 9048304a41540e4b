/- Rows on the grid: what SnapRows builds (plain). -/
import Derived.Test.YtnilkelofcblhaaG4
import Derived.Test.YtnilkelofcblhaaS9
set_option linter.unusedSimpArgs false
set_option linter.unusedVariables false
-- VALS: zAV, zC, ratAV, ratC, ptAV, ptC, sgAV, sgC, dAV, dC, d3AV, d3C, ratD, RD.av, DP.av, ptI, dpC, dotAV
namespace Go.Fw
open Go Go.Proofs Go.IntWalk

def T3 : Type := Int × Int × Int
def dotP (a : Int × Int × Int) : FP := dotF a.1 a.2.1 a.2.2
def nearA (a : Int × Int × Int) : Int × Int := (intR (nearX (dotD a)), intR (nearY (dotD a)))
def okA (a : Int × Int × Int) : Bool := near18B (dotD a)
def whA (a : Int × Int × Int) : Bool := whole18B (dotD a)
theorem nearX_q (a : Int × Int × Int) : nearX (dotD a) = nearQ (dotP a).x.q := nearR_q (a := ⟨a.1, underI a.2.2⟩) (dotD_w a)
theorem nearY_q (a : Int × Int × Int) : nearY (dotD a) = nearQ (dotP a).y.q := nearR_q (a := ⟨a.2.1, underI a.2.2⟩) (dotD_w a)
theorem nearP_A (a : Int × Int × Int) : nearP (dotP a) = if okA a = true then some (nearA a) else none := by
  have h1 : okA a = (decide (inR (nearX (dotD a))) && decide (inR (nearY (dotD a)))) := rfl
  unfold nearP nearA
  rw [h1, ← nearX_q, ← nearY_q]
  unfold gridZ intR
  have d1 : inC (nearX (dotD a)) ↔ inR (nearX (dotD a)) := Iff.rfl
  have d2 : inC (nearY (dotD a)) ↔ inR (nearY (dotD a)) := Iff.rfl
  by_cases c1 : inR (nearX (dotD a)) <;> by_cases c2 : inR (nearY (dotD a)) <;> simp [d1, d2, c1, c2]
theorem nearP_some (a : Int × Int × Int) : (nearP (dotP a)).isSome = okA a := by
  rw [nearP_A]
  cases okA a <;> rfl
theorem nearV_A {a : Int × Int × Int} (h : okA a = true) : nearV (dotP a) = nearA a := by
  unfold nearV
  rw [nearP_A, if_pos h]
  rfl
theorem den_one {n d : Int} (hd : 0 < d) : (Rat.divInt n d).den = 1 ↔ n % d = 0 := by
  have h1 := floor_q (n := n) hd
  have h2 := dv_mul (x := n) hd
  constructor
  · intro h
    have e : ((Rat.divInt n d).num : Rat) = Rat.divInt n d := by
      apply Rat.ext
      · rfl
      · rw [h]; rfl
    rw [← e, ← Rat.intCast_mul, Rat.intCast_inj] at h2
    rw [h2, Int.mul_emod_left]
  · intro h
    obtain ⟨k, hk⟩ := Int.dvd_of_emod_eq_zero h
    have e : Rat.divInt n d = (k : Rat) := dv_of hd (by rw [hk, Rat.intCast_mul]; grind)
    rw [e]
    rfl
theorem wholeP_A (a : Int × Int × Int) : wholeP (dotP a) = whA a := by
  have h1 : whA a = (((a.1 % underI a.2.2).sign == 0) && ((a.2.1 % underI a.2.2).sign == 0)) := rfl
  have h2 : wholeP (dotP a) = (decide ((Rat.divInt a.1 (underI a.2.2)).den = 1) && decide ((Rat.divInt a.2.1 (underI a.2.2)).den = 1)) := rfl
  have e : ∀ z : Int, ((z.sign == 0) = decide (z = 0)) := fun z => by
    rw [Bool.eq_iff_iff, beq_iff_eq, decide_eq_true_eq, Int.sign_eq_zero_iff_zero]
  have hu : (0 : Int) < underI a.2.2 := by have := underI_pos a.2.2; omega
  rw [h1, h2, e, e]
  congr 1 <;> exact decide_eq_decide.2 (den_one hu)

/-- The rows: as the program has them, as the document has them. -/
def rowD (r : List (Int × Int × Int)) : AV := .slc false 3 r.length (dotsI r)
def rowA (r : List (Int × Int × Int)) : List AV := ptsC (r.map dotP)
def rowB (r : List (Int × Int × Int)) : List AV := ptsI (r.map nearA)
def rowsA (R : List (List (Int × Int × Int))) : List AV := R.map fun r => .slc false 8 r.length (rowA r)
def rowsB (R : List (List (Int × Int × Int))) : List AV := R.map fun r => .slc false 2 r.length (rowB r)
def okR (R : List (List (Int × Int × Int))) : Bool := R.all fun r => r.all okA
def whR (R : List (List (Int × Int × Int))) : Bool := R.all fun r => r.all whA
theorem rowA_snoc (r : List (Int × Int × Int)) (a : Int × Int × Int) : rowA (r ++ [a]) = rowA r ++ ptC (dotP a) := by
  unfold rowA ptsC; rw [List.map_append, List.flatMap_append]; simp
theorem rowB_snoc (r : List (Int × Int × Int)) (a : Int × Int × Int) : rowB (r ++ [a]) = rowB r ++ ptI (nearA a) := by
  unfold rowB ptsI; rw [List.map_append, List.flatMap_append]; simp
theorem rowsA_snoc (R : List (List (Int × Int × Int))) (r : List (Int × Int × Int)) : rowsA (R ++ [r]) = rowsA R ++ [.slc false 8 r.length (rowA r)] := by
  unfold rowsA; rw [List.map_append]; rfl
theorem rowsB_snoc (R : List (List (Int × Int × Int))) (r : List (Int × Int × Int)) : rowsB (R ++ [r]) = rowsB R ++ [.slc false 2 r.length (rowB r)] := by
  unfold rowsB; rw [List.map_append]; rfl
theorem okR_snoc (R : List (List (Int × Int × Int))) (r : List (Int × Int × Int)) : okR (R ++ [r]) = (okR R && r.all okA) := by
  unfold okR; rw [List.all_append]; simp
theorem whR_snoc (R : List (List (Int × Int × Int))) (r : List (Int × Int × Int)) : whR (R ++ [r]) = (whR R && r.all whA) := by
  unfold whR; rw [List.all_append]; simp
theorem all_snoc {α : Type} (p : α → Bool) (r : List α) (a : α) : (r ++ [a]).all p = (r.all p && p a) := by
  rw [List.all_append]; simp
theorem rowA_len (r : List (Int × Int × Int)) : (rowA r).length = r.length * 8 := by unfold rowA; rw [ptsC_len, List.length_map]
theorem rowB_len (r : List (Int × Int × Int)) : (rowB r).length = r.length * 2 := by unfold rowB; rw [ptsI_len, List.length_map]
theorem rowA_refs (r : List (Int × Int × Int)) : refsL (rowA r) = [] := ptsC_refs _
theorem rowB_refs (r : List (Int × Int × Int)) : refsL (rowB r) = [] := ptsI_refs _
theorem rowsA_len (R : List (List (Int × Int × Int))) : (rowsA R).length = R.length := by unfold rowsA; rw [List.length_map]
theorem rowsB_len (R : List (List (Int × Int × Int))) : (rowsB R).length = R.length := by unfold rowsB; rw [List.length_map]
theorem slcs_refs {α : Type} (z : Nat) (n : α → Nat) (g : α → List AV) (R : List α) : refsL (R.map fun r => AV.slc false z (n r) (g r)) = [] := by
  induction R with
  | nil => rfl
  | cons x t ih => rw [List.map_cons, refsL_cons, ih]; rfl
theorem rowsA_refs (R : List (List (Int × Int × Int))) : refsL (rowsA R) = [] := slcs_refs _ _ _ R
theorem rowsB_refs (R : List (List (Int × Int × Int))) : refsL (rowsB R) = [] := slcs_refs _ _ _ R
theorem rowsA_eq (R : List (List (Int × Int × Int))) : (R.map (·.map dotP)).map rowC = rowsA R := by
  unfold rowsA rowC rowA
  rw [List.map_map]
  exact List.map_congr_left fun r _ => by simp
theorem rowsB_eq {R : List (List (Int × Int × Int))} (h : okR R = true) : outC (R.map (·.map dotP)) = rowsB R := by
  unfold outC rowsB rowI rowB
  rw [List.map_map]
  refine List.map_congr_left fun r hr => ?_
  have h1 := List.all_eq_true.1 (List.all_eq_true.1 h r hr)
  show AV.slc false 2 (r.map dotP).length (ptsI ((r.map dotP).map nearV)) = _
  rw [List.length_map, List.map_map]
  have e : r.map (nearV ∘ dotP) = r.map nearA := List.map_congr_left fun a ha => nearV_A (h1 a ha)
  rw [e]
theorem rowsOk_eq (R : List (List (Int × Int × Int))) : rowsOk (R.map (·.map dotP)) = okR R := by
  unfold rowsOk okR
  rw [List.all_map]
  congr 1
  funext r
  show (r.map dotP).all _ = _
  rw [List.all_map]
  congr 1
  funext a
  exact nearP_some a
theorem wholeB_eq (R : List (List (Int × Int × Int))) : wholeB (R.map (·.map dotP)) = whR R := by
  unfold wholeB whR
  rw [List.all_map]
  congr 1
  funext r
  show (r.map dotP).all _ = _
  rw [List.all_map]
  congr 1
  funext a
  exact wholeP_A a
/-- What the program answers. -/
theorem snapRows_A (R : List (List (Int × Int × Int))) : rowsAV (R.map (·.map dotP)) = if okR R = true then .tup [.slc false 1 R.length (rowsB R), i64V 0] else .tup [.v (.slice none 0 0), i64V 26] := by
  unfold rowsAV
  rw [rowsOk_eq]
  by_cases h : okR R = true
  · rw [if_pos h, if_pos h, rowsB_eq h, List.length_map]
  · rw [if_neg h, if_neg h]
theorem rowB_at (r : List (Int × Int × Int)) (k : Nat) (h : k < r.length) : ∃ (q : Int × Int) (t : List AV), (rowB r).drop (k * 2) = i64V q.1 :: i64V q.2 :: t := by
  have hk : k < (r.map nearA).length := by rw [List.length_map]; exact h
  refine ⟨(r.map nearA)[k], ?_⟩
  unfold rowB
  generalize r.map nearA = m at hk
  clear h
  induction m generalizing k with
  | nil => cases hk
  | cons x m ih =>
    cases k with
    | zero => exact ⟨ptsI m, rfl⟩
    | succ k =>
      obtain ⟨t, ht⟩ := ih k (by simpa using hk)
      refine ⟨t, ?_⟩
      have e : (k + 1) * 2 = (ptI x).length + k * 2 := by simp [ptI]; omega
      show (ptI x ++ ptsI m).drop _ = _
      rw [e, List.drop_append, Nat.add_sub_cancel_left, ht, List.drop_eq_nil_of_le (Nat.le_add_right _ _)]
      rfl
theorem rowsB_at (R : List (List (Int × Int × Int))) (i : Nat) (h : i < R.length) : ∃ t, (rowsB R).drop i = .slc false 2 R[i].length (rowB R[i]) :: t := by
  refine ⟨(rowsB R).drop (i + 1), ?_⟩
  rw [List.drop_eq_getElem_cons (by rw [rowsB_len]; exact h)]
  unfold rowsB
  rw [List.getElem_map]
theorem rowD_at (l : List (List (Int × Int × Int))) (i : Nat) (h : i < l.length) : ∃ t, (l.map rowD).drop i = .slc false 3 l[i].length (dotsI l[i]) :: t := by
  refine ⟨(l.map rowD).drop (i + 1), ?_⟩
  rw [List.drop_eq_getElem_cons (by rw [List.length_map]; exact h), List.getElem_map]
  rfl
theorem rowD_refs (l : List (List (Int × Int × Int))) : refsL (l.map rowD) = [] := slcs_refs _ _ _ l
theorem dotP_sz {a : Int × Int × Int} (h : inD a) : szV (dotP a) ≤ 20 := dot_sz h.1 h.2
end Go.Fw

/- Rows of points. -/
import Derived.Test.YtmmkclefdpmjlaaR8b
set_option linter.unusedSimpArgs false
set_option linter.unusedVariables false
namespace Go.Fw
open Go Go.Proofs Go.IntWalk
def ptsC (l : List FP) : List AV := l.flatMap ptC
theorem ptC_len (p : FP) : (ptC p).length = 8 := rfl
theorem ptsC_len (l : List FP) : (ptsC l).length = l.length * 8 := by
  induction l with
  | nil => rfl
  | cons x t ih => simp [ptsC, ptC_len] at *; omega
theorem ptsC_refs (l : List FP) : refsL (ptsC l) = [] := by
  induction l with
  | nil => rfl
  | cons x t ih => show refsL (ptC x ++ ptsC t) = []; rw [refsL_append, ih]; rfl
theorem ptsC_drop (l : List FP) (i : Nat) : (ptsC l).drop (i * 8) = ptsC (l.drop i) := by
  induction l generalizing i with
  | nil => simp [ptsC]
  | cons x t ih =>
    cases i with
    | zero => simp
    | succ i =>
      have e : (i + 1) * 8 = (ptC x).length + i * 8 := by rw [ptC_len]; omega
      show (ptC x ++ ptsC t).drop _ = _
      rw [e, List.drop_append, Nat.add_sub_cancel_left, ih]
      simp
theorem ptsC_at (l : List FP) (i : Nat) (h : i < l.length) : ∃ t, (ptsC l).drop (i * 8) = ptC l[i] ++ t := by
  refine ⟨ptsC (l.drop (i + 1)), ?_⟩
  rw [ptsC_drop, List.drop_eq_getElem_cons h]
  rfl
end Go.Fw

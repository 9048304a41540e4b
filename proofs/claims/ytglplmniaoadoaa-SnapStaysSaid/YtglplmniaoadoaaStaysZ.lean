/- SnapStays: for every input the law returns true. -/
import Derived.Test.YtglplmniaoadoaaStays
namespace Go.Proofs.Ytglplmniaoadoaa
open Go.ChangeShapes Go.WideShapes Go.ChangeAt Go.RowKit Go.Deep Go.Fw
set_option linter.unusedVariables false

theorem staysNamed : Try.checked.prog.funcNamed Rows.snapStaysRow.func = some 6 := by kernel_rfl
theorem staysJoined : joinedFacts Try.checked.prog 6 Try.f6 Rows.snapStaysSpec Rows.snapStaysRow = true := by kernel_rfl
theorem staysInst : Try.f6.isInstance Try.checked.prog Rows.snapStaysRow.origin Rows.snapStaysRow.targs := of_decide_eq_true (by kernel_rfl)
theorem staysWrap : Try.f6.isWrapper Try.checked.prog Rows.snapStaysRow.wrapper Rows.snapStaysRow.mainSum := by unfold Func.isWrapper; first | (rw [if_pos (by decide +kernel)]; kernel_rfl) | (rw [if_neg (by decide +kernel)]; exact ⟨rfl, rfl⟩)

theorem snap_stays_law : Rows.SnapStaysSaid :=
  OpenClaim.holds_of_wide 6 Try.f6 rfl rfl rfl rfl rfl rfl rfl ⟨rfl, rfl, rfl, rfl, rfl⟩ rfl rfl rfl rfl rfl staysNamed Try.func6 staysJoined
    staysInst staysWrap
    (fun os started H enc _ => liftedStays os started H enc)

#print axioms snap_stays_law
end Go.Proofs.Ytglplmniaoadoaa

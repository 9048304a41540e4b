/- SnapNear: for every input the law returns true. -/
import Derived.Test.YtglplmniaoadoaaNear
namespace Go.Proofs.Ytglplmniaoadoaa
open Go.ChangeShapes Go.WideShapes Go.ChangeAt Go.RowKit Go.Deep Go.Fw
set_option linter.unusedVariables false

theorem nearNamed : Try.checked.prog.funcNamed Rows.snapNearRow.func = some 4 := by kernel_rfl
theorem nearJoined : joinedFacts Try.checked.prog 4 Try.f4 Rows.snapNearSpec Rows.snapNearRow = true := by kernel_rfl
theorem nearInst : Try.f4.isInstance Try.checked.prog Rows.snapNearRow.origin Rows.snapNearRow.targs := of_decide_eq_true (by kernel_rfl)
theorem nearWrap : Try.f4.isWrapper Try.checked.prog Rows.snapNearRow.wrapper Rows.snapNearRow.mainSum := by unfold Func.isWrapper; first | (rw [if_pos (by decide +kernel)]; kernel_rfl) | (rw [if_neg (by decide +kernel)]; exact ⟨rfl, rfl⟩)

theorem snap_near_law : Rows.SnapNearSaid :=
  OpenClaim.holds_of_wide 4 Try.f4 rfl rfl rfl rfl rfl rfl rfl ⟨rfl, rfl, rfl, rfl, rfl⟩ rfl rfl rfl rfl rfl nearNamed Try.func4 nearJoined
    nearInst nearWrap
    (fun os started H enc _ => liftedNear os started H enc)

#print axioms snap_near_law
end Go.Proofs.Ytglplmniaoadoaa

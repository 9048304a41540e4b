/- The document's Clip (11). -/
import Derived.Test.YtmmkclefdpmjlaaV12b
set_option linter.unusedSimpArgs false
set_option linter.unusedVariables false
-- VALS: rAV, rC, dAV, dC, d3AV, d3C, dpC
namespace Go.Fw
open Go Go.Proofs Go.IntWalk
set_option linter.unusedSimpArgs false
set_option maxRecDepth 100000
set_option maxHeartbeats 20000000
def dpC (p : DP) : List AV := d3C p.x p.y p.w
def dpsC (l : List DP) : List AV := l.flatMap dpC
theorem dpC_len (p : DP) : (dpC p).length = 6 := rfl
theorem dpsC_len (l : List DP) : (dpsC l).length = l.length * 6 := by
  induction l with
  | nil => rfl
  | cons x t ih => simp [dpsC, dpC_len] at *; omega
theorem dpsC_refs (l : List DP) : refsL (dpsC l) = [] := by
  induction l with
  | nil => rfl
  | cons x t ih => show refsL (dpC x ++ dpsC t) = []; rw [refsL_append, ih]; rfl
theorem dpsC_drop (l : List DP) (i : Nat) : (dpsC l).drop (i * 6) = dpsC (l.drop i) := by
  induction l generalizing i with
  | nil => simp [dpsC]
  | cons x t ih =>
    cases i with
    | zero => simp
    | succ i =>
      have e : (i + 1) * 6 = (dpC x).length + i * 6 := by rw [dpC_len]; omega
      show (dpC x ++ dpsC t).drop _ = _
      rw [e, List.drop_append, Nat.add_sub_cancel_left, ih]
      simp
theorem dpsC_at (l : List DP) (i : Nat) (h : i < l.length) : ∃ t, (dpsC l).drop (i * 6) = dpC l[i] ++ t := by
  refine ⟨dpsC (l.drop (i + 1)), ?_⟩
  rw [dpsC_drop, List.drop_eq_getElem_cons h]
  rfl
def sd3 (a b c : DP) : Int := cmpZ (lessX a b * lessY a c) (lessY a b * lessX a c)
def clipR (a b c d : DP) : List DP :=
  if 0 ≤ sd3 c d a ∧ 0 ≤ sd3 c d b then (if cmp3 a b = 0 then [a] else [a, b])
  else if sd3 c d a < 0 ∧ sd3 c d b < 0 then []
  else if sd3 c d a = 0 then [a]
  else if sd3 c d b = 0 then [b]
  else if 0 < sd3 c d a then [a, crossP a b c d] else [crossP a b c d, b]
open List (map_take map_drop)
attribute [local push_cast] optK_some optK_none optK_ite optK_map optK_bind gOn stepK isMem evPure evMem evBin evUn evConv evLen evBuiltin evMinMax evSlice evBuild evAppend evIndex evIndexAddr evField evFieldAddr intBin strBin appDest AS.val AS.mem AS.elems AS.put AS.put' AS.eff AV.cells? AV.isCell AV.refs all_isByte take_byteV drop_byteV strOf_map bndOk bnd partAV ptrAdd killBox catA inOrder fillA setAt ofVal resB upd byteV List.head?_take List.head?_drop List.getElem?_map mkS_env mkS_box mkS_used entry_env entry_box entry_used lk stepD lookIds Oper.looksAt Op.operands Call.operands St.ids refsL renL_append ren renL renBox Box.refs iV i64V boolV dV_getElem dV_app dV_cons toNat_add2 toNat_add1
attribute [local simp ↓] numC_refs numC_isCell numC_cells numC_resB numC_resD numC_ren numC_closeC numC_isOwn
end Go.Fw

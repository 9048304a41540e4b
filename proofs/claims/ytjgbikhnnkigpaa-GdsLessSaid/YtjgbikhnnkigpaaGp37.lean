/- gds: the law GdsReads. -/
import Derived.Test.YtjgbikhnnkigpaaGp35
import Derived.Test.YtjgbikhnnkigpaaGp36
set_option linter.unusedSimpArgs false
set_option linter.unusedVariables false
-- VALS: recAV
namespace Go.Fw
open Go Go.Proofs Go.IntWalk
set_option linter.unusedSimpArgs false
set_option maxRecDepth 100000
set_option maxHeartbeats 4000000
open List (map_take map_drop)
attribute [local push_cast] optK_some optK_none optK_ite optK_map optK_bind gOn stepK isMem evPure evMem evBin evUn evConv evLen evBuiltin evMinMax evSlice evBuild evAppend evIndex evIndexAddr evField evFieldAddr intBin strBin appDest AS.val AS.mem AS.elems AS.put AS.put' AS.eff AV.cells? AV.isCell AV.refs all_isByte take_byteV drop_byteV strOf_map bndOk bnd partAV ptrAdd killBox catA inOrder fillA setAt ofVal resB upd byteV List.head?_take List.head?_drop List.getElem?_map mkS_env mkS_box mkS_used entry_env entry_box entry_used lk stepD lookIds Oper.looksAt Op.operands Call.operands St.ids refsL renL_append dV_take dV_drop ren renL renBox Box.refs iV i64V boolV dV_getElem dV_app dV_cons toNat_add2 toNat_add1
theorem same_none : Eval Try.prog 38 [.agg [nilV, nilV], .agg [nilV, nilV]] (.ret (.v (.bool true))) := by
 have h := sameLib_ok ([], []) ([], []) true (by simp)
 have s : Sub (.agg [nilV, nilV]) (libAV ([], [])) := Sub.agg (SubL.cons (Sub.nil false 3) (SubL.cons (Sub.nil false 2) SubL.nil))
 exact Eval.arg h (SubL.cons s (SubL.cons s SubL.nil))
end Go.Fw

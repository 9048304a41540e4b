/- plane: Pt.Cmp. -/
import Derived.Test.YtbabekaohfcjbaaR10
set_option linter.unusedSimpArgs false
set_option linter.unusedVariables false
-- VALS: zAV, zC, ratAV, ratC, ptAV, ptC
namespace Go.Fw
open Go Go.Proofs Go.IntWalk
set_option linter.unusedSimpArgs false
set_option maxRecDepth 100000
set_option maxHeartbeats 4000000
open List (map_take map_drop)
attribute [local push_cast] optK_some optK_none optK_ite optK_map optK_bind gOn stepK isMem evPure evMem evBin evUn evConv evLen evBuiltin evMinMax evSlice evBuild evAppend evIndex evIndexAddr evField evFieldAddr intBin strBin appDest AS.val AS.mem AS.elems AS.put AS.put' AS.eff AV.cells? AV.isCell AV.refs all_isByte take_byteV drop_byteV strOf_map bndOk bnd partAV ptrAdd killBox catA inOrder fillA setAt ofVal resB upd byteV List.head?_take List.head?_drop List.getElem?_map mkS_env mkS_box mkS_used entry_env entry_box entry_used lk stepD lookIds Oper.looksAt Op.operands Call.operands St.ids refsL renL_append ren renL renBox Box.refs iV i64V boolV dV_getElem dV_app dV_cons toNat_add2 toNat_add1
attribute [local simp ↓] numC_refs numC_isCell numC_cells numC_resB numC_resD numC_ren numC_closeC numC_isOwn

theorem cmpP_ok (p q : FP) (h : szV p + szV q ≤ 200000) : Eval Try.prog 11 [ptAV p, ptAV q] (.ret (i64V (cmpP p q))) := by
  refine Eval.intro Try.func11 rfl Try.call11 _ _ (Nat.le_of_ble_eq_true rfl) (by simp [-map_take,-map_drop, AV.refs, refsL, natAV, zAV, zC, ratAV, ratC, ptAV, ptC, push_cast]) fun hs0 => ?_
  simp only [szV] at h
  have e1 := cmpR_ok p.x q.x (by omega)
  have e2 := cmpR_ok p.y q.y (by omega)
  simp only [cmpP]
  obtain ⟨a, ha⟩ : ∃ a, a = cmpZ (p.x.q.num * q.x.q.den) (q.x.q.num * p.x.q.den) := ⟨_, rfl⟩
  obtain ⟨b, hb⟩ : ∃ b, b = cmpZ (p.y.q.num * q.y.q.den) (q.y.q.num * p.y.q.den) := ⟨_, rfl⟩
  rw [← ha] at e1 ⊢
  rw [← hb] at e2 ⊢
  clear ha hb
  have ef := first_ok false a b
  repeat' (first
    | with_reducible first | apply thenW_n | apply W_seq
    | with_reducible refine W_region (by first | decide | (with_unfolding_all rfl)) ?_
    | (rw [vcn]; (try simp [-map_take,-map_drop, push_cast, ptAV, ptC, ratAV, ratC, zAV, zC]))
    | with_reducible refine W_drawn mixed (by decide) (by kernel_rfl) ?_
    | (rw [vcnD]; (try simp [-map_take,-map_drop, push_cast, ptAV, ptC, ratAV, ratC, zAV, zC]))
    | fail)
  refine callD_of (e1) rfl rfl rfl ?_
  try dsimp only
  repeat' (first
    | (rw [vcnD]; (try simp [-map_take,-map_drop, push_cast, ptAV, ptC, ratAV, ratC, zAV, zC]))
    | fail)
  refine callD_of (e2) rfl rfl rfl ?_
  try dsimp only
  repeat' (first
    | (rw [vcnD]; (try simp [-map_take,-map_drop, push_cast, ptAV, ptC]))
    | fail)
  refine callD_frz 15 900 _ (by simp [-map_take,-map_drop, refsL, AV.refs, push_cast]) rfl (by simp [-map_take,-map_drop, refsL, AV.refs, push_cast]) ?_ (ef) (by simp [-map_take,-map_drop, natAV, zAV, zC, ratAV, ratC, ptAV, ptC, AV.refs, refsL, push_cast]) rfl (by simp [-map_take,-map_drop, mkS_used, entry_used]) ?_
  · first | rfl | (simp [-map_take,-map_drop, refsL, AV.refs, resDL, resD, resB, upd, mkS_env, mkS_box, entry_env, entry_box, lk, push_cast]; done) | (simp [-map_take,-map_drop, refsL, AV.refs, resDL, resD, resB, upd, mkS_env, mkS_box, entry_env, entry_box, lk, push_cast]; rw [List.take_of_length_le (by simp [-map_take,-map_drop])]; done) | (simp [-map_take,-map_drop, refsL, AV.refs, resDL, resD, resB, upd, mkS_env, mkS_box, entry_env, entry_box, lk, push_cast]; fail_if_success done)
  try dsimp only
  repeat' (first
    | with_reducible first | apply thenW_n | apply W_ret
    | (rw [vcnD]; (try simp [-map_take,-map_drop, push_cast]))
    | refine And.intro (by first | omega | kernel_rfl) ?_
    | fail)
  simp [-map_take,-map_drop, post, resAV, resAll, resOne, closeV, closeC, closeL, resD, resDL, push_cast]

end Go.Fw

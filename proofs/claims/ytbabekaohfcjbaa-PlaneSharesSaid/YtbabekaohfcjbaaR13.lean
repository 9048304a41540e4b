/- plane: rising, within, On. -/
import Derived.Test.YtbabekaohfcjbaaR11
import Derived.Test.YtbabekaohfcjbaaR12
set_option linter.unusedSimpArgs false
set_option linter.unusedVariables false
-- VALS: zAV, zC, ratAV, ratC, ptAV, ptC, sgAV, sgC
namespace Go.Fw
open Go Go.Proofs Go.IntWalk
set_option linter.unusedSimpArgs false
set_option maxRecDepth 100000
set_option maxHeartbeats 4000000
open List (map_take map_drop)
attribute [local push_cast] optK_some optK_none optK_ite optK_map optK_bind gOn stepK isMem evPure evMem evBin evUn evConv evLen evBuiltin evMinMax evSlice evBuild evAppend evIndex evIndexAddr evField evFieldAddr intBin strBin appDest AS.val AS.mem AS.elems AS.put AS.put' AS.eff AV.cells? AV.isCell AV.refs all_isByte take_byteV drop_byteV strOf_map bndOk bnd partAV ptrAdd killBox catA inOrder fillA setAt ofVal resB upd byteV List.head?_take List.head?_drop List.getElem?_map mkS_env mkS_box mkS_used entry_env entry_box entry_used lk stepD lookIds Oper.looksAt Op.operands Call.operands St.ids refsL renL_append ren renL renBox Box.refs iV i64V boolV dV_getElem dV_app dV_cons toNat_add2 toNat_add1
attribute [local simp ↓] numC_refs numC_isCell numC_cells numC_resB numC_resD numC_ren numC_closeC numC_isOwn

def risingF (s : FSg) : FSg := if 0 < cmpP s.A s.B then ⟨s.B, s.A⟩ else s
def withinF (s : FSg) (p : FP) : Bool := decide (cmpP (risingF s).A p ≤ 0) && decide (cmpP p (risingF s).B ≤ 0)
def onF (s : FSg) (p : FP) : Bool := withinF s p && (sideOf s.A s.B p == 0)
def szS (s : FSg) : Nat := szV s.A + szV s.B
theorem szS_rising (s : FSg) : szS (risingF s) = szS s := by
  unfold risingF
  split
  · unfold szS; simp only; omega
  · rfl

theorem rising_ok (s : FSg) (h : szS s ≤ 200000) : Eval Try.prog 70 [sgAV s] (.ret (sgAV (risingF s))) := by
  refine Eval.intro Try.func70 rfl Try.call70 _ _ (Nat.le_of_ble_eq_true rfl) (by simp [-map_take,-map_drop, AV.refs, refsL, natAV, zAV, zC, ratAV, ratC, ptAV, ptC, sgAV, sgC, push_cast]) fun hs0 => ?_
  have e1 := cmpP_ok s.A s.B h
  obtain ⟨c, hc⟩ : ∃ c, c = cmpP s.A s.B := ⟨_, rfl⟩
  rw [← hc] at e1
  by_cases h0 : 0 < c
  · have g1 : (0 < c) = True := by simp [-map_take,-map_drop, h0]
    have hr : risingF s = ⟨s.B, s.A⟩ := by unfold risingF; rw [← hc, if_pos h0]
    rw [hr]
    clear hr hc
    repeat' (first
      | with_reducible first | apply thenW_n | apply W_seq
      | with_reducible refine W_region (by first | decide | (with_unfolding_all rfl)) ?_
      | (rw [vcn]; (try simp [-map_take,-map_drop, push_cast, sgAV, sgC, ptAV, ptC, ratAV, ratC, zAV, zC, g1]))
      | fail)
    refine CallG_of (e1) rfl rfl rfl ?_
    try dsimp only
    repeat' (first
      | with_reducible first | apply thenW_n | apply thenW_ret | apply W_seq | apply W_ret
      | with_reducible refine W_region (by first | decide | (with_unfolding_all rfl)) ?_
      | (rw [vcn]; (try simp [-map_take,-map_drop, push_cast, sgAV, sgC, ptAV, ptC, ratAV, ratC, zAV, zC, g1]))
      | (with_reducible refine W_condW ?_; (try simp [-map_take,-map_drop, AS.val, upd, resB, mkS_env, mkS_box, lk, entry_env, condW_true, condW_false, sgAV, sgC, ptAV, ptC, ratAV, ratC, zAV, zC, g1]))
      | fail)
    simp [-map_take,-map_drop, post, resAV, resAll, resOne, closeV, closeC, closeL, resD, resDL, push_cast, sgAV, sgC, ptAV, ptC, ratAV, ratC, zAV, zC]
  · have g1 : (0 < c) = False := by simp [-map_take,-map_drop, h0]
    have hr : risingF s = s := by unfold risingF; rw [← hc, if_neg h0]
    rw [hr]
    clear hr hc
    repeat' (first
      | with_reducible first | apply thenW_n | apply W_seq
      | with_reducible refine W_region (by first | decide | (with_unfolding_all rfl)) ?_
      | (rw [vcn]; (try simp [-map_take,-map_drop, push_cast, sgAV, sgC, ptAV, ptC, ratAV, ratC, zAV, zC, g1]))
      | fail)
    refine CallG_of (e1) rfl rfl rfl ?_
    try dsimp only
    repeat' (first
      | with_reducible first | apply thenW_n | apply W_seq | apply W_skip | apply W_ret
      | with_reducible refine W_region (by first | decide | (with_unfolding_all rfl)) ?_
      | (rw [vcn]; (try simp [-map_take,-map_drop, push_cast, sgAV, sgC, ptAV, ptC, ratAV, ratC, zAV, zC, g1]))
      | (with_reducible refine W_condW ?_; (try simp [-map_take,-map_drop, AS.val, upd, resB, mkS_env, mkS_box, lk, entry_env, condW_true, condW_false, sgAV, sgC, ptAV, ptC, ratAV, ratC, zAV, zC, g1]))
      | fail)
    simp [-map_take,-map_drop, post, resAV, resAll, resOne, closeV, closeC, closeL, resD, resDL, push_cast, sgAV, sgC, ptAV, ptC, ratAV, ratC, zAV, zC]

theorem within_ok (s : FSg) (p : FP) (h : szS s + szV p ≤ 200000) : Eval Try.prog 47 [sgAV s, ptAV p] (.ret (.v (.bool (withinF s p)))) := by
  refine Eval.intro Try.func47 rfl Try.call47 _ _ (Nat.le_of_ble_eq_true rfl) (by simp [-map_take,-map_drop, AV.refs, refsL, natAV, zAV, zC, ratAV, ratC, ptAV, ptC, sgAV, sgC, push_cast]) fun hs0 => ?_
  have e1 := rising_ok s (by omega)
  have hs := szS_rising s
  obtain ⟨r, hr⟩ : ∃ r, r = risingF s := ⟨_, rfl⟩
  have hw : withinF s p = (decide (cmpP r.A p ≤ 0) && decide (cmpP p r.B ≤ 0)) := by rw [hr]; rfl
  rw [hw]
  rw [← hr] at e1 hs
  unfold szS at hs h
  have e2 := cmpP_ok r.A p (by omega)
  have e3 := cmpP_ok p r.B (by omega)
  obtain ⟨a, ha⟩ : ∃ a, a = cmpP r.A p := ⟨_, rfl⟩
  obtain ⟨b, hb⟩ : ∃ b, b = cmpP p r.B := ⟨_, rfl⟩
  rw [← ha] at e2 ⊢
  rw [← hb] at e3 ⊢
  clear ha hb hw hr
  by_cases h0 : a ≤ 0
  · have g1 : (a ≤ 0) = True := by simp [-map_take,-map_drop, h0]
    repeat' (first
      | with_reducible first | apply thenW_n | apply W_seq
      | with_reducible refine W_region (by first | decide | (with_unfolding_all rfl)) ?_
      | (rw [vcn]; (try simp [-map_take,-map_drop, push_cast, sgAV, sgC, ptAV, ptC, ratAV, ratC, zAV, zC, g1]))
      | fail)
    refine CallG_of (e1) rfl rfl rfl ?_
    try dsimp only
    repeat' (first
      | with_reducible first | apply thenW_n | apply W_seq
      | with_reducible refine W_region (by first | decide | (with_unfolding_all rfl)) ?_
      | (rw [vcn]; (try simp [-map_take,-map_drop, push_cast, sgAV, sgC, ptAV, ptC, ratAV, ratC, zAV, zC, g1]))
      | fail)
    refine CallG_of (e2) rfl rfl rfl ?_
    try dsimp only
    repeat' (first
      | (rw [vcn]; (try simp [-map_take,-map_drop, push_cast, sgAV, sgC, ptAV, ptC, ratAV, ratC, zAV, zC, g1]))
      | fail)
    refine CallG_of (e3) rfl rfl rfl ?_
    try dsimp only
    repeat' (first
      | with_reducible first | apply thenW_n | apply W_ret
      | (rw [vcn]; (try simp [-map_take,-map_drop, push_cast, sgAV, sgC, ptAV, ptC, ratAV, ratC, zAV, zC, g1]))
      | fail)
    simp [-map_take,-map_drop, post, resAV, resAll, resOne, closeV, closeC, closeL, resD, resDL, push_cast, g1]
  · have g1 : (a ≤ 0) = False := by simp [-map_take,-map_drop]; omega
    repeat' (first
      | with_reducible first | apply thenW_n | apply W_seq
      | with_reducible refine W_region (by first | decide | (with_unfolding_all rfl)) ?_
      | (rw [vcn]; (try simp [-map_take,-map_drop, push_cast, sgAV, sgC, ptAV, ptC, ratAV, ratC, zAV, zC, g1]))
      | fail)
    refine CallG_of (e1) rfl rfl rfl ?_
    try dsimp only
    repeat' (first
      | with_reducible first | apply thenW_n | apply W_seq
      | with_reducible refine W_region (by first | decide | (with_unfolding_all rfl)) ?_
      | (rw [vcn]; (try simp [-map_take,-map_drop, push_cast, sgAV, sgC, ptAV, ptC, ratAV, ratC, zAV, zC, g1]))
      | fail)
    refine CallG_of (e2) rfl rfl rfl ?_
    try dsimp only
    repeat' (first
      | with_reducible first | apply thenW_n | apply W_ret
      | (rw [vcn]; (try simp [-map_take,-map_drop, push_cast, sgAV, sgC, ptAV, ptC, ratAV, ratC, zAV, zC, g1]))
      | fail)
    simp [-map_take,-map_drop, post, resAV, resAll, resOne, closeV, closeC, closeL, resD, resDL, push_cast, g1]

theorem on_ok (s : FSg) (p : FP) (h : szS s + szV p ≤ 10000) : Eval Try.prog 12 [sgAV s, ptAV p] (.ret (.v (.bool (onF s p)))) := by
  refine Eval.intro Try.func12 rfl Try.call12 _ _ (Nat.le_of_ble_eq_true rfl) (by simp [-map_take,-map_drop, AV.refs, refsL, natAV, zAV, zC, ratAV, ratC, ptAV, ptC, sgAV, sgC, push_cast]) fun hs0 => ?_
  have e1 := within_ok s p (by omega)
  unfold szS at h
  have e2 := side_ok s.A s.B p (by omega)
  unfold onF
  obtain ⟨w, hw⟩ : ∃ w, w = withinF s p := ⟨_, rfl⟩
  obtain ⟨c, hc⟩ : ∃ c, c = sideOf s.A s.B p := ⟨_, rfl⟩
  rw [← hw] at e1 ⊢
  rw [← hc] at e2 ⊢
  clear hw hc
  cases w
  · repeat' (first
      | with_reducible first | apply thenW_n | apply W_seq
      | with_reducible refine W_region (by first | decide | (with_unfolding_all rfl)) ?_
      | (rw [vcn]; (try simp [-map_take,-map_drop, push_cast, sgAV, sgC, ptAV, ptC, ratAV, ratC, zAV, zC]))
      | fail)
    refine CallG_of (e1) rfl rfl rfl ?_
    try dsimp only
    repeat' (first
      | with_reducible first | apply thenW_n | apply W_ret
      | (rw [vcn]; (try simp [-map_take,-map_drop, push_cast, sgAV, sgC, ptAV, ptC, ratAV, ratC, zAV, zC]))
      | fail)
    simp [-map_take,-map_drop, post, resAV, resAll, resOne, closeV, closeC, closeL, resD, resDL, push_cast]
  · repeat' (first
      | with_reducible first | apply thenW_n | apply W_seq
      | with_reducible refine W_region (by first | decide | (with_unfolding_all rfl)) ?_
      | (rw [vcn]; (try simp [-map_take,-map_drop, push_cast, sgAV, sgC, ptAV, ptC, ratAV, ratC, zAV, zC]))
      | fail)
    refine CallG_of (e1) rfl rfl rfl ?_
    try dsimp only
    repeat' (first
      | (rw [vcn]; (try simp [-map_take,-map_drop, push_cast, sgAV, sgC, ptAV, ptC, ratAV, ratC, zAV, zC]))
      | fail)
    refine CallG_of (e2) rfl rfl rfl ?_
    try dsimp only
    repeat' (first
      | with_reducible first | apply thenW_n | apply W_ret
      | (rw [vcn]; (try simp [-map_take,-map_drop, push_cast, sgAV, sgC, ptAV, ptC, ratAV, ratC, zAV, zC]))
      | fail)
    simp [-map_take,-map_drop, post, resAV, resAll, resOne, closeV, closeC, closeL, resD, resDL, push_cast]
end Go.Fw

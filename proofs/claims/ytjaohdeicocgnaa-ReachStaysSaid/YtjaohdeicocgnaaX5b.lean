import Derived.Test.YtjaohdeicocgnaaX3b
import Derived.Test.YtjaohdeicocgnaaX1b
import Derived.Test.YtjaohdeicocgnaaDtb
import Derived.Test.YtjaohdeicocgnaaV1
set_option linter.unusedSimpArgs false
set_option linter.unusedVariables false
/- law12: seg, at, known; ReachBetween. -/
-- VALS: zAV, zC, ratAV, ratC, ptAV, ptC, sgAV, sgC, d3AV, d3sAV, d3C, dAV, dC, dotAV
namespace Go.Fw
open Go Go.Proofs Go.IntWalk
set_option linter.unusedSimpArgs false
set_option maxRecDepth 100000
set_option maxHeartbeats 20000000

theorem known12_1 : ratText (leastF (gridsF 0 0 4 0) (gridsF 1 2 9 9)).q = [52] := by decide +kernel
theorem known12_2 : ratText (mostF (gridsF 0 0 4 0) (gridsF 1 2 9 9)).q = [49, 54, 50] := by decide +kernel
theorem known12_3 : closerB (gridsF 0 0 4 0) (gridsF 4 0 4 9) 1 = true := by decide +kernel
theorem known12_4 : closerB (gridsF 0 0 0 0) (gridsF 0 0 0 0) 1 = false := by decide +kernel
/-- What seg tells. -/
def d3sAV (a b : Int × Int × Int) : AV := .agg (d3C a.1 a.2.1 (underI a.2.2) ++ d3C b.1 b.2.1 (underI b.2.2))
theorem sz_grids {a b c d : Int} (ha : inI a) (hb : inI b) (hc : inI c) (hd : inI d) : szS (gridsF a b c d) ≤ 16 := by
  have h1 := (HD.grid ha hb).sz
  have h2 := (HD.grid hc hd).sz
  show szV (gridF a b) + szV (gridF c d) ≤ 16
  omega
theorem sz_dots {a b : Int × Int × Int} (ha : inD a) (hb : inD b) : szS (dotsF a b) ≤ 16 := by
  have h1 := (HD.dot ha).sz
  have h2 := (HD.dot hb).sz
  show szV (dotF a.1 a.2.1 a.2.2) + szV (dotF b.1 b.2.1 b.2.2) ≤ 16
  omega

open List (map_take map_drop)
attribute [local push_cast] optK_some optK_none optK_ite optK_map optK_bind gOn stepK isMem evPure evMem evBin evUn evConv evLen evBuiltin evMinMax evSlice evBuild evAppend evIndex evIndexAddr evField evFieldAddr intBin strBin appDest AS.val AS.mem AS.elems AS.put AS.put' AS.eff AV.cells? AV.isCell AV.refs all_isByte take_byteV drop_byteV strOf_map bndOk bnd partAV ptrAdd killBox catA inOrder fillA setAt ofVal resB upd byteV List.head?_take List.head?_drop List.getElem?_map mkS_env mkS_box mkS_used entry_env entry_box entry_used lk stepD lookIds Oper.looksAt Op.operands Call.operands St.ids refsL renL_append ren renL renBox Box.refs iV i64V boolV dV_getElem dV_app dV_cons toNat_add2 toNat_add1
attribute [local simp ↓] numC_refs numC_isCell numC_cells numC_resB numC_resD numC_ren numC_closeC numC_isOwn
theorem grid12_ok (a b c d : Int) (ha : inI a) (hb : inI b) (hc : inI c) (hd : inI d) : Eval Try.prog 37 [i64V a, i64V b, i64V c, i64V d] (.ret (sgAV (gridsF a b c d))) := by
  refine Eval.intro Try.func37 rfl Try.call37 _ _ (Nat.le_of_ble_eq_true rfl) (by simp [-map_take,-map_drop, AV.refs, refsL, natAV, zAV, zC, ratAV, ratC, ptAV, ptC, sgAV, sgC, d3AV, d3sAV, d3C, dAV, dC, dotAV, push_cast]) fun hs0 => ?_
  have e1 := grid_ok a b ha hb
  have e2 := grid_ok c d hc hd
  unfold gridsF gridF
  obtain ⟨p, hp⟩ : ∃ p : FP, p = ⟨.of a, .of b⟩ := ⟨_, rfl⟩
  obtain ⟨q, hq⟩ : ∃ p : FP, p = ⟨.of c, .of d⟩ := ⟨_, rfl⟩
  rw [← hp] at e1 ⊢
  rw [← hq] at e2 ⊢
  clear hp hq
  repeat' (first
    | with_reducible first | apply thenW_n | apply thenW_ret | apply thenW_exit | apply thenW_panic | apply blockW_n | apply blockW_same | apply blockW_ret | apply blockW_panic | apply loopW_ret | apply loopW_exit | apply loopW_panic | apply joinW_ret | apply joinW_exit | apply joinW_panic | apply W_seq | apply W_block | apply W_skip | apply W_ret | apply W_exit | apply W_label
    | with_reducible refine blockW_other (by decide) ?_
    | with_reducible refine W_region (by first | decide | (with_unfolding_all rfl)) ?_
    | (rw [vcn]; (try simp [-map_take,-map_drop, push_cast]); try simp (disch := omega) only [i64_in, u64_in, shr64i])
    | with_reducible refine W_drawn mixed (by decide) (by kernel_rfl) ?_
    | (rw [vcnD]; (try simp [-map_take,-map_drop, push_cast]); try simp (disch := omega) only [i64_in, u64_in, shr64i])
    | (with_reducible refine W_condW ?_; (try simp [-map_take,-map_drop, AS.val, upd, resB, mkS_env, mkS_box, lk, entry_env, condW_true, condW_false]))
    | (with_reducible refine optK_dV (by first | omega | (simp [-map_take,-map_drop]; omega)) ?_)
    | with_reducible refine optK_dVh (by omega) ?_
    | refine And.intro (by first | omega | kernel_rfl) ?_
    | ((with_reducible refine condW_b (fun hc => ?_) (fun hc => ?_) <;> (try simp [-map_take,-map_drop, Int.ofNat_inj] at hc) <;> (try contradiction)))
    | fail)
  first | refine CallG_of (e1) ?_ ?_ rfl ?_ | refine callD_of (e1) ?_ ?_ rfl ?_
  · first | rfl | (simp [-map_take,-map_drop, natAV, numC, ← limbs.eq_1, push_cast, ptAV, ptC, ratAV, ratC, zAV, zC]; done)
  · first | rfl | simp [-map_take,-map_drop, natAV, zAV, zC, ratAV, ratC, ptAV, ptC, sgAV, sgC, d3AV, d3sAV, d3C, dAV, dC, dotAV, AV.refs, refsL, push_cast]
  try dsimp only
  repeat' (first
    | with_reducible first | apply thenW_n | apply thenW_ret | apply thenW_exit | apply thenW_panic | apply blockW_n | apply blockW_same | apply blockW_ret | apply blockW_panic | apply loopW_ret | apply loopW_exit | apply loopW_panic | apply joinW_ret | apply joinW_exit | apply joinW_panic | apply W_seq | apply W_block | apply W_skip | apply W_ret | apply W_exit | apply W_label
    | with_reducible refine blockW_other (by decide) ?_
    | with_reducible refine W_region (by first | decide | (with_unfolding_all rfl)) ?_
    | (rw [vcn]; (try simp [-map_take,-map_drop, push_cast, ptAV, ptC, ratAV, ratC, zAV, zC]); try simp (disch := omega) only [i64_in, u64_in, shr64i])
    | with_reducible refine W_drawn mixed (by decide) (by kernel_rfl) ?_
    | (rw [vcnD]; (try simp [-map_take,-map_drop, push_cast, ptAV, ptC, ratAV, ratC, zAV, zC]); try simp (disch := omega) only [i64_in, u64_in, shr64i])
    | (with_reducible refine W_condW ?_; (try simp [-map_take,-map_drop, AS.val, upd, resB, mkS_env, mkS_box, lk, entry_env, condW_true, condW_false, ptAV, ptC, ratAV, ratC, zAV, zC]))
    | (with_reducible refine optK_dV (by first | omega | (simp [-map_take,-map_drop]; omega)) ?_)
    | with_reducible refine optK_dVh (by omega) ?_
    | refine And.intro (by first | omega | kernel_rfl) ?_
    | ((with_reducible refine condW_b (fun hc => ?_) (fun hc => ?_) <;> (try simp [-map_take,-map_drop, Int.ofNat_inj] at hc) <;> (try contradiction)))
    | fail)
  first | refine CallG_of (e2) ?_ ?_ rfl ?_ | refine callD_of (e2) ?_ ?_ rfl ?_
  · first | rfl | (simp [-map_take,-map_drop, natAV, numC, ← limbs.eq_1, push_cast, ptAV, ptC, ratAV, ratC, zAV, zC]; done)
  · first | rfl | simp [-map_take,-map_drop, natAV, zAV, zC, ratAV, ratC, ptAV, ptC, sgAV, sgC, d3AV, d3sAV, d3C, dAV, dC, dotAV, AV.refs, refsL, push_cast]
  try dsimp only
  repeat' (first
    | with_reducible first | apply thenW_n | apply thenW_ret | apply thenW_exit | apply thenW_panic | apply blockW_n | apply blockW_same | apply blockW_ret | apply blockW_panic | apply loopW_ret | apply loopW_exit | apply loopW_panic | apply joinW_ret | apply joinW_exit | apply joinW_panic | apply W_seq | apply W_block | apply W_skip | apply W_ret | apply W_exit | apply W_label
    | with_reducible refine blockW_other (by decide) ?_
    | with_reducible refine W_region (by first | decide | (with_unfolding_all rfl)) ?_
    | (rw [vcn]; (try simp [-map_take,-map_drop, push_cast, sgAV, sgC, ptAV, ptC, ratAV, ratC, zAV, zC]); try simp (disch := omega) only [i64_in, u64_in, shr64i])
    | with_reducible refine W_drawn mixed (by decide) (by kernel_rfl) ?_
    | (rw [vcnD]; (try simp [-map_take,-map_drop, push_cast, sgAV, sgC, ptAV, ptC, ratAV, ratC, zAV, zC]); try simp (disch := omega) only [i64_in, u64_in, shr64i])
    | (with_reducible refine W_condW ?_; (try simp [-map_take,-map_drop, AS.val, upd, resB, mkS_env, mkS_box, lk, entry_env, condW_true, condW_false, sgAV, sgC, ptAV, ptC, ratAV, ratC, zAV, zC]))
    | (with_reducible refine optK_dV (by first | omega | (simp [-map_take,-map_drop]; omega)) ?_)
    | with_reducible refine optK_dVh (by omega) ?_
    | refine And.intro (by first | omega | kernel_rfl) ?_
    | ((with_reducible refine condW_b (fun hc => ?_) (fun hc => ?_) <;> (try simp [-map_take,-map_drop, Int.ofNat_inj] at hc) <;> (try contradiction)))
    | fail)
  simp [-map_take,-map_drop, post, resAV, resAll, resOne, closeV, closeC, closeL, resD, resDL, push_cast, sgAV, sgC, ptAV, ptC, ratAV, ratC, zAV, zC]
theorem seg12_ok (a b : Int × Int × Int) (ha : inD a) (hb : inD b) : Eval Try.prog 5 [dotAV a, dotAV b] (.ret (.tup [sgAV (dotsF a b), d3sAV a b])) := by
  refine Eval.intro Try.func5 rfl Try.call5 _ _ (Nat.le_of_ble_eq_true rfl) (by simp [-map_take,-map_drop, AV.refs, refsL, natAV, zAV, zC, ratAV, ratC, ptAV, ptC, sgAV, sgC, d3AV, d3sAV, d3C, dAV, dC, dotAV, push_cast]) fun hs0 => ?_
  have e1 := l11At_ok a.1 a.2.1 a.2.2 ha.1 ha.2
  have e2 := l11At_ok b.1 b.2.1 b.2.2 hb.1 hb.2
  have e3 := at11_ok a.1 a.2.1 a.2.2 ha.1 ha.2
  have e4 := at11_ok b.1 b.2.1 b.2.2 hb.1 hb.2
  unfold dotsF dotAV d3sAV
  obtain ⟨p, hp⟩ : ∃ p, p = dotF a.1 a.2.1 a.2.2 := ⟨_, rfl⟩
  obtain ⟨q, hq⟩ : ∃ p, p = dotF b.1 b.2.1 b.2.2 := ⟨_, rfl⟩
  rw [← hp] at e1 ⊢
  rw [← hq] at e2 ⊢
  obtain ⟨u, hu⟩ : ∃ u, u = underI a.2.2 := ⟨_, rfl⟩
  obtain ⟨v, hv⟩ : ∃ u, u = underI b.2.2 := ⟨_, rfl⟩
  rw [← hu] at e3 ⊢
  rw [← hv] at e4 ⊢
  clear hp hq hu hv
  repeat' (first
    | with_reducible first | apply thenW_n | apply thenW_ret | apply thenW_exit | apply thenW_panic | apply blockW_n | apply blockW_same | apply blockW_ret | apply blockW_panic | apply loopW_ret | apply loopW_exit | apply loopW_panic | apply joinW_ret | apply joinW_exit | apply joinW_panic | apply W_seq | apply W_block | apply W_skip | apply W_ret | apply W_exit | apply W_label
    | with_reducible refine blockW_other (by decide) ?_
    | with_reducible refine W_region (by first | decide | (with_unfolding_all rfl)) ?_
    | (rw [vcn]; (try simp [-map_take,-map_drop, push_cast]); try simp (disch := omega) only [i64_in, u64_in, shr64i])
    | with_reducible refine W_drawn mixed (by decide) (by kernel_rfl) ?_
    | (rw [vcnD]; (try simp [-map_take,-map_drop, push_cast]); try simp (disch := omega) only [i64_in, u64_in, shr64i])
    | (with_reducible refine W_condW ?_; (try simp [-map_take,-map_drop, AS.val, upd, resB, mkS_env, mkS_box, lk, entry_env, condW_true, condW_false]))
    | (with_reducible refine optK_dV (by first | omega | (simp [-map_take,-map_drop]; omega)) ?_)
    | with_reducible refine optK_dVh (by omega) ?_
    | refine And.intro (by first | omega | kernel_rfl) ?_
    | ((with_reducible refine condW_b (fun hc => ?_) (fun hc => ?_) <;> (try simp [-map_take,-map_drop, Int.ofNat_inj] at hc) <;> (try contradiction)))
    | fail)
  first | refine CallG_of (e1) ?_ ?_ rfl ?_ | refine callD_of (e1) ?_ ?_ rfl ?_
  · first | rfl | (simp [-map_take,-map_drop, natAV, numC, ← limbs.eq_1, push_cast, ptAV, ptC, ratAV, ratC, zAV, zC]; done)
  · first | rfl | simp [-map_take,-map_drop, natAV, zAV, zC, ratAV, ratC, ptAV, ptC, sgAV, sgC, d3AV, d3sAV, d3C, dAV, dC, dotAV, AV.refs, refsL, push_cast]
  try dsimp only
  repeat' (first
    | with_reducible first | apply thenW_n | apply thenW_ret | apply thenW_exit | apply thenW_panic | apply blockW_n | apply blockW_same | apply blockW_ret | apply blockW_panic | apply loopW_ret | apply loopW_exit | apply loopW_panic | apply joinW_ret | apply joinW_exit | apply joinW_panic | apply W_seq | apply W_block | apply W_skip | apply W_ret | apply W_exit | apply W_label
    | with_reducible refine blockW_other (by decide) ?_
    | with_reducible refine W_region (by first | decide | (with_unfolding_all rfl)) ?_
    | (rw [vcn]; (try simp [-map_take,-map_drop, push_cast, ptAV, ptC, ratAV, ratC, zAV, zC]); try simp (disch := omega) only [i64_in, u64_in, shr64i])
    | with_reducible refine W_drawn mixed (by decide) (by kernel_rfl) ?_
    | (rw [vcnD]; (try simp [-map_take,-map_drop, push_cast, ptAV, ptC, ratAV, ratC, zAV, zC]); try simp (disch := omega) only [i64_in, u64_in, shr64i])
    | (with_reducible refine W_condW ?_; (try simp [-map_take,-map_drop, AS.val, upd, resB, mkS_env, mkS_box, lk, entry_env, condW_true, condW_false, ptAV, ptC, ratAV, ratC, zAV, zC]))
    | (with_reducible refine optK_dV (by first | omega | (simp [-map_take,-map_drop]; omega)) ?_)
    | with_reducible refine optK_dVh (by omega) ?_
    | refine And.intro (by first | omega | kernel_rfl) ?_
    | ((with_reducible refine condW_b (fun hc => ?_) (fun hc => ?_) <;> (try simp [-map_take,-map_drop, Int.ofNat_inj] at hc) <;> (try contradiction)))
    | fail)
  first | refine CallG_of (e2) ?_ ?_ rfl ?_ | refine callD_of (e2) ?_ ?_ rfl ?_
  · first | rfl | (simp [-map_take,-map_drop, natAV, numC, ← limbs.eq_1, push_cast, ptAV, ptC, ratAV, ratC, zAV, zC]; done)
  · first | rfl | simp [-map_take,-map_drop, natAV, zAV, zC, ratAV, ratC, ptAV, ptC, sgAV, sgC, d3AV, d3sAV, d3C, dAV, dC, dotAV, AV.refs, refsL, push_cast]
  try dsimp only
  repeat' (first
    | with_reducible first | apply thenW_n | apply thenW_ret | apply thenW_exit | apply thenW_panic | apply blockW_n | apply blockW_same | apply blockW_ret | apply blockW_panic | apply loopW_ret | apply loopW_exit | apply loopW_panic | apply joinW_ret | apply joinW_exit | apply joinW_panic | apply W_seq | apply W_block | apply W_skip | apply W_ret | apply W_exit | apply W_label
    | with_reducible refine blockW_other (by decide) ?_
    | with_reducible refine W_region (by first | decide | (with_unfolding_all rfl)) ?_
    | (rw [vcn]; (try simp [-map_take,-map_drop, push_cast, ptAV, ptC, ratAV, ratC, zAV, zC]); try simp (disch := omega) only [i64_in, u64_in, shr64i])
    | with_reducible refine W_drawn mixed (by decide) (by kernel_rfl) ?_
    | (rw [vcnD]; (try simp [-map_take,-map_drop, push_cast, ptAV, ptC, ratAV, ratC, zAV, zC]); try simp (disch := omega) only [i64_in, u64_in, shr64i])
    | (with_reducible refine W_condW ?_; (try simp [-map_take,-map_drop, AS.val, upd, resB, mkS_env, mkS_box, lk, entry_env, condW_true, condW_false, ptAV, ptC, ratAV, ratC, zAV, zC]))
    | (with_reducible refine optK_dV (by first | omega | (simp [-map_take,-map_drop]; omega)) ?_)
    | with_reducible refine optK_dVh (by omega) ?_
    | refine And.intro (by first | omega | kernel_rfl) ?_
    | ((with_reducible refine condW_b (fun hc => ?_) (fun hc => ?_) <;> (try simp [-map_take,-map_drop, Int.ofNat_inj] at hc) <;> (try contradiction)))
    | fail)
  first | refine CallG_of (e3) ?_ ?_ rfl ?_ | refine callD_of (e3) ?_ ?_ rfl ?_
  · first | rfl | (simp [-map_take,-map_drop, natAV, numC, ← limbs.eq_1, push_cast, d3AV, d3C, dC]; done)
  · first | rfl | simp [-map_take,-map_drop, natAV, zAV, zC, ratAV, ratC, ptAV, ptC, sgAV, sgC, d3AV, d3sAV, d3C, dAV, dC, dotAV, AV.refs, refsL, push_cast]
  try dsimp only
  repeat' (first
    | with_reducible first | apply thenW_n | apply thenW_ret | apply thenW_exit | apply thenW_panic | apply blockW_n | apply blockW_same | apply blockW_ret | apply blockW_panic | apply loopW_ret | apply loopW_exit | apply loopW_panic | apply joinW_ret | apply joinW_exit | apply joinW_panic | apply W_seq | apply W_block | apply W_skip | apply W_ret | apply W_exit | apply W_label
    | with_reducible refine blockW_other (by decide) ?_
    | with_reducible refine W_region (by first | decide | (with_unfolding_all rfl)) ?_
    | (rw [vcn]; (try simp [-map_take,-map_drop, push_cast, ptAV, ptC, ratAV, ratC, zAV, zC, d3AV, d3C, dC]); try simp (disch := omega) only [i64_in, u64_in, shr64i])
    | with_reducible refine W_drawn mixed (by decide) (by kernel_rfl) ?_
    | (rw [vcnD]; (try simp [-map_take,-map_drop, push_cast, ptAV, ptC, ratAV, ratC, zAV, zC, d3AV, d3C, dC]); try simp (disch := omega) only [i64_in, u64_in, shr64i])
    | (with_reducible refine W_condW ?_; (try simp [-map_take,-map_drop, AS.val, upd, resB, mkS_env, mkS_box, lk, entry_env, condW_true, condW_false, ptAV, ptC, ratAV, ratC, zAV, zC, d3AV, d3C, dC]))
    | (with_reducible refine optK_dV (by first | omega | (simp [-map_take,-map_drop]; omega)) ?_)
    | with_reducible refine optK_dVh (by omega) ?_
    | refine And.intro (by first | omega | kernel_rfl) ?_
    | ((with_reducible refine condW_b (fun hc => ?_) (fun hc => ?_) <;> (try simp [-map_take,-map_drop, Int.ofNat_inj] at hc) <;> (try contradiction)))
    | fail)
  first | refine CallG_of (e4) ?_ ?_ rfl ?_ | refine callD_of (e4) ?_ ?_ rfl ?_
  · first | rfl | (simp [-map_take,-map_drop, natAV, numC, ← limbs.eq_1, push_cast, d3AV, d3C, dC]; done)
  · first | rfl | simp [-map_take,-map_drop, natAV, zAV, zC, ratAV, ratC, ptAV, ptC, sgAV, sgC, d3AV, d3sAV, d3C, dAV, dC, dotAV, AV.refs, refsL, push_cast]
  try dsimp only
  repeat' (first
    | with_reducible first | apply thenW_n | apply thenW_ret | apply thenW_exit | apply thenW_panic | apply blockW_n | apply blockW_same | apply blockW_ret | apply blockW_panic | apply loopW_ret | apply loopW_exit | apply loopW_panic | apply joinW_ret | apply joinW_exit | apply joinW_panic | apply W_seq | apply W_block | apply W_skip | apply W_ret | apply W_exit | apply W_label
    | with_reducible refine blockW_other (by decide) ?_
    | with_reducible refine W_region (by first | decide | (with_unfolding_all rfl)) ?_
    | (rw [vcn]; (try simp [-map_take,-map_drop, push_cast, sgAV, sgC, ptAV, ptC, ratAV, ratC, zAV, zC, d3AV, d3C, dC]); try simp (disch := omega) only [i64_in, u64_in, shr64i])
    | with_reducible refine W_drawn mixed (by decide) (by kernel_rfl) ?_
    | (rw [vcnD]; (try simp [-map_take,-map_drop, push_cast, sgAV, sgC, ptAV, ptC, ratAV, ratC, zAV, zC, d3AV, d3C, dC]); try simp (disch := omega) only [i64_in, u64_in, shr64i])
    | (with_reducible refine W_condW ?_; (try simp [-map_take,-map_drop, AS.val, upd, resB, mkS_env, mkS_box, lk, entry_env, condW_true, condW_false, sgAV, sgC, ptAV, ptC, ratAV, ratC, zAV, zC, d3AV, d3C, dC]))
    | (with_reducible refine optK_dV (by first | omega | (simp [-map_take,-map_drop]; omega)) ?_)
    | with_reducible refine optK_dVh (by omega) ?_
    | refine And.intro (by first | omega | kernel_rfl) ?_
    | ((with_reducible refine condW_b (fun hc => ?_) (fun hc => ?_) <;> (try simp [-map_take,-map_drop, Int.ofNat_inj] at hc) <;> (try contradiction)))
    | fail)
  simp [-map_take,-map_drop, post, resAV, resAll, resOne, closeV, closeC, closeL, resD, resDL, push_cast, sgAV, sgC, ptAV, ptC, ratAV, ratC, zAV, zC, d3AV, d3C, dC]

theorem part12_ok (s : FSg) (i : Int) (k : Nat) (hk : (IntKind.u64.wrap i).tmod 101 = (k : Int)) (h100 : k ≤ 100) (h : szS s ≤ 1000) : Eval Try.prog 6 [sgAV s, i64V i] (.ret (ptAV (s.at (Rat.divInt k 100)))) := by
  refine Eval.intro Try.func6 rfl Try.call6 _ _ (Nat.le_of_ble_eq_true rfl) (by simp [-map_take,-map_drop, AV.refs, refsL, natAV, zAV, zC, ratAV, ratC, ptAV, ptC, sgAV, sgC, d3AV, d3sAV, d3C, dAV, dC, dotAV, push_cast]) fun hs0 => ?_
  unfold szS szV at h
  have w1 : IntKind.i64.wrap (k : Int) = k := by rw [i64_in _ (by omega)]
  have e0 := ofF_ok k 100 (by omega) (by omega) (by omega)
  have z0 : szQ (Rat.divInt k 100) ≤ 4 := by
    have h1 := sz_divInt (k : Int) 100 (by omega)
    have h2 := limbs_small (n := (k : Int).natAbs) (by omega)
    have h3 := limbs_small (n := (100 : Int).natAbs) (by omega)
    omega
  unfold FSg.at
  have hq : (FQ.of (Rat.divInt k 100)).q = Rat.divInt k 100 := rfl
  obtain ⟨l, hl⟩ : ∃ l, l = FQ.of (Rat.divInt k 100) := ⟨_, rfl⟩
  rw [← hl] at e0 hq
  rw [← hq] at z0 ⊢
  clear hq hl
  have z1 := szQ_sub s.B.x.q s.A.x.q
  have z2 := szQ_sub s.B.y.q s.A.y.q
  have z3 := szQ_mul (s.B.x.q - s.A.x.q) l.q
  have z4 := szQ_mul (s.B.y.q - s.A.y.q) l.q
  have e1 := subR_ok s.B.x s.A.x (by omega)
  have e2 := mulR_ok (.of (s.B.x.q - s.A.x.q)) l (by simp only [FQ.of]; omega)
  have e3 := addR_ok s.A.x (.of ((s.B.x.q - s.A.x.q) * l.q)) (by simp only [FQ.of]; omega)
  have e4 := subR_ok s.B.y s.A.y (by omega)
  have e5 := mulR_ok (.of (s.B.y.q - s.A.y.q)) l (by simp only [FQ.of]; omega)
  have e6 := addR_ok s.A.y (.of ((s.B.y.q - s.A.y.q) * l.q)) (by simp only [FQ.of]; omega)
  have o1 : (FQ.of (s.B.x.q - s.A.x.q)).q = s.B.x.q - s.A.x.q := rfl
  have o2 : (FQ.of (s.B.y.q - s.A.y.q)).q = s.B.y.q - s.A.y.q := rfl
  have o3 : (FQ.of ((s.B.x.q - s.A.x.q) * l.q)).q = (s.B.x.q - s.A.x.q) * l.q := rfl
  have o4 : (FQ.of ((s.B.y.q - s.A.y.q) * l.q)).q = (s.B.y.q - s.A.y.q) * l.q := rfl
  rw [o1] at e2
  rw [o2] at e5
  rw [o3] at e3
  rw [o4] at e6
  obtain ⟨a1, h1⟩ : ∃ a, a = FQ.of (s.B.x.q - s.A.x.q) := ⟨_, rfl⟩
  obtain ⟨a2, h2⟩ : ∃ a, a = FQ.of ((s.B.x.q - s.A.x.q) * l.q) := ⟨_, rfl⟩
  obtain ⟨a3, h3⟩ : ∃ a, a = FQ.of (s.A.x.q + (s.B.x.q - s.A.x.q) * l.q) := ⟨_, rfl⟩
  obtain ⟨b1, h4⟩ : ∃ a, a = FQ.of (s.B.y.q - s.A.y.q) := ⟨_, rfl⟩
  obtain ⟨b2, h5⟩ : ∃ a, a = FQ.of ((s.B.y.q - s.A.y.q) * l.q) := ⟨_, rfl⟩
  obtain ⟨b3, h6⟩ : ∃ a, a = FQ.of (s.A.y.q + (s.B.y.q - s.A.y.q) * l.q) := ⟨_, rfl⟩
  rw [← h1] at e1 e2
  rw [← h2] at e2 e3
  rw [← h3] at e3 ⊢
  rw [← h4] at e4 e5
  rw [← h5] at e5 e6
  rw [← h6] at e6 ⊢
  clear h1 h2 h3 h4 h5 h6 o1 o2 o3 o4 z0 z1 z2 z3 z4 h h100
  repeat' (first
    | with_reducible first | apply thenW_n | apply thenW_ret | apply thenW_exit | apply thenW_panic | apply blockW_n | apply blockW_same | apply blockW_ret | apply blockW_panic | apply loopW_ret | apply loopW_exit | apply loopW_panic | apply joinW_ret | apply joinW_exit | apply joinW_panic | apply W_seq | apply W_block | apply W_skip | apply W_ret | apply W_exit | apply W_label
    | with_reducible refine blockW_other (by decide) ?_
    | with_reducible refine W_region (by first | decide | (with_unfolding_all rfl)) ?_
    | (rw [vcn]; (try simp [-map_take,-map_drop, push_cast, hk, w1, sgAV, sgC, ptAV, ptC, ratAV, ratC, zAV, zC]); try simp (disch := omega) only [i64_in, u64_in, shr64i])
    | with_reducible refine W_drawn mixed (by decide) (by kernel_rfl) ?_
    | (rw [vcnD]; (try simp [-map_take,-map_drop, push_cast, hk, w1, sgAV, sgC, ptAV, ptC, ratAV, ratC, zAV, zC]); try simp (disch := omega) only [i64_in, u64_in, shr64i])
    | (with_reducible refine W_condW ?_; (try simp [-map_take,-map_drop, AS.val, upd, resB, mkS_env, mkS_box, lk, entry_env, condW_true, condW_false, hk, w1, sgAV, sgC, ptAV, ptC, ratAV, ratC, zAV, zC]))
    | (with_reducible refine optK_dV (by first | omega | (simp [-map_take,-map_drop]; omega)) ?_)
    | with_reducible refine optK_dVh (by omega) ?_
    | refine And.intro (by first | omega | kernel_rfl) ?_
    | ((with_reducible refine condW_b (fun hc => ?_) (fun hc => ?_) <;> (try simp [-map_take,-map_drop, Int.ofNat_inj] at hc) <;> (try contradiction)))
    | fail)
  first | refine CallG_of (e0) ?_ ?_ rfl ?_ | refine callD_of (e0) ?_ ?_ rfl ?_
  · first | rfl | (simp [-map_take,-map_drop, natAV, numC, ← limbs.eq_1, push_cast, ratAV, ratC, zAV, zC]; done)
  · first | rfl | simp [-map_take,-map_drop, natAV, zAV, zC, ratAV, ratC, ptAV, ptC, sgAV, sgC, d3AV, d3sAV, d3C, dAV, dC, dotAV, AV.refs, refsL, push_cast]
  try dsimp only
  repeat' (first
    | with_reducible first | apply thenW_n | apply thenW_ret | apply thenW_exit | apply thenW_panic | apply blockW_n | apply blockW_same | apply blockW_ret | apply blockW_panic | apply loopW_ret | apply loopW_exit | apply loopW_panic | apply joinW_ret | apply joinW_exit | apply joinW_panic | apply W_seq | apply W_block | apply W_skip | apply W_ret | apply W_exit | apply W_label
    | with_reducible refine blockW_other (by decide) ?_
    | with_reducible refine W_region (by first | decide | (with_unfolding_all rfl)) ?_
    | (rw [vcn]; (try simp [-map_take,-map_drop, push_cast, sgAV, sgC, ptAV, ptC, ratAV, ratC, zAV, zC]); try simp (disch := omega) only [i64_in, u64_in, shr64i])
    | with_reducible refine W_drawn mixed (by decide) (by kernel_rfl) ?_
    | (rw [vcnD]; (try simp [-map_take,-map_drop, push_cast, sgAV, sgC, ptAV, ptC, ratAV, ratC, zAV, zC]); try simp (disch := omega) only [i64_in, u64_in, shr64i])
    | (with_reducible refine W_condW ?_; (try simp [-map_take,-map_drop, AS.val, upd, resB, mkS_env, mkS_box, lk, entry_env, condW_true, condW_false, sgAV, sgC, ptAV, ptC, ratAV, ratC, zAV, zC]))
    | (with_reducible refine optK_dV (by first | omega | (simp [-map_take,-map_drop]; omega)) ?_)
    | with_reducible refine optK_dVh (by omega) ?_
    | refine And.intro (by first | omega | kernel_rfl) ?_
    | ((with_reducible refine condW_b (fun hc => ?_) (fun hc => ?_) <;> (try simp [-map_take,-map_drop, Int.ofNat_inj] at hc) <;> (try contradiction)))
    | fail)
  first | refine CallG_of (e1) ?_ ?_ rfl ?_ | refine callD_of (e1) ?_ ?_ rfl ?_
  · first | rfl | (simp [-map_take,-map_drop, natAV, numC, ← limbs.eq_1, push_cast, ratAV, ratC, zAV, zC]; done)
  · first | rfl | simp [-map_take,-map_drop, natAV, zAV, zC, ratAV, ratC, ptAV, ptC, sgAV, sgC, d3AV, d3sAV, d3C, dAV, dC, dotAV, AV.refs, refsL, push_cast]
  try dsimp only
  repeat' (first
    | with_reducible first | apply thenW_n | apply thenW_ret | apply thenW_exit | apply thenW_panic | apply blockW_n | apply blockW_same | apply blockW_ret | apply blockW_panic | apply loopW_ret | apply loopW_exit | apply loopW_panic | apply joinW_ret | apply joinW_exit | apply joinW_panic | apply W_seq | apply W_block | apply W_skip | apply W_ret | apply W_exit | apply W_label
    | with_reducible refine blockW_other (by decide) ?_
    | with_reducible refine W_region (by first | decide | (with_unfolding_all rfl)) ?_
    | (rw [vcn]; (try simp [-map_take,-map_drop, push_cast, sgAV, sgC, ptAV, ptC, ratAV, ratC, zAV, zC]); try simp (disch := omega) only [i64_in, u64_in, shr64i])
    | with_reducible refine W_drawn mixed (by decide) (by kernel_rfl) ?_
    | (rw [vcnD]; (try simp [-map_take,-map_drop, push_cast, sgAV, sgC, ptAV, ptC, ratAV, ratC, zAV, zC]); try simp (disch := omega) only [i64_in, u64_in, shr64i])
    | (with_reducible refine W_condW ?_; (try simp [-map_take,-map_drop, AS.val, upd, resB, mkS_env, mkS_box, lk, entry_env, condW_true, condW_false, sgAV, sgC, ptAV, ptC, ratAV, ratC, zAV, zC]))
    | (with_reducible refine optK_dV (by first | omega | (simp [-map_take,-map_drop]; omega)) ?_)
    | with_reducible refine optK_dVh (by omega) ?_
    | refine And.intro (by first | omega | kernel_rfl) ?_
    | ((with_reducible refine condW_b (fun hc => ?_) (fun hc => ?_) <;> (try simp [-map_take,-map_drop, Int.ofNat_inj] at hc) <;> (try contradiction)))
    | fail)
  first | refine CallG_of (e2) ?_ ?_ rfl ?_ | refine callD_of (e2) ?_ ?_ rfl ?_
  · first | rfl | (simp [-map_take,-map_drop, natAV, numC, ← limbs.eq_1, push_cast, ratAV, ratC, zAV, zC]; done)
  · first | rfl | simp [-map_take,-map_drop, natAV, zAV, zC, ratAV, ratC, ptAV, ptC, sgAV, sgC, d3AV, d3sAV, d3C, dAV, dC, dotAV, AV.refs, refsL, push_cast]
  try dsimp only
  repeat' (first
    | with_reducible first | apply thenW_n | apply thenW_ret | apply thenW_exit | apply thenW_panic | apply blockW_n | apply blockW_same | apply blockW_ret | apply blockW_panic | apply loopW_ret | apply loopW_exit | apply loopW_panic | apply joinW_ret | apply joinW_exit | apply joinW_panic | apply W_seq | apply W_block | apply W_skip | apply W_ret | apply W_exit | apply W_label
    | with_reducible refine blockW_other (by decide) ?_
    | with_reducible refine W_region (by first | decide | (with_unfolding_all rfl)) ?_
    | (rw [vcn]; (try simp [-map_take,-map_drop, push_cast, sgAV, sgC, ptAV, ptC, ratAV, ratC, zAV, zC]); try simp (disch := omega) only [i64_in, u64_in, shr64i])
    | with_reducible refine W_drawn mixed (by decide) (by kernel_rfl) ?_
    | (rw [vcnD]; (try simp [-map_take,-map_drop, push_cast, sgAV, sgC, ptAV, ptC, ratAV, ratC, zAV, zC]); try simp (disch := omega) only [i64_in, u64_in, shr64i])
    | (with_reducible refine W_condW ?_; (try simp [-map_take,-map_drop, AS.val, upd, resB, mkS_env, mkS_box, lk, entry_env, condW_true, condW_false, sgAV, sgC, ptAV, ptC, ratAV, ratC, zAV, zC]))
    | (with_reducible refine optK_dV (by first | omega | (simp [-map_take,-map_drop]; omega)) ?_)
    | with_reducible refine optK_dVh (by omega) ?_
    | refine And.intro (by first | omega | kernel_rfl) ?_
    | ((with_reducible refine condW_b (fun hc => ?_) (fun hc => ?_) <;> (try simp [-map_take,-map_drop, Int.ofNat_inj] at hc) <;> (try contradiction)))
    | fail)
  first | refine CallG_of (e3) ?_ ?_ rfl ?_ | refine callD_of (e3) ?_ ?_ rfl ?_
  · first | rfl | (simp [-map_take,-map_drop, natAV, numC, ← limbs.eq_1, push_cast, ratAV, ratC, zAV, zC]; done)
  · first | rfl | simp [-map_take,-map_drop, natAV, zAV, zC, ratAV, ratC, ptAV, ptC, sgAV, sgC, d3AV, d3sAV, d3C, dAV, dC, dotAV, AV.refs, refsL, push_cast]
  try dsimp only
  repeat' (first
    | with_reducible first | apply thenW_n | apply thenW_ret | apply thenW_exit | apply thenW_panic | apply blockW_n | apply blockW_same | apply blockW_ret | apply blockW_panic | apply loopW_ret | apply loopW_exit | apply loopW_panic | apply joinW_ret | apply joinW_exit | apply joinW_panic | apply W_seq | apply W_block | apply W_skip | apply W_ret | apply W_exit | apply W_label
    | with_reducible refine blockW_other (by decide) ?_
    | with_reducible refine W_region (by first | decide | (with_unfolding_all rfl)) ?_
    | (rw [vcn]; (try simp [-map_take,-map_drop, push_cast, sgAV, sgC, ptAV, ptC, ratAV, ratC, zAV, zC]); try simp (disch := omega) only [i64_in, u64_in, shr64i])
    | with_reducible refine W_drawn mixed (by decide) (by kernel_rfl) ?_
    | (rw [vcnD]; (try simp [-map_take,-map_drop, push_cast, sgAV, sgC, ptAV, ptC, ratAV, ratC, zAV, zC]); try simp (disch := omega) only [i64_in, u64_in, shr64i])
    | (with_reducible refine W_condW ?_; (try simp [-map_take,-map_drop, AS.val, upd, resB, mkS_env, mkS_box, lk, entry_env, condW_true, condW_false, sgAV, sgC, ptAV, ptC, ratAV, ratC, zAV, zC]))
    | (with_reducible refine optK_dV (by first | omega | (simp [-map_take,-map_drop]; omega)) ?_)
    | with_reducible refine optK_dVh (by omega) ?_
    | refine And.intro (by first | omega | kernel_rfl) ?_
    | ((with_reducible refine condW_b (fun hc => ?_) (fun hc => ?_) <;> (try simp [-map_take,-map_drop, Int.ofNat_inj] at hc) <;> (try contradiction)))
    | fail)
  first | refine CallG_of (e4) ?_ ?_ rfl ?_ | refine callD_of (e4) ?_ ?_ rfl ?_
  · first | rfl | (simp [-map_take,-map_drop, natAV, numC, ← limbs.eq_1, push_cast, ratAV, ratC, zAV, zC]; done)
  · first | rfl | simp [-map_take,-map_drop, natAV, zAV, zC, ratAV, ratC, ptAV, ptC, sgAV, sgC, d3AV, d3sAV, d3C, dAV, dC, dotAV, AV.refs, refsL, push_cast]
  try dsimp only
  repeat' (first
    | with_reducible first | apply thenW_n | apply thenW_ret | apply thenW_exit | apply thenW_panic | apply blockW_n | apply blockW_same | apply blockW_ret | apply blockW_panic | apply loopW_ret | apply loopW_exit | apply loopW_panic | apply joinW_ret | apply joinW_exit | apply joinW_panic | apply W_seq | apply W_block | apply W_skip | apply W_ret | apply W_exit | apply W_label
    | with_reducible refine blockW_other (by decide) ?_
    | with_reducible refine W_region (by first | decide | (with_unfolding_all rfl)) ?_
    | (rw [vcn]; (try simp [-map_take,-map_drop, push_cast, sgAV, sgC, ptAV, ptC, ratAV, ratC, zAV, zC]); try simp (disch := omega) only [i64_in, u64_in, shr64i])
    | with_reducible refine W_drawn mixed (by decide) (by kernel_rfl) ?_
    | (rw [vcnD]; (try simp [-map_take,-map_drop, push_cast, sgAV, sgC, ptAV, ptC, ratAV, ratC, zAV, zC]); try simp (disch := omega) only [i64_in, u64_in, shr64i])
    | (with_reducible refine W_condW ?_; (try simp [-map_take,-map_drop, AS.val, upd, resB, mkS_env, mkS_box, lk, entry_env, condW_true, condW_false, sgAV, sgC, ptAV, ptC, ratAV, ratC, zAV, zC]))
    | (with_reducible refine optK_dV (by first | omega | (simp [-map_take,-map_drop]; omega)) ?_)
    | with_reducible refine optK_dVh (by omega) ?_
    | refine And.intro (by first | omega | kernel_rfl) ?_
    | ((with_reducible refine condW_b (fun hc => ?_) (fun hc => ?_) <;> (try simp [-map_take,-map_drop, Int.ofNat_inj] at hc) <;> (try contradiction)))
    | fail)
  first | refine CallG_of (e5) ?_ ?_ rfl ?_ | refine callD_of (e5) ?_ ?_ rfl ?_
  · first | rfl | (simp [-map_take,-map_drop, natAV, numC, ← limbs.eq_1, push_cast, ratAV, ratC, zAV, zC]; done)
  · first | rfl | simp [-map_take,-map_drop, natAV, zAV, zC, ratAV, ratC, ptAV, ptC, sgAV, sgC, d3AV, d3sAV, d3C, dAV, dC, dotAV, AV.refs, refsL, push_cast]
  try dsimp only
  repeat' (first
    | with_reducible first | apply thenW_n | apply thenW_ret | apply thenW_exit | apply thenW_panic | apply blockW_n | apply blockW_same | apply blockW_ret | apply blockW_panic | apply loopW_ret | apply loopW_exit | apply loopW_panic | apply joinW_ret | apply joinW_exit | apply joinW_panic | apply W_seq | apply W_block | apply W_skip | apply W_ret | apply W_exit | apply W_label
    | with_reducible refine blockW_other (by decide) ?_
    | with_reducible refine W_region (by first | decide | (with_unfolding_all rfl)) ?_
    | (rw [vcn]; (try simp [-map_take,-map_drop, push_cast, sgAV, sgC, ptAV, ptC, ratAV, ratC, zAV, zC]); try simp (disch := omega) only [i64_in, u64_in, shr64i])
    | with_reducible refine W_drawn mixed (by decide) (by kernel_rfl) ?_
    | (rw [vcnD]; (try simp [-map_take,-map_drop, push_cast, sgAV, sgC, ptAV, ptC, ratAV, ratC, zAV, zC]); try simp (disch := omega) only [i64_in, u64_in, shr64i])
    | (with_reducible refine W_condW ?_; (try simp [-map_take,-map_drop, AS.val, upd, resB, mkS_env, mkS_box, lk, entry_env, condW_true, condW_false, sgAV, sgC, ptAV, ptC, ratAV, ratC, zAV, zC]))
    | (with_reducible refine optK_dV (by first | omega | (simp [-map_take,-map_drop]; omega)) ?_)
    | with_reducible refine optK_dVh (by omega) ?_
    | refine And.intro (by first | omega | kernel_rfl) ?_
    | ((with_reducible refine condW_b (fun hc => ?_) (fun hc => ?_) <;> (try simp [-map_take,-map_drop, Int.ofNat_inj] at hc) <;> (try contradiction)))
    | fail)
  first | refine CallG_of (e6) ?_ ?_ rfl ?_ | refine callD_of (e6) ?_ ?_ rfl ?_
  · first | rfl | (simp [-map_take,-map_drop, natAV, numC, ← limbs.eq_1, push_cast, ratAV, ratC, zAV, zC]; done)
  · first | rfl | simp [-map_take,-map_drop, natAV, zAV, zC, ratAV, ratC, ptAV, ptC, sgAV, sgC, d3AV, d3sAV, d3C, dAV, dC, dotAV, AV.refs, refsL, push_cast]
  try dsimp only
  repeat' (first
    | with_reducible first | apply thenW_n | apply thenW_ret | apply thenW_exit | apply thenW_panic | apply blockW_n | apply blockW_same | apply blockW_ret | apply blockW_panic | apply loopW_ret | apply loopW_exit | apply loopW_panic | apply joinW_ret | apply joinW_exit | apply joinW_panic | apply W_seq | apply W_block | apply W_skip | apply W_ret | apply W_exit | apply W_label
    | with_reducible refine blockW_other (by decide) ?_
    | with_reducible refine W_region (by first | decide | (with_unfolding_all rfl)) ?_
    | (rw [vcn]; (try simp [-map_take,-map_drop, push_cast, sgAV, sgC, ptAV, ptC, ratAV, ratC, zAV, zC]); try simp (disch := omega) only [i64_in, u64_in, shr64i])
    | with_reducible refine W_drawn mixed (by decide) (by kernel_rfl) ?_
    | (rw [vcnD]; (try simp [-map_take,-map_drop, push_cast, sgAV, sgC, ptAV, ptC, ratAV, ratC, zAV, zC]); try simp (disch := omega) only [i64_in, u64_in, shr64i])
    | (with_reducible refine W_condW ?_; (try simp [-map_take,-map_drop, AS.val, upd, resB, mkS_env, mkS_box, lk, entry_env, condW_true, condW_false, sgAV, sgC, ptAV, ptC, ratAV, ratC, zAV, zC]))
    | (with_reducible refine optK_dV (by first | omega | (simp [-map_take,-map_drop]; omega)) ?_)
    | with_reducible refine optK_dVh (by omega) ?_
    | refine And.intro (by first | omega | kernel_rfl) ?_
    | ((with_reducible refine condW_b (fun hc => ?_) (fun hc => ?_) <;> (try simp [-map_take,-map_drop, Int.ofNat_inj] at hc) <;> (try contradiction)))
    | fail)
  simp [-map_take,-map_drop, post, resAV, resAll, resOne, closeV, closeC, closeL, resD, resDL, push_cast, ptAV, ptC, ratAV, ratC, zAV, zC]

theorem known12_ok : Eval Try.prog 14 [] (.ret (.v (.bool true))) := by
  refine Eval.intro Try.func14 rfl Try.call14 _ _ (Nat.le_of_ble_eq_true rfl) (by simp [-map_take,-map_drop, AV.refs, refsL, natAV, zAV, zC, ratAV, ratC, ptAV, ptC, sgAV, sgC, d3AV, d3sAV, d3C, dAV, dC, dotAV, push_cast]) fun hs0 => ?_
  have g1 := grid12_ok 0 0 4 0 (by unfold inI; omega) (by unfold inI; omega) (by unfold inI; omega) (by unfold inI; omega)
  have g2 := grid12_ok 1 2 9 9 (by unfold inI; omega) (by unfold inI; omega) (by unfold inI; omega) (by unfold inI; omega)
  have g3 := grid12_ok 4 0 4 9 (by unfold inI; omega) (by unfold inI; omega) (by unfold inI; omega) (by unfold inI; omega)
  have g4 := grid12_ok 0 0 0 0 (by unfold inI; omega) (by unfold inI; omega) (by unfold inI; omega) (by unfold inI; omega)
  have h1 : szS (gridsF 0 0 4 0) ≤ 16 := sz_grids (by unfold inI; omega) (by unfold inI; omega) (by unfold inI; omega) (by unfold inI; omega)
  have h2 : szS (gridsF 1 2 9 9) ≤ 16 := sz_grids (by unfold inI; omega) (by unfold inI; omega) (by unfold inI; omega) (by unfold inI; omega)
  have h3 : szS (gridsF 4 0 4 9) ≤ 16 := sz_grids (by unfold inI; omega) (by unfold inI; omega) (by unfold inI; omega) (by unfold inI; omega)
  have h4 : szS (gridsF 0 0 0 0) ≤ 16 := sz_grids (by unfold inI; omega) (by unfold inI; omega) (by unfold inI; omega) (by unfold inI; omega)
  have z1 := sz_least (gridsF 0 0 4 0) (gridsF 1 2 9 9)
  have z2 := sz_most (gridsF 0 0 4 0) (gridsF 1 2 9 9)
  have f1 := reachLeast_ok (gridsF 0 0 4 0) (gridsF 1 2 9 9) (by omega)
  have f2 := reachMost_ok (gridsF 0 0 4 0) (gridsF 1 2 9 9) (by omega)
  have f3 := closer_ok (gridsF 0 0 4 0) (gridsF 4 0 4 9) 1 (by unfold inI; omega) (by omega)
  have f4 := closer_ok (gridsF 0 0 0 0) (gridsF 0 0 0 0) 1 (by unfold inI; omega) (by omega)
  have t1 := fracText_ok (leastF (gridsF 0 0 4 0) (gridsF 1 2 9 9)) (by omega)
  have t2 := fracText_ok (mostF (gridsF 0 0 4 0) (gridsF 1 2 9 9)) (by omega)
  rw [known12_1] at t1
  rw [known12_2] at t2
  rw [known12_3] at f3
  rw [known12_4] at f4
  obtain ⟨L, hL⟩ : ∃ L, L = leastF (gridsF 0 0 4 0) (gridsF 1 2 9 9) := ⟨_, rfl⟩
  obtain ⟨M, hM⟩ : ∃ L, L = mostF (gridsF 0 0 4 0) (gridsF 1 2 9 9) := ⟨_, rfl⟩
  rw [← hL] at f1 t1
  rw [← hM] at f2 t2
  obtain ⟨e, he⟩ : ∃ e, e = gridsF 0 0 4 0 := ⟨_, rfl⟩
  obtain ⟨f, hf⟩ : ∃ e, e = gridsF 1 2 9 9 := ⟨_, rfl⟩
  obtain ⟨g, hg⟩ : ∃ e, e = gridsF 4 0 4 9 := ⟨_, rfl⟩
  obtain ⟨h, hh⟩ : ∃ e, e = gridsF 0 0 0 0 := ⟨_, rfl⟩
  rw [← he] at g1 f1 f2 f3
  rw [← hf] at g2 f1 f2
  rw [← hg] at g3 f3
  rw [← hh] at g4 f4
  have b1 : (bytesD [52]).data.toList = [52] := by rw [bytesD_list]; rfl
  have b2 : (bytesD [49, 54, 50]).data.toList = [49, 54, 50] := by rw [bytesD_list]; rfl
  clear he hf hg hh h1 h2 h3 h4 hL hM z1 z2
  repeat' (first
    | with_reducible first | apply thenW_n | apply thenW_ret | apply thenW_exit | apply thenW_panic | apply blockW_n | apply blockW_same | apply blockW_ret | apply blockW_panic | apply loopW_ret | apply loopW_exit | apply loopW_panic | apply joinW_ret | apply joinW_exit | apply joinW_panic | apply W_seq | apply W_block | apply W_skip | apply W_ret | apply W_exit | apply W_label
    | with_reducible refine blockW_other (by decide) ?_
    | with_reducible refine W_region (by first | decide | (with_unfolding_all rfl)) ?_
    | (rw [vcn]; (try simp [-map_take,-map_drop, push_cast]); try simp (disch := omega) only [i64_in, u64_in, shr64i])
    | with_reducible refine W_drawn mixed (by decide) (by kernel_rfl) ?_
    | (rw [vcnD]; (try simp [-map_take,-map_drop, push_cast]); try simp (disch := omega) only [i64_in, u64_in, shr64i])
    | (with_reducible refine W_condW ?_; (try simp [-map_take,-map_drop, AS.val, upd, resB, mkS_env, mkS_box, lk, entry_env, condW_true, condW_false]))
    | (with_reducible refine optK_dV (by first | omega | (simp [-map_take,-map_drop]; omega)) ?_)
    | with_reducible refine optK_dVh (by omega) ?_
    | refine And.intro (by first | omega | kernel_rfl) ?_
    | ((with_reducible refine condW_b (fun hc => ?_) (fun hc => ?_) <;> (try simp [-map_take,-map_drop, Int.ofNat_inj] at hc) <;> (try contradiction)))
    | fail)
  first | refine CallG_of (g1) ?_ ?_ rfl ?_ | refine callD_of (g1) ?_ ?_ rfl ?_
  · first | rfl | (simp [-map_take,-map_drop, natAV, numC, ← limbs.eq_1, push_cast, sgAV, sgC, ptAV, ptC, ratAV, ratC, zAV, zC]; done)
  · first | rfl | simp [-map_take,-map_drop, natAV, zAV, zC, ratAV, ratC, ptAV, ptC, sgAV, sgC, d3AV, d3sAV, d3C, dAV, dC, dotAV, AV.refs, refsL, push_cast]
  try dsimp only
  repeat' (first
    | with_reducible first | apply thenW_n | apply thenW_ret | apply thenW_exit | apply thenW_panic | apply blockW_n | apply blockW_same | apply blockW_ret | apply blockW_panic | apply loopW_ret | apply loopW_exit | apply loopW_panic | apply joinW_ret | apply joinW_exit | apply joinW_panic | apply W_seq | apply W_block | apply W_skip | apply W_ret | apply W_exit | apply W_label
    | with_reducible refine blockW_other (by decide) ?_
    | with_reducible refine W_region (by first | decide | (with_unfolding_all rfl)) ?_
    | (rw [vcn]; (try simp [-map_take,-map_drop, push_cast, sgAV, sgC, ptAV, ptC, ratAV, ratC, zAV, zC]); try simp (disch := omega) only [i64_in, u64_in, shr64i])
    | with_reducible refine W_drawn mixed (by decide) (by kernel_rfl) ?_
    | (rw [vcnD]; (try simp [-map_take,-map_drop, push_cast, sgAV, sgC, ptAV, ptC, ratAV, ratC, zAV, zC]); try simp (disch := omega) only [i64_in, u64_in, shr64i])
    | (with_reducible refine W_condW ?_; (try simp [-map_take,-map_drop, AS.val, upd, resB, mkS_env, mkS_box, lk, entry_env, condW_true, condW_false, sgAV, sgC, ptAV, ptC, ratAV, ratC, zAV, zC]))
    | (with_reducible refine optK_dV (by first | omega | (simp [-map_take,-map_drop]; omega)) ?_)
    | with_reducible refine optK_dVh (by omega) ?_
    | refine And.intro (by first | omega | kernel_rfl) ?_
    | ((with_reducible refine condW_b (fun hc => ?_) (fun hc => ?_) <;> (try simp [-map_take,-map_drop, Int.ofNat_inj] at hc) <;> (try contradiction)))
    | fail)
  first | refine CallG_of (g2) ?_ ?_ rfl ?_ | refine callD_of (g2) ?_ ?_ rfl ?_
  · first | rfl | (simp [-map_take,-map_drop, natAV, numC, ← limbs.eq_1, push_cast, sgAV, sgC, ptAV, ptC, ratAV, ratC, zAV, zC]; done)
  · first | rfl | simp [-map_take,-map_drop, natAV, zAV, zC, ratAV, ratC, ptAV, ptC, sgAV, sgC, d3AV, d3sAV, d3C, dAV, dC, dotAV, AV.refs, refsL, push_cast]
  try dsimp only
  repeat' (first
    | with_reducible first | apply thenW_n | apply thenW_ret | apply thenW_exit | apply thenW_panic | apply blockW_n | apply blockW_same | apply blockW_ret | apply blockW_panic | apply loopW_ret | apply loopW_exit | apply loopW_panic | apply joinW_ret | apply joinW_exit | apply joinW_panic | apply W_seq | apply W_block | apply W_skip | apply W_ret | apply W_exit | apply W_label
    | with_reducible refine blockW_other (by decide) ?_
    | with_reducible refine W_region (by first | decide | (with_unfolding_all rfl)) ?_
    | (rw [vcn]; (try simp [-map_take,-map_drop, push_cast, sgAV, sgC, ptAV, ptC, ratAV, ratC, zAV, zC]); try simp (disch := omega) only [i64_in, u64_in, shr64i])
    | with_reducible refine W_drawn mixed (by decide) (by kernel_rfl) ?_
    | (rw [vcnD]; (try simp [-map_take,-map_drop, push_cast, sgAV, sgC, ptAV, ptC, ratAV, ratC, zAV, zC]); try simp (disch := omega) only [i64_in, u64_in, shr64i])
    | (with_reducible refine W_condW ?_; (try simp [-map_take,-map_drop, AS.val, upd, resB, mkS_env, mkS_box, lk, entry_env, condW_true, condW_false, sgAV, sgC, ptAV, ptC, ratAV, ratC, zAV, zC]))
    | (with_reducible refine optK_dV (by first | omega | (simp [-map_take,-map_drop]; omega)) ?_)
    | with_reducible refine optK_dVh (by omega) ?_
    | refine And.intro (by first | omega | kernel_rfl) ?_
    | ((with_reducible refine condW_b (fun hc => ?_) (fun hc => ?_) <;> (try simp [-map_take,-map_drop, Int.ofNat_inj] at hc) <;> (try contradiction)))
    | fail)
  first | refine CallG_of (f1) ?_ ?_ rfl ?_ | refine callD_of (f1) ?_ ?_ rfl ?_
  · first | rfl | (simp [-map_take,-map_drop, natAV, numC, ← limbs.eq_1, push_cast, sgAV, sgC, ptAV, ptC, ratAV, ratC, zAV, zC]; done)
  · first | rfl | simp [-map_take,-map_drop, natAV, zAV, zC, ratAV, ratC, ptAV, ptC, sgAV, sgC, d3AV, d3sAV, d3C, dAV, dC, dotAV, AV.refs, refsL, push_cast]
  try dsimp only
  repeat' (first
    | with_reducible first | apply thenW_n | apply thenW_ret | apply thenW_exit | apply thenW_panic | apply blockW_n | apply blockW_same | apply blockW_ret | apply blockW_panic | apply loopW_ret | apply loopW_exit | apply loopW_panic | apply joinW_ret | apply joinW_exit | apply joinW_panic | apply W_seq | apply W_block | apply W_skip | apply W_ret | apply W_exit | apply W_label
    | with_reducible refine blockW_other (by decide) ?_
    | with_reducible refine W_region (by first | decide | (with_unfolding_all rfl)) ?_
    | (rw [vcn]; (try simp [-map_take,-map_drop, push_cast, sgAV, sgC, ptAV, ptC, ratAV, ratC, zAV, zC]); try simp (disch := omega) only [i64_in, u64_in, shr64i])
    | with_reducible refine W_drawn mixed (by decide) (by kernel_rfl) ?_
    | (rw [vcnD]; (try simp [-map_take,-map_drop, push_cast, sgAV, sgC, ptAV, ptC, ratAV, ratC, zAV, zC]); try simp (disch := omega) only [i64_in, u64_in, shr64i])
    | (with_reducible refine W_condW ?_; (try simp [-map_take,-map_drop, AS.val, upd, resB, mkS_env, mkS_box, lk, entry_env, condW_true, condW_false, sgAV, sgC, ptAV, ptC, ratAV, ratC, zAV, zC]))
    | (with_reducible refine optK_dV (by first | omega | (simp [-map_take,-map_drop]; omega)) ?_)
    | with_reducible refine optK_dVh (by omega) ?_
    | refine And.intro (by first | omega | kernel_rfl) ?_
    | ((with_reducible refine condW_b (fun hc => ?_) (fun hc => ?_) <;> (try simp [-map_take,-map_drop, Int.ofNat_inj] at hc) <;> (try contradiction)))
    | fail)
  first | refine CallG_of (t1) ?_ ?_ rfl ?_ | refine callD_of (t1) ?_ ?_ rfl ?_
  · first | rfl | (simp [-map_take,-map_drop, natAV, numC, ← limbs.eq_1, push_cast, sgAV, sgC, ptAV, ptC, ratAV, ratC, zAV, zC]; done)
  · first | rfl | simp [-map_take,-map_drop, natAV, zAV, zC, ratAV, ratC, ptAV, ptC, sgAV, sgC, d3AV, d3sAV, d3C, dAV, dC, dotAV, AV.refs, refsL, push_cast]
  try dsimp only
  repeat' (first
    | with_reducible first | apply thenW_n | apply thenW_ret | apply thenW_exit | apply thenW_panic | apply blockW_n | apply blockW_same | apply blockW_ret | apply blockW_panic | apply loopW_ret | apply loopW_exit | apply loopW_panic | apply joinW_ret | apply joinW_exit | apply joinW_panic | apply W_seq | apply W_block | apply W_skip | apply W_ret | apply W_exit | apply W_label
    | with_reducible refine blockW_other (by decide) ?_
    | with_reducible refine W_region (by first | decide | (with_unfolding_all rfl)) ?_
    | (rw [vcn]; (try simp [-map_take,-map_drop, push_cast, sgAV, sgC, ptAV, ptC, ratAV, ratC, zAV, zC, strD, b1]); try simp (disch := omega) only [i64_in, u64_in, shr64i])
    | with_reducible refine W_drawn mixed (by decide) (by kernel_rfl) ?_
    | (rw [vcnD]; (try simp [-map_take,-map_drop, push_cast, sgAV, sgC, ptAV, ptC, ratAV, ratC, zAV, zC, strD, b1]); try simp (disch := omega) only [i64_in, u64_in, shr64i])
    | (with_reducible refine W_condW ?_; (try simp [-map_take,-map_drop, AS.val, upd, resB, mkS_env, mkS_box, lk, entry_env, condW_true, condW_false, sgAV, sgC, ptAV, ptC, ratAV, ratC, zAV, zC, strD, b1]))
    | (with_reducible refine optK_dV (by first | omega | (simp [-map_take,-map_drop]; omega)) ?_)
    | with_reducible refine optK_dVh (by omega) ?_
    | refine And.intro (by first | omega | kernel_rfl) ?_
    | ((with_reducible refine condW_b (fun hc => ?_) (fun hc => ?_) <;> (try simp [-map_take,-map_drop, Int.ofNat_inj] at hc) <;> (try contradiction)))
    | fail)
  first | refine CallG_of (g1) ?_ ?_ rfl ?_ | refine callD_of (g1) ?_ ?_ rfl ?_
  · first | rfl | (simp [-map_take,-map_drop, natAV, numC, ← limbs.eq_1, push_cast, sgAV, sgC, ptAV, ptC, ratAV, ratC, zAV, zC]; done)
  · first | rfl | simp [-map_take,-map_drop, natAV, zAV, zC, ratAV, ratC, ptAV, ptC, sgAV, sgC, d3AV, d3sAV, d3C, dAV, dC, dotAV, AV.refs, refsL, push_cast]
  try dsimp only
  repeat' (first
    | with_reducible first | apply thenW_n | apply thenW_ret | apply thenW_exit | apply thenW_panic | apply blockW_n | apply blockW_same | apply blockW_ret | apply blockW_panic | apply loopW_ret | apply loopW_exit | apply loopW_panic | apply joinW_ret | apply joinW_exit | apply joinW_panic | apply W_seq | apply W_block | apply W_skip | apply W_ret | apply W_exit | apply W_label
    | with_reducible refine blockW_other (by decide) ?_
    | with_reducible refine W_region (by first | decide | (with_unfolding_all rfl)) ?_
    | (rw [vcn]; (try simp [-map_take,-map_drop, push_cast, sgAV, sgC, ptAV, ptC, ratAV, ratC, zAV, zC, strD, b1]); try simp (disch := omega) only [i64_in, u64_in, shr64i])
    | with_reducible refine W_drawn mixed (by decide) (by kernel_rfl) ?_
    | (rw [vcnD]; (try simp [-map_take,-map_drop, push_cast, sgAV, sgC, ptAV, ptC, ratAV, ratC, zAV, zC, strD, b1]); try simp (disch := omega) only [i64_in, u64_in, shr64i])
    | (with_reducible refine W_condW ?_; (try simp [-map_take,-map_drop, AS.val, upd, resB, mkS_env, mkS_box, lk, entry_env, condW_true, condW_false, sgAV, sgC, ptAV, ptC, ratAV, ratC, zAV, zC, strD, b1]))
    | (with_reducible refine optK_dV (by first | omega | (simp [-map_take,-map_drop]; omega)) ?_)
    | with_reducible refine optK_dVh (by omega) ?_
    | refine And.intro (by first | omega | kernel_rfl) ?_
    | ((with_reducible refine condW_b (fun hc => ?_) (fun hc => ?_) <;> (try simp [-map_take,-map_drop, Int.ofNat_inj] at hc) <;> (try contradiction)))
    | fail)
  first | refine CallG_of (g2) ?_ ?_ rfl ?_ | refine callD_of (g2) ?_ ?_ rfl ?_
  · first | rfl | (simp [-map_take,-map_drop, natAV, numC, ← limbs.eq_1, push_cast, sgAV, sgC, ptAV, ptC, ratAV, ratC, zAV, zC]; done)
  · first | rfl | simp [-map_take,-map_drop, natAV, zAV, zC, ratAV, ratC, ptAV, ptC, sgAV, sgC, d3AV, d3sAV, d3C, dAV, dC, dotAV, AV.refs, refsL, push_cast]
  try dsimp only
  repeat' (first
    | with_reducible first | apply thenW_n | apply thenW_ret | apply thenW_exit | apply thenW_panic | apply blockW_n | apply blockW_same | apply blockW_ret | apply blockW_panic | apply loopW_ret | apply loopW_exit | apply loopW_panic | apply joinW_ret | apply joinW_exit | apply joinW_panic | apply W_seq | apply W_block | apply W_skip | apply W_ret | apply W_exit | apply W_label
    | with_reducible refine blockW_other (by decide) ?_
    | with_reducible refine W_region (by first | decide | (with_unfolding_all rfl)) ?_
    | (rw [vcn]; (try simp [-map_take,-map_drop, push_cast, sgAV, sgC, ptAV, ptC, ratAV, ratC, zAV, zC, strD, b1]); try simp (disch := omega) only [i64_in, u64_in, shr64i])
    | with_reducible refine W_drawn mixed (by decide) (by kernel_rfl) ?_
    | (rw [vcnD]; (try simp [-map_take,-map_drop, push_cast, sgAV, sgC, ptAV, ptC, ratAV, ratC, zAV, zC, strD, b1]); try simp (disch := omega) only [i64_in, u64_in, shr64i])
    | (with_reducible refine W_condW ?_; (try simp [-map_take,-map_drop, AS.val, upd, resB, mkS_env, mkS_box, lk, entry_env, condW_true, condW_false, sgAV, sgC, ptAV, ptC, ratAV, ratC, zAV, zC, strD, b1]))
    | (with_reducible refine optK_dV (by first | omega | (simp [-map_take,-map_drop]; omega)) ?_)
    | with_reducible refine optK_dVh (by omega) ?_
    | refine And.intro (by first | omega | kernel_rfl) ?_
    | ((with_reducible refine condW_b (fun hc => ?_) (fun hc => ?_) <;> (try simp [-map_take,-map_drop, Int.ofNat_inj] at hc) <;> (try contradiction)))
    | fail)
  first | refine CallG_of (f2) ?_ ?_ rfl ?_ | refine callD_of (f2) ?_ ?_ rfl ?_
  · first | rfl | (simp [-map_take,-map_drop, natAV, numC, ← limbs.eq_1, push_cast, sgAV, sgC, ptAV, ptC, ratAV, ratC, zAV, zC]; done)
  · first | rfl | simp [-map_take,-map_drop, natAV, zAV, zC, ratAV, ratC, ptAV, ptC, sgAV, sgC, d3AV, d3sAV, d3C, dAV, dC, dotAV, AV.refs, refsL, push_cast]
  try dsimp only
  repeat' (first
    | with_reducible first | apply thenW_n | apply thenW_ret | apply thenW_exit | apply thenW_panic | apply blockW_n | apply blockW_same | apply blockW_ret | apply blockW_panic | apply loopW_ret | apply loopW_exit | apply loopW_panic | apply joinW_ret | apply joinW_exit | apply joinW_panic | apply W_seq | apply W_block | apply W_skip | apply W_ret | apply W_exit | apply W_label
    | with_reducible refine blockW_other (by decide) ?_
    | with_reducible refine W_region (by first | decide | (with_unfolding_all rfl)) ?_
    | (rw [vcn]; (try simp [-map_take,-map_drop, push_cast, sgAV, sgC, ptAV, ptC, ratAV, ratC, zAV, zC, strD, b1]); try simp (disch := omega) only [i64_in, u64_in, shr64i])
    | with_reducible refine W_drawn mixed (by decide) (by kernel_rfl) ?_
    | (rw [vcnD]; (try simp [-map_take,-map_drop, push_cast, sgAV, sgC, ptAV, ptC, ratAV, ratC, zAV, zC, strD, b1]); try simp (disch := omega) only [i64_in, u64_in, shr64i])
    | (with_reducible refine W_condW ?_; (try simp [-map_take,-map_drop, AS.val, upd, resB, mkS_env, mkS_box, lk, entry_env, condW_true, condW_false, sgAV, sgC, ptAV, ptC, ratAV, ratC, zAV, zC, strD, b1]))
    | (with_reducible refine optK_dV (by first | omega | (simp [-map_take,-map_drop]; omega)) ?_)
    | with_reducible refine optK_dVh (by omega) ?_
    | refine And.intro (by first | omega | kernel_rfl) ?_
    | ((with_reducible refine condW_b (fun hc => ?_) (fun hc => ?_) <;> (try simp [-map_take,-map_drop, Int.ofNat_inj] at hc) <;> (try contradiction)))
    | fail)
  first | refine CallG_of (t2) ?_ ?_ rfl ?_ | refine callD_of (t2) ?_ ?_ rfl ?_
  · first | rfl | (simp [-map_take,-map_drop, natAV, numC, ← limbs.eq_1, push_cast, sgAV, sgC, ptAV, ptC, ratAV, ratC, zAV, zC]; done)
  · first | rfl | simp [-map_take,-map_drop, natAV, zAV, zC, ratAV, ratC, ptAV, ptC, sgAV, sgC, d3AV, d3sAV, d3C, dAV, dC, dotAV, AV.refs, refsL, push_cast]
  try dsimp only
  repeat' (first
    | with_reducible first | apply thenW_n | apply thenW_ret | apply thenW_exit | apply thenW_panic | apply blockW_n | apply blockW_same | apply blockW_ret | apply blockW_panic | apply loopW_ret | apply loopW_exit | apply loopW_panic | apply joinW_ret | apply joinW_exit | apply joinW_panic | apply W_seq | apply W_block | apply W_skip | apply W_ret | apply W_exit | apply W_label
    | with_reducible refine blockW_other (by decide) ?_
    | with_reducible refine W_region (by first | decide | (with_unfolding_all rfl)) ?_
    | (rw [vcn]; (try simp [-map_take,-map_drop, push_cast, sgAV, sgC, ptAV, ptC, ratAV, ratC, zAV, zC, strD, b1, b2]); try simp (disch := omega) only [i64_in, u64_in, shr64i])
    | with_reducible refine W_drawn mixed (by decide) (by kernel_rfl) ?_
    | (rw [vcnD]; (try simp [-map_take,-map_drop, push_cast, sgAV, sgC, ptAV, ptC, ratAV, ratC, zAV, zC, strD, b1, b2]); try simp (disch := omega) only [i64_in, u64_in, shr64i])
    | (with_reducible refine W_condW ?_; (try simp [-map_take,-map_drop, AS.val, upd, resB, mkS_env, mkS_box, lk, entry_env, condW_true, condW_false, sgAV, sgC, ptAV, ptC, ratAV, ratC, zAV, zC, strD, b1, b2]))
    | (with_reducible refine optK_dV (by first | omega | (simp [-map_take,-map_drop]; omega)) ?_)
    | with_reducible refine optK_dVh (by omega) ?_
    | refine And.intro (by first | omega | kernel_rfl) ?_
    | ((with_reducible refine condW_b (fun hc => ?_) (fun hc => ?_) <;> (try simp [-map_take,-map_drop, Int.ofNat_inj] at hc) <;> (try contradiction)))
    | fail)
  first | refine CallG_of (g1) ?_ ?_ rfl ?_ | refine callD_of (g1) ?_ ?_ rfl ?_
  · first | rfl | (simp [-map_take,-map_drop, natAV, numC, ← limbs.eq_1, push_cast, sgAV, sgC, ptAV, ptC, ratAV, ratC, zAV, zC]; done)
  · first | rfl | simp [-map_take,-map_drop, natAV, zAV, zC, ratAV, ratC, ptAV, ptC, sgAV, sgC, d3AV, d3sAV, d3C, dAV, dC, dotAV, AV.refs, refsL, push_cast]
  try dsimp only
  repeat' (first
    | with_reducible first | apply thenW_n | apply thenW_ret | apply thenW_exit | apply thenW_panic | apply blockW_n | apply blockW_same | apply blockW_ret | apply blockW_panic | apply loopW_ret | apply loopW_exit | apply loopW_panic | apply joinW_ret | apply joinW_exit | apply joinW_panic | apply W_seq | apply W_block | apply W_skip | apply W_ret | apply W_exit | apply W_label
    | with_reducible refine blockW_other (by decide) ?_
    | with_reducible refine W_region (by first | decide | (with_unfolding_all rfl)) ?_
    | (rw [vcn]; (try simp [-map_take,-map_drop, push_cast, sgAV, sgC, ptAV, ptC, ratAV, ratC, zAV, zC, strD, b1, b2]); try simp (disch := omega) only [i64_in, u64_in, shr64i])
    | with_reducible refine W_drawn mixed (by decide) (by kernel_rfl) ?_
    | (rw [vcnD]; (try simp [-map_take,-map_drop, push_cast, sgAV, sgC, ptAV, ptC, ratAV, ratC, zAV, zC, strD, b1, b2]); try simp (disch := omega) only [i64_in, u64_in, shr64i])
    | (with_reducible refine W_condW ?_; (try simp [-map_take,-map_drop, AS.val, upd, resB, mkS_env, mkS_box, lk, entry_env, condW_true, condW_false, sgAV, sgC, ptAV, ptC, ratAV, ratC, zAV, zC, strD, b1, b2]))
    | (with_reducible refine optK_dV (by first | omega | (simp [-map_take,-map_drop]; omega)) ?_)
    | with_reducible refine optK_dVh (by omega) ?_
    | refine And.intro (by first | omega | kernel_rfl) ?_
    | ((with_reducible refine condW_b (fun hc => ?_) (fun hc => ?_) <;> (try simp [-map_take,-map_drop, Int.ofNat_inj] at hc) <;> (try contradiction)))
    | fail)
  first | refine CallG_of (g3) ?_ ?_ rfl ?_ | refine callD_of (g3) ?_ ?_ rfl ?_
  · first | rfl | (simp [-map_take,-map_drop, natAV, numC, ← limbs.eq_1, push_cast, sgAV, sgC, ptAV, ptC, ratAV, ratC, zAV, zC]; done)
  · first | rfl | simp [-map_take,-map_drop, natAV, zAV, zC, ratAV, ratC, ptAV, ptC, sgAV, sgC, d3AV, d3sAV, d3C, dAV, dC, dotAV, AV.refs, refsL, push_cast]
  try dsimp only
  repeat' (first
    | with_reducible first | apply thenW_n | apply thenW_ret | apply thenW_exit | apply thenW_panic | apply blockW_n | apply blockW_same | apply blockW_ret | apply blockW_panic | apply loopW_ret | apply loopW_exit | apply loopW_panic | apply joinW_ret | apply joinW_exit | apply joinW_panic | apply W_seq | apply W_block | apply W_skip | apply W_ret | apply W_exit | apply W_label
    | with_reducible refine blockW_other (by decide) ?_
    | with_reducible refine W_region (by first | decide | (with_unfolding_all rfl)) ?_
    | (rw [vcn]; (try simp [-map_take,-map_drop, push_cast, sgAV, sgC, ptAV, ptC, ratAV, ratC, zAV, zC, strD, b1, b2]); try simp (disch := omega) only [i64_in, u64_in, shr64i])
    | with_reducible refine W_drawn mixed (by decide) (by kernel_rfl) ?_
    | (rw [vcnD]; (try simp [-map_take,-map_drop, push_cast, sgAV, sgC, ptAV, ptC, ratAV, ratC, zAV, zC, strD, b1, b2]); try simp (disch := omega) only [i64_in, u64_in, shr64i])
    | (with_reducible refine W_condW ?_; (try simp [-map_take,-map_drop, AS.val, upd, resB, mkS_env, mkS_box, lk, entry_env, condW_true, condW_false, sgAV, sgC, ptAV, ptC, ratAV, ratC, zAV, zC, strD, b1, b2]))
    | (with_reducible refine optK_dV (by first | omega | (simp [-map_take,-map_drop]; omega)) ?_)
    | with_reducible refine optK_dVh (by omega) ?_
    | refine And.intro (by first | omega | kernel_rfl) ?_
    | ((with_reducible refine condW_b (fun hc => ?_) (fun hc => ?_) <;> (try simp [-map_take,-map_drop, Int.ofNat_inj] at hc) <;> (try contradiction)))
    | fail)
  first | refine CallG_of (f3) ?_ ?_ rfl ?_ | refine callD_of (f3) ?_ ?_ rfl ?_
  · first | rfl | (simp [-map_take,-map_drop, natAV, numC, ← limbs.eq_1, push_cast, sgAV, sgC, ptAV, ptC, ratAV, ratC, zAV, zC]; done)
  · first | rfl | simp [-map_take,-map_drop, natAV, zAV, zC, ratAV, ratC, ptAV, ptC, sgAV, sgC, d3AV, d3sAV, d3C, dAV, dC, dotAV, AV.refs, refsL, push_cast]
  try dsimp only
  repeat' (first
    | with_reducible first | apply thenW_n | apply thenW_ret | apply thenW_exit | apply thenW_panic | apply blockW_n | apply blockW_same | apply blockW_ret | apply blockW_panic | apply loopW_ret | apply loopW_exit | apply loopW_panic | apply joinW_ret | apply joinW_exit | apply joinW_panic | apply W_seq | apply W_block | apply W_skip | apply W_ret | apply W_exit | apply W_label
    | with_reducible refine blockW_other (by decide) ?_
    | with_reducible refine W_region (by first | decide | (with_unfolding_all rfl)) ?_
    | (rw [vcn]; (try simp [-map_take,-map_drop, push_cast, sgAV, sgC, ptAV, ptC, ratAV, ratC, zAV, zC, strD, b1, b2]); try simp (disch := omega) only [i64_in, u64_in, shr64i])
    | with_reducible refine W_drawn mixed (by decide) (by kernel_rfl) ?_
    | (rw [vcnD]; (try simp [-map_take,-map_drop, push_cast, sgAV, sgC, ptAV, ptC, ratAV, ratC, zAV, zC, strD, b1, b2]); try simp (disch := omega) only [i64_in, u64_in, shr64i])
    | (with_reducible refine W_condW ?_; (try simp [-map_take,-map_drop, AS.val, upd, resB, mkS_env, mkS_box, lk, entry_env, condW_true, condW_false, sgAV, sgC, ptAV, ptC, ratAV, ratC, zAV, zC, strD, b1, b2]))
    | (with_reducible refine optK_dV (by first | omega | (simp [-map_take,-map_drop]; omega)) ?_)
    | with_reducible refine optK_dVh (by omega) ?_
    | refine And.intro (by first | omega | kernel_rfl) ?_
    | ((with_reducible refine condW_b (fun hc => ?_) (fun hc => ?_) <;> (try simp [-map_take,-map_drop, Int.ofNat_inj] at hc) <;> (try contradiction)))
    | fail)
  first | refine CallG_of (g4) ?_ ?_ rfl ?_ | refine callD_of (g4) ?_ ?_ rfl ?_
  · first | rfl | (simp [-map_take,-map_drop, natAV, numC, ← limbs.eq_1, push_cast, sgAV, sgC, ptAV, ptC, ratAV, ratC, zAV, zC]; done)
  · first | rfl | simp [-map_take,-map_drop, natAV, zAV, zC, ratAV, ratC, ptAV, ptC, sgAV, sgC, d3AV, d3sAV, d3C, dAV, dC, dotAV, AV.refs, refsL, push_cast]
  try dsimp only
  repeat' (first
    | with_reducible first | apply thenW_n | apply thenW_ret | apply thenW_exit | apply thenW_panic | apply blockW_n | apply blockW_same | apply blockW_ret | apply blockW_panic | apply loopW_ret | apply loopW_exit | apply loopW_panic | apply joinW_ret | apply joinW_exit | apply joinW_panic | apply W_seq | apply W_block | apply W_skip | apply W_ret | apply W_exit | apply W_label
    | with_reducible refine blockW_other (by decide) ?_
    | with_reducible refine W_region (by first | decide | (with_unfolding_all rfl)) ?_
    | (rw [vcn]; (try simp [-map_take,-map_drop, push_cast, sgAV, sgC, ptAV, ptC, ratAV, ratC, zAV, zC, strD, b1, b2]); try simp (disch := omega) only [i64_in, u64_in, shr64i])
    | with_reducible refine W_drawn mixed (by decide) (by kernel_rfl) ?_
    | (rw [vcnD]; (try simp [-map_take,-map_drop, push_cast, sgAV, sgC, ptAV, ptC, ratAV, ratC, zAV, zC, strD, b1, b2]); try simp (disch := omega) only [i64_in, u64_in, shr64i])
    | (with_reducible refine W_condW ?_; (try simp [-map_take,-map_drop, AS.val, upd, resB, mkS_env, mkS_box, lk, entry_env, condW_true, condW_false, sgAV, sgC, ptAV, ptC, ratAV, ratC, zAV, zC, strD, b1, b2]))
    | (with_reducible refine optK_dV (by first | omega | (simp [-map_take,-map_drop]; omega)) ?_)
    | with_reducible refine optK_dVh (by omega) ?_
    | refine And.intro (by first | omega | kernel_rfl) ?_
    | ((with_reducible refine condW_b (fun hc => ?_) (fun hc => ?_) <;> (try simp [-map_take,-map_drop, Int.ofNat_inj] at hc) <;> (try contradiction)))
    | fail)
  first | refine CallG_of (g4) ?_ ?_ rfl ?_ | refine callD_of (g4) ?_ ?_ rfl ?_
  · first | rfl | (simp [-map_take,-map_drop, natAV, numC, ← limbs.eq_1, push_cast, sgAV, sgC, ptAV, ptC, ratAV, ratC, zAV, zC]; done)
  · first | rfl | simp [-map_take,-map_drop, natAV, zAV, zC, ratAV, ratC, ptAV, ptC, sgAV, sgC, d3AV, d3sAV, d3C, dAV, dC, dotAV, AV.refs, refsL, push_cast]
  try dsimp only
  repeat' (first
    | with_reducible first | apply thenW_n | apply thenW_ret | apply thenW_exit | apply thenW_panic | apply blockW_n | apply blockW_same | apply blockW_ret | apply blockW_panic | apply loopW_ret | apply loopW_exit | apply loopW_panic | apply joinW_ret | apply joinW_exit | apply joinW_panic | apply W_seq | apply W_block | apply W_skip | apply W_ret | apply W_exit | apply W_label
    | with_reducible refine blockW_other (by decide) ?_
    | with_reducible refine W_region (by first | decide | (with_unfolding_all rfl)) ?_
    | (rw [vcn]; (try simp [-map_take,-map_drop, push_cast, sgAV, sgC, ptAV, ptC, ratAV, ratC, zAV, zC, strD, b1, b2]); try simp (disch := omega) only [i64_in, u64_in, shr64i])
    | with_reducible refine W_drawn mixed (by decide) (by kernel_rfl) ?_
    | (rw [vcnD]; (try simp [-map_take,-map_drop, push_cast, sgAV, sgC, ptAV, ptC, ratAV, ratC, zAV, zC, strD, b1, b2]); try simp (disch := omega) only [i64_in, u64_in, shr64i])
    | (with_reducible refine W_condW ?_; (try simp [-map_take,-map_drop, AS.val, upd, resB, mkS_env, mkS_box, lk, entry_env, condW_true, condW_false, sgAV, sgC, ptAV, ptC, ratAV, ratC, zAV, zC, strD, b1, b2]))
    | (with_reducible refine optK_dV (by first | omega | (simp [-map_take,-map_drop]; omega)) ?_)
    | with_reducible refine optK_dVh (by omega) ?_
    | refine And.intro (by first | omega | kernel_rfl) ?_
    | ((with_reducible refine condW_b (fun hc => ?_) (fun hc => ?_) <;> (try simp [-map_take,-map_drop, Int.ofNat_inj] at hc) <;> (try contradiction)))
    | fail)
  first | refine CallG_of (f4) ?_ ?_ rfl ?_ | refine callD_of (f4) ?_ ?_ rfl ?_
  · first | rfl | (simp [-map_take,-map_drop, natAV, numC, ← limbs.eq_1, push_cast, sgAV, sgC, ptAV, ptC, ratAV, ratC, zAV, zC]; done)
  · first | rfl | simp [-map_take,-map_drop, natAV, zAV, zC, ratAV, ratC, ptAV, ptC, sgAV, sgC, d3AV, d3sAV, d3C, dAV, dC, dotAV, AV.refs, refsL, push_cast]
  try dsimp only
  repeat' (first
    | with_reducible first | apply thenW_n | apply thenW_ret | apply thenW_exit | apply thenW_panic | apply blockW_n | apply blockW_same | apply blockW_ret | apply blockW_panic | apply loopW_ret | apply loopW_exit | apply loopW_panic | apply joinW_ret | apply joinW_exit | apply joinW_panic | apply W_seq | apply W_block | apply W_skip | apply W_ret | apply W_exit | apply W_label
    | with_reducible refine blockW_other (by decide) ?_
    | with_reducible refine W_region (by first | decide | (with_unfolding_all rfl)) ?_
    | (rw [vcn]; (try simp [-map_take,-map_drop, push_cast, strD, b1, b2]); try simp (disch := omega) only [i64_in, u64_in, shr64i])
    | with_reducible refine W_drawn mixed (by decide) (by kernel_rfl) ?_
    | (rw [vcnD]; (try simp [-map_take,-map_drop, push_cast, strD, b1, b2]); try simp (disch := omega) only [i64_in, u64_in, shr64i])
    | (with_reducible refine W_condW ?_; (try simp [-map_take,-map_drop, AS.val, upd, resB, mkS_env, mkS_box, lk, entry_env, condW_true, condW_false, strD, b1, b2]))
    | (with_reducible refine optK_dV (by first | omega | (simp [-map_take,-map_drop]; omega)) ?_)
    | with_reducible refine optK_dVh (by omega) ?_
    | refine And.intro (by first | omega | kernel_rfl) ?_
    | ((with_reducible refine condW_b (fun hc => ?_) (fun hc => ?_) <;> (try simp [-map_take,-map_drop, Int.ofNat_inj] at hc) <;> (try contradiction)))
    | fail)
  simp [-map_take,-map_drop, post, resAV, resAll, resOne, closeV, closeC, closeL, resD, resDL, push_cast]
end Go.Fw

/- The law ReachBetween comes to true: the walk. -/
-- VALS: zAV, zC, ratAV, ratC, ptAV, ptC, sgAV, sgC, d3sAV, d3C, dC, dotAV
namespace Go.Fw
open Go Go.Proofs Go.IntWalk
set_option linter.unusedSimpArgs false
set_option maxRecDepth 100000
set_option maxHeartbeats 20000000

theorem cmpQ_le (a b : Rat) : cmpZ (a.num * b.den) (b.num * a.den) ≤ 0 ↔ a ≤ b := by
  rw [cmpQ_eq]
  by_cases h1 : a < b
  · rw [if_pos h1]
    have : a ≤ b := by grind
    simp [this]
  · rw [if_neg h1]
    by_cases h2 : b < a
    · rw [if_pos h2]
      have : ¬ a ≤ b := by grind
      simp [this]
    · rw [if_neg h2]
      have : a ≤ b := by grind
      simp [this]
theorem cmpQ_zero (a b : Rat) : cmpZ (a.num * b.den) (b.num * a.den) = 0 ↔ a = b := by
  rw [cmpQ_eq]
  by_cases h1 : a < b
  · rw [if_pos h1]
    have : ¬ a = b := by grind
    simp [this]
  · rw [if_neg h1]
    by_cases h2 : b < a
    · rw [if_pos h2]
      have : ¬ a = b := by grind
      simp [this]
    · rw [if_neg h2]
      have : a = b := by grind
      simp [this]

open List (map_take map_drop)
attribute [local push_cast] optK_some optK_none optK_ite optK_map optK_bind gOn stepK isMem evPure evMem evBin evUn evConv evLen evBuiltin evMinMax evSlice evBuild evAppend evIndex evIndexAddr evField evFieldAddr intBin strBin appDest AS.val AS.mem AS.elems AS.put AS.put' AS.eff AV.cells? AV.isCell AV.refs all_isByte take_byteV drop_byteV strOf_map bndOk bnd partAV ptrAdd killBox catA inOrder fillA setAt ofVal resB upd byteV List.head?_take List.head?_drop List.getElem?_map mkS_env mkS_box mkS_used entry_env entry_box entry_used lk stepD lookIds Oper.looksAt Op.operands Call.operands St.ids refsL renL_append ren renL renBox Box.refs iV i64V boolV dV_getElem dV_app dV_cons toNat_add2 toNat_add1
attribute [local simp ↓] numC_refs numC_isCell numC_cells numC_resB numC_resD numC_ren numC_closeC numC_isOwn
theorem lawBetween_ok (a b c d : Int × Int × Int) (i0 k0 n : Int) (ha : inD a) (hb : inD b) (hc : inD c) (hd : inD d) (hn : inI n) :
    Eval Try.prog 3 [dotAV a, dotAV b, dotAV c, dotAV d, i64V i0, i64V k0, i64V n] (.ret (.v (.bool true))) := by
  refine Eval.intro Try.func3 rfl Try.call3 _ _ (Nat.le_of_ble_eq_true rfl) (by simp [-map_take,-map_drop, AV.refs, refsL, natAV, zAV, zC, ratAV, ratC, ptAV, ptC, sgAV, sgC, d3sAV, d3C, dC, dotAV, push_cast]) fun hs0 => ?_
  obtain ⟨ki, hki, ki100⟩ := hund19 i0
  obtain ⟨kj, hkj, kj100⟩ := hund19 k0
  have s1 := seg12_ok a b ha hb
  have s2 := seg12_ok c d hc hd
  have ze := sz_dots ha hb
  have zf := sz_dots hc hd
  have hp := HQ.part ha hb ki100
  have hq := HQ.part hc hd kj100
  obtain ⟨e, h1⟩ : ∃ e, e = dotsF a b := ⟨_, rfl⟩
  obtain ⟨f, h2⟩ : ∃ e, e = dotsF c d := ⟨_, rfl⟩
  rw [← h1] at s1 ze hp
  rw [← h2] at s2 zf hq
  clear h1 h2
  have q1 := part12_ok e i0 ki hki ki100 (by omega)
  have q2 := part12_ok f k0 kj hkj kj100 (by omega)
  have onp := on_part e ki100
  have onq := on_part f kj100
  obtain ⟨p, h1⟩ : ∃ p, p = e.at (Rat.divInt ki 100) := ⟨_, rfl⟩
  obtain ⟨q, h2⟩ : ∃ p, p = f.at (Rat.divInt kj 100) := ⟨_, rfl⟩
  rw [← h1] at q1 hp onp
  rw [← h2] at q2 hq onq
  have zp := hp.sz
  have zq := hq.sz
  have zs := HQ.sq hp hq
  have zt := sz_to e q
  have zl := sz_least e f
  have zmo := sz_most e f
  have zn : szQ ((n : Int) : Rat) ≤ 5 := szQ_int hn
  have zm := szQ_mul ((n : Int) : Rat) ((n : Int) : Rat)
  have r1 := ofZ_ok n hn
  have r2 := whole_ok n (by have := limbs_small (n := n.natAbs) (by unfold inI at hn; omega); omega)
  have c0 := cmpP_ok p q (by omega)
  have t1 := square_ok p q (by omega)
  have t2 := mulR_ok (.of ((n : Int) : Rat)) (.of ((n : Int) : Rat)) (by simp only [FQ.of]; omega)
  have t3 := cmpR_ok (.of (sqP p q)) (.of (((n : Int) : Rat) * ((n : Int) : Rat))) (by simp only [FQ.of]; omega)
  have t4 := to_ok e q (by omega)
  have l1 := reachLeast_ok e f (by omega)
  have m1 := reachMost_ok e f (by omega)
  have u1 := cmpR_ok (leastF e f) (.of (sqP p q)) (by simp only [FQ.of]; omega)
  have u2 := cmpR_ok (.of (sqP p q)) (mostF e f) (by simp only [FQ.of]; omega)
  have u3 := cmpR_ok (toF e q) (.of (sqP p q)) (by simp only [FQ.of]; omega)
  have u4 := cmpR_ok (leastF e f) (toF e q) (by omega)
  have cl := closer_ok e f n hn (by omega)
  have sg := signR_ok (.of (sqP p q)) (by simp only [FQ.of]; omega)
  have p1 : cmpZ ((leastF e f).q.num * (FQ.of (sqP p q)).q.den) ((FQ.of (sqP p q)).q.num * (leastF e f).q.den) ≤ 0 := (cmpQ_le _ _).2 (by rw [leastF_q]; exact leastD_le _ _ _ _ onp onq)
  have p2 : cmpZ ((FQ.of (sqP p q)).q.num * (mostF e f).q.den) ((mostF e f).q.num * (FQ.of (sqP p q)).q.den) ≤ 0 := (cmpQ_le _ _).2 (by rw [mostF_q]; exact le_mostD _ _ _ _ onp onq)
  have p3 : cmpZ ((toF e q).q.num * (FQ.of (sqP p q)).q.den) ((FQ.of (sqP p q)).q.num * (toF e q).q.den) ≤ 0 := (cmpQ_le _ _).2 (by rw [toF_q]; exact toD_le _ _ _ onp)
  have p4 : cmpZ ((leastF e f).q.num * (toF e q).q.den) ((toF e q).q.num * (leastF e f).q.den) ≤ 0 := (cmpQ_le _ _).2 (by rw [leastF_q, toF_q]; exact leastD_to _ _ _ onq)
  have p5 : 0 ≤ (FQ.of (sqP p q)).q.num.sign := (sign_ge _).2 (sqD_nn p.v q.v)
  have p6 : 0 < n → cmpP p q ≠ 0 → sqC p q n < 0 → closerB e f n = true := fun h1 h2 h3 => (closerB_iff _ _ _).2 (near_closer h1 onp onq (fun h => h2 ((cmpP_zero _ _).2 h)) ((sqC_neg _ _ _).1 h3))
  have o1 : cmpZ ((FQ.of (sqP p q)).q.num * (FQ.of (((n : Int) : Rat) * ((n : Int) : Rat))).q.den) ((FQ.of (((n : Int) : Rat) * ((n : Int) : Rat))).q.num * (FQ.of (sqP p q)).q.den) = sqC p q n := rfl
  rw [o1] at t3
  have o5 : (FQ.of ((n : Int) : Rat)).q * (FQ.of ((n : Int) : Rat)).q = ((n : Int) : Rat) * ((n : Int) : Rat) := rfl
  rw [o5] at t2
  obtain ⟨v1, hx⟩ : ∃ x, x = cmpZ ((leastF e f).q.num * (FQ.of (sqP p q)).q.den) ((FQ.of (sqP p q)).q.num * (leastF e f).q.den) := ⟨_, rfl⟩
  rw [← hx] at u1 p1
  clear hx
  obtain ⟨v2, hx⟩ : ∃ x, x = cmpZ ((FQ.of (sqP p q)).q.num * (mostF e f).q.den) ((mostF e f).q.num * (FQ.of (sqP p q)).q.den) := ⟨_, rfl⟩
  rw [← hx] at u2 p2
  clear hx
  obtain ⟨v3, hx⟩ : ∃ x, x = cmpZ ((toF e q).q.num * (FQ.of (sqP p q)).q.den) ((FQ.of (sqP p q)).q.num * (toF e q).q.den) := ⟨_, rfl⟩
  rw [← hx] at u3 p3
  clear hx
  obtain ⟨v4, hx⟩ : ∃ x, x = cmpZ ((leastF e f).q.num * (toF e q).q.den) ((toF e q).q.num * (leastF e f).q.den) := ⟨_, rfl⟩
  rw [← hx] at u4 p4
  clear hx
  obtain ⟨v5, hx⟩ : ∃ x, x = (FQ.of (sqP p q)).q.num.sign := ⟨_, rfl⟩
  rw [← hx] at sg p5
  clear hx
  obtain ⟨cp, hx⟩ : ∃ x, x = cmpP p q := ⟨_, rfl⟩
  rw [← hx] at c0 p6
  clear hx
  obtain ⟨cr, hx⟩ : ∃ x, x = sqC p q n := ⟨_, rfl⟩
  rw [← hx] at t3 p6
  clear hx
  obtain ⟨cb, hx⟩ : ∃ x, x = closerB e f n := ⟨_, rfl⟩
  rw [← hx] at cl p6
  clear hx
  obtain ⟨SQ, hx⟩ : ∃ x, x = FQ.of (sqP p q) := ⟨_, rfl⟩
  rw [← hx] at t1 t3 u1 u2 u3 sg
  clear hx
  obtain ⟨M, hx⟩ : ∃ x, x = FQ.of ((n : Int) : Rat) := ⟨_, rfl⟩
  rw [← hx] at r2 t2
  clear hx
  obtain ⟨MM, hx⟩ : ∃ x, x = FQ.of (((n : Int) : Rat) * ((n : Int) : Rat)) := ⟨_, rfl⟩
  rw [← hx] at t2 t3
  clear hx
  obtain ⟨TO, hx⟩ : ∃ x, x = toF e q := ⟨_, rfl⟩
  rw [← hx] at t4 u3 u4
  clear hx
  obtain ⟨LE, hx⟩ : ∃ x, x = leastF e f := ⟨_, rfl⟩
  rw [← hx] at l1 u1 u4
  clear hx
  obtain ⟨MO, hx⟩ : ∃ x, x = mostF e f := ⟨_, rfl⟩
  rw [← hx] at m1 u2
  clear hx
  clear h1 h2 o1 o5 zp zq zs zt zl zmo zn zm ze zf hp hq ha hb hc hd onp onq hki hkj ki100 kj100 hn
  obtain ⟨clo, hclo⟩ : ∃ x, x = (decide (0 < n) && ((cp != 0) && decide (cr < 0))) := ⟨_, rfl⟩
  have p7 : clo = true → cb = true := fun h => by
    rw [hclo] at h
    simp only [Bool.and_eq_true, decide_eq_true_eq, bne_iff_ne] at h
    exact p6 h.1 h.2.1 h.2.2
  clear p6
  repeat' (first
    | with_reducible first | apply thenW_n | apply thenW_ret | apply thenW_exit | apply thenW_panic | apply blockW_n | apply blockW_same | apply blockW_ret | apply blockW_panic | apply loopW_ret | apply loopW_exit | apply loopW_panic | apply joinW_ret | apply joinW_exit | apply joinW_panic | apply W_seq | apply W_block | apply W_skip | apply W_ret | apply W_exit | apply W_label
    | with_reducible refine blockW_other (by decide) ?_
    | with_reducible refine W_region (by first | decide | (with_unfolding_all rfl)) ?_
    | (rw [vcn]; (try simp [-map_take,-map_drop, push_cast, dotAV]); try simp (disch := omega) only [i64_in, u64_in, shr64i])
    | with_reducible refine W_drawn mixed (by decide) (by kernel_rfl) ?_
    | (rw [vcnD]; (try simp [-map_take,-map_drop, push_cast, dotAV]); try simp (disch := omega) only [i64_in, u64_in, shr64i])
    | (with_reducible refine W_condW ?_; (try simp [-map_take,-map_drop, AS.val, upd, resB, mkS_env, mkS_box, lk, entry_env, condW_true, condW_false, dotAV]))
    | (with_reducible refine optK_dV (by first | omega | (simp [-map_take,-map_drop]; omega)) ?_)
    | with_reducible refine optK_dVh (by omega) ?_
    | refine And.intro (by first | omega | kernel_rfl) ?_
    | ((with_reducible refine condW_b (fun hc => ?_) (fun hc => ?_) <;> (try simp [-map_take,-map_drop, Int.ofNat_inj] at hc) <;> (try contradiction)))
    | fail)
  first | refine CallG_of (s1) ?_ ?_ rfl ?_ | refine callD_of (s1) ?_ ?_ rfl ?_
  · first | rfl | (simp [-map_take,-map_drop, natAV, numC, ← limbs.eq_1, push_cast, sgAV, sgC, ptAV, ptC, ratAV, ratC, zAV, zC, d3sAV, d3C, dC]; done)
  · first | rfl | simp [-map_take,-map_drop, natAV, zAV, zC, ratAV, ratC, ptAV, ptC, sgAV, sgC, d3sAV, d3C, dC, dotAV, AV.refs, refsL, push_cast]
  try dsimp only
  repeat' (first
    | with_reducible first | apply thenW_n | apply thenW_ret | apply thenW_exit | apply thenW_panic | apply blockW_n | apply blockW_same | apply blockW_ret | apply blockW_panic | apply loopW_ret | apply loopW_exit | apply loopW_panic | apply joinW_ret | apply joinW_exit | apply joinW_panic | apply W_seq | apply W_block | apply W_skip | apply W_ret | apply W_exit | apply W_label
    | with_reducible refine blockW_other (by decide) ?_
    | with_reducible refine W_region (by first | decide | (with_unfolding_all rfl)) ?_
    | (rw [vcn]; (try simp [-map_take,-map_drop, push_cast, sgAV, sgC, ptAV, ptC, ratAV, ratC, zAV, zC, d3sAV, d3C, dC]); try simp (disch := omega) only [i64_in, u64_in, shr64i])
    | with_reducible refine W_drawn mixed (by decide) (by kernel_rfl) ?_
    | (rw [vcnD]; (try simp [-map_take,-map_drop, push_cast, sgAV, sgC, ptAV, ptC, ratAV, ratC, zAV, zC, d3sAV, d3C, dC]); try simp (disch := omega) only [i64_in, u64_in, shr64i])
    | (with_reducible refine W_condW ?_; (try simp [-map_take,-map_drop, AS.val, upd, resB, mkS_env, mkS_box, lk, entry_env, condW_true, condW_false, sgAV, sgC, ptAV, ptC, ratAV, ratC, zAV, zC, d3sAV, d3C, dC]))
    | (with_reducible refine optK_dV (by first | omega | (simp [-map_take,-map_drop]; omega)) ?_)
    | with_reducible refine optK_dVh (by omega) ?_
    | refine And.intro (by first | omega | kernel_rfl) ?_
    | ((with_reducible refine condW_b (fun hc => ?_) (fun hc => ?_) <;> (try simp [-map_take,-map_drop, Int.ofNat_inj] at hc) <;> (try contradiction)))
    | fail)
  first | refine CallG_of (s2) ?_ ?_ rfl ?_ | refine callD_of (s2) ?_ ?_ rfl ?_
  · first | rfl | (simp [-map_take,-map_drop, natAV, numC, ← limbs.eq_1, push_cast, sgAV, sgC, ptAV, ptC, ratAV, ratC, zAV, zC, d3sAV, d3C, dC]; done)
  · first | rfl | simp [-map_take,-map_drop, natAV, zAV, zC, ratAV, ratC, ptAV, ptC, sgAV, sgC, d3sAV, d3C, dC, dotAV, AV.refs, refsL, push_cast]
  try dsimp only
  repeat' (first
    | with_reducible first | apply thenW_n | apply thenW_ret | apply thenW_exit | apply thenW_panic | apply blockW_n | apply blockW_same | apply blockW_ret | apply blockW_panic | apply loopW_ret | apply loopW_exit | apply loopW_panic | apply joinW_ret | apply joinW_exit | apply joinW_panic | apply W_seq | apply W_block | apply W_skip | apply W_ret | apply W_exit | apply W_label
    | with_reducible refine blockW_other (by decide) ?_
    | with_reducible refine W_region (by first | decide | (with_unfolding_all rfl)) ?_
    | (rw [vcn]; (try simp [-map_take,-map_drop, push_cast, sgAV, sgC, ptAV, ptC, ratAV, ratC, zAV, zC, d3sAV, d3C, dC]); try simp (disch := omega) only [i64_in, u64_in, shr64i])
    | with_reducible refine W_drawn mixed (by decide) (by kernel_rfl) ?_
    | (rw [vcnD]; (try simp [-map_take,-map_drop, push_cast, sgAV, sgC, ptAV, ptC, ratAV, ratC, zAV, zC, d3sAV, d3C, dC]); try simp (disch := omega) only [i64_in, u64_in, shr64i])
    | (with_reducible refine W_condW ?_; (try simp [-map_take,-map_drop, AS.val, upd, resB, mkS_env, mkS_box, lk, entry_env, condW_true, condW_false, sgAV, sgC, ptAV, ptC, ratAV, ratC, zAV, zC, d3sAV, d3C, dC]))
    | (with_reducible refine optK_dV (by first | omega | (simp [-map_take,-map_drop]; omega)) ?_)
    | with_reducible refine optK_dVh (by omega) ?_
    | refine And.intro (by first | omega | kernel_rfl) ?_
    | ((with_reducible refine condW_b (fun hc => ?_) (fun hc => ?_) <;> (try simp [-map_take,-map_drop, Int.ofNat_inj] at hc) <;> (try contradiction)))
    | fail)
  first | refine CallG_of (q1) ?_ ?_ rfl ?_ | refine callD_of (q1) ?_ ?_ rfl ?_
  · first | rfl | (simp [-map_take,-map_drop, natAV, numC, ← limbs.eq_1, push_cast, sgAV, sgC, ptAV, ptC, ratAV, ratC, zAV, zC]; done)
  · first | rfl | simp [-map_take,-map_drop, natAV, zAV, zC, ratAV, ratC, ptAV, ptC, sgAV, sgC, d3sAV, d3C, dC, dotAV, AV.refs, refsL, push_cast]
  try dsimp only
  repeat' (first
    | with_reducible first | apply thenW_n | apply thenW_ret | apply thenW_exit | apply thenW_panic | apply blockW_n | apply blockW_same | apply blockW_ret | apply blockW_panic | apply loopW_ret | apply loopW_exit | apply loopW_panic | apply joinW_ret | apply joinW_exit | apply joinW_panic | apply W_seq | apply W_block | apply W_skip | apply W_ret | apply W_exit | apply W_label
    | with_reducible refine blockW_other (by decide) ?_
    | with_reducible refine W_region (by first | decide | (with_unfolding_all rfl)) ?_
    | (rw [vcn]; (try simp [-map_take,-map_drop, push_cast, sgAV, sgC, ptAV, ptC, ratAV, ratC, zAV, zC]); try simp (disch := omega) only [i64_in, u64_in, shr64i])
    | with_reducible refine W_drawn mixed (by decide) (by kernel_rfl) ?_
    | (rw [vcnD]; (try simp [-map_take,-map_drop, push_cast, sgAV, sgC, ptAV, ptC, ratAV, ratC, zAV, zC]); try simp (disch := omega) only [i64_in, u64_in, shr64i])
    | (with_reducible refine W_condW ?_; (try simp [-map_take,-map_drop, AS.val, upd, resB, mkS_env, mkS_box, lk, entry_env, condW_true, condW_false, sgAV, sgC, ptAV, ptC, ratAV, ratC, zAV, zC]))
    | (with_reducible refine optK_dV (by first | omega | (simp [-map_take,-map_drop]; omega)) ?_)
    | with_reducible refine optK_dVh (by omega) ?_
    | refine And.intro (by first | omega | kernel_rfl) ?_
    | ((with_reducible refine condW_b (fun hc => ?_) (fun hc => ?_) <;> (try simp [-map_take,-map_drop, Int.ofNat_inj] at hc) <;> (try contradiction)))
    | fail)
  first | refine CallG_of (q2) ?_ ?_ rfl ?_ | refine callD_of (q2) ?_ ?_ rfl ?_
  · first | rfl | (simp [-map_take,-map_drop, natAV, numC, ← limbs.eq_1, push_cast, sgAV, sgC, ptAV, ptC, ratAV, ratC, zAV, zC]; done)
  · first | rfl | simp [-map_take,-map_drop, natAV, zAV, zC, ratAV, ratC, ptAV, ptC, sgAV, sgC, d3sAV, d3C, dC, dotAV, AV.refs, refsL, push_cast]
  try dsimp only
  repeat' (first
    | with_reducible first | apply thenW_n | apply thenW_ret | apply thenW_exit | apply thenW_panic | apply blockW_n | apply blockW_same | apply blockW_ret | apply blockW_panic | apply loopW_ret | apply loopW_exit | apply loopW_panic | apply joinW_ret | apply joinW_exit | apply joinW_panic | apply W_seq | apply W_block | apply W_skip | apply W_ret | apply W_exit | apply W_label
    | with_reducible refine blockW_other (by decide) ?_
    | with_reducible refine W_region (by first | decide | (with_unfolding_all rfl)) ?_
    | (rw [vcn]; (try simp [-map_take,-map_drop, push_cast, sgAV, sgC, ptAV, ptC, ratAV, ratC, zAV, zC]); try simp (disch := omega) only [i64_in, u64_in, shr64i])
    | with_reducible refine W_drawn mixed (by decide) (by kernel_rfl) ?_
    | (rw [vcnD]; (try simp [-map_take,-map_drop, push_cast, sgAV, sgC, ptAV, ptC, ratAV, ratC, zAV, zC]); try simp (disch := omega) only [i64_in, u64_in, shr64i])
    | (with_reducible refine W_condW ?_; (try simp [-map_take,-map_drop, AS.val, upd, resB, mkS_env, mkS_box, lk, entry_env, condW_true, condW_false, sgAV, sgC, ptAV, ptC, ratAV, ratC, zAV, zC]))
    | (with_reducible refine optK_dV (by first | omega | (simp [-map_take,-map_drop]; omega)) ?_)
    | with_reducible refine optK_dVh (by omega) ?_
    | refine And.intro (by first | omega | kernel_rfl) ?_
    | ((with_reducible refine condW_b (fun hc => ?_) (fun hc => ?_) <;> (try simp [-map_take,-map_drop, Int.ofNat_inj] at hc) <;> (try contradiction)))
    | fail)
  first | refine CallG_of (t1) ?_ ?_ rfl ?_ | refine callD_of (t1) ?_ ?_ rfl ?_
  · first | rfl | (simp [-map_take,-map_drop, natAV, numC, ← limbs.eq_1, push_cast, sgAV, sgC, ptAV, ptC, ratAV, ratC, zAV, zC]; done)
  · first | rfl | simp [-map_take,-map_drop, natAV, zAV, zC, ratAV, ratC, ptAV, ptC, sgAV, sgC, d3sAV, d3C, dC, dotAV, AV.refs, refsL, push_cast]
  try dsimp only
  repeat' (first
    | with_reducible first | apply thenW_n | apply thenW_ret | apply thenW_exit | apply thenW_panic | apply blockW_n | apply blockW_same | apply blockW_ret | apply blockW_panic | apply loopW_ret | apply loopW_exit | apply loopW_panic | apply joinW_ret | apply joinW_exit | apply joinW_panic | apply W_seq | apply W_block | apply W_skip | apply W_ret | apply W_exit | apply W_label
    | with_reducible refine blockW_other (by decide) ?_
    | with_reducible refine W_region (by first | decide | (with_unfolding_all rfl)) ?_
    | (rw [vcn]; (try simp [-map_take,-map_drop, push_cast, sgAV, sgC, ptAV, ptC, ratAV, ratC, zAV, zC]); try simp (disch := omega) only [i64_in, u64_in, shr64i])
    | with_reducible refine W_drawn mixed (by decide) (by kernel_rfl) ?_
    | (rw [vcnD]; (try simp [-map_take,-map_drop, push_cast, sgAV, sgC, ptAV, ptC, ratAV, ratC, zAV, zC]); try simp (disch := omega) only [i64_in, u64_in, shr64i])
    | (with_reducible refine W_condW ?_; (try simp [-map_take,-map_drop, AS.val, upd, resB, mkS_env, mkS_box, lk, entry_env, condW_true, condW_false, sgAV, sgC, ptAV, ptC, ratAV, ratC, zAV, zC]))
    | (with_reducible refine optK_dV (by first | omega | (simp [-map_take,-map_drop]; omega)) ?_)
    | with_reducible refine optK_dVh (by omega) ?_
    | refine And.intro (by first | omega | kernel_rfl) ?_
    | ((with_reducible refine condW_b (fun hc => ?_) (fun hc => ?_) <;> (try simp [-map_take,-map_drop, Int.ofNat_inj] at hc) <;> (try contradiction)))
    | fail)
  first | refine CallG_of (r1) ?_ ?_ rfl ?_ | refine callD_of (r1) ?_ ?_ rfl ?_
  · first | rfl | (simp [-map_take,-map_drop, natAV, numC, ← limbs.eq_1, push_cast, zAV, zC]; done)
  · first | rfl | simp [-map_take,-map_drop, natAV, zAV, zC, ratAV, ratC, ptAV, ptC, sgAV, sgC, d3sAV, d3C, dC, dotAV, AV.refs, refsL, push_cast]
  try dsimp only
  repeat' (first
    | with_reducible first | apply thenW_n | apply thenW_ret | apply thenW_exit | apply thenW_panic | apply blockW_n | apply blockW_same | apply blockW_ret | apply blockW_panic | apply loopW_ret | apply loopW_exit | apply loopW_panic | apply joinW_ret | apply joinW_exit | apply joinW_panic | apply W_seq | apply W_block | apply W_skip | apply W_ret | apply W_exit | apply W_label
    | with_reducible refine blockW_other (by decide) ?_
    | with_reducible refine W_region (by first | decide | (with_unfolding_all rfl)) ?_
    | (rw [vcn]; (try simp [-map_take,-map_drop, push_cast, zAV, zC]); try simp (disch := omega) only [i64_in, u64_in, shr64i])
    | with_reducible refine W_drawn mixed (by decide) (by kernel_rfl) ?_
    | (rw [vcnD]; (try simp [-map_take,-map_drop, push_cast, zAV, zC]); try simp (disch := omega) only [i64_in, u64_in, shr64i])
    | (with_reducible refine W_condW ?_; (try simp [-map_take,-map_drop, AS.val, upd, resB, mkS_env, mkS_box, lk, entry_env, condW_true, condW_false, zAV, zC]))
    | (with_reducible refine optK_dV (by first | omega | (simp [-map_take,-map_drop]; omega)) ?_)
    | with_reducible refine optK_dVh (by omega) ?_
    | refine And.intro (by first | omega | kernel_rfl) ?_
    | ((with_reducible refine condW_b (fun hc => ?_) (fun hc => ?_) <;> (try simp [-map_take,-map_drop, Int.ofNat_inj] at hc) <;> (try contradiction)))
    | fail)
  first | refine CallG_of (r2) ?_ ?_ rfl ?_ | refine callD_of (r2) ?_ ?_ rfl ?_
  · first | rfl | (simp [-map_take,-map_drop, natAV, numC, ← limbs.eq_1, push_cast, ratAV, ratC, zAV, zC]; done)
  · first | rfl | simp [-map_take,-map_drop, natAV, zAV, zC, ratAV, ratC, ptAV, ptC, sgAV, sgC, d3sAV, d3C, dC, dotAV, AV.refs, refsL, push_cast]
  try dsimp only
  repeat' (first
    | with_reducible apply W_seq
    | with_reducible refine W_region (by first | decide | (with_unfolding_all rfl)) ?_
    | (rw [vcn]; (try simp [-map_take,-map_drop, push_cast, ratAV, ratC, zAV, zC]); try simp (disch := omega) only [i64_in, u64_in, shr64i])
    | with_reducible refine W_drawn mixed (by decide) (by kernel_rfl) ?_
    | (rw [vcnD]; (try simp [-map_take,-map_drop, push_cast, ratAV, ratC, zAV, zC]); try simp (disch := omega) only [i64_in, u64_in, shr64i])
    | (with_reducible refine optK_dV (by first | omega | (simp [-map_take,-map_drop]; omega)) ?_)
    | with_reducible refine optK_dVh (by omega) ?_
    | refine And.intro (by first | omega | kernel_rfl) ?_
    | ((with_reducible refine condW_b (fun hc => ?_) (fun hc => ?_) <;> (try simp [-map_take,-map_drop, Int.ofNat_inj] at hc) <;> (try contradiction)))
    | fail)
  refine thenW_n ?_
  refine W_seq ?_
  refine W_joinQ (X := Unit) (fun _ => [(6, i64V n), (15, .bp 15 0), (17, .bp 17 0), (20, .bp 20 0), (21, .bp 21 0), (23, boolV clo)]) (fun _ => [(15, .mut 34 (sgC e)), (17, .mut 34 (sgC f)), (20, .mut 32 (ptC q)), (21, .mut 30 (ratC SQ))]) (fun _ => True) ?_ fun _ _ => ?_
  · by_cases g0 : 0 < n
    · have G0 : (0 < n) = True := eq_true g0
      repeat' (first
        | with_reducible first | apply thenW_n | apply thenW_ret | apply thenW_exit | apply thenW_panic | apply blockW_n | apply blockW_same | apply blockW_ret | apply blockW_panic | apply loopW_ret | apply loopW_exit | apply loopW_panic | apply joinW_ret | apply joinW_exit | apply joinW_panic | apply W_seq | apply W_block | apply W_skip | apply W_ret | apply W_exit | apply W_label
        | with_reducible refine blockW_other (by decide) ?_
        | with_reducible refine W_region (by first | decide | (with_unfolding_all rfl)) ?_
        | (rw [vcn]; (try simp [-map_take,-map_drop, push_cast, G0, sgAV, sgC, ptAV, ptC, ratAV, ratC, zAV, zC]); try simp (disch := omega) only [i64_in, u64_in, shr64i])
        | with_reducible refine W_drawn mixed (by decide) (by kernel_rfl) ?_
        | (rw [vcnD]; (try simp [-map_take,-map_drop, push_cast, G0, sgAV, sgC, ptAV, ptC, ratAV, ratC, zAV, zC]); try simp (disch := omega) only [i64_in, u64_in, shr64i])
        | (with_reducible refine W_condW ?_; (try simp [-map_take,-map_drop, AS.val, upd, resB, mkS_env, mkS_box, lk, entry_env, condW_true, condW_false, G0, sgAV, sgC, ptAV, ptC, ratAV, ratC, zAV, zC]))
        | (with_reducible refine optK_dV (by first | omega | (simp [-map_take,-map_drop]; omega)) ?_)
        | with_reducible refine optK_dVh (by omega) ?_
        | refine And.intro (by first | omega | kernel_rfl) ?_
        | ((with_reducible refine condW_b (fun hc => ?_) (fun hc => ?_) <;> (try simp [-map_take,-map_drop, Int.ofNat_inj] at hc) <;> (try contradiction)))
        | fail)
      first | refine CallG_of (c0) ?_ ?_ rfl ?_ | refine callD_of (c0) ?_ ?_ rfl ?_
      · first | rfl | (simp [-map_take,-map_drop, natAV, numC, ← limbs.eq_1, push_cast, sgAV, sgC, ptAV, ptC, ratAV, ratC, zAV, zC]; done)
      · first | rfl | simp [-map_take,-map_drop, natAV, zAV, zC, ratAV, ratC, ptAV, ptC, sgAV, sgC, d3sAV, d3C, dC, dotAV, AV.refs, refsL, push_cast]
      try dsimp only
      by_cases g1 : cp = 0
      · have hc : clo = false := by rw [hclo, g1]; simp [-map_take,-map_drop]
        repeat' (first
          | with_reducible first | apply thenW_n | apply thenW_ret | apply thenW_exit | apply thenW_panic | apply blockW_n | apply blockW_same | apply blockW_ret | apply blockW_panic | apply loopW_ret | apply loopW_exit | apply loopW_panic | apply joinW_ret | apply joinW_exit | apply joinW_panic | apply W_seq | apply W_block | apply W_skip | apply W_ret | apply W_exit | apply W_label
          | with_reducible refine blockW_other (by decide) ?_
          | with_reducible refine W_region (by first | decide | (with_unfolding_all rfl)) ?_
          | (rw [vcn]; (try simp [-map_take,-map_drop, push_cast, G0, g1]); try simp (disch := omega) only [i64_in, u64_in, shr64i])
          | with_reducible refine W_drawn mixed (by decide) (by kernel_rfl) ?_
          | (rw [vcnD]; (try simp [-map_take,-map_drop, push_cast, G0, g1]); try simp (disch := omega) only [i64_in, u64_in, shr64i])
          | (with_reducible refine W_condW ?_; (try simp [-map_take,-map_drop, AS.val, upd, resB, mkS_env, mkS_box, lk, entry_env, condW_true, condW_false, G0, g1]))
          | (with_reducible refine optK_dV (by first | omega | (simp [-map_take,-map_drop]; omega)) ?_)
          | with_reducible refine optK_dVh (by omega) ?_
          | refine And.intro (by first | omega | kernel_rfl) ?_
          | ((with_reducible refine condW_b (fun hc => ?_) (fun hc => ?_) <;> (try simp [-map_take,-map_drop, Int.ofNat_inj] at hc) <;> (try contradiction)))
          | fail)
        refine joinW_n () id trivial ⟨?_, ?_, ?_, ?_, ?_, ?_⟩
        all_goals first | (with_reducible refine W_id ?_) | (simp [-map_take,-map_drop, push_cast, dV_take, dV_drop, sgC, ptC, ratC, zC, hc]; done) | (simp [-map_take,-map_drop, push_cast, dV_take, dV_drop, sgC, ptC, ratC, zC, hc]; omega) | (intro i hi; simp [-map_take,-map_drop]; omega) | (intro i hi; dsimp only; (repeat' split) <;> omega) | (simp [-map_take,-map_drop, push_cast, dV_take, dV_drop, sgC, ptC, ratC, zC, hc]; fail_if_success done)
      · have G1 : (cp = 0) = False := eq_false g1
        repeat' (first
          | with_reducible first | apply thenW_n | apply thenW_ret | apply thenW_exit | apply thenW_panic | apply blockW_n | apply blockW_same | apply blockW_ret | apply blockW_panic | apply loopW_ret | apply loopW_exit | apply loopW_panic | apply joinW_ret | apply joinW_exit | apply joinW_panic | apply W_seq | apply W_block | apply W_skip | apply W_ret | apply W_exit | apply W_label
          | with_reducible refine blockW_other (by decide) ?_
          | with_reducible refine W_region (by first | decide | (with_unfolding_all rfl)) ?_
          | (rw [vcn]; (try simp [-map_take,-map_drop, push_cast, G0, G1, sgAV, sgC, ptAV, ptC, ratAV, ratC, zAV, zC]); try simp (disch := omega) only [i64_in, u64_in, shr64i])
          | with_reducible refine W_drawn mixed (by decide) (by kernel_rfl) ?_
          | (rw [vcnD]; (try simp [-map_take,-map_drop, push_cast, G0, G1, sgAV, sgC, ptAV, ptC, ratAV, ratC, zAV, zC]); try simp (disch := omega) only [i64_in, u64_in, shr64i])
          | (with_reducible refine W_condW ?_; (try simp [-map_take,-map_drop, AS.val, upd, resB, mkS_env, mkS_box, lk, entry_env, condW_true, condW_false, G0, G1, sgAV, sgC, ptAV, ptC, ratAV, ratC, zAV, zC]))
          | (with_reducible refine optK_dV (by first | omega | (simp [-map_take,-map_drop]; omega)) ?_)
          | with_reducible refine optK_dVh (by omega) ?_
          | refine And.intro (by first | omega | kernel_rfl) ?_
          | ((with_reducible refine condW_b (fun hc => ?_) (fun hc => ?_) <;> (try simp [-map_take,-map_drop, Int.ofNat_inj] at hc) <;> (try contradiction)))
          | fail)
        first | refine CallG_of (t2) ?_ ?_ rfl ?_ | refine callD_of (t2) ?_ ?_ rfl ?_
        · first | rfl | (simp [-map_take,-map_drop, natAV, numC, ← limbs.eq_1, push_cast, sgAV, sgC, ptAV, ptC, ratAV, ratC, zAV, zC]; done)
        · first | rfl | simp [-map_take,-map_drop, natAV, zAV, zC, ratAV, ratC, ptAV, ptC, sgAV, sgC, d3sAV, d3C, dC, dotAV, AV.refs, refsL, push_cast]
        try dsimp only
        repeat' (first
          | with_reducible first | apply thenW_n | apply thenW_ret | apply thenW_exit | apply thenW_panic | apply blockW_n | apply blockW_same | apply blockW_ret | apply blockW_panic | apply loopW_ret | apply loopW_exit | apply loopW_panic | apply joinW_ret | apply joinW_exit | apply joinW_panic | apply W_seq | apply W_block | apply W_skip | apply W_ret | apply W_exit | apply W_label
          | with_reducible refine blockW_other (by decide) ?_
          | with_reducible refine W_region (by first | decide | (with_unfolding_all rfl)) ?_
          | (rw [vcn]; (try simp [-map_take,-map_drop, push_cast, G0, G1, sgAV, sgC, ptAV, ptC, ratAV, ratC, zAV, zC]); try simp (disch := omega) only [i64_in, u64_in, shr64i])
          | with_reducible refine W_drawn mixed (by decide) (by kernel_rfl) ?_
          | (rw [vcnD]; (try simp [-map_take,-map_drop, push_cast, G0, G1, sgAV, sgC, ptAV, ptC, ratAV, ratC, zAV, zC]); try simp (disch := omega) only [i64_in, u64_in, shr64i])
          | (with_reducible refine W_condW ?_; (try simp [-map_take,-map_drop, AS.val, upd, resB, mkS_env, mkS_box, lk, entry_env, condW_true, condW_false, G0, G1, sgAV, sgC, ptAV, ptC, ratAV, ratC, zAV, zC]))
          | (with_reducible refine optK_dV (by first | omega | (simp [-map_take,-map_drop]; omega)) ?_)
          | with_reducible refine optK_dVh (by omega) ?_
          | refine And.intro (by first | omega | kernel_rfl) ?_
          | ((with_reducible refine condW_b (fun hc => ?_) (fun hc => ?_) <;> (try simp [-map_take,-map_drop, Int.ofNat_inj] at hc) <;> (try contradiction)))
          | fail)
        first | refine CallG_of (t3) ?_ ?_ rfl ?_ | refine callD_of (t3) ?_ ?_ rfl ?_
        · first | rfl | (simp [-map_take,-map_drop, natAV, numC, ← limbs.eq_1, push_cast, sgAV, sgC, ptAV, ptC, ratAV, ratC, zAV, zC]; done)
        · first | rfl | simp [-map_take,-map_drop, natAV, zAV, zC, ratAV, ratC, ptAV, ptC, sgAV, sgC, d3sAV, d3C, dC, dotAV, AV.refs, refsL, push_cast]
        try dsimp only
        have hc : clo = decide (cr < 0) := by rw [hclo, bne_iff_ne.2 g1, decide_eq_true g0]; rfl
        repeat' (first
          | with_reducible first | apply thenW_n | apply thenW_ret | apply thenW_exit | apply thenW_panic | apply blockW_n | apply blockW_same | apply blockW_ret | apply blockW_panic | apply loopW_ret | apply loopW_exit | apply loopW_panic | apply joinW_ret | apply joinW_exit | apply joinW_panic | apply W_seq | apply W_block | apply W_skip | apply W_ret | apply W_exit | apply W_label
          | with_reducible refine blockW_other (by decide) ?_
          | with_reducible refine W_region (by first | decide | (with_unfolding_all rfl)) ?_
          | (rw [vcn]; (try simp [-map_take,-map_drop, push_cast, G0, G1, g1]); try simp (disch := omega) only [i64_in, u64_in, shr64i])
          | with_reducible refine W_drawn mixed (by decide) (by kernel_rfl) ?_
          | (rw [vcnD]; (try simp [-map_take,-map_drop, push_cast, G0, G1, g1]); try simp (disch := omega) only [i64_in, u64_in, shr64i])
          | (with_reducible refine W_condW ?_; (try simp [-map_take,-map_drop, AS.val, upd, resB, mkS_env, mkS_box, lk, entry_env, condW_true, condW_false, G0, G1, g1]))
          | (with_reducible refine optK_dV (by first | omega | (simp [-map_take,-map_drop]; omega)) ?_)
          | with_reducible refine optK_dVh (by omega) ?_
          | refine And.intro (by first | omega | kernel_rfl) ?_
          | ((with_reducible refine condW_b (fun hc => ?_) (fun hc => ?_) <;> (try simp [-map_take,-map_drop, Int.ofNat_inj] at hc) <;> (try contradiction)))
          | fail)
        refine joinW_n () id trivial ⟨?_, ?_, ?_, ?_, ?_, ?_⟩
        all_goals first | (with_reducible refine W_id ?_) | (simp [-map_take,-map_drop, push_cast, dV_take, dV_drop, sgC, ptC, ratC, zC, hc]; done) | (simp [-map_take,-map_drop, push_cast, dV_take, dV_drop, sgC, ptC, ratC, zC, hc]; omega) | (intro i hi; simp [-map_take,-map_drop]; omega) | (intro i hi; dsimp only; (repeat' split) <;> omega) | (simp [-map_take,-map_drop, push_cast, dV_take, dV_drop, sgC, ptC, ratC, zC, hc]; fail_if_success done)
    · have G0 : (0 < n) = False := eq_false g0
      have hc : clo = false := by rw [hclo, decide_eq_false g0]; rfl
      repeat' (first
        | with_reducible first | apply thenW_n | apply thenW_ret | apply thenW_exit | apply thenW_panic | apply blockW_n | apply blockW_same | apply blockW_ret | apply blockW_panic | apply loopW_ret | apply loopW_exit | apply loopW_panic | apply joinW_ret | apply joinW_exit | apply joinW_panic | apply W_seq | apply W_block | apply W_skip | apply W_ret | apply W_exit | apply W_label
        | with_reducible refine blockW_other (by decide) ?_
        | with_reducible refine W_region (by first | decide | (with_unfolding_all rfl)) ?_
        | (rw [vcn]; (try simp [-map_take,-map_drop, push_cast, G0]); try simp (disch := omega) only [i64_in, u64_in, shr64i])
        | with_reducible refine W_drawn mixed (by decide) (by kernel_rfl) ?_
        | (rw [vcnD]; (try simp [-map_take,-map_drop, push_cast, G0]); try simp (disch := omega) only [i64_in, u64_in, shr64i])
        | (with_reducible refine W_condW ?_; (try simp [-map_take,-map_drop, AS.val, upd, resB, mkS_env, mkS_box, lk, entry_env, condW_true, condW_false, G0]))
        | (with_reducible refine optK_dV (by first | omega | (simp [-map_take,-map_drop]; omega)) ?_)
        | with_reducible refine optK_dVh (by omega) ?_
        | refine And.intro (by first | omega | kernel_rfl) ?_
        | ((with_reducible refine condW_b (fun hc => ?_) (fun hc => ?_) <;> (try simp [-map_take,-map_drop, Int.ofNat_inj] at hc) <;> (try contradiction)))
        | fail)
      refine joinW_n () id trivial ⟨?_, ?_, ?_, ?_, ?_, ?_⟩
      all_goals first | (with_reducible refine W_id ?_) | (simp [-map_take,-map_drop, push_cast, dV_take, dV_drop, sgC, ptC, ratC, zC, hc]; done) | (simp [-map_take,-map_drop, push_cast, dV_take, dV_drop, sgC, ptC, ratC, zC, hc]; omega) | (intro i hi; simp [-map_take,-map_drop]; omega) | (intro i hi; dsimp only; (repeat' split) <;> omega) | (simp [-map_take,-map_drop, push_cast, dV_take, dV_drop, sgC, ptC, ratC, zC, hc]; fail_if_success done)
  clear c0 t1 t2 t3 r1 r2 q1 q2 s1 s2 hclo
  have G1 : (v1 ≤ 0) = True := eq_true p1
  have G2 : (v2 ≤ 0) = True := eq_true p2
  have G3 : (v3 ≤ 0) = True := eq_true p3
  have G4 : (v4 ≤ 0) = True := eq_true p4
  have G5 : (0 ≤ v5) = True := eq_true p5
  repeat' (first
    | with_reducible first | apply thenW_n | apply thenW_ret | apply thenW_exit | apply thenW_panic | apply blockW_n | apply blockW_same | apply blockW_ret | apply blockW_panic | apply loopW_ret | apply loopW_exit | apply loopW_panic | apply joinW_ret | apply joinW_exit | apply joinW_panic | apply W_seq | apply W_block | apply W_skip | apply W_ret | apply W_exit | apply W_label
    | with_reducible refine blockW_other (by decide) ?_
    | with_reducible refine W_region (by first | decide | (with_unfolding_all rfl)) ?_
    | (rw [vcn]; (try simp [-map_take,-map_drop, push_cast, sgAV, sgC, ptAV, ptC, ratAV, ratC, zAV, zC]); try simp (disch := omega) only [i64_in, u64_in, shr64i])
    | with_reducible refine W_drawn mixed (by decide) (by kernel_rfl) ?_
    | (rw [vcnD]; (try simp [-map_take,-map_drop, push_cast, sgAV, sgC, ptAV, ptC, ratAV, ratC, zAV, zC]); try simp (disch := omega) only [i64_in, u64_in, shr64i])
    | (with_reducible refine W_condW ?_; (try simp [-map_take,-map_drop, AS.val, upd, resB, mkS_env, mkS_box, lk, entry_env, condW_true, condW_false, sgAV, sgC, ptAV, ptC, ratAV, ratC, zAV, zC]))
    | (with_reducible refine optK_dV (by first | omega | (simp [-map_take,-map_drop]; omega)) ?_)
    | with_reducible refine optK_dVh (by omega) ?_
    | refine And.intro (by first | omega | kernel_rfl) ?_
    | ((with_reducible refine condW_b (fun hc => ?_) (fun hc => ?_) <;> (try simp [-map_take,-map_drop, Int.ofNat_inj] at hc) <;> (try contradiction)))
    | fail)
  first | refine CallG_of (t4) ?_ ?_ rfl ?_ | refine callD_of (t4) ?_ ?_ rfl ?_
  · first | rfl | (simp [-map_take,-map_drop, natAV, numC, ← limbs.eq_1, push_cast, sgAV, sgC, ptAV, ptC, ratAV, ratC, zAV, zC]; done)
  · first | rfl | simp [-map_take,-map_drop, natAV, zAV, zC, ratAV, ratC, ptAV, ptC, sgAV, sgC, d3sAV, d3C, dC, dotAV, AV.refs, refsL, push_cast]
  try dsimp only
  repeat' (first
    | with_reducible first | apply thenW_n | apply thenW_ret | apply thenW_exit | apply thenW_panic | apply blockW_n | apply blockW_same | apply blockW_ret | apply blockW_panic | apply loopW_ret | apply loopW_exit | apply loopW_panic | apply joinW_ret | apply joinW_exit | apply joinW_panic | apply W_seq | apply W_block | apply W_skip | apply W_ret | apply W_exit | apply W_label
    | with_reducible refine blockW_other (by decide) ?_
    | with_reducible refine W_region (by first | decide | (with_unfolding_all rfl)) ?_
    | (rw [vcn]; (try simp [-map_take,-map_drop, push_cast, sgAV, sgC, ptAV, ptC, ratAV, ratC, zAV, zC]); try simp (disch := omega) only [i64_in, u64_in, shr64i])
    | with_reducible refine W_drawn mixed (by decide) (by kernel_rfl) ?_
    | (rw [vcnD]; (try simp [-map_take,-map_drop, push_cast, sgAV, sgC, ptAV, ptC, ratAV, ratC, zAV, zC]); try simp (disch := omega) only [i64_in, u64_in, shr64i])
    | (with_reducible refine W_condW ?_; (try simp [-map_take,-map_drop, AS.val, upd, resB, mkS_env, mkS_box, lk, entry_env, condW_true, condW_false, sgAV, sgC, ptAV, ptC, ratAV, ratC, zAV, zC]))
    | (with_reducible refine optK_dV (by first | omega | (simp [-map_take,-map_drop]; omega)) ?_)
    | with_reducible refine optK_dVh (by omega) ?_
    | refine And.intro (by first | omega | kernel_rfl) ?_
    | ((with_reducible refine condW_b (fun hc => ?_) (fun hc => ?_) <;> (try simp [-map_take,-map_drop, Int.ofNat_inj] at hc) <;> (try contradiction)))
    | fail)
  first | refine CallG_of (known12_ok) ?_ ?_ rfl ?_ | refine callD_of (known12_ok) ?_ ?_ rfl ?_
  · first | rfl | (simp [-map_take,-map_drop, natAV, numC, ← limbs.eq_1, push_cast]; done)
  · first | rfl | simp [-map_take,-map_drop, natAV, zAV, zC, ratAV, ratC, ptAV, ptC, sgAV, sgC, d3sAV, d3C, dC, dotAV, AV.refs, refsL, push_cast]
  try dsimp only
  repeat' (first
    | with_reducible first | apply thenW_n | apply thenW_ret | apply thenW_exit | apply thenW_panic | apply blockW_n | apply blockW_same | apply blockW_ret | apply blockW_panic | apply loopW_ret | apply loopW_exit | apply loopW_panic | apply joinW_ret | apply joinW_exit | apply joinW_panic | apply W_seq | apply W_block | apply W_skip | apply W_ret | apply W_exit | apply W_label
    | with_reducible refine blockW_other (by decide) ?_
    | with_reducible refine W_region (by first | decide | (with_unfolding_all rfl)) ?_
    | (rw [vcn]; (try simp [-map_take,-map_drop, push_cast, G1, G2, G3, G4, G5, sgAV, sgC, ptAV, ptC, ratAV, ratC, zAV, zC]); try simp (disch := omega) only [i64_in, u64_in, shr64i])
    | with_reducible refine W_drawn mixed (by decide) (by kernel_rfl) ?_
    | (rw [vcnD]; (try simp [-map_take,-map_drop, push_cast, G1, G2, G3, G4, G5, sgAV, sgC, ptAV, ptC, ratAV, ratC, zAV, zC]); try simp (disch := omega) only [i64_in, u64_in, shr64i])
    | (with_reducible refine W_condW ?_; (try simp [-map_take,-map_drop, AS.val, upd, resB, mkS_env, mkS_box, lk, entry_env, condW_true, condW_false, G1, G2, G3, G4, G5, sgAV, sgC, ptAV, ptC, ratAV, ratC, zAV, zC]))
    | (with_reducible refine optK_dV (by first | omega | (simp [-map_take,-map_drop]; omega)) ?_)
    | with_reducible refine optK_dVh (by omega) ?_
    | refine And.intro (by first | omega | kernel_rfl) ?_
    | ((with_reducible refine condW_b (fun hc => ?_) (fun hc => ?_) <;> (try simp [-map_take,-map_drop, Int.ofNat_inj] at hc) <;> (try contradiction)))
    | fail)
  first | refine CallG_of (l1) ?_ ?_ rfl ?_ | refine callD_of (l1) ?_ ?_ rfl ?_
  · first | rfl | (simp [-map_take,-map_drop, natAV, numC, ← limbs.eq_1, push_cast, sgAV, sgC, ptAV, ptC, ratAV, ratC, zAV, zC]; done)
  · first | rfl | simp [-map_take,-map_drop, natAV, zAV, zC, ratAV, ratC, ptAV, ptC, sgAV, sgC, d3sAV, d3C, dC, dotAV, AV.refs, refsL, push_cast]
  try dsimp only
  repeat' (first
    | with_reducible first | apply thenW_n | apply thenW_ret | apply thenW_exit | apply thenW_panic | apply blockW_n | apply blockW_same | apply blockW_ret | apply blockW_panic | apply loopW_ret | apply loopW_exit | apply loopW_panic | apply joinW_ret | apply joinW_exit | apply joinW_panic | apply W_seq | apply W_block | apply W_skip | apply W_ret | apply W_exit | apply W_label
    | with_reducible refine blockW_other (by decide) ?_
    | with_reducible refine W_region (by first | decide | (with_unfolding_all rfl)) ?_
    | (rw [vcn]; (try simp [-map_take,-map_drop, push_cast, G1, G2, G3, G4, G5, sgAV, sgC, ptAV, ptC, ratAV, ratC, zAV, zC]); try simp (disch := omega) only [i64_in, u64_in, shr64i])
    | with_reducible refine W_drawn mixed (by decide) (by kernel_rfl) ?_
    | (rw [vcnD]; (try simp [-map_take,-map_drop, push_cast, G1, G2, G3, G4, G5, sgAV, sgC, ptAV, ptC, ratAV, ratC, zAV, zC]); try simp (disch := omega) only [i64_in, u64_in, shr64i])
    | (with_reducible refine W_condW ?_; (try simp [-map_take,-map_drop, AS.val, upd, resB, mkS_env, mkS_box, lk, entry_env, condW_true, condW_false, G1, G2, G3, G4, G5, sgAV, sgC, ptAV, ptC, ratAV, ratC, zAV, zC]))
    | (with_reducible refine optK_dV (by first | omega | (simp [-map_take,-map_drop]; omega)) ?_)
    | with_reducible refine optK_dVh (by omega) ?_
    | refine And.intro (by first | omega | kernel_rfl) ?_
    | ((with_reducible refine condW_b (fun hc => ?_) (fun hc => ?_) <;> (try simp [-map_take,-map_drop, Int.ofNat_inj] at hc) <;> (try contradiction)))
    | fail)
  first | refine CallG_of (u1) ?_ ?_ rfl ?_ | refine callD_of (u1) ?_ ?_ rfl ?_
  · first | rfl | (simp [-map_take,-map_drop, natAV, numC, ← limbs.eq_1, push_cast, sgAV, sgC, ptAV, ptC, ratAV, ratC, zAV, zC]; done)
  · first | rfl | simp [-map_take,-map_drop, natAV, zAV, zC, ratAV, ratC, ptAV, ptC, sgAV, sgC, d3sAV, d3C, dC, dotAV, AV.refs, refsL, push_cast]
  try dsimp only
  repeat' (first
    | with_reducible first | apply thenW_n | apply thenW_ret | apply thenW_exit | apply thenW_panic | apply blockW_n | apply blockW_same | apply blockW_ret | apply blockW_panic | apply loopW_ret | apply loopW_exit | apply loopW_panic | apply joinW_ret | apply joinW_exit | apply joinW_panic | apply W_seq | apply W_block | apply W_skip | apply W_ret | apply W_exit | apply W_label
    | with_reducible refine blockW_other (by decide) ?_
    | with_reducible refine W_region (by first | decide | (with_unfolding_all rfl)) ?_
    | (rw [vcn]; (try simp [-map_take,-map_drop, push_cast, G1, G2, G3, G4, G5, sgAV, sgC, ptAV, ptC, ratAV, ratC, zAV, zC]); try simp (disch := omega) only [i64_in, u64_in, shr64i])
    | with_reducible refine W_drawn mixed (by decide) (by kernel_rfl) ?_
    | (rw [vcnD]; (try simp [-map_take,-map_drop, push_cast, G1, G2, G3, G4, G5, sgAV, sgC, ptAV, ptC, ratAV, ratC, zAV, zC]); try simp (disch := omega) only [i64_in, u64_in, shr64i])
    | (with_reducible refine W_condW ?_; (try simp [-map_take,-map_drop, AS.val, upd, resB, mkS_env, mkS_box, lk, entry_env, condW_true, condW_false, G1, G2, G3, G4, G5, sgAV, sgC, ptAV, ptC, ratAV, ratC, zAV, zC]))
    | (with_reducible refine optK_dV (by first | omega | (simp [-map_take,-map_drop]; omega)) ?_)
    | with_reducible refine optK_dVh (by omega) ?_
    | refine And.intro (by first | omega | kernel_rfl) ?_
    | ((with_reducible refine condW_b (fun hc => ?_) (fun hc => ?_) <;> (try simp [-map_take,-map_drop, Int.ofNat_inj] at hc) <;> (try contradiction)))
    | fail)
  first | refine CallG_of (m1) ?_ ?_ rfl ?_ | refine callD_of (m1) ?_ ?_ rfl ?_
  · first | rfl | (simp [-map_take,-map_drop, natAV, numC, ← limbs.eq_1, push_cast, sgAV, sgC, ptAV, ptC, ratAV, ratC, zAV, zC]; done)
  · first | rfl | simp [-map_take,-map_drop, natAV, zAV, zC, ratAV, ratC, ptAV, ptC, sgAV, sgC, d3sAV, d3C, dC, dotAV, AV.refs, refsL, push_cast]
  try dsimp only
  repeat' (first
    | with_reducible first | apply thenW_n | apply thenW_ret | apply thenW_exit | apply thenW_panic | apply blockW_n | apply blockW_same | apply blockW_ret | apply blockW_panic | apply loopW_ret | apply loopW_exit | apply loopW_panic | apply joinW_ret | apply joinW_exit | apply joinW_panic | apply W_seq | apply W_block | apply W_skip | apply W_ret | apply W_exit | apply W_label
    | with_reducible refine blockW_other (by decide) ?_
    | with_reducible refine W_region (by first | decide | (with_unfolding_all rfl)) ?_
    | (rw [vcn]; (try simp [-map_take,-map_drop, push_cast, G1, G2, G3, G4, G5, sgAV, sgC, ptAV, ptC, ratAV, ratC, zAV, zC]); try simp (disch := omega) only [i64_in, u64_in, shr64i])
    | with_reducible refine W_drawn mixed (by decide) (by kernel_rfl) ?_
    | (rw [vcnD]; (try simp [-map_take,-map_drop, push_cast, G1, G2, G3, G4, G5, sgAV, sgC, ptAV, ptC, ratAV, ratC, zAV, zC]); try simp (disch := omega) only [i64_in, u64_in, shr64i])
    | (with_reducible refine W_condW ?_; (try simp [-map_take,-map_drop, AS.val, upd, resB, mkS_env, mkS_box, lk, entry_env, condW_true, condW_false, G1, G2, G3, G4, G5, sgAV, sgC, ptAV, ptC, ratAV, ratC, zAV, zC]))
    | (with_reducible refine optK_dV (by first | omega | (simp [-map_take,-map_drop]; omega)) ?_)
    | with_reducible refine optK_dVh (by omega) ?_
    | refine And.intro (by first | omega | kernel_rfl) ?_
    | ((with_reducible refine condW_b (fun hc => ?_) (fun hc => ?_) <;> (try simp [-map_take,-map_drop, Int.ofNat_inj] at hc) <;> (try contradiction)))
    | fail)
  first | refine CallG_of (u2) ?_ ?_ rfl ?_ | refine callD_of (u2) ?_ ?_ rfl ?_
  · first | rfl | (simp [-map_take,-map_drop, natAV, numC, ← limbs.eq_1, push_cast, sgAV, sgC, ptAV, ptC, ratAV, ratC, zAV, zC]; done)
  · first | rfl | simp [-map_take,-map_drop, natAV, zAV, zC, ratAV, ratC, ptAV, ptC, sgAV, sgC, d3sAV, d3C, dC, dotAV, AV.refs, refsL, push_cast]
  try dsimp only
  repeat' (first
    | with_reducible first | apply thenW_n | apply thenW_ret | apply thenW_exit | apply thenW_panic | apply blockW_n | apply blockW_same | apply blockW_ret | apply blockW_panic | apply loopW_ret | apply loopW_exit | apply loopW_panic | apply joinW_ret | apply joinW_exit | apply joinW_panic | apply W_seq | apply W_block | apply W_skip | apply W_ret | apply W_exit | apply W_label
    | with_reducible refine blockW_other (by decide) ?_
    | with_reducible refine W_region (by first | decide | (with_unfolding_all rfl)) ?_
    | (rw [vcn]; (try simp [-map_take,-map_drop, push_cast, G1, G2, G3, G4, G5, sgAV, sgC, ptAV, ptC, ratAV, ratC, zAV, zC]); try simp (disch := omega) only [i64_in, u64_in, shr64i])
    | with_reducible refine W_drawn mixed (by decide) (by kernel_rfl) ?_
    | (rw [vcnD]; (try simp [-map_take,-map_drop, push_cast, G1, G2, G3, G4, G5, sgAV, sgC, ptAV, ptC, ratAV, ratC, zAV, zC]); try simp (disch := omega) only [i64_in, u64_in, shr64i])
    | (with_reducible refine W_condW ?_; (try simp [-map_take,-map_drop, AS.val, upd, resB, mkS_env, mkS_box, lk, entry_env, condW_true, condW_false, G1, G2, G3, G4, G5, sgAV, sgC, ptAV, ptC, ratAV, ratC, zAV, zC]))
    | (with_reducible refine optK_dV (by first | omega | (simp [-map_take,-map_drop]; omega)) ?_)
    | with_reducible refine optK_dVh (by omega) ?_
    | refine And.intro (by first | omega | kernel_rfl) ?_
    | ((with_reducible refine condW_b (fun hc => ?_) (fun hc => ?_) <;> (try simp [-map_take,-map_drop, Int.ofNat_inj] at hc) <;> (try contradiction)))
    | fail)
  first | refine CallG_of (u3) ?_ ?_ rfl ?_ | refine callD_of (u3) ?_ ?_ rfl ?_
  · first | rfl | (simp [-map_take,-map_drop, natAV, numC, ← limbs.eq_1, push_cast, sgAV, sgC, ptAV, ptC, ratAV, ratC, zAV, zC]; done)
  · first | rfl | simp [-map_take,-map_drop, natAV, zAV, zC, ratAV, ratC, ptAV, ptC, sgAV, sgC, d3sAV, d3C, dC, dotAV, AV.refs, refsL, push_cast]
  try dsimp only
  repeat' (first
    | with_reducible first | apply thenW_n | apply thenW_ret | apply thenW_exit | apply thenW_panic | apply blockW_n | apply blockW_same | apply blockW_ret | apply blockW_panic | apply loopW_ret | apply loopW_exit | apply loopW_panic | apply joinW_ret | apply joinW_exit | apply joinW_panic | apply W_seq | apply W_block | apply W_skip | apply W_ret | apply W_exit | apply W_label
    | with_reducible refine blockW_other (by decide) ?_
    | with_reducible refine W_region (by first | decide | (with_unfolding_all rfl)) ?_
    | (rw [vcn]; (try simp [-map_take,-map_drop, push_cast, G1, G2, G3, G4, G5, sgAV, sgC, ptAV, ptC, ratAV, ratC, zAV, zC]); try simp (disch := omega) only [i64_in, u64_in, shr64i])
    | with_reducible refine W_drawn mixed (by decide) (by kernel_rfl) ?_
    | (rw [vcnD]; (try simp [-map_take,-map_drop, push_cast, G1, G2, G3, G4, G5, sgAV, sgC, ptAV, ptC, ratAV, ratC, zAV, zC]); try simp (disch := omega) only [i64_in, u64_in, shr64i])
    | (with_reducible refine W_condW ?_; (try simp [-map_take,-map_drop, AS.val, upd, resB, mkS_env, mkS_box, lk, entry_env, condW_true, condW_false, G1, G2, G3, G4, G5, sgAV, sgC, ptAV, ptC, ratAV, ratC, zAV, zC]))
    | (with_reducible refine optK_dV (by first | omega | (simp [-map_take,-map_drop]; omega)) ?_)
    | with_reducible refine optK_dVh (by omega) ?_
    | refine And.intro (by first | omega | kernel_rfl) ?_
    | ((with_reducible refine condW_b (fun hc => ?_) (fun hc => ?_) <;> (try simp [-map_take,-map_drop, Int.ofNat_inj] at hc) <;> (try contradiction)))
    | fail)
  first | refine CallG_of (l1) ?_ ?_ rfl ?_ | refine callD_of (l1) ?_ ?_ rfl ?_
  · first | rfl | (simp [-map_take,-map_drop, natAV, numC, ← limbs.eq_1, push_cast, sgAV, sgC, ptAV, ptC, ratAV, ratC, zAV, zC]; done)
  · first | rfl | simp [-map_take,-map_drop, natAV, zAV, zC, ratAV, ratC, ptAV, ptC, sgAV, sgC, d3sAV, d3C, dC, dotAV, AV.refs, refsL, push_cast]
  try dsimp only
  repeat' (first
    | with_reducible first | apply thenW_n | apply thenW_ret | apply thenW_exit | apply thenW_panic | apply blockW_n | apply blockW_same | apply blockW_ret | apply blockW_panic | apply loopW_ret | apply loopW_exit | apply loopW_panic | apply joinW_ret | apply joinW_exit | apply joinW_panic | apply W_seq | apply W_block | apply W_skip | apply W_ret | apply W_exit | apply W_label
    | with_reducible refine blockW_other (by decide) ?_
    | with_reducible refine W_region (by first | decide | (with_unfolding_all rfl)) ?_
    | (rw [vcn]; (try simp [-map_take,-map_drop, push_cast, G1, G2, G3, G4, G5, sgAV, sgC, ptAV, ptC, ratAV, ratC, zAV, zC]); try simp (disch := omega) only [i64_in, u64_in, shr64i])
    | with_reducible refine W_drawn mixed (by decide) (by kernel_rfl) ?_
    | (rw [vcnD]; (try simp [-map_take,-map_drop, push_cast, G1, G2, G3, G4, G5, sgAV, sgC, ptAV, ptC, ratAV, ratC, zAV, zC]); try simp (disch := omega) only [i64_in, u64_in, shr64i])
    | (with_reducible refine W_condW ?_; (try simp [-map_take,-map_drop, AS.val, upd, resB, mkS_env, mkS_box, lk, entry_env, condW_true, condW_false, G1, G2, G3, G4, G5, sgAV, sgC, ptAV, ptC, ratAV, ratC, zAV, zC]))
    | (with_reducible refine optK_dV (by first | omega | (simp [-map_take,-map_drop]; omega)) ?_)
    | with_reducible refine optK_dVh (by omega) ?_
    | refine And.intro (by first | omega | kernel_rfl) ?_
    | ((with_reducible refine condW_b (fun hc => ?_) (fun hc => ?_) <;> (try simp [-map_take,-map_drop, Int.ofNat_inj] at hc) <;> (try contradiction)))
    | fail)
  first | refine CallG_of (u4) ?_ ?_ rfl ?_ | refine callD_of (u4) ?_ ?_ rfl ?_
  · first | rfl | (simp [-map_take,-map_drop, natAV, numC, ← limbs.eq_1, push_cast, sgAV, sgC, ptAV, ptC, ratAV, ratC, zAV, zC]; done)
  · first | rfl | simp [-map_take,-map_drop, natAV, zAV, zC, ratAV, ratC, ptAV, ptC, sgAV, sgC, d3sAV, d3C, dC, dotAV, AV.refs, refsL, push_cast]
  try dsimp only
  cases clo with
  | false =>
    repeat' (first
      | with_reducible first | apply thenW_n | apply thenW_ret | apply thenW_exit | apply thenW_panic | apply blockW_n | apply blockW_same | apply blockW_ret | apply blockW_panic | apply loopW_ret | apply loopW_exit | apply loopW_panic | apply joinW_ret | apply joinW_exit | apply joinW_panic | apply W_seq | apply W_block | apply W_skip | apply W_ret | apply W_exit | apply W_label
      | with_reducible refine blockW_other (by decide) ?_
      | with_reducible refine W_region (by first | decide | (with_unfolding_all rfl)) ?_
      | (rw [vcn]; (try simp [-map_take,-map_drop, push_cast, G1, G2, G3, G4, G5, sgAV, sgC, ptAV, ptC, ratAV, ratC, zAV, zC]); try simp (disch := omega) only [i64_in, u64_in, shr64i])
      | with_reducible refine W_drawn mixed (by decide) (by kernel_rfl) ?_
      | (rw [vcnD]; (try simp [-map_take,-map_drop, push_cast, G1, G2, G3, G4, G5, sgAV, sgC, ptAV, ptC, ratAV, ratC, zAV, zC]); try simp (disch := omega) only [i64_in, u64_in, shr64i])
      | (with_reducible refine W_condW ?_; (try simp [-map_take,-map_drop, AS.val, upd, resB, mkS_env, mkS_box, lk, entry_env, condW_true, condW_false, G1, G2, G3, G4, G5, sgAV, sgC, ptAV, ptC, ratAV, ratC, zAV, zC]))
      | (with_reducible refine optK_dV (by first | omega | (simp [-map_take,-map_drop]; omega)) ?_)
      | with_reducible refine optK_dVh (by omega) ?_
      | refine And.intro (by first | omega | kernel_rfl) ?_
      | ((with_reducible refine condW_b (fun hc => ?_) (fun hc => ?_) <;> (try simp [-map_take,-map_drop, Int.ofNat_inj] at hc) <;> (try contradiction)))
      | fail)
    first | refine CallG_of (sg) ?_ ?_ rfl ?_ | refine callD_of (sg) ?_ ?_ rfl ?_
    · first | rfl | (simp [-map_take,-map_drop, natAV, numC, ← limbs.eq_1, push_cast, sgAV, sgC, ptAV, ptC, ratAV, ratC, zAV, zC]; done)
    · first | rfl | simp [-map_take,-map_drop, natAV, zAV, zC, ratAV, ratC, ptAV, ptC, sgAV, sgC, d3sAV, d3C, dC, dotAV, AV.refs, refsL, push_cast]
    try dsimp only
    repeat' (first
      | with_reducible first | apply thenW_n | apply thenW_ret | apply thenW_exit | apply thenW_panic | apply blockW_n | apply blockW_same | apply blockW_ret | apply blockW_panic | apply loopW_ret | apply loopW_exit | apply loopW_panic | apply joinW_ret | apply joinW_exit | apply joinW_panic | apply W_seq | apply W_block | apply W_skip | apply W_ret | apply W_exit | apply W_label
      | with_reducible refine blockW_other (by decide) ?_
      | with_reducible refine W_region (by first | decide | (with_unfolding_all rfl)) ?_
      | (rw [vcn]; (try simp [-map_take,-map_drop, push_cast, G1, G2, G3, G4, G5]); try simp (disch := omega) only [i64_in, u64_in, shr64i])
      | with_reducible refine W_drawn mixed (by decide) (by kernel_rfl) ?_
      | (rw [vcnD]; (try simp [-map_take,-map_drop, push_cast, G1, G2, G3, G4, G5]); try simp (disch := omega) only [i64_in, u64_in, shr64i])
      | (with_reducible refine W_condW ?_; (try simp [-map_take,-map_drop, AS.val, upd, resB, mkS_env, mkS_box, lk, entry_env, condW_true, condW_false, G1, G2, G3, G4, G5]))
      | (with_reducible refine optK_dV (by first | omega | (simp [-map_take,-map_drop]; omega)) ?_)
      | with_reducible refine optK_dVh (by omega) ?_
      | refine And.intro (by first | omega | kernel_rfl) ?_
      | ((with_reducible refine condW_b (fun hc => ?_) (fun hc => ?_) <;> (try simp [-map_take,-map_drop, Int.ofNat_inj] at hc) <;> (try contradiction)))
      | fail)
    simp [-map_take,-map_drop, post, resAV, resAll, resOne, closeV, closeC, closeL, resD, resDL, push_cast, G1, G2, G3, G4, G5]
  | true =>
    have p7 := p7 rfl
    subst p7
    repeat' (first
      | with_reducible first | apply thenW_n | apply thenW_ret | apply thenW_exit | apply thenW_panic | apply blockW_n | apply blockW_same | apply blockW_ret | apply blockW_panic | apply loopW_ret | apply loopW_exit | apply loopW_panic | apply joinW_ret | apply joinW_exit | apply joinW_panic | apply W_seq | apply W_block | apply W_skip | apply W_ret | apply W_exit | apply W_label
      | with_reducible refine blockW_other (by decide) ?_
      | with_reducible refine W_region (by first | decide | (with_unfolding_all rfl)) ?_
      | (rw [vcn]; (try simp [-map_take,-map_drop, push_cast, G1, G2, G3, G4, G5, sgAV, sgC, ptAV, ptC, ratAV, ratC, zAV, zC]); try simp (disch := omega) only [i64_in, u64_in, shr64i])
      | with_reducible refine W_drawn mixed (by decide) (by kernel_rfl) ?_
      | (rw [vcnD]; (try simp [-map_take,-map_drop, push_cast, G1, G2, G3, G4, G5, sgAV, sgC, ptAV, ptC, ratAV, ratC, zAV, zC]); try simp (disch := omega) only [i64_in, u64_in, shr64i])
      | (with_reducible refine W_condW ?_; (try simp [-map_take,-map_drop, AS.val, upd, resB, mkS_env, mkS_box, lk, entry_env, condW_true, condW_false, G1, G2, G3, G4, G5, sgAV, sgC, ptAV, ptC, ratAV, ratC, zAV, zC]))
      | (with_reducible refine optK_dV (by first | omega | (simp [-map_take,-map_drop]; omega)) ?_)
      | with_reducible refine optK_dVh (by omega) ?_
      | refine And.intro (by first | omega | kernel_rfl) ?_
      | ((with_reducible refine condW_b (fun hc => ?_) (fun hc => ?_) <;> (try simp [-map_take,-map_drop, Int.ofNat_inj] at hc) <;> (try contradiction)))
      | fail)
    first | refine CallG_of (cl) ?_ ?_ rfl ?_ | refine callD_of (cl) ?_ ?_ rfl ?_
    · first | rfl | (simp [-map_take,-map_drop, natAV, numC, ← limbs.eq_1, push_cast, sgAV, sgC, ptAV, ptC, ratAV, ratC, zAV, zC]; done)
    · first | rfl | simp [-map_take,-map_drop, natAV, zAV, zC, ratAV, ratC, ptAV, ptC, sgAV, sgC, d3sAV, d3C, dC, dotAV, AV.refs, refsL, push_cast]
    try dsimp only
    repeat' (first
      | with_reducible first | apply thenW_n | apply thenW_ret | apply thenW_exit | apply thenW_panic | apply blockW_n | apply blockW_same | apply blockW_ret | apply blockW_panic | apply loopW_ret | apply loopW_exit | apply loopW_panic | apply joinW_ret | apply joinW_exit | apply joinW_panic | apply W_seq | apply W_block | apply W_skip | apply W_ret | apply W_exit | apply W_label
      | with_reducible refine blockW_other (by decide) ?_
      | with_reducible refine W_region (by first | decide | (with_unfolding_all rfl)) ?_
      | (rw [vcn]; (try simp [-map_take,-map_drop, push_cast, G1, G2, G3, G4, G5, sgAV, sgC, ptAV, ptC, ratAV, ratC, zAV, zC]); try simp (disch := omega) only [i64_in, u64_in, shr64i])
      | with_reducible refine W_drawn mixed (by decide) (by kernel_rfl) ?_
      | (rw [vcnD]; (try simp [-map_take,-map_drop, push_cast, G1, G2, G3, G4, G5, sgAV, sgC, ptAV, ptC, ratAV, ratC, zAV, zC]); try simp (disch := omega) only [i64_in, u64_in, shr64i])
      | (with_reducible refine W_condW ?_; (try simp [-map_take,-map_drop, AS.val, upd, resB, mkS_env, mkS_box, lk, entry_env, condW_true, condW_false, G1, G2, G3, G4, G5, sgAV, sgC, ptAV, ptC, ratAV, ratC, zAV, zC]))
      | (with_reducible refine optK_dV (by first | omega | (simp [-map_take,-map_drop]; omega)) ?_)
      | with_reducible refine optK_dVh (by omega) ?_
      | refine And.intro (by first | omega | kernel_rfl) ?_
      | ((with_reducible refine condW_b (fun hc => ?_) (fun hc => ?_) <;> (try simp [-map_take,-map_drop, Int.ofNat_inj] at hc) <;> (try contradiction)))
      | fail)
    first | refine CallG_of (sg) ?_ ?_ rfl ?_ | refine callD_of (sg) ?_ ?_ rfl ?_
    · first | rfl | (simp [-map_take,-map_drop, natAV, numC, ← limbs.eq_1, push_cast, sgAV, sgC, ptAV, ptC, ratAV, ratC, zAV, zC]; done)
    · first | rfl | simp [-map_take,-map_drop, natAV, zAV, zC, ratAV, ratC, ptAV, ptC, sgAV, sgC, d3sAV, d3C, dC, dotAV, AV.refs, refsL, push_cast]
    try dsimp only
    repeat' (first
      | with_reducible first | apply thenW_n | apply thenW_ret | apply thenW_exit | apply thenW_panic | apply blockW_n | apply blockW_same | apply blockW_ret | apply blockW_panic | apply loopW_ret | apply loopW_exit | apply loopW_panic | apply joinW_ret | apply joinW_exit | apply joinW_panic | apply W_seq | apply W_block | apply W_skip | apply W_ret | apply W_exit | apply W_label
      | with_reducible refine blockW_other (by decide) ?_
      | with_reducible refine W_region (by first | decide | (with_unfolding_all rfl)) ?_
      | (rw [vcn]; (try simp [-map_take,-map_drop, push_cast, G1, G2, G3, G4, G5]); try simp (disch := omega) only [i64_in, u64_in, shr64i])
      | with_reducible refine W_drawn mixed (by decide) (by kernel_rfl) ?_
      | (rw [vcnD]; (try simp [-map_take,-map_drop, push_cast, G1, G2, G3, G4, G5]); try simp (disch := omega) only [i64_in, u64_in, shr64i])
      | (with_reducible refine W_condW ?_; (try simp [-map_take,-map_drop, AS.val, upd, resB, mkS_env, mkS_box, lk, entry_env, condW_true, condW_false, G1, G2, G3, G4, G5]))
      | (with_reducible refine optK_dV (by first | omega | (simp [-map_take,-map_drop]; omega)) ?_)
      | with_reducible refine optK_dVh (by omega) ?_
      | refine And.intro (by first | omega | kernel_rfl) ?_
      | ((with_reducible refine condW_b (fun hc => ?_) (fun hc => ?_) <;> (try simp [-map_take,-map_drop, Int.ofNat_inj] at hc) <;> (try contradiction)))
      | fail)
    simp [-map_take,-map_drop, post, resAV, resAll, resOne, closeV, closeC, closeL, resD, resDL, push_cast, G1, G2, G3, G4, G5]
end Go.Fw

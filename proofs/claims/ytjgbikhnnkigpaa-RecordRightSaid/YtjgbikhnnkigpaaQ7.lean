/- The law RecordRight comes to true. -/
import Derived.Test.YtjgbikhnnkigpaaQ6
set_option linter.unusedSimpArgs false
set_option linter.unusedVariables false
-- VALS: recAV
namespace Go.Fw
open Go Go.Proofs Go.IntWalk
set_option linter.unusedSimpArgs false
set_option maxRecDepth 100000
set_option maxHeartbeats 2000000
attribute [local push_cast] optK_some optK_none optK_ite optK_map optK_bind gOn stepK isMem evPure evMem evBin evUn evConv evLen evBuiltin evMinMax evSlice evBuild evAppend evIndex evIndexAddr evField evFieldAddr intBin strBin appDest AS.val AS.mem AS.elems AS.put AS.put' AS.eff AV.cells? AV.isCell AV.refs all_isByte take_byteV drop_byteV strOf_map bndOk bnd partAV ptrAdd killBox catA inOrder fillA setAt ofVal resB upd byteV List.head?_take List.head?_drop List.getElem?_map mkS_env mkS_box mkS_used entry_env entry_box entry_used lk stepD lookIds Oper.looksAt Op.operands Call.operands St.ids refsL renL_append dV_take dV_drop ren renL renBox Box.refs iV i64V boolV dV_getElem dV_app dV_cons toNat_add2 toNat_add1

theorem lawRight_ok (k d : UInt8) (b : List UInt8) : Eval Try.prog 3 [recAV k d b] (.ret (.v (.bool true))) := by
  refine Eval.intro Try.func3 rfl Try.call3 _ _ (Nat.le_of_ble_eq_true rfl) (by simp [AV.refs, refsL, natAV, recAV, push_cast, -List.map_take, -List.map_drop]) fun hs0 => ?_
  by_cases hb : ¬ b.length ≤ 200000
  · have g : (200000 < b.length) = True := by simp; omega
    have g' : ((200000 : Int) < (b.length : Int)) = True := by simp; omega
    repeat' (first
      | with_reducible first | refine thenW_n ?_ | refine thenW_ret ?_ | refine thenW_exit ?_ | refine thenW_panic ?_ | refine blockW_n ?_ | refine blockW_same ?_ | refine blockW_ret ?_ | refine blockW_panic ?_ | refine loopW_ret ?_ | refine loopW_exit ?_ | refine loopW_panic ?_ | refine joinW_ret ?_ | refine joinW_exit ?_ | refine joinW_panic ?_ | refine W_seq ?_ | refine W_block ?_ | refine W_skip ?_ | refine W_ret ?_ | refine W_exit ?_ | refine W_label ?_
      | with_reducible refine blockW_other (by decide) ?_
      | with_reducible refine W_region (by first | decide | (with_unfolding_all rfl)) ?_
      | (rw [vcn]; (try simp [push_cast, -List.map_take, -List.map_drop, recAV, g, g']); try simp (disch := omega) only [i64_in, u64_in, shr64i])
      | with_reducible refine W_drawn mixed (by decide) (by kernel_rfl) ?_
      | (rw [vcnD]; (try simp [push_cast, -List.map_take, -List.map_drop, recAV, g, g']); try simp (disch := omega) only [i64_in, u64_in, shr64i])
      | (with_reducible refine W_condW ?_; (try simp [AS.val, upd, resB, mkS_env, mkS_box, lk, entry_env, condW_true, condW_false, recAV, g, g']))
      | with_reducible refine optK_dV (by first | omega | (simp; omega)) ?_
      | with_reducible refine optK_dVh (by omega) ?_
      | refine And.intro (by first | omega | kernel_rfl) ?_
      | (with_reducible refine condW_b (fun hc => ?_) (fun hc => ?_) <;> (try simp [Int.ofNat_inj] at hc) <;> try contradiction)
      | fail)
    first | refine CallG_of (eval15) (by first | rfl | (simp [natAV, numC, ← limbs.eq_1, push_cast, -List.map_take, -List.map_drop]; done)) (by simp [natAV, recAV, AV.refs, refsL, push_cast, -List.map_take, -List.map_drop]) rfl ?_ | refine callD_of (eval15) (by first | rfl | (simp [natAV, numC, ← limbs.eq_1, push_cast, -List.map_take, -List.map_drop]; done)) (by simp [natAV, recAV, AV.refs, refsL, push_cast, -List.map_take, -List.map_drop]) rfl ?_
    try dsimp only
    repeat' (first
      | with_reducible first | refine thenW_n ?_ | refine thenW_ret ?_ | refine thenW_exit ?_ | refine thenW_panic ?_ | refine blockW_n ?_ | refine blockW_same ?_ | refine blockW_ret ?_ | refine blockW_panic ?_ | refine loopW_ret ?_ | refine loopW_exit ?_ | refine loopW_panic ?_ | refine joinW_ret ?_ | refine joinW_exit ?_ | refine joinW_panic ?_ | refine W_seq ?_ | refine W_block ?_ | refine W_skip ?_ | refine W_ret ?_ | refine W_exit ?_ | refine W_label ?_
      | with_reducible refine blockW_other (by decide) ?_
      | with_reducible refine W_region (by first | decide | (with_unfolding_all rfl)) ?_
      | (rw [vcn]; (try simp [push_cast, -List.map_take, -List.map_drop, recAV, g, g']); try simp (disch := omega) only [i64_in, u64_in, shr64i])
      | with_reducible refine W_drawn mixed (by decide) (by kernel_rfl) ?_
      | (rw [vcnD]; (try simp [push_cast, -List.map_take, -List.map_drop, recAV, g, g']); try simp (disch := omega) only [i64_in, u64_in, shr64i])
      | (with_reducible refine W_condW ?_; (try simp [AS.val, upd, resB, mkS_env, mkS_box, lk, entry_env, condW_true, condW_false, recAV, g, g']))
      | with_reducible refine optK_dV (by first | omega | (simp; omega)) ?_
      | with_reducible refine optK_dVh (by omega) ?_
      | refine And.intro (by first | omega | kernel_rfl) ?_
      | (with_reducible refine condW_b (fun hc => ?_) (fun hc => ?_) <;> (try simp [Int.ofNat_inj] at hc) <;> try contradiction)
      | fail)
    simp [post, resAV, resAll, resOne, closeV, closeC, closeL, resD, resDL, push_cast, -List.map_take, -List.map_drop]
  have hb : b.length ≤ 200000 := by omega
  have g : (200000 < b.length) = False := by simp; omega
  have g' : ((200000 : Int) < (b.length : Int)) = False := by simp; omega
  repeat' (first
    | with_reducible first | refine thenW_n ?_ | refine thenW_ret ?_ | refine thenW_exit ?_ | refine thenW_panic ?_ | refine blockW_n ?_ | refine blockW_same ?_ | refine blockW_ret ?_ | refine blockW_panic ?_ | refine loopW_ret ?_ | refine loopW_exit ?_ | refine loopW_panic ?_ | refine joinW_ret ?_ | refine joinW_exit ?_ | refine joinW_panic ?_ | refine W_seq ?_ | refine W_block ?_ | refine W_skip ?_ | refine W_ret ?_ | refine W_exit ?_ | refine W_label ?_
    | with_reducible refine blockW_other (by decide) ?_
    | with_reducible refine W_region (by first | decide | (with_unfolding_all rfl)) ?_
    | (rw [vcn]; (try simp [push_cast, -List.map_take, -List.map_drop, recAV, g, g']); try simp (disch := omega) only [i64_in, u64_in, shr64i])
    | with_reducible refine W_drawn mixed (by decide) (by kernel_rfl) ?_
    | (rw [vcnD]; (try simp [push_cast, -List.map_take, -List.map_drop, recAV, g, g']); try simp (disch := omega) only [i64_in, u64_in, shr64i])
    | (with_reducible refine W_condW ?_; (try simp [AS.val, upd, resB, mkS_env, mkS_box, lk, entry_env, condW_true, condW_false, recAV, g, g']))
    | with_reducible refine optK_dV (by first | omega | (simp; omega)) ?_
    | with_reducible refine optK_dVh (by omega) ?_
    | refine And.intro (by first | omega | kernel_rfl) ?_
    | (with_reducible refine condW_b (fun hc => ?_) (fun hc => ?_) <;> (try simp [Int.ofNat_inj] at hc) <;> try contradiction)
    | fail)
  refine CallG_ofOwn 900 (eval16 false b b.length rfl (by omega)) (by first | rfl | (simp [natAV, numC, ← limbs.eq_1, push_cast, -List.map_take, -List.map_drop]; done)) (by simp [natAV, AV.refs, refsL, push_cast, -List.map_take, -List.map_drop]) (by simp [mkS_used, entry_used]) ?_
  try dsimp only
  repeat' (first
    | with_reducible first | refine thenW_n ?_ | refine thenW_ret ?_ | refine thenW_exit ?_ | refine thenW_panic ?_ | refine blockW_n ?_ | refine blockW_same ?_ | refine blockW_ret ?_ | refine blockW_panic ?_ | refine loopW_ret ?_ | refine loopW_exit ?_ | refine loopW_panic ?_ | refine joinW_ret ?_ | refine joinW_exit ?_ | refine joinW_panic ?_ | refine W_seq ?_ | refine W_block ?_ | refine W_skip ?_ | refine W_ret ?_ | refine W_exit ?_ | refine W_label ?_
    | with_reducible refine blockW_other (by decide) ?_
    | with_reducible refine W_region (by first | decide | (with_unfolding_all rfl)) ?_
    | (rw [vcn]; (try simp [push_cast, -List.map_take, -List.map_drop, recAV, g, g']); try simp (disch := omega) only [i64_in, u64_in, shr64i])
    | with_reducible refine W_drawn mixed (by decide) (by kernel_rfl) ?_
    | (rw [vcnD]; (try simp [push_cast, -List.map_take, -List.map_drop, recAV, g, g']); try simp (disch := omega) only [i64_in, u64_in, shr64i])
    | (with_reducible refine W_condW ?_; (try simp [AS.val, upd, resB, mkS_env, mkS_box, lk, entry_env, condW_true, condW_false, recAV, g, g']))
    | with_reducible refine optK_dV (by first | omega | (simp; omega)) ?_
    | with_reducible refine optK_dVh (by omega) ?_
    | refine And.intro (by first | omega | kernel_rfl) ?_
    | (with_reducible refine condW_b (fun hc => ?_) (fun hc => ?_) <;> (try simp [Int.ofNat_inj] at hc) <;> try contradiction)
    | fail)
  first | refine CallG_of (rightE k d b (by omega)) (by first | rfl | (simp [natAV, numC, ← limbs.eq_1, push_cast, -List.map_take, -List.map_drop, recAV]; done)) (by simp [natAV, recAV, AV.refs, refsL, push_cast, -List.map_take, -List.map_drop]) rfl ?_ | refine callD_of (rightE k d b (by omega)) (by first | rfl | (simp [natAV, numC, ← limbs.eq_1, push_cast, -List.map_take, -List.map_drop, recAV]; done)) (by simp [natAV, recAV, AV.refs, refsL, push_cast, -List.map_take, -List.map_drop]) rfl ?_
  try dsimp only
  repeat' (first
    | with_reducible first | refine thenW_n ?_ | refine thenW_ret ?_ | refine thenW_exit ?_ | refine thenW_panic ?_ | refine blockW_n ?_ | refine blockW_same ?_ | refine blockW_ret ?_ | refine blockW_panic ?_ | refine loopW_ret ?_ | refine loopW_exit ?_ | refine loopW_panic ?_ | refine joinW_ret ?_ | refine joinW_exit ?_ | refine joinW_panic ?_ | refine W_seq ?_ | refine W_block ?_ | refine W_skip ?_ | refine W_ret ?_ | refine W_exit ?_ | refine W_label ?_
    | with_reducible refine blockW_other (by decide) ?_
    | with_reducible refine W_region (by first | decide | (with_unfolding_all rfl)) ?_
    | (rw [vcn]; (try simp [push_cast, -List.map_take, -List.map_drop, recAV, g, g']); try simp (disch := omega) only [i64_in, u64_in, shr64i])
    | with_reducible refine W_drawn mixed (by decide) (by kernel_rfl) ?_
    | (rw [vcnD]; (try simp [push_cast, -List.map_take, -List.map_drop, recAV, g, g']); try simp (disch := omega) only [i64_in, u64_in, shr64i])
    | (with_reducible refine W_condW ?_; (try simp [AS.val, upd, resB, mkS_env, mkS_box, lk, entry_env, condW_true, condW_false, recAV, g, g']))
    | with_reducible refine optK_dV (by first | omega | (simp; omega)) ?_
    | with_reducible refine optK_dVh (by omega) ?_
    | refine And.intro (by first | omega | kernel_rfl) ?_
    | (with_reducible refine condW_b (fun hc => ?_) (fun hc => ?_) <;> (try simp [Int.ofNat_inj] at hc) <;> try contradiction)
    | fail)
  first | refine CallG_of (eval15) (by first | rfl | (simp [natAV, numC, ← limbs.eq_1, push_cast, -List.map_take, -List.map_drop]; done)) (by simp [natAV, recAV, AV.refs, refsL, push_cast, -List.map_take, -List.map_drop]) rfl ?_ | refine callD_of (eval15) (by first | rfl | (simp [natAV, numC, ← limbs.eq_1, push_cast, -List.map_take, -List.map_drop]; done)) (by simp [natAV, recAV, AV.refs, refsL, push_cast, -List.map_take, -List.map_drop]) rfl ?_
  try dsimp only
  repeat' (first
    | with_reducible first | refine thenW_n ?_ | refine thenW_ret ?_ | refine thenW_exit ?_ | refine thenW_panic ?_ | refine blockW_n ?_ | refine blockW_same ?_ | refine blockW_ret ?_ | refine blockW_panic ?_ | refine loopW_ret ?_ | refine loopW_exit ?_ | refine loopW_panic ?_ | refine joinW_ret ?_ | refine joinW_exit ?_ | refine joinW_panic ?_ | refine W_seq ?_ | refine W_block ?_ | refine W_skip ?_ | refine W_ret ?_ | refine W_exit ?_ | refine W_label ?_
    | with_reducible refine blockW_other (by decide) ?_
    | with_reducible refine W_region (by first | decide | (with_unfolding_all rfl)) ?_
    | (rw [vcn]; (try simp [push_cast, -List.map_take, -List.map_drop, recAV, g, g']); try simp (disch := omega) only [i64_in, u64_in, shr64i])
    | with_reducible refine W_drawn mixed (by decide) (by kernel_rfl) ?_
    | (rw [vcnD]; (try simp [push_cast, -List.map_take, -List.map_drop, recAV, g, g']); try simp (disch := omega) only [i64_in, u64_in, shr64i])
    | (with_reducible refine W_condW ?_; (try simp [AS.val, upd, resB, mkS_env, mkS_box, lk, entry_env, condW_true, condW_false, recAV, g, g']))
    | with_reducible refine optK_dV (by first | omega | (simp; omega)) ?_
    | with_reducible refine optK_dVh (by omega) ?_
    | refine And.intro (by first | omega | kernel_rfl) ?_
    | (with_reducible refine condW_b (fun hc => ?_) (fun hc => ?_) <;> (try simp [Int.ofNat_inj] at hc) <;> try contradiction)
    | fail)
  first | refine CallG_of (refRight_ok k d b (by omega)) (by first | rfl | (simp [natAV, numC, ← limbs.eq_1, push_cast, -List.map_take, -List.map_drop, recAV]; done)) (by simp [natAV, recAV, AV.refs, refsL, push_cast, -List.map_take, -List.map_drop]) rfl ?_ | refine callD_of (refRight_ok k d b (by omega)) (by first | rfl | (simp [natAV, numC, ← limbs.eq_1, push_cast, -List.map_take, -List.map_drop, recAV]; done)) (by simp [natAV, recAV, AV.refs, refsL, push_cast, -List.map_take, -List.map_drop]) rfl ?_
  try dsimp only
  repeat' (first
    | with_reducible first | refine thenW_n ?_ | refine thenW_ret ?_ | refine thenW_exit ?_ | refine thenW_panic ?_ | refine blockW_n ?_ | refine blockW_same ?_ | refine blockW_ret ?_ | refine blockW_panic ?_ | refine loopW_ret ?_ | refine loopW_exit ?_ | refine loopW_panic ?_ | refine joinW_ret ?_ | refine joinW_exit ?_ | refine joinW_panic ?_ | refine W_seq ?_ | refine W_block ?_ | refine W_skip ?_ | refine W_ret ?_ | refine W_exit ?_ | refine W_label ?_
    | with_reducible refine blockW_other (by decide) ?_
    | with_reducible refine W_region (by first | decide | (with_unfolding_all rfl)) ?_
    | (rw [vcn]; (try simp [push_cast, -List.map_take, -List.map_drop, recAV, g, g']); try simp (disch := omega) only [i64_in, u64_in, shr64i])
    | with_reducible refine W_drawn mixed (by decide) (by kernel_rfl) ?_
    | (rw [vcnD]; (try simp [push_cast, -List.map_take, -List.map_drop, recAV, g, g']); try simp (disch := omega) only [i64_in, u64_in, shr64i])
    | (with_reducible refine W_condW ?_; (try simp [AS.val, upd, resB, mkS_env, mkS_box, lk, entry_env, condW_true, condW_false, recAV, g, g']))
    | with_reducible refine optK_dV (by first | omega | (simp; omega)) ?_
    | with_reducible refine optK_dVh (by omega) ?_
    | refine And.intro (by first | omega | kernel_rfl) ?_
    | (with_reducible refine condW_b (fun hc => ?_) (fun hc => ?_) <;> (try simp [Int.ofNat_inj] at hc) <;> try contradiction)
    | fail)
  simp [post, resAV, resAll, resOne, closeV, closeC, closeL, resD, resDL, push_cast, -List.map_take, -List.map_drop]
end Go.Fw

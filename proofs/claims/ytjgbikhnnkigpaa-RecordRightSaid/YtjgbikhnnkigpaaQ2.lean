/- The document's Right at each kind. Printed by wip/gen/refright.py. -/
import Derived.Test.YtjgbikhnnkigpaaQ1b
set_option linter.unusedSimpArgs false
set_option linter.unusedVariables false
-- VALS: recAV, inB
namespace Go.Fw
open Go Go.Proofs Go.IntWalk
set_option linter.unusedSimpArgs false
set_option maxRecDepth 100000
set_option maxHeartbeats 4000000
attribute [local push_cast] optK_some optK_none optK_ite optK_map optK_bind gOn stepK isMem evPure evMem evBin evUn evConv evLen evBuiltin evMinMax evSlice evBuild evAppend evIndex evIndexAddr evField evFieldAddr intBin strBin appDest AS.val AS.mem AS.elems AS.put AS.put' AS.eff AV.cells? AV.isCell AV.refs all_isByte take_byteV drop_byteV strOf_map bndOk bnd partAV ptrAdd killBox catA inOrder fillA setAt ofVal resB upd byteV List.head?_take List.head?_drop List.getElem?_map mkS_env mkS_box mkS_used entry_env entry_box entry_used lk stepD lookIds Oper.looksAt Op.operands Call.operands St.ids refsL renL_append dV_take dV_drop ren renL renBox Box.refs iV i64V boolV dV_getElem dV_app dV_cons toNat_add2 toNat_add1

/-- The document's Right. -/
def refR (k d : UInt8) (b : List UInt8) : Bool :=
  if inB [0, 13, 14, 22, 33, 34, 42, 43, 46, 54, 57] k = true then decide (d.toNat = 2) && decide (b.length = 2) else
  if inB [1, 5] k = true then decide (d.toNat = 2) && decide (b.length = 24) else
  if ((k.toNat : Int) == 19) = true then decide (d.toNat = 2) && decide (b.length = 4) else
  if ((k.toNat : Int) == 59) = true then decide (d.toNat = 2) && (decide (b.length % 6 = 0) && (decide (6 ≤ b.length) && decide (b.length ≤ 192))) else
  if inB [4, 7, 8, 9, 10, 11, 12, 17, 21, 45, 56] k = true then decide (d.toNat = 0) && decide (b.length = 0) else
  if inB [15, 47, 48, 49] k = true then decide (d.toNat = 3) && decide (b.length = 4) else
  if ((k.toNat : Int) == 16) = true then decide (d.toNat = 3) && (decide (b.length % 8 = 0) && (decide (8 ≤ b.length) && decide (b.length ≤ 65528))) else
  if inB [27, 28] k = true then decide (d.toNat = 5) && decide (b.length = 8) else
  if ((k.toNat : Int) == 3) = true then decide (d.toNat = 5) && decide (b.length = 16) else
  if inB [23, 26, 38, 52] k = true then decide (d.toNat = 1) && decide (b.length = 2) else
  if inB [2, 25, 44, 55, 58] k = true then decide (d.toNat = 6) && textB b 512 false else
  if inB [6, 18] k = true then decide (d.toNat = 6) && textB b 32 true else
  if ((k.toNat : Int) == 35) = true then decide (d.toNat = 6) && decide (b.length = 44) else
  if ((k.toNat : Int) == 32) = true then decide (d.toNat = 6) && decide (b.length = 176) else
  if ((k.toNat : Int) == 31) = true then decide (d.toNat = 6) && (decide (b.length % 44 = 0) && (decide (44 ≤ b.length) && decide (b.length ≤ 748))) else
  false

theorem refRight_ok (k d : UInt8) (b : List UInt8) (hb : b.length ≤ 1000000) : Eval Try.prog 18 [recAV k d b] (.ret (.v (.bool (refR k d b)))) := by
  refine Eval.intro Try.func18 rfl Try.call18 _ _ (Nat.le_of_ble_eq_true rfl) (by simp [AV.refs, refsL, natAV, recAV, inB, push_cast, -List.map_take, -List.map_drop]) fun hs0 => ?_
  repeat' (first
    | with_reducible first | refine thenW_n ?_ | refine thenW_ret ?_ | refine thenW_exit ?_ | refine thenW_panic ?_ | refine blockW_n ?_ | refine blockW_same ?_ | refine blockW_ret ?_ | refine blockW_panic ?_ | refine loopW_ret ?_ | refine loopW_exit ?_ | refine loopW_panic ?_ | refine joinW_ret ?_ | refine joinW_exit ?_ | refine joinW_panic ?_ | refine W_seq ?_ | refine W_block ?_ | refine W_skip ?_ | refine W_ret ?_ | refine W_exit ?_ | refine W_label ?_
    | with_reducible refine blockW_other (by decide) ?_
    | with_reducible refine W_region (by first | decide | (with_unfolding_all rfl)) ?_
    | (rw [vcn]; (try simp [push_cast, -List.map_take, -List.map_drop, recAV, frzS]); try simp (disch := omega) only [i64_in, u64_in, shr64i])
    | with_reducible refine W_drawn mixed (by decide) (by kernel_rfl) ?_
    | (rw [vcnD]; (try simp [push_cast, -List.map_take, -List.map_drop, recAV, frzS]); try simp (disch := omega) only [i64_in, u64_in, shr64i])
    | (with_reducible refine W_condW ?_; (try simp [AS.val, upd, resB, mkS_env, mkS_box, lk, entry_env, condW_true, condW_false, recAV, frzS]))
    | with_reducible refine optK_dV (by first | omega | (simp; omega)) ?_
    | with_reducible refine optK_dVh (by omega) ?_
    | refine And.intro (by first | omega | kernel_rfl) ?_
    | (with_reducible refine condW_b (fun hc => ?_) (fun hc => ?_) <;> (try simp [Int.ofNat_inj] at hc) <;> try contradiction)
    | fail)
  refine CallG_frz _ _ rfl ?_ (among_ok k false [0, 13, 14, 22, 33, 34, 42, 43, 46, 54, 57]) ?_ (by simp [AV.refs, refsL, push_cast, -List.map_take, -List.map_drop]) rfl ?_
  · first | (simp [refsL, AV.refs, frzS, resDL, resD, resB, upd, mkS_env, mkS_box, entry_env, entry_box, lk, push_cast, -List.map_take, -List.map_drop, recAV]; done) | (simp [refsL, AV.refs, frzS, resDL, resD, resB, upd, mkS_env, mkS_box, entry_env, entry_box, lk, push_cast, -List.map_take, -List.map_drop, recAV]; rw [List.take_of_length_le (by simp)]; done) | (simp [refsL, AV.refs, frzS, resDL, resD, resB, upd, mkS_env, mkS_box, entry_env, entry_box, lk, push_cast, -List.map_take, -List.map_drop, recAV]; fail_if_success done)
  · simp [refsL, AV.refs, frzOk, upd, mkS_env, mkS_box, entry_env, entry_box, lk, push_cast, -List.map_take, -List.map_drop]
  try dsimp only
  try simp only [refsL, AV.refs, frzS, List.append_nil, upd, mkS_box, entry_box, lk, if_true, if_false]
  by_cases s0 : inB [0, 13, 14, 22, 33, 34, 42, 43, 46, 54, 57] k = true
  · by_cases hd : d.toNat = 2
    · have hd' : ((d.toNat : Int) == 2) = true := by simp [hd]
      repeat' (first
        | with_reducible first | refine thenW_n ?_ | refine thenW_ret ?_ | refine thenW_exit ?_ | refine thenW_panic ?_ | refine blockW_n ?_ | refine blockW_same ?_ | refine blockW_ret ?_ | refine blockW_panic ?_ | refine loopW_ret ?_ | refine loopW_exit ?_ | refine loopW_panic ?_ | refine joinW_ret ?_ | refine joinW_exit ?_ | refine joinW_panic ?_ | refine W_seq ?_ | refine W_block ?_ | refine W_skip ?_ | refine W_ret ?_ | refine W_exit ?_ | refine W_label ?_
        | with_reducible refine blockW_other (by decide) ?_
        | with_reducible refine W_region (by first | decide | (with_unfolding_all rfl)) ?_
        | (rw [vcn]; (try simp [push_cast, -List.map_take, -List.map_drop, recAV, frzS, s0, hd']); try simp (disch := omega) only [i64_in, u64_in, shr64i])
        | with_reducible refine W_drawn mixed (by decide) (by kernel_rfl) ?_
        | (rw [vcnD]; (try simp [push_cast, -List.map_take, -List.map_drop, recAV, frzS, s0, hd']); try simp (disch := omega) only [i64_in, u64_in, shr64i])
        | (with_reducible refine W_condW ?_; (try simp [AS.val, upd, resB, mkS_env, mkS_box, lk, entry_env, condW_true, condW_false, recAV, frzS, s0, hd']))
        | with_reducible refine optK_dV (by first | omega | (simp; omega)) ?_
        | with_reducible refine optK_dVh (by omega) ?_
        | refine And.intro (by first | omega | kernel_rfl) ?_
        | (with_reducible refine condW_b (fun hc => ?_) (fun hc => ?_) <;> (try simp [Int.ofNat_inj] at hc) <;> try contradiction)
        | fail)
      simp [post, resAV, resAll, resOne, closeV, closeC, closeL, resD, resDL, push_cast, -List.map_take, -List.map_drop, recAV]
      all_goals first | (simp [refR, s0, hd]; done) | (simp [refR, s0, hd]; omega) | (rw [Bool.eq_iff_iff]; simp [refR, s0, hd]; omega) | (cases b <;> simp [refR, s0, hd] <;> omega)
    · have hd' : ((d.toNat : Int) == 2) = false := by simp; omega
      repeat' (first
        | with_reducible first | refine thenW_n ?_ | refine thenW_ret ?_ | refine thenW_exit ?_ | refine thenW_panic ?_ | refine blockW_n ?_ | refine blockW_same ?_ | refine blockW_ret ?_ | refine blockW_panic ?_ | refine loopW_ret ?_ | refine loopW_exit ?_ | refine loopW_panic ?_ | refine joinW_ret ?_ | refine joinW_exit ?_ | refine joinW_panic ?_ | refine W_seq ?_ | refine W_block ?_ | refine W_skip ?_ | refine W_ret ?_ | refine W_exit ?_ | refine W_label ?_
        | with_reducible refine blockW_other (by decide) ?_
        | with_reducible refine W_region (by first | decide | (with_unfolding_all rfl)) ?_
        | (rw [vcn]; (try simp [push_cast, -List.map_take, -List.map_drop, recAV, frzS, s0, hd']); try simp (disch := omega) only [i64_in, u64_in, shr64i])
        | with_reducible refine W_drawn mixed (by decide) (by kernel_rfl) ?_
        | (rw [vcnD]; (try simp [push_cast, -List.map_take, -List.map_drop, recAV, frzS, s0, hd']); try simp (disch := omega) only [i64_in, u64_in, shr64i])
        | (with_reducible refine W_condW ?_; (try simp [AS.val, upd, resB, mkS_env, mkS_box, lk, entry_env, condW_true, condW_false, recAV, frzS, s0, hd']))
        | with_reducible refine optK_dV (by first | omega | (simp; omega)) ?_
        | with_reducible refine optK_dVh (by omega) ?_
        | refine And.intro (by first | omega | kernel_rfl) ?_
        | (with_reducible refine condW_b (fun hc => ?_) (fun hc => ?_) <;> (try simp [Int.ofNat_inj] at hc) <;> try contradiction)
        | fail)
      simp [post, resAV, resAll, resOne, closeV, closeC, closeL, resD, resDL, push_cast, -List.map_take, -List.map_drop, recAV]
      all_goals first | (simp [refR, s0, hd]; done) | (simp [refR, s0, hd]; omega) | (rw [Bool.eq_iff_iff]; simp [refR, s0, hd]; omega) | (cases b <;> simp [refR, s0, hd] <;> omega)
  replace s0 : inB [0, 13, 14, 22, 33, 34, 42, 43, 46, 54, 57] k = false := by simpa using s0
  repeat' (first
    | with_reducible first | refine thenW_n ?_ | refine thenW_ret ?_ | refine thenW_exit ?_ | refine thenW_panic ?_ | refine blockW_n ?_ | refine blockW_same ?_ | refine blockW_ret ?_ | refine blockW_panic ?_ | refine loopW_ret ?_ | refine loopW_exit ?_ | refine loopW_panic ?_ | refine joinW_ret ?_ | refine joinW_exit ?_ | refine joinW_panic ?_ | refine W_seq ?_ | refine W_block ?_ | refine W_skip ?_ | refine W_ret ?_ | refine W_exit ?_ | refine W_label ?_
    | with_reducible refine blockW_other (by decide) ?_
    | with_reducible refine W_region (by first | decide | (with_unfolding_all rfl)) ?_
    | (rw [vcn]; (try simp [push_cast, -List.map_take, -List.map_drop, recAV, frzS, s0]); try simp (disch := omega) only [i64_in, u64_in, shr64i])
    | with_reducible refine W_drawn mixed (by decide) (by kernel_rfl) ?_
    | (rw [vcnD]; (try simp [push_cast, -List.map_take, -List.map_drop, recAV, frzS, s0]); try simp (disch := omega) only [i64_in, u64_in, shr64i])
    | (with_reducible refine W_condW ?_; (try simp [AS.val, upd, resB, mkS_env, mkS_box, lk, entry_env, condW_true, condW_false, recAV, frzS, s0]))
    | with_reducible refine optK_dV (by first | omega | (simp; omega)) ?_
    | with_reducible refine optK_dVh (by omega) ?_
    | refine And.intro (by first | omega | kernel_rfl) ?_
    | (with_reducible refine condW_b (fun hc => ?_) (fun hc => ?_) <;> (try simp [Int.ofNat_inj] at hc) <;> try contradiction)
    | fail)
  refine CallG_frz _ _ rfl ?_ (among_ok k false [1, 5]) ?_ (by simp [AV.refs, refsL, push_cast, -List.map_take, -List.map_drop]) rfl ?_
  · first | (simp [refsL, AV.refs, frzS, resDL, resD, resB, upd, mkS_env, mkS_box, entry_env, entry_box, lk, push_cast, -List.map_take, -List.map_drop, recAV]; done) | (simp [refsL, AV.refs, frzS, resDL, resD, resB, upd, mkS_env, mkS_box, entry_env, entry_box, lk, push_cast, -List.map_take, -List.map_drop, recAV]; rw [List.take_of_length_le (by simp)]; done) | (simp [refsL, AV.refs, frzS, resDL, resD, resB, upd, mkS_env, mkS_box, entry_env, entry_box, lk, push_cast, -List.map_take, -List.map_drop, recAV]; fail_if_success done)
  · simp [refsL, AV.refs, frzOk, upd, mkS_env, mkS_box, entry_env, entry_box, lk, push_cast, -List.map_take, -List.map_drop]
  try dsimp only
  try simp only [refsL, AV.refs, frzS, List.append_nil, upd, mkS_box, entry_box, lk, if_true, if_false]
  by_cases s1 : inB [1, 5] k = true
  · by_cases hd : d.toNat = 2
    · have hd' : ((d.toNat : Int) == 2) = true := by simp [hd]
      repeat' (first
        | with_reducible first | refine thenW_n ?_ | refine thenW_ret ?_ | refine thenW_exit ?_ | refine thenW_panic ?_ | refine blockW_n ?_ | refine blockW_same ?_ | refine blockW_ret ?_ | refine blockW_panic ?_ | refine loopW_ret ?_ | refine loopW_exit ?_ | refine loopW_panic ?_ | refine joinW_ret ?_ | refine joinW_exit ?_ | refine joinW_panic ?_ | refine W_seq ?_ | refine W_block ?_ | refine W_skip ?_ | refine W_ret ?_ | refine W_exit ?_ | refine W_label ?_
        | with_reducible refine blockW_other (by decide) ?_
        | with_reducible refine W_region (by first | decide | (with_unfolding_all rfl)) ?_
        | (rw [vcn]; (try simp [push_cast, -List.map_take, -List.map_drop, recAV, frzS, s0, s1, hd']); try simp (disch := omega) only [i64_in, u64_in, shr64i])
        | with_reducible refine W_drawn mixed (by decide) (by kernel_rfl) ?_
        | (rw [vcnD]; (try simp [push_cast, -List.map_take, -List.map_drop, recAV, frzS, s0, s1, hd']); try simp (disch := omega) only [i64_in, u64_in, shr64i])
        | (with_reducible refine W_condW ?_; (try simp [AS.val, upd, resB, mkS_env, mkS_box, lk, entry_env, condW_true, condW_false, recAV, frzS, s0, s1, hd']))
        | with_reducible refine optK_dV (by first | omega | (simp; omega)) ?_
        | with_reducible refine optK_dVh (by omega) ?_
        | refine And.intro (by first | omega | kernel_rfl) ?_
        | (with_reducible refine condW_b (fun hc => ?_) (fun hc => ?_) <;> (try simp [Int.ofNat_inj] at hc) <;> try contradiction)
        | fail)
      simp [post, resAV, resAll, resOne, closeV, closeC, closeL, resD, resDL, push_cast, -List.map_take, -List.map_drop, recAV]
      all_goals first | (simp [refR, s1, s0, hd]; done) | (simp [refR, s1, s0, hd]; omega) | (rw [Bool.eq_iff_iff]; simp [refR, s1, s0, hd]; omega) | (cases b <;> simp [refR, s1, s0, hd] <;> omega)
    · have hd' : ((d.toNat : Int) == 2) = false := by simp; omega
      repeat' (first
        | with_reducible first | refine thenW_n ?_ | refine thenW_ret ?_ | refine thenW_exit ?_ | refine thenW_panic ?_ | refine blockW_n ?_ | refine blockW_same ?_ | refine blockW_ret ?_ | refine blockW_panic ?_ | refine loopW_ret ?_ | refine loopW_exit ?_ | refine loopW_panic ?_ | refine joinW_ret ?_ | refine joinW_exit ?_ | refine joinW_panic ?_ | refine W_seq ?_ | refine W_block ?_ | refine W_skip ?_ | refine W_ret ?_ | refine W_exit ?_ | refine W_label ?_
        | with_reducible refine blockW_other (by decide) ?_
        | with_reducible refine W_region (by first | decide | (with_unfolding_all rfl)) ?_
        | (rw [vcn]; (try simp [push_cast, -List.map_take, -List.map_drop, recAV, frzS, s0, s1, hd']); try simp (disch := omega) only [i64_in, u64_in, shr64i])
        | with_reducible refine W_drawn mixed (by decide) (by kernel_rfl) ?_
        | (rw [vcnD]; (try simp [push_cast, -List.map_take, -List.map_drop, recAV, frzS, s0, s1, hd']); try simp (disch := omega) only [i64_in, u64_in, shr64i])
        | (with_reducible refine W_condW ?_; (try simp [AS.val, upd, resB, mkS_env, mkS_box, lk, entry_env, condW_true, condW_false, recAV, frzS, s0, s1, hd']))
        | with_reducible refine optK_dV (by first | omega | (simp; omega)) ?_
        | with_reducible refine optK_dVh (by omega) ?_
        | refine And.intro (by first | omega | kernel_rfl) ?_
        | (with_reducible refine condW_b (fun hc => ?_) (fun hc => ?_) <;> (try simp [Int.ofNat_inj] at hc) <;> try contradiction)
        | fail)
      simp [post, resAV, resAll, resOne, closeV, closeC, closeL, resD, resDL, push_cast, -List.map_take, -List.map_drop, recAV]
      all_goals first | (simp [refR, s1, s0, hd]; done) | (simp [refR, s1, s0, hd]; omega) | (rw [Bool.eq_iff_iff]; simp [refR, s1, s0, hd]; omega) | (cases b <;> simp [refR, s1, s0, hd] <;> omega)
  replace s1 : inB [1, 5] k = false := by simpa using s1
  by_cases s2 : ((k.toNat : Int) == 19) = true
  · by_cases hd : d.toNat = 2
    · have hd' : ((d.toNat : Int) == 2) = true := by simp [hd]
      repeat' (first
        | with_reducible first | refine thenW_n ?_ | refine thenW_ret ?_ | refine thenW_exit ?_ | refine thenW_panic ?_ | refine blockW_n ?_ | refine blockW_same ?_ | refine blockW_ret ?_ | refine blockW_panic ?_ | refine loopW_ret ?_ | refine loopW_exit ?_ | refine loopW_panic ?_ | refine joinW_ret ?_ | refine joinW_exit ?_ | refine joinW_panic ?_ | refine W_seq ?_ | refine W_block ?_ | refine W_skip ?_ | refine W_ret ?_ | refine W_exit ?_ | refine W_label ?_
        | with_reducible refine blockW_other (by decide) ?_
        | with_reducible refine W_region (by first | decide | (with_unfolding_all rfl)) ?_
        | (rw [vcn]; (try simp [push_cast, -List.map_take, -List.map_drop, recAV, frzS, s0, s1, s2, hd']); try simp (disch := omega) only [i64_in, u64_in, shr64i])
        | with_reducible refine W_drawn mixed (by decide) (by kernel_rfl) ?_
        | (rw [vcnD]; (try simp [push_cast, -List.map_take, -List.map_drop, recAV, frzS, s0, s1, s2, hd']); try simp (disch := omega) only [i64_in, u64_in, shr64i])
        | (with_reducible refine W_condW ?_; (try simp [AS.val, upd, resB, mkS_env, mkS_box, lk, entry_env, condW_true, condW_false, recAV, frzS, s0, s1, s2, hd']))
        | with_reducible refine optK_dV (by first | omega | (simp; omega)) ?_
        | with_reducible refine optK_dVh (by omega) ?_
        | refine And.intro (by first | omega | kernel_rfl) ?_
        | (with_reducible refine condW_b (fun hc => ?_) (fun hc => ?_) <;> (try simp [Int.ofNat_inj] at hc) <;> try contradiction)
        | fail)
      simp [post, resAV, resAll, resOne, closeV, closeC, closeL, resD, resDL, push_cast, -List.map_take, -List.map_drop, recAV]
      all_goals first | (simp [refR, s2, s0, s1, hd]; done) | (simp [refR, s2, s0, s1, hd]; omega) | (rw [Bool.eq_iff_iff]; simp [refR, s2, s0, s1, hd]; omega) | (cases b <;> simp [refR, s2, s0, s1, hd] <;> omega)
    · have hd' : ((d.toNat : Int) == 2) = false := by simp; omega
      repeat' (first
        | with_reducible first | refine thenW_n ?_ | refine thenW_ret ?_ | refine thenW_exit ?_ | refine thenW_panic ?_ | refine blockW_n ?_ | refine blockW_same ?_ | refine blockW_ret ?_ | refine blockW_panic ?_ | refine loopW_ret ?_ | refine loopW_exit ?_ | refine loopW_panic ?_ | refine joinW_ret ?_ | refine joinW_exit ?_ | refine joinW_panic ?_ | refine W_seq ?_ | refine W_block ?_ | refine W_skip ?_ | refine W_ret ?_ | refine W_exit ?_ | refine W_label ?_
        | with_reducible refine blockW_other (by decide) ?_
        | with_reducible refine W_region (by first | decide | (with_unfolding_all rfl)) ?_
        | (rw [vcn]; (try simp [push_cast, -List.map_take, -List.map_drop, recAV, frzS, s0, s1, s2, hd']); try simp (disch := omega) only [i64_in, u64_in, shr64i])
        | with_reducible refine W_drawn mixed (by decide) (by kernel_rfl) ?_
        | (rw [vcnD]; (try simp [push_cast, -List.map_take, -List.map_drop, recAV, frzS, s0, s1, s2, hd']); try simp (disch := omega) only [i64_in, u64_in, shr64i])
        | (with_reducible refine W_condW ?_; (try simp [AS.val, upd, resB, mkS_env, mkS_box, lk, entry_env, condW_true, condW_false, recAV, frzS, s0, s1, s2, hd']))
        | with_reducible refine optK_dV (by first | omega | (simp; omega)) ?_
        | with_reducible refine optK_dVh (by omega) ?_
        | refine And.intro (by first | omega | kernel_rfl) ?_
        | (with_reducible refine condW_b (fun hc => ?_) (fun hc => ?_) <;> (try simp [Int.ofNat_inj] at hc) <;> try contradiction)
        | fail)
      simp [post, resAV, resAll, resOne, closeV, closeC, closeL, resD, resDL, push_cast, -List.map_take, -List.map_drop, recAV]
      all_goals first | (simp [refR, s2, s0, s1, hd]; done) | (simp [refR, s2, s0, s1, hd]; omega) | (rw [Bool.eq_iff_iff]; simp [refR, s2, s0, s1, hd]; omega) | (cases b <;> simp [refR, s2, s0, s1, hd] <;> omega)
  replace s2 : ((k.toNat : Int) == 19) = false := by simpa using s2
  by_cases s3 : ((k.toNat : Int) == 59) = true
  · by_cases hd : d.toNat = 2
    · have hd' : ((d.toNat : Int) == 2) = true := by simp [hd]
      have hm : ((b.length : Int).tmod 6) = ((b.length % 6 : Nat) : Int) := by rw [Int.ofNat_tmod]; rfl
      by_cases h1 : b.length % 6 = 0
      · by_cases h2 : 6 ≤ b.length
        · have h2' : (6 : Int) ≤ (b.length : Int) := by omega
          repeat' (first
            | with_reducible first | refine thenW_n ?_ | refine thenW_ret ?_ | refine thenW_exit ?_ | refine thenW_panic ?_ | refine blockW_n ?_ | refine blockW_same ?_ | refine blockW_ret ?_ | refine blockW_panic ?_ | refine loopW_ret ?_ | refine loopW_exit ?_ | refine loopW_panic ?_ | refine joinW_ret ?_ | refine joinW_exit ?_ | refine joinW_panic ?_ | refine W_seq ?_ | refine W_block ?_ | refine W_skip ?_ | refine W_ret ?_ | refine W_exit ?_ | refine W_label ?_
            | with_reducible refine blockW_other (by decide) ?_
            | with_reducible refine W_region (by first | decide | (with_unfolding_all rfl)) ?_
            | (rw [vcn]; (try simp [push_cast, -List.map_take, -List.map_drop, recAV, frzS, s0, s1, s2, s3, hd', hm, h1, h2', h2]); try simp (disch := omega) only [i64_in, u64_in, shr64i])
            | with_reducible refine W_drawn mixed (by decide) (by kernel_rfl) ?_
            | (rw [vcnD]; (try simp [push_cast, -List.map_take, -List.map_drop, recAV, frzS, s0, s1, s2, s3, hd', hm, h1, h2', h2]); try simp (disch := omega) only [i64_in, u64_in, shr64i])
            | (with_reducible refine W_condW ?_; (try simp [AS.val, upd, resB, mkS_env, mkS_box, lk, entry_env, condW_true, condW_false, recAV, frzS, s0, s1, s2, s3, hd', hm, h1, h2', h2]))
            | with_reducible refine optK_dV (by first | omega | (simp; omega)) ?_
            | with_reducible refine optK_dVh (by omega) ?_
            | refine And.intro (by first | omega | kernel_rfl) ?_
            | (with_reducible refine condW_b (fun hc => ?_) (fun hc => ?_) <;> (try simp [Int.ofNat_inj] at hc) <;> try contradiction)
            | fail)
          simp [post, resAV, resAll, resOne, closeV, closeC, closeL, resD, resDL, push_cast, -List.map_take, -List.map_drop, recAV]
          all_goals first | (simp [refR, s3, s0, s1, s2, hd, h1, h2]; done) | (simp [refR, s3, s0, s1, s2, hd, h1, h2]; omega) | (rw [Bool.eq_iff_iff]; simp [refR, s3, s0, s1, s2, hd, h1, h2]; omega) | (cases b <;> simp [refR, s3, s0, s1, s2, hd, h1, h2] <;> omega)
        · have h2' : ¬ (6 : Int) ≤ (b.length : Int) := by omega
          repeat' (first
            | with_reducible first | refine thenW_n ?_ | refine thenW_ret ?_ | refine thenW_exit ?_ | refine thenW_panic ?_ | refine blockW_n ?_ | refine blockW_same ?_ | refine blockW_ret ?_ | refine blockW_panic ?_ | refine loopW_ret ?_ | refine loopW_exit ?_ | refine loopW_panic ?_ | refine joinW_ret ?_ | refine joinW_exit ?_ | refine joinW_panic ?_ | refine W_seq ?_ | refine W_block ?_ | refine W_skip ?_ | refine W_ret ?_ | refine W_exit ?_ | refine W_label ?_
            | with_reducible refine blockW_other (by decide) ?_
            | with_reducible refine W_region (by first | decide | (with_unfolding_all rfl)) ?_
            | (rw [vcn]; (try simp [push_cast, -List.map_take, -List.map_drop, recAV, frzS, s0, s1, s2, s3, hd', hm, h1, h2', h2]); try simp (disch := omega) only [i64_in, u64_in, shr64i])
            | with_reducible refine W_drawn mixed (by decide) (by kernel_rfl) ?_
            | (rw [vcnD]; (try simp [push_cast, -List.map_take, -List.map_drop, recAV, frzS, s0, s1, s2, s3, hd', hm, h1, h2', h2]); try simp (disch := omega) only [i64_in, u64_in, shr64i])
            | (with_reducible refine W_condW ?_; (try simp [AS.val, upd, resB, mkS_env, mkS_box, lk, entry_env, condW_true, condW_false, recAV, frzS, s0, s1, s2, s3, hd', hm, h1, h2', h2]))
            | with_reducible refine optK_dV (by first | omega | (simp; omega)) ?_
            | with_reducible refine optK_dVh (by omega) ?_
            | refine And.intro (by first | omega | kernel_rfl) ?_
            | (with_reducible refine condW_b (fun hc => ?_) (fun hc => ?_) <;> (try simp [Int.ofNat_inj] at hc) <;> try contradiction)
            | fail)
          simp [post, resAV, resAll, resOne, closeV, closeC, closeL, resD, resDL, push_cast, -List.map_take, -List.map_drop, recAV]
          all_goals first | (simp [refR, s3, s0, s1, s2, hd, h1, h2]; done) | (simp [refR, s3, s0, s1, s2, hd, h1, h2]; omega) | (rw [Bool.eq_iff_iff]; simp [refR, s3, s0, s1, s2, hd, h1, h2]; omega) | (cases b <;> simp [refR, s3, s0, s1, s2, hd, h1, h2] <;> omega)
      · have h1' : (b.length % 6 = 0) = False := by simp; omega
        have h1x : ((b.length : Int) % 6 = 0) = False := by simp; omega
        repeat' (first
          | with_reducible first | refine thenW_n ?_ | refine thenW_ret ?_ | refine thenW_exit ?_ | refine thenW_panic ?_ | refine blockW_n ?_ | refine blockW_same ?_ | refine blockW_ret ?_ | refine blockW_panic ?_ | refine loopW_ret ?_ | refine loopW_exit ?_ | refine loopW_panic ?_ | refine joinW_ret ?_ | refine joinW_exit ?_ | refine joinW_panic ?_ | refine W_seq ?_ | refine W_block ?_ | refine W_skip ?_ | refine W_ret ?_ | refine W_exit ?_ | refine W_label ?_
          | with_reducible refine blockW_other (by decide) ?_
          | with_reducible refine W_region (by first | decide | (with_unfolding_all rfl)) ?_
          | (rw [vcn]; (try simp [push_cast, -List.map_take, -List.map_drop, recAV, frzS, s0, s1, s2, s3, hd', hm, h1', h1x, h1]); try simp (disch := omega) only [i64_in, u64_in, shr64i])
          | with_reducible refine W_drawn mixed (by decide) (by kernel_rfl) ?_
          | (rw [vcnD]; (try simp [push_cast, -List.map_take, -List.map_drop, recAV, frzS, s0, s1, s2, s3, hd', hm, h1', h1x, h1]); try simp (disch := omega) only [i64_in, u64_in, shr64i])
          | (with_reducible refine W_condW ?_; (try simp [AS.val, upd, resB, mkS_env, mkS_box, lk, entry_env, condW_true, condW_false, recAV, frzS, s0, s1, s2, s3, hd', hm, h1', h1x, h1]))
          | with_reducible refine optK_dV (by first | omega | (simp; omega)) ?_
          | with_reducible refine optK_dVh (by omega) ?_
          | refine And.intro (by first | omega | kernel_rfl) ?_
          | (with_reducible refine condW_b (fun hc => ?_) (fun hc => ?_) <;> (try simp [Int.ofNat_inj] at hc) <;> try contradiction)
          | fail)
        simp [post, resAV, resAll, resOne, closeV, closeC, closeL, resD, resDL, push_cast, -List.map_take, -List.map_drop, recAV]
        all_goals first | (simp [refR, s3, s0, s1, s2, hd, h1]; done) | (simp [refR, s3, s0, s1, s2, hd, h1]; omega) | (rw [Bool.eq_iff_iff]; simp [refR, s3, s0, s1, s2, hd, h1]; omega) | (cases b <;> simp [refR, s3, s0, s1, s2, hd, h1] <;> omega)
    · have hd' : ((d.toNat : Int) == 2) = false := by simp; omega
      repeat' (first
        | with_reducible first | refine thenW_n ?_ | refine thenW_ret ?_ | refine thenW_exit ?_ | refine thenW_panic ?_ | refine blockW_n ?_ | refine blockW_same ?_ | refine blockW_ret ?_ | refine blockW_panic ?_ | refine loopW_ret ?_ | refine loopW_exit ?_ | refine loopW_panic ?_ | refine joinW_ret ?_ | refine joinW_exit ?_ | refine joinW_panic ?_ | refine W_seq ?_ | refine W_block ?_ | refine W_skip ?_ | refine W_ret ?_ | refine W_exit ?_ | refine W_label ?_
        | with_reducible refine blockW_other (by decide) ?_
        | with_reducible refine W_region (by first | decide | (with_unfolding_all rfl)) ?_
        | (rw [vcn]; (try simp [push_cast, -List.map_take, -List.map_drop, recAV, frzS, s0, s1, s2, s3, hd']); try simp (disch := omega) only [i64_in, u64_in, shr64i])
        | with_reducible refine W_drawn mixed (by decide) (by kernel_rfl) ?_
        | (rw [vcnD]; (try simp [push_cast, -List.map_take, -List.map_drop, recAV, frzS, s0, s1, s2, s3, hd']); try simp (disch := omega) only [i64_in, u64_in, shr64i])
        | (with_reducible refine W_condW ?_; (try simp [AS.val, upd, resB, mkS_env, mkS_box, lk, entry_env, condW_true, condW_false, recAV, frzS, s0, s1, s2, s3, hd']))
        | with_reducible refine optK_dV (by first | omega | (simp; omega)) ?_
        | with_reducible refine optK_dVh (by omega) ?_
        | refine And.intro (by first | omega | kernel_rfl) ?_
        | (with_reducible refine condW_b (fun hc => ?_) (fun hc => ?_) <;> (try simp [Int.ofNat_inj] at hc) <;> try contradiction)
        | fail)
      simp [post, resAV, resAll, resOne, closeV, closeC, closeL, resD, resDL, push_cast, -List.map_take, -List.map_drop, recAV]
      all_goals first | (simp [refR, s3, s0, s1, s2, hd]; done) | (simp [refR, s3, s0, s1, s2, hd]; omega) | (rw [Bool.eq_iff_iff]; simp [refR, s3, s0, s1, s2, hd]; omega) | (cases b <;> simp [refR, s3, s0, s1, s2, hd] <;> omega)
  replace s3 : ((k.toNat : Int) == 59) = false := by simpa using s3
  repeat' (first
    | with_reducible first | refine thenW_n ?_ | refine thenW_ret ?_ | refine thenW_exit ?_ | refine thenW_panic ?_ | refine blockW_n ?_ | refine blockW_same ?_ | refine blockW_ret ?_ | refine blockW_panic ?_ | refine loopW_ret ?_ | refine loopW_exit ?_ | refine loopW_panic ?_ | refine joinW_ret ?_ | refine joinW_exit ?_ | refine joinW_panic ?_ | refine W_seq ?_ | refine W_block ?_ | refine W_skip ?_ | refine W_ret ?_ | refine W_exit ?_ | refine W_label ?_
    | with_reducible refine blockW_other (by decide) ?_
    | with_reducible refine W_region (by first | decide | (with_unfolding_all rfl)) ?_
    | (rw [vcn]; (try simp [push_cast, -List.map_take, -List.map_drop, recAV, frzS, s0, s1, s2, s3]); try simp (disch := omega) only [i64_in, u64_in, shr64i])
    | with_reducible refine W_drawn mixed (by decide) (by kernel_rfl) ?_
    | (rw [vcnD]; (try simp [push_cast, -List.map_take, -List.map_drop, recAV, frzS, s0, s1, s2, s3]); try simp (disch := omega) only [i64_in, u64_in, shr64i])
    | (with_reducible refine W_condW ?_; (try simp [AS.val, upd, resB, mkS_env, mkS_box, lk, entry_env, condW_true, condW_false, recAV, frzS, s0, s1, s2, s3]))
    | with_reducible refine optK_dV (by first | omega | (simp; omega)) ?_
    | with_reducible refine optK_dVh (by omega) ?_
    | refine And.intro (by first | omega | kernel_rfl) ?_
    | (with_reducible refine condW_b (fun hc => ?_) (fun hc => ?_) <;> (try simp [Int.ofNat_inj] at hc) <;> try contradiction)
    | fail)
  refine CallG_frz _ _ rfl ?_ (among_ok k false [4, 7, 8, 9, 10, 11, 12, 17, 21, 45, 56]) ?_ (by simp [AV.refs, refsL, push_cast, -List.map_take, -List.map_drop]) rfl ?_
  · first | (simp [refsL, AV.refs, frzS, resDL, resD, resB, upd, mkS_env, mkS_box, entry_env, entry_box, lk, push_cast, -List.map_take, -List.map_drop, recAV]; done) | (simp [refsL, AV.refs, frzS, resDL, resD, resB, upd, mkS_env, mkS_box, entry_env, entry_box, lk, push_cast, -List.map_take, -List.map_drop, recAV]; rw [List.take_of_length_le (by simp)]; done) | (simp [refsL, AV.refs, frzS, resDL, resD, resB, upd, mkS_env, mkS_box, entry_env, entry_box, lk, push_cast, -List.map_take, -List.map_drop, recAV]; fail_if_success done)
  · simp [refsL, AV.refs, frzOk, upd, mkS_env, mkS_box, entry_env, entry_box, lk, push_cast, -List.map_take, -List.map_drop]
  try dsimp only
  try simp only [refsL, AV.refs, frzS, List.append_nil, upd, mkS_box, entry_box, lk, if_true, if_false]
  by_cases s4 : inB [4, 7, 8, 9, 10, 11, 12, 17, 21, 45, 56] k = true
  · by_cases hd : d.toNat = 0
    · have hd' : ((d.toNat : Int) == 0) = true := by simp [hd]
      repeat' (first
        | with_reducible first | refine thenW_n ?_ | refine thenW_ret ?_ | refine thenW_exit ?_ | refine thenW_panic ?_ | refine blockW_n ?_ | refine blockW_same ?_ | refine blockW_ret ?_ | refine blockW_panic ?_ | refine loopW_ret ?_ | refine loopW_exit ?_ | refine loopW_panic ?_ | refine joinW_ret ?_ | refine joinW_exit ?_ | refine joinW_panic ?_ | refine W_seq ?_ | refine W_block ?_ | refine W_skip ?_ | refine W_ret ?_ | refine W_exit ?_ | refine W_label ?_
        | with_reducible refine blockW_other (by decide) ?_
        | with_reducible refine W_region (by first | decide | (with_unfolding_all rfl)) ?_
        | (rw [vcn]; (try simp [push_cast, -List.map_take, -List.map_drop, recAV, frzS, s0, s1, s2, s3, s4, hd']); try simp (disch := omega) only [i64_in, u64_in, shr64i])
        | with_reducible refine W_drawn mixed (by decide) (by kernel_rfl) ?_
        | (rw [vcnD]; (try simp [push_cast, -List.map_take, -List.map_drop, recAV, frzS, s0, s1, s2, s3, s4, hd']); try simp (disch := omega) only [i64_in, u64_in, shr64i])
        | (with_reducible refine W_condW ?_; (try simp [AS.val, upd, resB, mkS_env, mkS_box, lk, entry_env, condW_true, condW_false, recAV, frzS, s0, s1, s2, s3, s4, hd']))
        | with_reducible refine optK_dV (by first | omega | (simp; omega)) ?_
        | with_reducible refine optK_dVh (by omega) ?_
        | refine And.intro (by first | omega | kernel_rfl) ?_
        | (with_reducible refine condW_b (fun hc => ?_) (fun hc => ?_) <;> (try simp [Int.ofNat_inj] at hc) <;> try contradiction)
        | fail)
      simp [post, resAV, resAll, resOne, closeV, closeC, closeL, resD, resDL, push_cast, -List.map_take, -List.map_drop, recAV]
      all_goals first | (simp [refR, s4, s0, s1, s2, s3, hd]; done) | (simp [refR, s4, s0, s1, s2, s3, hd]; omega) | (rw [Bool.eq_iff_iff]; simp [refR, s4, s0, s1, s2, s3, hd]; omega) | (cases b <;> simp [refR, s4, s0, s1, s2, s3, hd] <;> omega)
    · have hd' : ((d.toNat : Int) == 0) = false := by simp; omega
      repeat' (first
        | with_reducible first | refine thenW_n ?_ | refine thenW_ret ?_ | refine thenW_exit ?_ | refine thenW_panic ?_ | refine blockW_n ?_ | refine blockW_same ?_ | refine blockW_ret ?_ | refine blockW_panic ?_ | refine loopW_ret ?_ | refine loopW_exit ?_ | refine loopW_panic ?_ | refine joinW_ret ?_ | refine joinW_exit ?_ | refine joinW_panic ?_ | refine W_seq ?_ | refine W_block ?_ | refine W_skip ?_ | refine W_ret ?_ | refine W_exit ?_ | refine W_label ?_
        | with_reducible refine blockW_other (by decide) ?_
        | with_reducible refine W_region (by first | decide | (with_unfolding_all rfl)) ?_
        | (rw [vcn]; (try simp [push_cast, -List.map_take, -List.map_drop, recAV, frzS, s0, s1, s2, s3, s4, hd']); try simp (disch := omega) only [i64_in, u64_in, shr64i])
        | with_reducible refine W_drawn mixed (by decide) (by kernel_rfl) ?_
        | (rw [vcnD]; (try simp [push_cast, -List.map_take, -List.map_drop, recAV, frzS, s0, s1, s2, s3, s4, hd']); try simp (disch := omega) only [i64_in, u64_in, shr64i])
        | (with_reducible refine W_condW ?_; (try simp [AS.val, upd, resB, mkS_env, mkS_box, lk, entry_env, condW_true, condW_false, recAV, frzS, s0, s1, s2, s3, s4, hd']))
        | with_reducible refine optK_dV (by first | omega | (simp; omega)) ?_
        | with_reducible refine optK_dVh (by omega) ?_
        | refine And.intro (by first | omega | kernel_rfl) ?_
        | (with_reducible refine condW_b (fun hc => ?_) (fun hc => ?_) <;> (try simp [Int.ofNat_inj] at hc) <;> try contradiction)
        | fail)
      simp [post, resAV, resAll, resOne, closeV, closeC, closeL, resD, resDL, push_cast, -List.map_take, -List.map_drop, recAV]
      all_goals first | (simp [refR, s4, s0, s1, s2, s3, hd]; done) | (simp [refR, s4, s0, s1, s2, s3, hd]; omega) | (rw [Bool.eq_iff_iff]; simp [refR, s4, s0, s1, s2, s3, hd]; omega) | (cases b <;> simp [refR, s4, s0, s1, s2, s3, hd] <;> omega)
  replace s4 : inB [4, 7, 8, 9, 10, 11, 12, 17, 21, 45, 56] k = false := by simpa using s4
  repeat' (first
    | with_reducible first | refine thenW_n ?_ | refine thenW_ret ?_ | refine thenW_exit ?_ | refine thenW_panic ?_ | refine blockW_n ?_ | refine blockW_same ?_ | refine blockW_ret ?_ | refine blockW_panic ?_ | refine loopW_ret ?_ | refine loopW_exit ?_ | refine loopW_panic ?_ | refine joinW_ret ?_ | refine joinW_exit ?_ | refine joinW_panic ?_ | refine W_seq ?_ | refine W_block ?_ | refine W_skip ?_ | refine W_ret ?_ | refine W_exit ?_ | refine W_label ?_
    | with_reducible refine blockW_other (by decide) ?_
    | with_reducible refine W_region (by first | decide | (with_unfolding_all rfl)) ?_
    | (rw [vcn]; (try simp [push_cast, -List.map_take, -List.map_drop, recAV, frzS, s0, s1, s2, s3, s4]); try simp (disch := omega) only [i64_in, u64_in, shr64i])
    | with_reducible refine W_drawn mixed (by decide) (by kernel_rfl) ?_
    | (rw [vcnD]; (try simp [push_cast, -List.map_take, -List.map_drop, recAV, frzS, s0, s1, s2, s3, s4]); try simp (disch := omega) only [i64_in, u64_in, shr64i])
    | (with_reducible refine W_condW ?_; (try simp [AS.val, upd, resB, mkS_env, mkS_box, lk, entry_env, condW_true, condW_false, recAV, frzS, s0, s1, s2, s3, s4]))
    | with_reducible refine optK_dV (by first | omega | (simp; omega)) ?_
    | with_reducible refine optK_dVh (by omega) ?_
    | refine And.intro (by first | omega | kernel_rfl) ?_
    | (with_reducible refine condW_b (fun hc => ?_) (fun hc => ?_) <;> (try simp [Int.ofNat_inj] at hc) <;> try contradiction)
    | fail)
  refine CallG_frz _ _ rfl ?_ (among_ok k false [15, 47, 48, 49]) ?_ (by simp [AV.refs, refsL, push_cast, -List.map_take, -List.map_drop]) rfl ?_
  · first | (simp [refsL, AV.refs, frzS, resDL, resD, resB, upd, mkS_env, mkS_box, entry_env, entry_box, lk, push_cast, -List.map_take, -List.map_drop, recAV]; done) | (simp [refsL, AV.refs, frzS, resDL, resD, resB, upd, mkS_env, mkS_box, entry_env, entry_box, lk, push_cast, -List.map_take, -List.map_drop, recAV]; rw [List.take_of_length_le (by simp)]; done) | (simp [refsL, AV.refs, frzS, resDL, resD, resB, upd, mkS_env, mkS_box, entry_env, entry_box, lk, push_cast, -List.map_take, -List.map_drop, recAV]; fail_if_success done)
  · simp [refsL, AV.refs, frzOk, upd, mkS_env, mkS_box, entry_env, entry_box, lk, push_cast, -List.map_take, -List.map_drop]
  try dsimp only
  try simp only [refsL, AV.refs, frzS, List.append_nil, upd, mkS_box, entry_box, lk, if_true, if_false]
  by_cases s5 : inB [15, 47, 48, 49] k = true
  · by_cases hd : d.toNat = 3
    · have hd' : ((d.toNat : Int) == 3) = true := by simp [hd]
      repeat' (first
        | with_reducible first | refine thenW_n ?_ | refine thenW_ret ?_ | refine thenW_exit ?_ | refine thenW_panic ?_ | refine blockW_n ?_ | refine blockW_same ?_ | refine blockW_ret ?_ | refine blockW_panic ?_ | refine loopW_ret ?_ | refine loopW_exit ?_ | refine loopW_panic ?_ | refine joinW_ret ?_ | refine joinW_exit ?_ | refine joinW_panic ?_ | refine W_seq ?_ | refine W_block ?_ | refine W_skip ?_ | refine W_ret ?_ | refine W_exit ?_ | refine W_label ?_
        | with_reducible refine blockW_other (by decide) ?_
        | with_reducible refine W_region (by first | decide | (with_unfolding_all rfl)) ?_
        | (rw [vcn]; (try simp [push_cast, -List.map_take, -List.map_drop, recAV, frzS, s0, s1, s2, s3, s4, s5, hd']); try simp (disch := omega) only [i64_in, u64_in, shr64i])
        | with_reducible refine W_drawn mixed (by decide) (by kernel_rfl) ?_
        | (rw [vcnD]; (try simp [push_cast, -List.map_take, -List.map_drop, recAV, frzS, s0, s1, s2, s3, s4, s5, hd']); try simp (disch := omega) only [i64_in, u64_in, shr64i])
        | (with_reducible refine W_condW ?_; (try simp [AS.val, upd, resB, mkS_env, mkS_box, lk, entry_env, condW_true, condW_false, recAV, frzS, s0, s1, s2, s3, s4, s5, hd']))
        | with_reducible refine optK_dV (by first | omega | (simp; omega)) ?_
        | with_reducible refine optK_dVh (by omega) ?_
        | refine And.intro (by first | omega | kernel_rfl) ?_
        | (with_reducible refine condW_b (fun hc => ?_) (fun hc => ?_) <;> (try simp [Int.ofNat_inj] at hc) <;> try contradiction)
        | fail)
      simp [post, resAV, resAll, resOne, closeV, closeC, closeL, resD, resDL, push_cast, -List.map_take, -List.map_drop, recAV]
      all_goals first | (simp [refR, s5, s0, s1, s2, s3, s4, hd]; done) | (simp [refR, s5, s0, s1, s2, s3, s4, hd]; omega) | (rw [Bool.eq_iff_iff]; simp [refR, s5, s0, s1, s2, s3, s4, hd]; omega) | (cases b <;> simp [refR, s5, s0, s1, s2, s3, s4, hd] <;> omega)
    · have hd' : ((d.toNat : Int) == 3) = false := by simp; omega
      repeat' (first
        | with_reducible first | refine thenW_n ?_ | refine thenW_ret ?_ | refine thenW_exit ?_ | refine thenW_panic ?_ | refine blockW_n ?_ | refine blockW_same ?_ | refine blockW_ret ?_ | refine blockW_panic ?_ | refine loopW_ret ?_ | refine loopW_exit ?_ | refine loopW_panic ?_ | refine joinW_ret ?_ | refine joinW_exit ?_ | refine joinW_panic ?_ | refine W_seq ?_ | refine W_block ?_ | refine W_skip ?_ | refine W_ret ?_ | refine W_exit ?_ | refine W_label ?_
        | with_reducible refine blockW_other (by decide) ?_
        | with_reducible refine W_region (by first | decide | (with_unfolding_all rfl)) ?_
        | (rw [vcn]; (try simp [push_cast, -List.map_take, -List.map_drop, recAV, frzS, s0, s1, s2, s3, s4, s5, hd']); try simp (disch := omega) only [i64_in, u64_in, shr64i])
        | with_reducible refine W_drawn mixed (by decide) (by kernel_rfl) ?_
        | (rw [vcnD]; (try simp [push_cast, -List.map_take, -List.map_drop, recAV, frzS, s0, s1, s2, s3, s4, s5, hd']); try simp (disch := omega) only [i64_in, u64_in, shr64i])
        | (with_reducible refine W_condW ?_; (try simp [AS.val, upd, resB, mkS_env, mkS_box, lk, entry_env, condW_true, condW_false, recAV, frzS, s0, s1, s2, s3, s4, s5, hd']))
        | with_reducible refine optK_dV (by first | omega | (simp; omega)) ?_
        | with_reducible refine optK_dVh (by omega) ?_
        | refine And.intro (by first | omega | kernel_rfl) ?_
        | (with_reducible refine condW_b (fun hc => ?_) (fun hc => ?_) <;> (try simp [Int.ofNat_inj] at hc) <;> try contradiction)
        | fail)
      simp [post, resAV, resAll, resOne, closeV, closeC, closeL, resD, resDL, push_cast, -List.map_take, -List.map_drop, recAV]
      all_goals first | (simp [refR, s5, s0, s1, s2, s3, s4, hd]; done) | (simp [refR, s5, s0, s1, s2, s3, s4, hd]; omega) | (rw [Bool.eq_iff_iff]; simp [refR, s5, s0, s1, s2, s3, s4, hd]; omega) | (cases b <;> simp [refR, s5, s0, s1, s2, s3, s4, hd] <;> omega)
  replace s5 : inB [15, 47, 48, 49] k = false := by simpa using s5
  by_cases s6 : ((k.toNat : Int) == 16) = true
  · by_cases hd : d.toNat = 3
    · have hd' : ((d.toNat : Int) == 3) = true := by simp [hd]
      have hm : ((b.length : Int).tmod 8) = ((b.length % 8 : Nat) : Int) := by rw [Int.ofNat_tmod]; rfl
      by_cases h1 : b.length % 8 = 0
      · by_cases h2 : 8 ≤ b.length
        · have h2' : (8 : Int) ≤ (b.length : Int) := by omega
          repeat' (first
            | with_reducible first | refine thenW_n ?_ | refine thenW_ret ?_ | refine thenW_exit ?_ | refine thenW_panic ?_ | refine blockW_n ?_ | refine blockW_same ?_ | refine blockW_ret ?_ | refine blockW_panic ?_ | refine loopW_ret ?_ | refine loopW_exit ?_ | refine loopW_panic ?_ | refine joinW_ret ?_ | refine joinW_exit ?_ | refine joinW_panic ?_ | refine W_seq ?_ | refine W_block ?_ | refine W_skip ?_ | refine W_ret ?_ | refine W_exit ?_ | refine W_label ?_
            | with_reducible refine blockW_other (by decide) ?_
            | with_reducible refine W_region (by first | decide | (with_unfolding_all rfl)) ?_
            | (rw [vcn]; (try simp [push_cast, -List.map_take, -List.map_drop, recAV, frzS, s0, s1, s2, s3, s4, s5, s6, hd', hm, h1, h2', h2]); try simp (disch := omega) only [i64_in, u64_in, shr64i])
            | with_reducible refine W_drawn mixed (by decide) (by kernel_rfl) ?_
            | (rw [vcnD]; (try simp [push_cast, -List.map_take, -List.map_drop, recAV, frzS, s0, s1, s2, s3, s4, s5, s6, hd', hm, h1, h2', h2]); try simp (disch := omega) only [i64_in, u64_in, shr64i])
            | (with_reducible refine W_condW ?_; (try simp [AS.val, upd, resB, mkS_env, mkS_box, lk, entry_env, condW_true, condW_false, recAV, frzS, s0, s1, s2, s3, s4, s5, s6, hd', hm, h1, h2', h2]))
            | with_reducible refine optK_dV (by first | omega | (simp; omega)) ?_
            | with_reducible refine optK_dVh (by omega) ?_
            | refine And.intro (by first | omega | kernel_rfl) ?_
            | (with_reducible refine condW_b (fun hc => ?_) (fun hc => ?_) <;> (try simp [Int.ofNat_inj] at hc) <;> try contradiction)
            | fail)
          simp [post, resAV, resAll, resOne, closeV, closeC, closeL, resD, resDL, push_cast, -List.map_take, -List.map_drop, recAV]
          all_goals first | (simp [refR, s6, s0, s1, s2, s3, s4, s5, hd, h1, h2]; done) | (simp [refR, s6, s0, s1, s2, s3, s4, s5, hd, h1, h2]; omega) | (rw [Bool.eq_iff_iff]; simp [refR, s6, s0, s1, s2, s3, s4, s5, hd, h1, h2]; omega) | (cases b <;> simp [refR, s6, s0, s1, s2, s3, s4, s5, hd, h1, h2] <;> omega)
        · have h2' : ¬ (8 : Int) ≤ (b.length : Int) := by omega
          repeat' (first
            | with_reducible first | refine thenW_n ?_ | refine thenW_ret ?_ | refine thenW_exit ?_ | refine thenW_panic ?_ | refine blockW_n ?_ | refine blockW_same ?_ | refine blockW_ret ?_ | refine blockW_panic ?_ | refine loopW_ret ?_ | refine loopW_exit ?_ | refine loopW_panic ?_ | refine joinW_ret ?_ | refine joinW_exit ?_ | refine joinW_panic ?_ | refine W_seq ?_ | refine W_block ?_ | refine W_skip ?_ | refine W_ret ?_ | refine W_exit ?_ | refine W_label ?_
            | with_reducible refine blockW_other (by decide) ?_
            | with_reducible refine W_region (by first | decide | (with_unfolding_all rfl)) ?_
            | (rw [vcn]; (try simp [push_cast, -List.map_take, -List.map_drop, recAV, frzS, s0, s1, s2, s3, s4, s5, s6, hd', hm, h1, h2', h2]); try simp (disch := omega) only [i64_in, u64_in, shr64i])
            | with_reducible refine W_drawn mixed (by decide) (by kernel_rfl) ?_
            | (rw [vcnD]; (try simp [push_cast, -List.map_take, -List.map_drop, recAV, frzS, s0, s1, s2, s3, s4, s5, s6, hd', hm, h1, h2', h2]); try simp (disch := omega) only [i64_in, u64_in, shr64i])
            | (with_reducible refine W_condW ?_; (try simp [AS.val, upd, resB, mkS_env, mkS_box, lk, entry_env, condW_true, condW_false, recAV, frzS, s0, s1, s2, s3, s4, s5, s6, hd', hm, h1, h2', h2]))
            | with_reducible refine optK_dV (by first | omega | (simp; omega)) ?_
            | with_reducible refine optK_dVh (by omega) ?_
            | refine And.intro (by first | omega | kernel_rfl) ?_
            | (with_reducible refine condW_b (fun hc => ?_) (fun hc => ?_) <;> (try simp [Int.ofNat_inj] at hc) <;> try contradiction)
            | fail)
          simp [post, resAV, resAll, resOne, closeV, closeC, closeL, resD, resDL, push_cast, -List.map_take, -List.map_drop, recAV]
          all_goals first | (simp [refR, s6, s0, s1, s2, s3, s4, s5, hd, h1, h2]; done) | (simp [refR, s6, s0, s1, s2, s3, s4, s5, hd, h1, h2]; omega) | (rw [Bool.eq_iff_iff]; simp [refR, s6, s0, s1, s2, s3, s4, s5, hd, h1, h2]; omega) | (cases b <;> simp [refR, s6, s0, s1, s2, s3, s4, s5, hd, h1, h2] <;> omega)
      · have h1' : (b.length % 8 = 0) = False := by simp; omega
        have h1x : ((b.length : Int) % 8 = 0) = False := by simp; omega
        repeat' (first
          | with_reducible first | refine thenW_n ?_ | refine thenW_ret ?_ | refine thenW_exit ?_ | refine thenW_panic ?_ | refine blockW_n ?_ | refine blockW_same ?_ | refine blockW_ret ?_ | refine blockW_panic ?_ | refine loopW_ret ?_ | refine loopW_exit ?_ | refine loopW_panic ?_ | refine joinW_ret ?_ | refine joinW_exit ?_ | refine joinW_panic ?_ | refine W_seq ?_ | refine W_block ?_ | refine W_skip ?_ | refine W_ret ?_ | refine W_exit ?_ | refine W_label ?_
          | with_reducible refine blockW_other (by decide) ?_
          | with_reducible refine W_region (by first | decide | (with_unfolding_all rfl)) ?_
          | (rw [vcn]; (try simp [push_cast, -List.map_take, -List.map_drop, recAV, frzS, s0, s1, s2, s3, s4, s5, s6, hd', hm, h1', h1x, h1]); try simp (disch := omega) only [i64_in, u64_in, shr64i])
          | with_reducible refine W_drawn mixed (by decide) (by kernel_rfl) ?_
          | (rw [vcnD]; (try simp [push_cast, -List.map_take, -List.map_drop, recAV, frzS, s0, s1, s2, s3, s4, s5, s6, hd', hm, h1', h1x, h1]); try simp (disch := omega) only [i64_in, u64_in, shr64i])
          | (with_reducible refine W_condW ?_; (try simp [AS.val, upd, resB, mkS_env, mkS_box, lk, entry_env, condW_true, condW_false, recAV, frzS, s0, s1, s2, s3, s4, s5, s6, hd', hm, h1', h1x, h1]))
          | with_reducible refine optK_dV (by first | omega | (simp; omega)) ?_
          | with_reducible refine optK_dVh (by omega) ?_
          | refine And.intro (by first | omega | kernel_rfl) ?_
          | (with_reducible refine condW_b (fun hc => ?_) (fun hc => ?_) <;> (try simp [Int.ofNat_inj] at hc) <;> try contradiction)
          | fail)
        simp [post, resAV, resAll, resOne, closeV, closeC, closeL, resD, resDL, push_cast, -List.map_take, -List.map_drop, recAV]
        all_goals first | (simp [refR, s6, s0, s1, s2, s3, s4, s5, hd, h1]; done) | (simp [refR, s6, s0, s1, s2, s3, s4, s5, hd, h1]; omega) | (rw [Bool.eq_iff_iff]; simp [refR, s6, s0, s1, s2, s3, s4, s5, hd, h1]; omega) | (cases b <;> simp [refR, s6, s0, s1, s2, s3, s4, s5, hd, h1] <;> omega)
    · have hd' : ((d.toNat : Int) == 3) = false := by simp; omega
      repeat' (first
        | with_reducible first | refine thenW_n ?_ | refine thenW_ret ?_ | refine thenW_exit ?_ | refine thenW_panic ?_ | refine blockW_n ?_ | refine blockW_same ?_ | refine blockW_ret ?_ | refine blockW_panic ?_ | refine loopW_ret ?_ | refine loopW_exit ?_ | refine loopW_panic ?_ | refine joinW_ret ?_ | refine joinW_exit ?_ | refine joinW_panic ?_ | refine W_seq ?_ | refine W_block ?_ | refine W_skip ?_ | refine W_ret ?_ | refine W_exit ?_ | refine W_label ?_
        | with_reducible refine blockW_other (by decide) ?_
        | with_reducible refine W_region (by first | decide | (with_unfolding_all rfl)) ?_
        | (rw [vcn]; (try simp [push_cast, -List.map_take, -List.map_drop, recAV, frzS, s0, s1, s2, s3, s4, s5, s6, hd']); try simp (disch := omega) only [i64_in, u64_in, shr64i])
        | with_reducible refine W_drawn mixed (by decide) (by kernel_rfl) ?_
        | (rw [vcnD]; (try simp [push_cast, -List.map_take, -List.map_drop, recAV, frzS, s0, s1, s2, s3, s4, s5, s6, hd']); try simp (disch := omega) only [i64_in, u64_in, shr64i])
        | (with_reducible refine W_condW ?_; (try simp [AS.val, upd, resB, mkS_env, mkS_box, lk, entry_env, condW_true, condW_false, recAV, frzS, s0, s1, s2, s3, s4, s5, s6, hd']))
        | with_reducible refine optK_dV (by first | omega | (simp; omega)) ?_
        | with_reducible refine optK_dVh (by omega) ?_
        | refine And.intro (by first | omega | kernel_rfl) ?_
        | (with_reducible refine condW_b (fun hc => ?_) (fun hc => ?_) <;> (try simp [Int.ofNat_inj] at hc) <;> try contradiction)
        | fail)
      simp [post, resAV, resAll, resOne, closeV, closeC, closeL, resD, resDL, push_cast, -List.map_take, -List.map_drop, recAV]
      all_goals first | (simp [refR, s6, s0, s1, s2, s3, s4, s5, hd]; done) | (simp [refR, s6, s0, s1, s2, s3, s4, s5, hd]; omega) | (rw [Bool.eq_iff_iff]; simp [refR, s6, s0, s1, s2, s3, s4, s5, hd]; omega) | (cases b <;> simp [refR, s6, s0, s1, s2, s3, s4, s5, hd] <;> omega)
  replace s6 : ((k.toNat : Int) == 16) = false := by simpa using s6
  repeat' (first
    | with_reducible first | refine thenW_n ?_ | refine thenW_ret ?_ | refine thenW_exit ?_ | refine thenW_panic ?_ | refine blockW_n ?_ | refine blockW_same ?_ | refine blockW_ret ?_ | refine blockW_panic ?_ | refine loopW_ret ?_ | refine loopW_exit ?_ | refine loopW_panic ?_ | refine joinW_ret ?_ | refine joinW_exit ?_ | refine joinW_panic ?_ | refine W_seq ?_ | refine W_block ?_ | refine W_skip ?_ | refine W_ret ?_ | refine W_exit ?_ | refine W_label ?_
    | with_reducible refine blockW_other (by decide) ?_
    | with_reducible refine W_region (by first | decide | (with_unfolding_all rfl)) ?_
    | (rw [vcn]; (try simp [push_cast, -List.map_take, -List.map_drop, recAV, frzS, s0, s1, s2, s3, s4, s5, s6]); try simp (disch := omega) only [i64_in, u64_in, shr64i])
    | with_reducible refine W_drawn mixed (by decide) (by kernel_rfl) ?_
    | (rw [vcnD]; (try simp [push_cast, -List.map_take, -List.map_drop, recAV, frzS, s0, s1, s2, s3, s4, s5, s6]); try simp (disch := omega) only [i64_in, u64_in, shr64i])
    | (with_reducible refine W_condW ?_; (try simp [AS.val, upd, resB, mkS_env, mkS_box, lk, entry_env, condW_true, condW_false, recAV, frzS, s0, s1, s2, s3, s4, s5, s6]))
    | with_reducible refine optK_dV (by first | omega | (simp; omega)) ?_
    | with_reducible refine optK_dVh (by omega) ?_
    | refine And.intro (by first | omega | kernel_rfl) ?_
    | (with_reducible refine condW_b (fun hc => ?_) (fun hc => ?_) <;> (try simp [Int.ofNat_inj] at hc) <;> try contradiction)
    | fail)
  refine CallG_frz _ _ rfl ?_ (among_ok k false [27, 28]) ?_ (by simp [AV.refs, refsL, push_cast, -List.map_take, -List.map_drop]) rfl ?_
  · first | (simp [refsL, AV.refs, frzS, resDL, resD, resB, upd, mkS_env, mkS_box, entry_env, entry_box, lk, push_cast, -List.map_take, -List.map_drop, recAV]; done) | (simp [refsL, AV.refs, frzS, resDL, resD, resB, upd, mkS_env, mkS_box, entry_env, entry_box, lk, push_cast, -List.map_take, -List.map_drop, recAV]; rw [List.take_of_length_le (by simp)]; done) | (simp [refsL, AV.refs, frzS, resDL, resD, resB, upd, mkS_env, mkS_box, entry_env, entry_box, lk, push_cast, -List.map_take, -List.map_drop, recAV]; fail_if_success done)
  · simp [refsL, AV.refs, frzOk, upd, mkS_env, mkS_box, entry_env, entry_box, lk, push_cast, -List.map_take, -List.map_drop]
  try dsimp only
  try simp only [refsL, AV.refs, frzS, List.append_nil, upd, mkS_box, entry_box, lk, if_true, if_false]
  by_cases s7 : inB [27, 28] k = true
  · by_cases hd : d.toNat = 5
    · have hd' : ((d.toNat : Int) == 5) = true := by simp [hd]
      repeat' (first
        | with_reducible first | refine thenW_n ?_ | refine thenW_ret ?_ | refine thenW_exit ?_ | refine thenW_panic ?_ | refine blockW_n ?_ | refine blockW_same ?_ | refine blockW_ret ?_ | refine blockW_panic ?_ | refine loopW_ret ?_ | refine loopW_exit ?_ | refine loopW_panic ?_ | refine joinW_ret ?_ | refine joinW_exit ?_ | refine joinW_panic ?_ | refine W_seq ?_ | refine W_block ?_ | refine W_skip ?_ | refine W_ret ?_ | refine W_exit ?_ | refine W_label ?_
        | with_reducible refine blockW_other (by decide) ?_
        | with_reducible refine W_region (by first | decide | (with_unfolding_all rfl)) ?_
        | (rw [vcn]; (try simp [push_cast, -List.map_take, -List.map_drop, recAV, frzS, s0, s1, s2, s3, s4, s5, s6, s7, hd']); try simp (disch := omega) only [i64_in, u64_in, shr64i])
        | with_reducible refine W_drawn mixed (by decide) (by kernel_rfl) ?_
        | (rw [vcnD]; (try simp [push_cast, -List.map_take, -List.map_drop, recAV, frzS, s0, s1, s2, s3, s4, s5, s6, s7, hd']); try simp (disch := omega) only [i64_in, u64_in, shr64i])
        | (with_reducible refine W_condW ?_; (try simp [AS.val, upd, resB, mkS_env, mkS_box, lk, entry_env, condW_true, condW_false, recAV, frzS, s0, s1, s2, s3, s4, s5, s6, s7, hd']))
        | with_reducible refine optK_dV (by first | omega | (simp; omega)) ?_
        | with_reducible refine optK_dVh (by omega) ?_
        | refine And.intro (by first | omega | kernel_rfl) ?_
        | (with_reducible refine condW_b (fun hc => ?_) (fun hc => ?_) <;> (try simp [Int.ofNat_inj] at hc) <;> try contradiction)
        | fail)
      simp [post, resAV, resAll, resOne, closeV, closeC, closeL, resD, resDL, push_cast, -List.map_take, -List.map_drop, recAV]
      all_goals first | (simp [refR, s7, s0, s1, s2, s3, s4, s5, s6, hd]; done) | (simp [refR, s7, s0, s1, s2, s3, s4, s5, s6, hd]; omega) | (rw [Bool.eq_iff_iff]; simp [refR, s7, s0, s1, s2, s3, s4, s5, s6, hd]; omega) | (cases b <;> simp [refR, s7, s0, s1, s2, s3, s4, s5, s6, hd] <;> omega)
    · have hd' : ((d.toNat : Int) == 5) = false := by simp; omega
      repeat' (first
        | with_reducible first | refine thenW_n ?_ | refine thenW_ret ?_ | refine thenW_exit ?_ | refine thenW_panic ?_ | refine blockW_n ?_ | refine blockW_same ?_ | refine blockW_ret ?_ | refine blockW_panic ?_ | refine loopW_ret ?_ | refine loopW_exit ?_ | refine loopW_panic ?_ | refine joinW_ret ?_ | refine joinW_exit ?_ | refine joinW_panic ?_ | refine W_seq ?_ | refine W_block ?_ | refine W_skip ?_ | refine W_ret ?_ | refine W_exit ?_ | refine W_label ?_
        | with_reducible refine blockW_other (by decide) ?_
        | with_reducible refine W_region (by first | decide | (with_unfolding_all rfl)) ?_
        | (rw [vcn]; (try simp [push_cast, -List.map_take, -List.map_drop, recAV, frzS, s0, s1, s2, s3, s4, s5, s6, s7, hd']); try simp (disch := omega) only [i64_in, u64_in, shr64i])
        | with_reducible refine W_drawn mixed (by decide) (by kernel_rfl) ?_
        | (rw [vcnD]; (try simp [push_cast, -List.map_take, -List.map_drop, recAV, frzS, s0, s1, s2, s3, s4, s5, s6, s7, hd']); try simp (disch := omega) only [i64_in, u64_in, shr64i])
        | (with_reducible refine W_condW ?_; (try simp [AS.val, upd, resB, mkS_env, mkS_box, lk, entry_env, condW_true, condW_false, recAV, frzS, s0, s1, s2, s3, s4, s5, s6, s7, hd']))
        | with_reducible refine optK_dV (by first | omega | (simp; omega)) ?_
        | with_reducible refine optK_dVh (by omega) ?_
        | refine And.intro (by first | omega | kernel_rfl) ?_
        | (with_reducible refine condW_b (fun hc => ?_) (fun hc => ?_) <;> (try simp [Int.ofNat_inj] at hc) <;> try contradiction)
        | fail)
      simp [post, resAV, resAll, resOne, closeV, closeC, closeL, resD, resDL, push_cast, -List.map_take, -List.map_drop, recAV]
      all_goals first | (simp [refR, s7, s0, s1, s2, s3, s4, s5, s6, hd]; done) | (simp [refR, s7, s0, s1, s2, s3, s4, s5, s6, hd]; omega) | (rw [Bool.eq_iff_iff]; simp [refR, s7, s0, s1, s2, s3, s4, s5, s6, hd]; omega) | (cases b <;> simp [refR, s7, s0, s1, s2, s3, s4, s5, s6, hd] <;> omega)
  replace s7 : inB [27, 28] k = false := by simpa using s7
  by_cases s8 : ((k.toNat : Int) == 3) = true
  · by_cases hd : d.toNat = 5
    · have hd' : ((d.toNat : Int) == 5) = true := by simp [hd]
      repeat' (first
        | with_reducible first | refine thenW_n ?_ | refine thenW_ret ?_ | refine thenW_exit ?_ | refine thenW_panic ?_ | refine blockW_n ?_ | refine blockW_same ?_ | refine blockW_ret ?_ | refine blockW_panic ?_ | refine loopW_ret ?_ | refine loopW_exit ?_ | refine loopW_panic ?_ | refine joinW_ret ?_ | refine joinW_exit ?_ | refine joinW_panic ?_ | refine W_seq ?_ | refine W_block ?_ | refine W_skip ?_ | refine W_ret ?_ | refine W_exit ?_ | refine W_label ?_
        | with_reducible refine blockW_other (by decide) ?_
        | with_reducible refine W_region (by first | decide | (with_unfolding_all rfl)) ?_
        | (rw [vcn]; (try simp [push_cast, -List.map_take, -List.map_drop, recAV, frzS, s0, s1, s2, s3, s4, s5, s6, s7, s8, hd']); try simp (disch := omega) only [i64_in, u64_in, shr64i])
        | with_reducible refine W_drawn mixed (by decide) (by kernel_rfl) ?_
        | (rw [vcnD]; (try simp [push_cast, -List.map_take, -List.map_drop, recAV, frzS, s0, s1, s2, s3, s4, s5, s6, s7, s8, hd']); try simp (disch := omega) only [i64_in, u64_in, shr64i])
        | (with_reducible refine W_condW ?_; (try simp [AS.val, upd, resB, mkS_env, mkS_box, lk, entry_env, condW_true, condW_false, recAV, frzS, s0, s1, s2, s3, s4, s5, s6, s7, s8, hd']))
        | with_reducible refine optK_dV (by first | omega | (simp; omega)) ?_
        | with_reducible refine optK_dVh (by omega) ?_
        | refine And.intro (by first | omega | kernel_rfl) ?_
        | (with_reducible refine condW_b (fun hc => ?_) (fun hc => ?_) <;> (try simp [Int.ofNat_inj] at hc) <;> try contradiction)
        | fail)
      simp [post, resAV, resAll, resOne, closeV, closeC, closeL, resD, resDL, push_cast, -List.map_take, -List.map_drop, recAV]
      all_goals first | (simp [refR, s8, s0, s1, s2, s3, s4, s5, s6, s7, hd]; done) | (simp [refR, s8, s0, s1, s2, s3, s4, s5, s6, s7, hd]; omega) | (rw [Bool.eq_iff_iff]; simp [refR, s8, s0, s1, s2, s3, s4, s5, s6, s7, hd]; omega) | (cases b <;> simp [refR, s8, s0, s1, s2, s3, s4, s5, s6, s7, hd] <;> omega)
    · have hd' : ((d.toNat : Int) == 5) = false := by simp; omega
      repeat' (first
        | with_reducible first | refine thenW_n ?_ | refine thenW_ret ?_ | refine thenW_exit ?_ | refine thenW_panic ?_ | refine blockW_n ?_ | refine blockW_same ?_ | refine blockW_ret ?_ | refine blockW_panic ?_ | refine loopW_ret ?_ | refine loopW_exit ?_ | refine loopW_panic ?_ | refine joinW_ret ?_ | refine joinW_exit ?_ | refine joinW_panic ?_ | refine W_seq ?_ | refine W_block ?_ | refine W_skip ?_ | refine W_ret ?_ | refine W_exit ?_ | refine W_label ?_
        | with_reducible refine blockW_other (by decide) ?_
        | with_reducible refine W_region (by first | decide | (with_unfolding_all rfl)) ?_
        | (rw [vcn]; (try simp [push_cast, -List.map_take, -List.map_drop, recAV, frzS, s0, s1, s2, s3, s4, s5, s6, s7, s8, hd']); try simp (disch := omega) only [i64_in, u64_in, shr64i])
        | with_reducible refine W_drawn mixed (by decide) (by kernel_rfl) ?_
        | (rw [vcnD]; (try simp [push_cast, -List.map_take, -List.map_drop, recAV, frzS, s0, s1, s2, s3, s4, s5, s6, s7, s8, hd']); try simp (disch := omega) only [i64_in, u64_in, shr64i])
        | (with_reducible refine W_condW ?_; (try simp [AS.val, upd, resB, mkS_env, mkS_box, lk, entry_env, condW_true, condW_false, recAV, frzS, s0, s1, s2, s3, s4, s5, s6, s7, s8, hd']))
        | with_reducible refine optK_dV (by first | omega | (simp; omega)) ?_
        | with_reducible refine optK_dVh (by omega) ?_
        | refine And.intro (by first | omega | kernel_rfl) ?_
        | (with_reducible refine condW_b (fun hc => ?_) (fun hc => ?_) <;> (try simp [Int.ofNat_inj] at hc) <;> try contradiction)
        | fail)
      simp [post, resAV, resAll, resOne, closeV, closeC, closeL, resD, resDL, push_cast, -List.map_take, -List.map_drop, recAV]
      all_goals first | (simp [refR, s8, s0, s1, s2, s3, s4, s5, s6, s7, hd]; done) | (simp [refR, s8, s0, s1, s2, s3, s4, s5, s6, s7, hd]; omega) | (rw [Bool.eq_iff_iff]; simp [refR, s8, s0, s1, s2, s3, s4, s5, s6, s7, hd]; omega) | (cases b <;> simp [refR, s8, s0, s1, s2, s3, s4, s5, s6, s7, hd] <;> omega)
  replace s8 : ((k.toNat : Int) == 3) = false := by simpa using s8
  repeat' (first
    | with_reducible first | refine thenW_n ?_ | refine thenW_ret ?_ | refine thenW_exit ?_ | refine thenW_panic ?_ | refine blockW_n ?_ | refine blockW_same ?_ | refine blockW_ret ?_ | refine blockW_panic ?_ | refine loopW_ret ?_ | refine loopW_exit ?_ | refine loopW_panic ?_ | refine joinW_ret ?_ | refine joinW_exit ?_ | refine joinW_panic ?_ | refine W_seq ?_ | refine W_block ?_ | refine W_skip ?_ | refine W_ret ?_ | refine W_exit ?_ | refine W_label ?_
    | with_reducible refine blockW_other (by decide) ?_
    | with_reducible refine W_region (by first | decide | (with_unfolding_all rfl)) ?_
    | (rw [vcn]; (try simp [push_cast, -List.map_take, -List.map_drop, recAV, frzS, s0, s1, s2, s3, s4, s5, s6, s7, s8]); try simp (disch := omega) only [i64_in, u64_in, shr64i])
    | with_reducible refine W_drawn mixed (by decide) (by kernel_rfl) ?_
    | (rw [vcnD]; (try simp [push_cast, -List.map_take, -List.map_drop, recAV, frzS, s0, s1, s2, s3, s4, s5, s6, s7, s8]); try simp (disch := omega) only [i64_in, u64_in, shr64i])
    | (with_reducible refine W_condW ?_; (try simp [AS.val, upd, resB, mkS_env, mkS_box, lk, entry_env, condW_true, condW_false, recAV, frzS, s0, s1, s2, s3, s4, s5, s6, s7, s8]))
    | with_reducible refine optK_dV (by first | omega | (simp; omega)) ?_
    | with_reducible refine optK_dVh (by omega) ?_
    | refine And.intro (by first | omega | kernel_rfl) ?_
    | (with_reducible refine condW_b (fun hc => ?_) (fun hc => ?_) <;> (try simp [Int.ofNat_inj] at hc) <;> try contradiction)
    | fail)
  refine CallG_frz _ _ rfl ?_ (among_ok k false [23, 26, 38, 52]) ?_ (by simp [AV.refs, refsL, push_cast, -List.map_take, -List.map_drop]) rfl ?_
  · first | (simp [refsL, AV.refs, frzS, resDL, resD, resB, upd, mkS_env, mkS_box, entry_env, entry_box, lk, push_cast, -List.map_take, -List.map_drop, recAV]; done) | (simp [refsL, AV.refs, frzS, resDL, resD, resB, upd, mkS_env, mkS_box, entry_env, entry_box, lk, push_cast, -List.map_take, -List.map_drop, recAV]; rw [List.take_of_length_le (by simp)]; done) | (simp [refsL, AV.refs, frzS, resDL, resD, resB, upd, mkS_env, mkS_box, entry_env, entry_box, lk, push_cast, -List.map_take, -List.map_drop, recAV]; fail_if_success done)
  · simp [refsL, AV.refs, frzOk, upd, mkS_env, mkS_box, entry_env, entry_box, lk, push_cast, -List.map_take, -List.map_drop]
  try dsimp only
  try simp only [refsL, AV.refs, frzS, List.append_nil, upd, mkS_box, entry_box, lk, if_true, if_false]
  by_cases s9 : inB [23, 26, 38, 52] k = true
  · by_cases hd : d.toNat = 1
    · have hd' : ((d.toNat : Int) == 1) = true := by simp [hd]
      repeat' (first
        | with_reducible first | refine thenW_n ?_ | refine thenW_ret ?_ | refine thenW_exit ?_ | refine thenW_panic ?_ | refine blockW_n ?_ | refine blockW_same ?_ | refine blockW_ret ?_ | refine blockW_panic ?_ | refine loopW_ret ?_ | refine loopW_exit ?_ | refine loopW_panic ?_ | refine joinW_ret ?_ | refine joinW_exit ?_ | refine joinW_panic ?_ | refine W_seq ?_ | refine W_block ?_ | refine W_skip ?_ | refine W_ret ?_ | refine W_exit ?_ | refine W_label ?_
        | with_reducible refine blockW_other (by decide) ?_
        | with_reducible refine W_region (by first | decide | (with_unfolding_all rfl)) ?_
        | (rw [vcn]; (try simp [push_cast, -List.map_take, -List.map_drop, recAV, frzS, s0, s1, s2, s3, s4, s5, s6, s7, s8, s9, hd']); try simp (disch := omega) only [i64_in, u64_in, shr64i])
        | with_reducible refine W_drawn mixed (by decide) (by kernel_rfl) ?_
        | (rw [vcnD]; (try simp [push_cast, -List.map_take, -List.map_drop, recAV, frzS, s0, s1, s2, s3, s4, s5, s6, s7, s8, s9, hd']); try simp (disch := omega) only [i64_in, u64_in, shr64i])
        | (with_reducible refine W_condW ?_; (try simp [AS.val, upd, resB, mkS_env, mkS_box, lk, entry_env, condW_true, condW_false, recAV, frzS, s0, s1, s2, s3, s4, s5, s6, s7, s8, s9, hd']))
        | with_reducible refine optK_dV (by first | omega | (simp; omega)) ?_
        | with_reducible refine optK_dVh (by omega) ?_
        | refine And.intro (by first | omega | kernel_rfl) ?_
        | (with_reducible refine condW_b (fun hc => ?_) (fun hc => ?_) <;> (try simp [Int.ofNat_inj] at hc) <;> try contradiction)
        | fail)
      simp [post, resAV, resAll, resOne, closeV, closeC, closeL, resD, resDL, push_cast, -List.map_take, -List.map_drop, recAV]
      all_goals first | (simp [refR, s9, s0, s1, s2, s3, s4, s5, s6, s7, s8, hd]; done) | (simp [refR, s9, s0, s1, s2, s3, s4, s5, s6, s7, s8, hd]; omega) | (rw [Bool.eq_iff_iff]; simp [refR, s9, s0, s1, s2, s3, s4, s5, s6, s7, s8, hd]; omega) | (cases b <;> simp [refR, s9, s0, s1, s2, s3, s4, s5, s6, s7, s8, hd] <;> omega)
    · have hd' : ((d.toNat : Int) == 1) = false := by simp; omega
      repeat' (first
        | with_reducible first | refine thenW_n ?_ | refine thenW_ret ?_ | refine thenW_exit ?_ | refine thenW_panic ?_ | refine blockW_n ?_ | refine blockW_same ?_ | refine blockW_ret ?_ | refine blockW_panic ?_ | refine loopW_ret ?_ | refine loopW_exit ?_ | refine loopW_panic ?_ | refine joinW_ret ?_ | refine joinW_exit ?_ | refine joinW_panic ?_ | refine W_seq ?_ | refine W_block ?_ | refine W_skip ?_ | refine W_ret ?_ | refine W_exit ?_ | refine W_label ?_
        | with_reducible refine blockW_other (by decide) ?_
        | with_reducible refine W_region (by first | decide | (with_unfolding_all rfl)) ?_
        | (rw [vcn]; (try simp [push_cast, -List.map_take, -List.map_drop, recAV, frzS, s0, s1, s2, s3, s4, s5, s6, s7, s8, s9, hd']); try simp (disch := omega) only [i64_in, u64_in, shr64i])
        | with_reducible refine W_drawn mixed (by decide) (by kernel_rfl) ?_
        | (rw [vcnD]; (try simp [push_cast, -List.map_take, -List.map_drop, recAV, frzS, s0, s1, s2, s3, s4, s5, s6, s7, s8, s9, hd']); try simp (disch := omega) only [i64_in, u64_in, shr64i])
        | (with_reducible refine W_condW ?_; (try simp [AS.val, upd, resB, mkS_env, mkS_box, lk, entry_env, condW_true, condW_false, recAV, frzS, s0, s1, s2, s3, s4, s5, s6, s7, s8, s9, hd']))
        | with_reducible refine optK_dV (by first | omega | (simp; omega)) ?_
        | with_reducible refine optK_dVh (by omega) ?_
        | refine And.intro (by first | omega | kernel_rfl) ?_
        | (with_reducible refine condW_b (fun hc => ?_) (fun hc => ?_) <;> (try simp [Int.ofNat_inj] at hc) <;> try contradiction)
        | fail)
      simp [post, resAV, resAll, resOne, closeV, closeC, closeL, resD, resDL, push_cast, -List.map_take, -List.map_drop, recAV]
      all_goals first | (simp [refR, s9, s0, s1, s2, s3, s4, s5, s6, s7, s8, hd]; done) | (simp [refR, s9, s0, s1, s2, s3, s4, s5, s6, s7, s8, hd]; omega) | (rw [Bool.eq_iff_iff]; simp [refR, s9, s0, s1, s2, s3, s4, s5, s6, s7, s8, hd]; omega) | (cases b <;> simp [refR, s9, s0, s1, s2, s3, s4, s5, s6, s7, s8, hd] <;> omega)
  replace s9 : inB [23, 26, 38, 52] k = false := by simpa using s9
  repeat' (first
    | with_reducible first | refine thenW_n ?_ | refine thenW_ret ?_ | refine thenW_exit ?_ | refine thenW_panic ?_ | refine blockW_n ?_ | refine blockW_same ?_ | refine blockW_ret ?_ | refine blockW_panic ?_ | refine loopW_ret ?_ | refine loopW_exit ?_ | refine loopW_panic ?_ | refine joinW_ret ?_ | refine joinW_exit ?_ | refine joinW_panic ?_ | refine W_seq ?_ | refine W_block ?_ | refine W_skip ?_ | refine W_ret ?_ | refine W_exit ?_ | refine W_label ?_
    | with_reducible refine blockW_other (by decide) ?_
    | with_reducible refine W_region (by first | decide | (with_unfolding_all rfl)) ?_
    | (rw [vcn]; (try simp [push_cast, -List.map_take, -List.map_drop, recAV, frzS, s0, s1, s2, s3, s4, s5, s6, s7, s8, s9]); try simp (disch := omega) only [i64_in, u64_in, shr64i])
    | with_reducible refine W_drawn mixed (by decide) (by kernel_rfl) ?_
    | (rw [vcnD]; (try simp [push_cast, -List.map_take, -List.map_drop, recAV, frzS, s0, s1, s2, s3, s4, s5, s6, s7, s8, s9]); try simp (disch := omega) only [i64_in, u64_in, shr64i])
    | (with_reducible refine W_condW ?_; (try simp [AS.val, upd, resB, mkS_env, mkS_box, lk, entry_env, condW_true, condW_false, recAV, frzS, s0, s1, s2, s3, s4, s5, s6, s7, s8, s9]))
    | with_reducible refine optK_dV (by first | omega | (simp; omega)) ?_
    | with_reducible refine optK_dVh (by omega) ?_
    | refine And.intro (by first | omega | kernel_rfl) ?_
    | (with_reducible refine condW_b (fun hc => ?_) (fun hc => ?_) <;> (try simp [Int.ofNat_inj] at hc) <;> try contradiction)
    | fail)
  refine CallG_frz _ _ rfl ?_ (among_ok k false [2, 25, 44, 55, 58]) ?_ (by simp [AV.refs, refsL, push_cast, -List.map_take, -List.map_drop]) rfl ?_
  · first | (simp [refsL, AV.refs, frzS, resDL, resD, resB, upd, mkS_env, mkS_box, entry_env, entry_box, lk, push_cast, -List.map_take, -List.map_drop, recAV]; done) | (simp [refsL, AV.refs, frzS, resDL, resD, resB, upd, mkS_env, mkS_box, entry_env, entry_box, lk, push_cast, -List.map_take, -List.map_drop, recAV]; rw [List.take_of_length_le (by simp)]; done) | (simp [refsL, AV.refs, frzS, resDL, resD, resB, upd, mkS_env, mkS_box, entry_env, entry_box, lk, push_cast, -List.map_take, -List.map_drop, recAV]; fail_if_success done)
  · simp [refsL, AV.refs, frzOk, upd, mkS_env, mkS_box, entry_env, entry_box, lk, push_cast, -List.map_take, -List.map_drop]
  try dsimp only
  try simp only [refsL, AV.refs, frzS, List.append_nil, upd, mkS_box, entry_box, lk, if_true, if_false]
  by_cases s10 : inB [2, 25, 44, 55, 58] k = true
  · by_cases hd : d.toNat = 6
    · have hd' : ((d.toNat : Int) == 6) = true := by simp [hd]
      repeat' (first
        | with_reducible first | refine thenW_n ?_ | refine thenW_ret ?_ | refine thenW_exit ?_ | refine thenW_panic ?_ | refine blockW_n ?_ | refine blockW_same ?_ | refine blockW_ret ?_ | refine blockW_panic ?_ | refine loopW_ret ?_ | refine loopW_exit ?_ | refine loopW_panic ?_ | refine joinW_ret ?_ | refine joinW_exit ?_ | refine joinW_panic ?_ | refine W_seq ?_ | refine W_block ?_ | refine W_skip ?_ | refine W_ret ?_ | refine W_exit ?_ | refine W_label ?_
        | with_reducible refine blockW_other (by decide) ?_
        | with_reducible refine W_region (by first | decide | (with_unfolding_all rfl)) ?_
        | (rw [vcn]; (try simp [push_cast, -List.map_take, -List.map_drop, recAV, frzS, s0, s1, s2, s3, s4, s5, s6, s7, s8, s9, s10, hd']); try simp (disch := omega) only [i64_in, u64_in, shr64i])
        | with_reducible refine W_drawn mixed (by decide) (by kernel_rfl) ?_
        | (rw [vcnD]; (try simp [push_cast, -List.map_take, -List.map_drop, recAV, frzS, s0, s1, s2, s3, s4, s5, s6, s7, s8, s9, s10, hd']); try simp (disch := omega) only [i64_in, u64_in, shr64i])
        | (with_reducible refine W_condW ?_; (try simp [AS.val, upd, resB, mkS_env, mkS_box, lk, entry_env, condW_true, condW_false, recAV, frzS, s0, s1, s2, s3, s4, s5, s6, s7, s8, s9, s10, hd']))
        | with_reducible refine optK_dV (by first | omega | (simp; omega)) ?_
        | with_reducible refine optK_dVh (by omega) ?_
        | refine And.intro (by first | omega | kernel_rfl) ?_
        | (with_reducible refine condW_b (fun hc => ?_) (fun hc => ?_) <;> (try simp [Int.ofNat_inj] at hc) <;> try contradiction)
        | fail)
      first | refine CallG_of (text_ok false b 512 false hb) (by first | rfl | (simp [natAV, numC, ← limbs.eq_1, push_cast, -List.map_take, -List.map_drop, recAV]; done)) (by simp [natAV, recAV, inB, AV.refs, refsL, push_cast, -List.map_take, -List.map_drop]) rfl ?_ | refine callD_of (text_ok false b 512 false hb) (by first | rfl | (simp [natAV, numC, ← limbs.eq_1, push_cast, -List.map_take, -List.map_drop, recAV]; done)) (by simp [natAV, recAV, inB, AV.refs, refsL, push_cast, -List.map_take, -List.map_drop]) rfl ?_
      try dsimp only
      repeat' (first
        | with_reducible first | refine thenW_n ?_ | refine thenW_ret ?_ | refine thenW_exit ?_ | refine thenW_panic ?_ | refine blockW_n ?_ | refine blockW_same ?_ | refine blockW_ret ?_ | refine blockW_panic ?_ | refine loopW_ret ?_ | refine loopW_exit ?_ | refine loopW_panic ?_ | refine joinW_ret ?_ | refine joinW_exit ?_ | refine joinW_panic ?_ | refine W_seq ?_ | refine W_block ?_ | refine W_skip ?_ | refine W_ret ?_ | refine W_exit ?_ | refine W_label ?_
        | with_reducible refine blockW_other (by decide) ?_
        | with_reducible refine W_region (by first | decide | (with_unfolding_all rfl)) ?_
        | (rw [vcn]; (try simp [push_cast, -List.map_take, -List.map_drop, recAV, frzS, s0, s1, s2, s3, s4, s5, s6, s7, s8, s9, s10, hd']); try simp (disch := omega) only [i64_in, u64_in, shr64i])
        | with_reducible refine W_drawn mixed (by decide) (by kernel_rfl) ?_
        | (rw [vcnD]; (try simp [push_cast, -List.map_take, -List.map_drop, recAV, frzS, s0, s1, s2, s3, s4, s5, s6, s7, s8, s9, s10, hd']); try simp (disch := omega) only [i64_in, u64_in, shr64i])
        | (with_reducible refine W_condW ?_; (try simp [AS.val, upd, resB, mkS_env, mkS_box, lk, entry_env, condW_true, condW_false, recAV, frzS, s0, s1, s2, s3, s4, s5, s6, s7, s8, s9, s10, hd']))
        | with_reducible refine optK_dV (by first | omega | (simp; omega)) ?_
        | with_reducible refine optK_dVh (by omega) ?_
        | refine And.intro (by first | omega | kernel_rfl) ?_
        | (with_reducible refine condW_b (fun hc => ?_) (fun hc => ?_) <;> (try simp [Int.ofNat_inj] at hc) <;> try contradiction)
        | fail)
      simp [post, resAV, resAll, resOne, closeV, closeC, closeL, resD, resDL, push_cast, -List.map_take, -List.map_drop, recAV]
      all_goals (simp [refR, s10, s0, s1, s2, s3, s4, s5, s6, s7, s8, s9, hd]; done)
    · have hd' : ((d.toNat : Int) == 6) = false := by simp; omega
      repeat' (first
        | with_reducible first | refine thenW_n ?_ | refine thenW_ret ?_ | refine thenW_exit ?_ | refine thenW_panic ?_ | refine blockW_n ?_ | refine blockW_same ?_ | refine blockW_ret ?_ | refine blockW_panic ?_ | refine loopW_ret ?_ | refine loopW_exit ?_ | refine loopW_panic ?_ | refine joinW_ret ?_ | refine joinW_exit ?_ | refine joinW_panic ?_ | refine W_seq ?_ | refine W_block ?_ | refine W_skip ?_ | refine W_ret ?_ | refine W_exit ?_ | refine W_label ?_
        | with_reducible refine blockW_other (by decide) ?_
        | with_reducible refine W_region (by first | decide | (with_unfolding_all rfl)) ?_
        | (rw [vcn]; (try simp [push_cast, -List.map_take, -List.map_drop, recAV, frzS, s0, s1, s2, s3, s4, s5, s6, s7, s8, s9, s10, hd']); try simp (disch := omega) only [i64_in, u64_in, shr64i])
        | with_reducible refine W_drawn mixed (by decide) (by kernel_rfl) ?_
        | (rw [vcnD]; (try simp [push_cast, -List.map_take, -List.map_drop, recAV, frzS, s0, s1, s2, s3, s4, s5, s6, s7, s8, s9, s10, hd']); try simp (disch := omega) only [i64_in, u64_in, shr64i])
        | (with_reducible refine W_condW ?_; (try simp [AS.val, upd, resB, mkS_env, mkS_box, lk, entry_env, condW_true, condW_false, recAV, frzS, s0, s1, s2, s3, s4, s5, s6, s7, s8, s9, s10, hd']))
        | with_reducible refine optK_dV (by first | omega | (simp; omega)) ?_
        | with_reducible refine optK_dVh (by omega) ?_
        | refine And.intro (by first | omega | kernel_rfl) ?_
        | (with_reducible refine condW_b (fun hc => ?_) (fun hc => ?_) <;> (try simp [Int.ofNat_inj] at hc) <;> try contradiction)
        | fail)
      simp [post, resAV, resAll, resOne, closeV, closeC, closeL, resD, resDL, push_cast, -List.map_take, -List.map_drop, recAV]
      all_goals first | (simp [refR, s10, s0, s1, s2, s3, s4, s5, s6, s7, s8, s9, hd]; done) | (simp [refR, s10, s0, s1, s2, s3, s4, s5, s6, s7, s8, s9, hd]; omega) | (rw [Bool.eq_iff_iff]; simp [refR, s10, s0, s1, s2, s3, s4, s5, s6, s7, s8, s9, hd]; omega) | (cases b <;> simp [refR, s10, s0, s1, s2, s3, s4, s5, s6, s7, s8, s9, hd] <;> omega)
  replace s10 : inB [2, 25, 44, 55, 58] k = false := by simpa using s10
  repeat' (first
    | with_reducible first | refine thenW_n ?_ | refine thenW_ret ?_ | refine thenW_exit ?_ | refine thenW_panic ?_ | refine blockW_n ?_ | refine blockW_same ?_ | refine blockW_ret ?_ | refine blockW_panic ?_ | refine loopW_ret ?_ | refine loopW_exit ?_ | refine loopW_panic ?_ | refine joinW_ret ?_ | refine joinW_exit ?_ | refine joinW_panic ?_ | refine W_seq ?_ | refine W_block ?_ | refine W_skip ?_ | refine W_ret ?_ | refine W_exit ?_ | refine W_label ?_
    | with_reducible refine blockW_other (by decide) ?_
    | with_reducible refine W_region (by first | decide | (with_unfolding_all rfl)) ?_
    | (rw [vcn]; (try simp [push_cast, -List.map_take, -List.map_drop, recAV, frzS, s0, s1, s2, s3, s4, s5, s6, s7, s8, s9, s10]); try simp (disch := omega) only [i64_in, u64_in, shr64i])
    | with_reducible refine W_drawn mixed (by decide) (by kernel_rfl) ?_
    | (rw [vcnD]; (try simp [push_cast, -List.map_take, -List.map_drop, recAV, frzS, s0, s1, s2, s3, s4, s5, s6, s7, s8, s9, s10]); try simp (disch := omega) only [i64_in, u64_in, shr64i])
    | (with_reducible refine W_condW ?_; (try simp [AS.val, upd, resB, mkS_env, mkS_box, lk, entry_env, condW_true, condW_false, recAV, frzS, s0, s1, s2, s3, s4, s5, s6, s7, s8, s9, s10]))
    | with_reducible refine optK_dV (by first | omega | (simp; omega)) ?_
    | with_reducible refine optK_dVh (by omega) ?_
    | refine And.intro (by first | omega | kernel_rfl) ?_
    | (with_reducible refine condW_b (fun hc => ?_) (fun hc => ?_) <;> (try simp [Int.ofNat_inj] at hc) <;> try contradiction)
    | fail)
  refine CallG_frz _ _ rfl ?_ (among_ok k false [6, 18]) ?_ (by simp [AV.refs, refsL, push_cast, -List.map_take, -List.map_drop]) rfl ?_
  · first | (simp [refsL, AV.refs, frzS, resDL, resD, resB, upd, mkS_env, mkS_box, entry_env, entry_box, lk, push_cast, -List.map_take, -List.map_drop, recAV]; done) | (simp [refsL, AV.refs, frzS, resDL, resD, resB, upd, mkS_env, mkS_box, entry_env, entry_box, lk, push_cast, -List.map_take, -List.map_drop, recAV]; rw [List.take_of_length_le (by simp)]; done) | (simp [refsL, AV.refs, frzS, resDL, resD, resB, upd, mkS_env, mkS_box, entry_env, entry_box, lk, push_cast, -List.map_take, -List.map_drop, recAV]; fail_if_success done)
  · simp [refsL, AV.refs, frzOk, upd, mkS_env, mkS_box, entry_env, entry_box, lk, push_cast, -List.map_take, -List.map_drop]
  try dsimp only
  try simp only [refsL, AV.refs, frzS, List.append_nil, upd, mkS_box, entry_box, lk, if_true, if_false]
  by_cases s11 : inB [6, 18] k = true
  · by_cases hd : d.toNat = 6
    · have hd' : ((d.toNat : Int) == 6) = true := by simp [hd]
      repeat' (first
        | with_reducible first | refine thenW_n ?_ | refine thenW_ret ?_ | refine thenW_exit ?_ | refine thenW_panic ?_ | refine blockW_n ?_ | refine blockW_same ?_ | refine blockW_ret ?_ | refine blockW_panic ?_ | refine loopW_ret ?_ | refine loopW_exit ?_ | refine loopW_panic ?_ | refine joinW_ret ?_ | refine joinW_exit ?_ | refine joinW_panic ?_ | refine W_seq ?_ | refine W_block ?_ | refine W_skip ?_ | refine W_ret ?_ | refine W_exit ?_ | refine W_label ?_
        | with_reducible refine blockW_other (by decide) ?_
        | with_reducible refine W_region (by first | decide | (with_unfolding_all rfl)) ?_
        | (rw [vcn]; (try simp [push_cast, -List.map_take, -List.map_drop, recAV, frzS, s0, s1, s2, s3, s4, s5, s6, s7, s8, s9, s10, s11, hd']); try simp (disch := omega) only [i64_in, u64_in, shr64i])
        | with_reducible refine W_drawn mixed (by decide) (by kernel_rfl) ?_
        | (rw [vcnD]; (try simp [push_cast, -List.map_take, -List.map_drop, recAV, frzS, s0, s1, s2, s3, s4, s5, s6, s7, s8, s9, s10, s11, hd']); try simp (disch := omega) only [i64_in, u64_in, shr64i])
        | (with_reducible refine W_condW ?_; (try simp [AS.val, upd, resB, mkS_env, mkS_box, lk, entry_env, condW_true, condW_false, recAV, frzS, s0, s1, s2, s3, s4, s5, s6, s7, s8, s9, s10, s11, hd']))
        | with_reducible refine optK_dV (by first | omega | (simp; omega)) ?_
        | with_reducible refine optK_dVh (by omega) ?_
        | refine And.intro (by first | omega | kernel_rfl) ?_
        | (with_reducible refine condW_b (fun hc => ?_) (fun hc => ?_) <;> (try simp [Int.ofNat_inj] at hc) <;> try contradiction)
        | fail)
      first | refine CallG_of (text_ok false b 32 true hb) (by first | rfl | (simp [natAV, numC, ← limbs.eq_1, push_cast, -List.map_take, -List.map_drop, recAV]; done)) (by simp [natAV, recAV, inB, AV.refs, refsL, push_cast, -List.map_take, -List.map_drop]) rfl ?_ | refine callD_of (text_ok false b 32 true hb) (by first | rfl | (simp [natAV, numC, ← limbs.eq_1, push_cast, -List.map_take, -List.map_drop, recAV]; done)) (by simp [natAV, recAV, inB, AV.refs, refsL, push_cast, -List.map_take, -List.map_drop]) rfl ?_
      try dsimp only
      repeat' (first
        | with_reducible first | refine thenW_n ?_ | refine thenW_ret ?_ | refine thenW_exit ?_ | refine thenW_panic ?_ | refine blockW_n ?_ | refine blockW_same ?_ | refine blockW_ret ?_ | refine blockW_panic ?_ | refine loopW_ret ?_ | refine loopW_exit ?_ | refine loopW_panic ?_ | refine joinW_ret ?_ | refine joinW_exit ?_ | refine joinW_panic ?_ | refine W_seq ?_ | refine W_block ?_ | refine W_skip ?_ | refine W_ret ?_ | refine W_exit ?_ | refine W_label ?_
        | with_reducible refine blockW_other (by decide) ?_
        | with_reducible refine W_region (by first | decide | (with_unfolding_all rfl)) ?_
        | (rw [vcn]; (try simp [push_cast, -List.map_take, -List.map_drop, recAV, frzS, s0, s1, s2, s3, s4, s5, s6, s7, s8, s9, s10, s11, hd']); try simp (disch := omega) only [i64_in, u64_in, shr64i])
        | with_reducible refine W_drawn mixed (by decide) (by kernel_rfl) ?_
        | (rw [vcnD]; (try simp [push_cast, -List.map_take, -List.map_drop, recAV, frzS, s0, s1, s2, s3, s4, s5, s6, s7, s8, s9, s10, s11, hd']); try simp (disch := omega) only [i64_in, u64_in, shr64i])
        | (with_reducible refine W_condW ?_; (try simp [AS.val, upd, resB, mkS_env, mkS_box, lk, entry_env, condW_true, condW_false, recAV, frzS, s0, s1, s2, s3, s4, s5, s6, s7, s8, s9, s10, s11, hd']))
        | with_reducible refine optK_dV (by first | omega | (simp; omega)) ?_
        | with_reducible refine optK_dVh (by omega) ?_
        | refine And.intro (by first | omega | kernel_rfl) ?_
        | (with_reducible refine condW_b (fun hc => ?_) (fun hc => ?_) <;> (try simp [Int.ofNat_inj] at hc) <;> try contradiction)
        | fail)
      simp [post, resAV, resAll, resOne, closeV, closeC, closeL, resD, resDL, push_cast, -List.map_take, -List.map_drop, recAV]
      all_goals (simp [refR, s11, s0, s1, s2, s3, s4, s5, s6, s7, s8, s9, s10, hd]; done)
    · have hd' : ((d.toNat : Int) == 6) = false := by simp; omega
      repeat' (first
        | with_reducible first | refine thenW_n ?_ | refine thenW_ret ?_ | refine thenW_exit ?_ | refine thenW_panic ?_ | refine blockW_n ?_ | refine blockW_same ?_ | refine blockW_ret ?_ | refine blockW_panic ?_ | refine loopW_ret ?_ | refine loopW_exit ?_ | refine loopW_panic ?_ | refine joinW_ret ?_ | refine joinW_exit ?_ | refine joinW_panic ?_ | refine W_seq ?_ | refine W_block ?_ | refine W_skip ?_ | refine W_ret ?_ | refine W_exit ?_ | refine W_label ?_
        | with_reducible refine blockW_other (by decide) ?_
        | with_reducible refine W_region (by first | decide | (with_unfolding_all rfl)) ?_
        | (rw [vcn]; (try simp [push_cast, -List.map_take, -List.map_drop, recAV, frzS, s0, s1, s2, s3, s4, s5, s6, s7, s8, s9, s10, s11, hd']); try simp (disch := omega) only [i64_in, u64_in, shr64i])
        | with_reducible refine W_drawn mixed (by decide) (by kernel_rfl) ?_
        | (rw [vcnD]; (try simp [push_cast, -List.map_take, -List.map_drop, recAV, frzS, s0, s1, s2, s3, s4, s5, s6, s7, s8, s9, s10, s11, hd']); try simp (disch := omega) only [i64_in, u64_in, shr64i])
        | (with_reducible refine W_condW ?_; (try simp [AS.val, upd, resB, mkS_env, mkS_box, lk, entry_env, condW_true, condW_false, recAV, frzS, s0, s1, s2, s3, s4, s5, s6, s7, s8, s9, s10, s11, hd']))
        | with_reducible refine optK_dV (by first | omega | (simp; omega)) ?_
        | with_reducible refine optK_dVh (by omega) ?_
        | refine And.intro (by first | omega | kernel_rfl) ?_
        | (with_reducible refine condW_b (fun hc => ?_) (fun hc => ?_) <;> (try simp [Int.ofNat_inj] at hc) <;> try contradiction)
        | fail)
      simp [post, resAV, resAll, resOne, closeV, closeC, closeL, resD, resDL, push_cast, -List.map_take, -List.map_drop, recAV]
      all_goals first | (simp [refR, s11, s0, s1, s2, s3, s4, s5, s6, s7, s8, s9, s10, hd]; done) | (simp [refR, s11, s0, s1, s2, s3, s4, s5, s6, s7, s8, s9, s10, hd]; omega) | (rw [Bool.eq_iff_iff]; simp [refR, s11, s0, s1, s2, s3, s4, s5, s6, s7, s8, s9, s10, hd]; omega) | (cases b <;> simp [refR, s11, s0, s1, s2, s3, s4, s5, s6, s7, s8, s9, s10, hd] <;> omega)
  replace s11 : inB [6, 18] k = false := by simpa using s11
  by_cases s12 : ((k.toNat : Int) == 35) = true
  · by_cases hd : d.toNat = 6
    · have hd' : ((d.toNat : Int) == 6) = true := by simp [hd]
      repeat' (first
        | with_reducible first | refine thenW_n ?_ | refine thenW_ret ?_ | refine thenW_exit ?_ | refine thenW_panic ?_ | refine blockW_n ?_ | refine blockW_same ?_ | refine blockW_ret ?_ | refine blockW_panic ?_ | refine loopW_ret ?_ | refine loopW_exit ?_ | refine loopW_panic ?_ | refine joinW_ret ?_ | refine joinW_exit ?_ | refine joinW_panic ?_ | refine W_seq ?_ | refine W_block ?_ | refine W_skip ?_ | refine W_ret ?_ | refine W_exit ?_ | refine W_label ?_
        | with_reducible refine blockW_other (by decide) ?_
        | with_reducible refine W_region (by first | decide | (with_unfolding_all rfl)) ?_
        | (rw [vcn]; (try simp [push_cast, -List.map_take, -List.map_drop, recAV, frzS, s0, s1, s2, s3, s4, s5, s6, s7, s8, s9, s10, s11, s12, hd']); try simp (disch := omega) only [i64_in, u64_in, shr64i])
        | with_reducible refine W_drawn mixed (by decide) (by kernel_rfl) ?_
        | (rw [vcnD]; (try simp [push_cast, -List.map_take, -List.map_drop, recAV, frzS, s0, s1, s2, s3, s4, s5, s6, s7, s8, s9, s10, s11, s12, hd']); try simp (disch := omega) only [i64_in, u64_in, shr64i])
        | (with_reducible refine W_condW ?_; (try simp [AS.val, upd, resB, mkS_env, mkS_box, lk, entry_env, condW_true, condW_false, recAV, frzS, s0, s1, s2, s3, s4, s5, s6, s7, s8, s9, s10, s11, s12, hd']))
        | with_reducible refine optK_dV (by first | omega | (simp; omega)) ?_
        | with_reducible refine optK_dVh (by omega) ?_
        | refine And.intro (by first | omega | kernel_rfl) ?_
        | (with_reducible refine condW_b (fun hc => ?_) (fun hc => ?_) <;> (try simp [Int.ofNat_inj] at hc) <;> try contradiction)
        | fail)
      simp [post, resAV, resAll, resOne, closeV, closeC, closeL, resD, resDL, push_cast, -List.map_take, -List.map_drop, recAV]
      all_goals first | (simp [refR, s12, s0, s1, s2, s3, s4, s5, s6, s7, s8, s9, s10, s11, hd]; done) | (simp [refR, s12, s0, s1, s2, s3, s4, s5, s6, s7, s8, s9, s10, s11, hd]; omega) | (rw [Bool.eq_iff_iff]; simp [refR, s12, s0, s1, s2, s3, s4, s5, s6, s7, s8, s9, s10, s11, hd]; omega) | (cases b <;> simp [refR, s12, s0, s1, s2, s3, s4, s5, s6, s7, s8, s9, s10, s11, hd] <;> omega)
    · have hd' : ((d.toNat : Int) == 6) = false := by simp; omega
      repeat' (first
        | with_reducible first | refine thenW_n ?_ | refine thenW_ret ?_ | refine thenW_exit ?_ | refine thenW_panic ?_ | refine blockW_n ?_ | refine blockW_same ?_ | refine blockW_ret ?_ | refine blockW_panic ?_ | refine loopW_ret ?_ | refine loopW_exit ?_ | refine loopW_panic ?_ | refine joinW_ret ?_ | refine joinW_exit ?_ | refine joinW_panic ?_ | refine W_seq ?_ | refine W_block ?_ | refine W_skip ?_ | refine W_ret ?_ | refine W_exit ?_ | refine W_label ?_
        | with_reducible refine blockW_other (by decide) ?_
        | with_reducible refine W_region (by first | decide | (with_unfolding_all rfl)) ?_
        | (rw [vcn]; (try simp [push_cast, -List.map_take, -List.map_drop, recAV, frzS, s0, s1, s2, s3, s4, s5, s6, s7, s8, s9, s10, s11, s12, hd']); try simp (disch := omega) only [i64_in, u64_in, shr64i])
        | with_reducible refine W_drawn mixed (by decide) (by kernel_rfl) ?_
        | (rw [vcnD]; (try simp [push_cast, -List.map_take, -List.map_drop, recAV, frzS, s0, s1, s2, s3, s4, s5, s6, s7, s8, s9, s10, s11, s12, hd']); try simp (disch := omega) only [i64_in, u64_in, shr64i])
        | (with_reducible refine W_condW ?_; (try simp [AS.val, upd, resB, mkS_env, mkS_box, lk, entry_env, condW_true, condW_false, recAV, frzS, s0, s1, s2, s3, s4, s5, s6, s7, s8, s9, s10, s11, s12, hd']))
        | with_reducible refine optK_dV (by first | omega | (simp; omega)) ?_
        | with_reducible refine optK_dVh (by omega) ?_
        | refine And.intro (by first | omega | kernel_rfl) ?_
        | (with_reducible refine condW_b (fun hc => ?_) (fun hc => ?_) <;> (try simp [Int.ofNat_inj] at hc) <;> try contradiction)
        | fail)
      simp [post, resAV, resAll, resOne, closeV, closeC, closeL, resD, resDL, push_cast, -List.map_take, -List.map_drop, recAV]
      all_goals first | (simp [refR, s12, s0, s1, s2, s3, s4, s5, s6, s7, s8, s9, s10, s11, hd]; done) | (simp [refR, s12, s0, s1, s2, s3, s4, s5, s6, s7, s8, s9, s10, s11, hd]; omega) | (rw [Bool.eq_iff_iff]; simp [refR, s12, s0, s1, s2, s3, s4, s5, s6, s7, s8, s9, s10, s11, hd]; omega) | (cases b <;> simp [refR, s12, s0, s1, s2, s3, s4, s5, s6, s7, s8, s9, s10, s11, hd] <;> omega)
  replace s12 : ((k.toNat : Int) == 35) = false := by simpa using s12
  by_cases s13 : ((k.toNat : Int) == 32) = true
  · by_cases hd : d.toNat = 6
    · have hd' : ((d.toNat : Int) == 6) = true := by simp [hd]
      repeat' (first
        | with_reducible first | refine thenW_n ?_ | refine thenW_ret ?_ | refine thenW_exit ?_ | refine thenW_panic ?_ | refine blockW_n ?_ | refine blockW_same ?_ | refine blockW_ret ?_ | refine blockW_panic ?_ | refine loopW_ret ?_ | refine loopW_exit ?_ | refine loopW_panic ?_ | refine joinW_ret ?_ | refine joinW_exit ?_ | refine joinW_panic ?_ | refine W_seq ?_ | refine W_block ?_ | refine W_skip ?_ | refine W_ret ?_ | refine W_exit ?_ | refine W_label ?_
        | with_reducible refine blockW_other (by decide) ?_
        | with_reducible refine W_region (by first | decide | (with_unfolding_all rfl)) ?_
        | (rw [vcn]; (try simp [push_cast, -List.map_take, -List.map_drop, recAV, frzS, s0, s1, s2, s3, s4, s5, s6, s7, s8, s9, s10, s11, s12, s13, hd']); try simp (disch := omega) only [i64_in, u64_in, shr64i])
        | with_reducible refine W_drawn mixed (by decide) (by kernel_rfl) ?_
        | (rw [vcnD]; (try simp [push_cast, -List.map_take, -List.map_drop, recAV, frzS, s0, s1, s2, s3, s4, s5, s6, s7, s8, s9, s10, s11, s12, s13, hd']); try simp (disch := omega) only [i64_in, u64_in, shr64i])
        | (with_reducible refine W_condW ?_; (try simp [AS.val, upd, resB, mkS_env, mkS_box, lk, entry_env, condW_true, condW_false, recAV, frzS, s0, s1, s2, s3, s4, s5, s6, s7, s8, s9, s10, s11, s12, s13, hd']))
        | with_reducible refine optK_dV (by first | omega | (simp; omega)) ?_
        | with_reducible refine optK_dVh (by omega) ?_
        | refine And.intro (by first | omega | kernel_rfl) ?_
        | (with_reducible refine condW_b (fun hc => ?_) (fun hc => ?_) <;> (try simp [Int.ofNat_inj] at hc) <;> try contradiction)
        | fail)
      simp [post, resAV, resAll, resOne, closeV, closeC, closeL, resD, resDL, push_cast, -List.map_take, -List.map_drop, recAV]
      all_goals first | (simp [refR, s13, s0, s1, s2, s3, s4, s5, s6, s7, s8, s9, s10, s11, s12, hd]; done) | (simp [refR, s13, s0, s1, s2, s3, s4, s5, s6, s7, s8, s9, s10, s11, s12, hd]; omega) | (rw [Bool.eq_iff_iff]; simp [refR, s13, s0, s1, s2, s3, s4, s5, s6, s7, s8, s9, s10, s11, s12, hd]; omega) | (cases b <;> simp [refR, s13, s0, s1, s2, s3, s4, s5, s6, s7, s8, s9, s10, s11, s12, hd] <;> omega)
    · have hd' : ((d.toNat : Int) == 6) = false := by simp; omega
      repeat' (first
        | with_reducible first | refine thenW_n ?_ | refine thenW_ret ?_ | refine thenW_exit ?_ | refine thenW_panic ?_ | refine blockW_n ?_ | refine blockW_same ?_ | refine blockW_ret ?_ | refine blockW_panic ?_ | refine loopW_ret ?_ | refine loopW_exit ?_ | refine loopW_panic ?_ | refine joinW_ret ?_ | refine joinW_exit ?_ | refine joinW_panic ?_ | refine W_seq ?_ | refine W_block ?_ | refine W_skip ?_ | refine W_ret ?_ | refine W_exit ?_ | refine W_label ?_
        | with_reducible refine blockW_other (by decide) ?_
        | with_reducible refine W_region (by first | decide | (with_unfolding_all rfl)) ?_
        | (rw [vcn]; (try simp [push_cast, -List.map_take, -List.map_drop, recAV, frzS, s0, s1, s2, s3, s4, s5, s6, s7, s8, s9, s10, s11, s12, s13, hd']); try simp (disch := omega) only [i64_in, u64_in, shr64i])
        | with_reducible refine W_drawn mixed (by decide) (by kernel_rfl) ?_
        | (rw [vcnD]; (try simp [push_cast, -List.map_take, -List.map_drop, recAV, frzS, s0, s1, s2, s3, s4, s5, s6, s7, s8, s9, s10, s11, s12, s13, hd']); try simp (disch := omega) only [i64_in, u64_in, shr64i])
        | (with_reducible refine W_condW ?_; (try simp [AS.val, upd, resB, mkS_env, mkS_box, lk, entry_env, condW_true, condW_false, recAV, frzS, s0, s1, s2, s3, s4, s5, s6, s7, s8, s9, s10, s11, s12, s13, hd']))
        | with_reducible refine optK_dV (by first | omega | (simp; omega)) ?_
        | with_reducible refine optK_dVh (by omega) ?_
        | refine And.intro (by first | omega | kernel_rfl) ?_
        | (with_reducible refine condW_b (fun hc => ?_) (fun hc => ?_) <;> (try simp [Int.ofNat_inj] at hc) <;> try contradiction)
        | fail)
      simp [post, resAV, resAll, resOne, closeV, closeC, closeL, resD, resDL, push_cast, -List.map_take, -List.map_drop, recAV]
      all_goals first | (simp [refR, s13, s0, s1, s2, s3, s4, s5, s6, s7, s8, s9, s10, s11, s12, hd]; done) | (simp [refR, s13, s0, s1, s2, s3, s4, s5, s6, s7, s8, s9, s10, s11, s12, hd]; omega) | (rw [Bool.eq_iff_iff]; simp [refR, s13, s0, s1, s2, s3, s4, s5, s6, s7, s8, s9, s10, s11, s12, hd]; omega) | (cases b <;> simp [refR, s13, s0, s1, s2, s3, s4, s5, s6, s7, s8, s9, s10, s11, s12, hd] <;> omega)
  replace s13 : ((k.toNat : Int) == 32) = false := by simpa using s13
  by_cases s14 : ((k.toNat : Int) == 31) = true
  · by_cases hd : d.toNat = 6
    · have hd' : ((d.toNat : Int) == 6) = true := by simp [hd]
      have hm : ((b.length : Int).tmod 44) = ((b.length % 44 : Nat) : Int) := by rw [Int.ofNat_tmod]; rfl
      by_cases h1 : b.length % 44 = 0
      · by_cases h2 : 44 ≤ b.length
        · have h2' : (44 : Int) ≤ (b.length : Int) := by omega
          repeat' (first
            | with_reducible first | refine thenW_n ?_ | refine thenW_ret ?_ | refine thenW_exit ?_ | refine thenW_panic ?_ | refine blockW_n ?_ | refine blockW_same ?_ | refine blockW_ret ?_ | refine blockW_panic ?_ | refine loopW_ret ?_ | refine loopW_exit ?_ | refine loopW_panic ?_ | refine joinW_ret ?_ | refine joinW_exit ?_ | refine joinW_panic ?_ | refine W_seq ?_ | refine W_block ?_ | refine W_skip ?_ | refine W_ret ?_ | refine W_exit ?_ | refine W_label ?_
            | with_reducible refine blockW_other (by decide) ?_
            | with_reducible refine W_region (by first | decide | (with_unfolding_all rfl)) ?_
            | (rw [vcn]; (try simp [push_cast, -List.map_take, -List.map_drop, recAV, frzS, s0, s1, s2, s3, s4, s5, s6, s7, s8, s9, s10, s11, s12, s13, s14, hd', hm, h1, h2', h2]); try simp (disch := omega) only [i64_in, u64_in, shr64i])
            | with_reducible refine W_drawn mixed (by decide) (by kernel_rfl) ?_
            | (rw [vcnD]; (try simp [push_cast, -List.map_take, -List.map_drop, recAV, frzS, s0, s1, s2, s3, s4, s5, s6, s7, s8, s9, s10, s11, s12, s13, s14, hd', hm, h1, h2', h2]); try simp (disch := omega) only [i64_in, u64_in, shr64i])
            | (with_reducible refine W_condW ?_; (try simp [AS.val, upd, resB, mkS_env, mkS_box, lk, entry_env, condW_true, condW_false, recAV, frzS, s0, s1, s2, s3, s4, s5, s6, s7, s8, s9, s10, s11, s12, s13, s14, hd', hm, h1, h2', h2]))
            | with_reducible refine optK_dV (by first | omega | (simp; omega)) ?_
            | with_reducible refine optK_dVh (by omega) ?_
            | refine And.intro (by first | omega | kernel_rfl) ?_
            | (with_reducible refine condW_b (fun hc => ?_) (fun hc => ?_) <;> (try simp [Int.ofNat_inj] at hc) <;> try contradiction)
            | fail)
          simp [post, resAV, resAll, resOne, closeV, closeC, closeL, resD, resDL, push_cast, -List.map_take, -List.map_drop, recAV]
          all_goals first | (simp [refR, s14, s0, s1, s2, s3, s4, s5, s6, s7, s8, s9, s10, s11, s12, s13, hd, h1, h2]; done) | (simp [refR, s14, s0, s1, s2, s3, s4, s5, s6, s7, s8, s9, s10, s11, s12, s13, hd, h1, h2]; omega) | (rw [Bool.eq_iff_iff]; simp [refR, s14, s0, s1, s2, s3, s4, s5, s6, s7, s8, s9, s10, s11, s12, s13, hd, h1, h2]; omega) | (cases b <;> simp [refR, s14, s0, s1, s2, s3, s4, s5, s6, s7, s8, s9, s10, s11, s12, s13, hd, h1, h2] <;> omega)
        · have h2' : ¬ (44 : Int) ≤ (b.length : Int) := by omega
          repeat' (first
            | with_reducible first | refine thenW_n ?_ | refine thenW_ret ?_ | refine thenW_exit ?_ | refine thenW_panic ?_ | refine blockW_n ?_ | refine blockW_same ?_ | refine blockW_ret ?_ | refine blockW_panic ?_ | refine loopW_ret ?_ | refine loopW_exit ?_ | refine loopW_panic ?_ | refine joinW_ret ?_ | refine joinW_exit ?_ | refine joinW_panic ?_ | refine W_seq ?_ | refine W_block ?_ | refine W_skip ?_ | refine W_ret ?_ | refine W_exit ?_ | refine W_label ?_
            | with_reducible refine blockW_other (by decide) ?_
            | with_reducible refine W_region (by first | decide | (with_unfolding_all rfl)) ?_
            | (rw [vcn]; (try simp [push_cast, -List.map_take, -List.map_drop, recAV, frzS, s0, s1, s2, s3, s4, s5, s6, s7, s8, s9, s10, s11, s12, s13, s14, hd', hm, h1, h2', h2]); try simp (disch := omega) only [i64_in, u64_in, shr64i])
            | with_reducible refine W_drawn mixed (by decide) (by kernel_rfl) ?_
            | (rw [vcnD]; (try simp [push_cast, -List.map_take, -List.map_drop, recAV, frzS, s0, s1, s2, s3, s4, s5, s6, s7, s8, s9, s10, s11, s12, s13, s14, hd', hm, h1, h2', h2]); try simp (disch := omega) only [i64_in, u64_in, shr64i])
            | (with_reducible refine W_condW ?_; (try simp [AS.val, upd, resB, mkS_env, mkS_box, lk, entry_env, condW_true, condW_false, recAV, frzS, s0, s1, s2, s3, s4, s5, s6, s7, s8, s9, s10, s11, s12, s13, s14, hd', hm, h1, h2', h2]))
            | with_reducible refine optK_dV (by first | omega | (simp; omega)) ?_
            | with_reducible refine optK_dVh (by omega) ?_
            | refine And.intro (by first | omega | kernel_rfl) ?_
            | (with_reducible refine condW_b (fun hc => ?_) (fun hc => ?_) <;> (try simp [Int.ofNat_inj] at hc) <;> try contradiction)
            | fail)
          simp [post, resAV, resAll, resOne, closeV, closeC, closeL, resD, resDL, push_cast, -List.map_take, -List.map_drop, recAV]
          all_goals first | (simp [refR, s14, s0, s1, s2, s3, s4, s5, s6, s7, s8, s9, s10, s11, s12, s13, hd, h1, h2]; done) | (simp [refR, s14, s0, s1, s2, s3, s4, s5, s6, s7, s8, s9, s10, s11, s12, s13, hd, h1, h2]; omega) | (rw [Bool.eq_iff_iff]; simp [refR, s14, s0, s1, s2, s3, s4, s5, s6, s7, s8, s9, s10, s11, s12, s13, hd, h1, h2]; omega) | (cases b <;> simp [refR, s14, s0, s1, s2, s3, s4, s5, s6, s7, s8, s9, s10, s11, s12, s13, hd, h1, h2] <;> omega)
      · have h1' : (b.length % 44 = 0) = False := by simp; omega
        have h1x : ((b.length : Int) % 44 = 0) = False := by simp; omega
        repeat' (first
          | with_reducible first | refine thenW_n ?_ | refine thenW_ret ?_ | refine thenW_exit ?_ | refine thenW_panic ?_ | refine blockW_n ?_ | refine blockW_same ?_ | refine blockW_ret ?_ | refine blockW_panic ?_ | refine loopW_ret ?_ | refine loopW_exit ?_ | refine loopW_panic ?_ | refine joinW_ret ?_ | refine joinW_exit ?_ | refine joinW_panic ?_ | refine W_seq ?_ | refine W_block ?_ | refine W_skip ?_ | refine W_ret ?_ | refine W_exit ?_ | refine W_label ?_
          | with_reducible refine blockW_other (by decide) ?_
          | with_reducible refine W_region (by first | decide | (with_unfolding_all rfl)) ?_
          | (rw [vcn]; (try simp [push_cast, -List.map_take, -List.map_drop, recAV, frzS, s0, s1, s2, s3, s4, s5, s6, s7, s8, s9, s10, s11, s12, s13, s14, hd', hm, h1', h1x, h1]); try simp (disch := omega) only [i64_in, u64_in, shr64i])
          | with_reducible refine W_drawn mixed (by decide) (by kernel_rfl) ?_
          | (rw [vcnD]; (try simp [push_cast, -List.map_take, -List.map_drop, recAV, frzS, s0, s1, s2, s3, s4, s5, s6, s7, s8, s9, s10, s11, s12, s13, s14, hd', hm, h1', h1x, h1]); try simp (disch := omega) only [i64_in, u64_in, shr64i])
          | (with_reducible refine W_condW ?_; (try simp [AS.val, upd, resB, mkS_env, mkS_box, lk, entry_env, condW_true, condW_false, recAV, frzS, s0, s1, s2, s3, s4, s5, s6, s7, s8, s9, s10, s11, s12, s13, s14, hd', hm, h1', h1x, h1]))
          | with_reducible refine optK_dV (by first | omega | (simp; omega)) ?_
          | with_reducible refine optK_dVh (by omega) ?_
          | refine And.intro (by first | omega | kernel_rfl) ?_
          | (with_reducible refine condW_b (fun hc => ?_) (fun hc => ?_) <;> (try simp [Int.ofNat_inj] at hc) <;> try contradiction)
          | fail)
        simp [post, resAV, resAll, resOne, closeV, closeC, closeL, resD, resDL, push_cast, -List.map_take, -List.map_drop, recAV]
        all_goals first | (simp [refR, s14, s0, s1, s2, s3, s4, s5, s6, s7, s8, s9, s10, s11, s12, s13, hd, h1]; done) | (simp [refR, s14, s0, s1, s2, s3, s4, s5, s6, s7, s8, s9, s10, s11, s12, s13, hd, h1]; omega) | (rw [Bool.eq_iff_iff]; simp [refR, s14, s0, s1, s2, s3, s4, s5, s6, s7, s8, s9, s10, s11, s12, s13, hd, h1]; omega) | (cases b <;> simp [refR, s14, s0, s1, s2, s3, s4, s5, s6, s7, s8, s9, s10, s11, s12, s13, hd, h1] <;> omega)
    · have hd' : ((d.toNat : Int) == 6) = false := by simp; omega
      repeat' (first
        | with_reducible first | refine thenW_n ?_ | refine thenW_ret ?_ | refine thenW_exit ?_ | refine thenW_panic ?_ | refine blockW_n ?_ | refine blockW_same ?_ | refine blockW_ret ?_ | refine blockW_panic ?_ | refine loopW_ret ?_ | refine loopW_exit ?_ | refine loopW_panic ?_ | refine joinW_ret ?_ | refine joinW_exit ?_ | refine joinW_panic ?_ | refine W_seq ?_ | refine W_block ?_ | refine W_skip ?_ | refine W_ret ?_ | refine W_exit ?_ | refine W_label ?_
        | with_reducible refine blockW_other (by decide) ?_
        | with_reducible refine W_region (by first | decide | (with_unfolding_all rfl)) ?_
        | (rw [vcn]; (try simp [push_cast, -List.map_take, -List.map_drop, recAV, frzS, s0, s1, s2, s3, s4, s5, s6, s7, s8, s9, s10, s11, s12, s13, s14, hd']); try simp (disch := omega) only [i64_in, u64_in, shr64i])
        | with_reducible refine W_drawn mixed (by decide) (by kernel_rfl) ?_
        | (rw [vcnD]; (try simp [push_cast, -List.map_take, -List.map_drop, recAV, frzS, s0, s1, s2, s3, s4, s5, s6, s7, s8, s9, s10, s11, s12, s13, s14, hd']); try simp (disch := omega) only [i64_in, u64_in, shr64i])
        | (with_reducible refine W_condW ?_; (try simp [AS.val, upd, resB, mkS_env, mkS_box, lk, entry_env, condW_true, condW_false, recAV, frzS, s0, s1, s2, s3, s4, s5, s6, s7, s8, s9, s10, s11, s12, s13, s14, hd']))
        | with_reducible refine optK_dV (by first | omega | (simp; omega)) ?_
        | with_reducible refine optK_dVh (by omega) ?_
        | refine And.intro (by first | omega | kernel_rfl) ?_
        | (with_reducible refine condW_b (fun hc => ?_) (fun hc => ?_) <;> (try simp [Int.ofNat_inj] at hc) <;> try contradiction)
        | fail)
      simp [post, resAV, resAll, resOne, closeV, closeC, closeL, resD, resDL, push_cast, -List.map_take, -List.map_drop, recAV]
      all_goals first | (simp [refR, s14, s0, s1, s2, s3, s4, s5, s6, s7, s8, s9, s10, s11, s12, s13, hd]; done) | (simp [refR, s14, s0, s1, s2, s3, s4, s5, s6, s7, s8, s9, s10, s11, s12, s13, hd]; omega) | (rw [Bool.eq_iff_iff]; simp [refR, s14, s0, s1, s2, s3, s4, s5, s6, s7, s8, s9, s10, s11, s12, s13, hd]; omega) | (cases b <;> simp [refR, s14, s0, s1, s2, s3, s4, s5, s6, s7, s8, s9, s10, s11, s12, s13, hd] <;> omega)
  replace s14 : ((k.toNat : Int) == 31) = false := by simpa using s14
  repeat' (first
    | with_reducible first | refine thenW_n ?_ | refine thenW_ret ?_ | refine thenW_exit ?_ | refine thenW_panic ?_ | refine blockW_n ?_ | refine blockW_same ?_ | refine blockW_ret ?_ | refine blockW_panic ?_ | refine loopW_ret ?_ | refine loopW_exit ?_ | refine loopW_panic ?_ | refine joinW_ret ?_ | refine joinW_exit ?_ | refine joinW_panic ?_ | refine W_seq ?_ | refine W_block ?_ | refine W_skip ?_ | refine W_ret ?_ | refine W_exit ?_ | refine W_label ?_
    | with_reducible refine blockW_other (by decide) ?_
    | with_reducible refine W_region (by first | decide | (with_unfolding_all rfl)) ?_
    | (rw [vcn]; (try simp [push_cast, -List.map_take, -List.map_drop, recAV, frzS, s0, s1, s2, s3, s4, s5, s6, s7, s8, s9, s10, s11, s12, s13, s14]); try simp (disch := omega) only [i64_in, u64_in, shr64i])
    | with_reducible refine W_drawn mixed (by decide) (by kernel_rfl) ?_
    | (rw [vcnD]; (try simp [push_cast, -List.map_take, -List.map_drop, recAV, frzS, s0, s1, s2, s3, s4, s5, s6, s7, s8, s9, s10, s11, s12, s13, s14]); try simp (disch := omega) only [i64_in, u64_in, shr64i])
    | (with_reducible refine W_condW ?_; (try simp [AS.val, upd, resB, mkS_env, mkS_box, lk, entry_env, condW_true, condW_false, recAV, frzS, s0, s1, s2, s3, s4, s5, s6, s7, s8, s9, s10, s11, s12, s13, s14]))
    | with_reducible refine optK_dV (by first | omega | (simp; omega)) ?_
    | with_reducible refine optK_dVh (by omega) ?_
    | refine And.intro (by first | omega | kernel_rfl) ?_
    | (with_reducible refine condW_b (fun hc => ?_) (fun hc => ?_) <;> (try simp [Int.ofNat_inj] at hc) <;> try contradiction)
    | fail)
  simp [post, resAV, resAll, resOne, closeV, closeC, closeL, resD, resDL, push_cast, -List.map_take, -List.map_drop, recAV]
  all_goals (simp [refR, s0, s1, s2, s3, s4, s5, s6, s7, s8, s9, s10, s11, s12, s13, s14]; done)
end Go.Fw

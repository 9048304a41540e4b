import Derived.Test.YtjgbikhnnkigpaaT11
set_option linter.unusedSimpArgs false
set_option linter.unusedVariables false
namespace Go.Fw
open Go Go.Proofs Go.IntWalk Go.RowKit
set_option linter.unusedSimpArgs false
set_option maxRecDepth 100000
open List (map_take map_drop)
attribute [local push_cast] optK_some optK_none optK_ite optK_map optK_bind gOn stepK isMem evPure evMem evBin evUn evConv evLen evBuiltin evMinMax evSlice evBuild evAppend evIndex evIndexAddr evField evFieldAddr intBin strBin appDest AS.val AS.mem AS.elems AS.put AS.put' AS.eff AV.cells? AV.isCell AV.refs all_isByte take_byteV drop_byteV strOf_map bndOk bnd partAV ptrAdd killBox catA inOrder fillA setAt ofVal resB upd byteV List.head?_take List.head?_drop List.getElem?_map mkS_env mkS_box mkS_used entry_env entry_box entry_used lk stepD lookIds Oper.looksAt Op.operands Call.operands St.ids refsL renL_append dV_take dV_drop ren renL renBox Box.refs iV i64V boolV dV_getElem dV_app dV_cons toNat_add2 toNat_add1
theorem of_0 : Eval Try.prog 50 [byteV 0] (.ret (shapeAV 2 2 1 1 true)) := by
  refine Eval.intro Try.func50 rfl Try.call50 _ _ (Nat.le_of_ble_eq_true rfl) (by simp [AV.refs, refsL, byteV, i64V]) fun hs0 => ?_
  repeat' (first
    | refine W_seq ?_
    | (refine W_region (by decide) ?_; repeat (rw [vcn]; try simp [push_cast]); (try simp only [thenW, blockW]))
    | (refine W_cond rfl (fun hc => ?_) (fun hc => ?_) <;> (first | (simp at hc; done) | skip))
    | (refine W_skip ?_; (try simp only [thenW, blockW]))
    | (refine W_exit ?_; (try simp only [thenW, blockW]))
    | (refine W_ret ?_; (try simp only [thenW, blockW]))
    | refine W_block ?_)
  all_goals simp [post, resAV, resAll, resOne, closeV, closeC, closeL, resD, resDL, push_cast, shapeAV]
theorem of_13 : Eval Try.prog 50 [byteV 13] (.ret (shapeAV 2 2 1 1 true)) := by
  refine Eval.intro Try.func50 rfl Try.call50 _ _ (Nat.le_of_ble_eq_true rfl) (by simp [AV.refs, refsL, byteV, i64V]) fun hs0 => ?_
  repeat' (first
    | refine W_seq ?_
    | (refine W_region (by decide) ?_; repeat (rw [vcn]; try simp [push_cast]); (try simp only [thenW, blockW]))
    | (refine W_cond rfl (fun hc => ?_) (fun hc => ?_) <;> (first | (simp at hc; done) | skip))
    | (refine W_skip ?_; (try simp only [thenW, blockW]))
    | (refine W_exit ?_; (try simp only [thenW, blockW]))
    | (refine W_ret ?_; (try simp only [thenW, blockW]))
    | refine W_block ?_)
  all_goals simp [post, resAV, resAll, resOne, closeV, closeC, closeL, resD, resDL, push_cast, shapeAV]
theorem of_14 : Eval Try.prog 50 [byteV 14] (.ret (shapeAV 2 2 1 1 true)) := by
  refine Eval.intro Try.func50 rfl Try.call50 _ _ (Nat.le_of_ble_eq_true rfl) (by simp [AV.refs, refsL, byteV, i64V]) fun hs0 => ?_
  repeat' (first
    | refine W_seq ?_
    | (refine W_region (by decide) ?_; repeat (rw [vcn]; try simp [push_cast]); (try simp only [thenW, blockW]))
    | (refine W_cond rfl (fun hc => ?_) (fun hc => ?_) <;> (first | (simp at hc; done) | skip))
    | (refine W_skip ?_; (try simp only [thenW, blockW]))
    | (refine W_exit ?_; (try simp only [thenW, blockW]))
    | (refine W_ret ?_; (try simp only [thenW, blockW]))
    | refine W_block ?_)
  all_goals simp [post, resAV, resAll, resOne, closeV, closeC, closeL, resD, resDL, push_cast, shapeAV]
theorem of_22 : Eval Try.prog 50 [byteV 22] (.ret (shapeAV 2 2 1 1 true)) := by
  refine Eval.intro Try.func50 rfl Try.call50 _ _ (Nat.le_of_ble_eq_true rfl) (by simp [AV.refs, refsL, byteV, i64V]) fun hs0 => ?_
  repeat' (first
    | refine W_seq ?_
    | (refine W_region (by decide) ?_; repeat (rw [vcn]; try simp [push_cast]); (try simp only [thenW, blockW]))
    | (refine W_cond rfl (fun hc => ?_) (fun hc => ?_) <;> (first | (simp at hc; done) | skip))
    | (refine W_skip ?_; (try simp only [thenW, blockW]))
    | (refine W_exit ?_; (try simp only [thenW, blockW]))
    | (refine W_ret ?_; (try simp only [thenW, blockW]))
    | refine W_block ?_)
  all_goals simp [post, resAV, resAll, resOne, closeV, closeC, closeL, resD, resDL, push_cast, shapeAV]
theorem of_33 : Eval Try.prog 50 [byteV 33] (.ret (shapeAV 2 2 1 1 true)) := by
  refine Eval.intro Try.func50 rfl Try.call50 _ _ (Nat.le_of_ble_eq_true rfl) (by simp [AV.refs, refsL, byteV, i64V]) fun hs0 => ?_
  repeat' (first
    | refine W_seq ?_
    | (refine W_region (by decide) ?_; repeat (rw [vcn]; try simp [push_cast]); (try simp only [thenW, blockW]))
    | (refine W_cond rfl (fun hc => ?_) (fun hc => ?_) <;> (first | (simp at hc; done) | skip))
    | (refine W_skip ?_; (try simp only [thenW, blockW]))
    | (refine W_exit ?_; (try simp only [thenW, blockW]))
    | (refine W_ret ?_; (try simp only [thenW, blockW]))
    | refine W_block ?_)
  all_goals simp [post, resAV, resAll, resOne, closeV, closeC, closeL, resD, resDL, push_cast, shapeAV]
theorem of_34 : Eval Try.prog 50 [byteV 34] (.ret (shapeAV 2 2 1 1 true)) := by
  refine Eval.intro Try.func50 rfl Try.call50 _ _ (Nat.le_of_ble_eq_true rfl) (by simp [AV.refs, refsL, byteV, i64V]) fun hs0 => ?_
  repeat' (first
    | refine W_seq ?_
    | (refine W_region (by decide) ?_; repeat (rw [vcn]; try simp [push_cast]); (try simp only [thenW, blockW]))
    | (refine W_cond rfl (fun hc => ?_) (fun hc => ?_) <;> (first | (simp at hc; done) | skip))
    | (refine W_skip ?_; (try simp only [thenW, blockW]))
    | (refine W_exit ?_; (try simp only [thenW, blockW]))
    | (refine W_ret ?_; (try simp only [thenW, blockW]))
    | refine W_block ?_)
  all_goals simp [post, resAV, resAll, resOne, closeV, closeC, closeL, resD, resDL, push_cast, shapeAV]
theorem of_42 : Eval Try.prog 50 [byteV 42] (.ret (shapeAV 2 2 1 1 true)) := by
  refine Eval.intro Try.func50 rfl Try.call50 _ _ (Nat.le_of_ble_eq_true rfl) (by simp [AV.refs, refsL, byteV, i64V]) fun hs0 => ?_
  repeat' (first
    | refine W_seq ?_
    | (refine W_region (by decide) ?_; repeat (rw [vcn]; try simp [push_cast]); (try simp only [thenW, blockW]))
    | (refine W_cond rfl (fun hc => ?_) (fun hc => ?_) <;> (first | (simp at hc; done) | skip))
    | (refine W_skip ?_; (try simp only [thenW, blockW]))
    | (refine W_exit ?_; (try simp only [thenW, blockW]))
    | (refine W_ret ?_; (try simp only [thenW, blockW]))
    | refine W_block ?_)
  all_goals simp [post, resAV, resAll, resOne, closeV, closeC, closeL, resD, resDL, push_cast, shapeAV]
theorem of_43 : Eval Try.prog 50 [byteV 43] (.ret (shapeAV 2 2 1 1 true)) := by
  refine Eval.intro Try.func50 rfl Try.call50 _ _ (Nat.le_of_ble_eq_true rfl) (by simp [AV.refs, refsL, byteV, i64V]) fun hs0 => ?_
  repeat' (first
    | refine W_seq ?_
    | (refine W_region (by decide) ?_; repeat (rw [vcn]; try simp [push_cast]); (try simp only [thenW, blockW]))
    | (refine W_cond rfl (fun hc => ?_) (fun hc => ?_) <;> (first | (simp at hc; done) | skip))
    | (refine W_skip ?_; (try simp only [thenW, blockW]))
    | (refine W_exit ?_; (try simp only [thenW, blockW]))
    | (refine W_ret ?_; (try simp only [thenW, blockW]))
    | refine W_block ?_)
  all_goals simp [post, resAV, resAll, resOne, closeV, closeC, closeL, resD, resDL, push_cast, shapeAV]
theorem of_46 : Eval Try.prog 50 [byteV 46] (.ret (shapeAV 2 2 1 1 true)) := by
  refine Eval.intro Try.func50 rfl Try.call50 _ _ (Nat.le_of_ble_eq_true rfl) (by simp [AV.refs, refsL, byteV, i64V]) fun hs0 => ?_
  repeat' (first
    | refine W_seq ?_
    | (refine W_region (by decide) ?_; repeat (rw [vcn]; try simp [push_cast]); (try simp only [thenW, blockW]))
    | (refine W_cond rfl (fun hc => ?_) (fun hc => ?_) <;> (first | (simp at hc; done) | skip))
    | (refine W_skip ?_; (try simp only [thenW, blockW]))
    | (refine W_exit ?_; (try simp only [thenW, blockW]))
    | (refine W_ret ?_; (try simp only [thenW, blockW]))
    | refine W_block ?_)
  all_goals simp [post, resAV, resAll, resOne, closeV, closeC, closeL, resD, resDL, push_cast, shapeAV]
theorem of_54 : Eval Try.prog 50 [byteV 54] (.ret (shapeAV 2 2 1 1 true)) := by
  refine Eval.intro Try.func50 rfl Try.call50 _ _ (Nat.le_of_ble_eq_true rfl) (by simp [AV.refs, refsL, byteV, i64V]) fun hs0 => ?_
  repeat' (first
    | refine W_seq ?_
    | (refine W_region (by decide) ?_; repeat (rw [vcn]; try simp [push_cast]); (try simp only [thenW, blockW]))
    | (refine W_cond rfl (fun hc => ?_) (fun hc => ?_) <;> (first | (simp at hc; done) | skip))
    | (refine W_skip ?_; (try simp only [thenW, blockW]))
    | (refine W_exit ?_; (try simp only [thenW, blockW]))
    | (refine W_ret ?_; (try simp only [thenW, blockW]))
    | refine W_block ?_)
  all_goals simp [post, resAV, resAll, resOne, closeV, closeC, closeL, resD, resDL, push_cast, shapeAV]
theorem of_57 : Eval Try.prog 50 [byteV 57] (.ret (shapeAV 2 2 1 1 true)) := by
  refine Eval.intro Try.func50 rfl Try.call50 _ _ (Nat.le_of_ble_eq_true rfl) (by simp [AV.refs, refsL, byteV, i64V]) fun hs0 => ?_
  repeat' (first
    | refine W_seq ?_
    | (refine W_region (by decide) ?_; repeat (rw [vcn]; try simp [push_cast]); (try simp only [thenW, blockW]))
    | (refine W_cond rfl (fun hc => ?_) (fun hc => ?_) <;> (first | (simp at hc; done) | skip))
    | (refine W_skip ?_; (try simp only [thenW, blockW]))
    | (refine W_exit ?_; (try simp only [thenW, blockW]))
    | (refine W_ret ?_; (try simp only [thenW, blockW]))
    | refine W_block ?_)
  all_goals simp [post, resAV, resAll, resOne, closeV, closeC, closeL, resD, resDL, push_cast, shapeAV]
theorem of_1 : Eval Try.prog 50 [byteV 1] (.ret (shapeAV 2 24 1 1 true)) := by
  refine Eval.intro Try.func50 rfl Try.call50 _ _ (Nat.le_of_ble_eq_true rfl) (by simp [AV.refs, refsL, byteV, i64V]) fun hs0 => ?_
  repeat' (first
    | refine W_seq ?_
    | (refine W_region (by decide) ?_; repeat (rw [vcn]; try simp [push_cast]); (try simp only [thenW, blockW]))
    | (refine W_cond rfl (fun hc => ?_) (fun hc => ?_) <;> (first | (simp at hc; done) | skip))
    | (refine W_skip ?_; (try simp only [thenW, blockW]))
    | (refine W_exit ?_; (try simp only [thenW, blockW]))
    | (refine W_ret ?_; (try simp only [thenW, blockW]))
    | refine W_block ?_)
  all_goals simp [post, resAV, resAll, resOne, closeV, closeC, closeL, resD, resDL, push_cast, shapeAV]
theorem of_5 : Eval Try.prog 50 [byteV 5] (.ret (shapeAV 2 24 1 1 true)) := by
  refine Eval.intro Try.func50 rfl Try.call50 _ _ (Nat.le_of_ble_eq_true rfl) (by simp [AV.refs, refsL, byteV, i64V]) fun hs0 => ?_
  repeat' (first
    | refine W_seq ?_
    | (refine W_region (by decide) ?_; repeat (rw [vcn]; try simp [push_cast]); (try simp only [thenW, blockW]))
    | (refine W_cond rfl (fun hc => ?_) (fun hc => ?_) <;> (first | (simp at hc; done) | skip))
    | (refine W_skip ?_; (try simp only [thenW, blockW]))
    | (refine W_exit ?_; (try simp only [thenW, blockW]))
    | (refine W_ret ?_; (try simp only [thenW, blockW]))
    | refine W_block ?_)
  all_goals simp [post, resAV, resAll, resOne, closeV, closeC, closeL, resD, resDL, push_cast, shapeAV]
theorem of_19 : Eval Try.prog 50 [byteV 19] (.ret (shapeAV 2 4 1 1 true)) := by
  refine Eval.intro Try.func50 rfl Try.call50 _ _ (Nat.le_of_ble_eq_true rfl) (by simp [AV.refs, refsL, byteV, i64V]) fun hs0 => ?_
  repeat' (first
    | refine W_seq ?_
    | (refine W_region (by decide) ?_; repeat (rw [vcn]; try simp [push_cast]); (try simp only [thenW, blockW]))
    | (refine W_cond rfl (fun hc => ?_) (fun hc => ?_) <;> (first | (simp at hc; done) | skip))
    | (refine W_skip ?_; (try simp only [thenW, blockW]))
    | (refine W_exit ?_; (try simp only [thenW, blockW]))
    | (refine W_ret ?_; (try simp only [thenW, blockW]))
    | refine W_block ?_)
  all_goals simp [post, resAV, resAll, resOne, closeV, closeC, closeL, resD, resDL, push_cast, shapeAV]
theorem of_59 : Eval Try.prog 50 [byteV 59] (.ret (shapeAV 2 6 1 32 true)) := by
  refine Eval.intro Try.func50 rfl Try.call50 _ _ (Nat.le_of_ble_eq_true rfl) (by simp [AV.refs, refsL, byteV, i64V]) fun hs0 => ?_
  repeat' (first
    | refine W_seq ?_
    | (refine W_region (by decide) ?_; repeat (rw [vcn]; try simp [push_cast]); (try simp only [thenW, blockW]))
    | (refine W_cond rfl (fun hc => ?_) (fun hc => ?_) <;> (first | (simp at hc; done) | skip))
    | (refine W_skip ?_; (try simp only [thenW, blockW]))
    | (refine W_exit ?_; (try simp only [thenW, blockW]))
    | (refine W_ret ?_; (try simp only [thenW, blockW]))
    | refine W_block ?_)
  all_goals simp [post, resAV, resAll, resOne, closeV, closeC, closeL, resD, resDL, push_cast, shapeAV]
theorem of_4 : Eval Try.prog 50 [byteV 4] (.ret (shapeAV 0 1 0 0 true)) := by
  refine Eval.intro Try.func50 rfl Try.call50 _ _ (Nat.le_of_ble_eq_true rfl) (by simp [AV.refs, refsL, byteV, i64V]) fun hs0 => ?_
  repeat' (first
    | refine W_seq ?_
    | (refine W_region (by decide) ?_; repeat (rw [vcn]; try simp [push_cast]); (try simp only [thenW, blockW]))
    | (refine W_cond rfl (fun hc => ?_) (fun hc => ?_) <;> (first | (simp at hc; done) | skip))
    | (refine W_skip ?_; (try simp only [thenW, blockW]))
    | (refine W_exit ?_; (try simp only [thenW, blockW]))
    | (refine W_ret ?_; (try simp only [thenW, blockW]))
    | refine W_block ?_)
  all_goals simp [post, resAV, resAll, resOne, closeV, closeC, closeL, resD, resDL, push_cast, shapeAV]
theorem of_7 : Eval Try.prog 50 [byteV 7] (.ret (shapeAV 0 1 0 0 true)) := by
  refine Eval.intro Try.func50 rfl Try.call50 _ _ (Nat.le_of_ble_eq_true rfl) (by simp [AV.refs, refsL, byteV, i64V]) fun hs0 => ?_
  repeat' (first
    | refine W_seq ?_
    | (refine W_region (by decide) ?_; repeat (rw [vcn]; try simp [push_cast]); (try simp only [thenW, blockW]))
    | (refine W_cond rfl (fun hc => ?_) (fun hc => ?_) <;> (first | (simp at hc; done) | skip))
    | (refine W_skip ?_; (try simp only [thenW, blockW]))
    | (refine W_exit ?_; (try simp only [thenW, blockW]))
    | (refine W_ret ?_; (try simp only [thenW, blockW]))
    | refine W_block ?_)
  all_goals simp [post, resAV, resAll, resOne, closeV, closeC, closeL, resD, resDL, push_cast, shapeAV]
theorem of_8 : Eval Try.prog 50 [byteV 8] (.ret (shapeAV 0 1 0 0 true)) := by
  refine Eval.intro Try.func50 rfl Try.call50 _ _ (Nat.le_of_ble_eq_true rfl) (by simp [AV.refs, refsL, byteV, i64V]) fun hs0 => ?_
  repeat' (first
    | refine W_seq ?_
    | (refine W_region (by decide) ?_; repeat (rw [vcn]; try simp [push_cast]); (try simp only [thenW, blockW]))
    | (refine W_cond rfl (fun hc => ?_) (fun hc => ?_) <;> (first | (simp at hc; done) | skip))
    | (refine W_skip ?_; (try simp only [thenW, blockW]))
    | (refine W_exit ?_; (try simp only [thenW, blockW]))
    | (refine W_ret ?_; (try simp only [thenW, blockW]))
    | refine W_block ?_)
  all_goals simp [post, resAV, resAll, resOne, closeV, closeC, closeL, resD, resDL, push_cast, shapeAV]
theorem of_9 : Eval Try.prog 50 [byteV 9] (.ret (shapeAV 0 1 0 0 true)) := by
  refine Eval.intro Try.func50 rfl Try.call50 _ _ (Nat.le_of_ble_eq_true rfl) (by simp [AV.refs, refsL, byteV, i64V]) fun hs0 => ?_
  repeat' (first
    | refine W_seq ?_
    | (refine W_region (by decide) ?_; repeat (rw [vcn]; try simp [push_cast]); (try simp only [thenW, blockW]))
    | (refine W_cond rfl (fun hc => ?_) (fun hc => ?_) <;> (first | (simp at hc; done) | skip))
    | (refine W_skip ?_; (try simp only [thenW, blockW]))
    | (refine W_exit ?_; (try simp only [thenW, blockW]))
    | (refine W_ret ?_; (try simp only [thenW, blockW]))
    | refine W_block ?_)
  all_goals simp [post, resAV, resAll, resOne, closeV, closeC, closeL, resD, resDL, push_cast, shapeAV]
theorem of_10 : Eval Try.prog 50 [byteV 10] (.ret (shapeAV 0 1 0 0 true)) := by
  refine Eval.intro Try.func50 rfl Try.call50 _ _ (Nat.le_of_ble_eq_true rfl) (by simp [AV.refs, refsL, byteV, i64V]) fun hs0 => ?_
  repeat' (first
    | refine W_seq ?_
    | (refine W_region (by decide) ?_; repeat (rw [vcn]; try simp [push_cast]); (try simp only [thenW, blockW]))
    | (refine W_cond rfl (fun hc => ?_) (fun hc => ?_) <;> (first | (simp at hc; done) | skip))
    | (refine W_skip ?_; (try simp only [thenW, blockW]))
    | (refine W_exit ?_; (try simp only [thenW, blockW]))
    | (refine W_ret ?_; (try simp only [thenW, blockW]))
    | refine W_block ?_)
  all_goals simp [post, resAV, resAll, resOne, closeV, closeC, closeL, resD, resDL, push_cast, shapeAV]
theorem of_11 : Eval Try.prog 50 [byteV 11] (.ret (shapeAV 0 1 0 0 true)) := by
  refine Eval.intro Try.func50 rfl Try.call50 _ _ (Nat.le_of_ble_eq_true rfl) (by simp [AV.refs, refsL, byteV, i64V]) fun hs0 => ?_
  repeat' (first
    | refine W_seq ?_
    | (refine W_region (by decide) ?_; repeat (rw [vcn]; try simp [push_cast]); (try simp only [thenW, blockW]))
    | (refine W_cond rfl (fun hc => ?_) (fun hc => ?_) <;> (first | (simp at hc; done) | skip))
    | (refine W_skip ?_; (try simp only [thenW, blockW]))
    | (refine W_exit ?_; (try simp only [thenW, blockW]))
    | (refine W_ret ?_; (try simp only [thenW, blockW]))
    | refine W_block ?_)
  all_goals simp [post, resAV, resAll, resOne, closeV, closeC, closeL, resD, resDL, push_cast, shapeAV]
theorem of_12 : Eval Try.prog 50 [byteV 12] (.ret (shapeAV 0 1 0 0 true)) := by
  refine Eval.intro Try.func50 rfl Try.call50 _ _ (Nat.le_of_ble_eq_true rfl) (by simp [AV.refs, refsL, byteV, i64V]) fun hs0 => ?_
  repeat' (first
    | refine W_seq ?_
    | (refine W_region (by decide) ?_; repeat (rw [vcn]; try simp [push_cast]); (try simp only [thenW, blockW]))
    | (refine W_cond rfl (fun hc => ?_) (fun hc => ?_) <;> (first | (simp at hc; done) | skip))
    | (refine W_skip ?_; (try simp only [thenW, blockW]))
    | (refine W_exit ?_; (try simp only [thenW, blockW]))
    | (refine W_ret ?_; (try simp only [thenW, blockW]))
    | refine W_block ?_)
  all_goals simp [post, resAV, resAll, resOne, closeV, closeC, closeL, resD, resDL, push_cast, shapeAV]
theorem of_17 : Eval Try.prog 50 [byteV 17] (.ret (shapeAV 0 1 0 0 true)) := by
  refine Eval.intro Try.func50 rfl Try.call50 _ _ (Nat.le_of_ble_eq_true rfl) (by simp [AV.refs, refsL, byteV, i64V]) fun hs0 => ?_
  repeat' (first
    | refine W_seq ?_
    | (refine W_region (by decide) ?_; repeat (rw [vcn]; try simp [push_cast]); (try simp only [thenW, blockW]))
    | (refine W_cond rfl (fun hc => ?_) (fun hc => ?_) <;> (first | (simp at hc; done) | skip))
    | (refine W_skip ?_; (try simp only [thenW, blockW]))
    | (refine W_exit ?_; (try simp only [thenW, blockW]))
    | (refine W_ret ?_; (try simp only [thenW, blockW]))
    | refine W_block ?_)
  all_goals simp [post, resAV, resAll, resOne, closeV, closeC, closeL, resD, resDL, push_cast, shapeAV]
theorem of_21 : Eval Try.prog 50 [byteV 21] (.ret (shapeAV 0 1 0 0 true)) := by
  refine Eval.intro Try.func50 rfl Try.call50 _ _ (Nat.le_of_ble_eq_true rfl) (by simp [AV.refs, refsL, byteV, i64V]) fun hs0 => ?_
  repeat' (first
    | refine W_seq ?_
    | (refine W_region (by decide) ?_; repeat (rw [vcn]; try simp [push_cast]); (try simp only [thenW, blockW]))
    | (refine W_cond rfl (fun hc => ?_) (fun hc => ?_) <;> (first | (simp at hc; done) | skip))
    | (refine W_skip ?_; (try simp only [thenW, blockW]))
    | (refine W_exit ?_; (try simp only [thenW, blockW]))
    | (refine W_ret ?_; (try simp only [thenW, blockW]))
    | refine W_block ?_)
  all_goals simp [post, resAV, resAll, resOne, closeV, closeC, closeL, resD, resDL, push_cast, shapeAV]
theorem of_45 : Eval Try.prog 50 [byteV 45] (.ret (shapeAV 0 1 0 0 true)) := by
  refine Eval.intro Try.func50 rfl Try.call50 _ _ (Nat.le_of_ble_eq_true rfl) (by simp [AV.refs, refsL, byteV, i64V]) fun hs0 => ?_
  repeat' (first
    | refine W_seq ?_
    | (refine W_region (by decide) ?_; repeat (rw [vcn]; try simp [push_cast]); (try simp only [thenW, blockW]))
    | (refine W_cond rfl (fun hc => ?_) (fun hc => ?_) <;> (first | (simp at hc; done) | skip))
    | (refine W_skip ?_; (try simp only [thenW, blockW]))
    | (refine W_exit ?_; (try simp only [thenW, blockW]))
    | (refine W_ret ?_; (try simp only [thenW, blockW]))
    | refine W_block ?_)
  all_goals simp [post, resAV, resAll, resOne, closeV, closeC, closeL, resD, resDL, push_cast, shapeAV]
theorem of_56 : Eval Try.prog 50 [byteV 56] (.ret (shapeAV 0 1 0 0 true)) := by
  refine Eval.intro Try.func50 rfl Try.call50 _ _ (Nat.le_of_ble_eq_true rfl) (by simp [AV.refs, refsL, byteV, i64V]) fun hs0 => ?_
  repeat' (first
    | refine W_seq ?_
    | (refine W_region (by decide) ?_; repeat (rw [vcn]; try simp [push_cast]); (try simp only [thenW, blockW]))
    | (refine W_cond rfl (fun hc => ?_) (fun hc => ?_) <;> (first | (simp at hc; done) | skip))
    | (refine W_skip ?_; (try simp only [thenW, blockW]))
    | (refine W_exit ?_; (try simp only [thenW, blockW]))
    | (refine W_ret ?_; (try simp only [thenW, blockW]))
    | refine W_block ?_)
  all_goals simp [post, resAV, resAll, resOne, closeV, closeC, closeL, resD, resDL, push_cast, shapeAV]
theorem of_15 : Eval Try.prog 50 [byteV 15] (.ret (shapeAV 3 4 1 1 true)) := by
  refine Eval.intro Try.func50 rfl Try.call50 _ _ (Nat.le_of_ble_eq_true rfl) (by simp [AV.refs, refsL, byteV, i64V]) fun hs0 => ?_
  repeat' (first
    | refine W_seq ?_
    | (refine W_region (by decide) ?_; repeat (rw [vcn]; try simp [push_cast]); (try simp only [thenW, blockW]))
    | (refine W_cond rfl (fun hc => ?_) (fun hc => ?_) <;> (first | (simp at hc; done) | skip))
    | (refine W_skip ?_; (try simp only [thenW, blockW]))
    | (refine W_exit ?_; (try simp only [thenW, blockW]))
    | (refine W_ret ?_; (try simp only [thenW, blockW]))
    | refine W_block ?_)
  all_goals simp [post, resAV, resAll, resOne, closeV, closeC, closeL, resD, resDL, push_cast, shapeAV]
theorem of_47 : Eval Try.prog 50 [byteV 47] (.ret (shapeAV 3 4 1 1 true)) := by
  refine Eval.intro Try.func50 rfl Try.call50 _ _ (Nat.le_of_ble_eq_true rfl) (by simp [AV.refs, refsL, byteV, i64V]) fun hs0 => ?_
  repeat' (first
    | refine W_seq ?_
    | (refine W_region (by decide) ?_; repeat (rw [vcn]; try simp [push_cast]); (try simp only [thenW, blockW]))
    | (refine W_cond rfl (fun hc => ?_) (fun hc => ?_) <;> (first | (simp at hc; done) | skip))
    | (refine W_skip ?_; (try simp only [thenW, blockW]))
    | (refine W_exit ?_; (try simp only [thenW, blockW]))
    | (refine W_ret ?_; (try simp only [thenW, blockW]))
    | refine W_block ?_)
  all_goals simp [post, resAV, resAll, resOne, closeV, closeC, closeL, resD, resDL, push_cast, shapeAV]
theorem of_48 : Eval Try.prog 50 [byteV 48] (.ret (shapeAV 3 4 1 1 true)) := by
  refine Eval.intro Try.func50 rfl Try.call50 _ _ (Nat.le_of_ble_eq_true rfl) (by simp [AV.refs, refsL, byteV, i64V]) fun hs0 => ?_
  repeat' (first
    | refine W_seq ?_
    | (refine W_region (by decide) ?_; repeat (rw [vcn]; try simp [push_cast]); (try simp only [thenW, blockW]))
    | (refine W_cond rfl (fun hc => ?_) (fun hc => ?_) <;> (first | (simp at hc; done) | skip))
    | (refine W_skip ?_; (try simp only [thenW, blockW]))
    | (refine W_exit ?_; (try simp only [thenW, blockW]))
    | (refine W_ret ?_; (try simp only [thenW, blockW]))
    | refine W_block ?_)
  all_goals simp [post, resAV, resAll, resOne, closeV, closeC, closeL, resD, resDL, push_cast, shapeAV]
theorem of_49 : Eval Try.prog 50 [byteV 49] (.ret (shapeAV 3 4 1 1 true)) := by
  refine Eval.intro Try.func50 rfl Try.call50 _ _ (Nat.le_of_ble_eq_true rfl) (by simp [AV.refs, refsL, byteV, i64V]) fun hs0 => ?_
  repeat' (first
    | refine W_seq ?_
    | (refine W_region (by decide) ?_; repeat (rw [vcn]; try simp [push_cast]); (try simp only [thenW, blockW]))
    | (refine W_cond rfl (fun hc => ?_) (fun hc => ?_) <;> (first | (simp at hc; done) | skip))
    | (refine W_skip ?_; (try simp only [thenW, blockW]))
    | (refine W_exit ?_; (try simp only [thenW, blockW]))
    | (refine W_ret ?_; (try simp only [thenW, blockW]))
    | refine W_block ?_)
  all_goals simp [post, resAV, resAll, resOne, closeV, closeC, closeL, resD, resDL, push_cast, shapeAV]
theorem of_16 : Eval Try.prog 50 [byteV 16] (.ret (shapeAV 3 8 1 8191 true)) := by
  refine Eval.intro Try.func50 rfl Try.call50 _ _ (Nat.le_of_ble_eq_true rfl) (by simp [AV.refs, refsL, byteV, i64V]) fun hs0 => ?_
  repeat' (first
    | refine W_seq ?_
    | (refine W_region (by decide) ?_; repeat (rw [vcn]; try simp [push_cast]); (try simp only [thenW, blockW]))
    | (refine W_cond rfl (fun hc => ?_) (fun hc => ?_) <;> (first | (simp at hc; done) | skip))
    | (refine W_skip ?_; (try simp only [thenW, blockW]))
    | (refine W_exit ?_; (try simp only [thenW, blockW]))
    | (refine W_ret ?_; (try simp only [thenW, blockW]))
    | refine W_block ?_)
  all_goals simp [post, resAV, resAll, resOne, closeV, closeC, closeL, resD, resDL, push_cast, shapeAV]
theorem of_27 : Eval Try.prog 50 [byteV 27] (.ret (shapeAV 5 8 1 1 true)) := by
  refine Eval.intro Try.func50 rfl Try.call50 _ _ (Nat.le_of_ble_eq_true rfl) (by simp [AV.refs, refsL, byteV, i64V]) fun hs0 => ?_
  repeat' (first
    | refine W_seq ?_
    | (refine W_region (by decide) ?_; repeat (rw [vcn]; try simp [push_cast]); (try simp only [thenW, blockW]))
    | (refine W_cond rfl (fun hc => ?_) (fun hc => ?_) <;> (first | (simp at hc; done) | skip))
    | (refine W_skip ?_; (try simp only [thenW, blockW]))
    | (refine W_exit ?_; (try simp only [thenW, blockW]))
    | (refine W_ret ?_; (try simp only [thenW, blockW]))
    | refine W_block ?_)
  all_goals simp [post, resAV, resAll, resOne, closeV, closeC, closeL, resD, resDL, push_cast, shapeAV]
theorem of_28 : Eval Try.prog 50 [byteV 28] (.ret (shapeAV 5 8 1 1 true)) := by
  refine Eval.intro Try.func50 rfl Try.call50 _ _ (Nat.le_of_ble_eq_true rfl) (by simp [AV.refs, refsL, byteV, i64V]) fun hs0 => ?_
  repeat' (first
    | refine W_seq ?_
    | (refine W_region (by decide) ?_; repeat (rw [vcn]; try simp [push_cast]); (try simp only [thenW, blockW]))
    | (refine W_cond rfl (fun hc => ?_) (fun hc => ?_) <;> (first | (simp at hc; done) | skip))
    | (refine W_skip ?_; (try simp only [thenW, blockW]))
    | (refine W_exit ?_; (try simp only [thenW, blockW]))
    | (refine W_ret ?_; (try simp only [thenW, blockW]))
    | refine W_block ?_)
  all_goals simp [post, resAV, resAll, resOne, closeV, closeC, closeL, resD, resDL, push_cast, shapeAV]
theorem of_3 : Eval Try.prog 50 [byteV 3] (.ret (shapeAV 5 16 1 1 true)) := by
  refine Eval.intro Try.func50 rfl Try.call50 _ _ (Nat.le_of_ble_eq_true rfl) (by simp [AV.refs, refsL, byteV, i64V]) fun hs0 => ?_
  repeat' (first
    | refine W_seq ?_
    | (refine W_region (by decide) ?_; repeat (rw [vcn]; try simp [push_cast]); (try simp only [thenW, blockW]))
    | (refine W_cond rfl (fun hc => ?_) (fun hc => ?_) <;> (first | (simp at hc; done) | skip))
    | (refine W_skip ?_; (try simp only [thenW, blockW]))
    | (refine W_exit ?_; (try simp only [thenW, blockW]))
    | (refine W_ret ?_; (try simp only [thenW, blockW]))
    | refine W_block ?_)
  all_goals simp [post, resAV, resAll, resOne, closeV, closeC, closeL, resD, resDL, push_cast, shapeAV]
theorem of_23 : Eval Try.prog 50 [byteV 23] (.ret (shapeAV 1 2 1 1 true)) := by
  refine Eval.intro Try.func50 rfl Try.call50 _ _ (Nat.le_of_ble_eq_true rfl) (by simp [AV.refs, refsL, byteV, i64V]) fun hs0 => ?_
  repeat' (first
    | refine W_seq ?_
    | (refine W_region (by decide) ?_; repeat (rw [vcn]; try simp [push_cast]); (try simp only [thenW, blockW]))
    | (refine W_cond rfl (fun hc => ?_) (fun hc => ?_) <;> (first | (simp at hc; done) | skip))
    | (refine W_skip ?_; (try simp only [thenW, blockW]))
    | (refine W_exit ?_; (try simp only [thenW, blockW]))
    | (refine W_ret ?_; (try simp only [thenW, blockW]))
    | refine W_block ?_)
  all_goals simp [post, resAV, resAll, resOne, closeV, closeC, closeL, resD, resDL, push_cast, shapeAV]
theorem of_26 : Eval Try.prog 50 [byteV 26] (.ret (shapeAV 1 2 1 1 true)) := by
  refine Eval.intro Try.func50 rfl Try.call50 _ _ (Nat.le_of_ble_eq_true rfl) (by simp [AV.refs, refsL, byteV, i64V]) fun hs0 => ?_
  repeat' (first
    | refine W_seq ?_
    | (refine W_region (by decide) ?_; repeat (rw [vcn]; try simp [push_cast]); (try simp only [thenW, blockW]))
    | (refine W_cond rfl (fun hc => ?_) (fun hc => ?_) <;> (first | (simp at hc; done) | skip))
    | (refine W_skip ?_; (try simp only [thenW, blockW]))
    | (refine W_exit ?_; (try simp only [thenW, blockW]))
    | (refine W_ret ?_; (try simp only [thenW, blockW]))
    | refine W_block ?_)
  all_goals simp [post, resAV, resAll, resOne, closeV, closeC, closeL, resD, resDL, push_cast, shapeAV]
theorem of_38 : Eval Try.prog 50 [byteV 38] (.ret (shapeAV 1 2 1 1 true)) := by
  refine Eval.intro Try.func50 rfl Try.call50 _ _ (Nat.le_of_ble_eq_true rfl) (by simp [AV.refs, refsL, byteV, i64V]) fun hs0 => ?_
  repeat' (first
    | refine W_seq ?_
    | (refine W_region (by decide) ?_; repeat (rw [vcn]; try simp [push_cast]); (try simp only [thenW, blockW]))
    | (refine W_cond rfl (fun hc => ?_) (fun hc => ?_) <;> (first | (simp at hc; done) | skip))
    | (refine W_skip ?_; (try simp only [thenW, blockW]))
    | (refine W_exit ?_; (try simp only [thenW, blockW]))
    | (refine W_ret ?_; (try simp only [thenW, blockW]))
    | refine W_block ?_)
  all_goals simp [post, resAV, resAll, resOne, closeV, closeC, closeL, resD, resDL, push_cast, shapeAV]
theorem of_52 : Eval Try.prog 50 [byteV 52] (.ret (shapeAV 1 2 1 1 true)) := by
  refine Eval.intro Try.func50 rfl Try.call50 _ _ (Nat.le_of_ble_eq_true rfl) (by simp [AV.refs, refsL, byteV, i64V]) fun hs0 => ?_
  repeat' (first
    | refine W_seq ?_
    | (refine W_region (by decide) ?_; repeat (rw [vcn]; try simp [push_cast]); (try simp only [thenW, blockW]))
    | (refine W_cond rfl (fun hc => ?_) (fun hc => ?_) <;> (first | (simp at hc; done) | skip))
    | (refine W_skip ?_; (try simp only [thenW, blockW]))
    | (refine W_exit ?_; (try simp only [thenW, blockW]))
    | (refine W_ret ?_; (try simp only [thenW, blockW]))
    | refine W_block ?_)
  all_goals simp [post, resAV, resAll, resOne, closeV, closeC, closeL, resD, resDL, push_cast, shapeAV]
theorem of_2 : Eval Try.prog 50 [byteV 2] (.ret (shapeAV 6 2 1 256 true)) := by
  refine Eval.intro Try.func50 rfl Try.call50 _ _ (Nat.le_of_ble_eq_true rfl) (by simp [AV.refs, refsL, byteV, i64V]) fun hs0 => ?_
  repeat' (first
    | refine W_seq ?_
    | (refine W_region (by decide) ?_; repeat (rw [vcn]; try simp [push_cast]); (try simp only [thenW, blockW]))
    | (refine W_cond rfl (fun hc => ?_) (fun hc => ?_) <;> (first | (simp at hc; done) | skip))
    | (refine W_skip ?_; (try simp only [thenW, blockW]))
    | (refine W_exit ?_; (try simp only [thenW, blockW]))
    | (refine W_ret ?_; (try simp only [thenW, blockW]))
    | refine W_block ?_)
  all_goals simp [post, resAV, resAll, resOne, closeV, closeC, closeL, resD, resDL, push_cast, shapeAV]
theorem of_25 : Eval Try.prog 50 [byteV 25] (.ret (shapeAV 6 2 1 256 true)) := by
  refine Eval.intro Try.func50 rfl Try.call50 _ _ (Nat.le_of_ble_eq_true rfl) (by simp [AV.refs, refsL, byteV, i64V]) fun hs0 => ?_
  repeat' (first
    | refine W_seq ?_
    | (refine W_region (by decide) ?_; repeat (rw [vcn]; try simp [push_cast]); (try simp only [thenW, blockW]))
    | (refine W_cond rfl (fun hc => ?_) (fun hc => ?_) <;> (first | (simp at hc; done) | skip))
    | (refine W_skip ?_; (try simp only [thenW, blockW]))
    | (refine W_exit ?_; (try simp only [thenW, blockW]))
    | (refine W_ret ?_; (try simp only [thenW, blockW]))
    | refine W_block ?_)
  all_goals simp [post, resAV, resAll, resOne, closeV, closeC, closeL, resD, resDL, push_cast, shapeAV]
theorem of_44 : Eval Try.prog 50 [byteV 44] (.ret (shapeAV 6 2 1 256 true)) := by
  refine Eval.intro Try.func50 rfl Try.call50 _ _ (Nat.le_of_ble_eq_true rfl) (by simp [AV.refs, refsL, byteV, i64V]) fun hs0 => ?_
  repeat' (first
    | refine W_seq ?_
    | (refine W_region (by decide) ?_; repeat (rw [vcn]; try simp [push_cast]); (try simp only [thenW, blockW]))
    | (refine W_cond rfl (fun hc => ?_) (fun hc => ?_) <;> (first | (simp at hc; done) | skip))
    | (refine W_skip ?_; (try simp only [thenW, blockW]))
    | (refine W_exit ?_; (try simp only [thenW, blockW]))
    | (refine W_ret ?_; (try simp only [thenW, blockW]))
    | refine W_block ?_)
  all_goals simp [post, resAV, resAll, resOne, closeV, closeC, closeL, resD, resDL, push_cast, shapeAV]
theorem of_55 : Eval Try.prog 50 [byteV 55] (.ret (shapeAV 6 2 1 256 true)) := by
  refine Eval.intro Try.func50 rfl Try.call50 _ _ (Nat.le_of_ble_eq_true rfl) (by simp [AV.refs, refsL, byteV, i64V]) fun hs0 => ?_
  repeat' (first
    | refine W_seq ?_
    | (refine W_region (by decide) ?_; repeat (rw [vcn]; try simp [push_cast]); (try simp only [thenW, blockW]))
    | (refine W_cond rfl (fun hc => ?_) (fun hc => ?_) <;> (first | (simp at hc; done) | skip))
    | (refine W_skip ?_; (try simp only [thenW, blockW]))
    | (refine W_exit ?_; (try simp only [thenW, blockW]))
    | (refine W_ret ?_; (try simp only [thenW, blockW]))
    | refine W_block ?_)
  all_goals simp [post, resAV, resAll, resOne, closeV, closeC, closeL, resD, resDL, push_cast, shapeAV]
theorem of_58 : Eval Try.prog 50 [byteV 58] (.ret (shapeAV 6 2 1 256 true)) := by
  refine Eval.intro Try.func50 rfl Try.call50 _ _ (Nat.le_of_ble_eq_true rfl) (by simp [AV.refs, refsL, byteV, i64V]) fun hs0 => ?_
  repeat' (first
    | refine W_seq ?_
    | (refine W_region (by decide) ?_; repeat (rw [vcn]; try simp [push_cast]); (try simp only [thenW, blockW]))
    | (refine W_cond rfl (fun hc => ?_) (fun hc => ?_) <;> (first | (simp at hc; done) | skip))
    | (refine W_skip ?_; (try simp only [thenW, blockW]))
    | (refine W_exit ?_; (try simp only [thenW, blockW]))
    | (refine W_ret ?_; (try simp only [thenW, blockW]))
    | refine W_block ?_)
  all_goals simp [post, resAV, resAll, resOne, closeV, closeC, closeL, resD, resDL, push_cast, shapeAV]
theorem of_6 : Eval Try.prog 50 [byteV 6] (.ret (shapeAV 6 2 1 16 true)) := by
  refine Eval.intro Try.func50 rfl Try.call50 _ _ (Nat.le_of_ble_eq_true rfl) (by simp [AV.refs, refsL, byteV, i64V]) fun hs0 => ?_
  repeat' (first
    | refine W_seq ?_
    | (refine W_region (by decide) ?_; repeat (rw [vcn]; try simp [push_cast]); (try simp only [thenW, blockW]))
    | (refine W_cond rfl (fun hc => ?_) (fun hc => ?_) <;> (first | (simp at hc; done) | skip))
    | (refine W_skip ?_; (try simp only [thenW, blockW]))
    | (refine W_exit ?_; (try simp only [thenW, blockW]))
    | (refine W_ret ?_; (try simp only [thenW, blockW]))
    | refine W_block ?_)
  all_goals simp [post, resAV, resAll, resOne, closeV, closeC, closeL, resD, resDL, push_cast, shapeAV]
theorem of_18 : Eval Try.prog 50 [byteV 18] (.ret (shapeAV 6 2 1 16 true)) := by
  refine Eval.intro Try.func50 rfl Try.call50 _ _ (Nat.le_of_ble_eq_true rfl) (by simp [AV.refs, refsL, byteV, i64V]) fun hs0 => ?_
  repeat' (first
    | refine W_seq ?_
    | (refine W_region (by decide) ?_; repeat (rw [vcn]; try simp [push_cast]); (try simp only [thenW, blockW]))
    | (refine W_cond rfl (fun hc => ?_) (fun hc => ?_) <;> (first | (simp at hc; done) | skip))
    | (refine W_skip ?_; (try simp only [thenW, blockW]))
    | (refine W_exit ?_; (try simp only [thenW, blockW]))
    | (refine W_ret ?_; (try simp only [thenW, blockW]))
    | refine W_block ?_)
  all_goals simp [post, resAV, resAll, resOne, closeV, closeC, closeL, resD, resDL, push_cast, shapeAV]
theorem of_35 : Eval Try.prog 50 [byteV 35] (.ret (shapeAV 6 44 1 1 true)) := by
  refine Eval.intro Try.func50 rfl Try.call50 _ _ (Nat.le_of_ble_eq_true rfl) (by simp [AV.refs, refsL, byteV, i64V]) fun hs0 => ?_
  repeat' (first
    | refine W_seq ?_
    | (refine W_region (by decide) ?_; repeat (rw [vcn]; try simp [push_cast]); (try simp only [thenW, blockW]))
    | (refine W_cond rfl (fun hc => ?_) (fun hc => ?_) <;> (first | (simp at hc; done) | skip))
    | (refine W_skip ?_; (try simp only [thenW, blockW]))
    | (refine W_exit ?_; (try simp only [thenW, blockW]))
    | (refine W_ret ?_; (try simp only [thenW, blockW]))
    | refine W_block ?_)
  all_goals simp [post, resAV, resAll, resOne, closeV, closeC, closeL, resD, resDL, push_cast, shapeAV]
theorem of_32 : Eval Try.prog 50 [byteV 32] (.ret (shapeAV 6 176 1 1 true)) := by
  refine Eval.intro Try.func50 rfl Try.call50 _ _ (Nat.le_of_ble_eq_true rfl) (by simp [AV.refs, refsL, byteV, i64V]) fun hs0 => ?_
  repeat' (first
    | refine W_seq ?_
    | (refine W_region (by decide) ?_; repeat (rw [vcn]; try simp [push_cast]); (try simp only [thenW, blockW]))
    | (refine W_cond rfl (fun hc => ?_) (fun hc => ?_) <;> (first | (simp at hc; done) | skip))
    | (refine W_skip ?_; (try simp only [thenW, blockW]))
    | (refine W_exit ?_; (try simp only [thenW, blockW]))
    | (refine W_ret ?_; (try simp only [thenW, blockW]))
    | refine W_block ?_)
  all_goals simp [post, resAV, resAll, resOne, closeV, closeC, closeL, resD, resDL, push_cast, shapeAV]
theorem of_31 : Eval Try.prog 50 [byteV 31] (.ret (shapeAV 6 44 1 17 true)) := by
  refine Eval.intro Try.func50 rfl Try.call50 _ _ (Nat.le_of_ble_eq_true rfl) (by simp [AV.refs, refsL, byteV, i64V]) fun hs0 => ?_
  repeat' (first
    | refine W_seq ?_
    | (refine W_region (by decide) ?_; repeat (rw [vcn]; try simp [push_cast]); (try simp only [thenW, blockW]))
    | (refine W_cond rfl (fun hc => ?_) (fun hc => ?_) <;> (first | (simp at hc; done) | skip))
    | (refine W_skip ?_; (try simp only [thenW, blockW]))
    | (refine W_exit ?_; (try simp only [thenW, blockW]))
    | (refine W_ret ?_; (try simp only [thenW, blockW]))
    | refine W_block ?_)
  all_goals simp [post, resAV, resAll, resOne, closeV, closeC, closeL, resD, resDL, push_cast, shapeAV]
def kinds : List UInt8 := [0, 13, 14, 22, 33, 34, 42, 43, 46, 54, 57, 1, 5, 19, 59, 4, 7, 8, 9, 10, 11, 12, 17, 21, 45, 56, 15, 47, 48, 49, 16, 27, 28, 3, 23, 26, 38, 52, 2, 25, 44, 55, 58, 6, 18, 35, 32, 31]
set_option maxHeartbeats 4000000 in
theorem of_other (k : UInt8) (h : k ∉ kinds) : Eval Try.prog 50 [byteV k] (.ret (shapeAV 0 0 0 0 false)) := by
  have hn : ∀ c : UInt8, c ∈ kinds → ((k.toNat : Int) == (c.toNat : Int)) = false := by
    intro c hc
    have : k ≠ c := fun e => h (e ▸ hc)
    have h2 : k.toNat ≠ c.toNat := fun e => this (UInt8.toNat_inj.1 e)
    have h3 : (k.toNat : Int) ≠ (c.toNat : Int) := by omega
    simpa using h3
  have n0 : ((k.toNat : Int) == 0) = false := hn 0 (by decide)
  have n13 : ((k.toNat : Int) == 13) = false := hn 13 (by decide)
  have n14 : ((k.toNat : Int) == 14) = false := hn 14 (by decide)
  have n22 : ((k.toNat : Int) == 22) = false := hn 22 (by decide)
  have n33 : ((k.toNat : Int) == 33) = false := hn 33 (by decide)
  have n34 : ((k.toNat : Int) == 34) = false := hn 34 (by decide)
  have n42 : ((k.toNat : Int) == 42) = false := hn 42 (by decide)
  have n43 : ((k.toNat : Int) == 43) = false := hn 43 (by decide)
  have n46 : ((k.toNat : Int) == 46) = false := hn 46 (by decide)
  have n54 : ((k.toNat : Int) == 54) = false := hn 54 (by decide)
  have n57 : ((k.toNat : Int) == 57) = false := hn 57 (by decide)
  have n1 : ((k.toNat : Int) == 1) = false := hn 1 (by decide)
  have n5 : ((k.toNat : Int) == 5) = false := hn 5 (by decide)
  have n19 : ((k.toNat : Int) == 19) = false := hn 19 (by decide)
  have n59 : ((k.toNat : Int) == 59) = false := hn 59 (by decide)
  have n4 : ((k.toNat : Int) == 4) = false := hn 4 (by decide)
  have n7 : ((k.toNat : Int) == 7) = false := hn 7 (by decide)
  have n8 : ((k.toNat : Int) == 8) = false := hn 8 (by decide)
  have n9 : ((k.toNat : Int) == 9) = false := hn 9 (by decide)
  have n10 : ((k.toNat : Int) == 10) = false := hn 10 (by decide)
  have n11 : ((k.toNat : Int) == 11) = false := hn 11 (by decide)
  have n12 : ((k.toNat : Int) == 12) = false := hn 12 (by decide)
  have n17 : ((k.toNat : Int) == 17) = false := hn 17 (by decide)
  have n21 : ((k.toNat : Int) == 21) = false := hn 21 (by decide)
  have n45 : ((k.toNat : Int) == 45) = false := hn 45 (by decide)
  have n56 : ((k.toNat : Int) == 56) = false := hn 56 (by decide)
  have n15 : ((k.toNat : Int) == 15) = false := hn 15 (by decide)
  have n47 : ((k.toNat : Int) == 47) = false := hn 47 (by decide)
  have n48 : ((k.toNat : Int) == 48) = false := hn 48 (by decide)
  have n49 : ((k.toNat : Int) == 49) = false := hn 49 (by decide)
  have n16 : ((k.toNat : Int) == 16) = false := hn 16 (by decide)
  have n27 : ((k.toNat : Int) == 27) = false := hn 27 (by decide)
  have n28 : ((k.toNat : Int) == 28) = false := hn 28 (by decide)
  have n3 : ((k.toNat : Int) == 3) = false := hn 3 (by decide)
  have n23 : ((k.toNat : Int) == 23) = false := hn 23 (by decide)
  have n26 : ((k.toNat : Int) == 26) = false := hn 26 (by decide)
  have n38 : ((k.toNat : Int) == 38) = false := hn 38 (by decide)
  have n52 : ((k.toNat : Int) == 52) = false := hn 52 (by decide)
  have n2 : ((k.toNat : Int) == 2) = false := hn 2 (by decide)
  have n25 : ((k.toNat : Int) == 25) = false := hn 25 (by decide)
  have n44 : ((k.toNat : Int) == 44) = false := hn 44 (by decide)
  have n55 : ((k.toNat : Int) == 55) = false := hn 55 (by decide)
  have n58 : ((k.toNat : Int) == 58) = false := hn 58 (by decide)
  have n6 : ((k.toNat : Int) == 6) = false := hn 6 (by decide)
  have n18 : ((k.toNat : Int) == 18) = false := hn 18 (by decide)
  have n35 : ((k.toNat : Int) == 35) = false := hn 35 (by decide)
  have n32 : ((k.toNat : Int) == 32) = false := hn 32 (by decide)
  have n31 : ((k.toNat : Int) == 31) = false := hn 31 (by decide)
  clear hn
  refine Eval.intro Try.func50 rfl Try.call50 _ _ (Nat.le_of_ble_eq_true rfl) (by simp [AV.refs, refsL, byteV, i64V]) fun hs0 => ?_
  repeat' (first
    | refine W_seq ?_
    | (refine W_region (by decide) ?_; repeat (rw [vcn]; try simp [push_cast, n0, n13, n14, n22, n33, n34, n42, n43, n46, n54, n57, n1, n5, n19, n59, n4, n7, n8, n9, n10, n11, n12, n17, n21, n45, n56, n15, n47, n48, n49, n16, n27, n28, n3, n23, n26, n38, n52, n2, n25, n44, n55, n58, n6, n18, n35, n32, n31]); (try simp only [thenW, blockW]))
    | (refine W_cond rfl (fun hc => ?_) (fun hc => ?_) <;> (first | (simp at hc; done) | skip))
    | (refine W_skip ?_; (try simp only [thenW, blockW]))
    | (refine W_exit ?_; (try simp only [thenW, blockW]))
    | (refine W_ret ?_; (try simp only [thenW, blockW]))
    | refine W_block ?_)
  all_goals simp [post, resAV, resAll, resOne, closeV, closeC, closeL, resD, resDL, push_cast, shapeAV]
end Go.Fw

/- nat: Cmp, Sub. -/
import Derived.Test.YtmmkclefdpmjlaaN2
set_option linter.unusedSimpArgs false
set_option linter.unusedVariables false
namespace Go.Fw
open Go Go.Proofs Go.IntWalk
theorem cmpN_lt {a b : Nat} (h : a < b) : cmpN a b = -1 := by simp [cmpN, h]
theorem cmpN_gt {a b : Nat} (h : b < a) : cmpN a b = 1 := by simp [cmpN, h]; omega
theorem cmpN_eq {a b : Nat} (h : a = b) : cmpN a b = 0 := by simp [cmpN, h]
theorem cmpN_neg (a b : Nat) : cmpN a b < 0 ↔ a < b := by unfold cmpN; split <;> (try split) <;> omega
set_option linter.unusedSimpArgs false
set_option maxRecDepth 100000
set_option maxHeartbeats 2000000
open List (map_take map_drop)
attribute [local push_cast] optK_some optK_none optK_ite optK_map optK_bind gOn stepK isMem evPure evMem evBin evUn evConv evLen evBuiltin evMinMax evSlice evBuild evAppend evIndex evIndexAddr evField evFieldAddr intBin strBin appDest AS.val AS.mem AS.elems AS.put AS.put' AS.eff AV.cells? AV.isCell AV.refs all_isByte take_byteV drop_byteV strOf_map bndOk bnd partAV ptrAdd killBox catA inOrder fillA setAt ofVal resB upd byteV List.head?_take List.head?_drop List.getElem?_map mkS_env mkS_box mkS_used entry_env entry_box entry_used lk stepD lookIds Oper.looksAt Op.operands Call.operands St.ids refsL renL_append ren renL renBox Box.refs iV i64V boolV dV_getElem dV_app dV_cons toNat_add2 toNat_add1
attribute [local simp ↓] numC_refs numC_isCell numC_cells numC_resB numC_resD numC_ren numC_closeC numC_isOwn
theorem natCmp_ok (a b : Nat) : Eval Try.prog 82 [natAV a, natAV b] (.ret (i64V (cmpN a b))) := by
  refine Eval.intro Try.func82 rfl Try.call82 _ _ (Nat.le_of_ble_eq_true rfl) (by simp [-map_take,-map_drop, AV.refs, refsL, natAV, push_cast]) fun hs0 => ?_
  have hsa : (limbs a).length ≤ 9223372036854775807 := by have := hs0.1; simp [-map_take,-map_drop, natAV, numC, AV.small, smallL] at this; exact this.1
  repeat' (first
    | with_reducible first | apply thenW_n | apply thenW_ret | apply W_seq | apply W_block | apply W_skip | apply W_ret
    | with_reducible refine W_rg ?_
    | (rw [vcn]; (try simp [-map_take,-map_drop, push_cast, natAV, numC, ← limbs.eq_1]); try simp (disch := omega) only [i64_in, u64_in, shr64i])
    | (with_reducible refine W_condW ?_; (try simp [-map_take,-map_drop, AS.val, upd, resB, mkS_env, mkS_box, lk, entry_env, condW_true, condW_false, natAV, numC, ← limbs.eq_1]))
    | ((with_reducible refine condW_b (fun hc => ?_) (fun hc => ?_) <;> (try simp [-map_take,-map_drop, Int.ofNat_inj] at hc) <;> (try contradiction)))
    | fail)
  · simp [-map_take,-map_drop, post, resAV, resAll, resOne, closeV, closeC, closeL, resD, resDL, push_cast, cmpN_lt (digits_length_mono B32_gt hc)]
  · have : (limbs b).length < (limbs a).length := by omega
    simp [-map_take,-map_drop, post, resAV, resAll, resOne, closeV, closeC, closeL, resD, resDL, push_cast, cmpN_gt (digits_length_mono B32_gt this)]
  refine W_loopW (X := Nat) (fun i => [(2, .bp 2 0), (3, .bp 3 0), (5, i64V ((i : Int) - 1))])
    (fun x => [(2, .mut 27 [natC a]), (3, .mut 27 [natC b])])
    (fun i => i) (fun i => i ≤ (limbs a).length ∧ (limbs a).drop i = (limbs b).drop i)
    (limbs a).length id ⟨Nat.le_refl _, by rw [List.drop_length, hc, List.drop_length]⟩ ⟨?_, ?_, ?_, ?_, ?_, ?_⟩ fun i hi => ?_
  all_goals first | (with_reducible refine W_id ?_) | (simp [-map_take,-map_drop, push_cast, dV_take, dV_drop, numC, ← limbs.eq_1]; done)
  obtain ⟨hi1, hi2⟩ := hi
  rcases Nat.eq_zero_or_pos i with h0 | h0
  · subst h0
    have hab : a = b := val_inj B32_gt (by simpa [-map_take,-map_drop, limbs] using hi2)
    repeat' (first
      | with_reducible first | apply thenW_n | apply thenW_exit | apply blockW_same | apply loopW_exit | apply W_seq | apply W_ret | apply W_exit
      | with_reducible refine W_rg ?_
      | (rw [vcn]; (try simp [-map_take,-map_drop, push_cast, numC, ← limbs.eq_1]))
      | (with_reducible refine W_condW ?_; (try simp [-map_take,-map_drop, AS.val, upd, resB, mkS_env, mkS_box, lk, entry_env, condW_true, condW_false, numC, ← limbs.eq_1]))
      | fail)
    simp [-map_take,-map_drop, post, resAV, resAll, resOne, closeV, closeC, closeL, resD, resDL, push_cast, cmpN_eq hab]
  · obtain ⟨j, rfl⟩ : ∃ j, i = j + 1 := ⟨i - 1, by omega⟩
    have hj : ((j + 1 : Nat) : Int) - 1 = (j : Int) := by omega
    have key := fun h => val_cmp_top (B := B32) (by decide) (limbs_lt a) (limbs_lt b) hc j (by omega) hi2 h
    have key2 := fun h => val_cmp_top (B := B32) (by decide) (limbs_lt b) (limbs_lt a) hc.symm j (by omega) hi2.symm h
    rw [val_limbs, val_limbs] at key key2
    repeat' (first
      | with_reducible first | apply thenW_n | apply thenW_ret | apply blockW_n | apply blockW_ret | apply loopW_ret | apply W_seq | apply W_block | apply W_skip | apply W_ret
      | with_reducible refine W_rg ?_
      | (rw [vcn]; (try simp [-map_take,-map_drop, push_cast, numC, ← limbs.eq_1, hj]); try simp (disch := omega) only [i64_in, u64_in, shr64i])
      | with_reducible refine W_drawn mixed (by decide) (by kernel_rfl) ?_
      | (rw [vcnD]; (try simp [-map_take,-map_drop, push_cast, numC, ← limbs.eq_1, hj]); try simp (disch := omega) only [i64_in, u64_in, shr64i])
      | (with_reducible refine W_condW ?_; (try simp [-map_take,-map_drop, AS.val, upd, resB, mkS_env, mkS_box, lk, entry_env, condW_true, condW_false, numC, ← limbs.eq_1, hj]))
      | (with_reducible refine optK_dV (by first | omega | (simp [-map_take,-map_drop]; omega)) ?_)
      | refine And.intro (by first | omega | kernel_rfl) ?_
      | ((with_reducible refine condW_b (fun hc => ?_) (fun hc => ?_) <;> (try simp [-map_take,-map_drop, Int.ofNat_inj] at hc) <;> (try contradiction)))
      | fail)
    · simp [-map_take,-map_drop, post, resAV, resAll, resOne, closeV, closeC, closeL, resD, resDL, push_cast, cmpN_lt (key hc)]
    · have hgt := key2 (by omega)
      simp [-map_take,-map_drop, post, resAV, resAll, resOne, closeV, closeC, closeL, resD, resDL, push_cast, cmpN_gt hgt]
    · refine loopW_n j id (by omega) ⟨by omega, ?_⟩ ⟨?_, ?_, ?_, ?_, ?_, ?_⟩
      · have hja : j < (limbs a).length := by omega
        have hjb : j < (limbs b).length := by omega
        rw [List.drop_eq_getElem_cons hja, List.drop_eq_getElem_cons hjb, hi2, ← dg_eq, ← dg_eq, hc]
      all_goals first | (simp [-map_take,-map_drop, push_cast, dV_take, dV_drop, numC, ← limbs.eq_1]; done)
end Go.Fw

/- The law RecordJoins comes to true. -/
import Derived.Test.YtjgbikhnnkigpaaQ9
set_option linter.unusedSimpArgs false
set_option linter.unusedVariables false
-- VALS: recAV
namespace Go.Fw
open Go Go.Proofs Go.IntWalk
set_option linter.unusedSimpArgs false
set_option maxRecDepth 100000
set_option maxHeartbeats 2000000
attribute [local push_cast] optK_some optK_none optK_ite optK_map optK_bind gOn stepK isMem evPure evMem evBin evUn evConv evLen evBuiltin evMinMax evSlice evBuild evAppend evIndex evIndexAddr evField evFieldAddr intBin strBin appDest AS.val AS.mem AS.elems AS.put AS.put' AS.eff AV.cells? AV.isCell AV.refs all_isByte take_byteV drop_byteV strOf_map bndOk bnd partAV ptrAdd killBox catA inOrder fillA setAt ofVal resB upd byteV List.head?_take List.head?_drop List.getElem?_map mkS_env mkS_box mkS_used entry_env entry_box entry_used lk stepD lookIds Oper.looksAt Op.operands Call.operands St.ids refsL renL_append dV_take dV_drop ren renL renBox Box.refs iV i64V boolV dV_getElem dV_app dV_cons toNat_add2 toNat_add1

theorem fewOk_bodies (m : List Rec) (h : fewOk m = true) : bodies m ≤ 400000 := by
  by_cases h0 : m.length = 0
  · have : m = [] := List.eq_nil_of_length_eq_zero h0
    subst this
    decide
  unfold fewOk at h
  rw [List.all_eq_true] at h
  have := h (m.length - 1) (by rw [List.mem_range]; omega)
  rw [Bool.and_eq_true, decide_eq_true_eq, decide_eq_true_eq, List.take_of_length_le (by omega)] at this
  exact this.2

theorem lawJoins_ok (f : Bool) (l : List Rec) : Eval Try.prog 6 [.slc f 3 l.length (recsCells l)] (.ret (.v (.bool true))) := by
  refine Eval.intro Try.func6 rfl Try.call6 _ _ (Nat.le_of_ble_eq_true rfl) (by simp [AV.refs, refsL, natAV, recAV, push_cast, -List.map_take, -List.map_drop]) fun hs0 => ?_
  have hfew := few_ok f l
  obtain ⟨g, hg⟩ : ∃ g, g = (f && decide (l.length ≤ 200)) := ⟨_, rfl⟩
  obtain ⟨m, hm⟩ : ∃ m, m = l.take 200 := ⟨_, rfl⟩
  have hml : m.length ≤ 200 := by rw [hm, List.length_take]; omega
  rw [← hg, ← hm] at hfew
  obtain ⟨n, hn⟩ : ∃ n, n = l.length := ⟨_, rfl⟩
  obtain ⟨L, hL⟩ : ∃ L, L = recsCells l := ⟨_, rfl⟩
  have hLr : refsL L = [] := by rw [hL]; exact recsCells_refs l
  rw [← hL, ← hn] at hfew ⊢
  by_cases hok : ¬ fewOk m = true
  · rw [fewAV, if_neg hok] at hfew
    repeat' (first
      | with_reducible first | refine thenW_n ?_ | refine thenW_ret ?_ | refine thenW_exit ?_ | refine thenW_panic ?_ | refine blockW_n ?_ | refine blockW_same ?_ | refine blockW_ret ?_ | refine blockW_panic ?_ | refine loopW_ret ?_ | refine loopW_exit ?_ | refine loopW_panic ?_ | refine joinW_ret ?_ | refine joinW_exit ?_ | refine joinW_panic ?_ | refine W_seq ?_ | refine W_block ?_ | refine W_skip ?_ | refine W_ret ?_ | refine W_exit ?_ | refine W_label ?_
      | with_reducible refine blockW_other (by decide) ?_
      | with_reducible refine W_region (by first | decide | (with_unfolding_all rfl)) ?_
      | (rw [vcn]; (try simp [push_cast, -List.map_take, -List.map_drop]); try simp (disch := omega) only [i64_in, u64_in, shr64i])
      | with_reducible refine W_drawn mixed (by decide) (by kernel_rfl) ?_
      | (rw [vcnD]; (try simp [push_cast, -List.map_take, -List.map_drop]); try simp (disch := omega) only [i64_in, u64_in, shr64i])
      | (with_reducible refine W_condW ?_; (try simp [AS.val, upd, resB, mkS_env, mkS_box, lk, entry_env, condW_true, condW_false]))
      | with_reducible refine optK_dV (by first | omega | (simp; omega)) ?_
      | with_reducible refine optK_dVh (by omega) ?_
      | refine And.intro (by first | omega | kernel_rfl) ?_
      | (with_reducible refine condW_b (fun hc => ?_) (fun hc => ?_) <;> (try simp [Int.ofNat_inj] at hc) <;> try contradiction)
      | fail)
    first | refine CallG_of (hfew) (by first | rfl | (simp [natAV, numC, ← limbs.eq_1, push_cast, -List.map_take, -List.map_drop, hLr]; done)) (by simp [natAV, recAV, AV.refs, refsL, push_cast, -List.map_take, -List.map_drop]) rfl ?_ | refine callD_of (hfew) (by first | rfl | (simp [natAV, numC, ← limbs.eq_1, push_cast, -List.map_take, -List.map_drop, hLr]; done)) (by simp [natAV, recAV, AV.refs, refsL, push_cast, -List.map_take, -List.map_drop]) rfl ?_
    try dsimp only
    repeat' (first
      | with_reducible first | refine thenW_n ?_ | refine thenW_ret ?_ | refine thenW_exit ?_ | refine thenW_panic ?_ | refine blockW_n ?_ | refine blockW_same ?_ | refine blockW_ret ?_ | refine blockW_panic ?_ | refine loopW_ret ?_ | refine loopW_exit ?_ | refine loopW_panic ?_ | refine joinW_ret ?_ | refine joinW_exit ?_ | refine joinW_panic ?_ | refine W_seq ?_ | refine W_block ?_ | refine W_skip ?_ | refine W_ret ?_ | refine W_exit ?_ | refine W_label ?_
      | with_reducible refine blockW_other (by decide) ?_
      | with_reducible refine W_region (by first | decide | (with_unfolding_all rfl)) ?_
      | (rw [vcn]; (try simp [push_cast, -List.map_take, -List.map_drop]); try simp (disch := omega) only [i64_in, u64_in, shr64i])
      | with_reducible refine W_drawn mixed (by decide) (by kernel_rfl) ?_
      | (rw [vcnD]; (try simp [push_cast, -List.map_take, -List.map_drop]); try simp (disch := omega) only [i64_in, u64_in, shr64i])
      | (with_reducible refine W_condW ?_; (try simp [AS.val, upd, resB, mkS_env, mkS_box, lk, entry_env, condW_true, condW_false]))
      | with_reducible refine optK_dV (by first | omega | (simp; omega)) ?_
      | with_reducible refine optK_dVh (by omega) ?_
      | refine And.intro (by first | omega | kernel_rfl) ?_
      | (with_reducible refine condW_b (fun hc => ?_) (fun hc => ?_) <;> (try simp [Int.ofNat_inj] at hc) <;> try contradiction)
      | fail)
    first | refine CallG_of (eval15) (by first | rfl | (simp [natAV, numC, ← limbs.eq_1, push_cast, -List.map_take, -List.map_drop]; done)) (by simp [natAV, recAV, AV.refs, refsL, push_cast, -List.map_take, -List.map_drop]) rfl ?_ | refine callD_of (eval15) (by first | rfl | (simp [natAV, numC, ← limbs.eq_1, push_cast, -List.map_take, -List.map_drop]; done)) (by simp [natAV, recAV, AV.refs, refsL, push_cast, -List.map_take, -List.map_drop]) rfl ?_
    try dsimp only
    repeat' (first
      | with_reducible first | refine thenW_n ?_ | refine thenW_ret ?_ | refine thenW_exit ?_ | refine thenW_panic ?_ | refine blockW_n ?_ | refine blockW_same ?_ | refine blockW_ret ?_ | refine blockW_panic ?_ | refine loopW_ret ?_ | refine loopW_exit ?_ | refine loopW_panic ?_ | refine joinW_ret ?_ | refine joinW_exit ?_ | refine joinW_panic ?_ | refine W_seq ?_ | refine W_block ?_ | refine W_skip ?_ | refine W_ret ?_ | refine W_exit ?_ | refine W_label ?_
      | with_reducible refine blockW_other (by decide) ?_
      | with_reducible refine W_region (by first | decide | (with_unfolding_all rfl)) ?_
      | (rw [vcn]; (try simp [push_cast, -List.map_take, -List.map_drop]); try simp (disch := omega) only [i64_in, u64_in, shr64i])
      | with_reducible refine W_drawn mixed (by decide) (by kernel_rfl) ?_
      | (rw [vcnD]; (try simp [push_cast, -List.map_take, -List.map_drop]); try simp (disch := omega) only [i64_in, u64_in, shr64i])
      | (with_reducible refine W_condW ?_; (try simp [AS.val, upd, resB, mkS_env, mkS_box, lk, entry_env, condW_true, condW_false]))
      | with_reducible refine optK_dV (by first | omega | (simp; omega)) ?_
      | with_reducible refine optK_dVh (by omega) ?_
      | refine And.intro (by first | omega | kernel_rfl) ?_
      | (with_reducible refine condW_b (fun hc => ?_) (fun hc => ?_) <;> (try simp [Int.ofNat_inj] at hc) <;> try contradiction)
      | fail)
    first | refine CallG_of (eval15) (by first | rfl | (simp [natAV, numC, ← limbs.eq_1, push_cast, -List.map_take, -List.map_drop]; done)) (by simp [natAV, recAV, AV.refs, refsL, push_cast, -List.map_take, -List.map_drop]) rfl ?_ | refine callD_of (eval15) (by first | rfl | (simp [natAV, numC, ← limbs.eq_1, push_cast, -List.map_take, -List.map_drop]; done)) (by simp [natAV, recAV, AV.refs, refsL, push_cast, -List.map_take, -List.map_drop]) rfl ?_
    try dsimp only
    repeat' (first
      | with_reducible first | refine thenW_n ?_ | refine thenW_ret ?_ | refine thenW_exit ?_ | refine thenW_panic ?_ | refine blockW_n ?_ | refine blockW_same ?_ | refine blockW_ret ?_ | refine blockW_panic ?_ | refine loopW_ret ?_ | refine loopW_exit ?_ | refine loopW_panic ?_ | refine joinW_ret ?_ | refine joinW_exit ?_ | refine joinW_panic ?_ | refine W_seq ?_ | refine W_block ?_ | refine W_skip ?_ | refine W_ret ?_ | refine W_exit ?_ | refine W_label ?_
      | with_reducible refine blockW_other (by decide) ?_
      | with_reducible refine W_region (by first | decide | (with_unfolding_all rfl)) ?_
      | (rw [vcn]; (try simp [push_cast, -List.map_take, -List.map_drop]); try simp (disch := omega) only [i64_in, u64_in, shr64i])
      | with_reducible refine W_drawn mixed (by decide) (by kernel_rfl) ?_
      | (rw [vcnD]; (try simp [push_cast, -List.map_take, -List.map_drop]); try simp (disch := omega) only [i64_in, u64_in, shr64i])
      | (with_reducible refine W_condW ?_; (try simp [AS.val, upd, resB, mkS_env, mkS_box, lk, entry_env, condW_true, condW_false]))
      | with_reducible refine optK_dV (by first | omega | (simp; omega)) ?_
      | with_reducible refine optK_dVh (by omega) ?_
      | refine And.intro (by first | omega | kernel_rfl) ?_
      | (with_reducible refine condW_b (fun hc => ?_) (fun hc => ?_) <;> (try simp [Int.ofNat_inj] at hc) <;> try contradiction)
      | fail)
    simp [post, resAV, resAll, resOne, closeV, closeC, closeL, resD, resDL, push_cast, -List.map_take, -List.map_drop]
  have hok : fewOk m = true := by simpa using hok
  rw [fewAV, if_pos hok] at hfew
  have hjl : (joinB m).length ≤ 100000000 := by rw [joinB_len]; have := fewOk_bodies m hok; omega
  have hj1 := join_ok g m hjl (by omega)
  have hj2 := refJoin_ok g m hjl (by omega)
  clear hg hm hL hn
  obtain ⟨k, hk⟩ : ∃ k, k = m.length := ⟨_, rfl⟩
  obtain ⟨K, hK⟩ : ∃ K, K = recsCells m := ⟨_, rfl⟩
  have hKr : refsL K = [] := by rw [hK]; exact recsCells_refs m
  rw [← hk, ← hK] at hfew hj1 hj2
  clear hK hk hml
  by_cases hjo : joinOk m = true
  · rw [joinAV, if_pos hjo] at hj1 hj2
    generalize joinB m = B at hj1 hj2 hjl
    repeat' (first
      | with_reducible first | refine thenW_n ?_ | refine thenW_ret ?_ | refine thenW_exit ?_ | refine thenW_panic ?_ | refine blockW_n ?_ | refine blockW_same ?_ | refine blockW_ret ?_ | refine blockW_panic ?_ | refine loopW_ret ?_ | refine loopW_exit ?_ | refine loopW_panic ?_ | refine joinW_ret ?_ | refine joinW_exit ?_ | refine joinW_panic ?_ | refine W_seq ?_ | refine W_block ?_ | refine W_skip ?_ | refine W_ret ?_ | refine W_exit ?_ | refine W_label ?_
      | with_reducible refine blockW_other (by decide) ?_
      | with_reducible refine W_region (by first | decide | (with_unfolding_all rfl)) ?_
      | (rw [vcn]; (try simp [push_cast, -List.map_take, -List.map_drop]); try simp (disch := omega) only [i64_in, u64_in, shr64i])
      | with_reducible refine W_drawn mixed (by decide) (by kernel_rfl) ?_
      | (rw [vcnD]; (try simp [push_cast, -List.map_take, -List.map_drop]); try simp (disch := omega) only [i64_in, u64_in, shr64i])
      | (with_reducible refine W_condW ?_; (try simp [AS.val, upd, resB, mkS_env, mkS_box, lk, entry_env, condW_true, condW_false]))
      | with_reducible refine optK_dV (by first | omega | (simp; omega)) ?_
      | with_reducible refine optK_dVh (by omega) ?_
      | refine And.intro (by first | omega | kernel_rfl) ?_
      | (with_reducible refine condW_b (fun hc => ?_) (fun hc => ?_) <;> (try simp [Int.ofNat_inj] at hc) <;> try contradiction)
      | fail)
    first | refine CallG_of (hfew) (by first | rfl | (simp [natAV, numC, ← limbs.eq_1, push_cast, -List.map_take, -List.map_drop, hLr]; done)) (by simp [natAV, recAV, AV.refs, refsL, push_cast, -List.map_take, -List.map_drop]) rfl ?_ | refine callD_of (hfew) (by first | rfl | (simp [natAV, numC, ← limbs.eq_1, push_cast, -List.map_take, -List.map_drop, hLr]; done)) (by simp [natAV, recAV, AV.refs, refsL, push_cast, -List.map_take, -List.map_drop]) rfl ?_
    try dsimp only
    repeat' (first
      | with_reducible first | refine thenW_n ?_ | refine thenW_ret ?_ | refine thenW_exit ?_ | refine thenW_panic ?_ | refine blockW_n ?_ | refine blockW_same ?_ | refine blockW_ret ?_ | refine blockW_panic ?_ | refine loopW_ret ?_ | refine loopW_exit ?_ | refine loopW_panic ?_ | refine joinW_ret ?_ | refine joinW_exit ?_ | refine joinW_panic ?_ | refine W_seq ?_ | refine W_block ?_ | refine W_skip ?_ | refine W_ret ?_ | refine W_exit ?_ | refine W_label ?_
      | with_reducible refine blockW_other (by decide) ?_
      | with_reducible refine W_region (by first | decide | (with_unfolding_all rfl)) ?_
      | (rw [vcn]; (try simp [push_cast, -List.map_take, -List.map_drop]); try simp (disch := omega) only [i64_in, u64_in, shr64i])
      | with_reducible refine W_drawn mixed (by decide) (by kernel_rfl) ?_
      | (rw [vcnD]; (try simp [push_cast, -List.map_take, -List.map_drop]); try simp (disch := omega) only [i64_in, u64_in, shr64i])
      | (with_reducible refine W_condW ?_; (try simp [AS.val, upd, resB, mkS_env, mkS_box, lk, entry_env, condW_true, condW_false]))
      | with_reducible refine optK_dV (by first | omega | (simp; omega)) ?_
      | with_reducible refine optK_dVh (by omega) ?_
      | refine And.intro (by first | omega | kernel_rfl) ?_
      | (with_reducible refine condW_b (fun hc => ?_) (fun hc => ?_) <;> (try simp [Int.ofNat_inj] at hc) <;> try contradiction)
      | fail)
    first | refine CallG_of (eval15) (by first | rfl | (simp [natAV, numC, ← limbs.eq_1, push_cast, -List.map_take, -List.map_drop]; done)) (by simp [natAV, recAV, AV.refs, refsL, push_cast, -List.map_take, -List.map_drop]) rfl ?_ | refine callD_of (eval15) (by first | rfl | (simp [natAV, numC, ← limbs.eq_1, push_cast, -List.map_take, -List.map_drop]; done)) (by simp [natAV, recAV, AV.refs, refsL, push_cast, -List.map_take, -List.map_drop]) rfl ?_
    try dsimp only
    repeat' (first
      | with_reducible first | refine thenW_n ?_ | refine thenW_ret ?_ | refine thenW_exit ?_ | refine thenW_panic ?_ | refine blockW_n ?_ | refine blockW_same ?_ | refine blockW_ret ?_ | refine blockW_panic ?_ | refine loopW_ret ?_ | refine loopW_exit ?_ | refine loopW_panic ?_ | refine joinW_ret ?_ | refine joinW_exit ?_ | refine joinW_panic ?_ | refine W_seq ?_ | refine W_block ?_ | refine W_skip ?_ | refine W_ret ?_ | refine W_exit ?_ | refine W_label ?_
      | with_reducible refine blockW_other (by decide) ?_
      | with_reducible refine W_region (by first | decide | (with_unfolding_all rfl)) ?_
      | (rw [vcn]; (try simp [push_cast, -List.map_take, -List.map_drop]); try simp (disch := omega) only [i64_in, u64_in, shr64i])
      | with_reducible refine W_drawn mixed (by decide) (by kernel_rfl) ?_
      | (rw [vcnD]; (try simp [push_cast, -List.map_take, -List.map_drop]); try simp (disch := omega) only [i64_in, u64_in, shr64i])
      | (with_reducible refine W_condW ?_; (try simp [AS.val, upd, resB, mkS_env, mkS_box, lk, entry_env, condW_true, condW_false]))
      | with_reducible refine optK_dV (by first | omega | (simp; omega)) ?_
      | with_reducible refine optK_dVh (by omega) ?_
      | refine And.intro (by first | omega | kernel_rfl) ?_
      | (with_reducible refine condW_b (fun hc => ?_) (fun hc => ?_) <;> (try simp [Int.ofNat_inj] at hc) <;> try contradiction)
      | fail)
    first | refine CallG_of (hj1) (by first | rfl | (simp [natAV, numC, ← limbs.eq_1, push_cast, -List.map_take, -List.map_drop, hKr]; done)) (by simp [natAV, recAV, AV.refs, refsL, push_cast, -List.map_take, -List.map_drop]) rfl ?_ | refine callD_of (hj1) (by first | rfl | (simp [natAV, numC, ← limbs.eq_1, push_cast, -List.map_take, -List.map_drop, hKr]; done)) (by simp [natAV, recAV, AV.refs, refsL, push_cast, -List.map_take, -List.map_drop]) rfl ?_
    try dsimp only
    repeat' (first
      | with_reducible first | refine thenW_n ?_ | refine thenW_ret ?_ | refine thenW_exit ?_ | refine thenW_panic ?_ | refine blockW_n ?_ | refine blockW_same ?_ | refine blockW_ret ?_ | refine blockW_panic ?_ | refine loopW_ret ?_ | refine loopW_exit ?_ | refine loopW_panic ?_ | refine joinW_ret ?_ | refine joinW_exit ?_ | refine joinW_panic ?_ | refine W_seq ?_ | refine W_block ?_ | refine W_skip ?_ | refine W_ret ?_ | refine W_exit ?_ | refine W_label ?_
      | with_reducible refine blockW_other (by decide) ?_
      | with_reducible refine W_region (by first | decide | (with_unfolding_all rfl)) ?_
      | (rw [vcn]; (try simp [push_cast, -List.map_take, -List.map_drop]); try simp (disch := omega) only [i64_in, u64_in, shr64i])
      | with_reducible refine W_drawn mixed (by decide) (by kernel_rfl) ?_
      | (rw [vcnD]; (try simp [push_cast, -List.map_take, -List.map_drop]); try simp (disch := omega) only [i64_in, u64_in, shr64i])
      | (with_reducible refine W_condW ?_; (try simp [AS.val, upd, resB, mkS_env, mkS_box, lk, entry_env, condW_true, condW_false]))
      | with_reducible refine optK_dV (by first | omega | (simp; omega)) ?_
      | with_reducible refine optK_dVh (by omega) ?_
      | refine And.intro (by first | omega | kernel_rfl) ?_
      | (with_reducible refine condW_b (fun hc => ?_) (fun hc => ?_) <;> (try simp [Int.ofNat_inj] at hc) <;> try contradiction)
      | fail)
    first | refine CallG_of (hj2) (by first | rfl | (simp [natAV, numC, ← limbs.eq_1, push_cast, -List.map_take, -List.map_drop, hKr]; done)) (by simp [natAV, recAV, AV.refs, refsL, push_cast, -List.map_take, -List.map_drop]) rfl ?_ | refine callD_of (hj2) (by first | rfl | (simp [natAV, numC, ← limbs.eq_1, push_cast, -List.map_take, -List.map_drop, hKr]; done)) (by simp [natAV, recAV, AV.refs, refsL, push_cast, -List.map_take, -List.map_drop]) rfl ?_
    try dsimp only
    repeat' (first
      | with_reducible first | refine thenW_n ?_ | refine thenW_ret ?_ | refine thenW_exit ?_ | refine thenW_panic ?_ | refine blockW_n ?_ | refine blockW_same ?_ | refine blockW_ret ?_ | refine blockW_panic ?_ | refine loopW_ret ?_ | refine loopW_exit ?_ | refine loopW_panic ?_ | refine joinW_ret ?_ | refine joinW_exit ?_ | refine joinW_panic ?_ | refine W_seq ?_ | refine W_block ?_ | refine W_skip ?_ | refine W_ret ?_ | refine W_exit ?_ | refine W_label ?_
      | with_reducible refine blockW_other (by decide) ?_
      | with_reducible refine W_region (by first | decide | (with_unfolding_all rfl)) ?_
      | (rw [vcn]; (try simp [push_cast, -List.map_take, -List.map_drop]); try simp (disch := omega) only [i64_in, u64_in, shr64i])
      | with_reducible refine W_drawn mixed (by decide) (by kernel_rfl) ?_
      | (rw [vcnD]; (try simp [push_cast, -List.map_take, -List.map_drop]); try simp (disch := omega) only [i64_in, u64_in, shr64i])
      | (with_reducible refine W_condW ?_; (try simp [AS.val, upd, resB, mkS_env, mkS_box, lk, entry_env, condW_true, condW_false]))
      | with_reducible refine optK_dV (by first | omega | (simp; omega)) ?_
      | with_reducible refine optK_dVh (by omega) ?_
      | refine And.intro (by first | omega | kernel_rfl) ?_
      | (with_reducible refine condW_b (fun hc => ?_) (fun hc => ?_) <;> (try simp [Int.ofNat_inj] at hc) <;> try contradiction)
      | fail)
    simp [post, resAV, resAll, resOne, closeV, closeC, closeL, resD, resDL, push_cast, -List.map_take, -List.map_drop]
  rw [joinAV, if_neg hjo] at hj1 hj2
  repeat' (first
    | with_reducible first | refine thenW_n ?_ | refine thenW_ret ?_ | refine thenW_exit ?_ | refine thenW_panic ?_ | refine blockW_n ?_ | refine blockW_same ?_ | refine blockW_ret ?_ | refine blockW_panic ?_ | refine loopW_ret ?_ | refine loopW_exit ?_ | refine loopW_panic ?_ | refine joinW_ret ?_ | refine joinW_exit ?_ | refine joinW_panic ?_ | refine W_seq ?_ | refine W_block ?_ | refine W_skip ?_ | refine W_ret ?_ | refine W_exit ?_ | refine W_label ?_
    | with_reducible refine blockW_other (by decide) ?_
    | with_reducible refine W_region (by first | decide | (with_unfolding_all rfl)) ?_
    | (rw [vcn]; (try simp [push_cast, -List.map_take, -List.map_drop]); try simp (disch := omega) only [i64_in, u64_in, shr64i])
    | with_reducible refine W_drawn mixed (by decide) (by kernel_rfl) ?_
    | (rw [vcnD]; (try simp [push_cast, -List.map_take, -List.map_drop]); try simp (disch := omega) only [i64_in, u64_in, shr64i])
    | (with_reducible refine W_condW ?_; (try simp [AS.val, upd, resB, mkS_env, mkS_box, lk, entry_env, condW_true, condW_false]))
    | with_reducible refine optK_dV (by first | omega | (simp; omega)) ?_
    | with_reducible refine optK_dVh (by omega) ?_
    | refine And.intro (by first | omega | kernel_rfl) ?_
    | (with_reducible refine condW_b (fun hc => ?_) (fun hc => ?_) <;> (try simp [Int.ofNat_inj] at hc) <;> try contradiction)
    | fail)
  first | refine CallG_of (hfew) (by first | rfl | (simp [natAV, numC, ← limbs.eq_1, push_cast, -List.map_take, -List.map_drop, hLr]; done)) (by simp [natAV, recAV, AV.refs, refsL, push_cast, -List.map_take, -List.map_drop]) rfl ?_ | refine callD_of (hfew) (by first | rfl | (simp [natAV, numC, ← limbs.eq_1, push_cast, -List.map_take, -List.map_drop, hLr]; done)) (by simp [natAV, recAV, AV.refs, refsL, push_cast, -List.map_take, -List.map_drop]) rfl ?_
  try dsimp only
  repeat' (first
    | with_reducible first | refine thenW_n ?_ | refine thenW_ret ?_ | refine thenW_exit ?_ | refine thenW_panic ?_ | refine blockW_n ?_ | refine blockW_same ?_ | refine blockW_ret ?_ | refine blockW_panic ?_ | refine loopW_ret ?_ | refine loopW_exit ?_ | refine loopW_panic ?_ | refine joinW_ret ?_ | refine joinW_exit ?_ | refine joinW_panic ?_ | refine W_seq ?_ | refine W_block ?_ | refine W_skip ?_ | refine W_ret ?_ | refine W_exit ?_ | refine W_label ?_
    | with_reducible refine blockW_other (by decide) ?_
    | with_reducible refine W_region (by first | decide | (with_unfolding_all rfl)) ?_
    | (rw [vcn]; (try simp [push_cast, -List.map_take, -List.map_drop]); try simp (disch := omega) only [i64_in, u64_in, shr64i])
    | with_reducible refine W_drawn mixed (by decide) (by kernel_rfl) ?_
    | (rw [vcnD]; (try simp [push_cast, -List.map_take, -List.map_drop]); try simp (disch := omega) only [i64_in, u64_in, shr64i])
    | (with_reducible refine W_condW ?_; (try simp [AS.val, upd, resB, mkS_env, mkS_box, lk, entry_env, condW_true, condW_false]))
    | with_reducible refine optK_dV (by first | omega | (simp; omega)) ?_
    | with_reducible refine optK_dVh (by omega) ?_
    | refine And.intro (by first | omega | kernel_rfl) ?_
    | (with_reducible refine condW_b (fun hc => ?_) (fun hc => ?_) <;> (try simp [Int.ofNat_inj] at hc) <;> try contradiction)
    | fail)
  first | refine CallG_of (eval15) (by first | rfl | (simp [natAV, numC, ← limbs.eq_1, push_cast, -List.map_take, -List.map_drop]; done)) (by simp [natAV, recAV, AV.refs, refsL, push_cast, -List.map_take, -List.map_drop]) rfl ?_ | refine callD_of (eval15) (by first | rfl | (simp [natAV, numC, ← limbs.eq_1, push_cast, -List.map_take, -List.map_drop]; done)) (by simp [natAV, recAV, AV.refs, refsL, push_cast, -List.map_take, -List.map_drop]) rfl ?_
  try dsimp only
  repeat' (first
    | with_reducible first | refine thenW_n ?_ | refine thenW_ret ?_ | refine thenW_exit ?_ | refine thenW_panic ?_ | refine blockW_n ?_ | refine blockW_same ?_ | refine blockW_ret ?_ | refine blockW_panic ?_ | refine loopW_ret ?_ | refine loopW_exit ?_ | refine loopW_panic ?_ | refine joinW_ret ?_ | refine joinW_exit ?_ | refine joinW_panic ?_ | refine W_seq ?_ | refine W_block ?_ | refine W_skip ?_ | refine W_ret ?_ | refine W_exit ?_ | refine W_label ?_
    | with_reducible refine blockW_other (by decide) ?_
    | with_reducible refine W_region (by first | decide | (with_unfolding_all rfl)) ?_
    | (rw [vcn]; (try simp [push_cast, -List.map_take, -List.map_drop]); try simp (disch := omega) only [i64_in, u64_in, shr64i])
    | with_reducible refine W_drawn mixed (by decide) (by kernel_rfl) ?_
    | (rw [vcnD]; (try simp [push_cast, -List.map_take, -List.map_drop]); try simp (disch := omega) only [i64_in, u64_in, shr64i])
    | (with_reducible refine W_condW ?_; (try simp [AS.val, upd, resB, mkS_env, mkS_box, lk, entry_env, condW_true, condW_false]))
    | with_reducible refine optK_dV (by first | omega | (simp; omega)) ?_
    | with_reducible refine optK_dVh (by omega) ?_
    | refine And.intro (by first | omega | kernel_rfl) ?_
    | (with_reducible refine condW_b (fun hc => ?_) (fun hc => ?_) <;> (try simp [Int.ofNat_inj] at hc) <;> try contradiction)
    | fail)
  first | refine CallG_of (hj1) (by first | rfl | (simp [natAV, numC, ← limbs.eq_1, push_cast, -List.map_take, -List.map_drop, hKr]; done)) (by simp [natAV, recAV, AV.refs, refsL, push_cast, -List.map_take, -List.map_drop]) rfl ?_ | refine callD_of (hj1) (by first | rfl | (simp [natAV, numC, ← limbs.eq_1, push_cast, -List.map_take, -List.map_drop, hKr]; done)) (by simp [natAV, recAV, AV.refs, refsL, push_cast, -List.map_take, -List.map_drop]) rfl ?_
  try dsimp only
  repeat' (first
    | with_reducible first | refine thenW_n ?_ | refine thenW_ret ?_ | refine thenW_exit ?_ | refine thenW_panic ?_ | refine blockW_n ?_ | refine blockW_same ?_ | refine blockW_ret ?_ | refine blockW_panic ?_ | refine loopW_ret ?_ | refine loopW_exit ?_ | refine loopW_panic ?_ | refine joinW_ret ?_ | refine joinW_exit ?_ | refine joinW_panic ?_ | refine W_seq ?_ | refine W_block ?_ | refine W_skip ?_ | refine W_ret ?_ | refine W_exit ?_ | refine W_label ?_
    | with_reducible refine blockW_other (by decide) ?_
    | with_reducible refine W_region (by first | decide | (with_unfolding_all rfl)) ?_
    | (rw [vcn]; (try simp [push_cast, -List.map_take, -List.map_drop]); try simp (disch := omega) only [i64_in, u64_in, shr64i])
    | with_reducible refine W_drawn mixed (by decide) (by kernel_rfl) ?_
    | (rw [vcnD]; (try simp [push_cast, -List.map_take, -List.map_drop]); try simp (disch := omega) only [i64_in, u64_in, shr64i])
    | (with_reducible refine W_condW ?_; (try simp [AS.val, upd, resB, mkS_env, mkS_box, lk, entry_env, condW_true, condW_false]))
    | with_reducible refine optK_dV (by first | omega | (simp; omega)) ?_
    | with_reducible refine optK_dVh (by omega) ?_
    | refine And.intro (by first | omega | kernel_rfl) ?_
    | (with_reducible refine condW_b (fun hc => ?_) (fun hc => ?_) <;> (try simp [Int.ofNat_inj] at hc) <;> try contradiction)
    | fail)
  first | refine CallG_of (hj2) (by first | rfl | (simp [natAV, numC, ← limbs.eq_1, push_cast, -List.map_take, -List.map_drop, hKr]; done)) (by simp [natAV, recAV, AV.refs, refsL, push_cast, -List.map_take, -List.map_drop]) rfl ?_ | refine callD_of (hj2) (by first | rfl | (simp [natAV, numC, ← limbs.eq_1, push_cast, -List.map_take, -List.map_drop, hKr]; done)) (by simp [natAV, recAV, AV.refs, refsL, push_cast, -List.map_take, -List.map_drop]) rfl ?_
  try dsimp only
  repeat' (first
    | with_reducible first | refine thenW_n ?_ | refine thenW_ret ?_ | refine thenW_exit ?_ | refine thenW_panic ?_ | refine blockW_n ?_ | refine blockW_same ?_ | refine blockW_ret ?_ | refine blockW_panic ?_ | refine loopW_ret ?_ | refine loopW_exit ?_ | refine loopW_panic ?_ | refine joinW_ret ?_ | refine joinW_exit ?_ | refine joinW_panic ?_ | refine W_seq ?_ | refine W_block ?_ | refine W_skip ?_ | refine W_ret ?_ | refine W_exit ?_ | refine W_label ?_
    | with_reducible refine blockW_other (by decide) ?_
    | with_reducible refine W_region (by first | decide | (with_unfolding_all rfl)) ?_
    | (rw [vcn]; (try simp [push_cast, -List.map_take, -List.map_drop]); try simp (disch := omega) only [i64_in, u64_in, shr64i])
    | with_reducible refine W_drawn mixed (by decide) (by kernel_rfl) ?_
    | (rw [vcnD]; (try simp [push_cast, -List.map_take, -List.map_drop]); try simp (disch := omega) only [i64_in, u64_in, shr64i])
    | (with_reducible refine W_condW ?_; (try simp [AS.val, upd, resB, mkS_env, mkS_box, lk, entry_env, condW_true, condW_false]))
    | with_reducible refine optK_dV (by first | omega | (simp; omega)) ?_
    | with_reducible refine optK_dVh (by omega) ?_
    | refine And.intro (by first | omega | kernel_rfl) ?_
    | (with_reducible refine condW_b (fun hc => ?_) (fun hc => ?_) <;> (try simp [Int.ofNat_inj] at hc) <;> try contradiction)
    | fail)
  simp [post, resAV, resAll, resOne, closeV, closeC, closeL, resD, resDL, push_cast, -List.map_take, -List.map_drop]
end Go.Fw

/- Texts of numbers and points. -/
import Derived.Test.YtbabekaohfcjbaaX1
import Derived.Test.YtbabekaohfcjbaaR8
set_option linter.unusedSimpArgs false
set_option linter.unusedVariables false
-- VALS: zAV, zC, ratAV, ratC, ptAV, ptC
namespace Go.Fw
open Go Go.Proofs Go.IntWalk
set_option linter.unusedSimpArgs false
set_option maxRecDepth 100000
set_option maxHeartbeats 20000000

/-- A number's text. -/
def intText (z : Int) : List Nat := if z < 0 then 45 :: natText z.natAbs else natText z.natAbs
/-- A quotient's text. -/
def ratText (q : Rat) : List Nat := if q.den = 1 then intText q.num else intText q.num ++ (47 :: natText q.den)
def ptText (p : FP) : List Nat := ratText p.x.q ++ (32 :: ratText p.y.q)
theorem intText_len (z : Int) : (intText z).length ≤ 10 * (limbs z.natAbs).length + 2 := by
  have := natText_len z.natAbs
  unfold intText
  split
  · rw [List.length_cons]; omega
  · omega
theorem ratText_len (q : Rat) : (ratText q).length ≤ 10 * szQ q + 4 := by
  have h1 := intText_len q.num
  have h2 := natText_len q.den
  unfold ratText szQ
  split
  · omega
  · rw [List.length_append, List.length_cons]; omega

open List (map_take map_drop)
attribute [local push_cast] optK_some optK_none optK_ite optK_map optK_bind gOn stepK isMem evPure evMem evBin evUn evConv evLen evBuiltin evMinMax evSlice evBuild evAppend evIndex evIndexAddr evField evFieldAddr intBin strBin appDest AS.val AS.mem AS.elems AS.put AS.put' AS.eff AV.cells? AV.isCell AV.refs all_isByte take_byteV drop_byteV strOf_map bndOk bnd partAV ptrAdd killBox catA inOrder fillA setAt ofVal resB upd byteV List.head?_take List.head?_drop List.getElem?_map mkS_env mkS_box mkS_used entry_env entry_box entry_used lk stepD lookIds Oper.looksAt Op.operands Call.operands St.ids refsL renL_append ren renL renBox Box.refs iV i64V boolV dV_getElem dV_app dV_cons toNat_add2 toNat_add1
attribute [local simp ↓] numC_refs numC_isCell numC_cells numC_resB numC_resD numC_ren numC_closeC numC_isOwn
theorem zedText_ok (z : Int) (h : (limbs z.natAbs).length ≤ 1000000) : Eval Try.prog 61 [zAV z] (.ret (strD (intText z))) := by
  refine Eval.intro Try.func61 rfl Try.call61 _ _ (Nat.le_of_ble_eq_true rfl) (by simp [-map_take,-map_drop, AV.refs, refsL, natAV, zAV, zC, ratAV, ratC, ptAV, ptC, push_cast]) fun hs0 => ?_
  have e1 := natText_ok z.natAbs h (by have := decD_len z.natAbs; omega)
  have hl := natText_len z.natAbs
  obtain ⟨L, hL⟩ : ∃ L, L = natText z.natAbs := ⟨_, rfl⟩
  rw [← hL] at e1 hl
  by_cases h0 : z < 0
  · have g1 : (z < 0) = True := eq_true h0
    have hr : intText z = 45 :: L := by rw [intText, if_pos h0, ← hL]
    have hb : (⟨#[45]⟩ : ByteArray) = bytesD [45] := rfl
    have hs : (bytesD L).size ≤ 9223372036854775806 := by rw [bytesD_size]; omega
    rw [hr]
    repeat' (first
      | with_reducible first | apply thenW_n | apply thenW_ret | apply thenW_exit | apply thenW_panic | apply blockW_n | apply blockW_same | apply blockW_ret | apply blockW_panic | apply loopW_ret | apply loopW_exit | apply loopW_panic | apply joinW_ret | apply joinW_exit | apply joinW_panic | apply W_seq | apply W_block | apply W_skip | apply W_ret | apply W_exit | apply W_label
      | with_reducible refine blockW_other (by decide) ?_
      | with_reducible refine W_region (by first | decide | (with_unfolding_all rfl)) ?_
      | (rw [vcn]; (try simp [-map_take,-map_drop, push_cast, zAV, zC, g1]); try simp (disch := omega) only [i64_in, u64_in, shr64i])
      | with_reducible refine W_drawn mixed (by decide) (by kernel_rfl) ?_
      | (rw [vcnD]; (try simp [-map_take,-map_drop, push_cast, zAV, zC, g1]); try simp (disch := omega) only [i64_in, u64_in, shr64i])
      | (with_reducible refine W_condW ?_; (try simp [-map_take,-map_drop, AS.val, upd, resB, mkS_env, mkS_box, lk, entry_env, condW_true, condW_false, zAV, zC, g1]))
      | (with_reducible refine optK_dV (by first | omega | (simp [-map_take,-map_drop]; omega)) ?_)
      | with_reducible refine optK_dVh (by omega) ?_
      | refine And.intro (by first | omega | kernel_rfl) ?_
      | ((with_reducible refine condW_b (fun hc => ?_) (fun hc => ?_) <;> (try simp [-map_take,-map_drop, Int.ofNat_inj] at hc) <;> (try contradiction)))
      | fail)
    first | refine CallG_of (e1) ?_ ?_ rfl ?_ | refine callD_of (e1) ?_ ?_ rfl ?_
    · first | rfl | (simp [-map_take,-map_drop, natAV, numC, ← limbs.eq_1, push_cast]; done)
    · first | rfl | simp [-map_take,-map_drop, natAV, zAV, zC, ratAV, ratC, ptAV, ptC, AV.refs, refsL, push_cast]
    try dsimp only
    repeat' (first
      | with_reducible first | apply thenW_n | apply thenW_ret | apply thenW_exit | apply thenW_panic | apply blockW_n | apply blockW_same | apply blockW_ret | apply blockW_panic | apply loopW_ret | apply loopW_exit | apply loopW_panic | apply joinW_ret | apply joinW_exit | apply joinW_panic | apply W_seq | apply W_block | apply W_skip | apply W_ret | apply W_exit | apply W_label
      | with_reducible refine blockW_other (by decide) ?_
      | with_reducible refine W_region (by first | decide | (with_unfolding_all rfl)) ?_
      | (rw [vcn]; (try simp [-map_take,-map_drop, push_cast, strD, hb, bytesD_size, bytesD_add]); try simp (disch := omega) only [i64_in, u64_in, shr64i])
      | with_reducible refine W_drawn mixed (by decide) (by kernel_rfl) ?_
      | (rw [vcnD]; (try simp [-map_take,-map_drop, push_cast, strD, hb, bytesD_size, bytesD_add]); try simp (disch := omega) only [i64_in, u64_in, shr64i])
      | (with_reducible refine W_condW ?_; (try simp [-map_take,-map_drop, AS.val, upd, resB, mkS_env, mkS_box, lk, entry_env, condW_true, condW_false, strD, hb, bytesD_size, bytesD_add]))
      | (with_reducible refine optK_dV (by first | omega | (simp [-map_take,-map_drop]; omega)) ?_)
      | with_reducible refine optK_dVh (by omega) ?_
      | refine And.intro (by first | omega | kernel_rfl) ?_
      | ((with_reducible refine condW_b (fun hc => ?_) (fun hc => ?_) <;> (try simp [-map_take,-map_drop, Int.ofNat_inj] at hc) <;> (try contradiction)))
      | fail)
    simp [-map_take,-map_drop, post, resAV, resAll, resOne, closeV, closeC, closeL, resD, resDL, push_cast, strD]
  · have g1 : (z < 0) = False := eq_false h0
    have hr : intText z = L := by rw [intText, if_neg h0, ← hL]
    rw [hr]
    repeat' (first
      | with_reducible first | apply thenW_n | apply thenW_ret | apply thenW_exit | apply thenW_panic | apply blockW_n | apply blockW_same | apply blockW_ret | apply blockW_panic | apply loopW_ret | apply loopW_exit | apply loopW_panic | apply joinW_ret | apply joinW_exit | apply joinW_panic | apply W_seq | apply W_block | apply W_skip | apply W_ret | apply W_exit | apply W_label
      | with_reducible refine blockW_other (by decide) ?_
      | with_reducible refine W_region (by first | decide | (with_unfolding_all rfl)) ?_
      | (rw [vcn]; (try simp [-map_take,-map_drop, push_cast, zAV, zC, g1]); try simp (disch := omega) only [i64_in, u64_in, shr64i])
      | with_reducible refine W_drawn mixed (by decide) (by kernel_rfl) ?_
      | (rw [vcnD]; (try simp [-map_take,-map_drop, push_cast, zAV, zC, g1]); try simp (disch := omega) only [i64_in, u64_in, shr64i])
      | (with_reducible refine W_condW ?_; (try simp [-map_take,-map_drop, AS.val, upd, resB, mkS_env, mkS_box, lk, entry_env, condW_true, condW_false, zAV, zC, g1]))
      | (with_reducible refine optK_dV (by first | omega | (simp [-map_take,-map_drop]; omega)) ?_)
      | with_reducible refine optK_dVh (by omega) ?_
      | refine And.intro (by first | omega | kernel_rfl) ?_
      | ((with_reducible refine condW_b (fun hc => ?_) (fun hc => ?_) <;> (try simp [-map_take,-map_drop, Int.ofNat_inj] at hc) <;> (try contradiction)))
      | fail)
    first | refine CallG_of (e1) ?_ ?_ rfl ?_ | refine callD_of (e1) ?_ ?_ rfl ?_
    · first | rfl | (simp [-map_take,-map_drop, natAV, numC, ← limbs.eq_1, push_cast]; done)
    · first | rfl | simp [-map_take,-map_drop, natAV, zAV, zC, ratAV, ratC, ptAV, ptC, AV.refs, refsL, push_cast]
    try dsimp only
    repeat' (first
      | with_reducible first | apply thenW_n | apply thenW_ret | apply thenW_exit | apply thenW_panic | apply blockW_n | apply blockW_same | apply blockW_ret | apply blockW_panic | apply loopW_ret | apply loopW_exit | apply loopW_panic | apply joinW_ret | apply joinW_exit | apply joinW_panic | apply W_seq | apply W_block | apply W_skip | apply W_ret | apply W_exit | apply W_label
      | with_reducible refine blockW_other (by decide) ?_
      | with_reducible refine W_region (by first | decide | (with_unfolding_all rfl)) ?_
      | (rw [vcn]; (try simp [-map_take,-map_drop, push_cast, strD]); try simp (disch := omega) only [i64_in, u64_in, shr64i])
      | with_reducible refine W_drawn mixed (by decide) (by kernel_rfl) ?_
      | (rw [vcnD]; (try simp [-map_take,-map_drop, push_cast, strD]); try simp (disch := omega) only [i64_in, u64_in, shr64i])
      | (with_reducible refine W_condW ?_; (try simp [-map_take,-map_drop, AS.val, upd, resB, mkS_env, mkS_box, lk, entry_env, condW_true, condW_false, strD]))
      | (with_reducible refine optK_dV (by first | omega | (simp [-map_take,-map_drop]; omega)) ?_)
      | with_reducible refine optK_dVh (by omega) ?_
      | refine And.intro (by first | omega | kernel_rfl) ?_
      | ((with_reducible refine condW_b (fun hc => ?_) (fun hc => ?_) <;> (try simp [-map_take,-map_drop, Int.ofNat_inj] at hc) <;> (try contradiction)))
      | fail)
    simp [-map_take,-map_drop, post, resAV, resAll, resOne, closeV, closeC, closeL, resD, resDL, push_cast, strD]

theorem fracText_ok (r : FQ) (h : szQ r.q ≤ 1000000) : Eval Try.prog 32 [ratAV r] (.ret (strD (ratText r.q))) := by
  refine Eval.intro Try.func32 rfl Try.call32 _ _ (Nat.le_of_ble_eq_true rfl) (by simp [-map_take,-map_drop, AV.refs, refsL, natAV, zAV, zC, ratAV, ratC, ptAV, ptC, push_cast]) fun hs0 => ?_
  have h' := h
  unfold szQ at h'
  have e1 := den_ok r h
  have e2 := ofZ_ok 1 (by omega)
  have e3 := cmpZ_ok (r.q.den : Int) 1
  have e4 := zedText_ok r.q.num (by omega)
  have e5 := zedText_ok (r.q.den : Int) (by rw [Int.natAbs_natCast]; omega)
  have l1 := intText_len r.q.num
  have l2 := intText_len (r.q.den : Int)
  rw [Int.natAbs_natCast] at l2
  have hd : intText (r.q.den : Int) = natText r.q.den := by
    unfold intText
    rw [if_neg (by omega), Int.natAbs_natCast]
  by_cases h1 : r.q.den = 1
  · have hr : ratText r.q = intText r.q.num := by rw [ratText, if_pos h1]
    have hc : cmpZ (r.q.den : Int) 1 = 0 := by rw [h1]; rfl
    rw [hr]
    rw [hc] at e3
    obtain ⟨L, hL⟩ : ∃ L, L = intText r.q.num := ⟨_, rfl⟩
    rw [← hL] at e4 ⊢
    obtain ⟨D, hD⟩ : ∃ D, D = (r.q.den : Int) := ⟨_, rfl⟩
    rw [← hD] at e1 e3
    clear hL hD e5 hr hc h1 hd l1 l2
    repeat' (first
      | with_reducible first | apply thenW_n | apply thenW_ret | apply thenW_exit | apply thenW_panic | apply blockW_n | apply blockW_same | apply blockW_ret | apply blockW_panic | apply loopW_ret | apply loopW_exit | apply loopW_panic | apply joinW_ret | apply joinW_exit | apply joinW_panic | apply W_seq | apply W_block | apply W_skip | apply W_ret | apply W_exit | apply W_label
      | with_reducible refine blockW_other (by decide) ?_
      | with_reducible refine W_region (by first | decide | (with_unfolding_all rfl)) ?_
      | (rw [vcn]; (try simp [-map_take,-map_drop, push_cast, ratAV, ratC, zAV, zC]); try simp (disch := omega) only [i64_in, u64_in, shr64i])
      | with_reducible refine W_drawn mixed (by decide) (by kernel_rfl) ?_
      | (rw [vcnD]; (try simp [-map_take,-map_drop, push_cast, ratAV, ratC, zAV, zC]); try simp (disch := omega) only [i64_in, u64_in, shr64i])
      | (with_reducible refine W_condW ?_; (try simp [-map_take,-map_drop, AS.val, upd, resB, mkS_env, mkS_box, lk, entry_env, condW_true, condW_false, ratAV, ratC, zAV, zC]))
      | (with_reducible refine optK_dV (by first | omega | (simp [-map_take,-map_drop]; omega)) ?_)
      | with_reducible refine optK_dVh (by omega) ?_
      | refine And.intro (by first | omega | kernel_rfl) ?_
      | ((with_reducible refine condW_b (fun hc => ?_) (fun hc => ?_) <;> (try simp [-map_take,-map_drop, Int.ofNat_inj] at hc) <;> (try contradiction)))
      | fail)
    first | refine CallG_of (e1) ?_ ?_ rfl ?_ | refine callD_of (e1) ?_ ?_ rfl ?_
    · first | rfl | (simp [-map_take,-map_drop, natAV, numC, ← limbs.eq_1, push_cast, ratAV, ratC, zAV, zC]; done)
    · first | rfl | simp [-map_take,-map_drop, natAV, zAV, zC, ratAV, ratC, ptAV, ptC, AV.refs, refsL, push_cast]
    try dsimp only
    repeat' (first
      | with_reducible first | apply thenW_n | apply thenW_ret | apply thenW_exit | apply thenW_panic | apply blockW_n | apply blockW_same | apply blockW_ret | apply blockW_panic | apply loopW_ret | apply loopW_exit | apply loopW_panic | apply joinW_ret | apply joinW_exit | apply joinW_panic | apply W_seq | apply W_block | apply W_skip | apply W_ret | apply W_exit | apply W_label
      | with_reducible refine blockW_other (by decide) ?_
      | with_reducible refine W_region (by first | decide | (with_unfolding_all rfl)) ?_
      | (rw [vcn]; (try simp [-map_take,-map_drop, push_cast, zAV, zC]); try simp (disch := omega) only [i64_in, u64_in, shr64i])
      | with_reducible refine W_drawn mixed (by decide) (by kernel_rfl) ?_
      | (rw [vcnD]; (try simp [-map_take,-map_drop, push_cast, zAV, zC]); try simp (disch := omega) only [i64_in, u64_in, shr64i])
      | (with_reducible refine W_condW ?_; (try simp [-map_take,-map_drop, AS.val, upd, resB, mkS_env, mkS_box, lk, entry_env, condW_true, condW_false, zAV, zC]))
      | (with_reducible refine optK_dV (by first | omega | (simp [-map_take,-map_drop]; omega)) ?_)
      | with_reducible refine optK_dVh (by omega) ?_
      | refine And.intro (by first | omega | kernel_rfl) ?_
      | ((with_reducible refine condW_b (fun hc => ?_) (fun hc => ?_) <;> (try simp [-map_take,-map_drop, Int.ofNat_inj] at hc) <;> (try contradiction)))
      | fail)
    first | refine CallG_of (e2) ?_ ?_ rfl ?_ | refine callD_of (e2) ?_ ?_ rfl ?_
    · first | rfl | (simp [-map_take,-map_drop, natAV, numC, ← limbs.eq_1, push_cast, zAV, zC]; done)
    · first | rfl | simp [-map_take,-map_drop, natAV, zAV, zC, ratAV, ratC, ptAV, ptC, AV.refs, refsL, push_cast]
    try dsimp only
    repeat' (first
      | with_reducible first | apply thenW_n | apply thenW_ret | apply thenW_exit | apply thenW_panic | apply blockW_n | apply blockW_same | apply blockW_ret | apply blockW_panic | apply loopW_ret | apply loopW_exit | apply loopW_panic | apply joinW_ret | apply joinW_exit | apply joinW_panic | apply W_seq | apply W_block | apply W_skip | apply W_ret | apply W_exit | apply W_label
      | with_reducible refine blockW_other (by decide) ?_
      | with_reducible refine W_region (by first | decide | (with_unfolding_all rfl)) ?_
      | (rw [vcn]; (try simp [-map_take,-map_drop, push_cast, zAV, zC]); try simp (disch := omega) only [i64_in, u64_in, shr64i])
      | with_reducible refine W_drawn mixed (by decide) (by kernel_rfl) ?_
      | (rw [vcnD]; (try simp [-map_take,-map_drop, push_cast, zAV, zC]); try simp (disch := omega) only [i64_in, u64_in, shr64i])
      | (with_reducible refine W_condW ?_; (try simp [-map_take,-map_drop, AS.val, upd, resB, mkS_env, mkS_box, lk, entry_env, condW_true, condW_false, zAV, zC]))
      | (with_reducible refine optK_dV (by first | omega | (simp [-map_take,-map_drop]; omega)) ?_)
      | with_reducible refine optK_dVh (by omega) ?_
      | refine And.intro (by first | omega | kernel_rfl) ?_
      | ((with_reducible refine condW_b (fun hc => ?_) (fun hc => ?_) <;> (try simp [-map_take,-map_drop, Int.ofNat_inj] at hc) <;> (try contradiction)))
      | fail)
    first | refine CallG_of (e3) ?_ ?_ rfl ?_ | refine callD_of (e3) ?_ ?_ rfl ?_
    · first | rfl | (simp [-map_take,-map_drop, natAV, numC, ← limbs.eq_1, push_cast, zAV, zC]; done)
    · first | rfl | simp [-map_take,-map_drop, natAV, zAV, zC, ratAV, ratC, ptAV, ptC, AV.refs, refsL, push_cast]
    try dsimp only
    repeat' (first
      | with_reducible first | apply thenW_n | apply thenW_ret | apply thenW_exit | apply thenW_panic | apply blockW_n | apply blockW_same | apply blockW_ret | apply blockW_panic | apply loopW_ret | apply loopW_exit | apply loopW_panic | apply joinW_ret | apply joinW_exit | apply joinW_panic | apply W_seq | apply W_block | apply W_skip | apply W_ret | apply W_exit | apply W_label
      | with_reducible refine blockW_other (by decide) ?_
      | with_reducible refine W_region (by first | decide | (with_unfolding_all rfl)) ?_
      | (rw [vcn]; (try simp [-map_take,-map_drop, push_cast, zAV, zC]); try simp (disch := omega) only [i64_in, u64_in, shr64i])
      | with_reducible refine W_drawn mixed (by decide) (by kernel_rfl) ?_
      | (rw [vcnD]; (try simp [-map_take,-map_drop, push_cast, zAV, zC]); try simp (disch := omega) only [i64_in, u64_in, shr64i])
      | (with_reducible refine W_condW ?_; (try simp [-map_take,-map_drop, AS.val, upd, resB, mkS_env, mkS_box, lk, entry_env, condW_true, condW_false, zAV, zC]))
      | (with_reducible refine optK_dV (by first | omega | (simp [-map_take,-map_drop]; omega)) ?_)
      | with_reducible refine optK_dVh (by omega) ?_
      | refine And.intro (by first | omega | kernel_rfl) ?_
      | ((with_reducible refine condW_b (fun hc => ?_) (fun hc => ?_) <;> (try simp [-map_take,-map_drop, Int.ofNat_inj] at hc) <;> (try contradiction)))
      | fail)
    first | refine CallG_of (e4) ?_ ?_ rfl ?_ | refine callD_of (e4) ?_ ?_ rfl ?_
    · first | rfl | (simp [-map_take,-map_drop, natAV, numC, ← limbs.eq_1, push_cast, zAV, zC]; done)
    · first | rfl | simp [-map_take,-map_drop, natAV, zAV, zC, ratAV, ratC, ptAV, ptC, AV.refs, refsL, push_cast]
    try dsimp only
    repeat' (first
      | with_reducible first | apply thenW_n | apply thenW_ret | apply thenW_exit | apply thenW_panic | apply blockW_n | apply blockW_same | apply blockW_ret | apply blockW_panic | apply loopW_ret | apply loopW_exit | apply loopW_panic | apply joinW_ret | apply joinW_exit | apply joinW_panic | apply W_seq | apply W_block | apply W_skip | apply W_ret | apply W_exit | apply W_label
      | with_reducible refine blockW_other (by decide) ?_
      | with_reducible refine W_region (by first | decide | (with_unfolding_all rfl)) ?_
      | (rw [vcn]; (try simp [-map_take,-map_drop, push_cast, strD]); try simp (disch := omega) only [i64_in, u64_in, shr64i])
      | with_reducible refine W_drawn mixed (by decide) (by kernel_rfl) ?_
      | (rw [vcnD]; (try simp [-map_take,-map_drop, push_cast, strD]); try simp (disch := omega) only [i64_in, u64_in, shr64i])
      | (with_reducible refine W_condW ?_; (try simp [-map_take,-map_drop, AS.val, upd, resB, mkS_env, mkS_box, lk, entry_env, condW_true, condW_false, strD]))
      | (with_reducible refine optK_dV (by first | omega | (simp [-map_take,-map_drop]; omega)) ?_)
      | with_reducible refine optK_dVh (by omega) ?_
      | refine And.intro (by first | omega | kernel_rfl) ?_
      | ((with_reducible refine condW_b (fun hc => ?_) (fun hc => ?_) <;> (try simp [-map_take,-map_drop, Int.ofNat_inj] at hc) <;> (try contradiction)))
      | fail)
    simp [-map_take,-map_drop, post, resAV, resAll, resOne, closeV, closeC, closeL, resD, resDL, push_cast, strD]
  · have hr : ratText r.q = intText r.q.num ++ (47 :: intText (r.q.den : Int)) := by rw [ratText, if_neg h1, hd]
    have hc : ¬ cmpZ (r.q.den : Int) 1 = 0 := by unfold cmpZ; split <;> (try split) <;> omega
    rw [hr]
    obtain ⟨L, hL⟩ : ∃ L, L = intText r.q.num := ⟨_, rfl⟩
    rw [← hL] at e4 l1 ⊢
    obtain ⟨M, hM⟩ : ∃ M, M = intText (r.q.den : Int) := ⟨_, rfl⟩
    rw [← hM] at e5 l2 ⊢
    obtain ⟨c, hcc⟩ : ∃ c, c = cmpZ (r.q.den : Int) 1 := ⟨_, rfl⟩
    rw [← hcc] at e3 hc
    obtain ⟨D, hD⟩ : ∃ D, D = (r.q.den : Int) := ⟨_, rfl⟩
    rw [← hD] at e1 e3 e5
    have g1 : (c = 0) = False := eq_false hc
    have hb : (⟨#[47]⟩ : ByteArray) = bytesD [47] := rfl
    have s1 : (bytesD L).size + 1 ≤ 9223372036854775807 := by rw [bytesD_size]; omega
    have s2 : L.length + 1 + M.length ≤ 9223372036854775807 := by omega
    clear hL hM hcc hD hr hd
    repeat' (first
      | with_reducible first | apply thenW_n | apply thenW_ret | apply thenW_exit | apply thenW_panic | apply blockW_n | apply blockW_same | apply blockW_ret | apply blockW_panic | apply loopW_ret | apply loopW_exit | apply loopW_panic | apply joinW_ret | apply joinW_exit | apply joinW_panic | apply W_seq | apply W_block | apply W_skip | apply W_ret | apply W_exit | apply W_label
      | with_reducible refine blockW_other (by decide) ?_
      | with_reducible refine W_region (by first | decide | (with_unfolding_all rfl)) ?_
      | (rw [vcn]; (try simp [-map_take,-map_drop, push_cast, ratAV, ratC, zAV, zC]); try simp (disch := omega) only [i64_in, u64_in, shr64i])
      | with_reducible refine W_drawn mixed (by decide) (by kernel_rfl) ?_
      | (rw [vcnD]; (try simp [-map_take,-map_drop, push_cast, ratAV, ratC, zAV, zC]); try simp (disch := omega) only [i64_in, u64_in, shr64i])
      | (with_reducible refine W_condW ?_; (try simp [-map_take,-map_drop, AS.val, upd, resB, mkS_env, mkS_box, lk, entry_env, condW_true, condW_false, ratAV, ratC, zAV, zC]))
      | (with_reducible refine optK_dV (by first | omega | (simp [-map_take,-map_drop]; omega)) ?_)
      | with_reducible refine optK_dVh (by omega) ?_
      | refine And.intro (by first | omega | kernel_rfl) ?_
      | ((with_reducible refine condW_b (fun hc => ?_) (fun hc => ?_) <;> (try simp [-map_take,-map_drop, Int.ofNat_inj] at hc) <;> (try contradiction)))
      | fail)
    first | refine CallG_of (e1) ?_ ?_ rfl ?_ | refine callD_of (e1) ?_ ?_ rfl ?_
    · first | rfl | (simp [-map_take,-map_drop, natAV, numC, ← limbs.eq_1, push_cast, ratAV, ratC, zAV, zC]; done)
    · first | rfl | simp [-map_take,-map_drop, natAV, zAV, zC, ratAV, ratC, ptAV, ptC, AV.refs, refsL, push_cast]
    try dsimp only
    repeat' (first
      | with_reducible first | apply thenW_n | apply thenW_ret | apply thenW_exit | apply thenW_panic | apply blockW_n | apply blockW_same | apply blockW_ret | apply blockW_panic | apply loopW_ret | apply loopW_exit | apply loopW_panic | apply joinW_ret | apply joinW_exit | apply joinW_panic | apply W_seq | apply W_block | apply W_skip | apply W_ret | apply W_exit | apply W_label
      | with_reducible refine blockW_other (by decide) ?_
      | with_reducible refine W_region (by first | decide | (with_unfolding_all rfl)) ?_
      | (rw [vcn]; (try simp [-map_take,-map_drop, push_cast, zAV, zC]); try simp (disch := omega) only [i64_in, u64_in, shr64i])
      | with_reducible refine W_drawn mixed (by decide) (by kernel_rfl) ?_
      | (rw [vcnD]; (try simp [-map_take,-map_drop, push_cast, zAV, zC]); try simp (disch := omega) only [i64_in, u64_in, shr64i])
      | (with_reducible refine W_condW ?_; (try simp [-map_take,-map_drop, AS.val, upd, resB, mkS_env, mkS_box, lk, entry_env, condW_true, condW_false, zAV, zC]))
      | (with_reducible refine optK_dV (by first | omega | (simp [-map_take,-map_drop]; omega)) ?_)
      | with_reducible refine optK_dVh (by omega) ?_
      | refine And.intro (by first | omega | kernel_rfl) ?_
      | ((with_reducible refine condW_b (fun hc => ?_) (fun hc => ?_) <;> (try simp [-map_take,-map_drop, Int.ofNat_inj] at hc) <;> (try contradiction)))
      | fail)
    first | refine CallG_of (e2) ?_ ?_ rfl ?_ | refine callD_of (e2) ?_ ?_ rfl ?_
    · first | rfl | (simp [-map_take,-map_drop, natAV, numC, ← limbs.eq_1, push_cast, zAV, zC]; done)
    · first | rfl | simp [-map_take,-map_drop, natAV, zAV, zC, ratAV, ratC, ptAV, ptC, AV.refs, refsL, push_cast]
    try dsimp only
    repeat' (first
      | with_reducible first | apply thenW_n | apply thenW_ret | apply thenW_exit | apply thenW_panic | apply blockW_n | apply blockW_same | apply blockW_ret | apply blockW_panic | apply loopW_ret | apply loopW_exit | apply loopW_panic | apply joinW_ret | apply joinW_exit | apply joinW_panic | apply W_seq | apply W_block | apply W_skip | apply W_ret | apply W_exit | apply W_label
      | with_reducible refine blockW_other (by decide) ?_
      | with_reducible refine W_region (by first | decide | (with_unfolding_all rfl)) ?_
      | (rw [vcn]; (try simp [-map_take,-map_drop, push_cast, zAV, zC]); try simp (disch := omega) only [i64_in, u64_in, shr64i])
      | with_reducible refine W_drawn mixed (by decide) (by kernel_rfl) ?_
      | (rw [vcnD]; (try simp [-map_take,-map_drop, push_cast, zAV, zC]); try simp (disch := omega) only [i64_in, u64_in, shr64i])
      | (with_reducible refine W_condW ?_; (try simp [-map_take,-map_drop, AS.val, upd, resB, mkS_env, mkS_box, lk, entry_env, condW_true, condW_false, zAV, zC]))
      | (with_reducible refine optK_dV (by first | omega | (simp [-map_take,-map_drop]; omega)) ?_)
      | with_reducible refine optK_dVh (by omega) ?_
      | refine And.intro (by first | omega | kernel_rfl) ?_
      | ((with_reducible refine condW_b (fun hc => ?_) (fun hc => ?_) <;> (try simp [-map_take,-map_drop, Int.ofNat_inj] at hc) <;> (try contradiction)))
      | fail)
    first | refine CallG_of (e3) ?_ ?_ rfl ?_ | refine callD_of (e3) ?_ ?_ rfl ?_
    · first | rfl | (simp [-map_take,-map_drop, natAV, numC, ← limbs.eq_1, push_cast, zAV, zC]; done)
    · first | rfl | simp [-map_take,-map_drop, natAV, zAV, zC, ratAV, ratC, ptAV, ptC, AV.refs, refsL, push_cast]
    try dsimp only
    repeat' (first
      | with_reducible first | apply thenW_n | apply thenW_ret | apply thenW_exit | apply thenW_panic | apply blockW_n | apply blockW_same | apply blockW_ret | apply blockW_panic | apply loopW_ret | apply loopW_exit | apply loopW_panic | apply joinW_ret | apply joinW_exit | apply joinW_panic | apply W_seq | apply W_block | apply W_skip | apply W_ret | apply W_exit | apply W_label
      | with_reducible refine blockW_other (by decide) ?_
      | with_reducible refine W_region (by first | decide | (with_unfolding_all rfl)) ?_
      | (rw [vcn]; (try simp [-map_take,-map_drop, push_cast, zAV, zC, g1]); try simp (disch := omega) only [i64_in, u64_in, shr64i])
      | with_reducible refine W_drawn mixed (by decide) (by kernel_rfl) ?_
      | (rw [vcnD]; (try simp [-map_take,-map_drop, push_cast, zAV, zC, g1]); try simp (disch := omega) only [i64_in, u64_in, shr64i])
      | (with_reducible refine W_condW ?_; (try simp [-map_take,-map_drop, AS.val, upd, resB, mkS_env, mkS_box, lk, entry_env, condW_true, condW_false, zAV, zC, g1]))
      | (with_reducible refine optK_dV (by first | omega | (simp [-map_take,-map_drop]; omega)) ?_)
      | with_reducible refine optK_dVh (by omega) ?_
      | refine And.intro (by first | omega | kernel_rfl) ?_
      | ((with_reducible refine condW_b (fun hc => ?_) (fun hc => ?_) <;> (try simp [-map_take,-map_drop, Int.ofNat_inj] at hc) <;> (try contradiction)))
      | fail)
    first | refine CallG_of (e4) ?_ ?_ rfl ?_ | refine callD_of (e4) ?_ ?_ rfl ?_
    · first | rfl | (simp [-map_take,-map_drop, natAV, numC, ← limbs.eq_1, push_cast, zAV, zC]; done)
    · first | rfl | simp [-map_take,-map_drop, natAV, zAV, zC, ratAV, ratC, ptAV, ptC, AV.refs, refsL, push_cast]
    try dsimp only
    repeat' (first
      | with_reducible first | apply thenW_n | apply thenW_ret | apply thenW_exit | apply thenW_panic | apply blockW_n | apply blockW_same | apply blockW_ret | apply blockW_panic | apply loopW_ret | apply loopW_exit | apply loopW_panic | apply joinW_ret | apply joinW_exit | apply joinW_panic | apply W_seq | apply W_block | apply W_skip | apply W_ret | apply W_exit | apply W_label
      | with_reducible refine blockW_other (by decide) ?_
      | with_reducible refine W_region (by first | decide | (with_unfolding_all rfl)) ?_
      | (rw [vcn]; (try simp [-map_take,-map_drop, push_cast, zAV, zC, strD, hb, bytesD_size, bytesD_add]); try simp (disch := omega) only [i64_in, u64_in, shr64i])
      | with_reducible refine W_drawn mixed (by decide) (by kernel_rfl) ?_
      | (rw [vcnD]; (try simp [-map_take,-map_drop, push_cast, zAV, zC, strD, hb, bytesD_size, bytesD_add]); try simp (disch := omega) only [i64_in, u64_in, shr64i])
      | (with_reducible refine W_condW ?_; (try simp [-map_take,-map_drop, AS.val, upd, resB, mkS_env, mkS_box, lk, entry_env, condW_true, condW_false, zAV, zC, strD, hb, bytesD_size, bytesD_add]))
      | (with_reducible refine optK_dV (by first | omega | (simp [-map_take,-map_drop]; omega)) ?_)
      | with_reducible refine optK_dVh (by omega) ?_
      | refine And.intro (by first | omega | kernel_rfl) ?_
      | ((with_reducible refine condW_b (fun hc => ?_) (fun hc => ?_) <;> (try simp [-map_take,-map_drop, Int.ofNat_inj] at hc) <;> (try contradiction)))
      | fail)
    first | refine CallG_of (e5) ?_ ?_ rfl ?_ | refine callD_of (e5) ?_ ?_ rfl ?_
    · first | rfl | (simp [-map_take,-map_drop, natAV, numC, ← limbs.eq_1, push_cast, zAV, zC]; done)
    · first | rfl | simp [-map_take,-map_drop, natAV, zAV, zC, ratAV, ratC, ptAV, ptC, AV.refs, refsL, push_cast]
    try dsimp only
    repeat' (first
      | with_reducible first | apply thenW_n | apply thenW_ret | apply thenW_exit | apply thenW_panic | apply blockW_n | apply blockW_same | apply blockW_ret | apply blockW_panic | apply loopW_ret | apply loopW_exit | apply loopW_panic | apply joinW_ret | apply joinW_exit | apply joinW_panic | apply W_seq | apply W_block | apply W_skip | apply W_ret | apply W_exit | apply W_label
      | with_reducible refine blockW_other (by decide) ?_
      | with_reducible refine W_region (by first | decide | (with_unfolding_all rfl)) ?_
      | (rw [vcn]; (try simp [-map_take,-map_drop, push_cast, strD, hb, bytesD_size, bytesD_add, s1, s2]); try simp (disch := omega) only [i64_in, u64_in, shr64i])
      | with_reducible refine W_drawn mixed (by decide) (by kernel_rfl) ?_
      | (rw [vcnD]; (try simp [-map_take,-map_drop, push_cast, strD, hb, bytesD_size, bytesD_add, s1, s2]); try simp (disch := omega) only [i64_in, u64_in, shr64i])
      | (with_reducible refine W_condW ?_; (try simp [-map_take,-map_drop, AS.val, upd, resB, mkS_env, mkS_box, lk, entry_env, condW_true, condW_false, strD, hb, bytesD_size, bytesD_add, s1, s2]))
      | (with_reducible refine optK_dV (by first | omega | (simp [-map_take,-map_drop]; omega)) ?_)
      | with_reducible refine optK_dVh (by omega) ?_
      | refine And.intro (by first | omega | kernel_rfl) ?_
      | ((with_reducible refine condW_b (fun hc => ?_) (fun hc => ?_) <;> (try simp [-map_take,-map_drop, Int.ofNat_inj] at hc) <;> (try contradiction)))
      | fail)
    simp [-map_take,-map_drop, post, resAV, resAll, resOne, closeV, closeC, closeL, resD, resDL, push_cast, strD]

theorem ptText_ok (p : FP) (h : szV p ≤ 1000000) : Eval Try.prog 26 [ptAV p] (.ret (strD (ptText p))) := by
  refine Eval.intro Try.func26 rfl Try.call26 _ _ (Nat.le_of_ble_eq_true rfl) (by simp [-map_take,-map_drop, AV.refs, refsL, natAV, zAV, zC, ratAV, ratC, ptAV, ptC, push_cast]) fun hs0 => ?_
  have h' := h
  unfold szV at h'
  have e1 := fracText_ok p.x (by omega)
  have e2 := fracText_ok p.y (by omega)
  have l1 := ratText_len p.x.q
  have l2 := ratText_len p.y.q
  unfold ptText
  obtain ⟨L, hL⟩ : ∃ L, L = ratText p.x.q := ⟨_, rfl⟩
  rw [← hL] at e1 l1 ⊢
  obtain ⟨M, hM⟩ : ∃ M, M = ratText p.y.q := ⟨_, rfl⟩
  rw [← hM] at e2 l2 ⊢
  have hb : (⟨#[32]⟩ : ByteArray) = bytesD [32] := rfl
  clear hL hM
  repeat' (first
    | with_reducible first | apply thenW_n | apply thenW_ret | apply thenW_exit | apply thenW_panic | apply blockW_n | apply blockW_same | apply blockW_ret | apply blockW_panic | apply loopW_ret | apply loopW_exit | apply loopW_panic | apply joinW_ret | apply joinW_exit | apply joinW_panic | apply W_seq | apply W_block | apply W_skip | apply W_ret | apply W_exit | apply W_label
    | with_reducible refine blockW_other (by decide) ?_
    | with_reducible refine W_region (by first | decide | (with_unfolding_all rfl)) ?_
    | (rw [vcn]; (try simp [-map_take,-map_drop, push_cast, ptAV, ptC, ratAV, ratC, zAV, zC]); try simp (disch := omega) only [i64_in, u64_in, shr64i])
    | with_reducible refine W_drawn mixed (by decide) (by kernel_rfl) ?_
    | (rw [vcnD]; (try simp [-map_take,-map_drop, push_cast, ptAV, ptC, ratAV, ratC, zAV, zC]); try simp (disch := omega) only [i64_in, u64_in, shr64i])
    | (with_reducible refine W_condW ?_; (try simp [-map_take,-map_drop, AS.val, upd, resB, mkS_env, mkS_box, lk, entry_env, condW_true, condW_false, ptAV, ptC, ratAV, ratC, zAV, zC]))
    | (with_reducible refine optK_dV (by first | omega | (simp [-map_take,-map_drop]; omega)) ?_)
    | with_reducible refine optK_dVh (by omega) ?_
    | refine And.intro (by first | omega | kernel_rfl) ?_
    | ((with_reducible refine condW_b (fun hc => ?_) (fun hc => ?_) <;> (try simp [-map_take,-map_drop, Int.ofNat_inj] at hc) <;> (try contradiction)))
    | fail)
  first | refine CallG_of (e1) ?_ ?_ rfl ?_ | refine callD_of (e1) ?_ ?_ rfl ?_
  · first | rfl | (simp [-map_take,-map_drop, natAV, numC, ← limbs.eq_1, push_cast, ratAV, ratC, zAV, zC]; done)
  · first | rfl | simp [-map_take,-map_drop, natAV, zAV, zC, ratAV, ratC, ptAV, ptC, AV.refs, refsL, push_cast]
  try dsimp only
  repeat' (first
    | with_reducible first | apply thenW_n | apply thenW_ret | apply thenW_exit | apply thenW_panic | apply blockW_n | apply blockW_same | apply blockW_ret | apply blockW_panic | apply loopW_ret | apply loopW_exit | apply loopW_panic | apply joinW_ret | apply joinW_exit | apply joinW_panic | apply W_seq | apply W_block | apply W_skip | apply W_ret | apply W_exit | apply W_label
    | with_reducible refine blockW_other (by decide) ?_
    | with_reducible refine W_region (by first | decide | (with_unfolding_all rfl)) ?_
    | (rw [vcn]; (try simp [-map_take,-map_drop, push_cast, ptAV, ptC, ratAV, ratC, zAV, zC, strD, hb, bytesD_size, bytesD_add]); try simp (disch := omega) only [i64_in, u64_in, shr64i])
    | with_reducible refine W_drawn mixed (by decide) (by kernel_rfl) ?_
    | (rw [vcnD]; (try simp [-map_take,-map_drop, push_cast, ptAV, ptC, ratAV, ratC, zAV, zC, strD, hb, bytesD_size, bytesD_add]); try simp (disch := omega) only [i64_in, u64_in, shr64i])
    | (with_reducible refine W_condW ?_; (try simp [-map_take,-map_drop, AS.val, upd, resB, mkS_env, mkS_box, lk, entry_env, condW_true, condW_false, ptAV, ptC, ratAV, ratC, zAV, zC, strD, hb, bytesD_size, bytesD_add]))
    | (with_reducible refine optK_dV (by first | omega | (simp [-map_take,-map_drop]; omega)) ?_)
    | with_reducible refine optK_dVh (by omega) ?_
    | refine And.intro (by first | omega | kernel_rfl) ?_
    | ((with_reducible refine condW_b (fun hc => ?_) (fun hc => ?_) <;> (try simp [-map_take,-map_drop, Int.ofNat_inj] at hc) <;> (try contradiction)))
    | fail)
  first | refine CallG_of (e2) ?_ ?_ rfl ?_ | refine callD_of (e2) ?_ ?_ rfl ?_
  · first | rfl | (simp [-map_take,-map_drop, natAV, numC, ← limbs.eq_1, push_cast, ratAV, ratC, zAV, zC]; done)
  · first | rfl | simp [-map_take,-map_drop, natAV, zAV, zC, ratAV, ratC, ptAV, ptC, AV.refs, refsL, push_cast]
  try dsimp only
  repeat' (first
    | with_reducible first | apply thenW_n | apply thenW_ret | apply thenW_exit | apply thenW_panic | apply blockW_n | apply blockW_same | apply blockW_ret | apply blockW_panic | apply loopW_ret | apply loopW_exit | apply loopW_panic | apply joinW_ret | apply joinW_exit | apply joinW_panic | apply W_seq | apply W_block | apply W_skip | apply W_ret | apply W_exit | apply W_label
    | with_reducible refine blockW_other (by decide) ?_
    | with_reducible refine W_region (by first | decide | (with_unfolding_all rfl)) ?_
    | (rw [vcn]; (try simp [-map_take,-map_drop, push_cast, strD, hb, bytesD_size, bytesD_add]); try simp (disch := omega) only [i64_in, u64_in, shr64i])
    | with_reducible refine W_drawn mixed (by decide) (by kernel_rfl) ?_
    | (rw [vcnD]; (try simp [-map_take,-map_drop, push_cast, strD, hb, bytesD_size, bytesD_add]); try simp (disch := omega) only [i64_in, u64_in, shr64i])
    | (with_reducible refine W_condW ?_; (try simp [-map_take,-map_drop, AS.val, upd, resB, mkS_env, mkS_box, lk, entry_env, condW_true, condW_false, strD, hb, bytesD_size, bytesD_add]))
    | (with_reducible refine optK_dV (by first | omega | (simp [-map_take,-map_drop]; omega)) ?_)
    | with_reducible refine optK_dVh (by omega) ?_
    | refine And.intro (by first | omega | kernel_rfl) ?_
    | ((with_reducible refine condW_b (fun hc => ?_) (fun hc => ?_) <;> (try simp [-map_take,-map_drop, Int.ofNat_inj] at hc) <;> (try contradiction)))
    | fail)
  simp [-map_take,-map_drop, post, resAV, resAll, resOne, closeV, closeC, closeL, resD, resDL, push_cast, strD]
end Go.Fw

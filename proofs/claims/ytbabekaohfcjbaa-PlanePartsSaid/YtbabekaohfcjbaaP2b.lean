import Derived.Test.YtbabekaohfcjbaaP1
import Derived.Test.YtbabekaohfcjbaaEnt
set_option linter.unusedSimpArgs false
set_option linter.unusedVariables false
/- The law PlaneParts comes to true: the walk. -/
-- VALS: zAV, zC, ratAV, ratC, ptAV, ptC, sgAV, sgC, d3sAV, d3C, dC, dotAV
namespace Go.Fw
open Go Go.Proofs Go.IntWalk
set_option linter.unusedSimpArgs false
set_option maxRecDepth 100000
set_option maxHeartbeats 20000000

open List (map_take map_drop)
attribute [local push_cast] optK_some optK_none optK_ite optK_map optK_bind gOn stepK isMem evPure evMem evBin evUn evConv evLen evBuiltin evMinMax evSlice evBuild evAppend evIndex evIndexAddr evField evFieldAddr intBin strBin appDest AS.val AS.mem AS.elems AS.put AS.put' AS.eff AV.cells? AV.isCell AV.refs all_isByte take_byteV drop_byteV strOf_map bndOk bnd partAV ptrAdd killBox catA inOrder fillA setAt ofVal resB upd byteV List.head?_take List.head?_drop List.getElem?_map mkS_env mkS_box mkS_used entry_env entry_box entry_used lk stepD lookIds Oper.looksAt Op.operands Call.operands St.ids refsL renL_append ren renL renBox Box.refs iV i64V boolV dV_getElem dV_app dV_cons toNat_add2 toNat_add1
attribute [local simp ↓] numC_refs numC_isCell numC_cells numC_resB numC_resD numC_ren numC_closeC numC_isOwn
theorem lawParts_ok (a b c d : Int × Int × Int) (i0 : Int) (ha : inD a) (hb : inD b) (hc : inD c) (hd : inD d) :
    Eval Try.prog 4 [dotAV a, dotAV b, dotAV c, dotAV d, i64V i0] (.ret (.v (.bool true))) := by
  refine Eval.intro Try.func4 rfl Try.call4 _ _ (Nat.le_of_ble_eq_true rfl) (by simp [-map_take,-map_drop, AV.refs, refsL, natAV, zAV, zC, ratAV, ratC, ptAV, ptC, sgAV, sgC, d3sAV, d3C, dC, dotAV, push_cast]) fun hs0 => ?_
  obtain ⟨k, hk, k100⟩ := hund19 i0
  have w1 : IntKind.i64.wrap (k : Int) = k := by rw [i64_in _ (by omega)]
  have s1 := seg11_ok a b ha hb
  have s2 := seg11_ok c d hc hd
  have he := HS.dots' ha hb
  have hf := HS.dots' hc hd
  have hp := HQ.part ha hb k100
  obtain ⟨e, h1⟩ : ∃ e, e = dotsF a b := ⟨_, rfl⟩
  obtain ⟨f, h2⟩ : ∃ e, e = dotsF c d := ⟨_, rfl⟩
  rw [← h1] at s1 he hp
  rw [← h2] at s2 hf
  clear h1 h2
  have ze := he.sz
  have zf := hf.sz
  have onp := on_part e k100
  have z0 : szQ (Rat.divInt k 100) ≤ 4 := by
    have h1 := sz_divInt (k : Int) 100 (by omega)
    have h2 := limbs_small (n := (k : Int).natAbs) (by omega)
    have h3 := limbs_small (n := (100 : Int).natAbs) (by omega)
    omega
  have e0 := ofF_ok k 100 (by omega) (by omega) (by omega)
  unfold szS szV at ze zf
  have z1 := szQ_sub e.B.x.q e.A.x.q
  have z2 := szQ_sub e.B.y.q e.A.y.q
  have z3 := szQ_mul (e.B.x.q - e.A.x.q) (Rat.divInt k 100)
  have z4 := szQ_mul (e.B.y.q - e.A.y.q) (Rat.divInt k 100)
  have q1 := subR_ok e.B.x e.A.x (by omega)
  have q2 := mulR_ok (.of (e.B.x.q - e.A.x.q)) (.of (Rat.divInt k 100)) (by simp only [FQ.of]; omega)
  have q3 := addR_ok e.A.x (.of ((e.B.x.q - e.A.x.q) * (Rat.divInt k 100))) (by simp only [FQ.of]; omega)
  have q4 := subR_ok e.B.y e.A.y (by omega)
  have q5 := mulR_ok (.of (e.B.y.q - e.A.y.q)) (.of (Rat.divInt k 100)) (by simp only [FQ.of]; omega)
  have q6 := addR_ok e.A.y (.of ((e.B.y.q - e.A.y.q) * (Rat.divInt k 100))) (by simp only [FQ.of]; omega)
  have o1 : (FQ.of (e.B.x.q - e.A.x.q)).q * (FQ.of (Rat.divInt k 100)).q = (e.B.x.q - e.A.x.q) * (Rat.divInt k 100) := rfl
  have o2 : (FQ.of (e.B.y.q - e.A.y.q)).q * (FQ.of (Rat.divInt k 100)).q = (e.B.y.q - e.A.y.q) * (Rat.divInt k 100) := rfl
  have o3 : FQ.of (e.A.x.q + (FQ.of ((e.B.x.q - e.A.x.q) * (Rat.divInt k 100))).q) = (e.at (Rat.divInt k 100)).x := rfl
  have o4 : FQ.of (e.A.y.q + (FQ.of ((e.B.y.q - e.A.y.q) * (Rat.divInt k 100))).q) = (e.at (Rat.divInt k 100)).y := rfl
  rw [o1] at q2
  rw [o2] at q5
  rw [o3] at q3
  rw [o4] at q6
  obtain ⟨p, hpd⟩ : ∃ p, p = e.at (Rat.divInt k 100) := ⟨_, rfl⟩
  rw [← hpd] at q3 q6 hp onp
  have zp := hp.sz
  have m1 := clipP_ok he hf
  have m2 := clipP_ok he hf.tn'
  have v1 := withinL_ok false (clipF e f) p (clipF_len e f) (fun q hq => by have := clipF_sz he hf q hq; omega) (by omega)
  have v2 := withinL_ok false (clipF e f.tn) p (clipF_len e f.tn) (fun q hq => by have := clipF_sz he hf.tn' q hq; omega) (by omega)
  rw [parts_left e f p onp] at v1
  rw [parts_right e f p onp] at v2
  have sd := side_ok f.A f.B p (by unfold szV; unfold szV at zp; omega)
  have x1 := ptsC_refs (clipF e f)
  have x2 := ptsC_refs (clipF e f.tn)
  obtain ⟨N1, hx⟩ : ∃ x, x = (clipF e f).length := ⟨_, rfl⟩
  rw [← hx] at m1 v1
  clear hx
  obtain ⟨N2, hx⟩ : ∃ x, x = (clipF e f.tn).length := ⟨_, rfl⟩
  rw [← hx] at m2 v2
  clear hx
  obtain ⟨L1, hx⟩ : ∃ x, x = ptsC (clipF e f) := ⟨_, rfl⟩
  rw [← hx] at m1 v1 x1
  clear hx
  obtain ⟨L2, hx⟩ : ∃ x, x = ptsC (clipF e f.tn) := ⟨_, rfl⟩
  rw [← hx] at m2 v2 x2
  clear hx
  have hg : f.tn = ⟨f.B, f.A⟩ := rfl
  rw [hg] at m2
  obtain ⟨u, hx⟩ : ∃ x, x = sideOf f.A f.B p := ⟨_, rfl⟩
  rw [← hx] at sd v1 v2
  clear hx
  obtain ⟨K, hx⟩ : ∃ x, x = FQ.of (Rat.divInt k 100) := ⟨_, rfl⟩
  rw [← hx] at e0 q2 q5
  clear hx
  obtain ⟨a1, hx⟩ : ∃ x, x = FQ.of (e.B.x.q - e.A.x.q) := ⟨_, rfl⟩
  rw [← hx] at q1 q2
  clear hx
  obtain ⟨a2, hx⟩ : ∃ x, x = FQ.of ((e.B.x.q - e.A.x.q) * (Rat.divInt k 100)) := ⟨_, rfl⟩
  rw [← hx] at q2 q3
  clear hx
  obtain ⟨b1, hx⟩ : ∃ x, x = FQ.of (e.B.y.q - e.A.y.q) := ⟨_, rfl⟩
  rw [← hx] at q4 q5
  clear hx
  obtain ⟨b2, hx⟩ : ∃ x, x = FQ.of ((e.B.y.q - e.A.y.q) * (Rat.divInt k 100)) := ⟨_, rfl⟩
  rw [← hx] at q5 q6
  clear hx
  clear o1 o2 o3 o4 z0 z1 z2 z3 z4 ze zf zp he hf hp hpd onp ha hb hc hd hg
  obtain ⟨px, py⟩ := p
  repeat' (first
    | with_reducible first | apply thenW_n | apply thenW_ret | apply thenW_exit | apply thenW_panic | apply blockW_n | apply blockW_same | apply blockW_ret | apply blockW_panic | apply loopW_ret | apply loopW_exit | apply loopW_panic | apply joinW_ret | apply joinW_exit | apply joinW_panic | apply W_seq | apply W_block | apply W_skip | apply W_ret | apply W_exit | apply W_label
    | with_reducible refine blockW_other (by decide) ?_
    | with_reducible refine W_region (by first | decide | (with_unfolding_all rfl)) ?_
    | (rw [vcn]; (try simp [-map_take,-map_drop, push_cast, dotAV]); try simp (disch := omega) only [i64_in, u64_in, shr64i])
    | with_reducible refine W_drawn mixed (by decide) (by kernel_rfl) ?_
    | (rw [vcnD]; (try simp [-map_take,-map_drop, push_cast, dotAV]); try simp (disch := omega) only [i64_in, u64_in, shr64i])
    | (with_reducible refine W_condW ?_; (try simp [-map_take,-map_drop, AS.val, upd, resB, mkS_env, mkS_box, lk, entry_env, condW_true, condW_false, dotAV]))
    | (with_reducible refine optK_dV (by first | omega | (simp [-map_take,-map_drop]; omega)) ?_)
    | with_reducible refine optK_dVh (by omega) ?_
    | refine And.intro (by first | omega | kernel_rfl) ?_
    | ((with_reducible refine condW_b (fun hc => ?_) (fun hc => ?_) <;> (try simp [-map_take,-map_drop, Int.ofNat_inj] at hc) <;> (try contradiction)))
    | fail)
  first | refine CallG_of (s1) ?_ ?_ rfl ?_ | refine callD_of (s1) ?_ ?_ rfl ?_
  · first | rfl | (simp [-map_take,-map_drop, natAV, numC, ← limbs.eq_1, push_cast, sgAV, sgC, ptAV, ptC, ratAV, ratC, zAV, zC, d3sAV, d3C, dC]; done)
  · first | rfl | simp [-map_take,-map_drop, natAV, zAV, zC, ratAV, ratC, ptAV, ptC, sgAV, sgC, d3sAV, d3C, dC, dotAV, AV.refs, refsL, push_cast]
  try dsimp only
  repeat' (first
    | with_reducible first | apply thenW_n | apply thenW_ret | apply thenW_exit | apply thenW_panic | apply blockW_n | apply blockW_same | apply blockW_ret | apply blockW_panic | apply loopW_ret | apply loopW_exit | apply loopW_panic | apply joinW_ret | apply joinW_exit | apply joinW_panic | apply W_seq | apply W_block | apply W_skip | apply W_ret | apply W_exit | apply W_label
    | with_reducible refine blockW_other (by decide) ?_
    | with_reducible refine W_region (by first | decide | (with_unfolding_all rfl)) ?_
    | (rw [vcn]; (try simp [-map_take,-map_drop, push_cast, sgAV, sgC, ptAV, ptC, ratAV, ratC, zAV, zC, d3sAV, d3C, dC, dotAV]); try simp (disch := omega) only [i64_in, u64_in, shr64i])
    | with_reducible refine W_drawn mixed (by decide) (by kernel_rfl) ?_
    | (rw [vcnD]; (try simp [-map_take,-map_drop, push_cast, sgAV, sgC, ptAV, ptC, ratAV, ratC, zAV, zC, d3sAV, d3C, dC, dotAV]); try simp (disch := omega) only [i64_in, u64_in, shr64i])
    | (with_reducible refine W_condW ?_; (try simp [-map_take,-map_drop, AS.val, upd, resB, mkS_env, mkS_box, lk, entry_env, condW_true, condW_false, sgAV, sgC, ptAV, ptC, ratAV, ratC, zAV, zC, d3sAV, d3C, dC, dotAV]))
    | (with_reducible refine optK_dV (by first | omega | (simp [-map_take,-map_drop]; omega)) ?_)
    | with_reducible refine optK_dVh (by omega) ?_
    | refine And.intro (by first | omega | kernel_rfl) ?_
    | ((with_reducible refine condW_b (fun hc => ?_) (fun hc => ?_) <;> (try simp [-map_take,-map_drop, Int.ofNat_inj] at hc) <;> (try contradiction)))
    | fail)
  first | refine CallG_of (s2) ?_ ?_ rfl ?_ | refine callD_of (s2) ?_ ?_ rfl ?_
  · first | rfl | (simp [-map_take,-map_drop, natAV, numC, ← limbs.eq_1, push_cast, sgAV, sgC, ptAV, ptC, ratAV, ratC, zAV, zC, d3sAV, d3C, dC]; done)
  · first | rfl | simp [-map_take,-map_drop, natAV, zAV, zC, ratAV, ratC, ptAV, ptC, sgAV, sgC, d3sAV, d3C, dC, dotAV, AV.refs, refsL, push_cast]
  try dsimp only
  repeat' (first
    | with_reducible first | apply thenW_n | apply thenW_ret | apply thenW_exit | apply thenW_panic | apply blockW_n | apply blockW_same | apply blockW_ret | apply blockW_panic | apply loopW_ret | apply loopW_exit | apply loopW_panic | apply joinW_ret | apply joinW_exit | apply joinW_panic | apply W_seq | apply W_block | apply W_skip | apply W_ret | apply W_exit | apply W_label
    | with_reducible refine blockW_other (by decide) ?_
    | with_reducible refine W_region (by first | decide | (with_unfolding_all rfl)) ?_
    | (rw [vcn]; (try simp [-map_take,-map_drop, push_cast, sgAV, sgC, ptAV, ptC, ratAV, ratC, zAV, zC, d3sAV, d3C, dC, dotAV]); try simp (disch := omega) only [i64_in, u64_in, shr64i])
    | with_reducible refine W_drawn mixed (by decide) (by kernel_rfl) ?_
    | (rw [vcnD]; (try simp [-map_take,-map_drop, push_cast, sgAV, sgC, ptAV, ptC, ratAV, ratC, zAV, zC, d3sAV, d3C, dC, dotAV]); try simp (disch := omega) only [i64_in, u64_in, shr64i])
    | (with_reducible refine W_condW ?_; (try simp [-map_take,-map_drop, AS.val, upd, resB, mkS_env, mkS_box, lk, entry_env, condW_true, condW_false, sgAV, sgC, ptAV, ptC, ratAV, ratC, zAV, zC, d3sAV, d3C, dC, dotAV]))
    | (with_reducible refine optK_dV (by first | omega | (simp [-map_take,-map_drop]; omega)) ?_)
    | with_reducible refine optK_dVh (by omega) ?_
    | refine And.intro (by first | omega | kernel_rfl) ?_
    | ((with_reducible refine condW_b (fun hc => ?_) (fun hc => ?_) <;> (try simp [-map_take,-map_drop, Int.ofNat_inj] at hc) <;> (try contradiction)))
    | fail)
  first | refine CallG_of (m1) ?_ ?_ rfl ?_ | refine callD_of (m1) ?_ ?_ rfl ?_
  · first | rfl | (simp [-map_take,-map_drop, natAV, numC, ← limbs.eq_1, push_cast, sgAV, sgC, ptAV, ptC, ratAV, ratC, zAV, zC]; done)
  · first | rfl | simp [-map_take,-map_drop, natAV, zAV, zC, ratAV, ratC, ptAV, ptC, sgAV, sgC, d3sAV, d3C, dC, dotAV, AV.refs, refsL, push_cast]
  try dsimp only
  repeat' (first
    | with_reducible first | apply thenW_n | apply thenW_ret | apply thenW_exit | apply thenW_panic | apply blockW_n | apply blockW_same | apply blockW_ret | apply blockW_panic | apply loopW_ret | apply loopW_exit | apply loopW_panic | apply joinW_ret | apply joinW_exit | apply joinW_panic | apply W_seq | apply W_block | apply W_skip | apply W_ret | apply W_exit | apply W_label
    | with_reducible refine blockW_other (by decide) ?_
    | with_reducible refine W_region (by first | decide | (with_unfolding_all rfl)) ?_
    | (rw [vcn]; (try simp [-map_take,-map_drop, push_cast, sgAV, sgC, ptAV, ptC, ratAV, ratC, zAV, zC, d3sAV, d3C, dC, dotAV]); try simp (disch := omega) only [i64_in, u64_in, shr64i])
    | with_reducible refine W_drawn mixed (by decide) (by kernel_rfl) ?_
    | (rw [vcnD]; (try simp [-map_take,-map_drop, push_cast, sgAV, sgC, ptAV, ptC, ratAV, ratC, zAV, zC, d3sAV, d3C, dC, dotAV]); try simp (disch := omega) only [i64_in, u64_in, shr64i])
    | (with_reducible refine W_condW ?_; (try simp [-map_take,-map_drop, AS.val, upd, resB, mkS_env, mkS_box, lk, entry_env, condW_true, condW_false, sgAV, sgC, ptAV, ptC, ratAV, ratC, zAV, zC, d3sAV, d3C, dC, dotAV]))
    | (with_reducible refine optK_dV (by first | omega | (simp [-map_take,-map_drop]; omega)) ?_)
    | with_reducible refine optK_dVh (by omega) ?_
    | refine And.intro (by first | omega | kernel_rfl) ?_
    | ((with_reducible refine condW_b (fun hc => ?_) (fun hc => ?_) <;> (try simp [-map_take,-map_drop, Int.ofNat_inj] at hc) <;> (try contradiction)))
    | fail)
  first | refine CallG_of (m2) ?_ ?_ rfl ?_ | refine callD_of (m2) ?_ ?_ rfl ?_
  · first | rfl | (simp [-map_take,-map_drop, natAV, numC, ← limbs.eq_1, push_cast, sgAV, sgC, ptAV, ptC, ratAV, ratC, zAV, zC]; done)
  · first | rfl | simp [-map_take,-map_drop, natAV, zAV, zC, ratAV, ratC, ptAV, ptC, sgAV, sgC, d3sAV, d3C, dC, dotAV, AV.refs, refsL, push_cast]
  try dsimp only
  repeat' (first
    | with_reducible first | apply thenW_n | apply thenW_ret | apply thenW_exit | apply thenW_panic | apply blockW_n | apply blockW_same | apply blockW_ret | apply blockW_panic | apply loopW_ret | apply loopW_exit | apply loopW_panic | apply joinW_ret | apply joinW_exit | apply joinW_panic | apply W_seq | apply W_block | apply W_skip | apply W_ret | apply W_exit | apply W_label
    | with_reducible refine blockW_other (by decide) ?_
    | with_reducible refine W_region (by first | decide | (with_unfolding_all rfl)) ?_
    | (rw [vcn]; (try simp [-map_take,-map_drop, push_cast, sgAV, sgC, ptAV, ptC, ratAV, ratC, zAV, zC, hk, w1, x1, x2]); try simp (disch := omega) only [i64_in, u64_in, shr64i])
    | with_reducible refine W_drawn mixed (by decide) (by kernel_rfl) ?_
    | (rw [vcnD]; (try simp [-map_take,-map_drop, push_cast, sgAV, sgC, ptAV, ptC, ratAV, ratC, zAV, zC, hk, w1, x1, x2]); try simp (disch := omega) only [i64_in, u64_in, shr64i])
    | (with_reducible refine W_condW ?_; (try simp [-map_take,-map_drop, AS.val, upd, resB, mkS_env, mkS_box, lk, entry_env, condW_true, condW_false, sgAV, sgC, ptAV, ptC, ratAV, ratC, zAV, zC, hk, w1, x1, x2]))
    | (with_reducible refine optK_dV (by first | omega | (simp [-map_take,-map_drop]; omega)) ?_)
    | with_reducible refine optK_dVh (by omega) ?_
    | refine And.intro (by first | omega | kernel_rfl) ?_
    | ((with_reducible refine condW_b (fun hc => ?_) (fun hc => ?_) <;> (try simp [-map_take,-map_drop, Int.ofNat_inj] at hc) <;> (try contradiction)))
    | fail)
  first | refine CallG_of (e0) ?_ ?_ rfl ?_ | refine callD_of (e0) ?_ ?_ rfl ?_
  · first | rfl | (simp [-map_take,-map_drop, natAV, numC, ← limbs.eq_1, push_cast, ratAV, ratC, zAV, zC]; done)
  · first | rfl | simp [-map_take,-map_drop, natAV, zAV, zC, ratAV, ratC, ptAV, ptC, sgAV, sgC, d3sAV, d3C, dC, dotAV, AV.refs, refsL, push_cast]
  try dsimp only
  repeat' (first
    | with_reducible first | apply thenW_n | apply thenW_ret | apply thenW_exit | apply thenW_panic | apply blockW_n | apply blockW_same | apply blockW_ret | apply blockW_panic | apply loopW_ret | apply loopW_exit | apply loopW_panic | apply joinW_ret | apply joinW_exit | apply joinW_panic | apply W_seq | apply W_block | apply W_skip | apply W_ret | apply W_exit | apply W_label
    | with_reducible refine blockW_other (by decide) ?_
    | with_reducible refine W_region (by first | decide | (with_unfolding_all rfl)) ?_
    | (rw [vcn]; (try simp [-map_take,-map_drop, push_cast, sgAV, sgC, ptAV, ptC, ratAV, ratC, zAV, zC]); try simp (disch := omega) only [i64_in, u64_in, shr64i])
    | with_reducible refine W_drawn mixed (by decide) (by kernel_rfl) ?_
    | (rw [vcnD]; (try simp [-map_take,-map_drop, push_cast, sgAV, sgC, ptAV, ptC, ratAV, ratC, zAV, zC]); try simp (disch := omega) only [i64_in, u64_in, shr64i])
    | (with_reducible refine W_condW ?_; (try simp [-map_take,-map_drop, AS.val, upd, resB, mkS_env, mkS_box, lk, entry_env, condW_true, condW_false, sgAV, sgC, ptAV, ptC, ratAV, ratC, zAV, zC]))
    | (with_reducible refine optK_dV (by first | omega | (simp [-map_take,-map_drop]; omega)) ?_)
    | with_reducible refine optK_dVh (by omega) ?_
    | refine And.intro (by first | omega | kernel_rfl) ?_
    | ((with_reducible refine condW_b (fun hc => ?_) (fun hc => ?_) <;> (try simp [-map_take,-map_drop, Int.ofNat_inj] at hc) <;> (try contradiction)))
    | fail)
  first | refine CallG_of (q1) ?_ ?_ rfl ?_ | refine callD_of (q1) ?_ ?_ rfl ?_
  · first | rfl | (simp [-map_take,-map_drop, natAV, numC, ← limbs.eq_1, push_cast, ratAV, ratC, zAV, zC]; done)
  · first | rfl | simp [-map_take,-map_drop, natAV, zAV, zC, ratAV, ratC, ptAV, ptC, sgAV, sgC, d3sAV, d3C, dC, dotAV, AV.refs, refsL, push_cast]
  try dsimp only
  repeat' (first
    | with_reducible first | apply thenW_n | apply thenW_ret | apply thenW_exit | apply thenW_panic | apply blockW_n | apply blockW_same | apply blockW_ret | apply blockW_panic | apply loopW_ret | apply loopW_exit | apply loopW_panic | apply joinW_ret | apply joinW_exit | apply joinW_panic | apply W_seq | apply W_block | apply W_skip | apply W_ret | apply W_exit | apply W_label
    | with_reducible refine blockW_other (by decide) ?_
    | with_reducible refine W_region (by first | decide | (with_unfolding_all rfl)) ?_
    | (rw [vcn]; (try simp [-map_take,-map_drop, push_cast, sgAV, sgC, ptAV, ptC, ratAV, ratC, zAV, zC]); try simp (disch := omega) only [i64_in, u64_in, shr64i])
    | with_reducible refine W_drawn mixed (by decide) (by kernel_rfl) ?_
    | (rw [vcnD]; (try simp [-map_take,-map_drop, push_cast, sgAV, sgC, ptAV, ptC, ratAV, ratC, zAV, zC]); try simp (disch := omega) only [i64_in, u64_in, shr64i])
    | (with_reducible refine W_condW ?_; (try simp [-map_take,-map_drop, AS.val, upd, resB, mkS_env, mkS_box, lk, entry_env, condW_true, condW_false, sgAV, sgC, ptAV, ptC, ratAV, ratC, zAV, zC]))
    | (with_reducible refine optK_dV (by first | omega | (simp [-map_take,-map_drop]; omega)) ?_)
    | with_reducible refine optK_dVh (by omega) ?_
    | refine And.intro (by first | omega | kernel_rfl) ?_
    | ((with_reducible refine condW_b (fun hc => ?_) (fun hc => ?_) <;> (try simp [-map_take,-map_drop, Int.ofNat_inj] at hc) <;> (try contradiction)))
    | fail)
  first | refine CallG_of (q2) ?_ ?_ rfl ?_ | refine callD_of (q2) ?_ ?_ rfl ?_
  · first | rfl | (simp [-map_take,-map_drop, natAV, numC, ← limbs.eq_1, push_cast, ratAV, ratC, zAV, zC]; done)
  · first | rfl | simp [-map_take,-map_drop, natAV, zAV, zC, ratAV, ratC, ptAV, ptC, sgAV, sgC, d3sAV, d3C, dC, dotAV, AV.refs, refsL, push_cast]
  try dsimp only
  repeat' (first
    | with_reducible first | apply thenW_n | apply thenW_ret | apply thenW_exit | apply thenW_panic | apply blockW_n | apply blockW_same | apply blockW_ret | apply blockW_panic | apply loopW_ret | apply loopW_exit | apply loopW_panic | apply joinW_ret | apply joinW_exit | apply joinW_panic | apply W_seq | apply W_block | apply W_skip | apply W_ret | apply W_exit | apply W_label
    | with_reducible refine blockW_other (by decide) ?_
    | with_reducible refine W_region (by first | decide | (with_unfolding_all rfl)) ?_
    | (rw [vcn]; (try simp [-map_take,-map_drop, push_cast, sgAV, sgC, ptAV, ptC, ratAV, ratC, zAV, zC]); try simp (disch := omega) only [i64_in, u64_in, shr64i])
    | with_reducible refine W_drawn mixed (by decide) (by kernel_rfl) ?_
    | (rw [vcnD]; (try simp [-map_take,-map_drop, push_cast, sgAV, sgC, ptAV, ptC, ratAV, ratC, zAV, zC]); try simp (disch := omega) only [i64_in, u64_in, shr64i])
    | (with_reducible refine W_condW ?_; (try simp [-map_take,-map_drop, AS.val, upd, resB, mkS_env, mkS_box, lk, entry_env, condW_true, condW_false, sgAV, sgC, ptAV, ptC, ratAV, ratC, zAV, zC]))
    | (with_reducible refine optK_dV (by first | omega | (simp [-map_take,-map_drop]; omega)) ?_)
    | with_reducible refine optK_dVh (by omega) ?_
    | refine And.intro (by first | omega | kernel_rfl) ?_
    | ((with_reducible refine condW_b (fun hc => ?_) (fun hc => ?_) <;> (try simp [-map_take,-map_drop, Int.ofNat_inj] at hc) <;> (try contradiction)))
    | fail)
  first | refine CallG_of (q3) ?_ ?_ rfl ?_ | refine callD_of (q3) ?_ ?_ rfl ?_
  · first | rfl | (simp [-map_take,-map_drop, natAV, numC, ← limbs.eq_1, push_cast, ratAV, ratC, zAV, zC]; done)
  · first | rfl | simp [-map_take,-map_drop, natAV, zAV, zC, ratAV, ratC, ptAV, ptC, sgAV, sgC, d3sAV, d3C, dC, dotAV, AV.refs, refsL, push_cast]
  try dsimp only
  repeat' (first
    | with_reducible first | apply thenW_n | apply thenW_ret | apply thenW_exit | apply thenW_panic | apply blockW_n | apply blockW_same | apply blockW_ret | apply blockW_panic | apply loopW_ret | apply loopW_exit | apply loopW_panic | apply joinW_ret | apply joinW_exit | apply joinW_panic | apply W_seq | apply W_block | apply W_skip | apply W_ret | apply W_exit | apply W_label
    | with_reducible refine blockW_other (by decide) ?_
    | with_reducible refine W_region (by first | decide | (with_unfolding_all rfl)) ?_
    | (rw [vcn]; (try simp [-map_take,-map_drop, push_cast, sgAV, sgC, ptAV, ptC, ratAV, ratC, zAV, zC]); try simp (disch := omega) only [i64_in, u64_in, shr64i])
    | with_reducible refine W_drawn mixed (by decide) (by kernel_rfl) ?_
    | (rw [vcnD]; (try simp [-map_take,-map_drop, push_cast, sgAV, sgC, ptAV, ptC, ratAV, ratC, zAV, zC]); try simp (disch := omega) only [i64_in, u64_in, shr64i])
    | (with_reducible refine W_condW ?_; (try simp [-map_take,-map_drop, AS.val, upd, resB, mkS_env, mkS_box, lk, entry_env, condW_true, condW_false, sgAV, sgC, ptAV, ptC, ratAV, ratC, zAV, zC]))
    | (with_reducible refine optK_dV (by first | omega | (simp [-map_take,-map_drop]; omega)) ?_)
    | with_reducible refine optK_dVh (by omega) ?_
    | refine And.intro (by first | omega | kernel_rfl) ?_
    | ((with_reducible refine condW_b (fun hc => ?_) (fun hc => ?_) <;> (try simp [-map_take,-map_drop, Int.ofNat_inj] at hc) <;> (try contradiction)))
    | fail)
  first | refine CallG_of (q4) ?_ ?_ rfl ?_ | refine callD_of (q4) ?_ ?_ rfl ?_
  · first | rfl | (simp [-map_take,-map_drop, natAV, numC, ← limbs.eq_1, push_cast, ratAV, ratC, zAV, zC]; done)
  · first | rfl | simp [-map_take,-map_drop, natAV, zAV, zC, ratAV, ratC, ptAV, ptC, sgAV, sgC, d3sAV, d3C, dC, dotAV, AV.refs, refsL, push_cast]
  try dsimp only
  repeat' (first
    | with_reducible first | apply thenW_n | apply thenW_ret | apply thenW_exit | apply thenW_panic | apply blockW_n | apply blockW_same | apply blockW_ret | apply blockW_panic | apply loopW_ret | apply loopW_exit | apply loopW_panic | apply joinW_ret | apply joinW_exit | apply joinW_panic | apply W_seq | apply W_block | apply W_skip | apply W_ret | apply W_exit | apply W_label
    | with_reducible refine blockW_other (by decide) ?_
    | with_reducible refine W_region (by first | decide | (with_unfolding_all rfl)) ?_
    | (rw [vcn]; (try simp [-map_take,-map_drop, push_cast, sgAV, sgC, ptAV, ptC, ratAV, ratC, zAV, zC]); try simp (disch := omega) only [i64_in, u64_in, shr64i])
    | with_reducible refine W_drawn mixed (by decide) (by kernel_rfl) ?_
    | (rw [vcnD]; (try simp [-map_take,-map_drop, push_cast, sgAV, sgC, ptAV, ptC, ratAV, ratC, zAV, zC]); try simp (disch := omega) only [i64_in, u64_in, shr64i])
    | (with_reducible refine W_condW ?_; (try simp [-map_take,-map_drop, AS.val, upd, resB, mkS_env, mkS_box, lk, entry_env, condW_true, condW_false, sgAV, sgC, ptAV, ptC, ratAV, ratC, zAV, zC]))
    | (with_reducible refine optK_dV (by first | omega | (simp [-map_take,-map_drop]; omega)) ?_)
    | with_reducible refine optK_dVh (by omega) ?_
    | refine And.intro (by first | omega | kernel_rfl) ?_
    | ((with_reducible refine condW_b (fun hc => ?_) (fun hc => ?_) <;> (try simp [-map_take,-map_drop, Int.ofNat_inj] at hc) <;> (try contradiction)))
    | fail)
  first | refine CallG_of (q5) ?_ ?_ rfl ?_ | refine callD_of (q5) ?_ ?_ rfl ?_
  · first | rfl | (simp [-map_take,-map_drop, natAV, numC, ← limbs.eq_1, push_cast, ratAV, ratC, zAV, zC]; done)
  · first | rfl | simp [-map_take,-map_drop, natAV, zAV, zC, ratAV, ratC, ptAV, ptC, sgAV, sgC, d3sAV, d3C, dC, dotAV, AV.refs, refsL, push_cast]
  try dsimp only
  repeat' (first
    | with_reducible first | apply thenW_n | apply thenW_ret | apply thenW_exit | apply thenW_panic | apply blockW_n | apply blockW_same | apply blockW_ret | apply blockW_panic | apply loopW_ret | apply loopW_exit | apply loopW_panic | apply joinW_ret | apply joinW_exit | apply joinW_panic | apply W_seq | apply W_block | apply W_skip | apply W_ret | apply W_exit | apply W_label
    | with_reducible refine blockW_other (by decide) ?_
    | with_reducible refine W_region (by first | decide | (with_unfolding_all rfl)) ?_
    | (rw [vcn]; (try simp [-map_take,-map_drop, push_cast, sgAV, sgC, ptAV, ptC, ratAV, ratC, zAV, zC]); try simp (disch := omega) only [i64_in, u64_in, shr64i])
    | with_reducible refine W_drawn mixed (by decide) (by kernel_rfl) ?_
    | (rw [vcnD]; (try simp [-map_take,-map_drop, push_cast, sgAV, sgC, ptAV, ptC, ratAV, ratC, zAV, zC]); try simp (disch := omega) only [i64_in, u64_in, shr64i])
    | (with_reducible refine W_condW ?_; (try simp [-map_take,-map_drop, AS.val, upd, resB, mkS_env, mkS_box, lk, entry_env, condW_true, condW_false, sgAV, sgC, ptAV, ptC, ratAV, ratC, zAV, zC]))
    | (with_reducible refine optK_dV (by first | omega | (simp [-map_take,-map_drop]; omega)) ?_)
    | with_reducible refine optK_dVh (by omega) ?_
    | refine And.intro (by first | omega | kernel_rfl) ?_
    | ((with_reducible refine condW_b (fun hc => ?_) (fun hc => ?_) <;> (try simp [-map_take,-map_drop, Int.ofNat_inj] at hc) <;> (try contradiction)))
    | fail)
  first | refine CallG_of (q6) ?_ ?_ rfl ?_ | refine callD_of (q6) ?_ ?_ rfl ?_
  · first | rfl | (simp [-map_take,-map_drop, natAV, numC, ← limbs.eq_1, push_cast, ratAV, ratC, zAV, zC]; done)
  · first | rfl | simp [-map_take,-map_drop, natAV, zAV, zC, ratAV, ratC, ptAV, ptC, sgAV, sgC, d3sAV, d3C, dC, dotAV, AV.refs, refsL, push_cast]
  try dsimp only
  repeat' (first
    | with_reducible apply W_seq
    | with_reducible refine W_region (by first | decide | (with_unfolding_all rfl)) ?_
    | (rw [vcn]; (try simp [-map_take,-map_drop, push_cast, sgAV, sgC, ptAV, ptC, ratAV, ratC, zAV, zC]); try simp (disch := omega) only [i64_in, u64_in, shr64i])
    | with_reducible refine W_drawn mixed (by decide) (by kernel_rfl) ?_
    | (rw [vcnD]; (try simp [-map_take,-map_drop, push_cast, sgAV, sgC, ptAV, ptC, ratAV, ratC, zAV, zC]); try simp (disch := omega) only [i64_in, u64_in, shr64i])
    | (with_reducible refine optK_dV (by first | omega | (simp [-map_take,-map_drop]; omega)) ?_)
    | with_reducible refine optK_dVh (by omega) ?_
    | refine And.intro (by first | omega | kernel_rfl) ?_
    | ((with_reducible refine condW_b (fun hc => ?_) (fun hc => ?_) <;> (try simp [-map_take,-map_drop, Int.ofNat_inj] at hc) <;> (try contradiction)))
    | fail)
  refine thenW_n ?_
  refine W_frz 19 (e := 32) (l := ptC ⟨px, py⟩) (by simp [-map_take,-map_drop, mkS_box, lk, upd, ptC, ratC, zC]) rfl ?_
  repeat' (first
    | with_reducible first | apply thenW_n | apply thenW_ret | apply thenW_exit | apply thenW_panic | apply blockW_n | apply blockW_same | apply blockW_ret | apply blockW_panic | apply loopW_ret | apply loopW_exit | apply loopW_panic | apply joinW_ret | apply joinW_exit | apply joinW_panic | apply W_seq | apply W_block | apply W_skip | apply W_ret | apply W_exit | apply W_label
    | with_reducible refine blockW_other (by decide) ?_
    | with_reducible refine W_region (by first | decide | (with_unfolding_all rfl)) ?_
    | (rw [vcn]; (try simp [-map_take,-map_drop, push_cast, sgAV, sgC, ptAV, ptC, ratAV, ratC, zAV, zC]); try simp (disch := omega) only [i64_in, u64_in, shr64i])
    | with_reducible refine W_drawn mixed (by decide) (by kernel_rfl) ?_
    | (rw [vcnD]; (try simp [-map_take,-map_drop, push_cast, sgAV, sgC, ptAV, ptC, ratAV, ratC, zAV, zC]); try simp (disch := omega) only [i64_in, u64_in, shr64i])
    | (with_reducible refine W_condW ?_; (try simp [-map_take,-map_drop, AS.val, upd, resB, mkS_env, mkS_box, lk, entry_env, condW_true, condW_false, sgAV, sgC, ptAV, ptC, ratAV, ratC, zAV, zC]))
    | (with_reducible refine optK_dV (by first | omega | (simp [-map_take,-map_drop]; omega)) ?_)
    | with_reducible refine optK_dVh (by omega) ?_
    | refine And.intro (by first | omega | kernel_rfl) ?_
    | ((with_reducible refine condW_b (fun hc => ?_) (fun hc => ?_) <;> (try simp [-map_take,-map_drop, Int.ofNat_inj] at hc) <;> (try contradiction)))
    | fail)
  first | refine CallG_of (sd) ?_ ?_ rfl ?_ | refine callD_of (sd) ?_ ?_ rfl ?_
  · first | rfl | (simp [-map_take,-map_drop, natAV, numC, ← limbs.eq_1, push_cast, sgAV, sgC, ptAV, ptC, ratAV, ratC, zAV, zC]; done)
  · first | rfl | simp [-map_take,-map_drop, natAV, zAV, zC, ratAV, ratC, ptAV, ptC, sgAV, sgC, d3sAV, d3C, dC, dotAV, AV.refs, refsL, push_cast]
  try dsimp only
  repeat' (first
    | with_reducible first | apply thenW_n | apply thenW_ret | apply thenW_exit | apply thenW_panic | apply blockW_n | apply blockW_same | apply blockW_ret | apply blockW_panic | apply loopW_ret | apply loopW_exit | apply loopW_panic | apply joinW_ret | apply joinW_exit | apply joinW_panic | apply W_seq | apply W_block | apply W_skip | apply W_ret | apply W_exit | apply W_label
    | with_reducible refine blockW_other (by decide) ?_
    | with_reducible refine W_region (by first | decide | (with_unfolding_all rfl)) ?_
    | (rw [vcn]; (try simp [-map_take,-map_drop, push_cast, sgAV, sgC, ptAV, ptC, ratAV, ratC, zAV, zC]); try simp (disch := omega) only [i64_in, u64_in, shr64i])
    | with_reducible refine W_drawn mixed (by decide) (by kernel_rfl) ?_
    | (rw [vcnD]; (try simp [-map_take,-map_drop, push_cast, sgAV, sgC, ptAV, ptC, ratAV, ratC, zAV, zC]); try simp (disch := omega) only [i64_in, u64_in, shr64i])
    | (with_reducible refine W_condW ?_; (try simp [-map_take,-map_drop, AS.val, upd, resB, mkS_env, mkS_box, lk, entry_env, condW_true, condW_false, sgAV, sgC, ptAV, ptC, ratAV, ratC, zAV, zC]))
    | (with_reducible refine optK_dV (by first | omega | (simp [-map_take,-map_drop]; omega)) ?_)
    | with_reducible refine optK_dVh (by omega) ?_
    | refine And.intro (by first | omega | kernel_rfl) ?_
    | ((with_reducible refine condW_b (fun hc => ?_) (fun hc => ?_) <;> (try simp [-map_take,-map_drop, Int.ofNat_inj] at hc) <;> (try contradiction)))
    | fail)
  first | refine CallG_of (known11_ok) ?_ ?_ rfl ?_ | refine callD_of (known11_ok) ?_ ?_ rfl ?_
  · first | rfl | (simp [-map_take,-map_drop, natAV, numC, ← limbs.eq_1, push_cast]; done)
  · first | rfl | simp [-map_take,-map_drop, natAV, zAV, zC, ratAV, ratC, ptAV, ptC, sgAV, sgC, d3sAV, d3C, dC, dotAV, AV.refs, refsL, push_cast]
  try dsimp only
  repeat' (first
    | with_reducible first | apply thenW_n | apply thenW_ret | apply thenW_exit | apply thenW_panic | apply blockW_n | apply blockW_same | apply blockW_ret | apply blockW_panic | apply loopW_ret | apply loopW_exit | apply loopW_panic | apply joinW_ret | apply joinW_exit | apply joinW_panic | apply W_seq | apply W_block | apply W_skip | apply W_ret | apply W_exit | apply W_label
    | with_reducible refine blockW_other (by decide) ?_
    | with_reducible refine W_region (by first | decide | (with_unfolding_all rfl)) ?_
    | (rw [vcn]; (try simp [-map_take,-map_drop, push_cast, sgAV, sgC, ptAV, ptC, ratAV, ratC, zAV, zC, x1, x2]); try simp (disch := omega) only [i64_in, u64_in, shr64i])
    | with_reducible refine W_drawn mixed (by decide) (by kernel_rfl) ?_
    | (rw [vcnD]; (try simp [-map_take,-map_drop, push_cast, sgAV, sgC, ptAV, ptC, ratAV, ratC, zAV, zC, x1, x2]); try simp (disch := omega) only [i64_in, u64_in, shr64i])
    | (with_reducible refine W_condW ?_; (try simp [-map_take,-map_drop, AS.val, upd, resB, mkS_env, mkS_box, lk, entry_env, condW_true, condW_false, sgAV, sgC, ptAV, ptC, ratAV, ratC, zAV, zC, x1, x2]))
    | (with_reducible refine optK_dV (by first | omega | (simp [-map_take,-map_drop]; omega)) ?_)
    | with_reducible refine optK_dVh (by omega) ?_
    | refine And.intro (by first | omega | kernel_rfl) ?_
    | ((with_reducible refine condW_b (fun hc => ?_) (fun hc => ?_) <;> (try simp [-map_take,-map_drop, Int.ofNat_inj] at hc) <;> (try contradiction)))
    | fail)
  first | refine CallG_of (v1) ?_ ?_ rfl ?_ | refine callD_of (v1) ?_ ?_ rfl ?_
  · first | rfl | (simp [-map_take,-map_drop, natAV, numC, ← limbs.eq_1, push_cast, sgAV, sgC, ptAV, ptC, ratAV, ratC, zAV, zC]; done)
  · first | rfl | simp [-map_take,-map_drop, natAV, zAV, zC, ratAV, ratC, ptAV, ptC, sgAV, sgC, d3sAV, d3C, dC, dotAV, AV.refs, refsL, push_cast]
  try dsimp only
  repeat' (first
    | with_reducible first | apply thenW_n | apply thenW_ret | apply thenW_exit | apply thenW_panic | apply blockW_n | apply blockW_same | apply blockW_ret | apply blockW_panic | apply loopW_ret | apply loopW_exit | apply loopW_panic | apply joinW_ret | apply joinW_exit | apply joinW_panic | apply W_seq | apply W_block | apply W_skip | apply W_ret | apply W_exit | apply W_label
    | with_reducible refine blockW_other (by decide) ?_
    | with_reducible refine W_region (by first | decide | (with_unfolding_all rfl)) ?_
    | (rw [vcn]; (try simp [-map_take,-map_drop, push_cast, sgAV, sgC, ptAV, ptC, ratAV, ratC, zAV, zC, x1, x2]); try simp (disch := omega) only [i64_in, u64_in, shr64i])
    | with_reducible refine W_drawn mixed (by decide) (by kernel_rfl) ?_
    | (rw [vcnD]; (try simp [-map_take,-map_drop, push_cast, sgAV, sgC, ptAV, ptC, ratAV, ratC, zAV, zC, x1, x2]); try simp (disch := omega) only [i64_in, u64_in, shr64i])
    | (with_reducible refine W_condW ?_; (try simp [-map_take,-map_drop, AS.val, upd, resB, mkS_env, mkS_box, lk, entry_env, condW_true, condW_false, sgAV, sgC, ptAV, ptC, ratAV, ratC, zAV, zC, x1, x2]))
    | (with_reducible refine optK_dV (by first | omega | (simp [-map_take,-map_drop]; omega)) ?_)
    | with_reducible refine optK_dVh (by omega) ?_
    | refine And.intro (by first | omega | kernel_rfl) ?_
    | ((with_reducible refine condW_b (fun hc => ?_) (fun hc => ?_) <;> (try simp [-map_take,-map_drop, Int.ofNat_inj] at hc) <;> (try contradiction)))
    | fail)
  first | refine CallG_of (v2) ?_ ?_ rfl ?_ | refine callD_of (v2) ?_ ?_ rfl ?_
  · first | rfl | (simp [-map_take,-map_drop, natAV, numC, ← limbs.eq_1, push_cast, sgAV, sgC, ptAV, ptC, ratAV, ratC, zAV, zC]; done)
  · first | rfl | simp [-map_take,-map_drop, natAV, zAV, zC, ratAV, ratC, ptAV, ptC, sgAV, sgC, d3sAV, d3C, dC, dotAV, AV.refs, refsL, push_cast]
  try dsimp only
  repeat' (first
    | with_reducible first | apply thenW_n | apply thenW_ret | apply thenW_exit | apply thenW_panic | apply blockW_n | apply blockW_same | apply blockW_ret | apply blockW_panic | apply loopW_ret | apply loopW_exit | apply loopW_panic | apply joinW_ret | apply joinW_exit | apply joinW_panic | apply W_seq | apply W_block | apply W_skip | apply W_ret | apply W_exit | apply W_label
    | with_reducible refine blockW_other (by decide) ?_
    | with_reducible refine W_region (by first | decide | (with_unfolding_all rfl)) ?_
    | (rw [vcn]; (try simp [-map_take,-map_drop, push_cast]); try simp (disch := omega) only [i64_in, u64_in, shr64i])
    | with_reducible refine W_drawn mixed (by decide) (by kernel_rfl) ?_
    | (rw [vcnD]; (try simp [-map_take,-map_drop, push_cast]); try simp (disch := omega) only [i64_in, u64_in, shr64i])
    | (with_reducible refine W_condW ?_; (try simp [-map_take,-map_drop, AS.val, upd, resB, mkS_env, mkS_box, lk, entry_env, condW_true, condW_false]))
    | (with_reducible refine optK_dV (by first | omega | (simp [-map_take,-map_drop]; omega)) ?_)
    | with_reducible refine optK_dVh (by omega) ?_
    | refine And.intro (by first | omega | kernel_rfl) ?_
    | ((with_reducible refine condW_b (fun hc => ?_) (fun hc => ?_) <;> (try simp [-map_take,-map_drop, Int.ofNat_inj] at hc) <;> (try contradiction)))
    | fail)
  simp [-map_take,-map_drop, post, resAV, resAll, resOne, closeV, closeC, closeL, resD, resDL, push_cast]
end Go.Fw

/- PlaneParts: every call of the law returns true. Printed by a program (wip/gen/entry.py). -/
namespace Go.Proofs.Ytbabekaohfcjbaa
open Go.ChangeShapes Go.WideShapes Go.ChangeAt Go.RowKit Go.Deep Go.Fw
open Go.ChangeMaps (open_string shut_string)
set_option linter.unusedVariables false

theorem walkPrt (x0 : Int × Int × Int) (x1 : Int × Int × Int) (x2 : Int × Int × Int) (x3 : Int × Int × Int) (x4 : Int) (hx0 : inD x0) (hx1 : inD x1) (hx2 : inD x2) (hx3 : inD x3) (w : World) :
    Calls Try.prog 4 #[dotV x0, dotV x1, dotV x2, dotV x3, .int .i64 x4] w fun e w' => e = .returned (.bool true) ∧ Below w.heap.size w w' :=
  law_calls Try.call4 (lawParts_ok x0 x1 x2 x3 x4 hx0 hx1 hx2 hx3) w _ rfl ⟨⟨_, rfl, rep_dot w x0⟩, ⟨_, rfl, rep_dot w x1⟩, ⟨_, rfl, rep_dot w x2⟩, ⟨_, rfl, rep_dot w x3⟩, ⟨_, rfl, rfl, rfl⟩, trivial⟩

set_option maxRecDepth 100000 in
theorem liftedPrt (os : Os) (started : os.Started) (H : Type) (enc : TypeId × Value → H) :
    ReturnsInHanded {} Try.checked os 4 .any (Rows.planePartsSpec.pre6 enc Try.prog Try.f4 Rows.planePartsRow.domain false) (Rows.planePartsSpec.post enc Try.prog Try.f4 false true false false) := by
  refine returnsInHanded_of_change (C := Try.checked) own started (by kernel_rfl) Try.func4
    (ChangeSpec.witness6 (enc := enc) (C := Try.checked) false ⟨#[], #[.agg #[.int .i64 0, .int .i64 0, .int .i64 0], .agg #[.int .i64 0, .int .i64 0, .int .i64 0], .agg #[.int .i64 0, .int .i64 0, .int .i64 0], .agg #[.int .i64 0, .int .i64 0, .int .i64 0], .int .i64 0], []⟩ 8 (by kernel_rfl) (by kernel_rfl) (by kernel_rfl) (by kernel_rfl)) ?_
  intro W base args ds gs before hval0 hW hcnd _
  have hW' := hW
  obtain ⟨p, q, hA0, hV, rfl, hfz, hnd⟩ := hW
  have hA : DataW.TrodAll enc Try.prog W 0 (fun _ => true) true Try.f4.params.toList args.toList ds p := hA0
  have hval : ∀ (j : Nat) t v, Try.f4.params[j]? = some t → args[j]? = some v → Value.okWide Try.prog W .any base t v := hval0
  rw [Try.params4] at hA hval
  obtain ⟨v0, vs0, d0, ds0, p0, q0, hargs, rfl, rfl, h0, r0⟩ := trodAll_cons hA
  obtain ⟨v1, vs1, d1, ds1, p1, q1, rfl, rfl, rfl, h1, r1⟩ := trodAll_cons r0
  obtain ⟨v2, vs2, d2, ds2, p2, q2, rfl, rfl, rfl, h2, r2⟩ := trodAll_cons r1
  obtain ⟨v3, vs3, d3, ds3, p3, q3, rfl, rfl, rfl, h3, r3⟩ := trodAll_cons r2
  obtain ⟨v4, vs4, d4, ds4, p4, q4, rfl, rfl, rfl, h4, r4⟩ := trodAll_cons r3
  obtain ⟨rfl, rfl, rfl⟩ := trodAll_nil r4
  obtain rfl : args = #[v0, v1, v2, v3, v4] := by cases args; simp_all
  obtain ⟨rfl, rfl⟩ := trodVars_none hV
  obtain ⟨cs0, rfl, _⟩ := okWide_struct Try.underlying23 (hval 0 23 v0 rfl rfl)
  obtain ⟨cs1, rfl, _⟩ := okWide_struct Try.underlying23 (hval 1 23 v1 rfl rfl)
  obtain ⟨cs2, rfl, _⟩ := okWide_struct Try.underlying23 (hval 2 23 v2 rfl rfl)
  obtain ⟨cs3, rfl, _⟩ := okWide_struct Try.underlying23 (hval 3 23 v3 rfl rfl)
  obtain ⟨x4, rfl⟩ := okWide_int Try.underlying3 (hval 4 3 v4 rfl rfl)
  have k0 := h0
  have k1 := h1
  have k2 := h2
  have k3 := h3
  have k4 := h4
  have lt0 : ∀ x ∈ p0, x.block < W.heap.size := by obtain ⟨m, hm⟩ := k0; exact DataW.trod_lt m _ _ _ hm
  have lt1 : ∀ x ∈ p1, x.block < W.heap.size := by obtain ⟨m, hm⟩ := k1; exact DataW.trod_lt m _ _ _ hm
  have lt2 : ∀ x ∈ p2, x.block < W.heap.size := by obtain ⟨m, hm⟩ := k2; exact DataW.trod_lt m _ _ _ hm
  have lt3 : ∀ x ∈ p3, x.block < W.heap.size := by obtain ⟨m, hm⟩ := k3; exact DataW.trod_lt m _ _ _ hm
  have lt4 : ∀ x ∈ p4, x.block < W.heap.size := by obtain ⟨m, hm⟩ := k4; exact DataW.trod_lt m _ _ _ hm
  obtain ⟨x0, hx0, e0⟩ : ∃ a : Int × Int × Int, inD a ∧ cs0.toList = [.int .i64 a.1, .int .i64 a.2.1, .int .i64 a.2.2] := by
    obtain ⟨fuel, hf⟩ := h0
    exact open_dot (by simpa [Value.cells] using hf)
  obtain ⟨x1, hx1, e1⟩ : ∃ a : Int × Int × Int, inD a ∧ cs1.toList = [.int .i64 a.1, .int .i64 a.2.1, .int .i64 a.2.2] := by
    obtain ⟨fuel, hf⟩ := h1
    exact open_dot (by simpa [Value.cells] using hf)
  obtain ⟨x2, hx2, e2⟩ : ∃ a : Int × Int × Int, inD a ∧ cs2.toList = [.int .i64 a.1, .int .i64 a.2.1, .int .i64 a.2.2] := by
    obtain ⟨fuel, hf⟩ := h2
    exact open_dot (by simpa [Value.cells] using hf)
  obtain ⟨x3, hx3, e3⟩ : ∃ a : Int × Int × Int, inD a ∧ cs3.toList = [.int .i64 a.1, .int .i64 a.2.1, .int .i64 a.2.2] := by
    obtain ⟨fuel, hf⟩ := h3
    exact open_dot (by simpa [Value.cells] using hf)
  obtain rfl := dot_arr e0
  obtain rfl := dot_arr e1
  obtain rfl := dot_arr e2
  obtain rfl := dot_arr e3
  clear hA0 hval0
  refine (walkPrt x0 x1 x2 x3 x4 hx0 hx1 hx2 hx3 W).mono fun e W' ⟨he, bel⟩ => ?_
  subst he
  exact ⟨_, rfl, _, _, _, [], _, [], hW', trodAll_mk1 (shut_bool Try.underlying4 _), (trodAll_cons_mk (Below.trod laidOut (by kernel_rfl) (of_decide_eq_true (by kernel_rfl)) k0 bel lt0) (trodAll_cons_mk (Below.trod laidOut (by kernel_rfl) (of_decide_eq_true (by kernel_rfl)) k1 bel lt1) (trodAll_cons_mk (Below.trod laidOut (by kernel_rfl) (of_decide_eq_true (by kernel_rfl)) k2 bel lt2) (trodAll_cons_mk (Below.trod laidOut (by kernel_rfl) (of_decide_eq_true (by kernel_rfl)) k3 bel lt3) (trodAll_cons_mk (Below.trod laidOut (by kernel_rfl) (of_decide_eq_true (by kernel_rfl)) k4 bel lt4) trodAll_mk0))))), rfl, bel.frame _, fun h => by cases h⟩

theorem prtNamed : Try.checked.prog.funcNamed Rows.planePartsRow.func = some 4 := by kernel_rfl
theorem prtJoined : joinedFacts Try.checked.prog 4 Try.f4 Rows.planePartsSpec Rows.planePartsRow = true := by kernel_rfl
theorem prtInst : Try.f4.isInstance Try.checked.prog Rows.planePartsRow.origin Rows.planePartsRow.targs := of_decide_eq_true (by kernel_rfl)
theorem prtWrap : Try.f4.isWrapper Try.checked.prog Rows.planePartsRow.wrapper Rows.planePartsRow.mainSum := by unfold Func.isWrapper; first | (rw [if_pos (by decide +kernel)]; kernel_rfl) | (rw [if_neg (by decide +kernel)]; exact ⟨rfl, rfl⟩)

theorem plane_parts_law : Rows.PlanePartsSaid :=
  OpenClaim.holds_of_wide 4 Try.f4 rfl rfl rfl rfl rfl rfl rfl ⟨rfl, rfl, rfl, rfl, rfl⟩ rfl rfl rfl rfl rfl prtNamed Try.func4 prtJoined
    prtInst prtWrap
    (fun os started H enc _ => liftedPrt os started H enc)

#print axioms plane_parts_law
end Go.Proofs.Ytbabekaohfcjbaa

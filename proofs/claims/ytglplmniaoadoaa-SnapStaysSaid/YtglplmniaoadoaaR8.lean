/- plane: less, Cross, Dot, Side, Grid. -/
import Derived.Test.YtglplmniaoadoaaR7
-- VALS: zAV, zC, ratAV, ratC, ptAV, ptC
namespace Go.Fw
open Go Go.Proofs Go.IntWalk
set_option linter.unusedSimpArgs false
set_option maxRecDepth 100000
set_option maxHeartbeats 4000000

/-- A point of the program's. -/
structure FP where
  x : FQ
  y : FQ
def ptC (p : FP) : List AV := ratC p.x ++ ratC p.y
def ptAV (p : FP) : AV := .agg (ptC p)
def szV (p : FP) : Nat := szQ p.x.q + szQ p.y.q
def FP.sub (p q : FP) : FP := ⟨.of (p.x.q - q.x.q), .of (p.y.q - q.y.q)⟩

theorem szQ_sub (a b : Rat) : szQ (a - b) ≤ 2 * (szQ a + szQ b) + 1 := by
  rw [Rat.sub_eq_add_neg]
  have := szQ_add a (-b)
  rw [szQ_neg] at this
  exact this
theorem szV_sub (p q : FP) : szV (p.sub q) ≤ 2 * (szV p + szV q) + 2 := by
  have := szQ_sub p.x.q q.x.q
  have := szQ_sub p.y.q q.y.q
  show szQ (p.x.q - q.x.q) + szQ (p.y.q - q.y.q) ≤ _
  unfold szV; omega

attribute [local push_cast] optK_some optK_none optK_ite optK_map optK_bind gOn stepK isMem evPure evMem evBin evUn evConv evLen evBuiltin evMinMax evSlice evBuild evAppend evIndex evIndexAddr evField evFieldAddr intBin strBin appDest AS.val AS.mem AS.elems AS.put AS.put' AS.eff AV.cells? AV.isCell AV.refs all_isByte take_byteV drop_byteV strOf_map bndOk bnd partAV ptrAdd killBox catA inOrder fillA setAt ofVal resB upd byteV List.head?_take List.head?_drop List.getElem?_map mkS_env mkS_box mkS_used entry_env entry_box entry_used lk stepD lookIds Oper.looksAt Op.operands Call.operands St.ids refsL renL_append ren renL renBox Box.refs iV i64V boolV dV_getElem dV_app dV_cons toNat_add2 toNat_add1
attribute [local simp ↓] numC_refs numC_isCell numC_cells numC_resB numC_resD numC_ren numC_closeC numC_isOwn

theorem grid_ok (x y : Int) (hx : -9223372036854775808 ≤ x ∧ x ≤ 9223372036854775807) (hy : -9223372036854775808 ≤ y ∧ y ≤ 9223372036854775807) : Eval Try.prog 14 [.agg [i64V x, i64V y]] (.ret (ptAV ⟨.of x, .of y⟩)) := by
  refine Eval.intro Try.func14 rfl Try.call14 _ _ (Nat.le_of_ble_eq_true rfl) (by simp [AV.refs, refsL, natAV, zAV, zC, ratAV, ratC, ptAV, ptC, push_cast, -List.map_take, -List.map_drop]) fun hs0 => ?_
  have h1 := limbs_small (n := x.natAbs) (by omega)
  have h2 := limbs_small (n := y.natAbs) (by omega)
  have e1 := whole_ok x (by omega)
  have e2 := whole_ok y (by omega)
  obtain ⟨a, ha⟩ : ∃ a, a = FQ.of (x : Rat) := ⟨_, rfl⟩
  obtain ⟨b, hb⟩ : ∃ b, b = FQ.of (y : Rat) := ⟨_, rfl⟩
  rw [← ha, ← hb]
  rw [← ha] at e1
  rw [← hb] at e2
  clear ha hb
  repeat' (first
    | with_reducible first | apply thenW_n | apply thenW_ret | apply thenW_exit | apply thenW_panic | apply blockW_n | apply blockW_same | apply blockW_ret | apply blockW_panic | apply loopW_ret | apply loopW_exit | apply loopW_panic | apply joinW_ret | apply joinW_exit | apply joinW_panic | apply W_seq | apply W_block | apply W_skip | apply W_ret | apply W_exit | apply W_label
    | with_reducible refine blockW_other (by decide) ?_
    | with_reducible refine W_region (by first | decide | (with_unfolding_all rfl)) ?_
    | (rw [vcn]; (try simp [push_cast, -List.map_take, -List.map_drop]); try simp (disch := omega) only [i64_in, u64_in, shr64i])
    | with_reducible refine W_drawn mixed (by decide) (by kernel_rfl) ?_
    | (rw [vcnD]; (try simp [push_cast, -List.map_take, -List.map_drop]); try simp (disch := omega) only [i64_in, u64_in, shr64i])
    | (with_reducible refine W_condW ?_; (try simp [AS.val, upd, resB, mkS_env, mkS_box, lk, entry_env, condW_true, condW_false]))
    | with_reducible refine optK_dV (by first | omega | (simp; omega)) ?_
    | with_reducible refine optK_dVh (by omega) ?_
    | refine And.intro (by first | omega | kernel_rfl) ?_
    | (with_reducible refine condW_b (fun hc => ?_) (fun hc => ?_) <;> (try simp [Int.ofNat_inj] at hc) <;> try contradiction)
    | fail)
  first | refine CallG_of (ofZ_ok x hx) (by first | rfl | (simp [natAV, numC, ← limbs.eq_1, push_cast, -List.map_take, -List.map_drop]; done)) (by simp [natAV, zAV, zC, ratAV, ratC, ptAV, ptC, AV.refs, refsL, push_cast, -List.map_take, -List.map_drop]) rfl ?_ | refine callD_of (ofZ_ok x hx) (by first | rfl | (simp [natAV, numC, ← limbs.eq_1, push_cast, -List.map_take, -List.map_drop]; done)) (by simp [natAV, zAV, zC, ratAV, ratC, ptAV, ptC, AV.refs, refsL, push_cast, -List.map_take, -List.map_drop]) rfl ?_
  try dsimp only
  repeat' (first
    | with_reducible first | apply thenW_n | apply thenW_ret | apply thenW_exit | apply thenW_panic | apply blockW_n | apply blockW_same | apply blockW_ret | apply blockW_panic | apply loopW_ret | apply loopW_exit | apply loopW_panic | apply joinW_ret | apply joinW_exit | apply joinW_panic | apply W_seq | apply W_block | apply W_skip | apply W_ret | apply W_exit | apply W_label
    | with_reducible refine blockW_other (by decide) ?_
    | with_reducible refine W_region (by first | decide | (with_unfolding_all rfl)) ?_
    | (rw [vcn]; (try simp [push_cast, -List.map_take, -List.map_drop]); try simp (disch := omega) only [i64_in, u64_in, shr64i])
    | with_reducible refine W_drawn mixed (by decide) (by kernel_rfl) ?_
    | (rw [vcnD]; (try simp [push_cast, -List.map_take, -List.map_drop]); try simp (disch := omega) only [i64_in, u64_in, shr64i])
    | (with_reducible refine W_condW ?_; (try simp [AS.val, upd, resB, mkS_env, mkS_box, lk, entry_env, condW_true, condW_false]))
    | with_reducible refine optK_dV (by first | omega | (simp; omega)) ?_
    | with_reducible refine optK_dVh (by omega) ?_
    | refine And.intro (by first | omega | kernel_rfl) ?_
    | (with_reducible refine condW_b (fun hc => ?_) (fun hc => ?_) <;> (try simp [Int.ofNat_inj] at hc) <;> try contradiction)
    | fail)
  first | refine CallG_of (e1) (by first | rfl | (simp [natAV, numC, ← limbs.eq_1, push_cast, -List.map_take, -List.map_drop]; done)) (by simp [natAV, zAV, zC, ratAV, ratC, ptAV, ptC, AV.refs, refsL, push_cast, -List.map_take, -List.map_drop]) rfl ?_ | refine callD_of (e1) (by first | rfl | (simp [natAV, numC, ← limbs.eq_1, push_cast, -List.map_take, -List.map_drop]; done)) (by simp [natAV, zAV, zC, ratAV, ratC, ptAV, ptC, AV.refs, refsL, push_cast, -List.map_take, -List.map_drop]) rfl ?_
  try dsimp only
  repeat' (first
    | with_reducible first | apply thenW_n | apply thenW_ret | apply thenW_exit | apply thenW_panic | apply blockW_n | apply blockW_same | apply blockW_ret | apply blockW_panic | apply loopW_ret | apply loopW_exit | apply loopW_panic | apply joinW_ret | apply joinW_exit | apply joinW_panic | apply W_seq | apply W_block | apply W_skip | apply W_ret | apply W_exit | apply W_label
    | with_reducible refine blockW_other (by decide) ?_
    | with_reducible refine W_region (by first | decide | (with_unfolding_all rfl)) ?_
    | (rw [vcn]; (try simp [push_cast, -List.map_take, -List.map_drop]); try simp (disch := omega) only [i64_in, u64_in, shr64i])
    | with_reducible refine W_drawn mixed (by decide) (by kernel_rfl) ?_
    | (rw [vcnD]; (try simp [push_cast, -List.map_take, -List.map_drop]); try simp (disch := omega) only [i64_in, u64_in, shr64i])
    | (with_reducible refine W_condW ?_; (try simp [AS.val, upd, resB, mkS_env, mkS_box, lk, entry_env, condW_true, condW_false]))
    | with_reducible refine optK_dV (by first | omega | (simp; omega)) ?_
    | with_reducible refine optK_dVh (by omega) ?_
    | refine And.intro (by first | omega | kernel_rfl) ?_
    | (with_reducible refine condW_b (fun hc => ?_) (fun hc => ?_) <;> (try simp [Int.ofNat_inj] at hc) <;> try contradiction)
    | fail)
  first | refine CallG_of (ofZ_ok y hy) (by first | rfl | (simp [natAV, numC, ← limbs.eq_1, push_cast, -List.map_take, -List.map_drop]; done)) (by simp [natAV, zAV, zC, ratAV, ratC, ptAV, ptC, AV.refs, refsL, push_cast, -List.map_take, -List.map_drop]) rfl ?_ | refine callD_of (ofZ_ok y hy) (by first | rfl | (simp [natAV, numC, ← limbs.eq_1, push_cast, -List.map_take, -List.map_drop]; done)) (by simp [natAV, zAV, zC, ratAV, ratC, ptAV, ptC, AV.refs, refsL, push_cast, -List.map_take, -List.map_drop]) rfl ?_
  try dsimp only
  repeat' (first
    | with_reducible first | apply thenW_n | apply thenW_ret | apply thenW_exit | apply thenW_panic | apply blockW_n | apply blockW_same | apply blockW_ret | apply blockW_panic | apply loopW_ret | apply loopW_exit | apply loopW_panic | apply joinW_ret | apply joinW_exit | apply joinW_panic | apply W_seq | apply W_block | apply W_skip | apply W_ret | apply W_exit | apply W_label
    | with_reducible refine blockW_other (by decide) ?_
    | with_reducible refine W_region (by first | decide | (with_unfolding_all rfl)) ?_
    | (rw [vcn]; (try simp [push_cast, -List.map_take, -List.map_drop]); try simp (disch := omega) only [i64_in, u64_in, shr64i])
    | with_reducible refine W_drawn mixed (by decide) (by kernel_rfl) ?_
    | (rw [vcnD]; (try simp [push_cast, -List.map_take, -List.map_drop]); try simp (disch := omega) only [i64_in, u64_in, shr64i])
    | (with_reducible refine W_condW ?_; (try simp [AS.val, upd, resB, mkS_env, mkS_box, lk, entry_env, condW_true, condW_false]))
    | with_reducible refine optK_dV (by first | omega | (simp; omega)) ?_
    | with_reducible refine optK_dVh (by omega) ?_
    | refine And.intro (by first | omega | kernel_rfl) ?_
    | (with_reducible refine condW_b (fun hc => ?_) (fun hc => ?_) <;> (try simp [Int.ofNat_inj] at hc) <;> try contradiction)
    | fail)
  first | refine CallG_of (e2) (by first | rfl | (simp [natAV, numC, ← limbs.eq_1, push_cast, -List.map_take, -List.map_drop]; done)) (by simp [natAV, zAV, zC, ratAV, ratC, ptAV, ptC, AV.refs, refsL, push_cast, -List.map_take, -List.map_drop]) rfl ?_ | refine callD_of (e2) (by first | rfl | (simp [natAV, numC, ← limbs.eq_1, push_cast, -List.map_take, -List.map_drop]; done)) (by simp [natAV, zAV, zC, ratAV, ratC, ptAV, ptC, AV.refs, refsL, push_cast, -List.map_take, -List.map_drop]) rfl ?_
  try dsimp only
  repeat' (first
    | with_reducible first | apply thenW_n | apply thenW_ret | apply thenW_exit | apply thenW_panic | apply blockW_n | apply blockW_same | apply blockW_ret | apply blockW_panic | apply loopW_ret | apply loopW_exit | apply loopW_panic | apply joinW_ret | apply joinW_exit | apply joinW_panic | apply W_seq | apply W_block | apply W_skip | apply W_ret | apply W_exit | apply W_label
    | with_reducible refine blockW_other (by decide) ?_
    | with_reducible refine W_region (by first | decide | (with_unfolding_all rfl)) ?_
    | (rw [vcn]; (try simp [push_cast, -List.map_take, -List.map_drop, ptAV, ptC, ratAV, ratC, zAV, zC]); try simp (disch := omega) only [i64_in, u64_in, shr64i])
    | with_reducible refine W_drawn mixed (by decide) (by kernel_rfl) ?_
    | (rw [vcnD]; (try simp [push_cast, -List.map_take, -List.map_drop, ptAV, ptC, ratAV, ratC, zAV, zC]); try simp (disch := omega) only [i64_in, u64_in, shr64i])
    | (with_reducible refine W_condW ?_; (try simp [AS.val, upd, resB, mkS_env, mkS_box, lk, entry_env, condW_true, condW_false, ptAV, ptC, ratAV, ratC, zAV, zC]))
    | with_reducible refine optK_dV (by first | omega | (simp; omega)) ?_
    | with_reducible refine optK_dVh (by omega) ?_
    | refine And.intro (by first | omega | kernel_rfl) ?_
    | (with_reducible refine condW_b (fun hc => ?_) (fun hc => ?_) <;> (try simp [Int.ofNat_inj] at hc) <;> try contradiction)
    | fail)
  simp [post, resAV, resAll, resOne, closeV, closeC, closeL, resD, resDL, push_cast, -List.map_take, -List.map_drop, ptAV, ptC, ratAV, ratC, zAV, zC]


end Go.Fw

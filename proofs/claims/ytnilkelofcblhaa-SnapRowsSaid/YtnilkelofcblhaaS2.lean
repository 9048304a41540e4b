/- snap.grid; a point by small numbers (L11.At). -/
import Derived.Test.YtnilkelofcblhaaS1
import Derived.Test.YtnilkelofcblhaaR8b
import Derived.Test.YtnilkelofcblhaaNd
set_option linter.unusedSimpArgs false
set_option linter.unusedVariables false
-- VALS: zAV, zC, ratAV, ratC, ptAV, ptC
namespace Go.Fw
open Go Go.Proofs Go.IntWalk
set_option linter.unusedSimpArgs false
set_option maxRecDepth 100000
set_option maxHeartbeats 4000000

/-- It is a coordinate. -/
def inC (k : Int) : Prop := -2147483648 ≤ k ∧ k ≤ 2147483647
instance (k : Int) : Decidable (inC k) := by unfold inC; infer_instance
def gridZ (x y : Int) : Option (Int × Int) := if inC x ∧ inC y then some (x, y) else none
def ptI (p : Int × Int) : List AV := [i64V p.1, i64V p.2]
def gridAV (o : Option (Int × Int)) : AV := match o with
  | some p => .tup [.agg (ptI p), i64V 0]
  | none => .tup [.agg (ptI (0, 0)), i64V 26]

theorem small_in {n : Int} (h : inC n) : smallAV n = .tup [i64V n, boolV true] := by
  unfold smallAV smallZ inC at *
  rw [if_pos (by omega)]
  rfl
theorem small_out {n : Int} (h : ¬ inC n) : smallAV n = .tup [i64V 0, boolV false] ∨ (smallAV n = .tup [i64V n, boolV true] ∧ (n < -2147483648 ∨ 2147483647 < n)) := by
  unfold smallAV smallZ inC at *
  by_cases k : -9223372036854775808 ≤ n ∧ n ≤ 9223372036854775807
  · rw [if_pos k]; exact .inr ⟨rfl, by omega⟩
  · rw [if_neg k]; exact .inl rfl

open List (map_take map_drop)
attribute [local push_cast] optK_some optK_none optK_ite optK_map optK_bind gOn stepK isMem evPure evMem evBin evUn evConv evLen evBuiltin evMinMax evSlice evBuild evAppend evIndex evIndexAddr evField evFieldAddr intBin strBin appDest AS.val AS.mem AS.elems AS.put AS.put' AS.eff AV.cells? AV.isCell AV.refs all_isByte take_byteV drop_byteV strOf_map bndOk bnd partAV ptrAdd killBox catA inOrder fillA setAt ofVal resB upd byteV List.head?_take List.head?_drop List.getElem?_map mkS_env mkS_box mkS_used entry_env entry_box entry_used lk stepD lookIds Oper.looksAt Op.operands Call.operands St.ids refsL renL_append ren renL renBox Box.refs iV i64V boolV dV_getElem dV_app dV_cons toNat_add2 toNat_add1
attribute [local simp ↓] numC_refs numC_isCell numC_cells numC_resB numC_resD numC_ren numC_closeC numC_isOwn
theorem snapGrid_ok (x y : Int) : Eval Try.prog 20 [zAV x, zAV y] (.ret (gridAV (gridZ x y))) := by
  refine Eval.intro Try.func20 rfl Try.call20 _ _ (Nat.le_of_ble_eq_true rfl) (by simp [-map_take,-map_drop, AV.refs, refsL, natAV, zAV, zC, ratAV, ratC, ptAV, ptC, push_cast]) fun hs0 => ?_
  obtain ⟨out, hout⟩ : ∃ out, out = gridAV (gridZ x y) := ⟨_, rfl⟩
  rw [← hout]
  have ex := small_ok x
  have ey := small_ok y
  repeat' (first
    | with_reducible first | apply thenW_n | apply thenW_ret | apply thenW_exit | apply thenW_panic | apply blockW_n | apply blockW_same | apply blockW_ret | apply blockW_panic | apply loopW_ret | apply loopW_exit | apply loopW_panic | apply joinW_ret | apply joinW_exit | apply joinW_panic | apply W_seq | apply W_block | apply W_skip | apply W_ret | apply W_exit | apply W_label
    | with_reducible refine blockW_other (by decide) ?_
    | with_reducible refine W_region (by first | decide | (with_unfolding_all rfl)) ?_
    | (rw [vcn]; (try simp [-map_take,-map_drop, push_cast, zAV, zC]); try simp (disch := omega) only [i64_in, u64_in, shr64i])
    | with_reducible refine W_drawn mixed (by decide) (by kernel_rfl) ?_
    | (rw [vcnD]; (try simp [-map_take,-map_drop, push_cast, zAV, zC]); try simp (disch := omega) only [i64_in, u64_in, shr64i])
    | (with_reducible refine W_condW ?_; (try simp [-map_take,-map_drop, AS.val, upd, resB, mkS_env, mkS_box, lk, entry_env, condW_true, condW_false, zAV, zC]))
    | (with_reducible refine optK_dV (by first | omega | (simp [-map_take,-map_drop]; omega)) ?_)
    | with_reducible refine optK_dVh (by omega) ?_
    | refine And.intro (by first | omega | kernel_rfl) ?_
    | ((with_reducible refine condW_b (fun hc => ?_) (fun hc => ?_) <;> (try simp [-map_take,-map_drop, Int.ofNat_inj] at hc) <;> (try contradiction)))
    | fail)
  refine W_loopW (X := Nat × Int) (fun p => [(4, .bp 4 0), (6, .bp 6 0), (13, .agg (zC x ++ zC y)), (14, i64V p.1)]) (fun p => [(4, .mut 39 [i64V 0, i64V 0]), (6, .mut 102 [i64V (if 0 < p.1 then x else 0), i64V (if 1 < p.1 then y else 0)])])
    (fun p => 2 - p.1) (fun p => p.1 ≤ 2 ∧ (0 < p.1 → inC x) ∧ (1 < p.1 → inC y)) (0, 0) id ⟨by omega, fun h => absurd h (by omega), fun h => absurd h (by omega)⟩ ⟨?_, ?_, ?_, ?_, ?_, ?_⟩ fun p hp => ?_
  all_goals first | (with_reducible refine W_id ?_) | (simp [-map_take,-map_drop, push_cast, dV_take, dV_drop, zC]; done) | (simp [-map_take,-map_drop, push_cast, dV_take, dV_drop, zC]; omega) | (intro i hi; simp [-map_take,-map_drop]; omega) | (intro i hi; dsimp only; (repeat' split) <;> omega) | (simp [-map_take,-map_drop, push_cast, dV_take, dV_drop, zC]; fail_if_success done)
  obtain ⟨i, u⟩ := p
  obtain ⟨hi, hx, hy⟩ := hp
  simp only at hi hx hy
  rcases (by omega : i = 0 ∨ i = 1 ∨ i = 2) with h | h | h
  · subst h
    by_cases hin : inC x
    · rw [small_in hin] at ex
      have g1 : (x < -2147483648) = False := eq_false (by unfold inC at hin; omega)
      have g2 : (2147483647 < x) = False := eq_false (by unfold inC at hin; omega)
      repeat' (first
        | with_reducible first | apply thenW_n | apply thenW_ret | apply thenW_exit | apply thenW_panic | apply blockW_n | apply blockW_same | apply blockW_ret | apply blockW_panic | apply loopW_ret | apply loopW_exit | apply loopW_panic | apply joinW_ret | apply joinW_exit | apply joinW_panic | apply W_seq | apply W_block | apply W_skip | apply W_ret | apply W_exit | apply W_label
        | with_reducible refine blockW_other (by decide) ?_
        | with_reducible refine W_region (by first | decide | (with_unfolding_all rfl)) ?_
        | (rw [vcn]; (try simp [-map_take,-map_drop, push_cast, zC]); try simp (disch := omega) only [i64_in, u64_in, shr64i])
        | with_reducible refine W_drawn mixed (by decide) (by kernel_rfl) ?_
        | (rw [vcnD]; (try simp [-map_take,-map_drop, push_cast, zC]); try simp (disch := omega) only [i64_in, u64_in, shr64i])
        | (with_reducible refine W_condW ?_; (try simp [-map_take,-map_drop, AS.val, upd, resB, mkS_env, mkS_box, lk, entry_env, condW_true, condW_false, zC]))
        | (with_reducible refine optK_dV (by first | omega | (simp [-map_take,-map_drop]; omega)) ?_)
        | with_reducible refine optK_dVh (by omega) ?_
        | refine And.intro (by first | omega | kernel_rfl) ?_
        | ((with_reducible refine condW_b (fun hc => ?_) (fun hc => ?_) <;> (try simp [-map_take,-map_drop, Int.ofNat_inj] at hc) <;> (try contradiction)))
        | fail)
      first | refine CallG_of (ex) ?_ ?_ rfl ?_ | refine callD_of (ex) ?_ ?_ rfl ?_
      · first | rfl | (simp [-map_take,-map_drop, natAV, numC, ← limbs.eq_1, push_cast, zAV, zC]; done)
      · first | rfl | simp [-map_take,-map_drop, natAV, zAV, zC, ratAV, ratC, ptAV, ptC, AV.refs, refsL, push_cast]
      try dsimp only
      repeat' (first
        | with_reducible first | apply thenW_n | apply thenW_ret | apply thenW_exit | apply thenW_panic | apply blockW_n | apply blockW_same | apply blockW_ret | apply blockW_panic | apply loopW_ret | apply loopW_exit | apply loopW_panic | apply joinW_ret | apply joinW_exit | apply joinW_panic | apply W_seq | apply W_block | apply W_skip | apply W_ret | apply W_exit | apply W_label
        | with_reducible refine blockW_other (by decide) ?_
        | with_reducible refine W_region (by first | decide | (with_unfolding_all rfl)) ?_
        | (rw [vcn]; (try simp [-map_take,-map_drop, push_cast, g1, g2]); try simp (disch := omega) only [i64_in, u64_in, shr64i])
        | with_reducible refine W_drawn mixed (by decide) (by kernel_rfl) ?_
        | (rw [vcnD]; (try simp [-map_take,-map_drop, push_cast, g1, g2]); try simp (disch := omega) only [i64_in, u64_in, shr64i])
        | (with_reducible refine W_condW ?_; (try simp [-map_take,-map_drop, AS.val, upd, resB, mkS_env, mkS_box, lk, entry_env, condW_true, condW_false, g1, g2]))
        | (with_reducible refine optK_dV (by first | omega | (simp [-map_take,-map_drop]; omega)) ?_)
        | with_reducible refine optK_dVh (by omega) ?_
        | refine And.intro (by first | omega | kernel_rfl) ?_
        | ((with_reducible refine condW_b (fun hc => ?_) (fun hc => ?_) <;> (try simp [-map_take,-map_drop, Int.ofNat_inj] at hc) <;> (try contradiction)))
        | fail)
      refine loopW_n (1, 0) id (by simp [-map_take,-map_drop]) ⟨by omega, fun _ => hin, fun h => absurd h (by omega)⟩ ⟨?_, ?_, ?_, ?_, ?_, ?_⟩
      all_goals first | (with_reducible refine W_id ?_) | (simp [-map_take,-map_drop, push_cast, dV_take, dV_drop, zC]; done) | (simp [-map_take,-map_drop, push_cast, dV_take, dV_drop, zC]; omega) | (intro i hi; simp [-map_take,-map_drop]; omega) | (intro i hi; dsimp only; (repeat' split) <;> omega) | (simp [-map_take,-map_drop, push_cast, dV_take, dV_drop, zC]; fail_if_success done)
    · have ho : out = .tup [.agg (ptI (0, 0)), i64V 26] := by rw [hout, gridZ, if_neg (fun h => hin h.1)]; rfl
      rcases small_out hin with hs | ⟨hs, hb⟩
      · rw [hs] at ex
        repeat' (first
          | with_reducible first | apply thenW_n | apply thenW_ret | apply thenW_exit | apply thenW_panic | apply blockW_n | apply blockW_same | apply blockW_ret | apply blockW_panic | apply loopW_ret | apply loopW_exit | apply loopW_panic | apply joinW_ret | apply joinW_exit | apply joinW_panic | apply W_seq | apply W_block | apply W_skip | apply W_ret | apply W_exit | apply W_label
          | with_reducible refine blockW_other (by decide) ?_
          | with_reducible refine W_region (by first | decide | (with_unfolding_all rfl)) ?_
          | (rw [vcn]; (try simp [-map_take,-map_drop, push_cast, zC]); try simp (disch := omega) only [i64_in, u64_in, shr64i])
          | with_reducible refine W_drawn mixed (by decide) (by kernel_rfl) ?_
          | (rw [vcnD]; (try simp [-map_take,-map_drop, push_cast, zC]); try simp (disch := omega) only [i64_in, u64_in, shr64i])
          | (with_reducible refine W_condW ?_; (try simp [-map_take,-map_drop, AS.val, upd, resB, mkS_env, mkS_box, lk, entry_env, condW_true, condW_false, zC]))
          | (with_reducible refine optK_dV (by first | omega | (simp [-map_take,-map_drop]; omega)) ?_)
          | with_reducible refine optK_dVh (by omega) ?_
          | refine And.intro (by first | omega | kernel_rfl) ?_
          | ((with_reducible refine condW_b (fun hc => ?_) (fun hc => ?_) <;> (try simp [-map_take,-map_drop, Int.ofNat_inj] at hc) <;> (try contradiction)))
          | fail)
        first | refine CallG_of (ex) ?_ ?_ rfl ?_ | refine callD_of (ex) ?_ ?_ rfl ?_
        · first | rfl | (simp [-map_take,-map_drop, natAV, numC, ← limbs.eq_1, push_cast, zAV, zC]; done)
        · first | rfl | simp [-map_take,-map_drop, natAV, zAV, zC, ratAV, ratC, ptAV, ptC, AV.refs, refsL, push_cast]
        try dsimp only
        repeat' (first
          | with_reducible first | apply thenW_n | apply thenW_ret | apply thenW_exit | apply thenW_panic | apply blockW_n | apply blockW_same | apply blockW_ret | apply blockW_panic | apply loopW_ret | apply loopW_exit | apply loopW_panic | apply joinW_ret | apply joinW_exit | apply joinW_panic | apply W_seq | apply W_block | apply W_skip | apply W_ret | apply W_exit | apply W_label
          | with_reducible refine blockW_other (by decide) ?_
          | with_reducible refine W_region (by first | decide | (with_unfolding_all rfl)) ?_
          | (rw [vcn]; (try simp [-map_take,-map_drop, push_cast]); try simp (disch := omega) only [i64_in, u64_in, shr64i])
          | with_reducible refine W_drawn mixed (by decide) (by kernel_rfl) ?_
          | (rw [vcnD]; (try simp [-map_take,-map_drop, push_cast]); try simp (disch := omega) only [i64_in, u64_in, shr64i])
          | (with_reducible refine W_condW ?_; (try simp [-map_take,-map_drop, AS.val, upd, resB, mkS_env, mkS_box, lk, entry_env, condW_true, condW_false]))
          | (with_reducible refine optK_dV (by first | omega | (simp [-map_take,-map_drop]; omega)) ?_)
          | with_reducible refine optK_dVh (by omega) ?_
          | refine And.intro (by first | omega | kernel_rfl) ?_
          | ((with_reducible refine condW_b (fun hc => ?_) (fun hc => ?_) <;> (try simp [-map_take,-map_drop, Int.ofNat_inj] at hc) <;> (try contradiction)))
          | fail)
        simp [-map_take,-map_drop, post, resAV, resAll, resOne, closeV, closeC, closeL, resD, resDL, push_cast, ho, ptI]
      · rw [hs] at ex
        rcases hb with hb | hb
        · have g1 : (x < -2147483648) = True := eq_true hb
          repeat' (first
            | with_reducible first | apply thenW_n | apply thenW_ret | apply thenW_exit | apply thenW_panic | apply blockW_n | apply blockW_same | apply blockW_ret | apply blockW_panic | apply loopW_ret | apply loopW_exit | apply loopW_panic | apply joinW_ret | apply joinW_exit | apply joinW_panic | apply W_seq | apply W_block | apply W_skip | apply W_ret | apply W_exit | apply W_label
            | with_reducible refine blockW_other (by decide) ?_
            | with_reducible refine W_region (by first | decide | (with_unfolding_all rfl)) ?_
            | (rw [vcn]; (try simp [-map_take,-map_drop, push_cast, zC]); try simp (disch := omega) only [i64_in, u64_in, shr64i])
            | with_reducible refine W_drawn mixed (by decide) (by kernel_rfl) ?_
            | (rw [vcnD]; (try simp [-map_take,-map_drop, push_cast, zC]); try simp (disch := omega) only [i64_in, u64_in, shr64i])
            | (with_reducible refine W_condW ?_; (try simp [-map_take,-map_drop, AS.val, upd, resB, mkS_env, mkS_box, lk, entry_env, condW_true, condW_false, zC]))
            | (with_reducible refine optK_dV (by first | omega | (simp [-map_take,-map_drop]; omega)) ?_)
            | with_reducible refine optK_dVh (by omega) ?_
            | refine And.intro (by first | omega | kernel_rfl) ?_
            | ((with_reducible refine condW_b (fun hc => ?_) (fun hc => ?_) <;> (try simp [-map_take,-map_drop, Int.ofNat_inj] at hc) <;> (try contradiction)))
            | fail)
          first | refine CallG_of (ex) ?_ ?_ rfl ?_ | refine callD_of (ex) ?_ ?_ rfl ?_
          · first | rfl | (simp [-map_take,-map_drop, natAV, numC, ← limbs.eq_1, push_cast, zAV, zC]; done)
          · first | rfl | simp [-map_take,-map_drop, natAV, zAV, zC, ratAV, ratC, ptAV, ptC, AV.refs, refsL, push_cast]
          try dsimp only
          repeat' (first
            | with_reducible first | apply thenW_n | apply thenW_ret | apply thenW_exit | apply thenW_panic | apply blockW_n | apply blockW_same | apply blockW_ret | apply blockW_panic | apply loopW_ret | apply loopW_exit | apply loopW_panic | apply joinW_ret | apply joinW_exit | apply joinW_panic | apply W_seq | apply W_block | apply W_skip | apply W_ret | apply W_exit | apply W_label
            | with_reducible refine blockW_other (by decide) ?_
            | with_reducible refine W_region (by first | decide | (with_unfolding_all rfl)) ?_
            | (rw [vcn]; (try simp [-map_take,-map_drop, push_cast, g1]); try simp (disch := omega) only [i64_in, u64_in, shr64i])
            | with_reducible refine W_drawn mixed (by decide) (by kernel_rfl) ?_
            | (rw [vcnD]; (try simp [-map_take,-map_drop, push_cast, g1]); try simp (disch := omega) only [i64_in, u64_in, shr64i])
            | (with_reducible refine W_condW ?_; (try simp [-map_take,-map_drop, AS.val, upd, resB, mkS_env, mkS_box, lk, entry_env, condW_true, condW_false, g1]))
            | (with_reducible refine optK_dV (by first | omega | (simp [-map_take,-map_drop]; omega)) ?_)
            | with_reducible refine optK_dVh (by omega) ?_
            | refine And.intro (by first | omega | kernel_rfl) ?_
            | ((with_reducible refine condW_b (fun hc => ?_) (fun hc => ?_) <;> (try simp [-map_take,-map_drop, Int.ofNat_inj] at hc) <;> (try contradiction)))
            | fail)
          simp [-map_take,-map_drop, post, resAV, resAll, resOne, closeV, closeC, closeL, resD, resDL, push_cast, ho, ptI]
        · have g1 : (x < -2147483648) = False := eq_false (by omega)
          have g2 : (2147483647 < x) = True := eq_true hb
          repeat' (first
            | with_reducible first | apply thenW_n | apply thenW_ret | apply thenW_exit | apply thenW_panic | apply blockW_n | apply blockW_same | apply blockW_ret | apply blockW_panic | apply loopW_ret | apply loopW_exit | apply loopW_panic | apply joinW_ret | apply joinW_exit | apply joinW_panic | apply W_seq | apply W_block | apply W_skip | apply W_ret | apply W_exit | apply W_label
            | with_reducible refine blockW_other (by decide) ?_
            | with_reducible refine W_region (by first | decide | (with_unfolding_all rfl)) ?_
            | (rw [vcn]; (try simp [-map_take,-map_drop, push_cast, zC]); try simp (disch := omega) only [i64_in, u64_in, shr64i])
            | with_reducible refine W_drawn mixed (by decide) (by kernel_rfl) ?_
            | (rw [vcnD]; (try simp [-map_take,-map_drop, push_cast, zC]); try simp (disch := omega) only [i64_in, u64_in, shr64i])
            | (with_reducible refine W_condW ?_; (try simp [-map_take,-map_drop, AS.val, upd, resB, mkS_env, mkS_box, lk, entry_env, condW_true, condW_false, zC]))
            | (with_reducible refine optK_dV (by first | omega | (simp [-map_take,-map_drop]; omega)) ?_)
            | with_reducible refine optK_dVh (by omega) ?_
            | refine And.intro (by first | omega | kernel_rfl) ?_
            | ((with_reducible refine condW_b (fun hc => ?_) (fun hc => ?_) <;> (try simp [-map_take,-map_drop, Int.ofNat_inj] at hc) <;> (try contradiction)))
            | fail)
          first | refine CallG_of (ex) ?_ ?_ rfl ?_ | refine callD_of (ex) ?_ ?_ rfl ?_
          · first | rfl | (simp [-map_take,-map_drop, natAV, numC, ← limbs.eq_1, push_cast, zAV, zC]; done)
          · first | rfl | simp [-map_take,-map_drop, natAV, zAV, zC, ratAV, ratC, ptAV, ptC, AV.refs, refsL, push_cast]
          try dsimp only
          repeat' (first
            | with_reducible first | apply thenW_n | apply thenW_ret | apply thenW_exit | apply thenW_panic | apply blockW_n | apply blockW_same | apply blockW_ret | apply blockW_panic | apply loopW_ret | apply loopW_exit | apply loopW_panic | apply joinW_ret | apply joinW_exit | apply joinW_panic | apply W_seq | apply W_block | apply W_skip | apply W_ret | apply W_exit | apply W_label
            | with_reducible refine blockW_other (by decide) ?_
            | with_reducible refine W_region (by first | decide | (with_unfolding_all rfl)) ?_
            | (rw [vcn]; (try simp [-map_take,-map_drop, push_cast, g1, g2]); try simp (disch := omega) only [i64_in, u64_in, shr64i])
            | with_reducible refine W_drawn mixed (by decide) (by kernel_rfl) ?_
            | (rw [vcnD]; (try simp [-map_take,-map_drop, push_cast, g1, g2]); try simp (disch := omega) only [i64_in, u64_in, shr64i])
            | (with_reducible refine W_condW ?_; (try simp [-map_take,-map_drop, AS.val, upd, resB, mkS_env, mkS_box, lk, entry_env, condW_true, condW_false, g1, g2]))
            | (with_reducible refine optK_dV (by first | omega | (simp [-map_take,-map_drop]; omega)) ?_)
            | with_reducible refine optK_dVh (by omega) ?_
            | refine And.intro (by first | omega | kernel_rfl) ?_
            | ((with_reducible refine condW_b (fun hc => ?_) (fun hc => ?_) <;> (try simp [-map_take,-map_drop, Int.ofNat_inj] at hc) <;> (try contradiction)))
            | fail)
          simp [-map_take,-map_drop, post, resAV, resAll, resOne, closeV, closeC, closeL, resD, resDL, push_cast, ho, ptI]
  · subst h
    have hinx := hx (by omega)
    by_cases hin : inC y
    · rw [small_in hin] at ey
      have g1 : (y < -2147483648) = False := eq_false (by unfold inC at hin; omega)
      have g2 : (2147483647 < y) = False := eq_false (by unfold inC at hin; omega)
      repeat' (first
        | with_reducible first | apply thenW_n | apply thenW_ret | apply thenW_exit | apply thenW_panic | apply blockW_n | apply blockW_same | apply blockW_ret | apply blockW_panic | apply loopW_ret | apply loopW_exit | apply loopW_panic | apply joinW_ret | apply joinW_exit | apply joinW_panic | apply W_seq | apply W_block | apply W_skip | apply W_ret | apply W_exit | apply W_label
        | with_reducible refine blockW_other (by decide) ?_
        | with_reducible refine W_region (by first | decide | (with_unfolding_all rfl)) ?_
        | (rw [vcn]; (try simp [-map_take,-map_drop, push_cast, zC]); try simp (disch := omega) only [i64_in, u64_in, shr64i])
        | with_reducible refine W_drawn mixed (by decide) (by kernel_rfl) ?_
        | (rw [vcnD]; (try simp [-map_take,-map_drop, push_cast, zC]); try simp (disch := omega) only [i64_in, u64_in, shr64i])
        | (with_reducible refine W_condW ?_; (try simp [-map_take,-map_drop, AS.val, upd, resB, mkS_env, mkS_box, lk, entry_env, condW_true, condW_false, zC]))
        | (with_reducible refine optK_dV (by first | omega | (simp [-map_take,-map_drop]; omega)) ?_)
        | with_reducible refine optK_dVh (by omega) ?_
        | refine And.intro (by first | omega | kernel_rfl) ?_
        | ((with_reducible refine condW_b (fun hc => ?_) (fun hc => ?_) <;> (try simp [-map_take,-map_drop, Int.ofNat_inj] at hc) <;> (try contradiction)))
        | fail)
      first | refine CallG_of (ey) ?_ ?_ rfl ?_ | refine callD_of (ey) ?_ ?_ rfl ?_
      · first | rfl | (simp [-map_take,-map_drop, natAV, numC, ← limbs.eq_1, push_cast, zAV, zC]; done)
      · first | rfl | simp [-map_take,-map_drop, natAV, zAV, zC, ratAV, ratC, ptAV, ptC, AV.refs, refsL, push_cast]
      try dsimp only
      repeat' (first
        | with_reducible first | apply thenW_n | apply thenW_ret | apply thenW_exit | apply thenW_panic | apply blockW_n | apply blockW_same | apply blockW_ret | apply blockW_panic | apply loopW_ret | apply loopW_exit | apply loopW_panic | apply joinW_ret | apply joinW_exit | apply joinW_panic | apply W_seq | apply W_block | apply W_skip | apply W_ret | apply W_exit | apply W_label
        | with_reducible refine blockW_other (by decide) ?_
        | with_reducible refine W_region (by first | decide | (with_unfolding_all rfl)) ?_
        | (rw [vcn]; (try simp [-map_take,-map_drop, push_cast, g1, g2]); try simp (disch := omega) only [i64_in, u64_in, shr64i])
        | with_reducible refine W_drawn mixed (by decide) (by kernel_rfl) ?_
        | (rw [vcnD]; (try simp [-map_take,-map_drop, push_cast, g1, g2]); try simp (disch := omega) only [i64_in, u64_in, shr64i])
        | (with_reducible refine W_condW ?_; (try simp [-map_take,-map_drop, AS.val, upd, resB, mkS_env, mkS_box, lk, entry_env, condW_true, condW_false, g1, g2]))
        | (with_reducible refine optK_dV (by first | omega | (simp [-map_take,-map_drop]; omega)) ?_)
        | with_reducible refine optK_dVh (by omega) ?_
        | refine And.intro (by first | omega | kernel_rfl) ?_
        | ((with_reducible refine condW_b (fun hc => ?_) (fun hc => ?_) <;> (try simp [-map_take,-map_drop, Int.ofNat_inj] at hc) <;> (try contradiction)))
        | fail)
      refine loopW_n (2, 0) id (by simp [-map_take,-map_drop]) ⟨by omega, fun _ => hinx, fun _ => hin⟩ ⟨?_, ?_, ?_, ?_, ?_, ?_⟩
      all_goals first | (with_reducible refine W_id ?_) | (simp [-map_take,-map_drop, push_cast, dV_take, dV_drop, zC]; done) | (simp [-map_take,-map_drop, push_cast, dV_take, dV_drop, zC]; omega) | (intro i hi; simp [-map_take,-map_drop]; omega) | (intro i hi; dsimp only; (repeat' split) <;> omega) | (simp [-map_take,-map_drop, push_cast, dV_take, dV_drop, zC]; fail_if_success done)
    · have ho : out = .tup [.agg (ptI (0, 0)), i64V 26] := by rw [hout, gridZ, if_neg (fun h => hin h.2)]; rfl
      rcases small_out hin with hs | ⟨hs, hb⟩
      · rw [hs] at ey
        repeat' (first
          | with_reducible first | apply thenW_n | apply thenW_ret | apply thenW_exit | apply thenW_panic | apply blockW_n | apply blockW_same | apply blockW_ret | apply blockW_panic | apply loopW_ret | apply loopW_exit | apply loopW_panic | apply joinW_ret | apply joinW_exit | apply joinW_panic | apply W_seq | apply W_block | apply W_skip | apply W_ret | apply W_exit | apply W_label
          | with_reducible refine blockW_other (by decide) ?_
          | with_reducible refine W_region (by first | decide | (with_unfolding_all rfl)) ?_
          | (rw [vcn]; (try simp [-map_take,-map_drop, push_cast, zC]); try simp (disch := omega) only [i64_in, u64_in, shr64i])
          | with_reducible refine W_drawn mixed (by decide) (by kernel_rfl) ?_
          | (rw [vcnD]; (try simp [-map_take,-map_drop, push_cast, zC]); try simp (disch := omega) only [i64_in, u64_in, shr64i])
          | (with_reducible refine W_condW ?_; (try simp [-map_take,-map_drop, AS.val, upd, resB, mkS_env, mkS_box, lk, entry_env, condW_true, condW_false, zC]))
          | (with_reducible refine optK_dV (by first | omega | (simp [-map_take,-map_drop]; omega)) ?_)
          | with_reducible refine optK_dVh (by omega) ?_
          | refine And.intro (by first | omega | kernel_rfl) ?_
          | ((with_reducible refine condW_b (fun hc => ?_) (fun hc => ?_) <;> (try simp [-map_take,-map_drop, Int.ofNat_inj] at hc) <;> (try contradiction)))
          | fail)
        first | refine CallG_of (ey) ?_ ?_ rfl ?_ | refine callD_of (ey) ?_ ?_ rfl ?_
        · first | rfl | (simp [-map_take,-map_drop, natAV, numC, ← limbs.eq_1, push_cast, zAV, zC]; done)
        · first | rfl | simp [-map_take,-map_drop, natAV, zAV, zC, ratAV, ratC, ptAV, ptC, AV.refs, refsL, push_cast]
        try dsimp only
        repeat' (first
          | with_reducible first | apply thenW_n | apply thenW_ret | apply thenW_exit | apply thenW_panic | apply blockW_n | apply blockW_same | apply blockW_ret | apply blockW_panic | apply loopW_ret | apply loopW_exit | apply loopW_panic | apply joinW_ret | apply joinW_exit | apply joinW_panic | apply W_seq | apply W_block | apply W_skip | apply W_ret | apply W_exit | apply W_label
          | with_reducible refine blockW_other (by decide) ?_
          | with_reducible refine W_region (by first | decide | (with_unfolding_all rfl)) ?_
          | (rw [vcn]; (try simp [-map_take,-map_drop, push_cast]); try simp (disch := omega) only [i64_in, u64_in, shr64i])
          | with_reducible refine W_drawn mixed (by decide) (by kernel_rfl) ?_
          | (rw [vcnD]; (try simp [-map_take,-map_drop, push_cast]); try simp (disch := omega) only [i64_in, u64_in, shr64i])
          | (with_reducible refine W_condW ?_; (try simp [-map_take,-map_drop, AS.val, upd, resB, mkS_env, mkS_box, lk, entry_env, condW_true, condW_false]))
          | (with_reducible refine optK_dV (by first | omega | (simp [-map_take,-map_drop]; omega)) ?_)
          | with_reducible refine optK_dVh (by omega) ?_
          | refine And.intro (by first | omega | kernel_rfl) ?_
          | ((with_reducible refine condW_b (fun hc => ?_) (fun hc => ?_) <;> (try simp [-map_take,-map_drop, Int.ofNat_inj] at hc) <;> (try contradiction)))
          | fail)
        simp [-map_take,-map_drop, post, resAV, resAll, resOne, closeV, closeC, closeL, resD, resDL, push_cast, ho, ptI]
      · rw [hs] at ey
        rcases hb with hb | hb
        · have g1 : (y < -2147483648) = True := eq_true hb
          repeat' (first
            | with_reducible first | apply thenW_n | apply thenW_ret | apply thenW_exit | apply thenW_panic | apply blockW_n | apply blockW_same | apply blockW_ret | apply blockW_panic | apply loopW_ret | apply loopW_exit | apply loopW_panic | apply joinW_ret | apply joinW_exit | apply joinW_panic | apply W_seq | apply W_block | apply W_skip | apply W_ret | apply W_exit | apply W_label
            | with_reducible refine blockW_other (by decide) ?_
            | with_reducible refine W_region (by first | decide | (with_unfolding_all rfl)) ?_
            | (rw [vcn]; (try simp [-map_take,-map_drop, push_cast, zC]); try simp (disch := omega) only [i64_in, u64_in, shr64i])
            | with_reducible refine W_drawn mixed (by decide) (by kernel_rfl) ?_
            | (rw [vcnD]; (try simp [-map_take,-map_drop, push_cast, zC]); try simp (disch := omega) only [i64_in, u64_in, shr64i])
            | (with_reducible refine W_condW ?_; (try simp [-map_take,-map_drop, AS.val, upd, resB, mkS_env, mkS_box, lk, entry_env, condW_true, condW_false, zC]))
            | (with_reducible refine optK_dV (by first | omega | (simp [-map_take,-map_drop]; omega)) ?_)
            | with_reducible refine optK_dVh (by omega) ?_
            | refine And.intro (by first | omega | kernel_rfl) ?_
            | ((with_reducible refine condW_b (fun hc => ?_) (fun hc => ?_) <;> (try simp [-map_take,-map_drop, Int.ofNat_inj] at hc) <;> (try contradiction)))
            | fail)
          first | refine CallG_of (ey) ?_ ?_ rfl ?_ | refine callD_of (ey) ?_ ?_ rfl ?_
          · first | rfl | (simp [-map_take,-map_drop, natAV, numC, ← limbs.eq_1, push_cast, zAV, zC]; done)
          · first | rfl | simp [-map_take,-map_drop, natAV, zAV, zC, ratAV, ratC, ptAV, ptC, AV.refs, refsL, push_cast]
          try dsimp only
          repeat' (first
            | with_reducible first | apply thenW_n | apply thenW_ret | apply thenW_exit | apply thenW_panic | apply blockW_n | apply blockW_same | apply blockW_ret | apply blockW_panic | apply loopW_ret | apply loopW_exit | apply loopW_panic | apply joinW_ret | apply joinW_exit | apply joinW_panic | apply W_seq | apply W_block | apply W_skip | apply W_ret | apply W_exit | apply W_label
            | with_reducible refine blockW_other (by decide) ?_
            | with_reducible refine W_region (by first | decide | (with_unfolding_all rfl)) ?_
            | (rw [vcn]; (try simp [-map_take,-map_drop, push_cast, g1]); try simp (disch := omega) only [i64_in, u64_in, shr64i])
            | with_reducible refine W_drawn mixed (by decide) (by kernel_rfl) ?_
            | (rw [vcnD]; (try simp [-map_take,-map_drop, push_cast, g1]); try simp (disch := omega) only [i64_in, u64_in, shr64i])
            | (with_reducible refine W_condW ?_; (try simp [-map_take,-map_drop, AS.val, upd, resB, mkS_env, mkS_box, lk, entry_env, condW_true, condW_false, g1]))
            | (with_reducible refine optK_dV (by first | omega | (simp [-map_take,-map_drop]; omega)) ?_)
            | with_reducible refine optK_dVh (by omega) ?_
            | refine And.intro (by first | omega | kernel_rfl) ?_
            | ((with_reducible refine condW_b (fun hc => ?_) (fun hc => ?_) <;> (try simp [-map_take,-map_drop, Int.ofNat_inj] at hc) <;> (try contradiction)))
            | fail)
          simp [-map_take,-map_drop, post, resAV, resAll, resOne, closeV, closeC, closeL, resD, resDL, push_cast, ho, ptI]
        · have g1 : (y < -2147483648) = False := eq_false (by omega)
          have g2 : (2147483647 < y) = True := eq_true hb
          repeat' (first
            | with_reducible first | apply thenW_n | apply thenW_ret | apply thenW_exit | apply thenW_panic | apply blockW_n | apply blockW_same | apply blockW_ret | apply blockW_panic | apply loopW_ret | apply loopW_exit | apply loopW_panic | apply joinW_ret | apply joinW_exit | apply joinW_panic | apply W_seq | apply W_block | apply W_skip | apply W_ret | apply W_exit | apply W_label
            | with_reducible refine blockW_other (by decide) ?_
            | with_reducible refine W_region (by first | decide | (with_unfolding_all rfl)) ?_
            | (rw [vcn]; (try simp [-map_take,-map_drop, push_cast, zC]); try simp (disch := omega) only [i64_in, u64_in, shr64i])
            | with_reducible refine W_drawn mixed (by decide) (by kernel_rfl) ?_
            | (rw [vcnD]; (try simp [-map_take,-map_drop, push_cast, zC]); try simp (disch := omega) only [i64_in, u64_in, shr64i])
            | (with_reducible refine W_condW ?_; (try simp [-map_take,-map_drop, AS.val, upd, resB, mkS_env, mkS_box, lk, entry_env, condW_true, condW_false, zC]))
            | (with_reducible refine optK_dV (by first | omega | (simp [-map_take,-map_drop]; omega)) ?_)
            | with_reducible refine optK_dVh (by omega) ?_
            | refine And.intro (by first | omega | kernel_rfl) ?_
            | ((with_reducible refine condW_b (fun hc => ?_) (fun hc => ?_) <;> (try simp [-map_take,-map_drop, Int.ofNat_inj] at hc) <;> (try contradiction)))
            | fail)
          first | refine CallG_of (ey) ?_ ?_ rfl ?_ | refine callD_of (ey) ?_ ?_ rfl ?_
          · first | rfl | (simp [-map_take,-map_drop, natAV, numC, ← limbs.eq_1, push_cast, zAV, zC]; done)
          · first | rfl | simp [-map_take,-map_drop, natAV, zAV, zC, ratAV, ratC, ptAV, ptC, AV.refs, refsL, push_cast]
          try dsimp only
          repeat' (first
            | with_reducible first | apply thenW_n | apply thenW_ret | apply thenW_exit | apply thenW_panic | apply blockW_n | apply blockW_same | apply blockW_ret | apply blockW_panic | apply loopW_ret | apply loopW_exit | apply loopW_panic | apply joinW_ret | apply joinW_exit | apply joinW_panic | apply W_seq | apply W_block | apply W_skip | apply W_ret | apply W_exit | apply W_label
            | with_reducible refine blockW_other (by decide) ?_
            | with_reducible refine W_region (by first | decide | (with_unfolding_all rfl)) ?_
            | (rw [vcn]; (try simp [-map_take,-map_drop, push_cast, g1, g2]); try simp (disch := omega) only [i64_in, u64_in, shr64i])
            | with_reducible refine W_drawn mixed (by decide) (by kernel_rfl) ?_
            | (rw [vcnD]; (try simp [-map_take,-map_drop, push_cast, g1, g2]); try simp (disch := omega) only [i64_in, u64_in, shr64i])
            | (with_reducible refine W_condW ?_; (try simp [-map_take,-map_drop, AS.val, upd, resB, mkS_env, mkS_box, lk, entry_env, condW_true, condW_false, g1, g2]))
            | (with_reducible refine optK_dV (by first | omega | (simp [-map_take,-map_drop]; omega)) ?_)
            | with_reducible refine optK_dVh (by omega) ?_
            | refine And.intro (by first | omega | kernel_rfl) ?_
            | ((with_reducible refine condW_b (fun hc => ?_) (fun hc => ?_) <;> (try simp [-map_take,-map_drop, Int.ofNat_inj] at hc) <;> (try contradiction)))
            | fail)
          simp [-map_take,-map_drop, post, resAV, resAll, resOne, closeV, closeC, closeL, resD, resDL, push_cast, ho, ptI]
  · subst h
    have hinx := hx (by omega)
    have hiny := hy (by omega)
    have ho : out = .tup [.agg (ptI (x, y)), i64V 0] := by rw [hout, gridZ, if_pos ⟨hinx, hiny⟩]; rfl
    repeat' (first
      | with_reducible first | apply thenW_n | apply thenW_ret | apply thenW_exit | apply thenW_panic | apply blockW_n | apply blockW_same | apply blockW_ret | apply blockW_panic | apply loopW_ret | apply loopW_exit | apply loopW_panic | apply joinW_ret | apply joinW_exit | apply joinW_panic | apply W_seq | apply W_block | apply W_skip | apply W_ret | apply W_exit | apply W_label
      | with_reducible refine blockW_other (by decide) ?_
      | with_reducible refine W_region (by first | decide | (with_unfolding_all rfl)) ?_
      | (rw [vcn]; (try simp [-map_take,-map_drop, push_cast, zC]); try simp (disch := omega) only [i64_in, u64_in, shr64i])
      | with_reducible refine W_drawn mixed (by decide) (by kernel_rfl) ?_
      | (rw [vcnD]; (try simp [-map_take,-map_drop, push_cast, zC]); try simp (disch := omega) only [i64_in, u64_in, shr64i])
      | (with_reducible refine W_condW ?_; (try simp [-map_take,-map_drop, AS.val, upd, resB, mkS_env, mkS_box, lk, entry_env, condW_true, condW_false, zC]))
      | (with_reducible refine optK_dV (by first | omega | (simp [-map_take,-map_drop]; omega)) ?_)
      | with_reducible refine optK_dVh (by omega) ?_
      | refine And.intro (by first | omega | kernel_rfl) ?_
      | ((with_reducible refine condW_b (fun hc => ?_) (fun hc => ?_) <;> (try simp [-map_take,-map_drop, Int.ofNat_inj] at hc) <;> (try contradiction)))
      | fail)
    simp [-map_take,-map_drop, post, resAV, resAll, resOne, closeV, closeC, closeL, resD, resDL, push_cast, ho, ptI]

/-- A denominator by a number. -/
def underI (d : Int) : Int := 1 + (d % 18446744073709551616) % 60
theorem underI_pos (d : Int) : 1 ≤ underI d ∧ underI d ≤ 60 := by unfold underI; omega
theorem under_ok (x y d : Int) : Eval Try.prog 15 [.agg [i64V x, i64V y, i64V d]] (.ret (i64V (underI d))) := by
  refine Eval.intro Try.func15 rfl Try.call15 _ _ (Nat.le_of_ble_eq_true rfl) (by simp [-map_take,-map_drop, AV.refs, refsL, natAV, zAV, zC, ratAV, ratC, ptAV, ptC, push_cast]) fun hs0 => ?_
  have k1 : (IntKind.u64.wrap d).tmod 60 = (d % 18446744073709551616) % 60 := by rw [IntKind.wrap_u64, Int.tmod_eq_emod_of_nonneg (by omega)]
  have k2 : IntKind.i64.wrap ((d % 18446744073709551616) % 60) = (d % 18446744073709551616) % 60 := by rw [i64_in _ (by omega)]
  have k3 : IntKind.i64.wrap (1 + (d % 18446744073709551616) % 60) = 1 + (d % 18446744073709551616) % 60 := by rw [i64_in _ (by omega)]
  obtain ⟨r, hr⟩ : ∃ r, r = (d % 18446744073709551616) % 60 := ⟨_, rfl⟩
  have hu : underI d = 1 + r := by rw [hr]; rfl
  rw [hu]
  rw [← hr] at k1 k2 k3
  repeat' (first
    | with_reducible first | apply thenW_n | apply W_seq | apply W_ret
    | with_reducible refine W_region (by first | decide | (with_unfolding_all rfl)) ?_
    | (rw [vcn]; (try simp [-map_take,-map_drop, push_cast, k1, k2, k3]))
    | fail)
  simp [-map_take,-map_drop, post, resAV, resAll, resOne, closeV, closeC, closeL, resD, resDL, push_cast]

/-- A point by small numbers. -/
def dotF (x y d : Int) : FP := ⟨.of (Rat.divInt x (underI d)), .of (Rat.divInt y (underI d))⟩
def inI (n : Int) : Prop := -9223372036854775808 ≤ n ∧ n ≤ 9223372036854775807

theorem l11At_ok (x y d : Int) (hx : inI x) (hy : inI y) : Eval Try.prog 8 [.agg [i64V x, i64V y, i64V d]] (.ret (ptAV (dotF x y d))) := by
  refine Eval.intro Try.func8 rfl Try.call8 _ _ (Nat.le_of_ble_eq_true rfl) (by simp [-map_take,-map_drop, AV.refs, refsL, natAV, zAV, zC, ratAV, ratC, ptAV, ptC, push_cast]) fun hs0 => ?_
  have hu := underI_pos d
  have e1 := under_ok x y d
  have e2 := ofF_ok x (underI d) (by omega) hx (by omega)
  have e3 := ofF_ok y (underI d) (by omega) hy (by omega)
  unfold dotF
  obtain ⟨u, hu2⟩ : ∃ u, u = underI d := ⟨_, rfl⟩
  rw [← hu2] at e1 e2 e3 ⊢
  obtain ⟨a, ha⟩ : ∃ a, a = FQ.of (Rat.divInt x u) := ⟨_, rfl⟩
  obtain ⟨b, hb⟩ : ∃ b, b = FQ.of (Rat.divInt y u) := ⟨_, rfl⟩
  rw [← ha] at e2 ⊢
  rw [← hb] at e3 ⊢
  clear ha hb hu2 hu
  repeat' (first
    | with_reducible first | apply thenW_n | apply W_seq
    | with_reducible refine W_region (by first | decide | (with_unfolding_all rfl)) ?_
    | (rw [vcn]; (try simp [-map_take,-map_drop, push_cast]))
    | with_reducible refine W_drawn mixed (by decide) (by kernel_rfl) ?_
    | (rw [vcnD]; (try simp [-map_take,-map_drop, push_cast]))
    | fail)
  refine callD_of (e1) rfl rfl rfl ?_
  try dsimp only
  repeat' (first
    | (rw [vcnD]; (try simp [-map_take,-map_drop, push_cast]))
    | fail)
  refine callD_of (e2) rfl rfl rfl ?_
  try dsimp only
  repeat' (first
    | with_reducible first | apply thenW_n | apply W_seq
    | with_reducible refine W_drawn mixed (by decide) (by kernel_rfl) ?_
    | (rw [vcnD]; (try simp [-map_take,-map_drop, push_cast, ratAV, ratC, zC]))
    | refine And.intro (by first | omega | kernel_rfl) ?_
    | fail)
  refine callD_of (e1) rfl rfl rfl ?_
  try dsimp only
  repeat' (first
    | (rw [vcnD]; (try simp [-map_take,-map_drop, push_cast]))
    | fail)
  refine callD_of (e3) rfl rfl rfl ?_
  try dsimp only
  repeat' (first
    | with_reducible first | apply thenW_n | apply W_seq | apply W_ret
    | with_reducible refine W_region (by first | decide | (with_unfolding_all rfl)) ?_
    | (rw [vcn]; (try simp [-map_take,-map_drop, push_cast, ratAV, ratC, zC, ptAV, ptC]))
    | (rw [vcnD]; (try simp [-map_take,-map_drop, push_cast, ratAV, ratC, zC, ptAV, ptC]))
    | refine And.intro (by first | omega | kernel_rfl) ?_
    | fail)
  simp [-map_take,-map_drop, post, resAV, resAll, resOne, closeV, closeC, closeL, resD, resDL, push_cast, ptAV, ptC, ratAV, ratC, zAV, zC]
end Go.Fw

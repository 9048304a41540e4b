/- nat.Word, zed.Small. -/
import Derived.Test.YtnilkelofcblhaaZ1
set_option linter.unusedSimpArgs false
set_option linter.unusedVariables false
-- VALS: zAV, zC
namespace Go.Fw
open Go Go.Proofs Go.IntWalk
set_option linter.unusedSimpArgs false
set_option maxRecDepth 100000
set_option maxHeartbeats 4000000

theorem limbs_two (a : Nat) : (limbs a).length ≤ 2 ↔ a < 18446744073709551616 := by
  constructor
  · intro h
    have h1 := val_lt (show 0 < B32 by decide) (limbs a) (limbs_lt a)
    rw [val_limbs] at h1
    have h2 : B32 ^ (limbs a).length ≤ B32 ^ 2 := Nat.pow_le_pow_right (by decide) h
    have h3 : B32 ^ 2 = 18446744073709551616 := by decide
    omega
  · intro h
    exact digits_length_le B32_gt a 2 (by rw [show B32 ^ 2 = 18446744073709551616 from by decide]; exact h)

theorem or_shift (m x i : Nat) (hi : i ≤ 1) (hm : m < B32 ^ i) (hx : x < 4294967296) : bOr .u64 (m : Int) (shlI .u64 (x : Int) ((32 * i : Nat) : Int)) = ((m + B32 ^ i * x : Nat) : Int) := by
  have h1 : shlI .u64 (x : Int) ((32 * i : Nat) : Int) = ((B32 ^ i * x : Nat) : Int) := by
    unfold shlI
    rcases (by omega : i = 0 ∨ i = 1) with rfl | rfl
    · simp only [Nat.mul_zero, Nat.pow_zero, Nat.one_mul]
      rw [show (2 : Int) ^ (min ((0 : Nat) : Int).toNat IntKind.u64.bits) = 1 from rfl, u64_in _ (by omega)]
      omega
    · rw [show (2 : Int) ^ (min ((32 * 1 : Nat) : Int).toNat IntKind.u64.bits) = 4294967296 from rfl, u64_in _ (by omega)]
      show _ = ((4294967296 ^ 1 * x : Nat) : Int)
      omega
  unfold bOr
  rw [h1]
  have hb : B32 ^ i * x < 2 ^ 64 := by
    rcases (by omega : i = 0 ∨ i = 1) with rfl | rfl
    · show 4294967296 ^ 0 * x < _; omega
    · show 4294967296 ^ 1 * x < _; omega
  have hm2 : m < 4294967296 := by
    rcases (by omega : i = 0 ∨ i = 1) with rfl | rfl
    · have : m < 1 := hm
      omega
    · have : m < 4294967296 ^ 1 := hm
      omega
  have h2 : (BitVec.ofInt IntKind.u64.bits (m : Int) ||| BitVec.ofInt IntKind.u64.bits ((B32 ^ i * x : Nat) : Int)).toNat = m + B32 ^ i * x := by
    rw [BitVec.toNat_or, BitVec.ofInt_natCast, BitVec.ofInt_natCast, BitVec.toNat_ofNat, BitVec.toNat_ofNat]
    rw [Nat.mod_eq_of_lt (by simp only [IntKind.bits]; omega), Nat.mod_eq_of_lt (by simp only [IntKind.bits]; exact hb)]
    rcases (by omega : i = 0 ∨ i = 1) with rfl | rfl
    · have : m = 0 := by have : m < 1 := hm; omega
      subst this
      simp
    · have := Nat.two_pow_add_eq_or_of_lt (i := 32) (b := m) hm2 x
      have e : B32 ^ 1 * x = 2 ^ 32 * x := rfl
      rw [e, Nat.or_comm, ← this, Nat.add_comm]
  have hsum : m + B32 ^ i * x < 18446744073709551616 := by
    rcases (by omega : i = 0 ∨ i = 1) with rfl | rfl
    · have : B32 ^ 0 * x = x := by rw [Nat.pow_zero, Nat.one_mul]
      omega
    · have : B32 ^ 1 * x = 4294967296 * x := rfl
      omega
  rw [h2]
  exact u64_in _ (by omega)

open List (map_take map_drop)
attribute [local push_cast] optK_some optK_none optK_ite optK_map optK_bind gOn stepK isMem evPure evMem evBin evUn evConv evLen evBuiltin evMinMax evSlice evBuild evAppend evIndex evIndexAddr evField evFieldAddr intBin strBin appDest AS.val AS.mem AS.elems AS.put AS.put' AS.eff AV.cells? AV.isCell AV.refs all_isByte take_byteV drop_byteV strOf_map bndOk bnd partAV ptrAdd killBox catA inOrder fillA setAt ofVal resB upd byteV List.head?_take List.head?_drop List.getElem?_map mkS_env mkS_box mkS_used entry_env entry_box entry_used lk stepD lookIds Oper.looksAt Op.operands Call.operands St.ids refsL renL_append ren renL renBox Box.refs iV i64V boolV dV_getElem dV_app dV_cons toNat_add2 toNat_add1
attribute [local simp ↓] numC_refs numC_isCell numC_cells numC_resB numC_resD numC_ren numC_closeC numC_isOwn
theorem word_ok (a : Nat) : Eval Try.prog 60 [natAV a] (.ret (.tup [iV .u64 (if a < 18446744073709551616 then a else 0), boolV (decide (a < 18446744073709551616))])) := by
  refine Eval.intro Try.func60 rfl Try.call60 _ _ (Nat.le_of_ble_eq_true rfl) (by simp [-map_take,-map_drop, AV.refs, refsL, natAV, zAV, zC, push_cast]) fun hs0 => ?_
  have h2 := limbs_two a
  have hlt := limbs_lt a
  have hv := val_limbs a
  by_cases h : ¬ (limbs a).length ≤ 2
  · have g1 : ((2 : Int) < ((limbs a).length : Int)) = True := by simp [-map_take,-map_drop]; omega
    have g2 : (2 < (limbs a).length) = True := by simp [-map_take,-map_drop]; omega
    have g3 : (a < 18446744073709551616) = False := eq_false (fun k => h (h2.2 k))
    repeat' (first
      | with_reducible first | apply thenW_n | apply thenW_ret | apply W_seq | apply W_ret
      | with_reducible refine W_region (by first | decide | (with_unfolding_all rfl)) ?_
      | (rw [vcn]; (try simp [-map_take,-map_drop, push_cast, natAV, numC, ← limbs.eq_1, g1, g2]))
      | (with_reducible refine W_condW ?_; (try simp [-map_take,-map_drop, AS.val, upd, resB, mkS_env, mkS_box, lk, entry_env, condW_true, condW_false, natAV, numC, ← limbs.eq_1, g1, g2]))
      | fail)
    simp [-map_take,-map_drop, post, resAV, resAll, resOne, closeV, closeC, closeL, resD, resDL, push_cast, g3]
  have h : (limbs a).length ≤ 2 := by simpa [-map_take,-map_drop] using h
  have g1 : ((2 : Int) < ((limbs a).length : Int)) = False := by simp [-map_take,-map_drop]; omega
  have g2 : (2 < (limbs a).length) = False := by simp [-map_take,-map_drop]; omega
  have g3 : (a < 18446744073709551616) = True := eq_true (h2.1 h)
  obtain ⟨n, hn⟩ : ∃ n, n = (limbs a).length := ⟨_, rfl⟩
  repeat' (first
    | with_reducible first | apply thenW_n | apply W_seq | apply W_block | apply W_skip
    | with_reducible refine W_region (by first | decide | (with_unfolding_all rfl)) ?_
    | (rw [vcn]; (try simp [-map_take,-map_drop, push_cast, natAV, numC, ← limbs.eq_1, g1, g2]))
    | (with_reducible refine W_condW ?_; (try simp [-map_take,-map_drop, AS.val, upd, resB, mkS_env, mkS_box, lk, entry_env, condW_true, condW_false, natAV, numC, ← limbs.eq_1, g1, g2]))
    | fail)
  refine W_loopW (X := Nat) (fun i => [(4, iV .u64 (val B32 ((limbs a).take i))), (12, natC a), (13, i64V n), (14, i64V i)])
    (fun _ => []) (fun i => n - i) (fun i => i ≤ n) 0 id (Nat.zero_le _) ⟨?_, ?_, ?_, ?_, ?_, ?_⟩ fun i hi => ?_
  all_goals first | (with_reducible refine W_id ?_) | (simp [-map_take,-map_drop, push_cast, dV_take, dV_drop, numC, ← limbs.eq_1, ← hn, val]; done)
  by_cases hl : ¬ i < n
  · have g4 : (i < n) = False := eq_false hl
    have e : val B32 ((limbs a).take i) = a := by rw [List.take_of_length_le (by omega), hv]
    repeat' (first
      | with_reducible first | apply thenW_n | apply thenW_exit | apply blockW_same | apply loopW_exit | apply W_seq | apply W_ret | apply W_exit
      | with_reducible refine W_region (by first | decide | (with_unfolding_all rfl)) ?_
      | (rw [vcn]; (try simp [-map_take,-map_drop, push_cast, g4, e]))
      | (with_reducible refine W_condW ?_; (try simp [-map_take,-map_drop, AS.val, upd, resB, mkS_env, mkS_box, lk, entry_env, condW_true, condW_false, g4, e]))
      | fail)
    simp [-map_take,-map_drop, post, resAV, resAll, resOne, closeV, closeC, closeL, resD, resDL, push_cast, g3]
  have hl : i < n := by simpa [-map_take,-map_drop] using hl
  have g4 : (i < n) = True := eq_true hl
  obtain ⟨x, hx⟩ : ∃ x, x = dg (limbs a) i := ⟨_, rfl⟩
  have hx32 : x < 4294967296 := by rw [hx]; exact dg_lt (by decide) hlt i
  have hvs := val_take_succ B32 (limbs a) i
  have hm : val B32 ((limbs a).take i) < B32 ^ i := by
    have := val_lt (show 0 < B32 by decide) ((limbs a).take i) (fun d hd => hlt d (List.mem_of_mem_take hd))
    rwa [List.length_take, Nat.min_eq_left (by omega)] at this
  obtain ⟨m, hmm⟩ : ∃ m, m = val B32 ((limbs a).take i) := ⟨_, rfl⟩
  rw [← hmm] at hm hvs
  rw [← hx] at hvs
  have hor := or_shift m x i (by omega) hm hx32
  rw [← hvs] at hor
  simp only [← hmm]
  have k1 : IntKind.i64.wrap (32 * (i : Int)) = ((32 * i : Nat) : Int) := by rw [i64_in _ (by omega)]; omega
  have k2 : (32 * (i : Int) < 0) = False := eq_false (by omega)
  have k3 : ((32 * i : Nat) : Int) = 32 * (i : Int) := by omega
  rw [k3] at k1 hor
  repeat' (first
    | with_reducible first | apply thenW_n | apply blockW_n | apply W_seq | apply W_block | apply W_skip
    | with_reducible refine W_region (by first | decide | (with_unfolding_all rfl)) ?_
    | (rw [vcn]; (try simp [-map_take,-map_drop, push_cast, numC, ← limbs.eq_1, g4, ← hx, k1, k2, hor]); try simp (disch := omega) only [i64_in, u64_in, shr64i])
    | (with_reducible refine W_condW ?_; (try simp [-map_take,-map_drop, AS.val, upd, resB, mkS_env, mkS_box, lk, entry_env, condW_true, condW_false, numC, ← limbs.eq_1, g4, ← hx, k1, k2, hor]))
    | (with_reducible refine optK_dV (by first | omega | (simp [-map_take,-map_drop]; omega)) ?_)
    | refine And.intro (by first | omega | kernel_rfl) ?_
    | fail)
  refine loopW_n (i + 1) id (by omega) (by omega) ⟨?_, ?_, ?_, ?_, ?_, ?_⟩
  all_goals first | (simp [-map_take,-map_drop, push_cast, dV_take, dV_drop, numC, ← limbs.eq_1, ← hn]; done)

/-- A number as an int, if it is one. -/
def smallZ (n : Int) : Option Int := if -9223372036854775808 ≤ n ∧ n ≤ 9223372036854775807 then some n else none
def smallAV (n : Int) : AV := .tup [i64V ((smallZ n).getD 0), boolV (smallZ n).isSome]

theorem small_ok (n : Int) : Eval Try.prog 43 [zAV n] (.ret (smallAV n)) := by
  refine Eval.intro Try.func43 rfl Try.call43 _ _ (Nat.le_of_ble_eq_true rfl) (by simp [-map_take,-map_drop, AV.refs, refsL, natAV, zAV, zC, push_cast]) fun hs0 => ?_
  have hw := word_ok n.natAbs
  obtain ⟨m, hm⟩ : ∃ m, m = n.natAbs := ⟨_, rfl⟩
  by_cases h1 : ¬ n.natAbs < 18446744073709551616
  · rw [if_neg h1, decide_eq_false h1] at hw
    have hs : smallZ n = none := by unfold smallZ; rw [if_neg (by omega)]
    repeat' (first
      | with_reducible first | apply thenW_n | apply W_seq
      | with_reducible refine W_region (by first | decide | (with_unfolding_all rfl)) ?_
      | (rw [vcn]; (try simp [-map_take,-map_drop, push_cast, zAV, zC]))
      | fail)
    refine CallG_of (hw) rfl rfl rfl ?_
    try dsimp only
    repeat' (first
      | with_reducible first | apply thenW_n | apply thenW_ret | apply blockW_ret | apply W_seq | apply W_block | apply W_ret
      | with_reducible refine W_region (by first | decide | (with_unfolding_all rfl)) ?_
      | (rw [vcn]; (try simp [-map_take,-map_drop, push_cast, zAV, zC]))
      | (with_reducible refine W_condW ?_; (try simp [-map_take,-map_drop, AS.val, upd, resB, mkS_env, mkS_box, lk, entry_env, condW_true, condW_false, zAV, zC]))
      | fail)
    simp [-map_take,-map_drop, post, resAV, resAll, resOne, closeV, closeC, closeL, resD, resDL, push_cast, smallAV, hs]
  have h1 : n.natAbs < 18446744073709551616 := by omega
  rw [if_pos h1, decide_eq_true h1, ← hm] at hw
  by_cases h2 : n < 0
  · have g1 : (n < 0) = True := eq_true h2
    by_cases h3 : m ≤ 9223372036854775808
    · have hs : smallZ n = some n := by unfold smallZ; rw [if_pos (by omega)]
      have g2 : ((m : Int) ≤ 9223372036854775808) = True := eq_true (by omega)
      have g3 : (m ≤ 9223372036854775808) = True := eq_true h3
      have k1 : IntKind.u64.wrap ((m : Int) - 1) = (m : Int) - 1 := by rw [u64_in _ (by omega)]
      have k2 : IntKind.i64.wrap ((m : Int) - 1) = (m : Int) - 1 := by rw [i64_in _ (by omega)]
      have k3 : IntKind.i64.wrap (-((m : Int) - 1)) = -((m : Int) - 1) := by rw [i64_in _ (by omega)]
      have k4 : IntKind.i64.wrap (-((m : Int) - 1) - 1) = n := by rw [i64_in _ (by omega)]; omega
      repeat' (first
        | with_reducible first | apply thenW_n | apply W_seq
        | with_reducible refine W_region (by first | decide | (with_unfolding_all rfl)) ?_
        | (rw [vcn]; (try simp [-map_take,-map_drop, push_cast, zAV, zC, g1, g2, g3, ← hm]))
        | fail)
      refine CallG_of (hw) rfl rfl rfl ?_
      try dsimp only
      repeat' (first
        | with_reducible first | apply thenW_n | apply thenW_ret | apply blockW_ret | apply W_seq | apply W_block | apply W_ret
        | with_reducible refine W_region (by first | decide | (with_unfolding_all rfl)) ?_
        | (rw [vcn]; (try simp [-map_take,-map_drop, push_cast, zAV, zC, g1, g2, g3, k1, k2, k3, k4]))
        | (with_reducible refine W_condW ?_; (try simp [-map_take,-map_drop, AS.val, upd, resB, mkS_env, mkS_box, lk, entry_env, condW_true, condW_false, zAV, zC, g1, g2, g3, k1, k2, k3, k4]))
        | fail)
      simp [-map_take,-map_drop, post, resAV, resAll, resOne, closeV, closeC, closeL, resD, resDL, push_cast, smallAV, hs, k1, k2, k3, k4]
    · have hs : smallZ n = none := by unfold smallZ; rw [if_neg (by omega)]
      have g2 : ((m : Int) ≤ 9223372036854775808) = False := eq_false (by omega)
      have g3 : (m ≤ 9223372036854775808) = False := eq_false h3
      repeat' (first
        | with_reducible first | apply thenW_n | apply W_seq
        | with_reducible refine W_region (by first | decide | (with_unfolding_all rfl)) ?_
        | (rw [vcn]; (try simp [-map_take,-map_drop, push_cast, zAV, zC, g1, g2, g3, ← hm]))
        | fail)
      refine CallG_of (hw) rfl rfl rfl ?_
      try dsimp only
      repeat' (first
        | with_reducible first | apply thenW_n | apply blockW_n | apply W_seq | apply W_block | apply W_skip | apply W_ret
        | with_reducible refine W_region (by first | decide | (with_unfolding_all rfl)) ?_
        | (rw [vcn]; (try simp [-map_take,-map_drop, push_cast, zAV, zC, g1, g2, g3]))
        | (with_reducible refine W_condW ?_; (try simp [-map_take,-map_drop, AS.val, upd, resB, mkS_env, mkS_box, lk, entry_env, condW_true, condW_false, zAV, zC, g1, g2, g3]))
        | fail)
      simp [-map_take,-map_drop, post, resAV, resAll, resOne, closeV, closeC, closeL, resD, resDL, push_cast, smallAV, hs]
  · have g1 : (n < 0) = False := eq_false h2
    by_cases h3 : m < 9223372036854775808
    · have hs : smallZ n = some n := by unfold smallZ; rw [if_pos (by omega)]
      have g2 : ((m : Int) < 9223372036854775808) = True := eq_true (by omega)
      have g3 : (m < 9223372036854775808) = True := eq_true h3
      have k1 : IntKind.i64.wrap (m : Int) = n := by rw [i64_in _ (by omega)]; omega
      repeat' (first
        | with_reducible first | apply thenW_n | apply W_seq
        | with_reducible refine W_region (by first | decide | (with_unfolding_all rfl)) ?_
        | (rw [vcn]; (try simp [-map_take,-map_drop, push_cast, zAV, zC, g1, g2, g3, ← hm]))
        | fail)
      refine CallG_of (hw) rfl rfl rfl ?_
      try dsimp only
      repeat' (first
        | with_reducible first | apply thenW_n | apply thenW_ret | apply blockW_ret | apply W_seq | apply W_block | apply W_ret
        | with_reducible refine W_region (by first | decide | (with_unfolding_all rfl)) ?_
        | (rw [vcn]; (try simp [-map_take,-map_drop, push_cast, zAV, zC, g1, g2, g3, k1]))
        | (with_reducible refine W_condW ?_; (try simp [-map_take,-map_drop, AS.val, upd, resB, mkS_env, mkS_box, lk, entry_env, condW_true, condW_false, zAV, zC, g1, g2, g3, k1]))
        | fail)
      simp [-map_take,-map_drop, post, resAV, resAll, resOne, closeV, closeC, closeL, resD, resDL, push_cast, smallAV, hs, k1]
    · have hs : smallZ n = none := by unfold smallZ; rw [if_neg (by omega)]
      have g2 : ((m : Int) < 9223372036854775808) = False := eq_false (by omega)
      have g3 : (m < 9223372036854775808) = False := eq_false h3
      repeat' (first
        | with_reducible first | apply thenW_n | apply W_seq
        | with_reducible refine W_region (by first | decide | (with_unfolding_all rfl)) ?_
        | (rw [vcn]; (try simp [-map_take,-map_drop, push_cast, zAV, zC, g1, g2, g3, ← hm]))
        | fail)
      refine CallG_of (hw) rfl rfl rfl ?_
      try dsimp only
      repeat' (first
        | with_reducible first | apply thenW_n | apply blockW_n | apply W_seq | apply W_block | apply W_skip | apply W_ret
        | with_reducible refine W_region (by first | decide | (with_unfolding_all rfl)) ?_
        | (rw [vcn]; (try simp [-map_take,-map_drop, push_cast, zAV, zC, g1, g2, g3]))
        | (with_reducible refine W_condW ?_; (try simp [-map_take,-map_drop, AS.val, upd, resB, mkS_env, mkS_box, lk, entry_env, condW_true, condW_false, zAV, zC, g1, g2, g3]))
        | fail)
      simp [-map_take,-map_drop, post, resAV, resAll, resOne, closeV, closeC, closeL, resD, resDL, push_cast, smallAV, hs]
end Go.Fw

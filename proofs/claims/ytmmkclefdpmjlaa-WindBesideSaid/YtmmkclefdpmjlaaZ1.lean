/- zed: made, Sign, Neg, Abs, Big, Cmp, Mul. -/
import Derived.Test.YtmmkclefdpmjlaaN7
import Derived.Test.YtmmkclefdpmjlaaN5
import Derived.Test.YtmmkclefdpmjlaaN4
set_option linter.unusedSimpArgs false
set_option linter.unusedVariables false
-- VALS: zAV, zC
namespace Go.Fw
open Go Go.Proofs Go.IntWalk
def zC (z : Int) : List AV := [natC z.natAbs, .v (.bool (decide (z < 0)))]
def zAV (z : Int) : AV := .agg (zC z)
def ZB (k : Nat) (z : Int) : Prop := z.natAbs < 2 ^ k
theorem ZB.len {k : Nat} {z : Int} (h : ZB k z) : (limbs z.natAbs).length ≤ k := limbs_len h
def cmpZ (a b : Int) : Int := if a < b then -1 else if b < a then 1 else 0
set_option linter.unusedSimpArgs false
set_option maxRecDepth 100000
set_option maxHeartbeats 2000000
open List (map_take map_drop)
attribute [local push_cast] optK_some optK_none optK_ite optK_map optK_bind gOn stepK isMem evPure evMem evBin evUn evConv evLen evBuiltin evMinMax evSlice evBuild evAppend evIndex evIndexAddr evField evFieldAddr intBin strBin appDest AS.val AS.mem AS.elems AS.put AS.put' AS.eff AV.cells? AV.isCell AV.refs all_isByte take_byteV drop_byteV strOf_map bndOk bnd partAV ptrAdd killBox catA inOrder fillA setAt ofVal resB upd byteV List.head?_take List.head?_drop List.getElem?_map mkS_env mkS_box mkS_used entry_env entry_box entry_used lk stepD lookIds Oper.looksAt Op.operands Call.operands St.ids refsL renL_append ren renL renBox Box.refs iV i64V boolV dV_getElem dV_app dV_cons toNat_add2 toNat_add1
attribute [local simp ↓] numC_refs numC_isCell numC_cells numC_resB numC_resD numC_ren numC_closeC numC_isOwn
theorem made_ok (n : Nat) (b : Bool) (h : (limbs n).length ≤ 20000000) : Eval Try.prog 83 [natAV n, boolV b] (.ret (zAV (if b then -(n : Int) else n))) := by
  refine Eval.intro Try.func83 rfl Try.call83 _ _ (Nat.le_of_ble_eq_true rfl) (by simp [-map_take,-map_drop, AV.refs, refsL, natAV, zAV, zC, push_cast]) fun hs0 => ?_
  cases b with
  | false =>
    have h1 : ¬ (n : Int) < 0 := by omega
    repeat' (first
      | with_reducible first | apply thenW_n | apply W_seq | apply W_ret
      | with_reducible refine W_rg ?_
      | (rw [vcn]; (try simp [-map_take,-map_drop, push_cast, natAV]))
      | with_reducible refine W_drawn mixed (by decide) (by kernel_rfl) ?_
      | (rw [vcnD]; (try simp [-map_take,-map_drop, push_cast, natAV]))
      | refine And.intro (by first | omega | kernel_rfl) ?_
      | fail)
    simp [-map_take,-map_drop, post, resAV, resAll, resOne, closeV, closeC, closeL, resD, resDL, push_cast, natAV, zAV, zC, h1]
  | true =>
    have eb := natBits_ok n h
    repeat' (first
      | with_reducible first | apply thenW_n | apply W_seq
      | with_reducible refine W_rg ?_
      | (rw [vcn]; (try simp [-map_take,-map_drop, push_cast, natAV]))
      | with_reducible refine W_drawn mixed (by decide) (by kernel_rfl) ?_
      | (rw [vcnD]; (try simp [-map_take,-map_drop, push_cast, natAV]))
      | fail)
    refine callD_of (eb) rfl rfl rfl ?_
    try dsimp only
    repeat' (first
      | with_reducible first | apply thenW_n | apply W_ret
      | (rw [vcnD]; (try simp [-map_take,-map_drop, push_cast, natAV]))
      | refine And.intro (by first | omega | kernel_rfl) ?_
      | fail)
    have hb : 0 < n ↔ 0 < bitsN n := by
      rcases Nat.eq_zero_or_pos n with h0 | h0
      · subst h0; exact Iff.rfl
      · have := bitsN_pos h0
        omega
    simp [-map_take,-map_drop, post, resAV, resAll, resOne, closeV, closeC, closeL, resD, resDL, push_cast, natAV, zAV, zC, hb]
theorem sign_ok (z : Int) (h : (limbs z.natAbs).length ≤ 20000000) : Eval Try.prog 81 [zAV z] (.ret (i64V z.sign)) := by
  refine Eval.intro Try.func81 rfl Try.call81 _ _ (Nat.le_of_ble_eq_true rfl) (by simp [-map_take,-map_drop, AV.refs, refsL, natAV, zAV, zC, push_cast]) fun hs0 => ?_
  have eb := natBits_ok z.natAbs h
  rcases Int.lt_trichotomy z 0 with h0 | h0 | h0
  · have e : z.sign = -1 := Int.sign_eq_neg_one_of_neg h0
    repeat' (first
      | with_reducible first | apply thenW_n | apply thenW_ret | apply blockW_ret | apply W_seq | apply W_block | apply W_ret
      | with_reducible refine W_rg ?_
      | (rw [vcn]; (try simp [-map_take,-map_drop, push_cast, zAV, zC, h0]))
      | (with_reducible refine W_condW ?_; (try simp [-map_take,-map_drop, AS.val, upd, resB, mkS_env, mkS_box, lk, entry_env, condW_true, condW_false, zAV, zC, h0]))
      | fail)
    simp [-map_take,-map_drop, post, resAV, resAll, resOne, closeV, closeC, closeL, resD, resDL, push_cast, e]
  · subst h0
    have hb0 : bitsN 0 = 0 := rfl
    repeat' (first
      | with_reducible first | apply thenW_n | apply W_seq | apply W_block
      | with_reducible refine W_rg ?_
      | (rw [vcn]; (try simp [-map_take,-map_drop, push_cast, zAV, zC]))
      | (with_reducible refine W_condW ?_; (try simp [-map_take,-map_drop, AS.val, upd, resB, mkS_env, mkS_box, lk, entry_env, condW_true, condW_false, zAV, zC]))
      | fail)
    refine CallG_of (eb) rfl rfl rfl ?_
    try dsimp only
    repeat' (first
      | with_reducible first | apply thenW_n | apply thenW_ret | apply blockW_ret | apply W_seq | apply W_ret
      | with_reducible refine W_rg ?_
      | (rw [vcn]; (try simp [-map_take,-map_drop, push_cast, hb0]))
      | (with_reducible refine W_condW ?_; (try simp [-map_take,-map_drop, AS.val, upd, resB, mkS_env, mkS_box, lk, entry_env, condW_true, condW_false, hb0]))
      | fail)
    simp [-map_take,-map_drop, post, resAV, resAll, resOne, closeV, closeC, closeL, resD, resDL, push_cast]
  · have e : z.sign = 1 := Int.sign_eq_one_of_pos h0
    have h1 : ¬ z < 0 := by omega
    have h2 : 0 < bitsN z.natAbs := bitsN_pos (by omega)
    have h3 : ¬ bitsN z.natAbs = 0 := by omega
    repeat' (first
      | with_reducible first | apply thenW_n | apply W_seq | apply W_block
      | with_reducible refine W_rg ?_
      | (rw [vcn]; (try simp [-map_take,-map_drop, push_cast, zAV, zC, h1]))
      | (with_reducible refine W_condW ?_; (try simp [-map_take,-map_drop, AS.val, upd, resB, mkS_env, mkS_box, lk, entry_env, condW_true, condW_false, zAV, zC, h1]))
      | fail)
    refine CallG_of (eb) rfl rfl rfl ?_
    try dsimp only
    repeat' (first
      | with_reducible first | apply thenW_n | apply blockW_n | apply W_seq | apply W_skip | apply W_ret
      | with_reducible refine W_rg ?_
      | (rw [vcn]; (try simp [-map_take,-map_drop, push_cast, h3]))
      | (with_reducible refine W_condW ?_; (try simp [-map_take,-map_drop, AS.val, upd, resB, mkS_env, mkS_box, lk, entry_env, condW_true, condW_false, h3]))
      | ((with_reducible refine condW_b (fun hc => ?_) (fun hc => ?_) <;> (try simp [-map_take,-map_drop, Int.ofNat_inj] at hc) <;> (try contradiction)))
      | fail)
    simp [-map_take,-map_drop, post, resAV, resAll, resOne, closeV, closeC, closeL, resD, resDL, push_cast, e]
theorem neg_ok (z : Int) (h : (limbs z.natAbs).length ≤ 20000000) : Eval Try.prog 57 [zAV z] (.ret (zAV (-z))) := by
  refine Eval.intro Try.func57 rfl Try.call57 _ _ (Nat.le_of_ble_eq_true rfl) (by simp [-map_take,-map_drop, AV.refs, refsL, natAV, zAV, zC, push_cast]) fun hs0 => ?_
  have em := made_ok z.natAbs (!decide (z < 0)) h
  have e : (if (!decide (z < 0)) = true then -(z.natAbs : Int) else (z.natAbs : Int)) = -z := by
    by_cases h0 : z < 0 <;> simp [-map_take,-map_drop, h0] <;> omega
  rw [e] at em
  repeat' (first
    | with_reducible first | apply thenW_n | apply W_seq
    | with_reducible refine W_rg ?_
    | (rw [vcn]; (try simp [-map_take,-map_drop, push_cast, zAV, zC]))
    | fail)
  refine CallG_of (em) rfl rfl rfl ?_
  try dsimp only
  repeat' (first
    | with_reducible first | apply thenW_n | apply W_ret
    | (rw [vcn]; (try simp [-map_take,-map_drop, push_cast, zAV, zC]))
    | fail)
  simp [-map_take,-map_drop, post, resAV, resAll, resOne, closeV, closeC, closeL, resD, resDL, push_cast, zAV, zC]
theorem abs_ok (z : Int) : Eval Try.prog 93 [zAV z] (.ret (natAV z.natAbs)) := by
  refine Eval.intro Try.func93 rfl Try.call93 _ _ (Nat.le_of_ble_eq_true rfl) (by simp [-map_take,-map_drop, AV.refs, refsL, natAV, zAV, zC, push_cast]) fun hs0 => ?_
  repeat' (first
    | with_reducible first | apply thenW_n | apply W_seq | apply W_ret
    | with_reducible refine W_rg ?_
    | (rw [vcn]; (try simp [-map_take,-map_drop, push_cast, zAV, zC]))
    | fail)
  simp [-map_take,-map_drop, post, resAV, resAll, resOne, closeV, closeC, closeL, resD, resDL, push_cast, natAV]
theorem big_ok (n : Nat) (h : (limbs n).length ≤ 20000000) : Eval Try.prog 96 [natAV n] (.ret (zAV n)) := by
  refine Eval.intro Try.func96 rfl Try.call96 _ _ (Nat.le_of_ble_eq_true rfl) (by simp [-map_take,-map_drop, AV.refs, refsL, natAV, zAV, zC, push_cast]) fun hs0 => ?_
  have em := made_ok n false h
  repeat' (first
    | with_reducible first | apply thenW_n | apply W_seq
    | with_reducible refine W_rg ?_
    | (rw [vcn]; (try simp [-map_take,-map_drop, push_cast, natAV]))
    | fail)
  refine CallG_of (em) rfl rfl rfl ?_
  try dsimp only
  repeat' (first
    | with_reducible first | apply thenW_n | apply W_ret
    | (rw [vcn]; (try simp [-map_take,-map_drop, push_cast, zAV, zC]))
    | fail)
  simp [-map_take,-map_drop, post, resAV, resAll, resOne, closeV, closeC, closeL, resD, resDL, push_cast, zAV, zC]
theorem cmpZ_ok (a b : Int) : Eval Try.prog 44 [zAV a, zAV b] (.ret (i64V (cmpZ a b))) := by
  refine Eval.intro Try.func44 rfl Try.call44 _ _ (Nat.le_of_ble_eq_true rfl) (by simp [-map_take,-map_drop, AV.refs, refsL, natAV, zAV, zC, push_cast]) fun hs0 => ?_
  by_cases ha : a < 0 <;> by_cases hb : b < 0
  · have e : cmpZ a b = cmpN b.natAbs a.natAbs := by unfold cmpZ cmpN; split <;> split <;> (try split) <;> (try split) <;> omega
    repeat' (first
      | with_reducible first | apply thenW_n | apply W_seq | apply W_block
      | with_reducible refine W_rg ?_
      | (rw [vcn]; (try simp [-map_take,-map_drop, push_cast, zAV, zC, ha, hb]))
      | (with_reducible refine W_condW ?_; (try simp [-map_take,-map_drop, AS.val, upd, resB, mkS_env, mkS_box, lk, entry_env, condW_true, condW_false, zAV, zC, ha, hb]))
      | fail)
    refine CallG_of (natCmp_ok b.natAbs a.natAbs) rfl rfl rfl ?_
    try dsimp only
    repeat' (first
      | with_reducible first | apply thenW_n | apply thenW_ret | apply blockW_ret | apply W_ret
      | (rw [vcn]; (try simp [-map_take,-map_drop, push_cast]))
      | fail)
    simp [-map_take,-map_drop, post, resAV, resAll, resOne, closeV, closeC, closeL, resD, resDL, push_cast, e]
  · have e : cmpZ a b = -1 := by unfold cmpZ; split <;> omega
    repeat' (first
      | with_reducible first | apply thenW_n | apply thenW_ret | apply blockW_ret | apply W_seq | apply W_block | apply W_ret
      | with_reducible refine W_rg ?_
      | (rw [vcn]; (try simp [-map_take,-map_drop, push_cast, zAV, zC, ha, hb]))
      | (with_reducible refine W_condW ?_; (try simp [-map_take,-map_drop, AS.val, upd, resB, mkS_env, mkS_box, lk, entry_env, condW_true, condW_false, zAV, zC, ha, hb]))
      | fail)
    simp [-map_take,-map_drop, post, resAV, resAll, resOne, closeV, closeC, closeL, resD, resDL, push_cast, e]
  · have e : cmpZ a b = 1 := by unfold cmpZ; split <;> (try split) <;> omega
    repeat' (first
      | with_reducible first | apply thenW_n | apply thenW_ret | apply blockW_ret | apply W_seq | apply W_block | apply W_skip | apply W_ret
      | with_reducible refine W_rg ?_
      | (rw [vcn]; (try simp [-map_take,-map_drop, push_cast, zAV, zC, ha, hb]))
      | (with_reducible refine W_condW ?_; (try simp [-map_take,-map_drop, AS.val, upd, resB, mkS_env, mkS_box, lk, entry_env, condW_true, condW_false, zAV, zC, ha, hb]))
      | fail)
    simp [-map_take,-map_drop, post, resAV, resAll, resOne, closeV, closeC, closeL, resD, resDL, push_cast, e]
  · have e : cmpZ a b = cmpN a.natAbs b.natAbs := by unfold cmpZ cmpN; split <;> split <;> (try split) <;> (try split) <;> omega
    repeat' (first
      | with_reducible first | apply thenW_n | apply blockW_n | apply W_seq | apply W_block | apply W_skip
      | with_reducible refine W_rg ?_
      | (rw [vcn]; (try simp [-map_take,-map_drop, push_cast, zAV, zC, ha, hb]))
      | (with_reducible refine W_condW ?_; (try simp [-map_take,-map_drop, AS.val, upd, resB, mkS_env, mkS_box, lk, entry_env, condW_true, condW_false, zAV, zC, ha, hb]))
      | fail)
    refine CallG_of (natCmp_ok a.natAbs b.natAbs) rfl rfl rfl ?_
    try dsimp only
    repeat' (first
      | with_reducible first | apply thenW_n | apply W_ret
      | (rw [vcn]; (try simp [-map_take,-map_drop, push_cast]))
      | fail)
    simp [-map_take,-map_drop, post, resAV, resAll, resOne, closeV, closeC, closeL, resD, resDL, push_cast, e]
theorem mulZ_ok (a b : Int) (h : (limbs a.natAbs).length + (limbs b.natAbs).length ≤ 10000000) : Eval Try.prog 56 [zAV a, zAV b] (.ret (zAV (a * b))) := by
  refine Eval.intro Try.func56 rfl Try.call56 _ _ (Nat.le_of_ble_eq_true rfl) (by simp [-map_take,-map_drop, AV.refs, refsL, natAV, zAV, zC, push_cast]) fun hs0 => ?_
  have hl : (limbs (a.natAbs * b.natAbs)).length ≤ 20000000 := by
    refine Nat.le_trans (digits_length_le B32_gt _ ((limbs a.natAbs).length + (limbs b.natAbs).length) ?_) (by omega)
    have h1 := val_lt (show 0 < B32 by decide) _ (limbs_lt a.natAbs)
    have h2 := val_lt (show 0 < B32 by decide) _ (limbs_lt b.natAbs)
    rw [val_limbs] at h1 h2
    rw [Nat.pow_add]
    exact Nat.mul_lt_mul'' h1 h2
  have em := made_ok (a.natAbs * b.natAbs) (!(decide (a < 0) == decide (b < 0))) hl
  have e : (if (!(decide (a < 0) == decide (b < 0))) = true then -((a.natAbs * b.natAbs : Nat) : Int) else ((a.natAbs * b.natAbs : Nat) : Int)) = a * b := by
    rw [Int.natCast_mul]
    by_cases ha : a < 0 <;> by_cases hb : b < 0
    · rw [show (a.natAbs : Int) = -a from by omega, show (b.natAbs : Int) = -b from by omega]; simp [-map_take,-map_drop, ha, hb, Int.neg_mul_neg]
    · rw [show (a.natAbs : Int) = -a from by omega, show (b.natAbs : Int) = b from by omega]; simp [-map_take,-map_drop, ha, hb, Int.neg_mul]
    · rw [show (a.natAbs : Int) = a from by omega, show (b.natAbs : Int) = -b from by omega]; simp [-map_take,-map_drop, ha, hb, Int.mul_neg]
    · rw [show (a.natAbs : Int) = a from by omega, show (b.natAbs : Int) = b from by omega]; simp [-map_take,-map_drop, ha, hb]
  rw [e] at em
  repeat' (first
    | with_reducible first | apply thenW_n | apply W_seq
    | with_reducible refine W_rg ?_
    | (rw [vcn]; (try simp [-map_take,-map_drop, push_cast, zAV, zC]))
    | with_reducible refine W_drawn mixed (by decide) (by kernel_rfl) ?_
    | (rw [vcnD]; (try simp [-map_take,-map_drop, push_cast, zAV, zC]))
    | fail)
  refine callD_of (natMul_ok a.natAbs b.natAbs (by omega)) rfl rfl rfl ?_
  try dsimp only
  repeat' (first
    | (rw [vcnD]; (try simp [-map_take,-map_drop, push_cast, natAV]))
    | fail)
  refine callD_of (em) rfl rfl rfl ?_
  try dsimp only
  repeat' (first
    | with_reducible first | apply thenW_n | apply W_ret
    | (rw [vcnD]; (try simp [-map_take,-map_drop, push_cast, zAV, zC]))
    | refine And.intro (by first | omega | kernel_rfl) ?_
    | fail)
  simp [-map_take,-map_drop, post, resAV, resAll, resOne, closeV, closeC, closeL, resD, resDL, push_cast, zAV, zC]
end Go.Fw

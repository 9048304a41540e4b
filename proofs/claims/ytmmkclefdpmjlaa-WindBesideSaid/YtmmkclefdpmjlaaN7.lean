/- nat: the bits of a word; Bits, Word; a copy. -/
import Derived.Test.YtmmkclefdpmjlaaN1
set_option linter.unusedSimpArgs false
set_option linter.unusedVariables false
namespace Go.Fw
open Go Go.Proofs Go.IntWalk
def lenB (n : Nat) : Nat := (digits 2 n).length
theorem lenB_pos {n : Nat} (h : 0 < n) : 0 < lenB n := by
  unfold lenB; rw [digits_pos (by decide) h]; simp
theorem lenB_div (n : Nat) (h : 2 ≤ n) : lenB n = lenB (n / 2) + 1 := by
  unfold lenB; rw [digits_pos (by decide) (by omega)]; simp
theorem lenB_shift : ∀ (k n : Nat), 2 ^ k ≤ n → lenB n = lenB (n / 2 ^ k) + k
  | 0, n, _ => by simp
  | k + 1, n, h => by
    have h2 : 2 ≤ n := by
      have : 2 ^ 1 ≤ 2 ^ (k + 1) := Nat.pow_le_pow_right (by decide) (by omega)
      omega
    rw [lenB_div n h2, lenB_shift k (n / 2) (by rw [Nat.le_div_iff_mul_le (by decide)]; rw [Nat.pow_succ] at h; exact h), Nat.div_div_eq_div_mul, Nat.pow_succ, Nat.mul_comm 2]
    omega
set_option linter.unusedSimpArgs false
set_option maxRecDepth 100000
set_option maxHeartbeats 4000000
theorem tbl8 : ∀ y : Nat, y < 256 → ∀ t : ByteArray, t = ByteArray.mk (List.toArray (
    (([0, 1, 2, 2, 3, 3, 3, 3, 4, 4, 4, 4, 4, 4, 4, 4] ++ List.replicate 16 5 ++ List.replicate 32 6) ++ List.replicate 64 7) ++ List.replicate 128 8)) → (t.data.toList.getD y 0).toNat = lenB y := by
  intro y hy t ht
  subst ht
  revert hy y
  decide
theorem shr32i (n : Int) (k m : Nat) (hm : 2 ^ k = m) (hk : k ≤ 32) : shrI .u32 n (k : Int) = n / (m : Int) := by
  unfold shrI
  rw [show min (k : Int).toNat IntKind.u32.bits = k from by simp [IntKind.bits]; omega, Int.fdiv_eq_ediv_of_nonneg _ (Int.le_of_lt (Int.pow_pos (by decide))), ← hm]
  simp
theorem lenB_le_of {x k : Nat} (h : x < 2 ^ k) : lenB x ≤ k := digits_length_le (by decide) x k h
open List (map_take map_drop)
attribute [local push_cast] optK_some optK_none optK_ite optK_map optK_bind gOn stepK isMem evPure evMem evBin evUn evConv evLen evBuiltin evMinMax evSlice evBuild evAppend evIndex evIndexAddr evField evFieldAddr intBin strBin appDest AS.val AS.mem AS.elems AS.put AS.put' AS.eff AV.cells? AV.isCell AV.refs all_isByte take_byteV drop_byteV strOf_map bndOk bnd partAV ptrAdd killBox catA inOrder fillA setAt ofVal resB upd byteV List.head?_take List.head?_drop List.getElem?_map mkS_env mkS_box mkS_used entry_env entry_box entry_used lk stepD lookIds Oper.looksAt Op.operands Call.operands St.ids refsL renL_append ren renL renBox Box.refs iV i64V boolV dV_getElem dV_app dV_cons toNat_add2 toNat_add1
attribute [local simp ↓] numC_refs numC_isCell numC_cells numC_resB numC_resD numC_ren numC_closeC numC_isOwn
theorem len32_ok (x : Nat) (h : x < 4294967296) : Eval Try.prog 123 [iV .u32 x] (.ret (i64V (lenB x))) := by
  refine Eval.intro Try.func123 rfl Try.call123 _ _ (Nat.le_of_ble_eq_true rfl) (by simp [-map_take,-map_drop, AV.refs, refsL, natAV, push_cast]) fun hs0 => ?_
  generalize hT : ByteArray.mk _ = T
  have hTs : T.size = 256 := by rw [← hT]; rfl
  have hTt : ∀ y : Nat, y < 256 → (T.data[y]?.getD 0).toNat = lenB y := fun y hy => by
    have := tbl8 y hy T (by rw [← hT]; rfl)
    rw [← this, List.getD_eq_getElem?_getD, Array.getElem?_toList]
  clear hT
  have hT8 : ∀ y : Nat, y < 256 → lenB y ≤ 8 := fun y hy => lenB_le_of hy
  have h16 : ∀ n : Int, shrI .u32 n 16 = n / 65536 := fun n => shr32i n 16 65536 rfl (by omega)
  have h8 : ∀ n : Int, shrI .u32 n 8 = n / 256 := fun n => shr32i n 8 256 rfl (by omega)
  have s16 := lenB_shift 16 x
  have s8 := lenB_shift 8 x
  have s24 := lenB_shift 8 (x / 2 ^ 16)
  simp only [Nat.reducePow] at s16 s8 s24
  by_cases c1 : 65536 ≤ x
  · have c1' : (65536 : Int) ≤ (x : Int) := by omega
    by_cases c2 : 256 ≤ x / 65536
    · have c2' : (256 : Int) ≤ (x : Int) / 65536 := by omega
      have hw : IntKind.u8.wrap ((x : Int) / 65536 / 256) = (x : Int) / 65536 / 256 := by rw [u8_in _ (by omega)]
      have hn : ((x : Int) / 65536 / 256).toNat = x / 65536 / 256 := by omega
      have ht := hTt (x / 65536 / 256) (by omega)
      have hb : lenB (x / 65536 / 256) ≤ 8 := hT8 _ (by omega)
      have e : lenB x = lenB (x / 65536 / 256) + 8 + 16 := (s16 c1).trans (by rw [s24 c2])
      repeat' (first
        | with_reducible first | apply thenW_n | apply W_seq | apply W_ret
        | with_reducible refine W_rg ?_
        | (rw [vcn]; (try simp [-map_take,-map_drop, push_cast, c1', h16, h8, c2', hw, hn, ht, hTs]); try simp (disch := omega) only [i64_in, u64_in, shr64i])
        | (with_reducible refine W_condW ?_; (try simp [-map_take,-map_drop, AS.val, upd, resB, mkS_env, mkS_box, lk, entry_env, condW_true, condW_false, c1', h16, h8, c2', hw, hn, ht, hTs]))
        | refine And.intro (by first | omega | kernel_rfl) ?_
        | fail)
      simp [-map_take,-map_drop, post, resAV, resAll, resOne, closeV, closeC, closeL, resD, resDL, push_cast, c1', h16, h8, c2', hw, hn, ht, hTs]
      try rw [e]
      try simp (disch := omega) only [i64_in]
      try omega
    · have c2' : ¬ (256 : Int) ≤ (x : Int) / 65536 := by omega
      have hw : IntKind.u8.wrap ((x : Int) / 65536) = (x : Int) / 65536 := by rw [u8_in _ (by omega)]
      have hn : ((x : Int) / 65536).toNat = x / 65536 := by omega
      have ht := hTt (x / 65536) (by omega)
      have hb : lenB (x / 65536) ≤ 8 := hT8 _ (by omega)
      have e : lenB x = lenB (x / 65536) + 16 := s16 c1
      repeat' (first
        | with_reducible first | apply thenW_n | apply W_seq | apply W_skip | apply W_ret
        | with_reducible refine W_rg ?_
        | (rw [vcn]; (try simp [-map_take,-map_drop, push_cast, c1', h16, h8, c2', hw, hn, ht, hTs]); try simp (disch := omega) only [i64_in, u64_in, shr64i])
        | (with_reducible refine W_condW ?_; (try simp [-map_take,-map_drop, AS.val, upd, resB, mkS_env, mkS_box, lk, entry_env, condW_true, condW_false, c1', h16, h8, c2', hw, hn, ht, hTs]))
        | refine And.intro (by first | omega | kernel_rfl) ?_
        | fail)
      simp [-map_take,-map_drop, post, resAV, resAll, resOne, closeV, closeC, closeL, resD, resDL, push_cast, c1', h16, h8, c2', hw, hn, ht, hTs]
      try rw [e]
      try simp (disch := omega) only [i64_in]
      try omega
  · have c1' : ¬ (65536 : Int) ≤ (x : Int) := by omega
    by_cases c2 : 256 ≤ x
    · have c2' : (256 : Int) ≤ (x : Int) := by omega
      have hw : IntKind.u8.wrap ((x : Int) / 256) = (x : Int) / 256 := by rw [u8_in _ (by omega)]
      have hn : ((x : Int) / 256).toNat = x / 256 := by omega
      have ht := hTt (x / 256) (by omega)
      have hb : lenB (x / 256) ≤ 8 := hT8 _ (by omega)
      have e : lenB x = lenB (x / 256) + 8 := s8 c2
      repeat' (first
        | with_reducible first | apply thenW_n | apply W_seq | apply W_skip | apply W_ret
        | with_reducible refine W_rg ?_
        | (rw [vcn]; (try simp [-map_take,-map_drop, push_cast, c1', h16, h8, c2', hw, hn, ht, hTs]); try simp (disch := omega) only [i64_in, u64_in, shr64i])
        | (with_reducible refine W_condW ?_; (try simp [-map_take,-map_drop, AS.val, upd, resB, mkS_env, mkS_box, lk, entry_env, condW_true, condW_false, c1', h16, h8, c2', hw, hn, ht, hTs]))
        | refine And.intro (by first | omega | kernel_rfl) ?_
        | fail)
      simp [-map_take,-map_drop, post, resAV, resAll, resOne, closeV, closeC, closeL, resD, resDL, push_cast, c1', h16, h8, c2', hw, hn, ht, hTs]
      try rw [e]
      try simp (disch := omega) only [i64_in]
      try omega
    · have c2' : ¬ (256 : Int) ≤ (x : Int) := by omega
      have hw : IntKind.u8.wrap ((x : Int)) = (x : Int) := by rw [u8_in _ (by omega)]
      have hn : ((x : Int)).toNat = x := by omega
      have ht := hTt (x) (by omega)
      have hb : lenB (x) ≤ 8 := hT8 _ (by omega)
      have e : lenB x = lenB x := rfl
      repeat' (first
        | with_reducible first | apply thenW_n | apply W_seq | apply W_skip | apply W_ret
        | with_reducible refine W_rg ?_
        | (rw [vcn]; (try simp [-map_take,-map_drop, push_cast, c1', h16, h8, c2', hw, hn, ht, hTs]); try simp (disch := omega) only [i64_in, u64_in, shr64i])
        | (with_reducible refine W_condW ?_; (try simp [-map_take,-map_drop, AS.val, upd, resB, mkS_env, mkS_box, lk, entry_env, condW_true, condW_false, c1', h16, h8, c2', hw, hn, ht, hTs]))
        | refine And.intro (by first | omega | kernel_rfl) ?_
        | fail)
      simp [-map_take,-map_drop, post, resAV, resAll, resOne, closeV, closeC, closeL, resD, resDL, push_cast, c1', h16, h8, c2', hw, hn, ht, hTs]
      try rw [e]
      try simp (disch := omega) only [i64_in]
      try omega
theorem lz32_ok (x : Nat) (h : x < 4294967296) : Eval Try.prog 125 [iV .u32 x] (.ret (i64V (32 - lenB x : Nat))) := by
  refine Eval.intro Try.func125 rfl Try.call125 _ _ (Nat.le_of_ble_eq_true rfl) (by simp [-map_take,-map_drop, AV.refs, refsL, natAV, push_cast]) fun hs0 => ?_
  have hb : lenB x ≤ 32 := lenB_le_of h
  repeat' (first
    | with_reducible first | apply thenW_n | apply W_seq
    | with_reducible refine W_rg ?_
    | (rw [vcn]; (try simp [-map_take,-map_drop, push_cast]))
    | fail)
  refine CallG_of (len32_ok x h) rfl rfl rfl ?_
  try dsimp only
  repeat' (first
    | with_reducible first | apply thenW_n | apply W_ret
    | (rw [vcn]; (try simp [-map_take,-map_drop, push_cast]); try simp (disch := omega) only [i64_in, u64_in, shr64i])
    | fail)
  simp [-map_take,-map_drop, post, resAV, resAll, resOne, closeV, closeC, closeL, resD, resDL, push_cast]
  omega
def bitsN (n : Nat) : Nat := if n = 0 then 0 else 32 * ((limbs n).length - 1) + lenB (dg (limbs n) ((limbs n).length - 1))
theorem bitsN_pos {n : Nat} (h : 0 < n) : 0 < bitsN n := by
  unfold bitsN
  rw [if_neg (by omega)]
  have h1 : 0 < (limbs n).length := by
    rcases Nat.eq_zero_or_pos (limbs n).length with h0 | h0
    · have := (digits_ne_nil B32_gt).1 (List.eq_nil_of_length_eq_zero h0); omega
    · exact h0
  have ht : (limbs n)[(limbs n).length - 1]? ≠ some 0 := digits_top B32_gt n h
  have : 0 < dg (limbs n) ((limbs n).length - 1) := by
    rcases Nat.eq_zero_or_pos (dg (limbs n) ((limbs n).length - 1)) with h0 | h0
    · exfalso; apply ht; rw [List.getElem?_eq_getElem (by omega)]; rw [dg_eq (by omega)] at h0; exact congrArg some h0
    · exact h0
  have := lenB_pos this
  omega
theorem natBits_ok (n : Nat) (h : (limbs n).length ≤ 20000000) : Eval Try.prog 109 [natAV n] (.ret (i64V (bitsN n))) := by
  refine Eval.intro Try.func109 rfl Try.call109 _ _ (Nat.le_of_ble_eq_true rfl) (by simp [-map_take,-map_drop, AV.refs, refsL, natAV, push_cast]) fun hs0 => ?_
  rcases Nat.eq_zero_or_pos n with h0 | h0
  · subst h0
    have e : limbs 0 = [] := rfl
    repeat' (first
      | with_reducible first | apply thenW_n | apply thenW_ret | apply W_seq | apply W_ret
      | with_reducible refine W_rg ?_
      | (rw [vcn]; (try simp [-map_take,-map_drop, push_cast, natAV, numC, ← limbs.eq_1, e]))
      | (with_reducible refine W_condW ?_; (try simp [-map_take,-map_drop, AS.val, upd, resB, mkS_env, mkS_box, lk, entry_env, condW_true, condW_false, natAV, numC, ← limbs.eq_1, e]))
      | fail)
    simp [-map_take,-map_drop, post, resAV, resAll, resOne, closeV, closeC, closeL, resD, resDL, push_cast, bitsN]
  · have h1 : 0 < (limbs n).length := by
      rcases Nat.eq_zero_or_pos (limbs n).length with h0 | h0
      · have := (digits_ne_nil B32_gt).1 (List.eq_nil_of_length_eq_zero h0); omega
      · exact h0
    have h2 : ¬ (limbs n).length = 0 := by omega
    obtain ⟨m, hm⟩ : ∃ m, (limbs n).length = m + 1 := ⟨(limbs n).length - 1, by omega⟩
    have hx : dg (limbs n) m < 4294967296 := dg_lt (by decide) (limbs_lt n) m
    have hb : lenB (dg (limbs n) m) ≤ 32 := lenB_le_of hx
    have hm0 : ¬ (m : Int) + 1 = 0 := by omega
    have hj : (m : Int) + 1 - 1 = m := by omega
    repeat' (first
      | with_reducible first | apply thenW_n | apply W_seq | apply W_skip
      | with_reducible refine W_rg ?_
      | (rw [vcn]; (try simp [-map_take,-map_drop, push_cast, natAV, numC, ← limbs.eq_1, hm, hm0, hj]); try simp (disch := omega) only [i64_in, u64_in, shr64i])
      | (with_reducible refine W_condW ?_; (try simp [-map_take,-map_drop, AS.val, upd, resB, mkS_env, mkS_box, lk, entry_env, condW_true, condW_false, natAV, numC, ← limbs.eq_1, hm, hm0, hj]))
      | refine And.intro (by first | omega | kernel_rfl) ?_
      | ((with_reducible refine condW_b (fun hc => ?_) (fun hc => ?_) <;> (try simp [-map_take,-map_drop, Int.ofNat_inj] at hc) <;> (try contradiction)))
      | fail)
    refine CallG_of (len32_ok _ hx) rfl rfl rfl ?_
    try dsimp only
    repeat' (first
      | with_reducible first | apply thenW_n | apply W_ret
      | (rw [vcn]; (try simp [-map_take,-map_drop, push_cast]); try simp (disch := omega) only [i64_in, u64_in, shr64i])
      | fail)
    have h3 : ¬ n = 0 := by omega
    simp [-map_take,-map_drop, post, resAV, resAll, resOne, closeV, closeC, closeL, resD, resDL, push_cast, bitsN, h3, hm]
    try omega
end Go.Fw

import Derived.Test.YtmmkclefdpmjlaaN7
import Derived.Test.YtmmkclefdpmjlaaN6
import Derived.Test.YtmmkclefdpmjlaaN4
import Derived.Test.YtmmkclefdpmjlaaNb
set_option linter.unusedSimpArgs false
set_option linter.unusedVariables false
namespace Go.Fw
open Go Go.Proofs Go.IntWalk
theorem shl64 (x k : Nat) (hk : k < 32) (hx : x < 4294967296) : shlI .u64 (x : Int) (k : Int) = ((x * 2 ^ k : Nat) : Int) := by
  unfold shlI
  have h1 : x * 2 ^ k < 4294967296 * 4294967296 := Nat.lt_of_lt_of_le (Nat.mul_lt_mul_of_pos_right hx (Nat.two_pow_pos k)) (Nat.mul_le_mul_left _ (show 2 ^ k ≤ 2 ^ 32 from Nat.pow_le_pow_right (by decide) (by omega)))
  rw [show min (k : Int).toNat IntKind.u64.bits = k from by simp [IntKind.bits]; omega, show (x : Int) * 2 ^ k = ((x * 2 ^ k : Nat) : Int) from by simp, u64_in _ (by omega)]
theorem or_low {k c x : Nat} (hk : k < 32) (hc : c < 2 ^ k) (hx : x < 4294967296) : bOr .u64 (c : Int) ((x * 2 ^ k : Nat) : Int) = ((c + x * 2 ^ k : Nat) : Int) := by
  have h1 : x * 2 ^ k < 4294967296 * 4294967296 := Nat.lt_of_lt_of_le (Nat.mul_lt_mul_of_pos_right hx (Nat.two_pow_pos k)) (Nat.mul_le_mul_left _ (show 2 ^ k ≤ 2 ^ 32 from Nat.pow_le_pow_right (by decide) (by omega)))
  have h0 : 2 ^ k ≤ 2 ^ 32 := Nat.pow_le_pow_right (by decide) (by omega)
  have h2' : c ||| x * 2 ^ k = c + x * 2 ^ k := by
    have := Nat.two_pow_add_eq_or_of_lt (i := k) hc x
    rw [Nat.mul_comm x, Nat.or_comm, ← this]; omega
  have h3 : c + x * 2 ^ k < 18446744073709551616 := by
    have : (x + 1) * 2 ^ k ≤ 4294967296 * 2 ^ 32 := Nat.mul_le_mul hx h0
    rw [Nat.add_mul] at this
    omega
  have h2 : (BitVec.ofInt IntKind.u64.bits (c : Int) ||| BitVec.ofInt IntKind.u64.bits ((x * 2 ^ k : Nat) : Int)).toNat = c + x * 2 ^ k := by
    rw [BitVec.toNat_or, BitVec.ofInt_natCast, BitVec.ofInt_natCast, BitVec.toNat_ofNat, BitVec.toNat_ofNat]
    rw [Nat.mod_eq_of_lt (by simp only [IntKind.bits]; omega), Nat.mod_eq_of_lt (by simp only [IntKind.bits]; omega), h2']
  unfold bOr
  rw [h2, u64_in _ (by omega)]
theorem up_step {B K i c x vl vo : Nat} (hI : vo + B ^ i * c = vl * K) : vo + B ^ i * ((c + x * K) % B) + B ^ (i + 1) * ((c + x * K) / B) = (vl + B ^ i * x) * K := by
  have h1 : B ^ i * ((c + x * K) % B) + B ^ (i + 1) * ((c + x * K) / B) = B ^ i * (c + x * K) := by rw [Nat.pow_succ, Nat.mul_assoc, ← Nat.mul_add, Nat.mod_add_div]
  rw [Nat.add_assoc, h1, Nat.mul_add, Nat.add_mul, ← hI, Nat.mul_assoc]
  omega
set_option linter.unusedSimpArgs false
set_option maxRecDepth 100000
set_option maxHeartbeats 4000000
open List (map_take map_drop)
attribute [local push_cast] optK_some optK_none optK_ite optK_map optK_bind gOn stepK isMem evPure evMem evBin evUn evConv evLen evBuiltin evMinMax evSlice evBuild evAppend evIndex evIndexAddr evField evFieldAddr intBin strBin appDest AS.val AS.mem AS.elems AS.put AS.put' AS.eff AV.cells? AV.isCell AV.refs all_isByte take_byteV drop_byteV strOf_map bndOk bnd partAV ptrAdd killBox catA inOrder fillA setAt ofVal resB upd byteV List.head?_take List.head?_drop List.getElem?_map mkS_env mkS_box mkS_used entry_env entry_box entry_used lk stepD lookIds Oper.looksAt Op.operands Call.operands St.ids refsL renL_append ren renL renBox Box.refs iV i64V boolV dV_getElem dV_app dV_cons toNat_add2 toNat_add1
attribute [local simp ↓] numC_refs numC_isCell numC_cells numC_resB numC_resD numC_ren numC_closeC numC_isOwn
theorem natUp_ok (a k : Nat) (hk : k < 32) (h : (limbs a).length ≤ 20000000) : Eval Try.prog 126 [natAV a, i64V k] (.ret (.tup [natAV (a * 2 ^ k), i64V 0])) := by
  refine Eval.intro Try.func126 rfl Try.call126 _ _ (Nat.le_of_ble_eq_true rfl) (by simp [-map_take,-map_drop, AV.refs, refsL, natAV, push_cast]) fun hs0 => ?_
  have k1 : ¬ (k : Int) < 0 := by omega
  have k2 : ¬ 65536 < (k : Int) := by omega
  have k3 : (k : Int).tdiv 32 = 0 := by rw [show (32 : Int) = ((32 : Nat) : Int) from rfl, ← Int.ofNat_tdiv]; omega
  have k4 : (k : Int).tmod 32 = (k : Int) := by rw [show (32 : Int) = ((32 : Nat) : Int) from rfl, ← Int.ofNat_tmod]; omega
  have k5 : IntKind.i64.wrap 0 = 0 := by decide
  have hK : 2 ^ k ≤ 2147483648 := Nat.pow_le_pow_right (n := 2) (by decide) (show k ≤ 31 by omega)
  obtain ⟨la, hla⟩ : ∃ la, la = (limbs a).length := ⟨_, rfl⟩
  rw [← hla] at h
  repeat' (first
    | with_reducible first | apply thenW_n | apply W_seq | apply W_block | apply W_skip
    | with_reducible refine W_rg ?_
    | (rw [vcn]; (try simp [-map_take,-map_drop, push_cast, natAV, numC, ← limbs.eq_1, ← hla, k1, k2, k3, k5]); try simp (disch := omega) only [i64_in, u64_in, shr64i])
    | (with_reducible refine W_condW ?_; (try simp [-map_take,-map_drop, AS.val, upd, resB, mkS_env, mkS_box, lk, entry_env, condW_true, condW_false, natAV, numC, ← limbs.eq_1, ← hla, k1, k2, k3, k5]))
    | refine And.intro (by first | omega | kernel_rfl) ?_
    | fail)
  refine W_loopW (X := Nat × Nat × List Nat) (fun x => [(1, i64V k), (4, .bp 4 0), (6, .bs 500 1 0 x.2.2.length), (7, iV .u64 x.2.1), (28, natC a), (29, i64V la), (30, i64V x.1)])
    (fun x => [(4, .mut 27 [.v (.slice none 0 0)]), (500, .mut 148 (dV .u32 x.2.2))])
    (fun x => la - x.1) (fun x => x.1 ≤ la ∧ x.2.2.length = x.1 ∧ (∀ d ∈ x.2.2, d < B32) ∧ x.2.1 < 2 ^ k ∧ val B32 x.2.2 + B32 ^ x.1 * x.2.1 = val B32 ((limbs a).take x.1) * 2 ^ k)
    (0, 0, []) (fun i => if i = 500 then 26 else i) ⟨by simp [-map_take,-map_drop], rfl, by simp [-map_take,-map_drop], Nat.two_pow_pos k, by simp [-map_take,-map_drop, val]⟩ ⟨?_, ?_, ?_, ?_, ?_, ?_⟩ fun x hx => ?_
  all_goals first | (with_reducible refine W_id ?_) | (simp [-map_take,-map_drop, push_cast, dV_take, dV_drop, numC, ← limbs.eq_1, ← hla]; done) | (simp [-map_take,-map_drop, push_cast, dV_take, dV_drop, numC, ← limbs.eq_1, ← hla]; omega)
  obtain ⟨i, c, o⟩ := x
  obtain ⟨hi, hl, ho, hc1, hI⟩ := hx
  simp only at hi hl ho hc1 hI
  obtain ⟨x, hxd⟩ : ∃ x, x = dg (limbs a) i := ⟨_, rfl⟩
  have hx32 : x < 4294967296 := by rw [hxd]; exact dg_lt (by decide) (limbs_lt a) i
  have hsh := shl64 x k hk hx32
  have hor := or_low hk hc1 hx32
  have hst := up_step (B := B32) (x := x) hI
  obtain ⟨t, ht⟩ : ∃ t, t = c + x * 2 ^ k := ⟨_, rfl⟩
  rw [← ht] at hor
  have htb : t < 2 ^ k * 4294967296 := by
    have : (x + 1) * 2 ^ k ≤ 4294967296 * 2 ^ k := Nat.mul_le_mul_right _ hx32
    rw [Nat.add_mul] at this
    rw [Nat.mul_comm (2 ^ k)]
    omega
  have htb2 : t < 9223372036854775808 := by have := Nat.mul_le_mul_right 4294967296 hK; omega
  have hc2 : t / 4294967296 < 2 ^ k := by rw [Nat.div_lt_iff_lt_mul (by decide)]; exact htb
  have hpp : ((x : Int) * 2 ^ k) = ((x * 2 ^ k : Nat) : Int) := by simp [-map_take,-map_drop]
  rw [← hpp] at hsh hor
  repeat' (first
    | with_reducible first | apply thenW_n | apply thenW_exit | apply blockW_n | apply blockW_same | apply loopW_exit | apply W_seq | apply W_block | apply W_skip | apply W_exit
    | with_reducible refine W_rg ?_
    | (rw [vcn]; (try simp [-map_take,-map_drop, push_cast, numC, ← limbs.eq_1, ← hla, ← hxd, k4, k1, hsh, hor, IntKind.wrap_u32]); try simp (disch := omega) only [i64_in, u64_in, shr64i])
    | (with_reducible refine W_condW ?_; (try simp [-map_take,-map_drop, AS.val, upd, resB, mkS_env, mkS_box, lk, entry_env, condW_true, condW_false, numC, ← limbs.eq_1, ← hla, ← hxd, k4, k1, hsh, hor, IntKind.wrap_u32]))
    | (with_reducible refine optK_dV (by first | omega | (simp [-map_take,-map_drop]; omega)) ?_)
    | refine And.intro (by first | omega | kernel_rfl) ?_
    | ((with_reducible refine condW_b (fun hc => ?_) (fun hc => ?_) <;> (try simp [-map_take,-map_drop, Int.ofNat_inj] at hc) <;> (try contradiction)))
    | fail)
  · refine loopW_n (i + 1, t / 4294967296, o ++ [t % 4294967296]) (fun i => if i = 500 then 45 else i) (by simp [-map_take,-map_drop]; omega) ⟨by simp [-map_take,-map_drop]; omega, by simp [-map_take,-map_drop, hl], mem_append_lt ho (Nat.mod_lt _ (by decide)), hc2, ?_⟩ ⟨?_, ?_, ?_, ?_, ?_, ?_⟩
    · simp only
      rw [val_append, hl, val_take_succ, ← hxd, ht]
      simp only [val, Nat.mul_zero, Nat.add_zero]
      exact up_step hI
    all_goals first | (simp [-map_take,-map_drop, push_cast, dV_take, dV_drop, numC, ← limbs.eq_1, ← hla, B32, hl]; done) | (simp [-map_take,-map_drop, push_cast, dV_take, dV_drop, numC, ← limbs.eq_1, ← hla, B32, hl]; omega)
  · have e := cut_ok false (o ++ [c % B32]) (mem_append_lt ho (Nat.mod_lt _ (by decide))) (o.length + 1) (by simp [-map_take,-map_drop])
    have ev : val B32 (o ++ [c % B32]) = a * 2 ^ k := by
      rw [val_append, hl, Nat.mod_eq_of_lt (by show c < 4294967296; omega)]
      simp only [val, Nat.mul_zero, Nat.add_zero]
      rw [hI, List.take_of_length_le (by omega), val_limbs]
    rw [ev] at e
    refine CallG_frz _ _ rfl ?_ (e) ?_ (by simp [-map_take,-map_drop, AV.refs, refsL, push_cast]) rfl ?_
    · first | (simp [-map_take,-map_drop, refsL, AV.refs, frzS, resDL, resD, resB, upd, mkS_env, mkS_box, entry_env, entry_box, lk, push_cast]; done) | (simp [-map_take,-map_drop, refsL, AV.refs, frzS, resDL, resD, resB, upd, mkS_env, mkS_box, entry_env, entry_box, lk, push_cast]; rw [List.take_of_length_le (by simp [-map_take,-map_drop])]; done) | (simp [-map_take,-map_drop, refsL, AV.refs, frzS, resDL, resD, resB, upd, mkS_env, mkS_box, entry_env, entry_box, lk, push_cast]; fail_if_success done)
    · simp [-map_take,-map_drop, refsL, AV.refs, frzOk, upd, mkS_env, mkS_box, entry_env, entry_box, lk, push_cast]
    try dsimp only
    try simp only [refsL, AV.refs, frzS, List.append_nil, upd, mkS_box, entry_box, lk, if_true, if_false]
    repeat' (first
      | with_reducible first | apply thenW_n | apply W_ret
      | (rw [vcn]; (try simp [-map_take,-map_drop, push_cast, natAV, numC, ← limbs.eq_1]))
      | fail)
    simp [-map_take,-map_drop, post, resAV, resAll, resOne, closeV, closeC, closeL, resD, resDL, push_cast, natAV, numC, ← limbs.eq_1]
theorem clone32_ok (f : Bool) (l : List Nat) (n : Nat) (hn : l.length = n) (h0 : 0 < n) (hs : n ≤ 20000000) : Eval Try.prog 127 [.slc f 1 n (dV .u32 l)] (.ret (.own 148 1 n (dV .u32 l))) := by
  refine Eval.intro Try.func127 rfl Try.call127 _ _ (Nat.le_of_ble_eq_true rfl) (by simp [-map_take,-map_drop, AV.refs, refsL, natAV, push_cast]) fun hs0 => ?_
  repeat' (first
    | with_reducible first | apply thenW_n | apply W_seq | apply W_skip | apply W_ret
    | with_reducible refine W_rg ?_
    | (rw [vcn]; (try simp [-map_take,-map_drop, push_cast, h0]))
    | (with_reducible refine W_condW ?_; (try simp [-map_take,-map_drop, AS.val, upd, resB, mkS_env, mkS_box, lk, entry_env, condW_true, condW_false, h0]))
    | refine And.intro (by first | omega | kernel_rfl) ?_
    | fail)
  simp [-map_take,-map_drop, post, resAV, resAll, resOne, closeV, closeC, closeL, resD, resDL, push_cast, hn]
end Go.Fw
namespace Go.Fw
open Go Go.Proofs Go.IntWalk
theorem down_digit {k x y N : Nat} (hk : k < 32) : ((x + 4294967296 * y) / 2 ^ k) % 4294967296 = ((x + 4294967296 * (y + 4294967296 * N)) / 2 ^ k) % 4294967296 := by
  have e : x + 4294967296 * (y + 4294967296 * N) = (x + 4294967296 * y) + 2 ^ k * (4294967296 * (N * 2 ^ (32 - k))) := by
    have : 4294967296 = 2 ^ k * 2 ^ (32 - k) := by rw [← Nat.pow_add, show k + (32 - k) = 32 from by omega]
    have h2 : 4294967296 * (4294967296 * N) = 2 ^ k * (4294967296 * (N * 2 ^ (32 - k))) := by
      have : 4294967296 * (4294967296 * N) = 4294967296 * ((2 ^ k * 2 ^ (32 - k)) * N) := by rw [← this]
      rw [this]
      simp only [Nat.mul_left_comm, Nat.mul_comm, Nat.mul_assoc]
    rw [Nat.mul_add]
    omega
  rw [e, Nat.add_mul_div_left _ _ (Nat.two_pow_pos k), Nat.add_mul_mod_self_left]
theorem down_step {k x N : Nat} (hx : x < 4294967296) : (x + 4294967296 * N) / 2 ^ k = ((x + 4294967296 * N) / 2 ^ k) % 4294967296 + 4294967296 * (N / 2 ^ k) := by
  have h1 := Nat.mod_add_div ((x + 4294967296 * N) / 2 ^ k) 4294967296
  have h2 : (x + 4294967296 * N) / 2 ^ k / 4294967296 = N / 2 ^ k := by
    rw [Nat.div_div_eq_div_mul, Nat.mul_comm (2 ^ k), ← Nat.div_div_eq_div_mul, Nat.add_mul_div_left _ _ (by decide), Nat.div_eq_of_lt hx, Nat.zero_add]
  rw [h2] at h1
  exact h1.symm
theorem or_shl' (r x : Nat) (hr : r < 4294967296) (hx : x < 4294967296) : bOr .u64 (x : Int) (shlI .u64 (r : Int) 32) = ((x + 4294967296 * r : Nat) : Int) := by
  have h := or_shl r x hr hx
  unfold bOr at h ⊢
  rw [BitVec.or_comm, h]
  congr 1; omega
theorem shr64k (n k : Nat) (hk : k < 32) : shrI .u64 (n : Int) (k : Int) = ((n / 2 ^ k : Nat) : Int) := by
  unfold shrI
  rw [show min (k : Int).toNat IntKind.u64.bits = k from by simp [IntKind.bits]; omega, Int.fdiv_eq_ediv_of_nonneg _ (Int.le_of_lt (Int.pow_pos (by decide)))]
  simp
set_option linter.unusedSimpArgs false
set_option maxRecDepth 100000
set_option maxHeartbeats 4000000
open List (map_take map_drop)
attribute [local push_cast] optK_some optK_none optK_ite optK_map optK_bind gOn stepK isMem evPure evMem evBin evUn evConv evLen evBuiltin evMinMax evSlice evBuild evAppend evIndex evIndexAddr evField evFieldAddr intBin strBin appDest AS.val AS.mem AS.elems AS.put AS.put' AS.eff AV.cells? AV.isCell AV.refs all_isByte take_byteV drop_byteV strOf_map bndOk bnd partAV ptrAdd killBox catA inOrder fillA setAt ofVal resB upd byteV List.head?_take List.head?_drop List.getElem?_map mkS_env mkS_box mkS_used entry_env entry_box entry_used lk stepD lookIds Oper.looksAt Op.operands Call.operands St.ids refsL renL_append ren renL renBox Box.refs iV i64V boolV dV_getElem dV_app dV_cons toNat_add2 toNat_add1
attribute [local simp ↓] numC_refs numC_isCell numC_cells numC_resB numC_resD numC_ren numC_closeC numC_isOwn
theorem natDown_zero (k : Nat) (hk : k < 32) : Eval Try.prog 128 [natAV 0, i64V k] (.ret (.tup [natAV 0, i64V 0])) := by
  refine Eval.outT (l := [.agg [.v (.slice none 0 0)], i64V 0]) ?_ ⟨Sub.agg ⟨numC_sub true .u32 B32, trivial⟩, Sub.refl _, trivial⟩ (by simp [-map_take,-map_drop, AV.isOwn, i64V]) (by simp [-map_take,-map_drop, AV.isOwn, natAV, i64V])
  refine Eval.intro Try.func128 rfl Try.call128 _ _ (Nat.le_of_ble_eq_true rfl) (by simp [-map_take,-map_drop, AV.refs, refsL, natAV, push_cast]) fun hs0 => ?_
  have k1 : ¬ (k : Int) < 0 := by omega
  have k2 : ¬ 65536 < (k : Int) := by omega
  have k3 : (k : Int).tdiv 32 = 0 := by rw [show (32 : Int) = ((32 : Nat) : Int) from rfl, ← Int.ofNat_tdiv]; omega
  have k5 : IntKind.i64.wrap 0 = 0 := by decide
  have e : limbs 0 = [] := rfl
  repeat' (first
    | with_reducible first | apply thenW_n | apply thenW_ret | apply W_seq | apply W_skip | apply W_ret
    | with_reducible refine W_rg ?_
    | (rw [vcn]; (try simp [-map_take,-map_drop, push_cast, natAV, numC, ← limbs.eq_1, e, k1, k2, k3, k5]))
    | (with_reducible refine W_condW ?_; (try simp [-map_take,-map_drop, AS.val, upd, resB, mkS_env, mkS_box, lk, entry_env, condW_true, condW_false, natAV, numC, ← limbs.eq_1, e, k1, k2, k3, k5]))
    | fail)
  simp [-map_take,-map_drop, post, resAV, resAll, resOne, closeV, closeC, closeL, resD, resDL, push_cast]
theorem natDown_ok (a k : Nat) (hk : k < 32) (h : (limbs a).length ≤ 20000000) : Eval Try.prog 128 [natAV a, i64V k] (.ret (.tup [natAV (a / 2 ^ k), i64V 0])) := by
  rcases Nat.eq_zero_or_pos a with ha | ha
  · subst ha; rw [Nat.zero_div]; exact natDown_zero k hk
  refine Eval.intro Try.func128 rfl Try.call128 _ _ (Nat.le_of_ble_eq_true rfl) (by simp [-map_take,-map_drop, AV.refs, refsL, natAV, push_cast]) fun hs0 => ?_
  have k1 : ¬ (k : Int) < 0 := by omega
  have k2 : ¬ 65536 < (k : Int) := by omega
  have k3 : (k : Int).tdiv 32 = 0 := by rw [show (32 : Int) = ((32 : Nat) : Int) from rfl, ← Int.ofNat_tdiv]; omega
  have k4 : (k : Int).tmod 32 = (k : Int) := by rw [show (32 : Int) = ((32 : Nat) : Int) from rfl, ← Int.ofNat_tmod]; omega
  have k5 : IntKind.i64.wrap 0 = 0 := by decide
  obtain ⟨la, hla⟩ : ∃ la, la = (limbs a).length := ⟨_, rfl⟩
  rw [← hla] at h
  have hla0 : 0 < la := by
    rcases Nat.eq_zero_or_pos la with h0 | h0
    · have := (digits_ne_nil B32_gt).1 (List.eq_nil_of_length_eq_zero (hla.symm.trans h0)); omega
    · exact h0
  have hla1 : ¬ la = 0 := by omega
  have htk : List.take la (dV .u32 (limbs a)) = dV .u32 (limbs a) := List.take_of_length_le (by simp [-map_take,-map_drop, hla])
  repeat' (first
    | with_reducible first | apply thenW_n | apply W_seq | apply W_block | apply W_skip
    | with_reducible refine W_rg ?_
    | (rw [vcn]; (try simp [-map_take,-map_drop, push_cast, natAV, numC, ← limbs.eq_1, ← hla, k1, k2, k3, k5, hla0, hla1, htk]))
    | (with_reducible refine W_condW ?_; (try simp [-map_take,-map_drop, AS.val, upd, resB, mkS_env, mkS_box, lk, entry_env, condW_true, condW_false, natAV, numC, ← limbs.eq_1, ← hla, k1, k2, k3, k5, hla0, hla1, htk]))
    | refine And.intro (by first | omega | kernel_rfl) ?_
    | fail)
  refine W_loopW (X := Nat × List Nat) (fun x => [(1, i64V k), (4, .bp 4 0), (6, .slc false 1 la (dV .u32 (limbs a))), (7, .bs 500 1 0 x.2.length), (33, .slc false 1 la (dV .u32 (limbs a))), (34, i64V la), (35, i64V x.1)])
    (fun x => [(4, .mut 27 [.v (.slice none 0 0)]), (500, .mut 148 (dV .u32 x.2))])
    (fun x => la - x.1) (fun x => x.1 ≤ la ∧ x.2.length = x.1 ∧ (∀ d ∈ x.2, d < B32) ∧ val B32 x.2 + B32 ^ x.1 * (val B32 ((limbs a).drop x.1) / 2 ^ k) = a / 2 ^ k)
    (0, []) (fun i => if i = 500 then 32 else i) ⟨by simp [-map_take,-map_drop], rfl, by simp [-map_take,-map_drop], by simp [-map_take,-map_drop, val, val_limbs]⟩ ⟨?_, ?_, ?_, ?_, ?_, ?_⟩ fun x hx => ?_
  all_goals first | (with_reducible refine W_id ?_) | (simp [-map_take,-map_drop, push_cast, dV_take, dV_drop, numC, ← limbs.eq_1, ← hla]; done) | (simp [-map_take,-map_drop, push_cast, dV_take, dV_drop, numC, ← limbs.eq_1, ← hla]; omega)
  obtain ⟨i, o⟩ := x
  obtain ⟨hi, hl, ho, hI⟩ := hx
  simp only at hi hl ho hI
  obtain ⟨x, hxd⟩ : ∃ x, x = dg (limbs a) i := ⟨_, rfl⟩
  have hx32 : x < 4294967296 := by rw [hxd]; exact dg_lt (by decide) (limbs_lt a) i
  obtain ⟨y, hyd⟩ : ∃ y, y = dg (limbs a) (i + 1) := ⟨_, rfl⟩
  have hy32 : y < 4294967296 := by rw [hyd]; exact dg_lt (by decide) (limbs_lt a) (i + 1)
  have hor := or_shl' y x hy32 hx32
  obtain ⟨t, ht⟩ : ∃ t, t = x + 4294967296 * y := ⟨_, rfl⟩
  rw [← ht] at hor
  have hsh := shr64k t k hk
  have hsx := shr64k x k hk
  have hstep : val B32 (o ++ [t / 2 ^ k % 4294967296]) + B32 ^ (i + 1) * (val B32 ((limbs a).drop (i + 1)) / 2 ^ k) = a / 2 ^ k := by
    rw [← hI, val_drop B32 (limbs a) i, ← hxd]
    have e1 : val B32 ((limbs a).drop (i + 1)) = y + 4294967296 * val B32 ((limbs a).drop (i + 1 + 1)) := by rw [val_drop B32 (limbs a) (i + 1), ← hyd]
    have e2 := down_digit (k := k) (x := x) (y := y) (N := val B32 ((limbs a).drop (i + 1 + 1))) hk
    have e3 := down_step (k := k) (x := x) (N := val B32 ((limbs a).drop (i + 1))) hx32
    rw [← e1] at e2
    rw [ht, e2, val_append, hl]
    simp only [val, Nat.mul_zero, Nat.add_zero]
    show _ = _ + B32 ^ i * ((x + 4294967296 * val B32 ((limbs a).drop (i + 1))) / 2 ^ k)
    rw [e3, Nat.mul_add, Nat.pow_succ, Nat.mul_assoc (B32 ^ i) B32, Nat.add_assoc]
    congr 3
    rw [← e3]
  repeat' (first
    | with_reducible first | apply thenW_n | apply thenW_exit | apply blockW_n | apply blockW_same | apply loopW_exit | apply W_seq | apply W_block | apply W_skip | apply W_exit
    | with_reducible refine W_rg ?_
    | (rw [vcn]; (try simp [-map_take,-map_drop, push_cast, numC, ← limbs.eq_1, ← hla, ← hxd, ← hyd, k4, k1, hsh, hsx, hor, IntKind.wrap_u32]); try simp (disch := omega) only [i64_in, u64_in, shr64i])
    | (with_reducible refine W_condW ?_; (try simp [-map_take,-map_drop, AS.val, upd, resB, mkS_env, mkS_box, lk, entry_env, condW_true, condW_false, numC, ← limbs.eq_1, ← hla, ← hxd, ← hyd, k4, k1, hsh, hsx, hor, IntKind.wrap_u32]))
    | (with_reducible refine optK_dV (by first | omega | (simp [-map_take,-map_drop]; omega)) ?_)
    | refine And.intro (by first | omega | kernel_rfl) ?_
    | ((with_reducible refine condW_b (fun hc => ?_) (fun hc => ?_) <;> (try simp [-map_take,-map_drop, Int.ofNat_inj] at hc) <;> (try contradiction)))
    | fail)
  · refine loopW_n (i + 1, o ++ [t / 2 ^ k % 4294967296]) (fun i => if i = 500 then 63 else i) (by simp [-map_take,-map_drop]; omega) ⟨by simp [-map_take,-map_drop]; omega, by simp [-map_take,-map_drop, hl], mem_append_lt ho (Nat.mod_lt _ (by decide)), hstep⟩ ⟨?_, ?_, ?_, ?_, ?_, ?_⟩
    all_goals first | (simp [-map_take,-map_drop, push_cast, dV_take, dV_drop, numC, ← limbs.eq_1, ← hla, B32, hl]; done) | (simp [-map_take,-map_drop, push_cast, dV_take, dV_drop, numC, ← limbs.eq_1, ← hla, B32, hl]; omega)
  · have hy0 : y = 0 := by rw [hyd]; exact dg_ge (by omega)
    have htx : t = x := by rw [ht, hy0]; omega
    rw [htx] at hstep
    refine loopW_n (i + 1, o ++ [x / 2 ^ k % 4294967296]) (fun i => if i = 500 then 63 else i) (by simp [-map_take,-map_drop]; omega) ⟨by simp [-map_take,-map_drop]; omega, by simp [-map_take,-map_drop, hl], mem_append_lt ho (Nat.mod_lt _ (by decide)), hstep⟩ ⟨?_, ?_, ?_, ?_, ?_, ?_⟩
    all_goals first | (simp [-map_take,-map_drop, push_cast, dV_take, dV_drop, numC, ← limbs.eq_1, ← hla, B32, hl]; done) | (simp [-map_take,-map_drop, push_cast, dV_take, dV_drop, numC, ← limbs.eq_1, ← hla, B32, hl]; omega)
  · have e := cut_ok false o ho o.length rfl
    have ev : val B32 o = a / 2 ^ k := by
      rw [← hI, List.drop_of_length_le (by omega)]
      simp [-map_take,-map_drop, val]
    rw [ev] at e
    refine CallG_frz _ _ rfl ?_ (e) ?_ (by simp [-map_take,-map_drop, AV.refs, refsL, push_cast]) rfl ?_
    · first | (simp [-map_take,-map_drop, refsL, AV.refs, frzS, resDL, resD, resB, upd, mkS_env, mkS_box, entry_env, entry_box, lk, push_cast]; done) | (simp [-map_take,-map_drop, refsL, AV.refs, frzS, resDL, resD, resB, upd, mkS_env, mkS_box, entry_env, entry_box, lk, push_cast]; rw [List.take_of_length_le (by simp [-map_take,-map_drop])]; done) | (simp [-map_take,-map_drop, refsL, AV.refs, frzS, resDL, resD, resB, upd, mkS_env, mkS_box, entry_env, entry_box, lk, push_cast]; fail_if_success done)
    · simp [-map_take,-map_drop, refsL, AV.refs, frzOk, upd, mkS_env, mkS_box, entry_env, entry_box, lk, push_cast]
    try dsimp only
    try simp only [refsL, AV.refs, frzS, List.append_nil, upd, mkS_box, entry_box, lk, if_true, if_false]
    repeat' (first
      | with_reducible first | apply thenW_n | apply W_ret
      | (rw [vcn]; (try simp [-map_take,-map_drop, push_cast, natAV, numC, ← limbs.eq_1]))
      | fail)
    simp [-map_take,-map_drop, post, resAV, resAll, resOne, closeV, closeC, closeL, resD, resDL, push_cast, natAV, numC, ← limbs.eq_1]
end Go.Fw
namespace Go.Fw
open Go Go.Proofs Go.IntWalk
theorem limbs_pos {n : Nat} (h : 0 < n) : 0 < (limbs n).length := by
  rcases Nat.eq_zero_or_pos (limbs n).length with h0 | h0
  · have := (digits_ne_nil B32_gt).1 (List.eq_nil_of_length_eq_zero h0); omega
  · exact h0
theorem limbs_le {a b : Nat} (h : b ≤ a) : (limbs b).length ≤ (limbs a).length := by
  rcases Nat.lt_or_ge (limbs a).length (limbs b).length with h1 | h1
  · have := digits_length_mono B32_gt h1; omega
  · exact h1
set_option linter.unusedSimpArgs false
set_option maxRecDepth 100000
set_option maxHeartbeats 4000000
open List (map_take map_drop)
attribute [local push_cast] optK_some optK_none optK_ite optK_map optK_bind gOn stepK isMem evPure evMem evBin evUn evConv evLen evBuiltin evMinMax evSlice evBuild evAppend evIndex evIndexAddr evField evFieldAddr intBin strBin appDest AS.val AS.mem AS.elems AS.put AS.put' AS.eff AV.cells? AV.isCell AV.refs all_isByte take_byteV drop_byteV strOf_map bndOk bnd partAV ptrAdd killBox catA inOrder fillA setAt ofVal resB upd byteV List.head?_take List.head?_drop List.getElem?_map mkS_env mkS_box mkS_used entry_env entry_box entry_used lk stepD lookIds Oper.looksAt Op.operands Call.operands St.ids refsL renL_append ren renL renBox Box.refs iV i64V boolV dV_getElem dV_app dV_cons toNat_add2 toNat_add1
attribute [local simp ↓] numC_refs numC_isCell numC_cells numC_resB numC_resD numC_ren numC_closeC numC_isOwn
theorem natDiv_lt (a b : Nat) (h : a < b) : Eval Try.prog 116 [natAV a, natAV b] (.ret (.tup [natAV 0, natAV a, i64V 0])) := by
  refine Eval.outT (l := [.agg [.v (.slice none 0 0)], natAV a, i64V 0]) ?_ ⟨Sub.agg ⟨numC_sub true .u32 B32, trivial⟩, Sub.refl _, Sub.refl _, trivial⟩ (by simp [-map_take,-map_drop, AV.isOwn, natAV, i64V]) (by simp [-map_take,-map_drop, AV.isOwn, natAV, i64V])
  refine Eval.intro Try.func116 rfl Try.call116 _ _ (Nat.le_of_ble_eq_true rfl) (by simp [-map_take,-map_drop, AV.refs, refsL, natAV, push_cast]) fun hs0 => ?_
  have hb : 0 < (limbs b).length := limbs_pos (by omega)
  have hb0 : ¬ (limbs b).length = 0 := by omega
  have hcm := cmpN_lt h
  have hbn : ¬ limbs b = [] := fun e => hb0 (by rw [e]; rfl)
  repeat' (first
    | with_reducible first | apply thenW_n | apply W_seq | apply W_block
    | with_reducible refine W_rg ?_
    | (rw [vcn]; (try simp [-map_take,-map_drop, push_cast, natAV, numC, ← limbs.eq_1, hb0, hbn]))
    | (with_reducible refine W_condW ?_; (try simp [-map_take,-map_drop, AS.val, upd, resB, mkS_env, mkS_box, lk, entry_env, condW_true, condW_false, natAV, numC, ← limbs.eq_1, hb0, hbn]))
    | ((with_reducible refine condW_b (fun hc => ?_) (fun hc => ?_) <;> (try simp [-map_take,-map_drop, Int.ofNat_inj] at hc) <;> (try contradiction)))
    | fail)
  refine CallG_of (natCmp_ok a b) rfl rfl rfl ?_
  try dsimp only
  repeat' (first
    | with_reducible first | apply thenW_n | apply thenW_ret | apply blockW_ret | apply W_seq | apply W_ret
    | (rw [vcn]; (try simp [-map_take,-map_drop, push_cast, natAV, numC, ← limbs.eq_1, hcm]))
    | with_reducible refine W_drawn mixed (by decide) (by kernel_rfl) ?_
    | (rw [vcnD]; (try simp [-map_take,-map_drop, push_cast, natAV, numC, ← limbs.eq_1, hcm]))
    | (with_reducible refine W_condW ?_; (try simp [-map_take,-map_drop, AS.val, upd, resB, mkS_env, mkS_box, lk, entry_env, condW_true, condW_false, natAV, numC, ← limbs.eq_1, hcm]))
    | refine And.intro (by first | omega | kernel_rfl) ?_
    | fail)
  simp [-map_take,-map_drop, post, resAV, resAll, resOne, closeV, closeC, closeL, resD, resDL, push_cast, natAV, numC, ← limbs.eq_1]
theorem natDiv_one (a b : Nat) (h : b ≤ a) (hb : (limbs b).length = 1) (hs : (limbs a).length ≤ 20000000) : Eval Try.prog 116 [natAV a, natAV b] (.ret (.tup [natAV (a / b), natAV (a % b), i64V 0])) := by
  refine Eval.intro Try.func116 rfl Try.call116 _ _ (Nat.le_of_ble_eq_true rfl) (by simp [-map_take,-map_drop, AV.refs, refsL, natAV, push_cast]) fun hs0 => ?_
  have hcm : ¬ cmpN a b < 0 := by rw [cmpN_neg]; omega
  have hd : dg (limbs b) 0 = b := by
    have := val_limbs b
    rw [val_split B32 (limbs b) 1 (by omega), val_take_succ] at this
    rw [List.drop_of_length_le (by omega)] at this
    simpa [-map_take,-map_drop, val] using this
  have hb1 : 0 < b := by
    rcases Nat.eq_zero_or_pos b with h0 | h0
    · subst h0; simp [-map_take,-map_drop, limbs, digits_zero] at hb
    · exact h0
  have hb2 : b < 4294967296 := by rw [← hd]; exact dg_lt (by decide) (limbs_lt b) 0
  have eb := natBy_ok true (limbs a) (limbs_lt a) (limbs a).length rfl hs b hb1 hb2
  obtain ⟨eq1, eq2⟩ := byL_quo hb1 (limbs a)
  rw [val_limbs] at eq1 eq2
  have ec := natCmp_ok a b
  simp only [natAV, numC, ← limbs.eq_1, hb] at ec
  have ebf := (natBy_ok true (limbs a) (limbs_lt a) (limbs a).length rfl hs b hb1 hb2).frz2 rfl
  have ecut := cut_ok false (byL b (limbs a)).1 (byL_digits hb1 _ (limbs_lt a)) (limbs a).length (byL_length _ _)
  rw [eq1] at ecut
  rw [eq2] at ebf
  have hrb : a % b < b := Nat.mod_lt _ hb1
  have eof := natOf_ok (a % b) (by omega)
  repeat' (first
    | with_reducible first | apply thenW_n | apply W_seq | apply W_block
    | with_reducible refine W_rg ?_
    | (rw [vcn]; (try simp [-map_take,-map_drop, push_cast, natAV, numC, ← limbs.eq_1, hb]))
    | (with_reducible refine W_condW ?_; (try simp [-map_take,-map_drop, AS.val, upd, resB, mkS_env, mkS_box, lk, entry_env, condW_true, condW_false, natAV, numC, ← limbs.eq_1, hb]))
    | fail)
  refine CallG_of (ec) rfl rfl rfl ?_
  try dsimp only
  repeat' (first
    | with_reducible first | apply thenW_n | apply W_seq
    | with_reducible refine W_rg ?_
    | (rw [vcn]; (try simp [-map_take,-map_drop, push_cast, natAV, numC, ← limbs.eq_1, hcm, hb, hd]))
    | with_reducible refine W_drawn mixed (by decide) (by kernel_rfl) ?_
    | (rw [vcnD]; (try simp [-map_take,-map_drop, push_cast, natAV, numC, ← limbs.eq_1, hcm, hb, hd]))
    | (with_reducible refine W_condW ?_; (try simp [-map_take,-map_drop, AS.val, upd, resB, mkS_env, mkS_box, lk, entry_env, condW_true, condW_false, natAV, numC, ← limbs.eq_1, hcm, hb, hd]))
    | with_reducible refine optK_dVh (by omega) ?_
    | fail)
  refine callD_of (ebf) rfl rfl rfl ?_
  try dsimp only
  repeat' (first
    | with_reducible first | apply thenW_n | apply W_seq
    | with_reducible refine W_rg ?_
    | (rw [vcn]; (try simp [-map_take,-map_drop, push_cast, natAV, numC, ← limbs.eq_1, hcm, hb, hd]))
    | (rw [vcnD]; (try simp [-map_take,-map_drop, push_cast, natAV, numC, ← limbs.eq_1, hcm, hb, hd]))
    | refine And.intro (by first | omega | kernel_rfl) ?_
    | fail)
  refine CallG_of (ecut) rfl rfl rfl ?_
  try dsimp only
  repeat' (first
    | (rw [vcn]; (try simp [-map_take,-map_drop, push_cast, natAV, numC, ← limbs.eq_1, hcm, hb, hd]); try simp (disch := omega) only [i64_in, u64_in, shr64i])
    | fail)
  refine CallG_of (eof) rfl rfl rfl ?_
  try dsimp only
  repeat' (first
    | with_reducible first | apply thenW_n | apply thenW_ret | apply blockW_ret | apply W_ret
    | (rw [vcn]; (try simp [-map_take,-map_drop, push_cast, natAV, numC, ← limbs.eq_1, hcm, hb, hd]))
    | fail)
  simp [-map_take,-map_drop, post, resAV, resAll, resOne, closeV, closeC, closeL, resD, resDL, push_cast, natAV, numC, ← limbs.eq_1]
end Go.Fw

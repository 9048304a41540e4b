/- nat: Down by less than a word. -/
import Derived.Test.YtbabekaohfcjbaaN8
set_option linter.unusedSimpArgs false
set_option linter.unusedVariables false
namespace Go.Fw
open Go Go.Proofs Go.IntWalk

/-- A digit of a number that is shifted down. -/
theorem down_digit {k x y N : Nat} (hk : k < 32) : ((x + 4294967296 * y) / 2 ^ k) % 4294967296 = ((x + 4294967296 * (y + 4294967296 * N)) / 2 ^ k) % 4294967296 := by
  have e : x + 4294967296 * (y + 4294967296 * N) = (x + 4294967296 * y) + 2 ^ k * (4294967296 * (N * 2 ^ (32 - k))) := by
    have : 4294967296 = 2 ^ k * 2 ^ (32 - k) := by rw [← Nat.pow_add, show k + (32 - k) = 32 from by omega]
    have h2 : 4294967296 * (4294967296 * N) = 2 ^ k * (4294967296 * (N * 2 ^ (32 - k))) := by
      have : 4294967296 * (4294967296 * N) = 4294967296 * ((2 ^ k * 2 ^ (32 - k)) * N) := by rw [← this]
      rw [this]
      simp only [Nat.mul_left_comm, Nat.mul_comm, Nat.mul_assoc]
    rw [Nat.mul_add]
    omega
  rw [e, Nat.add_mul_div_left _ _ (Nat.two_pow_pos k), Nat.add_mul_mod_self_left]

theorem down_step {k x N : Nat} (hx : x < 4294967296) : (x + 4294967296 * N) / 2 ^ k = ((x + 4294967296 * N) / 2 ^ k) % 4294967296 + 4294967296 * (N / 2 ^ k) := by
  have h1 := Nat.mod_add_div ((x + 4294967296 * N) / 2 ^ k) 4294967296
  have h2 : (x + 4294967296 * N) / 2 ^ k / 4294967296 = N / 2 ^ k := by
    rw [Nat.div_div_eq_div_mul, Nat.mul_comm (2 ^ k), ← Nat.div_div_eq_div_mul, Nat.add_mul_div_left _ _ (by decide), Nat.div_eq_of_lt hx, Nat.zero_add]
  rw [h2] at h1
  exact h1.symm

theorem or_shl' (r x : Nat) (hr : r < 4294967296) (hx : x < 4294967296) : bOr .u64 (x : Int) (shlI .u64 (r : Int) 32) = ((x + 4294967296 * r : Nat) : Int) := by
  have h := or_shl r x hr hx
  unfold bOr at h ⊢
  rw [BitVec.or_comm, h]
  congr 1; omega

theorem shr64k (n k : Nat) (hk : k < 32) : shrI .u64 (n : Int) (k : Int) = ((n / 2 ^ k : Nat) : Int) := by
  unfold shrI
  rw [show min (k : Int).toNat IntKind.u64.bits = k from by simp [IntKind.bits]; omega, Int.fdiv_eq_ediv_of_nonneg _ (Int.le_of_lt (Int.pow_pos (by decide)))]
  simp

set_option linter.unusedSimpArgs false
set_option maxRecDepth 100000
set_option maxHeartbeats 4000000
open List (map_take map_drop)
attribute [local push_cast] optK_some optK_none optK_ite optK_map optK_bind gOn stepK isMem evPure evMem evBin evUn evConv evLen evBuiltin evMinMax evSlice evBuild evAppend evIndex evIndexAddr evField evFieldAddr intBin strBin appDest AS.val AS.mem AS.elems AS.put AS.put' AS.eff AV.cells? AV.isCell AV.refs all_isByte take_byteV drop_byteV strOf_map bndOk bnd partAV ptrAdd killBox catA inOrder fillA setAt ofVal resB upd byteV List.head?_take List.head?_drop List.getElem?_map mkS_env mkS_box mkS_used entry_env entry_box entry_used lk stepD lookIds Oper.looksAt Op.operands Call.operands St.ids refsL renL_append ren renL renBox Box.refs iV i64V boolV dV_getElem dV_app dV_cons toNat_add2 toNat_add1
attribute [local simp ↓] numC_refs numC_isCell numC_cells numC_resB numC_resD numC_ren numC_closeC numC_isOwn
theorem natDown_zero (k : Nat) (hk : k < 32) : Eval Try.prog 108 [natAV 0, i64V k] (.ret (.tup [natAV 0, i64V 0])) := by
  refine Eval.outT (l := [.agg [.v (.slice none 0 0)], i64V 0]) ?_ ⟨Sub.agg ⟨numC_sub true .u32 B32, trivial⟩, Sub.refl _, trivial⟩ (by simp [-map_take,-map_drop, AV.isOwn, i64V]) (by simp [-map_take,-map_drop, AV.isOwn, natAV, i64V])
  refine Eval.intro Try.func108 rfl Try.call108 _ _ (Nat.le_of_ble_eq_true rfl) (by simp [-map_take,-map_drop, AV.refs, refsL, natAV, push_cast]) fun hs0 => ?_
  have k1 : ¬ (k : Int) < 0 := by omega
  have k2 : ¬ 65536 < (k : Int) := by omega
  have k3 : (k : Int).tdiv 32 = 0 := by rw [show (32 : Int) = ((32 : Nat) : Int) from rfl, ← Int.ofNat_tdiv]; omega
  have k5 : IntKind.i64.wrap 0 = 0 := by decide
  have e : limbs 0 = [] := rfl
  repeat' (first
    | with_reducible first | apply thenW_n | apply thenW_ret | apply W_seq | apply W_skip | apply W_ret
    | with_reducible refine W_region (by first | decide | (with_unfolding_all rfl)) ?_
    | (rw [vcn]; (try simp [-map_take,-map_drop, push_cast, natAV, numC, ← limbs.eq_1, e, k1, k2, k3, k5]))
    | (with_reducible refine W_condW ?_; (try simp [-map_take,-map_drop, AS.val, upd, resB, mkS_env, mkS_box, lk, entry_env, condW_true, condW_false, natAV, numC, ← limbs.eq_1, e, k1, k2, k3, k5]))
    | fail)
  simp [-map_take,-map_drop, post, resAV, resAll, resOne, closeV, closeC, closeL, resD, resDL, push_cast]

theorem natDown_ok (a k : Nat) (hk : k < 32) (h : (limbs a).length ≤ 20000000) : Eval Try.prog 108 [natAV a, i64V k] (.ret (.tup [natAV (a / 2 ^ k), i64V 0])) := by
  rcases Nat.eq_zero_or_pos a with ha | ha
  · subst ha; rw [Nat.zero_div]; exact natDown_zero k hk
  refine Eval.intro Try.func108 rfl Try.call108 _ _ (Nat.le_of_ble_eq_true rfl) (by simp [-map_take,-map_drop, AV.refs, refsL, natAV, push_cast]) fun hs0 => ?_
  have k1 : ¬ (k : Int) < 0 := by omega
  have k2 : ¬ 65536 < (k : Int) := by omega
  have k3 : (k : Int).tdiv 32 = 0 := by rw [show (32 : Int) = ((32 : Nat) : Int) from rfl, ← Int.ofNat_tdiv]; omega
  have k4 : (k : Int).tmod 32 = (k : Int) := by rw [show (32 : Int) = ((32 : Nat) : Int) from rfl, ← Int.ofNat_tmod]; omega
  have k5 : IntKind.i64.wrap 0 = 0 := by decide
  obtain ⟨la, hla⟩ : ∃ la, la = (limbs a).length := ⟨_, rfl⟩
  rw [← hla] at h
  have hla0 : 0 < la := by
    rcases Nat.eq_zero_or_pos la with h0 | h0
    · have := (digits_ne_nil B32_gt).1 (List.eq_nil_of_length_eq_zero (hla.symm.trans h0)); omega
    · exact h0
  have hla1 : ¬ la = 0 := by omega
  have htk : List.take la (dV .u32 (limbs a)) = dV .u32 (limbs a) := List.take_of_length_le (by simp [-map_take,-map_drop, hla])
  repeat' (first
    | with_reducible first | apply thenW_n | apply W_seq | apply W_block | apply W_skip
    | with_reducible refine W_region (by first | decide | (with_unfolding_all rfl)) ?_
    | (rw [vcn]; (try simp [-map_take,-map_drop, push_cast, natAV, numC, ← limbs.eq_1, ← hla, k1, k2, k3, k5, hla0, hla1, htk]))
    | (with_reducible refine W_condW ?_; (try simp [-map_take,-map_drop, AS.val, upd, resB, mkS_env, mkS_box, lk, entry_env, condW_true, condW_false, natAV, numC, ← limbs.eq_1, ← hla, k1, k2, k3, k5, hla0, hla1, htk]))
    | refine And.intro (by first | omega | kernel_rfl) ?_
    | fail)
  refine W_loopW (X := Nat × List Nat) (fun x => [(1, i64V k), (4, .bp 4 0), (6, .slc false 1 la (dV .u32 (limbs a))), (7, .bs 500 1 0 x.2.length), (33, .slc false 1 la (dV .u32 (limbs a))), (34, i64V la), (35, i64V x.1)])
    (fun x => [(4, .mut 26 [.v (.slice none 0 0)]), (500, .mut 128 (dV .u32 x.2))])
    (fun x => la - x.1) (fun x => x.1 ≤ la ∧ x.2.length = x.1 ∧ (∀ d ∈ x.2, d < B32) ∧ val B32 x.2 + B32 ^ x.1 * (val B32 ((limbs a).drop x.1) / 2 ^ k) = a / 2 ^ k)
    (0, []) (fun i => if i = 500 then 32 else i) ⟨by simp [-map_take,-map_drop], rfl, by simp [-map_take,-map_drop], by simp [-map_take,-map_drop, val, val_limbs]⟩ ⟨?_, ?_, ?_, ?_, ?_, ?_⟩ fun x hx => ?_
  all_goals first | (with_reducible refine W_id ?_) | (simp [-map_take,-map_drop, push_cast, dV_take, dV_drop, numC, ← limbs.eq_1, ← hla]; done) | (simp [-map_take,-map_drop, push_cast, dV_take, dV_drop, numC, ← limbs.eq_1, ← hla]; omega)
  obtain ⟨i, o⟩ := x
  obtain ⟨hi, hl, ho, hI⟩ := hx
  simp only at hi hl ho hI
  obtain ⟨x, hxd⟩ : ∃ x, x = dg (limbs a) i := ⟨_, rfl⟩
  have hx32 : x < 4294967296 := by rw [hxd]; exact dg_lt (by decide) (limbs_lt a) i
  obtain ⟨y, hyd⟩ : ∃ y, y = dg (limbs a) (i + 1) := ⟨_, rfl⟩
  have hy32 : y < 4294967296 := by rw [hyd]; exact dg_lt (by decide) (limbs_lt a) (i + 1)
  have hor := or_shl' y x hy32 hx32
  obtain ⟨t, ht⟩ : ∃ t, t = x + 4294967296 * y := ⟨_, rfl⟩
  rw [← ht] at hor
  have hsh := shr64k t k hk
  have hsx := shr64k x k hk
  have hstep : val B32 (o ++ [t / 2 ^ k % 4294967296]) + B32 ^ (i + 1) * (val B32 ((limbs a).drop (i + 1)) / 2 ^ k) = a / 2 ^ k := by
    rw [← hI, val_drop B32 (limbs a) i, ← hxd]
    have e1 : val B32 ((limbs a).drop (i + 1)) = y + 4294967296 * val B32 ((limbs a).drop (i + 1 + 1)) := by rw [val_drop B32 (limbs a) (i + 1), ← hyd]
    have e2 := down_digit (k := k) (x := x) (y := y) (N := val B32 ((limbs a).drop (i + 1 + 1))) hk
    have e3 := down_step (k := k) (x := x) (N := val B32 ((limbs a).drop (i + 1))) hx32
    rw [← e1] at e2
    rw [ht, e2, val_append, hl]
    simp only [val, Nat.mul_zero, Nat.add_zero]
    show _ = _ + B32 ^ i * ((x + 4294967296 * val B32 ((limbs a).drop (i + 1))) / 2 ^ k)
    rw [e3, Nat.mul_add, Nat.pow_succ, Nat.mul_assoc (B32 ^ i) B32, Nat.add_assoc]
    congr 3
    rw [← e3]
  repeat' (first
    | with_reducible first | apply thenW_n | apply thenW_exit | apply blockW_n | apply blockW_same | apply loopW_exit | apply W_seq | apply W_block | apply W_skip | apply W_exit
    | with_reducible refine W_region (by first | decide | (with_unfolding_all rfl)) ?_
    | (rw [vcn]; (try simp [-map_take,-map_drop, push_cast, numC, ← limbs.eq_1, ← hla, ← hxd, ← hyd, k4, k1, hsh, hsx, hor, IntKind.wrap_u32]); try simp (disch := omega) only [i64_in, u64_in, shr64i])
    | (with_reducible refine W_condW ?_; (try simp [-map_take,-map_drop, AS.val, upd, resB, mkS_env, mkS_box, lk, entry_env, condW_true, condW_false, numC, ← limbs.eq_1, ← hla, ← hxd, ← hyd, k4, k1, hsh, hsx, hor, IntKind.wrap_u32]))
    | (with_reducible refine optK_dV (by first | omega | (simp [-map_take,-map_drop]; omega)) ?_)
    | refine And.intro (by first | omega | kernel_rfl) ?_
    | ((with_reducible refine condW_b (fun hc => ?_) (fun hc => ?_) <;> (try simp [-map_take,-map_drop, Int.ofNat_inj] at hc) <;> (try contradiction)))
    | fail)
  · refine loopW_n (i + 1, o ++ [t / 2 ^ k % 4294967296]) (fun i => if i = 500 then 63 else i) (by simp [-map_take,-map_drop]; omega) ⟨by simp [-map_take,-map_drop]; omega, by simp [-map_take,-map_drop, hl], mem_append_lt ho (Nat.mod_lt _ (by decide)), hstep⟩ ⟨?_, ?_, ?_, ?_, ?_, ?_⟩
    all_goals first | (simp [-map_take,-map_drop, push_cast, dV_take, dV_drop, numC, ← limbs.eq_1, ← hla, B32, hl]; done) | (simp [-map_take,-map_drop, push_cast, dV_take, dV_drop, numC, ← limbs.eq_1, ← hla, B32, hl]; omega)
  · have hy0 : y = 0 := by rw [hyd]; exact dg_ge (by omega)
    have htx : t = x := by rw [ht, hy0]; omega
    rw [htx] at hstep
    refine loopW_n (i + 1, o ++ [x / 2 ^ k % 4294967296]) (fun i => if i = 500 then 63 else i) (by simp [-map_take,-map_drop]; omega) ⟨by simp [-map_take,-map_drop]; omega, by simp [-map_take,-map_drop, hl], mem_append_lt ho (Nat.mod_lt _ (by decide)), hstep⟩ ⟨?_, ?_, ?_, ?_, ?_, ?_⟩
    all_goals first | (simp [-map_take,-map_drop, push_cast, dV_take, dV_drop, numC, ← limbs.eq_1, ← hla, B32, hl]; done) | (simp [-map_take,-map_drop, push_cast, dV_take, dV_drop, numC, ← limbs.eq_1, ← hla, B32, hl]; omega)
  · have e := cut_ok false o ho o.length rfl
    have ev : val B32 o = a / 2 ^ k := by
      rw [← hI, List.drop_of_length_le (by omega)]
      simp [-map_take,-map_drop, val]
    rw [ev] at e
    refine CallG_frz _ _ rfl ?_ (e) ?_ (by simp [-map_take,-map_drop, AV.refs, refsL, push_cast]) rfl ?_
    · first | (simp [-map_take,-map_drop, refsL, AV.refs, frzS, resDL, resD, resB, upd, mkS_env, mkS_box, entry_env, entry_box, lk, push_cast]; done) | (simp [-map_take,-map_drop, refsL, AV.refs, frzS, resDL, resD, resB, upd, mkS_env, mkS_box, entry_env, entry_box, lk, push_cast]; rw [List.take_of_length_le (by simp [-map_take,-map_drop])]; done) | (simp [-map_take,-map_drop, refsL, AV.refs, frzS, resDL, resD, resB, upd, mkS_env, mkS_box, entry_env, entry_box, lk, push_cast]; fail_if_success done)
    · simp [-map_take,-map_drop, refsL, AV.refs, frzOk, upd, mkS_env, mkS_box, entry_env, entry_box, lk, push_cast]
    try dsimp only
    try simp only [refsL, AV.refs, frzS, List.append_nil, upd, mkS_box, entry_box, lk, if_true, if_false]
    repeat' (first
      | with_reducible first | apply thenW_n | apply W_ret
      | (rw [vcn]; (try simp [-map_take,-map_drop, push_cast, natAV, numC, ← limbs.eq_1]))
      | fail)
    simp [-map_take,-map_drop, post, resAV, resAll, resOne, closeV, closeC, closeL, resD, resDL, push_cast, natAV, numC, ← limbs.eq_1]
end Go.Fw

/- nat: Cmp, Add. -/
import Derived.Test.YtmmkclefdpmjlaaN1
set_option linter.unusedSimpArgs false
set_option linter.unusedVariables false
namespace Go.Fw
open Go Go.Proofs Go.IntWalk
def cmpN (a b : Nat) : Int := if a < b then -1 else if b < a then 1 else 0
abbrev Big : Nat := 20000000
theorem limbs_len {n k : Nat} (h : n < 2 ^ k) : (limbs n).length ≤ k :=
  digits_length_le B32_gt n k (Nat.lt_of_lt_of_le h (Nat.pow_le_pow_left (by decide) k))
set_option linter.unusedSimpArgs false
set_option maxRecDepth 100000
set_option maxHeartbeats 2000000
open List (map_take map_drop)
attribute [local push_cast] optK_some optK_none optK_ite optK_map optK_bind gOn stepK isMem evPure evMem evBin evUn evConv evLen evBuiltin evMinMax evSlice evBuild evAppend evIndex evIndexAddr evField evFieldAddr intBin strBin appDest AS.val AS.mem AS.elems AS.put AS.put' AS.eff AV.cells? AV.isCell AV.refs all_isByte take_byteV drop_byteV strOf_map bndOk bnd partAV ptrAdd killBox catA inOrder fillA setAt ofVal resB upd byteV List.head?_take List.head?_drop List.getElem?_map mkS_env mkS_box mkS_used entry_env entry_box entry_used lk stepD lookIds Oper.looksAt Op.operands Call.operands St.ids refsL renL_append ren renL renBox Box.refs iV i64V boolV dV_getElem dV_app dV_cons toNat_add2 toNat_add1
attribute [local simp ↓] numC_refs numC_isCell numC_cells numC_resB numC_resD numC_ren numC_closeC numC_isOwn
theorem natAdd_ok (a b : Nat) (h : (limbs a).length + (limbs b).length ≤ Big) : Eval Try.prog 97 [natAV a, natAV b] (.ret (natAV (a + b))) := by
  refine Eval.intro Try.func97 rfl Try.call97 _ _ (Nat.le_of_ble_eq_true rfl) (by simp [-map_take,-map_drop, AV.refs, refsL, natAV, push_cast]) fun hs0 => ?_
  have hbig : (limbs a).length + (limbs b).length ≤ 20000000 := h
  repeat' (first
    | with_reducible first | apply thenW_n | apply W_seq
    | with_reducible refine W_rg ?_
    | (rw [vcn]; (try simp [-map_take,-map_drop, push_cast, natAV, numC, ← limbs.eq_1]))
    | fail)
  refine W_joinQ (X := Nat × Nat) (fun p => [(2, .bp 2 0), (3, .bp 3 0), (4, .bp 4 0)]) (fun p => [(2, .mut 27 [natC p.1]), (3, .mut 27 [natC p.2]), (4, .mut 27 [.v (.slice none 0 0)])])
    (fun p => p.1 + p.2 = a + b ∧ (limbs p.2).length ≤ (limbs p.1).length ∧ (limbs p.1).length ≤ 20000000) ?_ fun p hp => ?_
  · repeat' (first
      | with_reducible apply W_skip
      | with_reducible refine W_rg ?_
      | (rw [vcn]; (try simp [-map_take,-map_drop, push_cast, natAV, numC, ← limbs.eq_1]))
      | (with_reducible refine W_condW ?_; (try simp [-map_take,-map_drop, AS.val, upd, resB, mkS_env, mkS_box, lk, entry_env, condW_true, condW_false, natAV, numC, ← limbs.eq_1]))
      | ((with_reducible refine condW_b (fun hc => ?_) (fun hc => ?_) <;> (try simp [-map_take,-map_drop, Int.ofNat_inj] at hc) <;> (try contradiction)))
      | fail)
    · refine joinW_n (b, a) id ⟨by simp [-map_take,-map_drop]; omega, by simp [-map_take,-map_drop]; omega, by simp [-map_take,-map_drop]; omega⟩ ⟨?_, ?_, ?_, ?_, ?_, ?_⟩
      all_goals first | (simp [-map_take,-map_drop, push_cast, dV_take, dV_drop, numC, ← limbs.eq_1]; done)
    · refine joinW_n (a, b) id ⟨by simp [-map_take,-map_drop], by simp [-map_take,-map_drop]; omega, by simp [-map_take,-map_drop]; omega⟩ ⟨?_, ?_, ?_, ?_, ?_, ?_⟩
      all_goals first | (simp [-map_take,-map_drop, push_cast, dV_take, dV_drop, numC, ← limbs.eq_1]; done)
  obtain ⟨p, q⟩ := p
  obtain ⟨hsum, hpq, hp⟩ := hp
  simp only at hsum hpq hp
  rw [← hsum]
  repeat' (first
    | with_reducible first | apply thenW_n | apply W_seq | apply W_block
    | with_reducible refine W_rg ?_
    | (rw [vcn]; (try simp [-map_take,-map_drop, push_cast, numC, ← limbs.eq_1]); try simp (disch := omega) only [i64_in, u64_in, shr64i])
    | refine And.intro (by first | omega | kernel_rfl) ?_
    | fail)
  refine W_loopW (X := Nat × Nat × List Nat) (fun x => [(2, .bp 2 0), (3, .bp 3 0), (4, .bp 4 0), (5, .bs 500 1 0 x.2.2.length), (6, iV .u64 x.2.1), (24, natC p), (25, i64V (limbs p).length), (26, i64V x.1)])
    (fun x => [(2, .mut 27 [natC p]), (3, .mut 27 [natC q]), (4, .mut 27 [.v (.slice none 0 0)]), (500, .mut 148 (dV .u32 x.2.2))])
    (fun x => (limbs p).length - x.1) (fun x => x.1 ≤ (limbs p).length ∧ x.2.2.length = x.1 ∧ (∀ d ∈ x.2.2, d < B32) ∧ x.2.1 ≤ 1 ∧ val B32 x.2.2 + B32 ^ x.1 * x.2.1 = val B32 ((limbs p).take x.1) + val B32 ((limbs q).take x.1))
    (0, 0, []) (fun i => if i = 500 then 22 else i) ⟨by simp [-map_take,-map_drop], rfl, by simp [-map_take,-map_drop], by simp [-map_take,-map_drop], by simp [-map_take,-map_drop, val]⟩ ⟨?_, ?_, ?_, ?_, ?_, ?_⟩ fun x hx => ?_
  all_goals first | (with_reducible refine W_id ?_) | (simp [-map_take,-map_drop, push_cast, dV_take, dV_drop, numC, ← limbs.eq_1]; done) | (simp [-map_take,-map_drop, push_cast, dV_take, dV_drop, numC, ← limbs.eq_1]; omega)
  obtain ⟨i, c, o⟩ := x
  obtain ⟨hi, hl, ho, hc1, hI⟩ := hx
  simp only at hi hl ho hc1 hI
  have hx32 : dg (limbs p) i < 4294967296 := dg_lt (by decide) (limbs_lt p) i
  have hy32 : dg (limbs q) i < 4294967296 := dg_lt (by decide) (limbs_lt q) i
  have hstep := add_step (B := B32) (c := c) (x := dg (limbs p) i) (y := dg (limbs q) i) (i := i) (by decide) hI
  rw [← val_take_succ, ← val_take_succ] at hstep
  have hnew : ∀ d ∈ o ++ [(c + dg (limbs p) i + dg (limbs q) i) % B32], d < B32 := mem_append_lt ho (Nat.mod_lt _ (by decide))
  have hval : val B32 (o ++ [(c + dg (limbs p) i + dg (limbs q) i) % B32]) = val B32 o + B32 ^ i * ((c + dg (limbs p) i + dg (limbs q) i) % B32) := by rw [val_append, hl]; simp [-map_take,-map_drop, val]
  have hc2 : (c + dg (limbs p) i + dg (limbs q) i) / B32 ≤ 1 := by show _ / 4294967296 ≤ 1; omega
  repeat' (first
    | with_reducible first | apply thenW_n | apply thenW_exit | apply blockW_n | apply blockW_same | apply loopW_exit | apply W_seq | apply W_block | apply W_skip | apply W_exit
    | with_reducible refine W_rg ?_
    | (rw [vcn]; (try simp [-map_take,-map_drop, push_cast, numC, ← limbs.eq_1, shr64i, IntKind.wrap_u32]); try simp (disch := omega) only [i64_in, u64_in, shr64i])
    | (with_reducible refine W_condW ?_; (try simp [-map_take,-map_drop, AS.val, upd, resB, mkS_env, mkS_box, lk, entry_env, condW_true, condW_false, numC, ← limbs.eq_1, shr64i, IntKind.wrap_u32]))
    | (with_reducible refine optK_dV (by first | omega | (simp [-map_take,-map_drop]; omega)) ?_)
    | refine And.intro (by first | omega | kernel_rfl) ?_
    | ((with_reducible refine condW_b (fun hc => ?_) (fun hc => ?_) <;> (try simp [-map_take,-map_drop, Int.ofNat_inj] at hc) <;> (try contradiction)))
    | fail)
  · refine loopW_n (i + 1, (c + dg (limbs p) i + dg (limbs q) i) / B32, o ++ [(c + dg (limbs p) i + dg (limbs q) i) % B32]) (fun i => if i = 500 then 52 else i) (by simp [-map_take,-map_drop]; omega) ⟨by simp [-map_take,-map_drop]; omega, by simp [-map_take,-map_drop, hl], hnew, hc2, by simp only [hval]; exact hstep⟩ ⟨?_, ?_, ?_, ?_, ?_, ?_⟩
    all_goals first | (simp [-map_take,-map_drop, push_cast, dV_take, dV_drop, numC, ← limbs.eq_1, B32, hl]; done) | (simp [-map_take,-map_drop, push_cast, dV_take, dV_drop, numC, ← limbs.eq_1, B32, hl]; omega)
  · have hy0 : dg (limbs q) i = 0 := dg_ge (by omega)
    refine loopW_n (i + 1, (c + dg (limbs p) i + dg (limbs q) i) / B32, o ++ [(c + dg (limbs p) i + dg (limbs q) i) % B32]) (fun i => if i = 500 then 52 else i) (by simp [-map_take,-map_drop]; omega) ⟨by simp [-map_take,-map_drop]; omega, by simp [-map_take,-map_drop, hl], hnew, hc2, by simp only [hval]; exact hstep⟩ ⟨?_, ?_, ?_, ?_, ?_, ?_⟩
    all_goals first | (simp [-map_take,-map_drop, push_cast, dV_take, dV_drop, numC, ← limbs.eq_1, B32, hl, hy0]; done) | (simp [-map_take,-map_drop, push_cast, dV_take, dV_drop, numC, ← limbs.eq_1, B32, hl, hy0]; omega)
  · have hi2 : i = (limbs p).length := by omega
    have e := cut_ok false (o ++ [c % B32]) (mem_append_lt ho (Nat.mod_lt _ (by decide))) (o.length + 1) (by simp [-map_take,-map_drop])
    have ev : val B32 (o ++ [c % B32]) = p + q := by
      rw [val_append, hl, Nat.mod_eq_of_lt (by show c < 4294967296; omega)]
      simp only [val, Nat.mul_zero, Nat.add_zero]
      rw [hI, List.take_of_length_le (by omega), List.take_of_length_le (by omega), val_limbs, val_limbs]
    rw [ev] at e
    refine CallG_frz _ _ rfl ?_ (e) ?_ (by simp [-map_take,-map_drop, AV.refs, refsL, push_cast]) rfl ?_
    · first | (simp [-map_take,-map_drop, refsL, AV.refs, frzS, resDL, resD, resB, upd, mkS_env, mkS_box, entry_env, entry_box, lk, push_cast]; done) | (simp [-map_take,-map_drop, refsL, AV.refs, frzS, resDL, resD, resB, upd, mkS_env, mkS_box, entry_env, entry_box, lk, push_cast]; rw [List.take_of_length_le (by simp [-map_take,-map_drop])]; done) | (simp [-map_take,-map_drop, refsL, AV.refs, frzS, resDL, resD, resB, upd, mkS_env, mkS_box, entry_env, entry_box, lk, push_cast]; fail_if_success done)
    · simp [-map_take,-map_drop, refsL, AV.refs, frzOk, upd, mkS_env, mkS_box, entry_env, entry_box, lk, push_cast]
    try dsimp only
    try simp only [refsL, AV.refs, frzS, List.append_nil, upd, mkS_box, entry_box, lk, if_true, if_false]
    repeat' (first
      | with_reducible first | apply thenW_n | apply W_ret
      | (rw [vcn]; (try simp [-map_take,-map_drop, push_cast, natAV, numC, ← limbs.eq_1]))
      | fail)
    simp [-map_take,-map_drop, post, resAV, resAll, resOne, closeV, closeC, closeL, resD, resDL, push_cast, natAV, numC, ← limbs.eq_1]
end Go.Fw

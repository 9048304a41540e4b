/- nat: less, Cmp, Sub. -/
import Derived.Test.YtmmkclefdpmjlaaN2
set_option linter.unusedSimpArgs false
set_option linter.unusedVariables false
namespace Go.Fw
open Go Go.Proofs Go.IntWalk
theorem less_step {B i va vb vo x y br d br' : Nat} (hI : va + B ^ i * br = vo + vb) (hd : d + y + br = x + B * br') :
    va + B ^ i * x + B ^ (i + 1) * br' = vo + B ^ i * d + (vb + B ^ i * y) := by
  have h1 : B ^ i * (d + y + br) = B ^ i * (x + B * br') := by rw [hd]
  have h2 : B ^ (i + 1) * br' = B ^ i * (B * br') := by rw [Nat.pow_succ, Nat.mul_assoc]
  rw [Nat.mul_add, Nat.mul_add, Nat.mul_add] at h1
  omega
set_option linter.unusedSimpArgs false
set_option maxRecDepth 100000
set_option maxHeartbeats 2000000
open List (map_take map_drop)
attribute [local push_cast] optK_some optK_none optK_ite optK_map optK_bind gOn stepK isMem evPure evMem evBin evUn evConv evLen evBuiltin evMinMax evSlice evBuild evAppend evIndex evIndexAddr evField evFieldAddr intBin strBin appDest AS.val AS.mem AS.elems AS.put AS.put' AS.eff AV.cells? AV.isCell AV.refs all_isByte take_byteV drop_byteV strOf_map bndOk bnd partAV ptrAdd killBox catA inOrder fillA setAt ofVal resB upd byteV List.head?_take List.head?_drop List.getElem?_map mkS_env mkS_box mkS_used entry_env entry_box entry_used lk stepD lookIds Oper.looksAt Op.operands Call.operands St.ids refsL renL_append ren renL renBox Box.refs iV i64V boolV dV_getElem dV_app dV_cons toNat_add2 toNat_add1
attribute [local simp ↓] numC_refs numC_isCell numC_cells numC_resB numC_resD numC_ren numC_closeC numC_isOwn
theorem natLess_ok (a b : Nat) (hab : b ≤ a) (h : (limbs a).length ≤ Big) : Eval Try.prog 118 [natAV a, natAV b] (.ret (natAV (a - b))) := by
  refine Eval.intro Try.func118 rfl Try.call118 _ _ (Nat.le_of_ble_eq_true rfl) (by simp [-map_take,-map_drop, AV.refs, refsL, natAV, push_cast]) fun hs0 => ?_
  have hbig : (limbs a).length ≤ 20000000 := h
  have hlen : (limbs b).length ≤ (limbs a).length := by
    rcases Nat.lt_or_ge (limbs a).length (limbs b).length with h1 | h1
    · have := digits_length_mono B32_gt h1; omega
    · exact h1
  repeat' (first
    | with_reducible first | apply thenW_n | apply W_seq | apply W_block
    | with_reducible refine W_rg ?_
    | (rw [vcn]; (try simp [-map_take,-map_drop, push_cast, natAV, numC, ← limbs.eq_1]))
    | refine And.intro (by first | omega | kernel_rfl) ?_
    | fail)
  refine W_loopW (X := Nat × Nat × List Nat) (fun x => [(2, .bp 2 0), (3, .bp 3 0), (4, .bp 4 0), (5, .bs 500 1 0 x.2.2.length), (6, iV .i64 x.2.1), (15, natC a), (16, i64V (limbs a).length), (17, i64V x.1)])
    (fun x => [(2, .mut 27 [natC a]), (3, .mut 27 [natC b]), (4, .mut 27 [.v (.slice none 0 0)]), (500, .mut 148 (dV .u32 x.2.2))])
    (fun x => (limbs a).length - x.1) (fun x => x.1 ≤ (limbs a).length ∧ x.2.2.length = x.1 ∧ (∀ d ∈ x.2.2, d < B32) ∧ x.2.1 ≤ 1 ∧ val B32 ((limbs a).take x.1) + B32 ^ x.1 * x.2.1 = val B32 x.2.2 + val B32 ((limbs b).take x.1))
    (0, 0, []) (fun i => if i = 500 then 13 else i) ⟨by simp [-map_take,-map_drop], rfl, by simp [-map_take,-map_drop], by simp [-map_take,-map_drop], by simp [-map_take,-map_drop, val]⟩ ⟨?_, ?_, ?_, ?_, ?_, ?_⟩ fun x hx => ?_
  all_goals first | (with_reducible refine W_id ?_) | (simp [-map_take,-map_drop, push_cast, dV_take, dV_drop, numC, ← limbs.eq_1]; done) | (simp [-map_take,-map_drop, push_cast, dV_take, dV_drop, numC, ← limbs.eq_1]; omega)
  obtain ⟨i, c, o⟩ := x
  obtain ⟨hi, hl, ho, hc1, hI⟩ := hx
  simp only at hi hl ho hc1 hI
  have hx32 : dg (limbs a) i < 4294967296 := dg_lt (by decide) (limbs_lt a) i
  have hy32 : dg (limbs b) i < 4294967296 := dg_lt (by decide) (limbs_lt b) i
  have hstep : ∀ d br', d + dg (limbs b) i + c = dg (limbs a) i + B32 * br' → val B32 ((limbs a).take (i + 1)) + B32 ^ (i + 1) * br' = val B32 (o ++ [d]) + val B32 ((limbs b).take (i + 1)) := by
    intro d br' hd
    rw [val_append, hl, val_take_succ, val_take_succ]
    simp only [val, Nat.mul_zero, Nat.add_zero]
    exact less_step hI hd
  repeat' (first
    | with_reducible first | apply thenW_n | apply thenW_exit | apply blockW_n | apply blockW_same | apply loopW_exit | apply W_seq | apply W_block | apply W_skip | apply W_exit
    | with_reducible refine W_rg ?_
    | (rw [vcn]; (try simp [-map_take,-map_drop, push_cast, numC, ← limbs.eq_1, IntKind.wrap_u32]); try simp (disch := omega) only [i64_in, u64_in, shr64i])
    | (with_reducible refine W_condW ?_; (try simp [-map_take,-map_drop, AS.val, upd, resB, mkS_env, mkS_box, lk, entry_env, condW_true, condW_false, numC, ← limbs.eq_1, IntKind.wrap_u32]))
    | (with_reducible refine optK_dV (by first | omega | (simp [-map_take,-map_drop]; omega)) ?_)
    | refine And.intro (by first | omega | kernel_rfl) ?_
    | ((with_reducible refine condW_b (fun hc => ?_) (fun hc => ?_) <;> (try simp [-map_take,-map_drop, Int.ofNat_inj] at hc) <;> (try contradiction)))
    | fail)
  · refine loopW_n (i + 1, 1, o ++ [dg (limbs a) i + 4294967296 - c - dg (limbs b) i]) (fun i => if i = 500 then 47 else i) (by simp [-map_take,-map_drop]; omega)
      ⟨by simp [-map_take,-map_drop]; omega, by simp [-map_take,-map_drop, hl], mem_append_lt ho (by show _ < 4294967296; omega), Nat.le_refl _, hstep _ _ (by show _ = _ + 4294967296 * 1; omega)⟩ ⟨?_, ?_, ?_, ?_, ?_, ?_⟩
    all_goals first | (simp [-map_take,-map_drop, push_cast, dV_take, dV_drop, numC, ← limbs.eq_1, B32, hl]; done) | (simp [-map_take,-map_drop, push_cast, dV_take, dV_drop, numC, ← limbs.eq_1, B32, hl]; omega)
  · refine loopW_n (i + 1, 0, o ++ [dg (limbs a) i - c - dg (limbs b) i]) (fun i => if i = 500 then 47 else i) (by simp [-map_take,-map_drop]; omega)
      ⟨by simp [-map_take,-map_drop]; omega, by simp [-map_take,-map_drop, hl], mem_append_lt ho (by show _ < 4294967296; omega), Nat.zero_le _, hstep _ 0 (by show _ = _ + 4294967296 * 0; omega)⟩ ⟨?_, ?_, ?_, ?_, ?_, ?_⟩
    all_goals first | (simp [-map_take,-map_drop, push_cast, dV_take, dV_drop, numC, ← limbs.eq_1, B32, hl]; done) | (simp [-map_take,-map_drop, push_cast, dV_take, dV_drop, numC, ← limbs.eq_1, B32, hl]; omega)
  · have hy0 : dg (limbs b) i = 0 := dg_ge (by omega)
    refine loopW_n (i + 1, 1, o ++ [dg (limbs a) i + 4294967296 - c - dg (limbs b) i]) (fun i => if i = 500 then 47 else i) (by simp [-map_take,-map_drop]; omega)
      ⟨by simp [-map_take,-map_drop]; omega, by simp [-map_take,-map_drop, hl], mem_append_lt ho (by show _ < 4294967296; omega), Nat.le_refl _, hstep _ _ (by show _ = _ + 4294967296 * 1; omega)⟩ ⟨?_, ?_, ?_, ?_, ?_, ?_⟩
    all_goals first | (simp [-map_take,-map_drop, push_cast, dV_take, dV_drop, numC, ← limbs.eq_1, B32, hl, hy0]; done) | (simp [-map_take,-map_drop, push_cast, dV_take, dV_drop, numC, ← limbs.eq_1, B32, hl, hy0]; omega)
  · have hy0 : dg (limbs b) i = 0 := dg_ge (by omega)
    refine loopW_n (i + 1, 0, o ++ [dg (limbs a) i - c - dg (limbs b) i]) (fun i => if i = 500 then 47 else i) (by simp [-map_take,-map_drop]; omega)
      ⟨by simp [-map_take,-map_drop]; omega, by simp [-map_take,-map_drop, hl], mem_append_lt ho (by show _ < 4294967296; omega), Nat.zero_le _, hstep _ 0 (by show _ = _ + 4294967296 * 0; omega)⟩ ⟨?_, ?_, ?_, ?_, ?_, ?_⟩
    all_goals first | (simp [-map_take,-map_drop, push_cast, dV_take, dV_drop, numC, ← limbs.eq_1, B32, hl, hy0]; done) | (simp [-map_take,-map_drop, push_cast, dV_take, dV_drop, numC, ← limbs.eq_1, B32, hl, hy0]; omega)
  · have e := cut_ok false o ho o.length rfl
    have ev : val B32 o = a - b := by
      have h1 := val_lt (show 0 < B32 by decide) o ho
      rw [List.take_of_length_le (by omega), List.take_of_length_le (by omega), val_limbs, val_limbs] at hI
      rcases Nat.eq_zero_or_pos c with h0 | h0
      · subst h0; omega
      · have : c = 1 := by omega
        subst this
        rw [hl] at h1
        omega
    rw [ev] at e
    refine CallG_frz _ _ rfl ?_ (e) ?_ (by simp [-map_take,-map_drop, AV.refs, refsL, push_cast]) rfl ?_
    · first | (simp [-map_take,-map_drop, refsL, AV.refs, frzS, resDL, resD, resB, upd, mkS_env, mkS_box, entry_env, entry_box, lk, push_cast]; done) | (simp [-map_take,-map_drop, refsL, AV.refs, frzS, resDL, resD, resB, upd, mkS_env, mkS_box, entry_env, entry_box, lk, push_cast]; rw [List.take_of_length_le (by simp [-map_take,-map_drop])]; done) | (simp [-map_take,-map_drop, refsL, AV.refs, frzS, resDL, resD, resB, upd, mkS_env, mkS_box, entry_env, entry_box, lk, push_cast]; fail_if_success done)
    · simp [-map_take,-map_drop, refsL, AV.refs, frzOk, upd, mkS_env, mkS_box, entry_env, entry_box, lk, push_cast]
    try dsimp only
    try simp only [refsL, AV.refs, frzS, List.append_nil, upd, mkS_box, entry_box, lk, if_true, if_false]
    repeat' (first
      | with_reducible first | apply thenW_n | apply W_ret
      | (rw [vcn]; (try simp [-map_take,-map_drop, push_cast, natAV, numC, ← limbs.eq_1]))
      | fail)
    simp [-map_take,-map_drop, post, resAV, resAll, resOne, closeV, closeC, closeL, resD, resDL, push_cast, natAV, numC, ← limbs.eq_1]
end Go.Fw

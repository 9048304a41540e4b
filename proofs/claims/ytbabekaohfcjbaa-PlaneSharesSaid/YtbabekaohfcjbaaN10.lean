/- nat: Div at the easy ways. -/
import Derived.Test.YtbabekaohfcjbaaN9
import Derived.Test.YtbabekaohfcjbaaN4
import Derived.Test.YtbabekaohfcjbaaNb
set_option linter.unusedSimpArgs false
set_option linter.unusedVariables false
namespace Go.Fw
open Go Go.Proofs Go.IntWalk

theorem limbs_pos {n : Nat} (h : 0 < n) : 0 < (limbs n).length := by
  rcases Nat.eq_zero_or_pos (limbs n).length with h0 | h0
  · have := (digits_ne_nil B32_gt).1 (List.eq_nil_of_length_eq_zero h0); omega
  · exact h0
theorem limbs_le {a b : Nat} (h : b ≤ a) : (limbs b).length ≤ (limbs a).length := by
  rcases Nat.lt_or_ge (limbs a).length (limbs b).length with h1 | h1
  · have := digits_length_mono B32_gt h1; omega
  · exact h1

set_option linter.unusedSimpArgs false
set_option maxRecDepth 100000
set_option maxHeartbeats 4000000
open List (map_take map_drop)
attribute [local push_cast] optK_some optK_none optK_ite optK_map optK_bind gOn stepK isMem evPure evMem evBin evUn evConv evLen evBuiltin evMinMax evSlice evBuild evAppend evIndex evIndexAddr evField evFieldAddr intBin strBin appDest AS.val AS.mem AS.elems AS.put AS.put' AS.eff AV.cells? AV.isCell AV.refs all_isByte take_byteV drop_byteV strOf_map bndOk bnd partAV ptrAdd killBox catA inOrder fillA setAt ofVal resB upd byteV List.head?_take List.head?_drop List.getElem?_map mkS_env mkS_box mkS_used entry_env entry_box entry_used lk stepD lookIds Oper.looksAt Op.operands Call.operands St.ids refsL renL_append ren renL renBox Box.refs iV i64V boolV dV_getElem dV_app dV_cons toNat_add2 toNat_add1
attribute [local simp ↓] numC_refs numC_isCell numC_cells numC_resB numC_resD numC_ren numC_closeC numC_isOwn
theorem natDiv_zero (a : Nat) : Eval Try.prog 95 [natAV a, natAV 0] (.ret (.tup [natAV 0, natAV 0, i64V 5])) := by
  refine Eval.outT (l := [.agg [.v (.slice none 0 0)], .agg [.v (.slice none 0 0)], i64V 5]) ?_ ⟨Sub.agg ⟨numC_sub true .u32 B32, trivial⟩, Sub.agg ⟨numC_sub true .u32 B32, trivial⟩, Sub.refl _, trivial⟩ (by simp [-map_take,-map_drop, AV.isOwn, i64V]) (by simp [-map_take,-map_drop, AV.isOwn, natAV, i64V])
  refine Eval.intro Try.func95 rfl Try.call95 _ _ (Nat.le_of_ble_eq_true rfl) (by simp [-map_take,-map_drop, AV.refs, refsL, natAV, push_cast]) fun hs0 => ?_
  have e : limbs 0 = [] := rfl
  repeat' (first
    | with_reducible first | apply thenW_n | apply thenW_ret | apply blockW_ret | apply W_seq | apply W_block | apply W_ret
    | with_reducible refine W_region (by first | decide | (with_unfolding_all rfl)) ?_
    | (rw [vcn]; (try simp [-map_take,-map_drop, push_cast, natAV, numC, ← limbs.eq_1, e]))
    | (with_reducible refine W_condW ?_; (try simp [-map_take,-map_drop, AS.val, upd, resB, mkS_env, mkS_box, lk, entry_env, condW_true, condW_false, natAV, numC, ← limbs.eq_1, e]))
    | fail)
  simp [-map_take,-map_drop, post, resAV, resAll, resOne, closeV, closeC, closeL, resD, resDL, push_cast]

theorem natDiv_lt (a b : Nat) (h : a < b) : Eval Try.prog 95 [natAV a, natAV b] (.ret (.tup [natAV 0, natAV a, i64V 0])) := by
  refine Eval.outT (l := [.agg [.v (.slice none 0 0)], natAV a, i64V 0]) ?_ ⟨Sub.agg ⟨numC_sub true .u32 B32, trivial⟩, Sub.refl _, Sub.refl _, trivial⟩ (by simp [-map_take,-map_drop, AV.isOwn, natAV, i64V]) (by simp [-map_take,-map_drop, AV.isOwn, natAV, i64V])
  refine Eval.intro Try.func95 rfl Try.call95 _ _ (Nat.le_of_ble_eq_true rfl) (by simp [-map_take,-map_drop, AV.refs, refsL, natAV, push_cast]) fun hs0 => ?_
  have hb : 0 < (limbs b).length := limbs_pos (by omega)
  have hb0 : ¬ (limbs b).length = 0 := by omega
  have hcm := cmpN_lt h
  have hbn : ¬ limbs b = [] := fun e => hb0 (by rw [e]; rfl)
  repeat' (first
    | with_reducible first | apply thenW_n | apply W_seq | apply W_block
    | with_reducible refine W_region (by first | decide | (with_unfolding_all rfl)) ?_
    | (rw [vcn]; (try simp [-map_take,-map_drop, push_cast, natAV, numC, ← limbs.eq_1, hb0, hbn]))
    | (with_reducible refine W_condW ?_; (try simp [-map_take,-map_drop, AS.val, upd, resB, mkS_env, mkS_box, lk, entry_env, condW_true, condW_false, natAV, numC, ← limbs.eq_1, hb0, hbn]))
    | ((with_reducible refine condW_b (fun hc => ?_) (fun hc => ?_) <;> (try simp [-map_take,-map_drop, Int.ofNat_inj] at hc) <;> (try contradiction)))
    | fail)
  refine CallG_of (natCmp_ok a b) rfl rfl rfl ?_
  try dsimp only
  repeat' (first
    | with_reducible first | apply thenW_n | apply thenW_ret | apply blockW_ret | apply W_seq | apply W_ret
    | (rw [vcn]; (try simp [-map_take,-map_drop, push_cast, natAV, numC, ← limbs.eq_1, hcm]))
    | with_reducible refine W_drawn mixed (by decide) (by kernel_rfl) ?_
    | (rw [vcnD]; (try simp [-map_take,-map_drop, push_cast, natAV, numC, ← limbs.eq_1, hcm]))
    | (with_reducible refine W_condW ?_; (try simp [-map_take,-map_drop, AS.val, upd, resB, mkS_env, mkS_box, lk, entry_env, condW_true, condW_false, natAV, numC, ← limbs.eq_1, hcm]))
    | refine And.intro (by first | omega | kernel_rfl) ?_
    | fail)
  simp [-map_take,-map_drop, post, resAV, resAll, resOne, closeV, closeC, closeL, resD, resDL, push_cast, natAV, numC, ← limbs.eq_1]

theorem natDiv_one (a b : Nat) (h : b ≤ a) (hb : (limbs b).length = 1) (hs : (limbs a).length ≤ 20000000) : Eval Try.prog 95 [natAV a, natAV b] (.ret (.tup [natAV (a / b), natAV (a % b), i64V 0])) := by
  refine Eval.intro Try.func95 rfl Try.call95 _ _ (Nat.le_of_ble_eq_true rfl) (by simp [-map_take,-map_drop, AV.refs, refsL, natAV, push_cast]) fun hs0 => ?_
  have hcm : ¬ cmpN a b < 0 := by rw [cmpN_neg]; omega
  have hd : dg (limbs b) 0 = b := by
    have := val_limbs b
    rw [val_split B32 (limbs b) 1 (by omega), val_take_succ] at this
    rw [List.drop_of_length_le (by omega)] at this
    simpa [-map_take,-map_drop, val] using this
  have hb1 : 0 < b := by
    rcases Nat.eq_zero_or_pos b with h0 | h0
    · subst h0; simp [-map_take,-map_drop, limbs, digits_zero] at hb
    · exact h0
  have hb2 : b < 4294967296 := by rw [← hd]; exact dg_lt (by decide) (limbs_lt b) 0
  have eb := natBy_ok true (limbs a) (limbs_lt a) (limbs a).length rfl hs b hb1 hb2
  obtain ⟨eq1, eq2⟩ := byL_quo hb1 (limbs a)
  rw [val_limbs] at eq1 eq2
  have ec := natCmp_ok a b
  simp only [natAV, numC, ← limbs.eq_1, hb] at ec
  have ebf := (natBy_ok true (limbs a) (limbs_lt a) (limbs a).length rfl hs b hb1 hb2).frz2 rfl
  have ecut := cut_ok false (byL b (limbs a)).1 (byL_digits hb1 _ (limbs_lt a)) (limbs a).length (byL_length _ _)
  rw [eq1] at ecut
  rw [eq2] at ebf
  have hrb : a % b < b := Nat.mod_lt _ hb1
  have eof := natOf_ok (a % b) (by omega)
  repeat' (first
    | with_reducible first | apply thenW_n | apply W_seq | apply W_block
    | with_reducible refine W_region (by first | decide | (with_unfolding_all rfl)) ?_
    | (rw [vcn]; (try simp [-map_take,-map_drop, push_cast, natAV, numC, ← limbs.eq_1, hb]))
    | (with_reducible refine W_condW ?_; (try simp [-map_take,-map_drop, AS.val, upd, resB, mkS_env, mkS_box, lk, entry_env, condW_true, condW_false, natAV, numC, ← limbs.eq_1, hb]))
    | fail)
  refine CallG_of (ec) rfl rfl rfl ?_
  try dsimp only
  repeat' (first
    | with_reducible first | apply thenW_n | apply W_seq
    | with_reducible refine W_region (by first | decide | (with_unfolding_all rfl)) ?_
    | (rw [vcn]; (try simp [-map_take,-map_drop, push_cast, natAV, numC, ← limbs.eq_1, hcm, hb, hd]))
    | with_reducible refine W_drawn mixed (by decide) (by kernel_rfl) ?_
    | (rw [vcnD]; (try simp [-map_take,-map_drop, push_cast, natAV, numC, ← limbs.eq_1, hcm, hb, hd]))
    | (with_reducible refine W_condW ?_; (try simp [-map_take,-map_drop, AS.val, upd, resB, mkS_env, mkS_box, lk, entry_env, condW_true, condW_false, natAV, numC, ← limbs.eq_1, hcm, hb, hd]))
    | with_reducible refine optK_dVh (by omega) ?_
    | fail)
  refine callD_of (ebf) rfl rfl rfl ?_
  try dsimp only
  repeat' (first
    | with_reducible first | apply thenW_n | apply W_seq
    | with_reducible refine W_region (by first | decide | (with_unfolding_all rfl)) ?_
    | (rw [vcn]; (try simp [-map_take,-map_drop, push_cast, natAV, numC, ← limbs.eq_1, hcm, hb, hd]))
    | (rw [vcnD]; (try simp [-map_take,-map_drop, push_cast, natAV, numC, ← limbs.eq_1, hcm, hb, hd]))
    | refine And.intro (by first | omega | kernel_rfl) ?_
    | fail)
  refine CallG_of (ecut) rfl rfl rfl ?_
  try dsimp only
  repeat' (first
    | (rw [vcn]; (try simp [-map_take,-map_drop, push_cast, natAV, numC, ← limbs.eq_1, hcm, hb, hd]); try simp (disch := omega) only [i64_in, u64_in, shr64i])
    | fail)
  refine CallG_of (eof) rfl rfl rfl ?_
  try dsimp only
  repeat' (first
    | with_reducible first | apply thenW_n | apply thenW_ret | apply blockW_ret | apply W_ret
    | (rw [vcn]; (try simp [-map_take,-map_drop, push_cast, natAV, numC, ← limbs.eq_1, hcm, hb, hd]))
    | fail)
  simp [-map_take,-map_drop, post, resAV, resAll, resOne, closeV, closeC, closeL, resD, resDL, push_cast, natAV, numC, ← limbs.eq_1]
end Go.Fw

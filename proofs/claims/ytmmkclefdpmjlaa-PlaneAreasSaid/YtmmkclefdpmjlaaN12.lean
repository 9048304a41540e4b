/- nat: Div, Gcd, Sub. -/
import Derived.Test.YtmmkclefdpmjlaaN11
import Derived.Test.YtmmkclefdpmjlaaN3
set_option linter.unusedSimpArgs false
set_option linter.unusedVariables false
namespace Go.Fw
open Go Go.Proofs Go.IntWalk
theorem natDiv_ok (a b : Nat) (hb : 0 < b) (hs : (limbs a).length ≤ 10000000) : Eval Try.prog 116 [natAV a, natAV b] (.ret (.tup [natAV (a / b), natAV (a % b), i64V 0])) := by
  rcases Nat.lt_or_ge a b with h | h
  · have := natDiv_lt a b h
    rw [Nat.div_eq_of_lt h, Nat.mod_eq_of_lt h]
    exact this
  · have h1 := limbs_pos hb
    rcases Nat.lt_or_ge (limbs b).length 2 with h2 | h2
    · exact natDiv_one a b h (by omega) (by omega)
    · exact natDiv_big a b h h2 hs
set_option linter.unusedSimpArgs false
set_option maxRecDepth 100000
set_option maxHeartbeats 2000000
open List (map_take map_drop)
attribute [local push_cast] optK_some optK_none optK_ite optK_map optK_bind gOn stepK isMem evPure evMem evBin evUn evConv evLen evBuiltin evMinMax evSlice evBuild evAppend evIndex evIndexAddr evField evFieldAddr intBin strBin appDest AS.val AS.mem AS.elems AS.put AS.put' AS.eff AV.cells? AV.isCell AV.refs all_isByte take_byteV drop_byteV strOf_map bndOk bnd partAV ptrAdd killBox catA inOrder fillA setAt ofVal resB upd byteV List.head?_take List.head?_drop List.getElem?_map mkS_env mkS_box mkS_used entry_env entry_box entry_used lk stepD lookIds Oper.looksAt Op.operands Call.operands St.ids refsL renL_append ren renL renBox Box.refs iV i64V boolV dV_getElem dV_app dV_cons toNat_add2 toNat_add1
attribute [local simp ↓] numC_refs numC_isCell numC_cells numC_resB numC_resD numC_ren numC_closeC numC_isOwn
theorem natGcd_ok (a b : Nat) (ha : (limbs a).length ≤ 10000000) (hb : (limbs b).length ≤ 10000000) : Eval Try.prog 94 [natAV a, natAV b] (.ret (natAV (Nat.gcd a b))) := by
  refine Eval.intro Try.func94 rfl Try.call94 _ _ (Nat.le_of_ble_eq_true rfl) (by simp [-map_take,-map_drop, AV.refs, refsL, natAV, push_cast]) fun hs0 => ?_
  repeat' (first
    | with_reducible first | apply thenW_n | apply W_seq | apply W_block
    | with_reducible refine W_rg ?_
    | (rw [vcn]; (try simp [-map_take,-map_drop, push_cast, natAV]))
    | fail)
  refine W_loopW (X := Nat × Nat) (fun x => [(2, .bp 2 0), (3, .bp 3 0), (4, .bp 4 0)]) (fun x => [(2, .mut 27 [natC x.1]), (3, .mut 27 [natC x.2]), (4, .mut 27 [.v (.slice none 0 0)])])
    (fun x => x.2) (fun x => Nat.gcd x.1 x.2 = Nat.gcd a b ∧ (limbs x.1).length ≤ 10000000 ∧ (limbs x.2).length ≤ 10000000) (a, b) id ⟨rfl, ha, hb⟩ ⟨?_, ?_, ?_, ?_, ?_, ?_⟩ fun x hx => ?_
  all_goals first | (with_reducible refine W_id ?_) | (simp [-map_take,-map_drop, push_cast, dV_take, dV_drop]; done)
  obtain ⟨x, y⟩ := x
  obtain ⟨hg, hx, hy⟩ := hx
  simp only at hg hx hy
  rcases Nat.eq_zero_or_pos y with h0 | h0
  · subst h0
    have e : limbs 0 = [] := rfl
    rw [Nat.gcd_zero_right] at hg
    rw [← hg]
    repeat' (first
      | with_reducible first | apply thenW_n | apply thenW_exit | apply blockW_same | apply loopW_exit | apply W_seq | apply W_ret | apply W_exit
      | with_reducible refine W_rg ?_
      | (rw [vcn]; (try simp [-map_take,-map_drop, push_cast, numC, ← limbs.eq_1, e]))
      | (with_reducible refine W_condW ?_; (try simp [-map_take,-map_drop, AS.val, upd, resB, mkS_env, mkS_box, lk, entry_env, condW_true, condW_false, numC, ← limbs.eq_1, e]))
      | fail)
    simp [-map_take,-map_drop, post, resAV, resAll, resOne, closeV, closeC, closeL, resD, resDL, push_cast, natAV, numC, ← limbs.eq_1]
  · have hy1 := limbs_pos h0
    have ed := natDiv_ok x y h0 hx
    have hlt := Nat.mod_lt x h0
    repeat' (first
      | with_reducible first | apply thenW_n | apply W_seq | apply W_block | apply W_skip
      | with_reducible refine W_rg ?_
      | (rw [vcn]; (try simp [-map_take,-map_drop, push_cast, numC, ← limbs.eq_1, hy1]))
      | (with_reducible refine W_condW ?_; (try simp [-map_take,-map_drop, AS.val, upd, resB, mkS_env, mkS_box, lk, entry_env, condW_true, condW_false, numC, ← limbs.eq_1, hy1]))
      | fail)
    refine CallG_of (ed) rfl rfl rfl ?_
    try dsimp only
    repeat' (first
      | with_reducible first | apply thenW_n | apply blockW_n
      | (rw [vcn]; (try simp [-map_take,-map_drop, push_cast, natAV, numC, ← limbs.eq_1]))
      | with_reducible refine W_drawn mixed (by decide) (by kernel_rfl) ?_
      | (rw [vcnD]; (try simp [-map_take,-map_drop, push_cast, natAV, numC, ← limbs.eq_1]))
      | refine And.intro (by first | omega | kernel_rfl) ?_
      | fail)
    refine loopW_n (y, x % y) id (by simpa [-map_take,-map_drop] using hlt) ⟨?_, hy, Nat.le_trans (limbs_le (Nat.le_of_lt hlt)) hy⟩ ⟨?_, ?_, ?_, ?_, ?_, ?_⟩
    · simp only
      rw [← hg, Nat.gcd_comm y, ← Nat.gcd_rec, Nat.gcd_comm]
    all_goals first | (simp [-map_take,-map_drop, push_cast, dV_take, dV_drop, numC, ← limbs.eq_1]; done)
theorem natSub_ok (a b : Nat) (hb : b ≤ a) (hs : (limbs a).length ≤ 20000000) : Eval Try.prog 98 [natAV a, natAV b] (.ret (.tup [natAV (a - b), i64V 0])) := by
  refine Eval.intro Try.func98 rfl Try.call98 _ _ (Nat.le_of_ble_eq_true rfl) (by simp [-map_take,-map_drop, AV.refs, refsL, natAV, push_cast]) fun hs0 => ?_
  have hc : ¬ cmpN a b < 0 := by rw [cmpN_neg]; omega
  repeat' (first
    | with_reducible first | apply thenW_n | apply W_seq
    | with_reducible refine W_rg ?_
    | (rw [vcn]; (try simp [-map_take,-map_drop, push_cast, natAV]))
    | fail)
  refine CallG_of (natCmp_ok a b) rfl rfl rfl ?_
  try dsimp only
  repeat' (first
    | with_reducible first | apply thenW_n | apply W_seq | apply W_skip
    | with_reducible refine W_rg ?_
    | (rw [vcn]; (try simp [-map_take,-map_drop, push_cast, natAV, hc]))
    | (with_reducible refine W_condW ?_; (try simp [-map_take,-map_drop, AS.val, upd, resB, mkS_env, mkS_box, lk, entry_env, condW_true, condW_false, natAV, hc]))
    | fail)
  refine CallG_of (natLess_ok a b hb hs) rfl rfl rfl ?_
  try dsimp only
  repeat' (first
    | with_reducible first | apply thenW_n | apply W_ret
    | (rw [vcn]; (try simp [-map_take,-map_drop, push_cast, natAV]))
    | fail)
  simp [-map_take,-map_drop, post, resAV, resAll, resOne, closeV, closeC, closeL, resD, resDL, push_cast, natAV]
theorem natSub_neg (a b : Nat) (hb : a < b) : Eval Try.prog 98 [natAV a, natAV b] (.ret (.tup [natAV 0, i64V 4])) := by
  refine Eval.outT (l := [.agg [.v (.slice none 0 0)], i64V 4]) ?_ ⟨Sub.agg ⟨numC_sub true .u32 B32, trivial⟩, Sub.refl _, trivial⟩ (by simp [-map_take,-map_drop, AV.isOwn, i64V]) (by simp [-map_take,-map_drop, AV.isOwn, natAV, i64V])
  refine Eval.intro Try.func98 rfl Try.call98 _ _ (Nat.le_of_ble_eq_true rfl) (by simp [-map_take,-map_drop, AV.refs, refsL, natAV, push_cast]) fun hs0 => ?_
  have hc : cmpN a b < 0 := by rw [cmpN_neg]; omega
  repeat' (first
    | with_reducible first | apply thenW_n | apply W_seq
    | with_reducible refine W_rg ?_
    | (rw [vcn]; (try simp [-map_take,-map_drop, push_cast, natAV]))
    | fail)
  refine CallG_of (natCmp_ok a b) rfl rfl rfl ?_
  try dsimp only
  repeat' (first
    | with_reducible first | apply thenW_n | apply thenW_ret | apply W_seq | apply W_ret
    | with_reducible refine W_rg ?_
    | (rw [vcn]; (try simp [-map_take,-map_drop, push_cast, natAV, hc]))
    | (with_reducible refine W_condW ?_; (try simp [-map_take,-map_drop, AS.val, upd, resB, mkS_env, mkS_box, lk, entry_env, condW_true, condW_false, natAV, hc]))
    | fail)
  simp [-map_take,-map_drop, post, resAV, resAll, resOne, closeV, closeC, closeL, resD, resDL, push_cast, natAV]
end Go.Fw

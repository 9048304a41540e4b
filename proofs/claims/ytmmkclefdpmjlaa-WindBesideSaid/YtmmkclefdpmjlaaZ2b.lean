import Derived.Test.YtmmkclefdpmjlaaZ1
import Derived.Test.YtmmkclefdpmjlaaN11b
set_option linter.unusedSimpArgs false
set_option linter.unusedVariables false
-- VALS: zAV, zC
namespace Go.Fw
open Go Go.Proofs Go.IntWalk
theorem limbs_add (a b : Nat) : (limbs (a + b)).length ≤ (limbs a).length + (limbs b).length + 1 := by
  have h1 := val_lt (show 0 < B32 by decide) _ (limbs_lt a)
  have h2 := val_lt (show 0 < B32 by decide) _ (limbs_lt b)
  rw [val_limbs] at h1 h2
  refine digits_length_le B32_gt _ _ ?_
  have h3 : B32 ^ (limbs a).length ≤ B32 ^ ((limbs a).length + (limbs b).length) := Nat.pow_le_pow_right (by decide) (by omega)
  have h4 : B32 ^ (limbs b).length ≤ B32 ^ ((limbs a).length + (limbs b).length) := Nat.pow_le_pow_right (by decide) (by omega)
  rw [Nat.pow_succ]
  show a + b < _ * 4294967296
  generalize B32 ^ ((limbs a).length + (limbs b).length) = X at h3 h4 ⊢
  omega
set_option linter.unusedSimpArgs false
set_option maxRecDepth 100000
set_option maxHeartbeats 4000000
open List (map_take map_drop)
attribute [local push_cast] optK_some optK_none optK_ite optK_map optK_bind gOn stepK isMem evPure evMem evBin evUn evConv evLen evBuiltin evMinMax evSlice evBuild evAppend evIndex evIndexAddr evField evFieldAddr intBin strBin appDest AS.val AS.mem AS.elems AS.put AS.put' AS.eff AV.cells? AV.isCell AV.refs all_isByte take_byteV drop_byteV strOf_map bndOk bnd partAV ptrAdd killBox catA inOrder fillA setAt ofVal resB upd byteV List.head?_take List.head?_drop List.getElem?_map mkS_env mkS_box mkS_used entry_env entry_box entry_used lk stepD lookIds Oper.looksAt Op.operands Call.operands St.ids refsL renL_append ren renL renBox Box.refs iV i64V boolV dV_getElem dV_app dV_cons toNat_add2 toNat_add1
attribute [local simp ↓] numC_refs numC_isCell numC_cells numC_resB numC_resD numC_ren numC_closeC numC_isOwn
theorem addZ_ok (a b : Int) (h : (limbs a.natAbs).length + (limbs b.natAbs).length ≤ 10000000) : Eval Try.prog 59 [zAV a, zAV b] (.ret (zAV (a + b))) := by
  refine Eval.intro Try.func59 rfl Try.call59 _ _ (Nat.le_of_ble_eq_true rfl) (by simp [-map_take,-map_drop, AV.refs, refsL, natAV, zAV, zC, push_cast]) fun hs0 => ?_
  have hadd := limbs_add a.natAbs b.natAbs
  by_cases hab : decide (a < 0) = decide (b < 0)
  · have em := made_ok (a.natAbs + b.natAbs) (decide (a < 0)) (by omega)
    have e : (if decide (a < 0) = true then -((a.natAbs + b.natAbs : Nat) : Int) else ((a.natAbs + b.natAbs : Nat) : Int)) = a + b := by
      rw [decide_eq_decide] at hab
      by_cases h0 : a < 0 <;> simp only [h0, decide_true, decide_false, if_true, if_false, Bool.false_eq_true] <;> omega
    rw [e] at em
    have hbq : (decide (a < 0) == decide (b < 0)) = true := by simpa [-map_take,-map_drop] using hab
    repeat' (first
      | with_reducible first | apply thenW_n | apply W_seq
      | with_reducible refine W_rg ?_
      | (rw [vcn]; (try simp [-map_take,-map_drop, push_cast, zAV, zC, hbq]))
      | with_reducible refine W_drawn mixed (by decide) (by kernel_rfl) ?_
      | (rw [vcnD]; (try simp [-map_take,-map_drop, push_cast, zAV, zC, hbq]))
      | (with_reducible refine W_condW ?_; (try simp [-map_take,-map_drop, AS.val, upd, resB, mkS_env, mkS_box, lk, entry_env, condW_true, condW_false, zAV, zC, hbq]))
      | fail)
    refine callD_of (natAdd_ok a.natAbs b.natAbs (by show _ ≤ 20000000; omega)) rfl rfl rfl ?_
    try dsimp only
    repeat' (first
      | (rw [vcnD]; (try simp [-map_take,-map_drop, push_cast, natAV]))
      | fail)
    refine callD_of (em) rfl rfl rfl ?_
    try dsimp only
    repeat' (first
      | with_reducible first | apply thenW_n | apply thenW_ret | apply W_ret
      | (rw [vcnD]; (try simp [-map_take,-map_drop, push_cast, zAV, zC]))
      | refine And.intro (by first | omega | kernel_rfl) ?_
      | fail)
    simp [-map_take,-map_drop, post, resAV, resAll, resOne, closeV, closeC, closeL, resD, resDL, push_cast, zAV, zC]
  · have hbq : (decide (a < 0) == decide (b < 0)) = false := by simpa [-map_take,-map_drop] using hab
    rcases Nat.lt_or_ge a.natAbs b.natAbs with hlt | hge
    · have hls := limbs_le (show b.natAbs - a.natAbs ≤ b.natAbs by omega)
      have em := made_ok (b.natAbs - a.natAbs) (decide (b < 0)) (by omega)
      have e : (if decide (b < 0) = true then -((b.natAbs - a.natAbs : Nat) : Int) else ((b.natAbs - a.natAbs : Nat) : Int)) = a + b := by
        rw [decide_eq_decide] at hab
        by_cases h0 : b < 0 <;> simp only [h0, decide_true, decide_false, if_true, if_false, Bool.false_eq_true] <;> omega
      rw [e] at em
      repeat' (first
        | with_reducible first | apply thenW_n | apply W_seq | apply W_skip
        | with_reducible refine W_rg ?_
        | (rw [vcn]; (try simp [-map_take,-map_drop, push_cast, zAV, zC, hbq]))
        | (with_reducible refine W_condW ?_; (try simp [-map_take,-map_drop, AS.val, upd, resB, mkS_env, mkS_box, lk, entry_env, condW_true, condW_false, zAV, zC, hbq]))
        | fail)
      refine CallG_of (natSub_neg a.natAbs b.natAbs hlt) rfl rfl rfl ?_
      try dsimp only
      repeat' (first
        | with_reducible first | apply thenW_n | apply W_seq | apply W_skip
        | with_reducible refine W_rg ?_
        | (rw [vcn]; (try simp [-map_take,-map_drop, push_cast, natAV]))
        | (with_reducible refine W_condW ?_; (try simp [-map_take,-map_drop, AS.val, upd, resB, mkS_env, mkS_box, lk, entry_env, condW_true, condW_false, natAV]))
        | fail)
      refine CallG_of (natSub_ok b.natAbs a.natAbs (by omega) (by omega)) rfl rfl rfl ?_
      try dsimp only
      repeat' (first
        | with_reducible first | apply thenW_n | apply W_seq
        | with_reducible refine W_rg ?_
        | (rw [vcn]; (try simp [-map_take,-map_drop, push_cast, natAV]))
        | fail)
      refine CallG_of (em) rfl rfl rfl ?_
      try dsimp only
      repeat' (first
        | with_reducible first | apply thenW_n | apply W_ret
        | (rw [vcn]; (try simp [-map_take,-map_drop, push_cast, zAV, zC]))
        | fail)
      simp [-map_take,-map_drop, post, resAV, resAll, resOne, closeV, closeC, closeL, resD, resDL, push_cast, zAV, zC]
    · have hls := limbs_le (show a.natAbs - b.natAbs ≤ a.natAbs by omega)
      have em := made_ok (a.natAbs - b.natAbs) (decide (a < 0)) (by omega)
      have e : (if decide (a < 0) = true then -((a.natAbs - b.natAbs : Nat) : Int) else ((a.natAbs - b.natAbs : Nat) : Int)) = a + b := by
        rw [decide_eq_decide] at hab
        by_cases h0 : a < 0 <;> simp only [h0, decide_true, decide_false, if_true, if_false, Bool.false_eq_true] <;> omega
      rw [e] at em
      repeat' (first
        | with_reducible first | apply thenW_n | apply W_seq | apply W_skip
        | with_reducible refine W_rg ?_
        | (rw [vcn]; (try simp [-map_take,-map_drop, push_cast, zAV, zC, hbq]))
        | (with_reducible refine W_condW ?_; (try simp [-map_take,-map_drop, AS.val, upd, resB, mkS_env, mkS_box, lk, entry_env, condW_true, condW_false, zAV, zC, hbq]))
        | fail)
      refine CallG_of (natSub_ok a.natAbs b.natAbs hge (by omega)) rfl rfl rfl ?_
      try dsimp only
      repeat' (first
        | with_reducible first | apply thenW_n | apply W_seq
        | with_reducible refine W_rg ?_
        | (rw [vcn]; (try simp [-map_take,-map_drop, push_cast, natAV]))
        | (with_reducible refine W_condW ?_; (try simp [-map_take,-map_drop, AS.val, upd, resB, mkS_env, mkS_box, lk, entry_env, condW_true, condW_false, natAV]))
        | fail)
      refine CallG_of (em) rfl rfl rfl ?_
      try dsimp only
      repeat' (first
        | with_reducible first | apply thenW_n | apply thenW_ret | apply W_ret
        | (rw [vcn]; (try simp [-map_take,-map_drop, push_cast, zAV, zC]))
        | fail)
      simp [-map_take,-map_drop, post, resAV, resAll, resOne, closeV, closeC, closeL, resD, resDL, push_cast, zAV, zC]
theorem subZ_ok (a b : Int) (h : (limbs a.natAbs).length + (limbs b.natAbs).length ≤ 10000000) : Eval Try.prog 117 [zAV a, zAV b] (.ret (zAV (a - b))) := by
  refine Eval.intro Try.func117 rfl Try.call117 _ _ (Nat.le_of_ble_eq_true rfl) (by simp [-map_take,-map_drop, AV.refs, refsL, natAV, zAV, zC, push_cast]) fun hs0 => ?_
  have ea := addZ_ok a (-b) (by rw [Int.natAbs_neg]; exact h)
  rw [← Int.sub_eq_add_neg] at ea
  repeat' (first
    | with_reducible first | apply thenW_n | apply W_seq
    | with_reducible refine W_rg ?_
    | (rw [vcn]; (try simp [-map_take,-map_drop, push_cast, zAV, zC]))
    | with_reducible refine W_drawn mixed (by decide) (by kernel_rfl) ?_
    | (rw [vcnD]; (try simp [-map_take,-map_drop, push_cast, zAV, zC]))
    | fail)
  refine callD_of (neg_ok b (by omega)) rfl rfl rfl ?_
  try dsimp only
  repeat' (first
    | (rw [vcnD]; (try simp [-map_take,-map_drop, push_cast, zAV, zC]))
    | fail)
  refine callD_of (ea) (by simp [-map_take,-map_drop, natAV, numC, ← limbs.eq_1, push_cast, zAV, zC]) rfl rfl ?_
  try dsimp only
  repeat' (first
    | with_reducible first | apply thenW_n | apply W_ret
    | (rw [vcnD]; (try simp [-map_take,-map_drop, push_cast, zAV, zC]))
    | refine And.intro (by first | omega | kernel_rfl) ?_
    | fail)
  simp [-map_take,-map_drop, post, resAV, resAll, resOne, closeV, closeC, closeL, resD, resDL, push_cast, zAV, zC]
theorem limbs_small {n : Nat} (h : n < 18446744073709551616) : (limbs n).length ≤ 2 := digits_length_le B32_gt n 2 (by show n < 4294967296 ^ 2; omega)
theorem ofZ_ok (n : Int) (h : -9223372036854775808 ≤ n ∧ n ≤ 9223372036854775807) : Eval Try.prog 45 [i64V n] (.ret (zAV n)) := by
  refine Eval.intro Try.func45 rfl Try.call45 _ _ (Nat.le_of_ble_eq_true rfl) (by simp [-map_take,-map_drop, AV.refs, refsL, natAV, zAV, zC, push_cast]) fun hs0 => ?_
  have hl := limbs_small (n := n.natAbs) (by omega)
  have eo := natOf_ok n.natAbs (by omega)
  by_cases h0 : n < 0
  · have em := made_ok n.natAbs true (by omega)
    rw [show (if true = true then -(n.natAbs : Int) else (n.natAbs : Int)) = n from by simp only [if_true]; omega] at em
    have hn : -(n + 1) + 1 = (n.natAbs : Int) := by omega
    repeat' (first
      | with_reducible first | apply thenW_n | apply W_seq
      | with_reducible refine W_rg ?_
      | (rw [vcn]; (try simp [-map_take,-map_drop, push_cast, h0, hn]); try simp (disch := omega) only [i64_in, u64_in, shr64i])
      | (with_reducible refine W_condW ?_; (try simp [-map_take,-map_drop, AS.val, upd, resB, mkS_env, mkS_box, lk, entry_env, condW_true, condW_false, h0, hn]))
      | fail)
    refine CallG_of (eo) rfl rfl rfl ?_
    try dsimp only
    repeat' (first
      | (rw [vcn]; (try simp [-map_take,-map_drop, push_cast, natAV]))
      | fail)
    refine CallG_of (em) rfl rfl rfl ?_
    try dsimp only
    repeat' (first
      | with_reducible first | apply thenW_n | apply thenW_ret | apply W_ret
      | (rw [vcn]; (try simp [-map_take,-map_drop, push_cast, zAV, zC]))
      | fail)
    simp [-map_take,-map_drop, post, resAV, resAll, resOne, closeV, closeC, closeL, resD, resDL, push_cast, zAV, zC]
  · have em := made_ok n.natAbs false (by omega)
    rw [show (if false = true then -(n.natAbs : Int) else (n.natAbs : Int)) = n from by simp only [Bool.false_eq_true, if_false]; omega] at em
    have hw : IntKind.u64.wrap n = (n.natAbs : Int) := by rw [u64_in _ (by omega)]; omega
    repeat' (first
      | with_reducible first | apply thenW_n | apply W_seq | apply W_skip
      | with_reducible refine W_rg ?_
      | (rw [vcn]; (try simp [-map_take,-map_drop, push_cast, h0, hw]))
      | (with_reducible refine W_condW ?_; (try simp [-map_take,-map_drop, AS.val, upd, resB, mkS_env, mkS_box, lk, entry_env, condW_true, condW_false, h0, hw]))
      | fail)
    refine CallG_of (eo) rfl rfl rfl ?_
    try dsimp only
    repeat' (first
      | (rw [vcn]; (try simp [-map_take,-map_drop, push_cast]))
      | fail)
    refine CallG_of (em) rfl rfl rfl ?_
    try dsimp only
    repeat' (first
      | with_reducible first | apply thenW_n | apply W_ret
      | (rw [vcn]; (try simp [-map_take,-map_drop, push_cast, zAV, zC]))
      | fail)
    simp [-map_take,-map_drop, post, resAV, resAll, resOne, closeV, closeC, closeL, resD, resDL, push_cast, zAV, zC]
end Go.Fw
-- VALS: zAV, zC
namespace Go.Fw
open Go Go.Proofs Go.IntWalk
set_option linter.unusedSimpArgs false
set_option maxRecDepth 100000
set_option maxHeartbeats 4000000
theorem em_unique {a b q r : Int} (hb : b ≠ 0) (h : b * q + r = a) (h0 : 0 ≤ r) (h1 : r < b.natAbs) : a / b = q ∧ a % b = r := by
  rcases Int.lt_trichotomy b 0 with h2 | h2 | h2
  · have h3 : 0 < -b := by omega
    have := (Int.ediv_emod_unique (a := a) (q := -q) (r := r) h3).2 ⟨by rw [Int.neg_mul_neg]; omega, h0, by omega⟩
    rw [Int.ediv_neg, Int.emod_neg] at this
    exact ⟨by omega, this.2⟩
  · exact absurd h2 hb
  · exact (Int.ediv_emod_unique h2).2 ⟨by omega, h0, by omega⟩
theorem floor_plain {a b : Int} {q r : Nat} (hb : b ≠ 0) (h : a.natAbs = b.natAbs * q + r) (hr : r < b.natAbs) :
    (a < 0 ∧ 0 < r → a % b = -(r : Int) + b.natAbs ∧ a / b = (if b < 0 then (q : Int) + 1 else -(q : Int) - 1)) ∧
    (¬ (a < 0 ∧ 0 < r) → a % b = r ∧ a / b = (if decide (a < 0) = decide (b < 0) then (q : Int) else -(q : Int))) := by
  obtain ⟨P, hP⟩ : ∃ P, P = b.natAbs * q := ⟨_, rfl⟩
  have hPI : (b.natAbs : Int) * (q : Int) = P := by rw [hP]; simp
  rw [← hP] at h
  have hbq : b * (q : Int) = if b < 0 then -(P : Int) else P := by
    split
    · rename_i h0; rw [← hPI, show (b.natAbs : Int) = -b from by omega, Int.neg_mul]; omega
    · rename_i h0; rw [← hPI, show (b.natAbs : Int) = b from by omega]
  constructor
  · rintro ⟨ha, hr0⟩
    have key : ∀ q' : Int, b * q' + (-(r : Int) + b.natAbs) = a → a % b = -(r : Int) + b.natAbs ∧ a / b = q' := by
      intro q' h1
      have := em_unique hb h1 (by omega) (by omega)
      exact ⟨this.2, this.1⟩
    by_cases h0 : b < 0
    · rw [if_pos h0]; rw [if_pos h0] at hbq
      exact key _ (by rw [Int.mul_add]; omega)
    · rw [if_neg h0]; rw [if_neg h0] at hbq
      exact key _ (by rw [Int.mul_sub, Int.mul_neg]; omega)
  · intro hn
    have key : ∀ q' : Int, b * q' + (r : Int) = a → a % b = (r : Int) ∧ a / b = q' := by
      intro q' h1
      have := em_unique hb h1 (by omega) (by omega)
      exact ⟨this.2, this.1⟩
    by_cases ha : a < 0 <;> by_cases h0 : b < 0 <;> simp only [ha, h0, decide_true, decide_false, if_true, if_false, Bool.false_eq_true, reduceCtorEq] <;> simp only [h0, if_true, if_false] at hbq
    · exact key _ (by omega)
    · exact key _ (by rw [Int.mul_neg]; omega)
    · exact key _ (by rw [Int.mul_neg]; omega)
    · exact key _ (by omega)
open List (map_take map_drop)
attribute [local push_cast] optK_some optK_none optK_ite optK_map optK_bind gOn stepK isMem evPure evMem evBin evUn evConv evLen evBuiltin evMinMax evSlice evBuild evAppend evIndex evIndexAddr evField evFieldAddr intBin strBin appDest AS.val AS.mem AS.elems AS.put AS.put' AS.eff AV.cells? AV.isCell AV.refs all_isByte take_byteV drop_byteV strOf_map bndOk bnd partAV ptrAdd killBox catA inOrder fillA setAt ofVal resB upd byteV List.head?_take List.head?_drop List.getElem?_map mkS_env mkS_box mkS_used entry_env entry_box entry_used lk stepD lookIds Oper.looksAt Op.operands Call.operands St.ids refsL renL_append ren renL renBox Box.refs iV i64V boolV dV_getElem dV_app dV_cons toNat_add2 toNat_add1
attribute [local simp ↓] numC_refs numC_isCell numC_cells numC_resB numC_resD numC_ren numC_closeC numC_isOwn
theorem floorZ_ok (a b : Int) (hb : b ≠ 0) (h : (limbs a.natAbs).length + (limbs b.natAbs).length ≤ 4000000) : Eval Try.prog 95 [zAV a, zAV b] (.ret (.tup [zAV (a / b), zAV (a % b), i64V 0])) := by
  refine Eval.intro Try.func95 rfl Try.call95 _ _ (Nat.le_of_ble_eq_true rfl) (by simp [-map_take,-map_drop, AV.refs, refsL, natAV, zAV, zC, push_cast]) fun hs0 => ?_
  have hb0 : 0 < b.natAbs := by omega
  have ed := natDiv_ok a.natAbs b.natAbs hb0 (by omega)
  have hlq := limbs_le (show a.natAbs / b.natAbs ≤ a.natAbs from Nat.div_le_self _ _)
  have hlr := limbs_le (Nat.le_of_lt (Nat.mod_lt a.natAbs hb0))
  have hl1 := limbs_small (n := 1) (by decide)
  have hdm := (Nat.div_add_mod a.natAbs b.natAbs).symm
  have hrlt := Nat.mod_lt a.natAbs hb0
  obtain ⟨q, hq⟩ : ∃ q, q = a.natAbs / b.natAbs := ⟨_, rfl⟩
  obtain ⟨r, hr⟩ : ∃ r, r = a.natAbs % b.natAbs := ⟨_, rfl⟩
  rw [← hq] at ed hlq hdm
  rw [← hr] at ed hlr hdm hrlt
  obtain ⟨f1, f2⟩ := floor_plain hb hdm hrlt
  have eq := made_ok q (!(decide (a < 0) == decide (b < 0))) (by omega)
  have er := made_ok r (decide (a < 0)) (by omega)
  by_cases hc : a < 0 ∧ 0 < r
  · obtain ⟨g1, g2⟩ := f1 hc
    have er1 : (if decide (a < 0) = true then -(r : Int) else (r : Int)) = -(r : Int) := by simp [-map_take,-map_drop, hc.1]
    rw [er1] at er
    have hneg : -(r : Int) < 0 := by omega
    have eb := big_ok b.natAbs (by omega)
    have ea := addZ_ok (-(r : Int)) (b.natAbs : Int) (by rw [Int.natAbs_neg, Int.natAbs_natCast, Int.natAbs_natCast]; omega)
    rw [← g1] at ea
    have eo := ofZ_ok 1 (by decide)
    by_cases h0 : b < 0
    · have eq1 : (if (!(decide (a < 0) == decide (b < 0))) = true then -(q : Int) else (q : Int)) = (q : Int) := by simp [-map_take,-map_drop, hc.1, h0]
      rw [eq1] at eq
      rw [if_pos h0] at g2
      have e2 := addZ_ok (q : Int) 1 (by rw [Int.natAbs_natCast]; show (limbs q).length + (limbs 1).length ≤ _; omega)
      rw [← g2] at e2
      repeat' (first
        | with_reducible first | apply thenW_n | apply W_seq
        | with_reducible refine W_rg ?_
        | (rw [vcn]; (try simp [-map_take,-map_drop, push_cast, zAV, zC]))
        | fail)
      refine CallG_of (ed) rfl rfl rfl ?_
      try dsimp only
      repeat' (first
        | with_reducible first | apply thenW_n | apply W_seq | apply W_skip
        | with_reducible refine W_rg ?_
        | (rw [vcn]; (try simp [-map_take,-map_drop, push_cast, natAV, hc.1, h0]))
        | with_reducible refine W_drawn mixed (by decide) (by kernel_rfl) ?_
        | (rw [vcnD]; (try simp [-map_take,-map_drop, push_cast, natAV, hc.1, h0]))
        | (with_reducible refine W_condW ?_; (try simp [-map_take,-map_drop, AS.val, upd, resB, mkS_env, mkS_box, lk, entry_env, condW_true, condW_false, natAV, hc.1, h0]))
        | fail)
      refine callD_of (eq) (by simp [-map_take,-map_drop, natAV, numC, ← limbs.eq_1, push_cast, hc.1, h0]) rfl rfl ?_
      try dsimp only
      repeat' (first
        | (rw [vcnD]; (try simp [-map_take,-map_drop, push_cast, zAV, zC, hc.1, h0]))
        | fail)
      refine callD_of (er) (by simp [-map_take,-map_drop, natAV, numC, ← limbs.eq_1, push_cast, hc.1, h0]) rfl rfl ?_
      try dsimp only
      repeat' (first
        | with_reducible first | apply thenW_n | apply W_seq
        | with_reducible refine W_rg ?_
        | (rw [vcn]; (try simp [-map_take,-map_drop, push_cast, zAV, zC, hc.1, h0, hc.2]))
        | with_reducible refine W_drawn mixed (by decide) (by kernel_rfl) ?_
        | (rw [vcnD]; (try simp [-map_take,-map_drop, push_cast, zAV, zC, hc.1, h0, hc.2]))
        | (with_reducible refine W_condW ?_; (try simp [-map_take,-map_drop, AS.val, upd, resB, mkS_env, mkS_box, lk, entry_env, condW_true, condW_false, zAV, zC, hc.1, h0, hc.2]))
        | refine And.intro (by first | omega | kernel_rfl) ?_
        | fail)
      refine callD_of (eb) rfl rfl rfl ?_
      try dsimp only
      repeat' (first
        | (rw [vcnD]; (try simp [-map_take,-map_drop, push_cast, zAV, zC, hc.1, h0, hc.2]))
        | fail)
      refine callD_of (ea) (by simp [-map_take,-map_drop, natAV, numC, ← limbs.eq_1, push_cast, zAV, zC, hc.2]) rfl rfl ?_
      try dsimp only
      repeat' (first
        | with_reducible first | apply thenW_n | apply W_seq
        | with_reducible refine W_rg ?_
        | (rw [vcn]; (try simp [-map_take,-map_drop, push_cast, zAV, zC, hc.1, h0, hc.2]))
        | with_reducible refine W_drawn mixed (by decide) (by kernel_rfl) ?_
        | (rw [vcnD]; (try simp [-map_take,-map_drop, push_cast, zAV, zC, hc.1, h0, hc.2]))
        | (with_reducible refine W_condW ?_; (try simp [-map_take,-map_drop, AS.val, upd, resB, mkS_env, mkS_box, lk, entry_env, condW_true, condW_false, zAV, zC, hc.1, h0, hc.2]))
        | refine And.intro (by first | omega | kernel_rfl) ?_
        | fail)
      refine callD_of (eo) rfl rfl rfl ?_
      try dsimp only
      repeat' (first
        | (rw [vcnD]; (try simp [-map_take,-map_drop, push_cast, zAV, zC, hc.1, h0, hc.2]))
        | fail)
      refine callD_of (e2) rfl rfl rfl ?_
      try dsimp only
      repeat' (first
        | with_reducible first | apply thenW_n | apply W_seq | apply W_ret
        | with_reducible refine W_drawn mixed (by decide) (by kernel_rfl) ?_
        | (rw [vcnD]; (try simp [-map_take,-map_drop, push_cast, zAV, zC, hc.1, h0, hc.2]))
        | refine And.intro (by first | omega | kernel_rfl) ?_
        | fail)
      simp [-map_take,-map_drop, post, resAV, resAll, resOne, closeV, closeC, closeL, resD, resDL, push_cast, zAV, zC]
    · have eq1 : (if (!(decide (a < 0) == decide (b < 0))) = true then -(q : Int) else (q : Int)) = -(q : Int) := by simp [-map_take,-map_drop, hc.1, h0]
      rw [eq1] at eq
      rw [if_neg h0] at g2
      have e2 := subZ_ok (-(q : Int)) 1 (by rw [Int.natAbs_neg, Int.natAbs_natCast]; show (limbs q).length + (limbs 1).length ≤ _; omega)
      rw [← g2] at e2
      repeat' (first
        | with_reducible first | apply thenW_n | apply W_seq
        | with_reducible refine W_rg ?_
        | (rw [vcn]; (try simp [-map_take,-map_drop, push_cast, zAV, zC]))
        | fail)
      refine CallG_of (ed) rfl rfl rfl ?_
      try dsimp only
      repeat' (first
        | with_reducible first | apply thenW_n | apply W_seq | apply W_skip
        | with_reducible refine W_rg ?_
        | (rw [vcn]; (try simp [-map_take,-map_drop, push_cast, natAV, hc.1, h0]))
        | with_reducible refine W_drawn mixed (by decide) (by kernel_rfl) ?_
        | (rw [vcnD]; (try simp [-map_take,-map_drop, push_cast, natAV, hc.1, h0]))
        | (with_reducible refine W_condW ?_; (try simp [-map_take,-map_drop, AS.val, upd, resB, mkS_env, mkS_box, lk, entry_env, condW_true, condW_false, natAV, hc.1, h0]))
        | fail)
      refine callD_of (eq) (by simp [-map_take,-map_drop, natAV, numC, ← limbs.eq_1, push_cast, hc.1, h0]) rfl rfl ?_
      try dsimp only
      repeat' (first
        | (rw [vcnD]; (try simp [-map_take,-map_drop, push_cast, zAV, zC, hc.1, h0]))
        | fail)
      refine callD_of (er) (by simp [-map_take,-map_drop, natAV, numC, ← limbs.eq_1, push_cast, hc.1, h0]) rfl rfl ?_
      try dsimp only
      repeat' (first
        | with_reducible first | apply thenW_n | apply W_seq
        | with_reducible refine W_rg ?_
        | (rw [vcn]; (try simp [-map_take,-map_drop, push_cast, zAV, zC, hc.1, h0, hc.2]))
        | with_reducible refine W_drawn mixed (by decide) (by kernel_rfl) ?_
        | (rw [vcnD]; (try simp [-map_take,-map_drop, push_cast, zAV, zC, hc.1, h0, hc.2]))
        | (with_reducible refine W_condW ?_; (try simp [-map_take,-map_drop, AS.val, upd, resB, mkS_env, mkS_box, lk, entry_env, condW_true, condW_false, zAV, zC, hc.1, h0, hc.2]))
        | refine And.intro (by first | omega | kernel_rfl) ?_
        | fail)
      refine callD_of (eb) rfl rfl rfl ?_
      try dsimp only
      repeat' (first
        | (rw [vcnD]; (try simp [-map_take,-map_drop, push_cast, zAV, zC, hc.1, h0, hc.2]))
        | fail)
      refine callD_of (ea) (by simp [-map_take,-map_drop, natAV, numC, ← limbs.eq_1, push_cast, zAV, zC, hc.2]) rfl rfl ?_
      try dsimp only
      repeat' (first
        | with_reducible first | apply thenW_n | apply W_seq
        | with_reducible refine W_rg ?_
        | (rw [vcn]; (try simp [-map_take,-map_drop, push_cast, zAV, zC, hc.1, h0, hc.2]))
        | with_reducible refine W_drawn mixed (by decide) (by kernel_rfl) ?_
        | (rw [vcnD]; (try simp [-map_take,-map_drop, push_cast, zAV, zC, hc.1, h0, hc.2]))
        | (with_reducible refine W_condW ?_; (try simp [-map_take,-map_drop, AS.val, upd, resB, mkS_env, mkS_box, lk, entry_env, condW_true, condW_false, zAV, zC, hc.1, h0, hc.2]))
        | refine And.intro (by first | omega | kernel_rfl) ?_
        | fail)
      refine callD_of (eo) rfl rfl rfl ?_
      try dsimp only
      repeat' (first
        | (rw [vcnD]; (try simp [-map_take,-map_drop, push_cast, zAV, zC, hc.1, h0, hc.2]))
        | fail)
      refine callD_of (e2) (by simp [-map_take,-map_drop, natAV, numC, ← limbs.eq_1, push_cast, zAV, zC]) rfl rfl ?_
      try dsimp only
      repeat' (first
        | with_reducible first | apply thenW_n | apply W_seq | apply W_ret
        | with_reducible refine W_drawn mixed (by decide) (by kernel_rfl) ?_
        | (rw [vcnD]; (try simp [-map_take,-map_drop, push_cast, zAV, zC, hc.1, h0, hc.2]))
        | refine And.intro (by first | omega | kernel_rfl) ?_
        | fail)
      simp [-map_take,-map_drop, post, resAV, resAll, resOne, closeV, closeC, closeL, resD, resDL, push_cast, zAV, zC]
  · obtain ⟨g1, g2⟩ := f2 hc
    have er1 : (if decide (a < 0) = true then -(r : Int) else (r : Int)) = (r : Int) := by
      by_cases h0 : a < 0
      · have : r = 0 := by omega
        subst this; simp [-map_take,-map_drop]
      · simp [-map_take,-map_drop, h0]
    rw [er1, ← g1] at er
    have eq1 : (if (!(decide (a < 0) == decide (b < 0))) = true then -(q : Int) else (q : Int)) = a / b := by
      rw [g2]
      by_cases ha : a < 0 <;> by_cases h0 : b < 0 <;> simp [-map_take,-map_drop, ha, h0]
    rw [eq1] at eq
    have hnn : ¬ a % b < 0 := by omega
    repeat' (first
      | with_reducible first | apply thenW_n | apply W_seq
      | with_reducible refine W_rg ?_
      | (rw [vcn]; (try simp [-map_take,-map_drop, push_cast, zAV, zC]))
      | fail)
    refine CallG_of (ed) rfl rfl rfl ?_
    try dsimp only
    repeat' (first
      | with_reducible first | apply thenW_n | apply W_seq | apply W_skip
      | with_reducible refine W_rg ?_
      | (rw [vcn]; (try simp [-map_take,-map_drop, push_cast, natAV]))
      | with_reducible refine W_drawn mixed (by decide) (by kernel_rfl) ?_
      | (rw [vcnD]; (try simp [-map_take,-map_drop, push_cast, natAV]))
      | (with_reducible refine W_condW ?_; (try simp [-map_take,-map_drop, AS.val, upd, resB, mkS_env, mkS_box, lk, entry_env, condW_true, condW_false, natAV]))
      | fail)
    refine callD_of (eq) rfl rfl rfl ?_
    try dsimp only
    repeat' (first
      | (rw [vcnD]; (try simp [-map_take,-map_drop, push_cast, zAV, zC]))
      | fail)
    refine callD_of (er) rfl rfl rfl ?_
    try dsimp only
    repeat' (first
      | with_reducible first | apply thenW_n | apply W_seq | apply W_skip | apply W_ret
      | with_reducible refine W_rg ?_
      | (rw [vcn]; (try simp [-map_take,-map_drop, push_cast, zAV, zC, hnn]))
      | with_reducible refine W_drawn mixed (by decide) (by kernel_rfl) ?_
      | (rw [vcnD]; (try simp [-map_take,-map_drop, push_cast, zAV, zC, hnn]))
      | (with_reducible refine W_condW ?_; (try simp [-map_take,-map_drop, AS.val, upd, resB, mkS_env, mkS_box, lk, entry_env, condW_true, condW_false, zAV, zC, hnn]))
      | refine And.intro (by first | omega | kernel_rfl) ?_
      | fail)
    simp [-map_take,-map_drop, post, resAV, resAll, resOne, closeV, closeC, closeL, resD, resDL, push_cast, zAV, zC]
end Go.Fw

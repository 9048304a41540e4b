/- The document's Fits (19); the law PairFits comes to true: the walk. -/
import Derived.Test.YtehmofcajiefiaaGreatY3
import Derived.Test.YtehmofcajiefiaaGreatV2
set_option linter.unusedSimpArgs false
set_option linter.unusedVariables false
-- VALS: zAV, zC, ratAV, ratC, ptAV, ptC, sgAV, sgC, d3sAV, rAV, rC, dAV, dC, d3AV, d3C, ratD, RD.av, DP.av, DP.av2, dpC, dotAV
namespace Go.Fw
open Go Go.Proofs Go.IntWalk
set_option linter.unusedSimpArgs false
set_option maxRecDepth 100000
set_option maxHeartbeats 20000000
theorem ne_b {a b : Int} (h : a ≠ b) : ((a = b) = False) ∧ ((a == b) = false) := ⟨eq_false h, beq_eq_false_iff_ne.2 h⟩
theorem eq_b {a b : Int} (h : a = b) : ((a = b) = True) ∧ ((a == b) = true) := ⟨eq_true h, beq_iff_eq.2 h⟩
theorem seg19_ok' (a b : Int × Int × Int) (ha : inD a) (hb : inD b) : Eval Tryz.prog 22 [dotAV a, dotAV b] (.ret (.tup [sgAV (dotsF a b), DP.av2 (dotD a) (dotD b)])) := seg19_ok a b ha hb
open List (map_take map_drop)
attribute [local push_cast] optK_some optK_none optK_ite optK_map optK_bind gOn stepK isMem evPure evMem evBin evUn evConv evLen evBuiltin evMinMax evSlice evBuild evAppend evIndex evIndexAddr evField evFieldAddr intBin strBin appDest AS.val AS.mem AS.elems AS.put AS.put' AS.eff AV.cells? AV.isCell AV.refs all_isByte take_byteV drop_byteV strOf_map bndOk bnd partAV ptrAdd killBox catA inOrder fillA setAt ofVal resB upd byteV List.head?_take List.head?_drop List.getElem?_map mkS_env mkS_box mkS_used entry_env entry_box entry_used lk stepD lookIds Oper.looksAt Op.operands Call.operands St.ids refsL renL_append ren renL renBox Box.refs iV i64V boolV dV_getElem dV_app dV_cons toNat_add2 toNat_add1
attribute [local simp ↓] numC_refs numC_isCell numC_cells numC_resB numC_resD numC_ren numC_closeC numC_isOwn
theorem fits19R_ok (k : Int) (a b c d : DP) (n : Int) (hn : inI n) (h : szP3 a + szP3 b + szP3 c + szP3 d ≤ 60) : Eval Tryz.prog 25 [i64V k, DP.av2 a b, DP.av2 c d, i64V n] (.ret (boolV (fitsR k a b c d n))) := by
  obtain ⟨out, hout⟩ : ∃ o, o = fitsR k a b c d n := ⟨_, rfl⟩
  rw [← hout]
  unfold fitsR at hout
  by_cases h0 : ¬ 0 < n
  · have k1 : (n ≤ 0) = True := eq_true (by omega)
    rw [decide_eq_false h0, Bool.false_and] at hout
    refine Eval.intro Tryz.func25 rfl Tryz.call25 _ _ (Nat.le_of_ble_eq_true rfl) (by simp [-map_take,-map_drop, AV.refs, refsL, natAV, zAV, zC, ratAV, ratC, ptAV, ptC, sgAV, sgC, d3sAV, rAV, rC, dAV, dC, d3AV, d3C, ratD, RD.av, DP.av, DP.av2, dpC, dotAV, push_cast]) fun hs0 => ?_
    repeat' (first
      | with_reducible first | apply thenW_n | apply thenW_ret | apply W_seq | apply W_ret
      | with_reducible refine W_rg ?_
      | (rw [vcn]; (try simp [-map_take,-map_drop, push_cast, DP.av2, DP.av, d3AV, d3C, RD.av, ratD, dpC, dC, rC, numC, ← tens.eq_1, dAV, k1]))
      | (with_reducible refine W_condW ?_; (try simp [-map_take,-map_drop, AS.val, upd, resB, mkS_env, mkS_box, lk, entry_env, condW_true, condW_false, DP.av2, DP.av, d3AV, d3C, RD.av, ratD, dpC, dC, rC, numC, ← tens.eq_1, dAV, k1]))
      | fail)
    simp [-map_take,-map_drop, post, resAV, resAll, resOne, closeV, closeC, closeL, resD, resDL, push_cast, hout]
  have h0 : 0 < n := by omega
  rw [decide_eq_true h0, Bool.true_and] at hout
  have k1 : (n ≤ 0) = False := eq_false (by omega)
  have e1 := cmp11_ok a b (by omega)
  have e2 := cmp11_ok c d (by omega)
  obtain ⟨x, nm_⟩ : ∃ nm0_, nm0_ = cmp3 a b := ⟨_, rfl⟩
  simp only [← nm_] at e1 hout
  clear nm_
  obtain ⟨y, nm_⟩ : ∃ nm0_, nm0_ = cmp3 c d := ⟨_, rfl⟩
  simp only [← nm_] at e2 hout
  clear nm_
  by_cases hx : x = 0
  · obtain ⟨x1, x2⟩ := eq_b hx
    have x3 : (x != 0) = false := by rw [bne, x2]; rfl
    rw [x3, Bool.false_and] at hout
    refine Eval.intro Tryz.func25 rfl Tryz.call25 _ _ (Nat.le_of_ble_eq_true rfl) (by simp [-map_take,-map_drop, AV.refs, refsL, natAV, zAV, zC, ratAV, ratC, ptAV, ptC, sgAV, sgC, d3sAV, rAV, rC, dAV, dC, d3AV, d3C, ratD, RD.av, DP.av, DP.av2, dpC, dotAV, push_cast]) fun hs0 => ?_
    repeat' (first
      | with_reducible first | apply thenW_n | apply W_seq
      | with_reducible refine W_rg ?_
      | (rw [vcn]; (try simp [-map_take,-map_drop, push_cast, DP.av2, DP.av, d3AV, d3C, RD.av, ratD, dpC, dC, rC, numC, ← tens.eq_1, dAV, k1, x1, x2]))
      | fail)
    refine CallG_of (e1) rfl rfl rfl ?_
    try dsimp only
    repeat' (first
      | with_reducible first | apply thenW_n | apply thenW_ret | apply W_seq | apply W_ret
      | with_reducible refine W_rg ?_
      | (rw [vcn]; (try simp [-map_take,-map_drop, push_cast, DP.av2, DP.av, d3AV, d3C, RD.av, ratD, dpC, dC, rC, numC, ← tens.eq_1, dAV, k1, x1, x2]))
      | (with_reducible refine W_condW ?_; (try simp [-map_take,-map_drop, AS.val, upd, resB, mkS_env, mkS_box, lk, entry_env, condW_true, condW_false, DP.av2, DP.av, d3AV, d3C, RD.av, ratD, dpC, dC, rC, numC, ← tens.eq_1, dAV, k1, x1, x2]))
      | fail)
    simp [-map_take,-map_drop, post, resAV, resAll, resOne, closeV, closeC, closeL, resD, resDL, push_cast, hout]
  obtain ⟨x1, x2⟩ := ne_b hx
  have x3 : (x != 0) = true := by rw [bne, x2]; rfl
  rw [x3, Bool.true_and] at hout
  by_cases hy : y = 0
  · obtain ⟨y1, y2⟩ := eq_b hy
    have y3 : (y != 0) = false := by rw [bne, y2]; rfl
    rw [y3, Bool.false_and] at hout
    refine Eval.intro Tryz.func25 rfl Tryz.call25 _ _ (Nat.le_of_ble_eq_true rfl) (by simp [-map_take,-map_drop, AV.refs, refsL, natAV, zAV, zC, ratAV, ratC, ptAV, ptC, sgAV, sgC, d3sAV, rAV, rC, dAV, dC, d3AV, d3C, ratD, RD.av, DP.av, DP.av2, dpC, dotAV, push_cast]) fun hs0 => ?_
    repeat' (first
      | with_reducible first | apply thenW_n | apply W_seq
      | with_reducible refine W_rg ?_
      | (rw [vcn]; (try simp [-map_take,-map_drop, push_cast, DP.av2, DP.av, d3AV, d3C, RD.av, ratD, dpC, dC, rC, numC, ← tens.eq_1, dAV, k1, x1, x2, y1, y2]))
      | fail)
    refine CallG_of (e1) rfl rfl rfl ?_
    try dsimp only
    repeat' (first
      | (rw [vcn]; (try simp [-map_take,-map_drop, push_cast, DP.av2, DP.av, d3AV, d3C, RD.av, ratD, dpC, dC, rC, numC, ← tens.eq_1, dAV, k1, x1, x2, y1, y2]))
      | fail)
    refine CallG_of (e2) rfl rfl rfl ?_
    try dsimp only
    repeat' (first
      | with_reducible first | apply thenW_n | apply thenW_ret | apply W_seq | apply W_ret
      | with_reducible refine W_rg ?_
      | (rw [vcn]; (try simp [-map_take,-map_drop, push_cast, DP.av2, DP.av, d3AV, d3C, RD.av, ratD, dpC, dC, rC, numC, ← tens.eq_1, dAV, k1, x1, x2, y1, y2]))
      | (with_reducible refine W_condW ?_; (try simp [-map_take,-map_drop, AS.val, upd, resB, mkS_env, mkS_box, lk, entry_env, condW_true, condW_false, DP.av2, DP.av, d3AV, d3C, RD.av, ratD, dpC, dC, rC, numC, ← tens.eq_1, dAV, k1, x1, x2, y1, y2]))
      | fail)
    simp [-map_take,-map_drop, post, resAV, resAll, resOne, closeV, closeC, closeL, resD, resDL, push_cast, hout]
  obtain ⟨y1, y2⟩ := ne_b hy
  have y3 : (y != 0) = true := by rw [bne, y2]; rfl
  rw [y3, Bool.true_and] at hout
  have e3 : Eval Tryz.prog 63 [a.av, b.av, c.av] (.ret (i64V (sd3 a b c))) := side11_ok a b c (by omega)
  have e4 : Eval Tryz.prog 63 [a.av, b.av, d.av] (.ret (i64V (sd3 a b d))) := side11_ok a b d (by omega)
  have e5 := product19_ok a b c d (by omega)
  have t1 := turn19R_ok a b
  have t2 := turn19R_ok c d
  have n1 := near19R_ok a b c d a b c d n hn (by omega) (by omega)
  have n2 := near19R_ok a b c d b a d c n hn (by omega) (by omega)
  have n3 := near19R_ok a b c d b a c d n hn (by omega) (by omega)
  obtain ⟨u, nm_⟩ : ∃ nm0_, nm0_ = sd3 a b c := ⟨_, rfl⟩
  simp only [← nm_] at e3 hout
  clear nm_
  obtain ⟨v, nm_⟩ : ∃ nm0_, nm0_ = sd3 a b d := ⟨_, rfl⟩
  simp only [← nm_] at e4 hout
  clear nm_
  obtain ⟨w, nm_⟩ : ∃ nm0_, nm0_ = prodR a b c d := ⟨_, rfl⟩
  simp only [← nm_] at e5 hout
  clear nm_
  obtain ⟨m1, nm_⟩ : ∃ nm0_, nm0_ = nearR a b c d a b c d n := ⟨_, rfl⟩
  simp only [← nm_] at n1 hout
  clear nm_
  obtain ⟨m2, nm_⟩ : ∃ nm0_, nm0_ = nearR a b c d b a d c n := ⟨_, rfl⟩
  simp only [← nm_] at n2 hout
  clear nm_
  obtain ⟨m3, nm_⟩ : ∃ nm0_, nm0_ = nearR a b c d b a c d n := ⟨_, rfl⟩
  simp only [← nm_] at n3 hout
  clear nm_
  clear h h0 hn hx hy
  by_cases huv : u = 0 ∧ v = 0
  · obtain ⟨u1, u2⟩ := eq_b huv.1
    obtain ⟨v1, v2⟩ := eq_b huv.2
    rw [u2, v2] at hout
    refine Eval.intro Tryz.func25 rfl Tryz.call25 _ _ (Nat.le_of_ble_eq_true rfl) (by simp [-map_take,-map_drop, AV.refs, refsL, natAV, zAV, zC, ratAV, ratC, ptAV, ptC, sgAV, sgC, d3sAV, rAV, rC, dAV, dC, d3AV, d3C, ratD, RD.av, DP.av, DP.av2, dpC, dotAV, push_cast]) fun hs0 => ?_
    repeat' (first
      | with_reducible first | apply thenW_n | apply W_seq
      | with_reducible refine W_rg ?_
      | (rw [vcn]; (try simp [-map_take,-map_drop, push_cast, DP.av2, DP.av, d3AV, d3C, RD.av, ratD, dpC, dC, rC, numC, ← tens.eq_1, dAV, k1, x1, x2, y1, y2, u1, u2, v1, v2]))
      | fail)
    refine CallG_of (e1) rfl rfl rfl ?_
    try dsimp only
    repeat' (first
      | (rw [vcn]; (try simp [-map_take,-map_drop, push_cast, DP.av2, DP.av, d3AV, d3C, RD.av, ratD, dpC, dC, rC, numC, ← tens.eq_1, dAV, k1, x1, x2, y1, y2, u1, u2, v1, v2]))
      | fail)
    refine CallG_of (e2) rfl rfl rfl ?_
    try dsimp only
    repeat' (first
      | with_reducible first | apply thenW_n | apply W_seq | apply W_skip
      | with_reducible refine W_rg ?_
      | (rw [vcn]; (try simp [-map_take,-map_drop, push_cast, DP.av2, DP.av, d3AV, d3C, RD.av, ratD, dpC, dC, rC, numC, ← tens.eq_1, dAV, k1, x1, x2, y1, y2, u1, u2, v1, v2]))
      | (with_reducible refine W_condW ?_; (try simp [-map_take,-map_drop, AS.val, upd, resB, mkS_env, mkS_box, lk, entry_env, condW_true, condW_false, DP.av2, DP.av, d3AV, d3C, RD.av, ratD, dpC, dC, rC, numC, ← tens.eq_1, dAV, k1, x1, x2, y1, y2, u1, u2, v1, v2]))
      | fail)
    refine CallG_of (e3) rfl rfl rfl ?_
    try dsimp only
    repeat' (first
      | (rw [vcn]; (try simp [-map_take,-map_drop, push_cast, DP.av2, DP.av, d3AV, d3C, RD.av, ratD, dpC, dC, rC, numC, ← tens.eq_1, dAV, k1, x1, x2, y1, y2, u1, u2, v1, v2]))
      | fail)
    refine CallG_of (e4) rfl rfl rfl ?_
    try dsimp only
    repeat' (first
      | with_reducible first | apply thenW_n | apply thenW_ret | apply W_seq | apply W_ret
      | with_reducible refine W_rg ?_
      | (rw [vcn]; (try simp [-map_take,-map_drop, push_cast, DP.av2, DP.av, d3AV, d3C, RD.av, ratD, dpC, dC, rC, numC, ← tens.eq_1, dAV, k1, x1, x2, y1, y2, u1, u2, v1, v2]))
      | (with_reducible refine W_condW ?_; (try simp [-map_take,-map_drop, AS.val, upd, resB, mkS_env, mkS_box, lk, entry_env, condW_true, condW_false, DP.av2, DP.av, d3AV, d3C, RD.av, ratD, dpC, dC, rC, numC, ← tens.eq_1, dAV, k1, x1, x2, y1, y2, u1, u2, v1, v2]))
      | fail)
    simp [-map_take,-map_drop, post, resAV, resAll, resOne, closeV, closeC, closeL, resD, resDL, push_cast, hout]
  have ho : (!((u == 0) && (v == 0))) = true := by
    by_cases hu : u = 0
    · rw [(eq_b hu).2, (ne_b (fun hv => huv ⟨hu, hv⟩)).2]; rfl
    · rw [(ne_b hu).2]; rfl
  rw [ho, Bool.true_and] at hout
  refine Eval.intro Tryz.func25 rfl Tryz.call25 _ _ (Nat.le_of_ble_eq_true rfl) (by simp [-map_take,-map_drop, AV.refs, refsL, natAV, zAV, zC, ratAV, ratC, ptAV, ptC, sgAV, sgC, d3sAV, rAV, rC, dAV, dC, d3AV, d3C, ratD, RD.av, DP.av, DP.av2, dpC, dotAV, push_cast]) fun hs0 => ?_
  repeat' (first
    | with_reducible first | apply thenW_n | apply W_seq
    | with_reducible refine W_rg ?_
    | (rw [vcn]; (try simp [-map_take,-map_drop, push_cast, DP.av2, DP.av, d3AV, d3C, RD.av, ratD, dpC, dC, rC, numC, ← tens.eq_1, dAV, k1]))
    | fail)
  refine CallG_of (e1) rfl rfl rfl ?_
  try dsimp only
  repeat' (first
    | (rw [vcn]; (try simp [-map_take,-map_drop, push_cast, DP.av2, DP.av, d3AV, d3C, RD.av, ratD, dpC, dC, rC, numC, ← tens.eq_1, dAV, k1, x1, x2]))
    | fail)
  refine CallG_of (e2) rfl rfl rfl ?_
  try dsimp only
  repeat' (first
    | (rw [vcn]; (try simp [-map_take,-map_drop, push_cast, DP.av2, DP.av, d3AV, d3C, RD.av, ratD, dpC, dC, rC, numC, ← tens.eq_1, dAV, y1, y2]))
    | fail)
  refine thenW_n ?_
  with_reducible refine W_condW ?_
  simp [-map_take,-map_drop, AS.val, upd, resB, mkS_env, mkS_box, lk, entry_env, condW_true, condW_false, y1, y2]
  refine W_skip (thenW_n (W_seq ?_))
  refine W_joinQ (X := Unit) (fun _ => [(0, i64V k), (3, i64V n), (5, .bp 5 0), (6, .bp 6 0)]) (fun _ => [(5, .mut 43 (d3C a.x a.y a.w ++ d3C b.x b.y b.w)), (6, .mut 43 (d3C c.x c.y c.w ++ d3C d.x d.y d.w))]) (fun _ => True) ?_ fun _ _ => ?_
  · by_cases hu : u = 0
    · obtain ⟨u1, u2⟩ := eq_b hu
      obtain ⟨v1, v2⟩ := ne_b (fun hv => huv ⟨hu, hv⟩)
      repeat' (first
        | with_reducible apply W_seq
        | with_reducible refine W_rg ?_
        | (rw [vcn]; (try simp [-map_take,-map_drop, push_cast, DP.av2, DP.av, d3AV, d3C, RD.av, ratD, dpC, dC, rC, numC, ← tens.eq_1, dAV]))
        | fail)
      refine CallG_of (e3) rfl rfl rfl ?_
      try dsimp only
      repeat' (first
        | (rw [vcn]; (try simp [-map_take,-map_drop, push_cast, DP.av2, DP.av, d3AV, d3C, RD.av, ratD, dpC, dC, rC, numC, ← tens.eq_1, dAV, u1, u2]))
        | fail)
      refine CallG_of (e4) rfl rfl rfl ?_
      try dsimp only
      repeat' (first
        | with_reducible first | apply thenW_n | apply W_skip
        | (rw [vcn]; (try simp [-map_take,-map_drop, push_cast, DP.av2, DP.av, d3AV, d3C, RD.av, ratD, dpC, dC, rC, numC, ← tens.eq_1, dAV, v1, v2]))
        | (with_reducible refine W_condW ?_; (try simp [-map_take,-map_drop, AS.val, upd, resB, mkS_env, mkS_box, lk, entry_env, condW_true, condW_false, DP.av2, DP.av, d3AV, d3C, RD.av, ratD, dpC, dC, rC, numC, ← tens.eq_1, dAV, v1, v2]))
        | fail)
      refine joinW_n () id trivial ⟨?_, ?_, ?_, ?_, ?_, ?_⟩
      all_goals first | (simp [-map_take,-map_drop, push_cast, dV_take, dV_drop, DP.av2, DP.av, d3AV, d3C, RD.av, ratD, dpC, dC, rC, numC, ← tens.eq_1, dAV]; done)
    · obtain ⟨u1, u2⟩ := ne_b hu
      repeat' (first
        | with_reducible apply W_seq
        | with_reducible refine W_rg ?_
        | (rw [vcn]; (try simp [-map_take,-map_drop, push_cast, DP.av2, DP.av, d3AV, d3C, RD.av, ratD, dpC, dC, rC, numC, ← tens.eq_1, dAV]))
        | fail)
      refine CallG_of (e3) rfl rfl rfl ?_
      try dsimp only
      repeat' (first
        | with_reducible first | apply thenW_n | apply W_skip
        | (rw [vcn]; (try simp [-map_take,-map_drop, push_cast, DP.av2, DP.av, d3AV, d3C, RD.av, ratD, dpC, dC, rC, numC, ← tens.eq_1, dAV, u1, u2]))
        | (with_reducible refine W_condW ?_; (try simp [-map_take,-map_drop, AS.val, upd, resB, mkS_env, mkS_box, lk, entry_env, condW_true, condW_false, DP.av2, DP.av, d3AV, d3C, RD.av, ratD, dpC, dC, rC, numC, ← tens.eq_1, dAV, u1, u2]))
        | fail)
      refine joinW_n () id trivial ⟨?_, ?_, ?_, ?_, ?_, ?_⟩
      all_goals first | (simp [-map_take,-map_drop, push_cast, dV_take, dV_drop, DP.av2, DP.av, d3AV, d3C, RD.av, ratD, dpC, dC, rC, numC, ← tens.eq_1, dAV]; done)
  clear e1 e2 e3 e4 huv ho x1 x2 x3 y1 y2 y3 k1
  by_cases hk : k = 1
  · obtain ⟨k1, l1⟩ := eq_b (show k = 1 from hk)
    obtain ⟨k6, l6⟩ := ne_b (show k ≠ 6 by omega)
    obtain ⟨k2, l2⟩ := ne_b (show k ≠ 2 by omega)
    obtain ⟨k3, l3⟩ := ne_b (show k ≠ 3 by omega)
    obtain ⟨k4, l4⟩ := ne_b (show k ≠ 4 by omega)
    obtain ⟨k5, l5⟩ := ne_b (show k ≠ 5 by omega)
    have hr : kindR k w m1 m2 m3 = (decide (w < 0) && m1) := by unfold kindR; simp [-map_take,-map_drop, k1, l1, k2, l2, k3, l3, k4, l4, k5, l5, k6, l6]
    rw [hr] at hout
    by_cases hw : w < 0
    · have w1 : (w < 0) = True := eq_true hw
      rw [decide_eq_true hw, Bool.true_and] at hout
      repeat' (first
        | with_reducible apply W_seq
        | with_reducible refine W_rg ?_
        | (rw [vcn]; (try simp [-map_take,-map_drop, push_cast, DP.av2, DP.av, d3AV, d3C, RD.av, ratD, dpC, dC, rC, numC, ← tens.eq_1, dAV, k1, l1, k2, l2, k3, l3, k4, l4, k5, l5, k6, l6]))
        | fail)
      refine CallG_of (e5) rfl rfl rfl ?_
      try dsimp only
      repeat' (first
        | with_reducible first | apply thenW_n | apply W_seq | apply W_block | apply W_skip
        | with_reducible refine W_rg ?_
        | (rw [vcn]; (try simp [-map_take,-map_drop, push_cast, DP.av2, DP.av, d3AV, d3C, RD.av, ratD, dpC, dC, rC, numC, ← tens.eq_1, dAV, w1, k1, l1, k2, l2, k3, l3, k4, l4, k5, l5, k6, l6]))
        | (with_reducible refine W_condW ?_; (try simp [-map_take,-map_drop, AS.val, upd, resB, mkS_env, mkS_box, lk, entry_env, condW_true, condW_false, DP.av2, DP.av, d3AV, d3C, RD.av, ratD, dpC, dC, rC, numC, ← tens.eq_1, dAV, w1, k1, l1, k2, l2, k3, l3, k4, l4, k5, l5, k6, l6]))
        | fail)
      refine CallG_of (n1) rfl rfl rfl ?_
      try dsimp only
      repeat' (first
        | with_reducible first | apply thenW_n | apply thenW_ret | apply blockW_ret | apply W_ret
        | (rw [vcn]; (try simp [-map_take,-map_drop, push_cast, DP.av2, DP.av, d3AV, d3C, RD.av, ratD, dpC, dC, rC, numC, ← tens.eq_1, dAV, w1, k1, l1, k2, l2, k3, l3, k4, l4, k5, l5, k6, l6]))
        | fail)
      simp [-map_take,-map_drop, post, resAV, resAll, resOne, closeV, closeC, closeL, resD, resDL, push_cast, hout]
    · have w1 : (w < 0) = False := eq_false hw
      rw [decide_eq_false hw, Bool.false_and] at hout
      repeat' (first
        | with_reducible apply W_seq
        | with_reducible refine W_rg ?_
        | (rw [vcn]; (try simp [-map_take,-map_drop, push_cast, DP.av2, DP.av, d3AV, d3C, RD.av, ratD, dpC, dC, rC, numC, ← tens.eq_1, dAV, k1, l1, k2, l2, k3, l3, k4, l4, k5, l5, k6, l6]))
        | fail)
      refine CallG_of (e5) rfl rfl rfl ?_
      try dsimp only
      repeat' (first
        | with_reducible first | apply thenW_n | apply thenW_ret | apply blockW_ret | apply W_seq | apply W_block | apply W_skip | apply W_ret
        | with_reducible refine W_rg ?_
        | (rw [vcn]; (try simp [-map_take,-map_drop, push_cast, DP.av2, DP.av, d3AV, d3C, RD.av, ratD, dpC, dC, rC, numC, ← tens.eq_1, dAV, w1, k1, l1, k2, l2, k3, l3, k4, l4, k5, l5, k6, l6]))
        | (with_reducible refine W_condW ?_; (try simp [-map_take,-map_drop, AS.val, upd, resB, mkS_env, mkS_box, lk, entry_env, condW_true, condW_false, DP.av2, DP.av, d3AV, d3C, RD.av, ratD, dpC, dC, rC, numC, ← tens.eq_1, dAV, w1, k1, l1, k2, l2, k3, l3, k4, l4, k5, l5, k6, l6]))
        | fail)
      simp [-map_take,-map_drop, post, resAV, resAll, resOne, closeV, closeC, closeL, resD, resDL, push_cast, hout]
  by_cases hk : k = 6
  · obtain ⟨k1, l1⟩ := ne_b (show k ≠ 1 by omega)
    obtain ⟨k6, l6⟩ := eq_b (show k = 6 from hk)
    obtain ⟨k2, l2⟩ := ne_b (show k ≠ 2 by omega)
    obtain ⟨k3, l3⟩ := ne_b (show k ≠ 3 by omega)
    obtain ⟨k4, l4⟩ := ne_b (show k ≠ 4 by omega)
    obtain ⟨k5, l5⟩ := ne_b (show k ≠ 5 by omega)
    have hr : kindR k w m1 m2 m3 = (decide (w < 0) && m1) := by unfold kindR; simp [-map_take,-map_drop, k1, l1, k2, l2, k3, l3, k4, l4, k5, l5, k6, l6]
    rw [hr] at hout
    by_cases hw : w < 0
    · have w1 : (w < 0) = True := eq_true hw
      rw [decide_eq_true hw, Bool.true_and] at hout
      repeat' (first
        | with_reducible apply W_seq
        | with_reducible refine W_rg ?_
        | (rw [vcn]; (try simp [-map_take,-map_drop, push_cast, DP.av2, DP.av, d3AV, d3C, RD.av, ratD, dpC, dC, rC, numC, ← tens.eq_1, dAV, k1, l1, k2, l2, k3, l3, k4, l4, k5, l5, k6, l6]))
        | fail)
      refine CallG_of (e5) rfl rfl rfl ?_
      try dsimp only
      repeat' (first
        | with_reducible first | apply thenW_n | apply W_seq | apply W_block
        | with_reducible refine W_rg ?_
        | (rw [vcn]; (try simp [-map_take,-map_drop, push_cast, DP.av2, DP.av, d3AV, d3C, RD.av, ratD, dpC, dC, rC, numC, ← tens.eq_1, dAV, w1, k1, l1, k2, l2, k3, l3, k4, l4, k5, l5, k6, l6]))
        | (with_reducible refine W_condW ?_; (try simp [-map_take,-map_drop, AS.val, upd, resB, mkS_env, mkS_box, lk, entry_env, condW_true, condW_false, DP.av2, DP.av, d3AV, d3C, RD.av, ratD, dpC, dC, rC, numC, ← tens.eq_1, dAV, w1, k1, l1, k2, l2, k3, l3, k4, l4, k5, l5, k6, l6]))
        | fail)
      refine CallG_of (n1) rfl rfl rfl ?_
      try dsimp only
      repeat' (first
        | with_reducible first | apply thenW_n | apply thenW_ret | apply blockW_ret | apply W_ret
        | (rw [vcn]; (try simp [-map_take,-map_drop, push_cast, DP.av2, DP.av, d3AV, d3C, RD.av, ratD, dpC, dC, rC, numC, ← tens.eq_1, dAV, w1, k1, l1, k2, l2, k3, l3, k4, l4, k5, l5, k6, l6]))
        | fail)
      simp [-map_take,-map_drop, post, resAV, resAll, resOne, closeV, closeC, closeL, resD, resDL, push_cast, hout]
    · have w1 : (w < 0) = False := eq_false hw
      rw [decide_eq_false hw, Bool.false_and] at hout
      repeat' (first
        | with_reducible apply W_seq
        | with_reducible refine W_rg ?_
        | (rw [vcn]; (try simp [-map_take,-map_drop, push_cast, DP.av2, DP.av, d3AV, d3C, RD.av, ratD, dpC, dC, rC, numC, ← tens.eq_1, dAV, k1, l1, k2, l2, k3, l3, k4, l4, k5, l5, k6, l6]))
        | fail)
      refine CallG_of (e5) rfl rfl rfl ?_
      try dsimp only
      repeat' (first
        | with_reducible first | apply thenW_n | apply thenW_ret | apply blockW_ret | apply W_seq | apply W_block | apply W_ret
        | with_reducible refine W_rg ?_
        | (rw [vcn]; (try simp [-map_take,-map_drop, push_cast, DP.av2, DP.av, d3AV, d3C, RD.av, ratD, dpC, dC, rC, numC, ← tens.eq_1, dAV, w1, k1, l1, k2, l2, k3, l3, k4, l4, k5, l5, k6, l6]))
        | (with_reducible refine W_condW ?_; (try simp [-map_take,-map_drop, AS.val, upd, resB, mkS_env, mkS_box, lk, entry_env, condW_true, condW_false, DP.av2, DP.av, d3AV, d3C, RD.av, ratD, dpC, dC, rC, numC, ← tens.eq_1, dAV, w1, k1, l1, k2, l2, k3, l3, k4, l4, k5, l5, k6, l6]))
        | fail)
      simp [-map_take,-map_drop, post, resAV, resAll, resOne, closeV, closeC, closeL, resD, resDL, push_cast, hout]
  by_cases hk : k = 2
  · obtain ⟨k1, l1⟩ := ne_b (show k ≠ 1 by omega)
    obtain ⟨k6, l6⟩ := ne_b (show k ≠ 6 by omega)
    obtain ⟨k2, l2⟩ := eq_b (show k = 2 from hk)
    obtain ⟨k3, l3⟩ := ne_b (show k ≠ 3 by omega)
    obtain ⟨k4, l4⟩ := ne_b (show k ≠ 4 by omega)
    obtain ⟨k5, l5⟩ := ne_b (show k ≠ 5 by omega)
    have hr : kindR k w m1 m2 m3 = (decide (w < 0) && m2) := by unfold kindR; simp [-map_take,-map_drop, k1, l1, k2, l2, k3, l3, k4, l4, k5, l5, k6, l6]
    rw [hr] at hout
    by_cases hw : w < 0
    · have w1 : (w < 0) = True := eq_true hw
      rw [decide_eq_true hw, Bool.true_and] at hout
      repeat' (first
        | with_reducible apply W_seq
        | with_reducible refine W_rg ?_
        | (rw [vcn]; (try simp [-map_take,-map_drop, push_cast, DP.av2, DP.av, d3AV, d3C, RD.av, ratD, dpC, dC, rC, numC, ← tens.eq_1, dAV, k1, l1, k2, l2, k3, l3, k4, l4, k5, l5, k6, l6]))
        | fail)
      refine CallG_of (e5) rfl rfl rfl ?_
      try dsimp only
      repeat' (first
        | with_reducible first | apply thenW_n | apply W_seq | apply W_block | apply W_skip
        | with_reducible refine W_rg ?_
        | (rw [vcn]; (try simp [-map_take,-map_drop, push_cast, DP.av2, DP.av, d3AV, d3C, RD.av, ratD, dpC, dC, rC, numC, ← tens.eq_1, dAV, w1, k1, l1, k2, l2, k3, l3, k4, l4, k5, l5, k6, l6]))
        | with_reducible refine W_drawn mixed (by decide) (by kernel_rfl) ?_
        | (rw [vcnD]; (try simp [-map_take,-map_drop, push_cast, DP.av2, DP.av, d3AV, d3C, RD.av, ratD, dpC, dC, rC, numC, ← tens.eq_1, dAV, w1, k1, l1, k2, l2, k3, l3, k4, l4, k5, l5, k6, l6]))
        | (with_reducible refine W_condW ?_; (try simp [-map_take,-map_drop, AS.val, upd, resB, mkS_env, mkS_box, lk, entry_env, condW_true, condW_false, DP.av2, DP.av, d3AV, d3C, RD.av, ratD, dpC, dC, rC, numC, ← tens.eq_1, dAV, w1, k1, l1, k2, l2, k3, l3, k4, l4, k5, l5, k6, l6]))
        | fail)
      refine callD_of (t1) rfl rfl rfl ?_
      try dsimp only
      repeat' (first
        | (rw [vcnD]; (try simp [-map_take,-map_drop, push_cast, DP.av2, DP.av, d3AV, d3C, RD.av, ratD, dpC, dC, rC, numC, ← tens.eq_1, dAV, w1, k1, l1, k2, l2, k3, l3, k4, l4, k5, l5, k6, l6]))
        | fail)
      refine callD_of (t2) rfl rfl rfl ?_
      try dsimp only
      repeat' (first
        | (rw [vcnD]; (try simp [-map_take,-map_drop, push_cast, DP.av2, DP.av, d3AV, d3C, RD.av, ratD, dpC, dC, rC, numC, ← tens.eq_1, dAV, w1, k1, l1, k2, l2, k3, l3, k4, l4, k5, l5, k6, l6]))
        | fail)
      refine callD_of (n2) rfl rfl rfl ?_
      try dsimp only
      repeat' (first
        | with_reducible first | apply thenW_n | apply thenW_ret | apply blockW_ret | apply W_ret
        | (rw [vcnD]; (try simp [-map_take,-map_drop, push_cast, DP.av2, DP.av, d3AV, d3C, RD.av, ratD, dpC, dC, rC, numC, ← tens.eq_1, dAV, w1, k1, l1, k2, l2, k3, l3, k4, l4, k5, l5, k6, l6]))
        | refine And.intro (by first | omega | kernel_rfl) ?_
        | fail)
      simp [-map_take,-map_drop, post, resAV, resAll, resOne, closeV, closeC, closeL, resD, resDL, push_cast, hout]
    · have w1 : (w < 0) = False := eq_false hw
      rw [decide_eq_false hw, Bool.false_and] at hout
      repeat' (first
        | with_reducible apply W_seq
        | with_reducible refine W_rg ?_
        | (rw [vcn]; (try simp [-map_take,-map_drop, push_cast, DP.av2, DP.av, d3AV, d3C, RD.av, ratD, dpC, dC, rC, numC, ← tens.eq_1, dAV, k1, l1, k2, l2, k3, l3, k4, l4, k5, l5, k6, l6]))
        | fail)
      refine CallG_of (e5) rfl rfl rfl ?_
      try dsimp only
      repeat' (first
        | with_reducible first | apply thenW_n | apply thenW_ret | apply blockW_ret | apply W_seq | apply W_block | apply W_skip | apply W_ret
        | with_reducible refine W_rg ?_
        | (rw [vcn]; (try simp [-map_take,-map_drop, push_cast, DP.av2, DP.av, d3AV, d3C, RD.av, ratD, dpC, dC, rC, numC, ← tens.eq_1, dAV, w1, k1, l1, k2, l2, k3, l3, k4, l4, k5, l5, k6, l6]))
        | with_reducible refine W_drawn mixed (by decide) (by kernel_rfl) ?_
        | (rw [vcnD]; (try simp [-map_take,-map_drop, push_cast, DP.av2, DP.av, d3AV, d3C, RD.av, ratD, dpC, dC, rC, numC, ← tens.eq_1, dAV, w1, k1, l1, k2, l2, k3, l3, k4, l4, k5, l5, k6, l6]))
        | (with_reducible refine W_condW ?_; (try simp [-map_take,-map_drop, AS.val, upd, resB, mkS_env, mkS_box, lk, entry_env, condW_true, condW_false, DP.av2, DP.av, d3AV, d3C, RD.av, ratD, dpC, dC, rC, numC, ← tens.eq_1, dAV, w1, k1, l1, k2, l2, k3, l3, k4, l4, k5, l5, k6, l6]))
        | refine And.intro (by first | omega | kernel_rfl) ?_
        | fail)
      simp [-map_take,-map_drop, post, resAV, resAll, resOne, closeV, closeC, closeL, resD, resDL, push_cast, hout]
  by_cases hk : k = 3
  · obtain ⟨k1, l1⟩ := ne_b (show k ≠ 1 by omega)
    obtain ⟨k6, l6⟩ := ne_b (show k ≠ 6 by omega)
    obtain ⟨k2, l2⟩ := ne_b (show k ≠ 2 by omega)
    obtain ⟨k3, l3⟩ := eq_b (show k = 3 from hk)
    obtain ⟨k4, l4⟩ := ne_b (show k ≠ 4 by omega)
    obtain ⟨k5, l5⟩ := ne_b (show k ≠ 5 by omega)
    have hr : kindR k w m1 m2 m3 = (decide (w < 0) && m2) := by unfold kindR; simp [-map_take,-map_drop, k1, l1, k2, l2, k3, l3, k4, l4, k5, l5, k6, l6]
    rw [hr] at hout
    by_cases hw : w < 0
    · have w1 : (w < 0) = True := eq_true hw
      rw [decide_eq_true hw, Bool.true_and] at hout
      repeat' (first
        | with_reducible apply W_seq
        | with_reducible refine W_rg ?_
        | (rw [vcn]; (try simp [-map_take,-map_drop, push_cast, DP.av2, DP.av, d3AV, d3C, RD.av, ratD, dpC, dC, rC, numC, ← tens.eq_1, dAV, k1, l1, k2, l2, k3, l3, k4, l4, k5, l5, k6, l6]))
        | fail)
      refine CallG_of (e5) rfl rfl rfl ?_
      try dsimp only
      repeat' (first
        | with_reducible first | apply thenW_n | apply W_seq | apply W_block | apply W_skip
        | with_reducible refine W_rg ?_
        | (rw [vcn]; (try simp [-map_take,-map_drop, push_cast, DP.av2, DP.av, d3AV, d3C, RD.av, ratD, dpC, dC, rC, numC, ← tens.eq_1, dAV, w1, k1, l1, k2, l2, k3, l3, k4, l4, k5, l5, k6, l6]))
        | with_reducible refine W_drawn mixed (by decide) (by kernel_rfl) ?_
        | (rw [vcnD]; (try simp [-map_take,-map_drop, push_cast, DP.av2, DP.av, d3AV, d3C, RD.av, ratD, dpC, dC, rC, numC, ← tens.eq_1, dAV, w1, k1, l1, k2, l2, k3, l3, k4, l4, k5, l5, k6, l6]))
        | (with_reducible refine W_condW ?_; (try simp [-map_take,-map_drop, AS.val, upd, resB, mkS_env, mkS_box, lk, entry_env, condW_true, condW_false, DP.av2, DP.av, d3AV, d3C, RD.av, ratD, dpC, dC, rC, numC, ← tens.eq_1, dAV, w1, k1, l1, k2, l2, k3, l3, k4, l4, k5, l5, k6, l6]))
        | fail)
      refine callD_of (t1) rfl rfl rfl ?_
      try dsimp only
      repeat' (first
        | (rw [vcnD]; (try simp [-map_take,-map_drop, push_cast, DP.av2, DP.av, d3AV, d3C, RD.av, ratD, dpC, dC, rC, numC, ← tens.eq_1, dAV, w1, k1, l1, k2, l2, k3, l3, k4, l4, k5, l5, k6, l6]))
        | fail)
      refine callD_of (t2) rfl rfl rfl ?_
      try dsimp only
      repeat' (first
        | (rw [vcnD]; (try simp [-map_take,-map_drop, push_cast, DP.av2, DP.av, d3AV, d3C, RD.av, ratD, dpC, dC, rC, numC, ← tens.eq_1, dAV, w1, k1, l1, k2, l2, k3, l3, k4, l4, k5, l5, k6, l6]))
        | fail)
      refine callD_of (n2) rfl rfl rfl ?_
      try dsimp only
      repeat' (first
        | with_reducible first | apply thenW_n | apply thenW_ret | apply blockW_ret | apply W_ret
        | (rw [vcnD]; (try simp [-map_take,-map_drop, push_cast, DP.av2, DP.av, d3AV, d3C, RD.av, ratD, dpC, dC, rC, numC, ← tens.eq_1, dAV, w1, k1, l1, k2, l2, k3, l3, k4, l4, k5, l5, k6, l6]))
        | refine And.intro (by first | omega | kernel_rfl) ?_
        | fail)
      simp [-map_take,-map_drop, post, resAV, resAll, resOne, closeV, closeC, closeL, resD, resDL, push_cast, hout]
    · have w1 : (w < 0) = False := eq_false hw
      rw [decide_eq_false hw, Bool.false_and] at hout
      repeat' (first
        | with_reducible apply W_seq
        | with_reducible refine W_rg ?_
        | (rw [vcn]; (try simp [-map_take,-map_drop, push_cast, DP.av2, DP.av, d3AV, d3C, RD.av, ratD, dpC, dC, rC, numC, ← tens.eq_1, dAV, k1, l1, k2, l2, k3, l3, k4, l4, k5, l5, k6, l6]))
        | fail)
      refine CallG_of (e5) rfl rfl rfl ?_
      try dsimp only
      repeat' (first
        | with_reducible first | apply thenW_n | apply thenW_ret | apply blockW_ret | apply W_seq | apply W_block | apply W_skip | apply W_ret
        | with_reducible refine W_rg ?_
        | (rw [vcn]; (try simp [-map_take,-map_drop, push_cast, DP.av2, DP.av, d3AV, d3C, RD.av, ratD, dpC, dC, rC, numC, ← tens.eq_1, dAV, w1, k1, l1, k2, l2, k3, l3, k4, l4, k5, l5, k6, l6]))
        | with_reducible refine W_drawn mixed (by decide) (by kernel_rfl) ?_
        | (rw [vcnD]; (try simp [-map_take,-map_drop, push_cast, DP.av2, DP.av, d3AV, d3C, RD.av, ratD, dpC, dC, rC, numC, ← tens.eq_1, dAV, w1, k1, l1, k2, l2, k3, l3, k4, l4, k5, l5, k6, l6]))
        | (with_reducible refine W_condW ?_; (try simp [-map_take,-map_drop, AS.val, upd, resB, mkS_env, mkS_box, lk, entry_env, condW_true, condW_false, DP.av2, DP.av, d3AV, d3C, RD.av, ratD, dpC, dC, rC, numC, ← tens.eq_1, dAV, w1, k1, l1, k2, l2, k3, l3, k4, l4, k5, l5, k6, l6]))
        | refine And.intro (by first | omega | kernel_rfl) ?_
        | fail)
      simp [-map_take,-map_drop, post, resAV, resAll, resOne, closeV, closeC, closeL, resD, resDL, push_cast, hout]
  by_cases hk : k = 4
  · obtain ⟨k1, l1⟩ := ne_b (show k ≠ 1 by omega)
    obtain ⟨k6, l6⟩ := ne_b (show k ≠ 6 by omega)
    obtain ⟨k2, l2⟩ := ne_b (show k ≠ 2 by omega)
    obtain ⟨k3, l3⟩ := ne_b (show k ≠ 3 by omega)
    obtain ⟨k4, l4⟩ := eq_b (show k = 4 from hk)
    obtain ⟨k5, l5⟩ := ne_b (show k ≠ 5 by omega)
    have hr : kindR k w m1 m2 m3 = (decide (w < 0) && m2) := by unfold kindR; simp [-map_take,-map_drop, k1, l1, k2, l2, k3, l3, k4, l4, k5, l5, k6, l6]
    rw [hr] at hout
    by_cases hw : w < 0
    · have w1 : (w < 0) = True := eq_true hw
      rw [decide_eq_true hw, Bool.true_and] at hout
      repeat' (first
        | with_reducible apply W_seq
        | with_reducible refine W_rg ?_
        | (rw [vcn]; (try simp [-map_take,-map_drop, push_cast, DP.av2, DP.av, d3AV, d3C, RD.av, ratD, dpC, dC, rC, numC, ← tens.eq_1, dAV, k1, l1, k2, l2, k3, l3, k4, l4, k5, l5, k6, l6]))
        | fail)
      refine CallG_of (e5) rfl rfl rfl ?_
      try dsimp only
      repeat' (first
        | with_reducible first | apply thenW_n | apply W_seq | apply W_block
        | with_reducible refine W_rg ?_
        | (rw [vcn]; (try simp [-map_take,-map_drop, push_cast, DP.av2, DP.av, d3AV, d3C, RD.av, ratD, dpC, dC, rC, numC, ← tens.eq_1, dAV, w1, k1, l1, k2, l2, k3, l3, k4, l4, k5, l5, k6, l6]))
        | with_reducible refine W_drawn mixed (by decide) (by kernel_rfl) ?_
        | (rw [vcnD]; (try simp [-map_take,-map_drop, push_cast, DP.av2, DP.av, d3AV, d3C, RD.av, ratD, dpC, dC, rC, numC, ← tens.eq_1, dAV, w1, k1, l1, k2, l2, k3, l3, k4, l4, k5, l5, k6, l6]))
        | (with_reducible refine W_condW ?_; (try simp [-map_take,-map_drop, AS.val, upd, resB, mkS_env, mkS_box, lk, entry_env, condW_true, condW_false, DP.av2, DP.av, d3AV, d3C, RD.av, ratD, dpC, dC, rC, numC, ← tens.eq_1, dAV, w1, k1, l1, k2, l2, k3, l3, k4, l4, k5, l5, k6, l6]))
        | fail)
      refine callD_of (t1) rfl rfl rfl ?_
      try dsimp only
      repeat' (first
        | (rw [vcnD]; (try simp [-map_take,-map_drop, push_cast, DP.av2, DP.av, d3AV, d3C, RD.av, ratD, dpC, dC, rC, numC, ← tens.eq_1, dAV, w1, k1, l1, k2, l2, k3, l3, k4, l4, k5, l5, k6, l6]))
        | fail)
      refine callD_of (t2) rfl rfl rfl ?_
      try dsimp only
      repeat' (first
        | (rw [vcnD]; (try simp [-map_take,-map_drop, push_cast, DP.av2, DP.av, d3AV, d3C, RD.av, ratD, dpC, dC, rC, numC, ← tens.eq_1, dAV, w1, k1, l1, k2, l2, k3, l3, k4, l4, k5, l5, k6, l6]))
        | fail)
      refine callD_of (n2) rfl rfl rfl ?_
      try dsimp only
      repeat' (first
        | with_reducible first | apply thenW_n | apply thenW_ret | apply blockW_ret | apply W_ret
        | (rw [vcnD]; (try simp [-map_take,-map_drop, push_cast, DP.av2, DP.av, d3AV, d3C, RD.av, ratD, dpC, dC, rC, numC, ← tens.eq_1, dAV, w1, k1, l1, k2, l2, k3, l3, k4, l4, k5, l5, k6, l6]))
        | refine And.intro (by first | omega | kernel_rfl) ?_
        | fail)
      simp [-map_take,-map_drop, post, resAV, resAll, resOne, closeV, closeC, closeL, resD, resDL, push_cast, hout]
    · have w1 : (w < 0) = False := eq_false hw
      rw [decide_eq_false hw, Bool.false_and] at hout
      repeat' (first
        | with_reducible apply W_seq
        | with_reducible refine W_rg ?_
        | (rw [vcn]; (try simp [-map_take,-map_drop, push_cast, DP.av2, DP.av, d3AV, d3C, RD.av, ratD, dpC, dC, rC, numC, ← tens.eq_1, dAV, k1, l1, k2, l2, k3, l3, k4, l4, k5, l5, k6, l6]))
        | fail)
      refine CallG_of (e5) rfl rfl rfl ?_
      try dsimp only
      repeat' (first
        | with_reducible first | apply thenW_n | apply thenW_ret | apply blockW_ret | apply W_seq | apply W_block | apply W_ret
        | with_reducible refine W_rg ?_
        | (rw [vcn]; (try simp [-map_take,-map_drop, push_cast, DP.av2, DP.av, d3AV, d3C, RD.av, ratD, dpC, dC, rC, numC, ← tens.eq_1, dAV, w1, k1, l1, k2, l2, k3, l3, k4, l4, k5, l5, k6, l6]))
        | with_reducible refine W_drawn mixed (by decide) (by kernel_rfl) ?_
        | (rw [vcnD]; (try simp [-map_take,-map_drop, push_cast, DP.av2, DP.av, d3AV, d3C, RD.av, ratD, dpC, dC, rC, numC, ← tens.eq_1, dAV, w1, k1, l1, k2, l2, k3, l3, k4, l4, k5, l5, k6, l6]))
        | (with_reducible refine W_condW ?_; (try simp [-map_take,-map_drop, AS.val, upd, resB, mkS_env, mkS_box, lk, entry_env, condW_true, condW_false, DP.av2, DP.av, d3AV, d3C, RD.av, ratD, dpC, dC, rC, numC, ← tens.eq_1, dAV, w1, k1, l1, k2, l2, k3, l3, k4, l4, k5, l5, k6, l6]))
        | refine And.intro (by first | omega | kernel_rfl) ?_
        | fail)
      simp [-map_take,-map_drop, post, resAV, resAll, resOne, closeV, closeC, closeL, resD, resDL, push_cast, hout]
  by_cases hk : k = 5
  · obtain ⟨k1, l1⟩ := ne_b (show k ≠ 1 by omega)
    obtain ⟨k6, l6⟩ := ne_b (show k ≠ 6 by omega)
    obtain ⟨k2, l2⟩ := ne_b (show k ≠ 2 by omega)
    obtain ⟨k3, l3⟩ := ne_b (show k ≠ 3 by omega)
    obtain ⟨k4, l4⟩ := ne_b (show k ≠ 4 by omega)
    obtain ⟨k5, l5⟩ := eq_b (show k = 5 from hk)
    have hr : kindR k w m1 m2 m3 = (decide (0 < w) && m3) := by unfold kindR; simp [-map_take,-map_drop, k1, l1, k2, l2, k3, l3, k4, l4, k5, l5, k6, l6]
    rw [hr] at hout
    by_cases hw : 0 < w
    · have w1 : (0 < w) = True := eq_true hw
      rw [decide_eq_true hw, Bool.true_and] at hout
      repeat' (first
        | with_reducible apply W_seq
        | with_reducible refine W_rg ?_
        | (rw [vcn]; (try simp [-map_take,-map_drop, push_cast, DP.av2, DP.av, d3AV, d3C, RD.av, ratD, dpC, dC, rC, numC, ← tens.eq_1, dAV, k1, l1, k2, l2, k3, l3, k4, l4, k5, l5, k6, l6]))
        | fail)
      refine CallG_of (e5) rfl rfl rfl ?_
      try dsimp only
      repeat' (first
        | with_reducible first | apply thenW_n | apply W_seq | apply W_block
        | with_reducible refine W_rg ?_
        | (rw [vcn]; (try simp [-map_take,-map_drop, push_cast, DP.av2, DP.av, d3AV, d3C, RD.av, ratD, dpC, dC, rC, numC, ← tens.eq_1, dAV, w1, k1, l1, k2, l2, k3, l3, k4, l4, k5, l5, k6, l6]))
        | with_reducible refine W_drawn mixed (by decide) (by kernel_rfl) ?_
        | (rw [vcnD]; (try simp [-map_take,-map_drop, push_cast, DP.av2, DP.av, d3AV, d3C, RD.av, ratD, dpC, dC, rC, numC, ← tens.eq_1, dAV, w1, k1, l1, k2, l2, k3, l3, k4, l4, k5, l5, k6, l6]))
        | (with_reducible refine W_condW ?_; (try simp [-map_take,-map_drop, AS.val, upd, resB, mkS_env, mkS_box, lk, entry_env, condW_true, condW_false, DP.av2, DP.av, d3AV, d3C, RD.av, ratD, dpC, dC, rC, numC, ← tens.eq_1, dAV, w1, k1, l1, k2, l2, k3, l3, k4, l4, k5, l5, k6, l6]))
        | fail)
      refine callD_of (t1) rfl rfl rfl ?_
      try dsimp only
      repeat' (first
        | (rw [vcnD]; (try simp [-map_take,-map_drop, push_cast, DP.av2, DP.av, d3AV, d3C, RD.av, ratD, dpC, dC, rC, numC, ← tens.eq_1, dAV, w1, k1, l1, k2, l2, k3, l3, k4, l4, k5, l5, k6, l6]))
        | fail)
      refine callD_of (n3) rfl rfl rfl ?_
      try dsimp only
      repeat' (first
        | with_reducible first | apply thenW_n | apply thenW_ret | apply blockW_ret | apply W_ret
        | (rw [vcnD]; (try simp [-map_take,-map_drop, push_cast, DP.av2, DP.av, d3AV, d3C, RD.av, ratD, dpC, dC, rC, numC, ← tens.eq_1, dAV, w1, k1, l1, k2, l2, k3, l3, k4, l4, k5, l5, k6, l6]))
        | refine And.intro (by first | omega | kernel_rfl) ?_
        | fail)
      simp [-map_take,-map_drop, post, resAV, resAll, resOne, closeV, closeC, closeL, resD, resDL, push_cast, hout]
    · have w1 : (0 < w) = False := eq_false hw
      rw [decide_eq_false hw, Bool.false_and] at hout
      repeat' (first
        | with_reducible apply W_seq
        | with_reducible refine W_rg ?_
        | (rw [vcn]; (try simp [-map_take,-map_drop, push_cast, DP.av2, DP.av, d3AV, d3C, RD.av, ratD, dpC, dC, rC, numC, ← tens.eq_1, dAV, k1, l1, k2, l2, k3, l3, k4, l4, k5, l5, k6, l6]))
        | fail)
      refine CallG_of (e5) rfl rfl rfl ?_
      try dsimp only
      repeat' (first
        | with_reducible first | apply thenW_n | apply thenW_ret | apply blockW_ret | apply W_seq | apply W_block | apply W_ret
        | with_reducible refine W_rg ?_
        | (rw [vcn]; (try simp [-map_take,-map_drop, push_cast, DP.av2, DP.av, d3AV, d3C, RD.av, ratD, dpC, dC, rC, numC, ← tens.eq_1, dAV, w1, k1, l1, k2, l2, k3, l3, k4, l4, k5, l5, k6, l6]))
        | with_reducible refine W_drawn mixed (by decide) (by kernel_rfl) ?_
        | (rw [vcnD]; (try simp [-map_take,-map_drop, push_cast, DP.av2, DP.av, d3AV, d3C, RD.av, ratD, dpC, dC, rC, numC, ← tens.eq_1, dAV, w1, k1, l1, k2, l2, k3, l3, k4, l4, k5, l5, k6, l6]))
        | (with_reducible refine W_condW ?_; (try simp [-map_take,-map_drop, AS.val, upd, resB, mkS_env, mkS_box, lk, entry_env, condW_true, condW_false, DP.av2, DP.av, d3AV, d3C, RD.av, ratD, dpC, dC, rC, numC, ← tens.eq_1, dAV, w1, k1, l1, k2, l2, k3, l3, k4, l4, k5, l5, k6, l6]))
        | refine And.intro (by first | omega | kernel_rfl) ?_
        | fail)
      simp [-map_take,-map_drop, post, resAV, resAll, resOne, closeV, closeC, closeL, resD, resDL, push_cast, hout]
  obtain ⟨k1, l1⟩ := ne_b (show k ≠ 1 by omega)
  obtain ⟨k6, l6⟩ := ne_b (show k ≠ 6 by omega)
  obtain ⟨k2, l2⟩ := ne_b (show k ≠ 2 by omega)
  obtain ⟨k3, l3⟩ := ne_b (show k ≠ 3 by omega)
  obtain ⟨k4, l4⟩ := ne_b (show k ≠ 4 by omega)
  obtain ⟨k5, l5⟩ := ne_b (show k ≠ 5 by omega)
  have hr : kindR k w m1 m2 m3 = (false) := by unfold kindR; simp [-map_take,-map_drop, k1, l1, k2, l2, k3, l3, k4, l4, k5, l5, k6, l6]
  rw [hr] at hout
  repeat' (first
    | with_reducible apply W_seq
    | with_reducible refine W_rg ?_
    | (rw [vcn]; (try simp [-map_take,-map_drop, push_cast, DP.av2, DP.av, d3AV, d3C, RD.av, ratD, dpC, dC, rC, numC, ← tens.eq_1, dAV, k1, l1, k2, l2, k3, l3, k4, l4, k5, l5, k6, l6]))
    | fail)
  refine CallG_of (e5) rfl rfl rfl ?_
  try dsimp only
  repeat' (first
    | with_reducible first | apply thenW_n | apply blockW_n | apply W_seq | apply W_block | apply W_skip | apply W_ret
    | with_reducible refine W_rg ?_
    | (rw [vcn]; (try simp [-map_take,-map_drop, push_cast, DP.av2, DP.av, d3AV, d3C, RD.av, ratD, dpC, dC, rC, numC, ← tens.eq_1, dAV, k1, l1, k2, l2, k3, l3, k4, l4, k5, l5, k6, l6]))
    | (with_reducible refine W_condW ?_; (try simp [-map_take,-map_drop, AS.val, upd, resB, mkS_env, mkS_box, lk, entry_env, condW_true, condW_false, DP.av2, DP.av, d3AV, d3C, RD.av, ratD, dpC, dC, rC, numC, ← tens.eq_1, dAV, k1, l1, k2, l2, k3, l3, k4, l4, k5, l5, k6, l6]))
    | fail)
  simp [-map_take,-map_drop, post, resAV, resAll, resOne, closeV, closeC, closeL, resD, resDL, push_cast, hout]
theorem lawPairFits_ok (k : Int) (a b c d : Int × Int × Int) (n : Int) (ha : inD a) (hb : inD b) (hc : inD c) (hd : inD d) (hn : inI n) : Eval Tryz.prog 6 [i64V k, dotAV a, dotAV b, dotAV c, dotAV d, i64V n] (.ret (.v (.bool true))) := by
  have za := dotD_sz ha
  have zb := dotD_sz hb
  have zc := dotD_sz hc
  have zd := dotD_sz hd
  have s1 := seg19_ok' a b ha hb
  have s2 := seg19_ok' c d hc hd
  have f1 := fun k => fits_ok k (dotsF a b) (dotsF c d) n hn (HS.dots ha hb) (HS.dots hc hd)
  have f2 := fun k => fits19R_ok k (dotD a) (dotD b) (dotD c) (dotD d) n hn (by omega)
  have he : ∀ k, fitsR k (dotD a) (dotD b) (dotD c) (dotD d) n = fitsB k (dotsF a b) (dotsF c d) n := fun k => by
    rw [Bool.eq_iff_iff, fitsR_iff (dotD_w a) (dotD_w b) (dotD_w c) (dotD_w d), fitsB_iff]
    rfl
  simp only [he] at f2
  clear he za zb zc zd ha hb hc hd hn
  obtain ⟨B, hB⟩ : ∃ B : Int → Bool, ∀ k, fitsB k (dotsF a b) (dotsF c d) n = B k := ⟨_, fun _ => rfl⟩
  simp only [hB] at f1 f2
  clear hB
  obtain ⟨E, nm_⟩ : ∃ nm0_, nm0_ = dotsF a b := ⟨_, rfl⟩
  simp only [← nm_] at s1 f1
  clear nm_
  obtain ⟨F, nm_⟩ : ∃ nm0_, nm0_ = dotsF c d := ⟨_, rfl⟩
  simp only [← nm_] at s2 f1
  clear nm_
  obtain ⟨u, nm_⟩ : ∃ nm0_, nm0_ = dotD a := ⟨_, rfl⟩
  simp only [← nm_] at s1 f2
  clear nm_
  obtain ⟨v, nm_⟩ : ∃ nm0_, nm0_ = dotD b := ⟨_, rfl⟩
  simp only [← nm_] at s1 f2
  clear nm_
  obtain ⟨w, nm_⟩ : ∃ nm0_, nm0_ = dotD c := ⟨_, rfl⟩
  simp only [← nm_] at s2 f2
  clear nm_
  obtain ⟨x, nm_⟩ : ∃ nm0_, nm0_ = dotD d := ⟨_, rfl⟩
  simp only [← nm_] at s2 f2
  clear nm_
  have g1 := f1 k
  have g2 := f2 k
  obtain ⟨t, nm_⟩ : ∃ nm0_, nm0_ = B k := ⟨_, rfl⟩
  simp only [← nm_] at g1 g2
  clear nm_
  refine Eval.intro Tryz.func6 rfl Tryz.call6 _ _ (Nat.le_of_ble_eq_true rfl) (by simp [-map_take,-map_drop, AV.refs, refsL, natAV, zAV, zC, ratAV, ratC, ptAV, ptC, sgAV, sgC, d3sAV, rAV, rC, dAV, dC, d3AV, d3C, ratD, RD.av, DP.av, DP.av2, dpC, dotAV, push_cast]) fun hs0 => ?_
  repeat' (first
    | with_reducible first | apply thenW_n | apply W_seq
    | with_reducible refine W_rg ?_
    | (rw [vcn]; (try simp [-map_take,-map_drop, push_cast, sgAV, sgC, ptAV, ptC, ratAV, ratC, zAV, zC, dotAV, DP.av2, DP.av, d3AV, d3C, RD.av, ratD, dpC, dC, rC, numC, ← tens.eq_1, dAV]))
    | fail)
  refine CallG_of (s1) rfl rfl rfl ?_
  try dsimp only
  repeat' (first
    | with_reducible first | apply thenW_n | apply W_seq
    | with_reducible refine W_rg ?_
    | (rw [vcn]; (try simp [-map_take,-map_drop, push_cast, sgAV, sgC, ptAV, ptC, ratAV, ratC, zAV, zC, dotAV, DP.av2, DP.av, d3AV, d3C, RD.av, ratD, dpC, dC, rC, numC, ← tens.eq_1, dAV]))
    | fail)
  refine CallG_of (s2) rfl rfl rfl ?_
  try dsimp only
  repeat' (first
    | with_reducible first | apply thenW_n | apply W_seq
    | (rw [vcn]; (try simp [-map_take,-map_drop, push_cast, sgAV, sgC, ptAV, ptC, ratAV, ratC, zAV, zC, dotAV, DP.av2, DP.av, d3AV, d3C, RD.av, ratD, dpC, dC, rC, numC, ← tens.eq_1, dAV]))
    | with_reducible refine W_drawn mixed (by decide) (by kernel_rfl) ?_
    | (rw [vcnD]; (try simp [-map_take,-map_drop, push_cast, sgAV, sgC, ptAV, ptC, ratAV, ratC, zAV, zC, dotAV, DP.av2, DP.av, d3AV, d3C, RD.av, ratD, dpC, dC, rC, numC, ← tens.eq_1, dAV]))
    | fail)
  refine callD_of (known19_ok) rfl rfl rfl ?_
  try dsimp only
  repeat' (first
    | (rw [vcnD]; (try simp [-map_take,-map_drop, push_cast, sgAV, sgC, ptAV, ptC, ratAV, ratC, zAV, zC, dotAV, DP.av2, DP.av, d3AV, d3C, RD.av, ratD, dpC, dC, rC, numC, ← tens.eq_1, dAV]))
    | fail)
  refine callD_of (g1) rfl rfl rfl ?_
  try dsimp only
  repeat' (first
    | (rw [vcnD]; (try simp [-map_take,-map_drop, push_cast, sgAV, sgC, ptAV, ptC, ratAV, ratC, zAV, zC, dotAV, DP.av2, DP.av, d3AV, d3C, RD.av, ratD, dpC, dC, rC, numC, ← tens.eq_1, dAV]))
    | fail)
  refine callD_of (g2) rfl rfl rfl ?_
  try dsimp only
  repeat' (first
    | with_reducible first | apply thenW_n | apply W_seq | apply W_block | apply W_skip
    | with_reducible refine W_rg ?_
    | (rw [vcn]; (try simp [-map_take,-map_drop, push_cast, sgAV, sgC, ptAV, ptC, ratAV, ratC, zAV, zC, dotAV, DP.av2, DP.av, d3AV, d3C, RD.av, ratD, dpC, dC, rC, numC, ← tens.eq_1, dAV]))
    | (rw [vcnD]; (try simp [-map_take,-map_drop, push_cast, sgAV, sgC, ptAV, ptC, ratAV, ratC, zAV, zC, dotAV, DP.av2, DP.av, d3AV, d3C, RD.av, ratD, dpC, dC, rC, numC, ← tens.eq_1, dAV]))
    | (with_reducible refine W_condW ?_; (try simp [-map_take,-map_drop, AS.val, upd, resB, mkS_env, mkS_box, lk, entry_env, condW_true, condW_false, sgAV, sgC, ptAV, ptC, ratAV, ratC, zAV, zC, dotAV, DP.av2, DP.av, d3AV, d3C, RD.av, ratD, dpC, dC, rC, numC, ← tens.eq_1, dAV]))
    | refine And.intro (by first | omega | kernel_rfl) ?_
    | fail)
  refine W_loopW (X := Nat) (fun k => [(5, i64V n), (13, .bp 13 0), (14, .bp 14 0), (15, .bp 15 0), (16, .bp 16 0), (17, i64V k)]) (fun _ => [(13, .mut 34 (sgC E)), (14, .mut 43 (d3C u.x u.y u.w ++ d3C v.x v.y v.w)), (15, .mut 34 (sgC F)), (16, .mut 43 (d3C w.x w.y w.w ++ d3C x.x x.y x.w))])
    (fun k => 7 - k) (fun k => 1 ≤ k ∧ k ≤ 7) 1 id ⟨by omega, by omega⟩ ⟨?_, ?_, ?_, ?_, ?_, ?_⟩ fun k hk => ?_
  all_goals first | (with_reducible refine W_id ?_) | (simp [-map_take,-map_drop, push_cast, dV_take, dV_drop, sgAV, sgC, ptAV, ptC, ratAV, ratC, zAV, zC, dotAV, DP.av2, DP.av, d3AV, d3C, RD.av, ratD, dpC, dC, rC, numC, ← tens.eq_1, dAV]; done)
  obtain ⟨k1, k7⟩ := hk
  by_cases hlt : ¬ k ≤ 6
  · have y1 : (k ≤ 6) = False := eq_false hlt
    have y2 : ((k : Int) ≤ 6) = False := eq_false (by omega)
    repeat' (first
      | with_reducible first | apply thenW_n | apply thenW_exit | apply blockW_same | apply loopW_exit | apply W_seq | apply W_ret | apply W_exit
      | with_reducible refine W_rg ?_
      | (rw [vcn]; (try simp [-map_take,-map_drop, push_cast, y1, y2]))
      | (with_reducible refine W_condW ?_; (try simp [-map_take,-map_drop, AS.val, upd, resB, mkS_env, mkS_box, lk, entry_env, condW_true, condW_false, y1, y2]))
      | fail)
    simp [-map_take,-map_drop, post, resAV, resAll, resOne, closeV, closeC, closeL, resD, resDL, push_cast]
  have y1 : (k ≤ 6) = True := eq_true (by omega)
  have y2 : ((k : Int) ≤ 6) = True := eq_true (by omega)
  have w1 : IntKind.i64.wrap ((k : Int) + 1) = ((k + 1 : Nat) : Int) := by rw [i64_in _ (by omega)]; omega
  have q1 := f1 k
  have q2 := f2 k
  obtain ⟨b1, nm_⟩ : ∃ nm0_, nm0_ = B (k : Int) := ⟨_, rfl⟩
  simp only [← nm_] at q1 q2
  clear nm_
  repeat' (first
    | with_reducible first | apply thenW_n | apply W_seq | apply W_block | apply W_skip
    | with_reducible refine W_rg ?_
    | (rw [vcn]; (try simp [-map_take,-map_drop, push_cast, y1, y2, w1, sgAV, sgC, ptAV, ptC, ratAV, ratC, zAV, zC, dotAV, DP.av2, DP.av, d3AV, d3C, RD.av, ratD, dpC, dC, rC, numC, ← tens.eq_1, dAV]))
    | with_reducible refine W_drawn mixed (by decide) (by kernel_rfl) ?_
    | (rw [vcnD]; (try simp [-map_take,-map_drop, push_cast, y1, y2, w1, sgAV, sgC, ptAV, ptC, ratAV, ratC, zAV, zC, dotAV, DP.av2, DP.av, d3AV, d3C, RD.av, ratD, dpC, dC, rC, numC, ← tens.eq_1, dAV]))
    | (with_reducible refine W_condW ?_; (try simp [-map_take,-map_drop, AS.val, upd, resB, mkS_env, mkS_box, lk, entry_env, condW_true, condW_false, y1, y2, w1, sgAV, sgC, ptAV, ptC, ratAV, ratC, zAV, zC, dotAV, DP.av2, DP.av, d3AV, d3C, RD.av, ratD, dpC, dC, rC, numC, ← tens.eq_1, dAV]))
    | fail)
  refine callD_of (q1) rfl rfl rfl ?_
  try dsimp only
  repeat' (first
    | (rw [vcnD]; (try simp [-map_take,-map_drop, push_cast, w1, sgAV, sgC, ptAV, ptC, ratAV, ratC, zAV, zC, dotAV, DP.av2, DP.av, d3AV, d3C, RD.av, ratD, dpC, dC, rC, numC, ← tens.eq_1, dAV]))
    | fail)
  refine callD_of (q2) rfl rfl rfl ?_
  try dsimp only
  repeat' (first
    | with_reducible first | apply thenW_n | apply blockW_n | apply W_skip
    | with_reducible refine W_rg ?_
    | (rw [vcn]; (try simp [-map_take,-map_drop, push_cast, w1]))
    | (rw [vcnD]; (try simp [-map_take,-map_drop, push_cast, w1]))
    | (with_reducible refine W_condW ?_; (try simp [-map_take,-map_drop, AS.val, upd, resB, mkS_env, mkS_box, lk, entry_env, condW_true, condW_false, w1]))
    | refine And.intro (by first | omega | kernel_rfl) ?_
    | fail)
  refine loopW_n (k + 1) id (by omega) ⟨by omega, by omega⟩ ⟨?_, ?_, ?_, ?_, ?_, ?_⟩
  all_goals first | (simp [-map_take,-map_drop, push_cast, dV_take, dV_drop, sgAV, sgC, ptAV, ptC, ratAV, ratC, zAV, zC, dotAV, DP.av2, DP.av, d3AV, d3C, RD.av, ratD, dpC, dC, rC, numC, ← tens.eq_1, dAV]; done)
end Go.Fw

/- The laws ReachPoints, ReachEnds, ReachCloser come to true: the walks. -/
import Derived.Test.YtehmofcajiefiaaGreatY1b
import Derived.Test.YtehmofcajiefiaaGreatX3b
set_option linter.unusedSimpArgs false
set_option linter.unusedVariables false
-- VALS: zAV, zC, ratAV, ratC, ptAV, ptC, sgAV, sgC, d3sAV, d3AV, d3C, dAV, dC, rAV, rC, dotAV, DP.av, DP.av2, dpC, ratD, RD.av
namespace Go.Fw
open Go Go.Proofs Go.IntWalk
set_option linter.unusedSimpArgs false
set_option maxRecDepth 100000
set_option maxHeartbeats 20000000
theorem seg12_ok' (a b : Int × Int × Int) (ha : inD a) (hb : inD b) : Eval Tryz.prog 7 [dotAV a, dotAV b] (.ret (.tup [sgAV (dotsF a b), DP.av2 (dotD a) (dotD b)])) := seg12_ok a b ha hb
open List (map_take map_drop)
attribute [local push_cast] optK_some optK_none optK_ite optK_map optK_bind gOn stepK isMem evPure evMem evBin evUn evConv evLen evBuiltin evMinMax evSlice evBuild evAppend evIndex evIndexAddr evField evFieldAddr intBin strBin appDest AS.val AS.mem AS.elems AS.put AS.put' AS.eff AV.cells? AV.isCell AV.refs all_isByte take_byteV drop_byteV strOf_map bndOk bnd partAV ptrAdd killBox catA inOrder fillA setAt ofVal resB upd byteV List.head?_take List.head?_drop List.getElem?_map mkS_env mkS_box mkS_used entry_env entry_box entry_used lk stepD lookIds Oper.looksAt Op.operands Call.operands St.ids refsL renL_append ren renL renBox Box.refs iV i64V boolV dV_getElem dV_app dV_cons toNat_add2 toNat_add1
attribute [local simp ↓] numC_refs numC_isCell numC_cells numC_resB numC_resD numC_ren numC_closeC numC_isOwn
theorem same12_ok (r : FQ) (x : RD) (h : r.q = x.q) (hd : 0 < x.d) (h1 : szQ r.q ≤ 1000000) (h2 : szR x ≤ 1000000) : Eval Tryz.prog 11 [ratAV r, x.av] (.ret (boolV true)) := by
  have e1 := fracText_ok r h1
  have e2 := textQ_ok x.n x.d x.q hd (x.hn hd) h2
  rw [← h] at e2
  obtain ⟨T, nm_⟩ : ∃ nm0_, nm0_ = ratText r.q := ⟨_, rfl⟩
  simp only [← nm_] at e1 e2
  clear nm_
  clear h h1 h2 hd
  refine Eval.intro Tryz.func11 rfl Tryz.call11 _ _ (Nat.le_of_ble_eq_true rfl) (by simp [-map_take,-map_drop, AV.refs, refsL, natAV, zAV, zC, ratAV, ratC, ptAV, ptC, sgAV, sgC, d3sAV, d3AV, d3C, dAV, dC, rAV, rC, dotAV, DP.av, DP.av2, dpC, ratD, RD.av, push_cast]) fun hs0 => ?_
  repeat' (first
    | with_reducible first | apply thenW_n | apply W_seq
    | with_reducible refine W_rg ?_
    | (rw [vcn]; (try simp [-map_take,-map_drop, push_cast, sgAV, sgC, ptAV, ptC, ratAV, ratC, zAV, zC, DP.av2, DP.av, d3AV, d3C, RD.av, ratD, dAV, dC, rC, numC, ← tens.eq_1, dotAV, strD]))
    | with_reducible refine W_drawn mixed (by decide) (by kernel_rfl) ?_
    | (rw [vcnD]; (try simp [-map_take,-map_drop, push_cast, sgAV, sgC, ptAV, ptC, ratAV, ratC, zAV, zC, DP.av2, DP.av, d3AV, d3C, RD.av, ratD, dAV, dC, rC, numC, ← tens.eq_1, dotAV, strD]))
    | fail)
  refine callD_of (e1) rfl rfl rfl ?_
  try dsimp only
  repeat' (first
    | (rw [vcnD]; (try simp [-map_take,-map_drop, push_cast, sgAV, sgC, ptAV, ptC, ratAV, ratC, zAV, zC, DP.av2, DP.av, d3AV, d3C, RD.av, ratD, dAV, dC, rC, numC, ← tens.eq_1, dotAV, strD]))
    | fail)
  refine callD_of (e2) rfl rfl rfl ?_
  try dsimp only
  repeat' (first
    | with_reducible first | apply thenW_n | apply W_ret
    | (rw [vcnD]; (try simp [-map_take,-map_drop, push_cast, sgAV, sgC, ptAV, ptC, ratAV, ratC, zAV, zC, DP.av2, DP.av, d3AV, d3C, RD.av, ratD, dAV, dC, rC, numC, ← tens.eq_1, dotAV, strD]))
    | refine And.intro (by first | omega | kernel_rfl) ?_
    | fail)
  simp [-map_take,-map_drop, post, resAV, resAll, resOne, closeV, closeC, closeL, resD, resDL, push_cast]
theorem lawReachPoints_ok (a b c : Int × Int × Int) (ha : inD a) (hb : inD b) (hc : inD c) : Eval Tryz.prog 3 [dotAV a, dotAV b, dotAV c] (.ret (.v (.bool true))) := by
  have za := dotD_sz ha
  have zb := dotD_sz hb
  have zc := dotD_sz hc
  have ya := (HD.dot ha).sz
  have yb := (HD.dot hb).sz
  have yc := (HD.dot hc).sz
  have ys := sz_dots ha hb
  have s1 := seg12_ok' a b ha hb
  have p1 := l11At_ok' c hc
  have q1 := at11_ok' c hc
  have f1 := square_ok (dotF a.1 a.2.1 a.2.2) (dotF c.1 c.2.1 c.2.2) (by omega)
  have f2 := square12_ok (dotD a) (dotD c) (by omega)
  obtain ⟨r1, r2⟩ := squareR_q (dotD_w a) (dotD_w c)
  have m1 := same12_ok (.of (sqP (dotF a.1 a.2.1 a.2.2) (dotF c.1 c.2.1 c.2.2))) (squareR (dotD a) (dotD c)) (by rw [r1]; rfl) r2 (by have := sz_sqP (dotF a.1 a.2.1 a.2.2) (dotF c.1 c.2.1 c.2.2); simp only [FQ.of]; omega) (by have := squareR_sz (dotD a) (dotD c); omega)
  have f3 := to_ok (dotsF a b) (dotF c.1 c.2.1 c.2.2) (by omega)
  have f4 := to12_ok (dotD a) (dotD b) (dotD c) (by omega)
  obtain ⟨t1, t2⟩ := toR_q (dotD_w a) (dotD_w b) (dotD_w c)
  have m2 := same12_ok (toF (dotsF a b) (dotF c.1 c.2.1 c.2.2)) (toR (dotD a) (dotD b) (dotD c)) (by rw [t1, toF_q]; rfl) t2 (by have := sz_to (dotsF a b) (dotF c.1 c.2.1 c.2.2); omega) (by have := toR_sz (dotD a) (dotD b) (dotD c); omega)
  have hA : dotF a.1 a.2.1 a.2.2 = (dotsF a b).A := rfl
  rw [hA] at f1 m1
  clear za zb zc ya yb yc ys r1 r2 t1 t2 ha hb hc hA
  obtain ⟨Q1, nm_⟩ : ∃ nm0_, nm0_ = FQ.of (sqP (dotsF a b).A (dotF c.1 c.2.1 c.2.2)) := ⟨_, rfl⟩
  simp only [← nm_] at f1 m1
  clear nm_
  obtain ⟨Q2, nm_⟩ : ∃ nm0_, nm0_ = squareR (dotD a) (dotD c) := ⟨_, rfl⟩
  simp only [← nm_] at f2 m1
  clear nm_
  obtain ⟨Q3, nm_⟩ : ∃ nm0_, nm0_ = toF (dotsF a b) (dotF c.1 c.2.1 c.2.2) := ⟨_, rfl⟩
  simp only [← nm_] at f3 m2
  clear nm_
  obtain ⟨Q4, nm_⟩ : ∃ nm0_, nm0_ = toR (dotD a) (dotD b) (dotD c) := ⟨_, rfl⟩
  simp only [← nm_] at f4 m2
  clear nm_
  obtain ⟨E, nm_⟩ : ∃ nm0_, nm0_ = dotsF a b := ⟨_, rfl⟩
  simp only [← nm_] at s1 f1 f3
  clear nm_
  obtain ⟨P, nm_⟩ : ∃ nm0_, nm0_ = dotF c.1 c.2.1 c.2.2 := ⟨_, rfl⟩
  simp only [← nm_] at p1 f1 f3
  clear nm_
  obtain ⟨u, nm_⟩ : ∃ nm0_, nm0_ = dotD a := ⟨_, rfl⟩
  simp only [← nm_] at s1 f2 f4
  clear nm_
  obtain ⟨v, nm_⟩ : ∃ nm0_, nm0_ = dotD b := ⟨_, rfl⟩
  simp only [← nm_] at s1 f4
  clear nm_
  obtain ⟨w, nm_⟩ : ∃ nm0_, nm0_ = dotD c := ⟨_, rfl⟩
  simp only [← nm_] at q1 f2 f4
  clear nm_
  refine Eval.intro Tryz.func3 rfl Tryz.call3 _ _ (Nat.le_of_ble_eq_true rfl) (by simp [-map_take,-map_drop, AV.refs, refsL, natAV, zAV, zC, ratAV, ratC, ptAV, ptC, sgAV, sgC, d3sAV, d3AV, d3C, dAV, dC, rAV, rC, dotAV, DP.av, DP.av2, dpC, ratD, RD.av, push_cast]) fun hs0 => ?_
  repeat' (first
    | with_reducible first | apply thenW_n | apply W_seq
    | with_reducible refine W_rg ?_
    | (rw [vcn]; (try simp [-map_take,-map_drop, push_cast, sgAV, sgC, ptAV, ptC, ratAV, ratC, zAV, zC, DP.av2, DP.av, d3AV, d3C, RD.av, ratD, dAV, dC, rC, numC, ← tens.eq_1, dotAV, strD]))
    | fail)
  refine CallG_of (s1) rfl rfl rfl ?_
  try dsimp only
  repeat' (first
    | with_reducible first | apply thenW_n | apply W_seq
    | (rw [vcn]; (try simp [-map_take,-map_drop, push_cast, sgAV, sgC, ptAV, ptC, ratAV, ratC, zAV, zC, DP.av2, DP.av, d3AV, d3C, RD.av, ratD, dAV, dC, rC, numC, ← tens.eq_1, dotAV, strD]))
    | with_reducible refine W_drawn mixed (by decide) (by kernel_rfl) ?_
    | (rw [vcnD]; (try simp [-map_take,-map_drop, push_cast, sgAV, sgC, ptAV, ptC, ratAV, ratC, zAV, zC, DP.av2, DP.av, d3AV, d3C, RD.av, ratD, dAV, dC, rC, numC, ← tens.eq_1, dotAV, strD]))
    | fail)
  refine callD_of (p1) rfl rfl rfl ?_
  try dsimp only
  repeat' (first
    | (rw [vcnD]; (try simp [-map_take,-map_drop, push_cast, sgAV, sgC, ptAV, ptC, ratAV, ratC, zAV, zC, DP.av2, DP.av, d3AV, d3C, RD.av, ratD, dAV, dC, rC, numC, ← tens.eq_1, dotAV, strD]))
    | fail)
  refine callD_of (q1) rfl rfl rfl ?_
  try dsimp only
  repeat' (first
    | with_reducible first | apply thenW_n | apply W_seq
    | with_reducible refine W_drawn mixed (by decide) (by kernel_rfl) ?_
    | (rw [vcnD]; (try simp [-map_take,-map_drop, push_cast, sgAV, sgC, ptAV, ptC, ratAV, ratC, zAV, zC, DP.av2, DP.av, d3AV, d3C, RD.av, ratD, dAV, dC, rC, numC, ← tens.eq_1, dotAV, strD]))
    | refine And.intro (by first | omega | kernel_rfl) ?_
    | fail)
  refine callD_of (known12_ok) rfl rfl rfl ?_
  try dsimp only
  repeat' (first
    | (rw [vcnD]; (try simp [-map_take,-map_drop, push_cast, sgAV, sgC, ptAV, ptC, ratAV, ratC, zAV, zC, DP.av2, DP.av, d3AV, d3C, RD.av, ratD, dAV, dC, rC, numC, ← tens.eq_1, dotAV, strD]))
    | fail)
  refine callD_of (f1) rfl rfl rfl ?_
  try dsimp only
  repeat' (first
    | (rw [vcnD]; (try simp [-map_take,-map_drop, push_cast, sgAV, sgC, ptAV, ptC, ratAV, ratC, zAV, zC, DP.av2, DP.av, d3AV, d3C, RD.av, ratD, dAV, dC, rC, numC, ← tens.eq_1, dotAV, strD]))
    | fail)
  refine callD_of (f2) rfl rfl rfl ?_
  try dsimp only
  repeat' (first
    | (rw [vcnD]; (try simp [-map_take,-map_drop, push_cast, sgAV, sgC, ptAV, ptC, ratAV, ratC, zAV, zC, DP.av2, DP.av, d3AV, d3C, RD.av, ratD, dAV, dC, rC, numC, ← tens.eq_1, dotAV, strD]))
    | fail)
  refine callD_of (m1) rfl rfl rfl ?_
  try dsimp only
  repeat' (first
    | (rw [vcnD]; (try simp [-map_take,-map_drop, push_cast, sgAV, sgC, ptAV, ptC, ratAV, ratC, zAV, zC, DP.av2, DP.av, d3AV, d3C, RD.av, ratD, dAV, dC, rC, numC, ← tens.eq_1, dotAV, strD]))
    | fail)
  refine callD_of (f3) rfl rfl rfl ?_
  try dsimp only
  repeat' (first
    | (rw [vcnD]; (try simp [-map_take,-map_drop, push_cast, sgAV, sgC, ptAV, ptC, ratAV, ratC, zAV, zC, DP.av2, DP.av, d3AV, d3C, RD.av, ratD, dAV, dC, rC, numC, ← tens.eq_1, dotAV, strD]))
    | fail)
  refine callD_of (f4) rfl rfl rfl ?_
  try dsimp only
  repeat' (first
    | (rw [vcnD]; (try simp [-map_take,-map_drop, push_cast, sgAV, sgC, ptAV, ptC, ratAV, ratC, zAV, zC, DP.av2, DP.av, d3AV, d3C, RD.av, ratD, dAV, dC, rC, numC, ← tens.eq_1, dotAV, strD]))
    | fail)
  refine callD_of (m2) rfl rfl rfl ?_
  try dsimp only
  repeat' (first
    | with_reducible first | apply thenW_n | apply W_ret
    | (rw [vcnD]; (try simp [-map_take,-map_drop, push_cast, sgAV, sgC, ptAV, ptC, ratAV, ratC, zAV, zC, DP.av2, DP.av, d3AV, d3C, RD.av, ratD, dAV, dC, rC, numC, ← tens.eq_1, dotAV, strD]))
    | refine And.intro (by first | omega | kernel_rfl) ?_
    | fail)
  simp [-map_take,-map_drop, post, resAV, resAll, resOne, closeV, closeC, closeL, resD, resDL, push_cast]
theorem lawReachEnds_ok (a b c d : Int × Int × Int) (ha : inD a) (hb : inD b) (hc : inD c) (hd : inD d) : Eval Tryz.prog 4 [dotAV a, dotAV b, dotAV c, dotAV d] (.ret (.v (.bool true))) := by
  have za := dotD_sz ha
  have zb := dotD_sz hb
  have zc := dotD_sz hc
  have zd := dotD_sz hd
  have ys := sz_dots ha hb
  have yt := sz_dots hc hd
  have s1 := seg12_ok' a b ha hb
  have s2 := seg12_ok' c d hc hd
  have f1 := reachLeast_ok (dotsF a b) (dotsF c d) (by omega)
  have f2 := least12_ok (dotD a) (dotD b) (dotD c) (dotD d) (by omega)
  obtain ⟨r1, r2⟩ := leastR_q (dotD_w a) (dotD_w b) (dotD_w c) (dotD_w d)
  have m1 := same12_ok (leastF (dotsF a b) (dotsF c d)) (leastR (dotD a) (dotD b) (dotD c) (dotD d)) (by rw [r1, leastF_q]; rfl) r2 (by have := sz_least (dotsF a b) (dotsF c d); omega) (by have := leastR_sz (dotD a) (dotD b) (dotD c) (dotD d); omega)
  have f3 := reachMost_ok (dotsF a b) (dotsF c d) (by omega)
  have f4 := most12_ok (dotD a) (dotD b) (dotD c) (dotD d) (by omega)
  obtain ⟨t1, t2⟩ := mostR_q (dotD_w a) (dotD_w b) (dotD_w c) (dotD_w d)
  have m2 := same12_ok (mostF (dotsF a b) (dotsF c d)) (mostR (dotD a) (dotD b) (dotD c) (dotD d)) (by rw [t1, mostF_q]; rfl) t2 (by have := sz_most (dotsF a b) (dotsF c d); omega) (by have := mostR_sz (dotD a) (dotD b) (dotD c) (dotD d); omega)
  clear za zb zc zd ys yt r1 r2 t1 t2 ha hb hc hd
  obtain ⟨Q1, nm_⟩ : ∃ nm0_, nm0_ = leastF (dotsF a b) (dotsF c d) := ⟨_, rfl⟩
  simp only [← nm_] at f1 m1
  clear nm_
  obtain ⟨Q2, nm_⟩ : ∃ nm0_, nm0_ = leastR (dotD a) (dotD b) (dotD c) (dotD d) := ⟨_, rfl⟩
  simp only [← nm_] at f2 m1
  clear nm_
  obtain ⟨Q3, nm_⟩ : ∃ nm0_, nm0_ = mostF (dotsF a b) (dotsF c d) := ⟨_, rfl⟩
  simp only [← nm_] at f3 m2
  clear nm_
  obtain ⟨Q4, nm_⟩ : ∃ nm0_, nm0_ = mostR (dotD a) (dotD b) (dotD c) (dotD d) := ⟨_, rfl⟩
  simp only [← nm_] at f4 m2
  clear nm_
  obtain ⟨E, nm_⟩ : ∃ nm0_, nm0_ = dotsF a b := ⟨_, rfl⟩
  simp only [← nm_] at s1 f1 f3
  clear nm_
  obtain ⟨F, nm_⟩ : ∃ nm0_, nm0_ = dotsF c d := ⟨_, rfl⟩
  simp only [← nm_] at s2 f1 f3
  clear nm_
  obtain ⟨u, nm_⟩ : ∃ nm0_, nm0_ = dotD a := ⟨_, rfl⟩
  simp only [← nm_] at s1 f2 f4
  clear nm_
  obtain ⟨v, nm_⟩ : ∃ nm0_, nm0_ = dotD b := ⟨_, rfl⟩
  simp only [← nm_] at s1 f2 f4
  clear nm_
  obtain ⟨w, nm_⟩ : ∃ nm0_, nm0_ = dotD c := ⟨_, rfl⟩
  simp only [← nm_] at s2 f2 f4
  clear nm_
  obtain ⟨x, nm_⟩ : ∃ nm0_, nm0_ = dotD d := ⟨_, rfl⟩
  simp only [← nm_] at s2 f2 f4
  clear nm_
  refine Eval.intro Tryz.func4 rfl Tryz.call4 _ _ (Nat.le_of_ble_eq_true rfl) (by simp [-map_take,-map_drop, AV.refs, refsL, natAV, zAV, zC, ratAV, ratC, ptAV, ptC, sgAV, sgC, d3sAV, d3AV, d3C, dAV, dC, rAV, rC, dotAV, DP.av, DP.av2, dpC, ratD, RD.av, push_cast]) fun hs0 => ?_
  repeat' (first
    | with_reducible first | apply thenW_n | apply W_seq
    | with_reducible refine W_rg ?_
    | (rw [vcn]; (try simp [-map_take,-map_drop, push_cast, sgAV, sgC, ptAV, ptC, ratAV, ratC, zAV, zC, DP.av2, DP.av, d3AV, d3C, RD.av, ratD, dAV, dC, rC, numC, ← tens.eq_1, dotAV, strD]))
    | fail)
  refine CallG_of (s1) rfl rfl rfl ?_
  try dsimp only
  repeat' (first
    | with_reducible first | apply thenW_n | apply W_seq
    | with_reducible refine W_rg ?_
    | (rw [vcn]; (try simp [-map_take,-map_drop, push_cast, sgAV, sgC, ptAV, ptC, ratAV, ratC, zAV, zC, DP.av2, DP.av, d3AV, d3C, RD.av, ratD, dAV, dC, rC, numC, ← tens.eq_1, dotAV, strD]))
    | fail)
  refine CallG_of (s2) rfl rfl rfl ?_
  try dsimp only
  repeat' (first
    | with_reducible first | apply thenW_n | apply W_seq
    | (rw [vcn]; (try simp [-map_take,-map_drop, push_cast, sgAV, sgC, ptAV, ptC, ratAV, ratC, zAV, zC, DP.av2, DP.av, d3AV, d3C, RD.av, ratD, dAV, dC, rC, numC, ← tens.eq_1, dotAV, strD]))
    | with_reducible refine W_drawn mixed (by decide) (by kernel_rfl) ?_
    | (rw [vcnD]; (try simp [-map_take,-map_drop, push_cast, sgAV, sgC, ptAV, ptC, ratAV, ratC, zAV, zC, DP.av2, DP.av, d3AV, d3C, RD.av, ratD, dAV, dC, rC, numC, ← tens.eq_1, dotAV, strD]))
    | fail)
  refine callD_of (known12_ok) rfl rfl rfl ?_
  try dsimp only
  repeat' (first
    | (rw [vcnD]; (try simp [-map_take,-map_drop, push_cast, sgAV, sgC, ptAV, ptC, ratAV, ratC, zAV, zC, DP.av2, DP.av, d3AV, d3C, RD.av, ratD, dAV, dC, rC, numC, ← tens.eq_1, dotAV, strD]))
    | fail)
  refine callD_of (f1) rfl rfl rfl ?_
  try dsimp only
  repeat' (first
    | (rw [vcnD]; (try simp [-map_take,-map_drop, push_cast, sgAV, sgC, ptAV, ptC, ratAV, ratC, zAV, zC, DP.av2, DP.av, d3AV, d3C, RD.av, ratD, dAV, dC, rC, numC, ← tens.eq_1, dotAV, strD]))
    | fail)
  refine callD_of (f2) rfl rfl rfl ?_
  try dsimp only
  repeat' (first
    | (rw [vcnD]; (try simp [-map_take,-map_drop, push_cast, sgAV, sgC, ptAV, ptC, ratAV, ratC, zAV, zC, DP.av2, DP.av, d3AV, d3C, RD.av, ratD, dAV, dC, rC, numC, ← tens.eq_1, dotAV, strD]))
    | fail)
  refine callD_of (m1) rfl rfl rfl ?_
  try dsimp only
  repeat' (first
    | (rw [vcnD]; (try simp [-map_take,-map_drop, push_cast, sgAV, sgC, ptAV, ptC, ratAV, ratC, zAV, zC, DP.av2, DP.av, d3AV, d3C, RD.av, ratD, dAV, dC, rC, numC, ← tens.eq_1, dotAV, strD]))
    | fail)
  refine callD_of (f3) rfl rfl rfl ?_
  try dsimp only
  repeat' (first
    | (rw [vcnD]; (try simp [-map_take,-map_drop, push_cast, sgAV, sgC, ptAV, ptC, ratAV, ratC, zAV, zC, DP.av2, DP.av, d3AV, d3C, RD.av, ratD, dAV, dC, rC, numC, ← tens.eq_1, dotAV, strD]))
    | fail)
  refine callD_of (f4) rfl rfl rfl ?_
  try dsimp only
  repeat' (first
    | (rw [vcnD]; (try simp [-map_take,-map_drop, push_cast, sgAV, sgC, ptAV, ptC, ratAV, ratC, zAV, zC, DP.av2, DP.av, d3AV, d3C, RD.av, ratD, dAV, dC, rC, numC, ← tens.eq_1, dotAV, strD]))
    | fail)
  refine callD_of (m2) rfl rfl rfl ?_
  try dsimp only
  repeat' (first
    | with_reducible first | apply thenW_n | apply W_ret
    | (rw [vcnD]; (try simp [-map_take,-map_drop, push_cast, sgAV, sgC, ptAV, ptC, ratAV, ratC, zAV, zC, DP.av2, DP.av, d3AV, d3C, RD.av, ratD, dAV, dC, rC, numC, ← tens.eq_1, dotAV, strD]))
    | refine And.intro (by first | omega | kernel_rfl) ?_
    | fail)
  simp [-map_take,-map_drop, post, resAV, resAll, resOne, closeV, closeC, closeL, resD, resDL, push_cast]
theorem lawReachCloser_ok (a b c d : Int × Int × Int) (n : Int) (ha : inD a) (hb : inD b) (hc : inD c) (hd : inD d) (hn : inI n) : Eval Tryz.prog 5 [dotAV a, dotAV b, dotAV c, dotAV d, i64V n] (.ret (.v (.bool true))) := by
  have za := dotD_sz ha
  have zb := dotD_sz hb
  have zc := dotD_sz hc
  have zd := dotD_sz hd
  have ys := sz_dots ha hb
  have yt := sz_dots hc hd
  have s1 := seg12_ok' a b ha hb
  have s2 := seg12_ok' c d hc hd
  have f1 := closer_ok (dotsF a b) (dotsF c d) n hn (by omega)
  have f2 := closer12_ok (dotD a) (dotD b) (dotD c) (dotD d) n hn (by omega)
  have he : closerR (dotD a) (dotD b) (dotD c) (dotD d) n = closerB (dotsF a b) (dotsF c d) n := by
    rw [Bool.eq_iff_iff, closerR_iff (dotD_w a) (dotD_w b) (dotD_w c) (dotD_w d), closerB_iff]
    rfl
  rw [he] at f2
  clear za zb zc zd ys yt ha hb hc hd he
  obtain ⟨t, nm_⟩ : ∃ nm0_, nm0_ = closerB (dotsF a b) (dotsF c d) n := ⟨_, rfl⟩
  simp only [← nm_] at f1 f2
  clear nm_
  obtain ⟨E, nm_⟩ : ∃ nm0_, nm0_ = dotsF a b := ⟨_, rfl⟩
  simp only [← nm_] at s1 f1
  clear nm_
  obtain ⟨F, nm_⟩ : ∃ nm0_, nm0_ = dotsF c d := ⟨_, rfl⟩
  simp only [← nm_] at s2 f1
  clear nm_
  obtain ⟨u, nm_⟩ : ∃ nm0_, nm0_ = dotD a := ⟨_, rfl⟩
  simp only [← nm_] at s1 f2
  clear nm_
  obtain ⟨v, nm_⟩ : ∃ nm0_, nm0_ = dotD b := ⟨_, rfl⟩
  simp only [← nm_] at s1 f2
  clear nm_
  obtain ⟨w, nm_⟩ : ∃ nm0_, nm0_ = dotD c := ⟨_, rfl⟩
  simp only [← nm_] at s2 f2
  clear nm_
  obtain ⟨x, nm_⟩ : ∃ nm0_, nm0_ = dotD d := ⟨_, rfl⟩
  simp only [← nm_] at s2 f2
  clear nm_
  refine Eval.intro Tryz.func5 rfl Tryz.call5 _ _ (Nat.le_of_ble_eq_true rfl) (by simp [-map_take,-map_drop, AV.refs, refsL, natAV, zAV, zC, ratAV, ratC, ptAV, ptC, sgAV, sgC, d3sAV, d3AV, d3C, dAV, dC, rAV, rC, dotAV, DP.av, DP.av2, dpC, ratD, RD.av, push_cast]) fun hs0 => ?_
  repeat' (first
    | with_reducible first | apply thenW_n | apply W_seq
    | with_reducible refine W_rg ?_
    | (rw [vcn]; (try simp [-map_take,-map_drop, push_cast, sgAV, sgC, ptAV, ptC, ratAV, ratC, zAV, zC, DP.av2, DP.av, d3AV, d3C, RD.av, ratD, dAV, dC, rC, numC, ← tens.eq_1, dotAV, strD]))
    | fail)
  refine CallG_of (s1) rfl rfl rfl ?_
  try dsimp only
  repeat' (first
    | with_reducible first | apply thenW_n | apply W_seq
    | with_reducible refine W_rg ?_
    | (rw [vcn]; (try simp [-map_take,-map_drop, push_cast, sgAV, sgC, ptAV, ptC, ratAV, ratC, zAV, zC, DP.av2, DP.av, d3AV, d3C, RD.av, ratD, dAV, dC, rC, numC, ← tens.eq_1, dotAV, strD]))
    | fail)
  refine CallG_of (s2) rfl rfl rfl ?_
  try dsimp only
  repeat' (first
    | with_reducible first | apply thenW_n | apply W_seq
    | (rw [vcn]; (try simp [-map_take,-map_drop, push_cast, sgAV, sgC, ptAV, ptC, ratAV, ratC, zAV, zC, DP.av2, DP.av, d3AV, d3C, RD.av, ratD, dAV, dC, rC, numC, ← tens.eq_1, dotAV, strD]))
    | with_reducible refine W_drawn mixed (by decide) (by kernel_rfl) ?_
    | (rw [vcnD]; (try simp [-map_take,-map_drop, push_cast, sgAV, sgC, ptAV, ptC, ratAV, ratC, zAV, zC, DP.av2, DP.av, d3AV, d3C, RD.av, ratD, dAV, dC, rC, numC, ← tens.eq_1, dotAV, strD]))
    | fail)
  refine callD_of (known12_ok) rfl rfl rfl ?_
  try dsimp only
  repeat' (first
    | (rw [vcnD]; (try simp [-map_take,-map_drop, push_cast, sgAV, sgC, ptAV, ptC, ratAV, ratC, zAV, zC, DP.av2, DP.av, d3AV, d3C, RD.av, ratD, dAV, dC, rC, numC, ← tens.eq_1, dotAV, strD]))
    | fail)
  refine callD_of (f1) rfl rfl rfl ?_
  try dsimp only
  repeat' (first
    | (rw [vcnD]; (try simp [-map_take,-map_drop, push_cast, sgAV, sgC, ptAV, ptC, ratAV, ratC, zAV, zC, DP.av2, DP.av, d3AV, d3C, RD.av, ratD, dAV, dC, rC, numC, ← tens.eq_1, dotAV, strD]))
    | fail)
  refine callD_of (f2) rfl rfl rfl ?_
  try dsimp only
  repeat' (first
    | with_reducible first | apply thenW_n | apply W_ret
    | (rw [vcnD]; (try simp [-map_take,-map_drop, push_cast, sgAV, sgC, ptAV, ptC, ratAV, ratC, zAV, zC, DP.av2, DP.av, d3AV, d3C, RD.av, ratD, dAV, dC, rC, numC, ← tens.eq_1, dotAV, strD]))
    | refine And.intro (by first | omega | kernel_rfl) ?_
    | fail)
  simp [-map_take,-map_drop, post, resAV, resAll, resOne, closeV, closeC, closeL, resD, resDL, push_cast]
end Go.Fw

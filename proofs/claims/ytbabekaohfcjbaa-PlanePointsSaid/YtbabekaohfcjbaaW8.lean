/- The law PlanePoints comes to true: the walk. -/
import Derived.Test.YtbabekaohfcjbaaW6b
set_option linter.unusedSimpArgs false
set_option linter.unusedVariables false
-- VALS: zAV, zC, ratAV, ratC, ptAV, ptC, sgAV, sgC, d3sAV, d3AV, d3C, dAV, dC, rAV, rC, dotAV, DP.av, DP.av2, dpC, ratD
namespace Go.Fw
open Go Go.Proofs Go.IntWalk
set_option linter.unusedSimpArgs false
set_option maxRecDepth 100000
set_option maxHeartbeats 20000000

theorem gridT_v (x y : Int) : (DP.mk x y 1).v = (FP.mk (.of (x : Rat)) (.of (y : Rat))).v := by
  unfold DP.v FP.v
  dsimp only [FQ.of]
  have e : ∀ z : Int, Rat.divInt z 1 = (z : Rat) := fun z => dv_of (by decide) (by
    have : ((1 : Int) : Rat) = 1 := rfl
    rw [this]; grind)
  rw [e, e]

open List (map_take map_drop)
attribute [local push_cast] optK_some optK_none optK_ite optK_map optK_bind gOn stepK isMem evPure evMem evBin evUn evConv evLen evBuiltin evMinMax evSlice evBuild evAppend evIndex evIndexAddr evField evFieldAddr intBin strBin appDest AS.val AS.mem AS.elems AS.put AS.put' AS.eff AV.cells? AV.isCell AV.refs all_isByte take_byteV drop_byteV strOf_map bndOk bnd partAV ptrAdd killBox catA inOrder fillA setAt ofVal resB upd byteV List.head?_take List.head?_drop List.getElem?_map mkS_env mkS_box mkS_used entry_env entry_box entry_used lk stepD lookIds Oper.looksAt Op.operands Call.operands St.ids refsL renL_append ren renL renBox Box.refs iV i64V boolV dV_getElem dV_app dV_cons toNat_add2 toNat_add1
attribute [local simp ↓] numC_refs numC_isCell numC_cells numC_resB numC_resD numC_ren numC_closeC numC_isOwn
theorem lawPoints_ok (a b c : Int × Int × Int) (p : Int × Int) (ha : inD a) (hb : inD b) (hc : inD c) (hp : inI p.1 ∧ inI p.2) : Eval Try.prog 7 [dotAV a, dotAV b, dotAV c, .agg [i64V p.1, i64V p.2]] (.ret (.v (.bool true))) := by
  have za := dotD_sz ha
  have zb := dotD_sz hb
  have zc := dotD_sz hc
  have ya := (HD.dot ha).sz
  have yb := (HD.dot hb).sz
  have yc := (HD.dot hc).sz
  have wa := dotD_w a
  have wb := dotD_w b
  have wc := dotD_w c
  have pa := l11At_ok' a ha
  have pb := l11At_ok' b hb
  have pc := l11At_ok' c hc
  have da := at11_ok' a ha
  have db := at11_ok' b hb
  have dc := at11_ok' c hc
  have tx := ptTextV_ok (dotF a.1 a.2.1 a.2.2) (by omega)
  have tu := textV_ok (dotD a) wa (by omega)
  rw [dotD_v] at tu
  have g1 := grid_ok p.1 p.2 hp.1 hp.2
  have g2 := of11_ok p.1 p.2 hp.1 hp.2
  have g3 := ptTextV_ok ⟨.of (p.1 : Rat), .of (p.2 : Rat)⟩ (by have := (HD.grid hp.1 hp.2).sz; unfold gridF at this; omega)
  have g4 := textV_ok ⟨p.1, p.2, 1⟩ (by show (0 : Int) < 1; omega) (by
    have h1 := szD_small hp.1
    have h2 := szD_small hp.2
    have h3 := szD_small (z := 1) (by unfold inI; omega)
    show szD p.1 + szD p.2 + szD 1 ≤ 1000000
    omega)
  rw [gridT_v] at g4
  have k1 := cmpP_ok (dotF a.1 a.2.1 a.2.2) (dotF b.1 b.2.1 b.2.2) (by omega)
  have k2 := cmp11_ok (dotD a) (dotD b) (by omega)
  rw [cmp3_F wa wb (dotD_v a).symm (dotD_v b).symm] at k2
  have c1 := cross_ok (dotF a.1 a.2.1 a.2.2) (dotF b.1 b.2.1 b.2.2) (dotF c.1 c.2.1 c.2.2) (by omega)
  have c2 := fracText_ok (.of (cross (dotF a.1 a.2.1 a.2.2).v (dotF b.1 b.2.1 b.2.2).v (dotF c.1 c.2.1 c.2.2).v)) (by
    have h1 : HP (dotF a.1 a.2.1 a.2.2) := (HD.dot ha).hp'
    have h2 : HP (dotF b.1 b.2.1 b.2.2) := (HD.dot hb).hp'
    have h3 : HP (dotF c.1 c.2.1 c.2.2) := (HD.dot hc).hp'
    have := (HP.cross h1 h2 h3).sz
    show szQ (cross _ _ _) ≤ _
    omega)
  have y1 := sz_lessX (dotD a) (dotD b)
  have y2 := sz_lessY (dotD a) (dotD b)
  have y3 := sz_lessX (dotD a) (dotD c)
  have y4 := sz_lessY (dotD a) (dotD c)
  have z1 := szD_mul (lessX (dotD a) (dotD b)) (lessX (dotD a) (dotD c))
  have z2 := szD_mul (lessY (dotD a) (dotD b)) (lessY (dotD a) (dotD c))
  have z3 := szD_mul (lessX (dotD a) (dotD b)) (lessY (dotD a) (dotD c))
  have z4 := szD_mul (lessY (dotD a) (dotD b)) (lessX (dotD a) (dotD c))
  have z5 := szD_add (lessX (dotD a) (dotD b) * lessX (dotD a) (dotD c)) (lessY (dotD a) (dotD b) * lessY (dotD a) (dotD c))
  have z6 := szD_sub (lessX (dotD a) (dotD b) * lessY (dotD a) (dotD c)) (lessY (dotD a) (dotD b) * lessX (dotD a) (dotD c))
  have z7 := szD_mul (dotD a).w (dotD a).w
  have z8 := szD_mul (dotD b).w (dotD c).w
  have z9 := szD_mul ((dotD a).w * (dotD a).w) ((dotD b).w * (dotD c).w)
  have zw : ∀ q : DP, szD q.w ≤ szP3 q := fun q => by unfold szP3; omega
  have u1 := zw (dotD a)
  have u2 := zw (dotD b)
  have u3 := zw (dotD c)
  have c3 := cross11_ok (dotD a) (dotD b) (dotD c) (by omega)
  have c4 := textQ_ok _ _ _ (denW_pos wa wb wc) (crossN_v wa wb wc) (by unfold crossN denW; omega)
  rw [dotD_v, dotD_v, dotD_v] at c4
  have e1 := dot_ok (dotF a.1 a.2.1 a.2.2) (dotF b.1 b.2.1 b.2.2) (dotF c.1 c.2.1 c.2.2) (by omega)
  have e2 := fracText_ok (.of (dot (dotF a.1 a.2.1 a.2.2).v (dotF b.1 b.2.1 b.2.2).v (dotF c.1 c.2.1 c.2.2).v)) (by
    have h1 : HP (dotF a.1 a.2.1 a.2.2) := (HD.dot ha).hp'
    have h2 : HP (dotF b.1 b.2.1 b.2.2) := (HD.dot hb).hp'
    have h3 : HP (dotF c.1 c.2.1 c.2.2) := (HD.dot hc).hp'
    have q1 := h2.1.sub h1.1 84 (by omega) (by omega)
    have q2 := h3.2.sub h1.2 84 (by omega) (by omega)
    have q3 := h2.2.sub h1.2 84 (by omega) (by omega)
    have q4 := h3.1.sub h1.1 84 (by omega) (by omega)
    have := ((q1.mul q4).add (q3.mul q2) 218 (by omega) (by omega)).sz
    have e : szQ (FQ.of (dot (dotF a.1 a.2.1 a.2.2).v (dotF b.1 b.2.1 b.2.2).v (dotF c.1 c.2.1 c.2.2).v)).q ≤ 218 / 32 + 100 := by
      refine Nat.le_trans this ?_
      omega
    omega)
  have e3 := times11_ok (dotD a) (dotD b) (dotD c) (by omega)
  have e4 := textQ_ok _ _ _ (denW_pos wa wb wc) (timesN_v wa wb wc) (by unfold timesN denW; omega)
  rw [dotD_v, dotD_v, dotD_v] at e4
  have f1 := side_ok (dotF a.1 a.2.1 a.2.2) (dotF b.1 b.2.1 b.2.2) (dotF c.1 c.2.1 c.2.2) (by omega)
  have f2 := side11_ok (dotD a) (dotD b) (dotD c) (by omega)
  rw [side3_v wa wb wc, dotD_v, dotD_v, dotD_v, ← sideOf_eq] at f2
  have o1 : (dotF b.1 b.2.1 b.2.2).x.q = (dotF b.1 b.2.1 b.2.2).v.x := rfl
  have hcr : ((dotF b.1 b.2.1 b.2.2).x.q - (dotF a.1 a.2.1 a.2.2).x.q) * ((dotF c.1 c.2.1 c.2.2).y.q - (dotF a.1 a.2.1 a.2.2).y.q) - ((dotF b.1 b.2.1 b.2.2).y.q - (dotF a.1 a.2.1 a.2.2).y.q) * ((dotF c.1 c.2.1 c.2.2).x.q - (dotF a.1 a.2.1 a.2.2).x.q) = cross (dotF a.1 a.2.1 a.2.2).v (dotF b.1 b.2.1 b.2.2).v (dotF c.1 c.2.1 c.2.2).v := rfl
  have hdt : ((dotF b.1 b.2.1 b.2.2).x.q - (dotF a.1 a.2.1 a.2.2).x.q) * ((dotF c.1 c.2.1 c.2.2).x.q - (dotF a.1 a.2.1 a.2.2).x.q) + ((dotF b.1 b.2.1 b.2.2).y.q - (dotF a.1 a.2.1 a.2.2).y.q) * ((dotF c.1 c.2.1 c.2.2).y.q - (dotF a.1 a.2.1 a.2.2).y.q) = dot (dotF a.1 a.2.1 a.2.2).v (dotF b.1 b.2.1 b.2.2).v (dotF c.1 c.2.1 c.2.2).v := rfl
  have hcn : lessX (dotD a) (dotD b) * lessY (dotD a) (dotD c) - lessY (dotD a) (dotD b) * lessX (dotD a) (dotD c) = crossN (dotD a) (dotD b) (dotD c) := rfl
  have htn : lessX (dotD a) (dotD b) * lessX (dotD a) (dotD c) + lessY (dotD a) (dotD b) * lessY (dotD a) (dotD c) = timesN (dotD a) (dotD b) (dotD c) := rfl
  have ofq : ∀ q, (FQ.of q).q = q := fun _ => rfl
  rw [hcr] at c1
  rw [hdt] at e1
  rw [hcn] at c3
  rw [htn] at e3
  rw [ofq] at c2 e2
  clear o1 hcr hdt hcn htn y1 y2 y3 y4 z1 z2 z3 z4 z5 z6 z7 z8 z9 u1 u2 u3 zw za zb zc ya yb yc wa wb wc ha hb hc hp
  obtain ⟨T1, nm_⟩ : ∃ nm0_, nm0_ = txtV (dotF a.1 a.2.1 a.2.2).v := ⟨_, rfl⟩
  simp only [← nm_] at tx tu
  clear nm_
  obtain ⟨T2, nm_⟩ : ∃ nm0_, nm0_ = txtV (FP.mk (.of (p.1 : Rat)) (.of (p.2 : Rat))).v := ⟨_, rfl⟩
  simp only [← nm_] at g3 g4
  clear nm_
  obtain ⟨G, nm_⟩ : ∃ nm0_, nm0_ = FP.mk (.of (p.1 : Rat)) (.of (p.2 : Rat)) := ⟨_, rfl⟩
  simp only [← nm_] at g1 g3
  clear nm_
  obtain ⟨k, nm_⟩ : ∃ nm0_, nm0_ = cmpP (dotF a.1 a.2.1 a.2.2) (dotF b.1 b.2.1 b.2.2) := ⟨_, rfl⟩
  simp only [← nm_] at k1 k2
  clear nm_
  obtain ⟨T3, nm_⟩ : ∃ nm0_, nm0_ = ratText (cross (dotF a.1 a.2.1 a.2.2).v (dotF b.1 b.2.1 b.2.2).v (dotF c.1 c.2.1 c.2.2).v) := ⟨_, rfl⟩
  simp only [← nm_] at c2 c4
  clear nm_
  obtain ⟨T4, nm_⟩ : ∃ nm0_, nm0_ = ratText (dot (dotF a.1 a.2.1 a.2.2).v (dotF b.1 b.2.1 b.2.2).v (dotF c.1 c.2.1 c.2.2).v) := ⟨_, rfl⟩
  simp only [← nm_] at e2 e4
  clear nm_
  obtain ⟨K, nm_⟩ : ∃ nm0_, nm0_ = FQ.of (cross (dotF a.1 a.2.1 a.2.2).v (dotF b.1 b.2.1 b.2.2).v (dotF c.1 c.2.1 c.2.2).v) := ⟨_, rfl⟩
  simp only [← nm_] at c1 c2
  clear nm_
  obtain ⟨D, nm_⟩ : ∃ nm0_, nm0_ = FQ.of (dot (dotF a.1 a.2.1 a.2.2).v (dotF b.1 b.2.1 b.2.2).v (dotF c.1 c.2.1 c.2.2).v) := ⟨_, rfl⟩
  simp only [← nm_] at e1 e2
  clear nm_
  obtain ⟨n1, nm_⟩ : ∃ nm0_, nm0_ = crossN (dotD a) (dotD b) (dotD c) := ⟨_, rfl⟩
  simp only [← nm_] at c3 c4
  clear nm_
  obtain ⟨n2, nm_⟩ : ∃ nm0_, nm0_ = timesN (dotD a) (dotD b) (dotD c) := ⟨_, rfl⟩
  simp only [← nm_] at e3 e4
  clear nm_
  obtain ⟨w1, nm_⟩ : ∃ nm0_, nm0_ = denW (dotD a) (dotD b) (dotD c) := ⟨_, rfl⟩
  simp only [← nm_] at c3 c4 e3 e4
  clear nm_
  obtain ⟨sd, nm_⟩ : ∃ nm0_, nm0_ = sideOf (dotF a.1 a.2.1 a.2.2) (dotF b.1 b.2.1 b.2.2) (dotF c.1 c.2.1 c.2.2) := ⟨_, rfl⟩
  simp only [← nm_] at f1 f2
  clear nm_
  obtain ⟨X, nm_⟩ : ∃ nm0_, nm0_ = dotF a.1 a.2.1 a.2.2 := ⟨_, rfl⟩
  simp only [← nm_] at pa tx k1 c1 e1 f1
  clear nm_
  obtain ⟨Y, nm_⟩ : ∃ nm0_, nm0_ = dotF b.1 b.2.1 b.2.2 := ⟨_, rfl⟩
  simp only [← nm_] at pb k1 c1 e1 f1
  clear nm_
  obtain ⟨Z, nm_⟩ : ∃ nm0_, nm0_ = dotF c.1 c.2.1 c.2.2 := ⟨_, rfl⟩
  simp only [← nm_] at pc c1 e1 f1
  clear nm_
  obtain ⟨U, nm_⟩ : ∃ nm0_, nm0_ = dotD a := ⟨_, rfl⟩
  simp only [← nm_] at da tu k2 c3 e3 f2
  clear nm_
  obtain ⟨V, nm_⟩ : ∃ nm0_, nm0_ = dotD b := ⟨_, rfl⟩
  simp only [← nm_] at db k2 c3 e3 f2
  clear nm_
  obtain ⟨W, nm_⟩ : ∃ nm0_, nm0_ = dotD c := ⟨_, rfl⟩
  simp only [← nm_] at dc c3 e3 f2
  clear nm_
  obtain ⟨px, py⟩ := p
  simp only at g1 g2 g4
  obtain ⟨H, nm_⟩ : ∃ nm0_, nm0_ = DP.mk px py 1 := ⟨_, rfl⟩
  simp only [← nm_] at g2 g4
  clear nm_
  refine Eval.intro Try.func7 rfl Try.call7 _ _ (Nat.le_of_ble_eq_true rfl) (by simp [-map_take,-map_drop, AV.refs, refsL, natAV, zAV, zC, ratAV, ratC, ptAV, ptC, sgAV, sgC, d3sAV, d3AV, d3C, dAV, dC, rAV, rC, dotAV, DP.av, DP.av2, dpC, ratD, push_cast]) fun hs0 => ?_
  repeat' (first
    | with_reducible first | apply thenW_n | apply W_seq
    | with_reducible refine W_region (by first | decide | (with_unfolding_all rfl)) ?_
    | (rw [vcn]; (try simp [-map_take,-map_drop, push_cast, sgAV, sgC, ptAV, ptC, ratAV, ratC, zAV, zC, DP.av2, DP.av, d3AV, d3C, dAV, dC, rC, numC, ← tens.eq_1, ratD, dotAV, strD]))
    | with_reducible refine W_drawn mixed (by decide) (by kernel_rfl) ?_
    | (rw [vcnD]; (try simp [-map_take,-map_drop, push_cast, sgAV, sgC, ptAV, ptC, ratAV, ratC, zAV, zC, DP.av2, DP.av, d3AV, d3C, dAV, dC, rC, numC, ← tens.eq_1, ratD, dotAV, strD]))
    | fail)
  refine callD_of (pa) rfl rfl rfl ?_
  try dsimp only
  repeat' (first
    | (rw [vcnD]; (try simp [-map_take,-map_drop, push_cast, sgAV, sgC, ptAV, ptC, ratAV, ratC, zAV, zC, DP.av2, DP.av, d3AV, d3C, dAV, dC, rC, numC, ← tens.eq_1, ratD, dotAV, strD]))
    | fail)
  refine callD_of (pb) rfl rfl rfl ?_
  try dsimp only
  repeat' (first
    | (rw [vcnD]; (try simp [-map_take,-map_drop, push_cast, sgAV, sgC, ptAV, ptC, ratAV, ratC, zAV, zC, DP.av2, DP.av, d3AV, d3C, dAV, dC, rC, numC, ← tens.eq_1, ratD, dotAV, strD]))
    | fail)
  refine callD_of (pc) rfl rfl rfl ?_
  try dsimp only
  repeat' (first
    | with_reducible first | apply thenW_n | apply W_seq
    | with_reducible refine W_drawn mixed (by decide) (by kernel_rfl) ?_
    | (rw [vcnD]; (try simp [-map_take,-map_drop, push_cast, sgAV, sgC, ptAV, ptC, ratAV, ratC, zAV, zC, DP.av2, DP.av, d3AV, d3C, dAV, dC, rC, numC, ← tens.eq_1, ratD, dotAV, strD]))
    | refine And.intro (by first | omega | kernel_rfl) ?_
    | fail)
  refine callD_of (da) rfl rfl rfl ?_
  try dsimp only
  repeat' (first
    | (rw [vcnD]; (try simp [-map_take,-map_drop, push_cast, sgAV, sgC, ptAV, ptC, ratAV, ratC, zAV, zC, DP.av2, DP.av, d3AV, d3C, dAV, dC, rC, numC, ← tens.eq_1, ratD, dotAV, strD]))
    | fail)
  refine callD_of (db) rfl rfl rfl ?_
  try dsimp only
  repeat' (first
    | (rw [vcnD]; (try simp [-map_take,-map_drop, push_cast, sgAV, sgC, ptAV, ptC, ratAV, ratC, zAV, zC, DP.av2, DP.av, d3AV, d3C, dAV, dC, rC, numC, ← tens.eq_1, ratD, dotAV, strD]))
    | fail)
  refine callD_of (dc) rfl rfl rfl ?_
  try dsimp only
  repeat' (first
    | with_reducible first | apply thenW_n | apply W_seq
    | with_reducible refine W_drawn mixed (by decide) (by kernel_rfl) ?_
    | (rw [vcnD]; (try simp [-map_take,-map_drop, push_cast, sgAV, sgC, ptAV, ptC, ratAV, ratC, zAV, zC, DP.av2, DP.av, d3AV, d3C, dAV, dC, rC, numC, ← tens.eq_1, ratD, dotAV, strD]))
    | refine And.intro (by first | omega | kernel_rfl) ?_
    | fail)
  refine callD_of (known11_ok) rfl rfl rfl ?_
  try dsimp only
  repeat' (first
    | (rw [vcnD]; (try simp [-map_take,-map_drop, push_cast, sgAV, sgC, ptAV, ptC, ratAV, ratC, zAV, zC, DP.av2, DP.av, d3AV, d3C, dAV, dC, rC, numC, ← tens.eq_1, ratD, dotAV, strD]))
    | fail)
  refine callD_of (tx) rfl rfl rfl ?_
  try dsimp only
  repeat' (first
    | (rw [vcnD]; (try simp [-map_take,-map_drop, push_cast, sgAV, sgC, ptAV, ptC, ratAV, ratC, zAV, zC, DP.av2, DP.av, d3AV, d3C, dAV, dC, rC, numC, ← tens.eq_1, ratD, dotAV, strD]))
    | fail)
  refine callD_of (tu) rfl rfl rfl ?_
  try dsimp only
  repeat' (first
    | (rw [vcnD]; (try simp [-map_take,-map_drop, push_cast, sgAV, sgC, ptAV, ptC, ratAV, ratC, zAV, zC, DP.av2, DP.av, d3AV, d3C, dAV, dC, rC, numC, ← tens.eq_1, ratD, dotAV, strD]))
    | fail)
  refine callD_of (g1) rfl rfl rfl ?_
  try dsimp only
  repeat' (first
    | (rw [vcnD]; (try simp [-map_take,-map_drop, push_cast, sgAV, sgC, ptAV, ptC, ratAV, ratC, zAV, zC, DP.av2, DP.av, d3AV, d3C, dAV, dC, rC, numC, ← tens.eq_1, ratD, dotAV, strD]))
    | fail)
  refine callD_of (g3) rfl rfl rfl ?_
  try dsimp only
  repeat' (first
    | (rw [vcnD]; (try simp [-map_take,-map_drop, push_cast, sgAV, sgC, ptAV, ptC, ratAV, ratC, zAV, zC, DP.av2, DP.av, d3AV, d3C, dAV, dC, rC, numC, ← tens.eq_1, ratD, dotAV, strD]))
    | fail)
  refine callD_of (g2) rfl rfl rfl ?_
  try dsimp only
  repeat' (first
    | (rw [vcnD]; (try simp [-map_take,-map_drop, push_cast, sgAV, sgC, ptAV, ptC, ratAV, ratC, zAV, zC, DP.av2, DP.av, d3AV, d3C, dAV, dC, rC, numC, ← tens.eq_1, ratD, dotAV, strD]))
    | fail)
  refine callD_of (g4) rfl rfl rfl ?_
  try dsimp only
  repeat' (first
    | (rw [vcnD]; (try simp [-map_take,-map_drop, push_cast, sgAV, sgC, ptAV, ptC, ratAV, ratC, zAV, zC, DP.av2, DP.av, d3AV, d3C, dAV, dC, rC, numC, ← tens.eq_1, ratD, dotAV, strD]))
    | fail)
  refine callD_of (k1) rfl rfl rfl ?_
  try dsimp only
  repeat' (first
    | (rw [vcnD]; (try simp [-map_take,-map_drop, push_cast, sgAV, sgC, ptAV, ptC, ratAV, ratC, zAV, zC, DP.av2, DP.av, d3AV, d3C, dAV, dC, rC, numC, ← tens.eq_1, ratD, dotAV, strD]))
    | fail)
  refine callD_of (k2) rfl rfl rfl ?_
  try dsimp only
  repeat' (first
    | with_reducible first | apply thenW_n | apply W_seq | apply W_skip
    | with_reducible refine W_drawn mixed (by decide) (by kernel_rfl) ?_
    | (rw [vcnD]; (try simp [-map_take,-map_drop, push_cast, sgAV, sgC, ptAV, ptC, ratAV, ratC, zAV, zC, DP.av2, DP.av, d3AV, d3C, dAV, dC, rC, numC, ← tens.eq_1, ratD, dotAV, strD]))
    | (with_reducible refine W_condW ?_; (try simp [-map_take,-map_drop, AS.val, upd, resB, mkS_env, mkS_box, lk, entry_env, condW_true, condW_false, sgAV, sgC, ptAV, ptC, ratAV, ratC, zAV, zC, DP.av2, DP.av, d3AV, d3C, dAV, dC, rC, numC, ← tens.eq_1, ratD, dotAV, strD]))
    | refine And.intro (by first | omega | kernel_rfl) ?_
    | fail)
  refine callD_of (c1) rfl rfl rfl ?_
  try dsimp only
  repeat' (first
    | (rw [vcnD]; (try simp [-map_take,-map_drop, push_cast, sgAV, sgC, ptAV, ptC, ratAV, ratC, zAV, zC, DP.av2, DP.av, d3AV, d3C, dAV, dC, rC, numC, ← tens.eq_1, ratD, dotAV, strD]))
    | fail)
  refine callD_of (c2) rfl rfl rfl ?_
  try dsimp only
  repeat' (first
    | (rw [vcnD]; (try simp [-map_take,-map_drop, push_cast, sgAV, sgC, ptAV, ptC, ratAV, ratC, zAV, zC, DP.av2, DP.av, d3AV, d3C, dAV, dC, rC, numC, ← tens.eq_1, ratD, dotAV, strD]))
    | fail)
  refine callD_of (c3) rfl rfl rfl ?_
  try dsimp only
  repeat' (first
    | (rw [vcnD]; (try simp [-map_take,-map_drop, push_cast, sgAV, sgC, ptAV, ptC, ratAV, ratC, zAV, zC, DP.av2, DP.av, d3AV, d3C, dAV, dC, rC, numC, ← tens.eq_1, ratD, dotAV, strD]))
    | fail)
  refine callD_of (c4) rfl rfl rfl ?_
  try dsimp only
  repeat' (first
    | (rw [vcnD]; (try simp [-map_take,-map_drop, push_cast, sgAV, sgC, ptAV, ptC, ratAV, ratC, zAV, zC, DP.av2, DP.av, d3AV, d3C, dAV, dC, rC, numC, ← tens.eq_1, ratD, dotAV, strD]))
    | fail)
  refine callD_of (e1) rfl rfl rfl ?_
  try dsimp only
  repeat' (first
    | (rw [vcnD]; (try simp [-map_take,-map_drop, push_cast, sgAV, sgC, ptAV, ptC, ratAV, ratC, zAV, zC, DP.av2, DP.av, d3AV, d3C, dAV, dC, rC, numC, ← tens.eq_1, ratD, dotAV, strD]))
    | fail)
  refine callD_of (e2) rfl rfl rfl ?_
  try dsimp only
  repeat' (first
    | (rw [vcnD]; (try simp [-map_take,-map_drop, push_cast, sgAV, sgC, ptAV, ptC, ratAV, ratC, zAV, zC, DP.av2, DP.av, d3AV, d3C, dAV, dC, rC, numC, ← tens.eq_1, ratD, dotAV, strD]))
    | fail)
  refine callD_of (e3) rfl rfl rfl ?_
  try dsimp only
  repeat' (first
    | (rw [vcnD]; (try simp [-map_take,-map_drop, push_cast, sgAV, sgC, ptAV, ptC, ratAV, ratC, zAV, zC, DP.av2, DP.av, d3AV, d3C, dAV, dC, rC, numC, ← tens.eq_1, ratD, dotAV, strD]))
    | fail)
  refine callD_of (e4) rfl rfl rfl ?_
  try dsimp only
  repeat' (first
    | (rw [vcnD]; (try simp [-map_take,-map_drop, push_cast, sgAV, sgC, ptAV, ptC, ratAV, ratC, zAV, zC, DP.av2, DP.av, d3AV, d3C, dAV, dC, rC, numC, ← tens.eq_1, ratD, dotAV, strD]))
    | fail)
  refine callD_of (f1) rfl rfl rfl ?_
  try dsimp only
  repeat' (first
    | (rw [vcnD]; (try simp [-map_take,-map_drop, push_cast, sgAV, sgC, ptAV, ptC, ratAV, ratC, zAV, zC, DP.av2, DP.av, d3AV, d3C, dAV, dC, rC, numC, ← tens.eq_1, ratD, dotAV, strD]))
    | fail)
  refine callD_of (f2) rfl rfl rfl ?_
  try dsimp only
  repeat' (first
    | with_reducible first | apply thenW_n | apply W_ret
    | (rw [vcnD]; (try simp [-map_take,-map_drop, push_cast, sgAV, sgC, ptAV, ptC, ratAV, ratC, zAV, zC, DP.av2, DP.av, d3AV, d3C, dAV, dC, rC, numC, ← tens.eq_1, ratD, dotAV, strD]))
    | refine And.intro (by first | omega | kernel_rfl) ?_
    | fail)
  simp [-map_take,-map_drop, post, resAV, resAll, resOne, closeV, closeC, closeL, resD, resDL, push_cast]
end Go.Fw

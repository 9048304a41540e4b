/- The law PairMoves comes to true: the walk. -/
import Derived.Test.YtgpfebgjcbacnaaV3
set_option linter.unusedSimpArgs false
set_option linter.unusedVariables false
-- VALS: zAV, zC, ratAV, ratC, ptAV, ptC, sgAV, sgC, d3sAV, d3C, dC, dotAV
namespace Go.Fw
open Go Go.Proofs Go.IntWalk
set_option linter.unusedSimpArgs false
set_option maxRecDepth 100000
set_option maxHeartbeats 20000000

def mvP (v p : FP) : FP := ⟨.of (p.x.q + v.x.q), .of (p.y.q + v.y.q)⟩
def quP (p : FP) : FP := ⟨p.y.neg, p.x⟩
def grP (m : FQ) (p : FP) : FP := ⟨.of (p.x.q * m.q), .of (p.y.q * m.q)⟩
def FSg.mp (φ : FP → FP) (s : FSg) : FSg := ⟨φ s.A, φ s.B⟩
theorem HD.hp {p : FP} (h : HD p) : HP p := ⟨h.1.mono (by omega) (by omega), h.2.mono (by omega) (by omega)⟩
theorem HD.mv {v p : FP} (hv : HD v) (hp : HD p) : HP (mvP v p) := ⟨(hp.1.add hv.1 70 (by omega) (by omega)).mono (by omega) (by omega), (hp.2.add hv.2 70 (by omega) (by omega)).mono (by omega) (by omega)⟩
theorem HD.qu {p : FP} (hp : HD p) : HP (quP p) := ⟨hp.2.neg.mono (by omega) (by omega), hp.1.mono (by omega) (by omega)⟩
theorem HD.gr {m : FQ} {p : FP} (hm : HB m.q 4 1) (hp : HD p) : HP (grP m p) := ⟨(hp.1.mul hm).mono (by omega) (by omega), (hp.2.mul hm).mono (by omega) (by omega)⟩

theorem fitsB_mv (v : FP) (k : Int) (e f : FSg) (d : Int) : fitsB k (e.mp (mvP v)) (f.mp (mvP v)) d = fitsB k e f d :=
  fitsB_eq ((sim_move v.v).fits k e.v f.v (by grind) Iff.rfl)
theorem fitsB_qu (k : Int) (e f : FSg) (d : Int) : fitsB k (e.mp quP) (f.mp quP) d = fitsB k e f d :=
  fitsB_eq (sim_quarter.fits k e.v f.v (by grind) Iff.rfl)
theorem fitsB_gr {t : Int} (ht : 0 < t) (k : Int) (e f : FSg) (d : Int) : fitsB k (e.mp (grP (.of t))) (f.mp (grP (.of t))) (d * t) = fitsB k e f d := by
  have hm : (0 : Rat) < (t : Rat) := Rat.intCast_pos.2 ht
  refine fitsB_eq ((sim_great hm).fits k e.v f.v ?_ ?_)
  · rw [Rat.intCast_mul]; grind
  · constructor
    · intro h
      rcases Int.lt_or_le 0 d with h1 | h1
      · exact h1
      · have := Int.mul_nonneg (a := -d) (b := t) (by omega) (by omega)
        rw [Int.neg_mul] at this
        omega
    · intro h; exact Int.mul_pos h ht

open List (map_take map_drop)
attribute [local push_cast] optK_some optK_none optK_ite optK_map optK_bind gOn stepK isMem evPure evMem evBin evUn evConv evLen evBuiltin evMinMax evSlice evBuild evAppend evIndex evIndexAddr evField evFieldAddr intBin strBin appDest AS.val AS.mem AS.elems AS.put AS.put' AS.eff AV.cells? AV.isCell AV.refs all_isByte take_byteV drop_byteV strOf_map bndOk bnd partAV ptrAdd killBox catA inOrder fillA setAt ofVal resB upd byteV List.head?_take List.head?_drop List.getElem?_map mkS_env mkS_box mkS_used entry_env entry_box entry_used lk stepD lookIds Oper.looksAt Op.operands Call.operands St.ids refsL renL_append ren renL renBox Box.refs iV i64V boolV dV_getElem dV_app dV_cons toNat_add2 toNat_add1
attribute [local simp ↓] numC_refs numC_isCell numC_cells numC_resB numC_resD numC_ren numC_closeC numC_isOwn
theorem move_ok (v p : FP) (h : szV p + szV v ≤ 10000) : Eval Try.prog 13 [ptAV p, .ip (ptC v)] (.ret (ptAV (mvP v p))) := by
  refine Eval.intro Try.func13 rfl Try.call13 _ _ (Nat.le_of_ble_eq_true rfl) (by simp [-map_take,-map_drop, AV.refs, refsL, natAV, zAV, zC, ratAV, ratC, ptAV, ptC, sgAV, sgC, d3sAV, d3C, dC, dotAV, push_cast]) fun hs0 => ?_
  simp only [szV] at h
  have e1 := addR_ok p.x v.x (by omega)
  have e2 := addR_ok p.y v.y (by omega)
  unfold mvP
  obtain ⟨a, ha⟩ : ∃ a, a = FQ.of (p.x.q + v.x.q) := ⟨_, rfl⟩
  obtain ⟨b, hb⟩ : ∃ a, a = FQ.of (p.y.q + v.y.q) := ⟨_, rfl⟩
  rw [← ha] at e1 ⊢
  rw [← hb] at e2 ⊢
  clear ha hb h
  repeat' (first
    | with_reducible first | apply thenW_n | apply W_seq
    | with_reducible refine W_region (by first | decide | (with_unfolding_all rfl)) ?_
    | (rw [vcn]; (try simp [-map_take,-map_drop, push_cast, ptAV, ptC, ratAV, ratC, zAV, zC]))
    | with_reducible refine W_drawn mixed (by decide) (by kernel_rfl) ?_
    | (rw [vcnD]; (try simp [-map_take,-map_drop, push_cast, ptAV, ptC, ratAV, ratC, zAV, zC]))
    | fail)
  refine callD_of (e1) rfl rfl rfl ?_
  try dsimp only
  repeat' (first
    | (rw [vcnD]; (try simp [-map_take,-map_drop, push_cast, ptAV, ptC, ratAV, ratC, zAV, zC]))
    | fail)
  refine callD_of (e2) rfl rfl rfl ?_
  try dsimp only
  repeat' (first
    | with_reducible first | apply thenW_n | apply W_ret
    | (rw [vcnD]; (try simp [-map_take,-map_drop, push_cast, ptAV, ptC, ratAV, ratC, zAV, zC]))
    | refine And.intro (by first | omega | kernel_rfl) ?_
    | fail)
  simp [-map_take,-map_drop, post, resAV, resAll, resOne, closeV, closeC, closeL, resD, resDL, push_cast, ptAV, ptC, ratAV, ratC, zAV, zC]
theorem quarter_ok (p : FP) (h : szV p ≤ 10000) : Eval Try.prog 15 [ptAV p] (.ret (ptAV (quP p))) := by
  refine Eval.intro Try.func15 rfl Try.call15 _ _ (Nat.le_of_ble_eq_true rfl) (by simp [-map_take,-map_drop, AV.refs, refsL, natAV, zAV, zC, ratAV, ratC, ptAV, ptC, sgAV, sgC, d3sAV, d3C, dC, dotAV, push_cast]) fun hs0 => ?_
  simp only [szV] at h
  have e1 := negR_ok p.y (by omega)
  unfold quP
  obtain ⟨a, ha⟩ : ∃ a, a = p.y.neg := ⟨_, rfl⟩
  rw [← ha] at e1 ⊢
  clear ha h
  repeat' (first
    | with_reducible first | apply thenW_n | apply W_seq
    | with_reducible refine W_region (by first | decide | (with_unfolding_all rfl)) ?_
    | (rw [vcn]; (try simp [-map_take,-map_drop, push_cast, ptAV, ptC, ratAV, ratC, zAV, zC]))
    | with_reducible refine W_drawn mixed (by decide) (by kernel_rfl) ?_
    | (rw [vcnD]; (try simp [-map_take,-map_drop, push_cast, ptAV, ptC, ratAV, ratC, zAV, zC]))
    | fail)
  refine callD_of (e1) rfl rfl rfl ?_
  try dsimp only
  repeat' (first
    | with_reducible first | apply thenW_n | apply W_ret
    | (rw [vcnD]; (try simp [-map_take,-map_drop, push_cast, ptAV, ptC, ratAV, ratC, zAV, zC]))
    | refine And.intro (by first | omega | kernel_rfl) ?_
    | fail)
  simp [-map_take,-map_drop, post, resAV, resAll, resOne, closeV, closeC, closeL, resD, resDL, push_cast, ptAV, ptC, ratAV, ratC, zAV, zC]
theorem great_ok (m : FQ) (p : FP) (h : szV p + szQ m.q ≤ 10000) : Eval Try.prog 17 [ptAV p, .ip (ratC m)] (.ret (ptAV (grP m p))) := by
  refine Eval.intro Try.func17 rfl Try.call17 _ _ (Nat.le_of_ble_eq_true rfl) (by simp [-map_take,-map_drop, AV.refs, refsL, natAV, zAV, zC, ratAV, ratC, ptAV, ptC, sgAV, sgC, d3sAV, d3C, dC, dotAV, push_cast]) fun hs0 => ?_
  simp only [szV] at h
  have e1 := mulR_ok p.x m (by omega)
  have e2 := mulR_ok p.y m (by omega)
  unfold grP
  obtain ⟨a, ha⟩ : ∃ a, a = FQ.of (p.x.q * m.q) := ⟨_, rfl⟩
  obtain ⟨b, hb⟩ : ∃ a, a = FQ.of (p.y.q * m.q) := ⟨_, rfl⟩
  rw [← ha] at e1 ⊢
  rw [← hb] at e2 ⊢
  clear ha hb h
  repeat' (first
    | with_reducible first | apply thenW_n | apply W_seq
    | with_reducible refine W_region (by first | decide | (with_unfolding_all rfl)) ?_
    | (rw [vcn]; (try simp [-map_take,-map_drop, push_cast, ptAV, ptC, ratAV, ratC, zAV, zC]))
    | with_reducible refine W_drawn mixed (by decide) (by kernel_rfl) ?_
    | (rw [vcnD]; (try simp [-map_take,-map_drop, push_cast, ptAV, ptC, ratAV, ratC, zAV, zC]))
    | fail)
  refine callD_of (e1) rfl rfl rfl ?_
  try dsimp only
  repeat' (first
    | (rw [vcnD]; (try simp [-map_take,-map_drop, push_cast, ptAV, ptC, ratAV, ratC, zAV, zC]))
    | fail)
  refine callD_of (e2) rfl rfl rfl ?_
  try dsimp only
  repeat' (first
    | with_reducible first | apply thenW_n | apply W_ret
    | (rw [vcnD]; (try simp [-map_take,-map_drop, push_cast, ptAV, ptC, ratAV, ratC, zAV, zC]))
    | refine And.intro (by first | omega | kernel_rfl) ?_
    | fail)
  simp [-map_take,-map_drop, post, resAV, resAll, resOne, closeV, closeC, closeL, resD, resDL, push_cast, ptAV, ptC, ratAV, ratC, zAV, zC]

theorem hnine (t : Int) : ∃ r : Nat, (IntKind.u64.wrap t).tmod 9 = (r : Int) ∧ r ≤ 8 := by
  rw [IntKind.wrap_u64, Int.tmod_eq_emod_of_nonneg (by omega)]
  exact ⟨(t % 18446744073709551616 % 9).toNat, by omega, by omega⟩

theorem lawMoves_ok (a b c d y : Int × Int × Int) (n0 t0 : Int) (ha : inD a) (hb : inD b) (hc : inD c) (hd : inD d) (hy : inD y) (hn0 : inI n0) (ht0 : inI t0) :
    Eval Try.prog 4 [dotAV a, dotAV b, dotAV c, dotAV d, dotAV y, i64V n0, i64V t0] (.ret (.v (.bool true))) := by
  refine Eval.intro Try.func4 rfl Try.call4 _ _ (Nat.le_of_ble_eq_true rfl) (by simp [-map_take,-map_drop, AV.refs, refsL, natAV, zAV, zC, ratAV, ratC, ptAV, ptC, sgAV, sgC, d3sAV, d3C, dC, dotAV, push_cast]) fun hs0 => ?_
  repeat' (first
    | with_reducible first | apply thenW_n | apply W_seq
    | with_reducible refine W_region (by first | decide | (with_unfolding_all rfl)) ?_
    | (rw [vcn]; (try simp [-map_take,-map_drop, push_cast, dotAV]))
    | fail)
  refine W_joinQ (X := Int) (fun n => [(5, i64V n), (6, i64V t0), (7, .bp 7 0), (8, .bp 8 0), (9, .bp 9 0), (10, .bp 10 0), (11, .bp 11 0)])
    (fun _ => [(7, .mut 23 [i64V a.1, i64V a.2.1, i64V a.2.2]), (8, .mut 23 [i64V b.1, i64V b.2.1, i64V b.2.2]), (9, .mut 23 [i64V c.1, i64V c.2.1, i64V c.2.2]), (10, .mut 23 [i64V d.1, i64V d.2.1, i64V d.2.2]), (11, .mut 23 [i64V y.1, i64V y.2.1, i64V y.2.2])])
    (fun n => inI n ∧ n ≤ 1099511627776) ?_ fun n hn => ?_
  · by_cases h : 1099511627776 < n0
    · have g1 : ((1099511627776 : Int) < n0) = True := eq_true h
      repeat' (first
        | with_reducible refine W_region (by first | decide | (with_unfolding_all rfl)) ?_
        | (rw [vcn]; (try simp [-map_take,-map_drop, push_cast, g1]))
        | (with_reducible refine W_condW ?_; (try simp [-map_take,-map_drop, AS.val, upd, resB, mkS_env, mkS_box, lk, entry_env, condW_true, condW_false, g1]))
        | fail)
      refine joinW_n 1099511627776 id ⟨by unfold inI; omega, by omega⟩ ⟨?_, ?_, ?_, ?_, ?_, ?_⟩
      all_goals first | (simp [-map_take,-map_drop, push_cast, dV_take, dV_drop]; done)
    · have g1 : ((1099511627776 : Int) < n0) = False := eq_false h
      repeat' (first
        | with_reducible apply W_skip
        | (with_reducible refine W_condW ?_; (try simp [-map_take,-map_drop, AS.val, upd, resB, mkS_env, mkS_box, lk, entry_env, condW_true, condW_false, g1]))
        | fail)
      refine joinW_n n0 id ⟨hn0, by omega⟩ ⟨?_, ?_, ?_, ?_, ?_, ?_⟩
      all_goals first | (simp [-map_take,-map_drop, push_cast, dV_take, dV_drop]; done)
  obtain ⟨hn, hn40⟩ := hn
  obtain ⟨r, r1, r8⟩ := hnine t0
  have w1 : IntKind.i64.wrap (r : Int) = r := by rw [i64_in _ (by omega)]
  have w2 : IntKind.i64.wrap (1 + (r : Int)) = ((r + 1 : Nat) : Int) := by rw [i64_in _ (by omega)]; omega
  obtain ⟨t, ht⟩ : ∃ t, t = r + 1 := ⟨_, rfl⟩
  rw [← ht] at w2
  have ht1 : 0 < (t : Int) := by omega
  have s1 := seg19_ok a b ha hb
  have s2 := seg19_ok c d hc hd
  have s3 := ofZ_ok (t : Int) (by omega)
  have s4 := whole_ok (t : Int) (by have := limbs_small (n := (t : Int).natAbs) (by omega); omega)
  have s5 := l11At_ok y.1 y.2.1 y.2.2 hy.1 hy.2
  have HA := HD.dot ha
  have HBd := HD.dot hb
  have HC := HD.dot hc
  have HDd := HD.dot hd
  have HY := HD.dot hy
  have he := HS.dots ha hb
  have hf := HS.dots hc hd
  have hM : HB (FQ.of ((t : Int) : Rat)).q 4 1 := HB.int (n := 4) (by omega)
  have hgr := fun k e f d => fitsB_gr ht1 k e f d
  obtain ⟨A, h1⟩ : ∃ A, A = dotF a.1 a.2.1 a.2.2 := ⟨_, rfl⟩
  obtain ⟨B, h2⟩ : ∃ A, A = dotF b.1 b.2.1 b.2.2 := ⟨_, rfl⟩
  obtain ⟨C, h3⟩ : ∃ A, A = dotF c.1 c.2.1 c.2.2 := ⟨_, rfl⟩
  obtain ⟨D, h4⟩ : ∃ A, A = dotF d.1 d.2.1 d.2.2 := ⟨_, rfl⟩
  obtain ⟨Y, h5⟩ : ∃ A, A = dotF y.1 y.2.1 y.2.2 := ⟨_, rfl⟩
  have h12 : dotsF a b = ⟨A, B⟩ := by rw [h1, h2]; rfl
  have h34 : dotsF c d = ⟨C, D⟩ := by rw [h3, h4]; rfl
  rw [h12] at s1 he
  rw [h34] at s2 hf
  rw [← h5] at s5 HY
  rw [← h1] at HA
  rw [← h2] at HBd
  rw [← h3] at HC
  rw [← h4] at HDd
  obtain ⟨m, hm⟩ : ∃ m, m = FQ.of ((t : Int) : Rat) := ⟨_, rfl⟩
  rw [← hm] at s4 hM hgr
  clear h1 h2 h3 h4 h5 h12 h34 hm
  repeat' (first
    | with_reducible first | apply thenW_n | apply W_seq
    | with_reducible refine W_region (by first | decide | (with_unfolding_all rfl)) ?_
    | (rw [vcn]; (try simp [-map_take,-map_drop, push_cast, r1, w1, w2]))
    | fail)
  refine CallG_of (s1) rfl rfl rfl ?_
  try dsimp only
  repeat' (first
    | with_reducible first | apply thenW_n | apply W_seq
    | with_reducible refine W_region (by first | decide | (with_unfolding_all rfl)) ?_
    | (rw [vcn]; (try simp [-map_take,-map_drop, push_cast, r1, w1, w2, sgAV, sgC, ptAV, ptC, ratAV, ratC, zAV, zC, d3sAV, d3C, dC]))
    | fail)
  refine CallG_of (s2) rfl rfl rfl ?_
  try dsimp only
  repeat' (first
    | with_reducible first | apply thenW_n | apply W_seq
    | with_reducible refine W_region (by first | decide | (with_unfolding_all rfl)) ?_
    | (rw [vcn]; (try simp [-map_take,-map_drop, push_cast, sgAV, sgC, ptAV, ptC, ratAV, ratC, zAV, zC, d3sAV, d3C, dC]))
    | fail)
  refine CallG_of (s3) rfl rfl rfl ?_
  try dsimp only
  repeat' (first
    | (rw [vcn]; (try simp [-map_take,-map_drop, push_cast, zAV, zC]))
    | fail)
  refine CallG_of (s4) rfl rfl rfl ?_
  try dsimp only
  repeat' (first
    | with_reducible first | apply thenW_n | apply W_seq
    | with_reducible refine W_region (by first | decide | (with_unfolding_all rfl)) ?_
    | (rw [vcn]; (try simp [-map_take,-map_drop, push_cast, ratAV, ratC, zAV, zC]))
    | fail)
  refine CallG_of (s5) rfl rfl rfl ?_
  try dsimp only
  repeat' (first
    | (rw [vcn]; (try simp [-map_take,-map_drop, push_cast, ptAV, ptC, ratAV, ratC, zAV, zC]))
    | fail)
  refine thenW_n ?_
  refine W_frz 20 (e := 32) (l := ptC Y) (by simp [-map_take,-map_drop, mkS_box, lk, upd, ptC, ratC, zC]) rfl ?_
  refine W_frz 19 (e := 30) (l := ratC m) (by simp [-map_take,-map_drop, mkS_box, lk, upd, ratC, zC]) rfl ?_
  repeat' (first
    | with_reducible first | apply thenW_n | apply W_seq | apply W_block
    | with_reducible refine W_region (by first | decide | (with_unfolding_all rfl)) ?_
    | (rw [vcn]; (try simp [-map_take,-map_drop, push_cast, ptAV, ptC, ratAV, ratC, zAV, zC]))
    | fail)
  refine W_loopW (X := Nat) (fun k => [(5, i64V n), (6, i64V t), (15, .bp 15 0), (17, .bp 17 0), (21, .fn 13 [.ip (ptC Y)]), (22, .fn 15 []), (23, .fn 17 [.ip (ratC m)]), (24, i64V k)])
    (fun _ => [(15, .mut 34 (ptC A ++ ptC B)), (17, .mut 34 (ptC C ++ ptC D))])
    (fun k => 7 - k) (fun k => 1 ≤ k ∧ k ≤ 7) 1 id ⟨by omega, by omega⟩ ⟨?_, ?_, ?_, ?_, ?_, ?_⟩ fun k hk => ?_
  all_goals first | (with_reducible refine W_id ?_) | (simp [-map_take,-map_drop, push_cast, dV_take, dV_drop, sgC, ptC, ratC, zC]; done)
  obtain ⟨k1, k7⟩ := hk
  by_cases hk : k = 7
  · subst hk
    repeat' (first
      | with_reducible first | apply thenW_n | apply thenW_exit | apply blockW_same | apply loopW_exit | apply W_seq | apply W_exit
      | with_reducible refine W_region (by first | decide | (with_unfolding_all rfl)) ?_
      | (rw [vcn]; (try simp [-map_take,-map_drop, push_cast]))
      | (with_reducible refine W_condW ?_; (try simp [-map_take,-map_drop, AS.val, upd, resB, mkS_env, mkS_box, lk, entry_env, condW_true, condW_false]))
      | fail)
    refine CallG_of (known19_ok) rfl rfl rfl ?_
    try dsimp only
    repeat' (first
      | with_reducible first | apply thenW_n | apply W_ret
      | (rw [vcn]; (try simp [-map_take,-map_drop, push_cast]))
      | fail)
    simp [-map_take,-map_drop, post, resAV, resAll, resOne, closeV, closeC, closeL, resD, resDL, push_cast]
  have g1 : ((k : Int) ≤ 6) = True := eq_true (by omega)
  have g2 : (k ≤ 6) = True := eq_true (by omega)
  have w1 : IntKind.i64.wrap ((k : Int) + 1) = ((k + 1 : Nat) : Int) := by rw [i64_in _ (by omega)]; omega
  have zm : szQ m.q ≤ 10 := by have := hM.sz; omega
  have zy := HY.hp.sz
  have za := HA.hp.sz
  have zb := HBd.hp.sz
  have zc := HC.hp.sz
  have zd := HDd.hp.sz
  have ma := move_ok Y A (by omega)
  have qa := quarter_ok A (by omega)
  have ga := great_ok m A (by omega)
  have mb := move_ok Y B (by omega)
  have qb := quarter_ok B (by omega)
  have gb := great_ok m B (by omega)
  have mc := move_ok Y C (by omega)
  have qc := quarter_ok C (by omega)
  have gc := great_ok m C (by omega)
  have md := move_ok Y D (by omega)
  have qd := quarter_ok D (by omega)
  have gd := great_ok m D (by omega)
  have f0 := fits_ok k ⟨A, B⟩ ⟨C, D⟩ n hn he hf
  have f1 := fits_ok k ⟨mvP Y A, mvP Y B⟩ ⟨mvP Y C, mvP Y D⟩ n hn ⟨HD.mv HY HA, HD.mv HY HBd⟩ ⟨HD.mv HY HC, HD.mv HY HDd⟩
  have f2 := fits_ok k ⟨quP A, quP B⟩ ⟨quP C, quP D⟩ n hn ⟨HA.qu, HBd.qu⟩ ⟨HC.qu, HDd.qu⟩
  have b1 := fitsB_mv Y k ⟨A, B⟩ ⟨C, D⟩ n
  have b2 := fitsB_qu k ⟨A, B⟩ ⟨C, D⟩ n
  have b3 := hgr k ⟨A, B⟩ ⟨C, D⟩ n
  simp only [FSg.mp] at b1 b2 b3
  rw [b1] at f1
  rw [b2] at f2
  have f3 := fun hnt : inI (n * t) => fits_ok k ⟨grP m A, grP m B⟩ ⟨grP m C, grP m D⟩ (n * t) hnt ⟨HD.gr hM HA, HD.gr hM HBd⟩ ⟨HD.gr hM HC, HD.gr hM HDd⟩
  rw [b3] at f3
  obtain ⟨u, hu⟩ : ∃ u, u = fitsB k ⟨A, B⟩ ⟨C, D⟩ n := ⟨_, rfl⟩
  rw [← hu] at f0 f1 f2 f3
  clear hu b1 b2 b3
  obtain ⟨A1, hA1⟩ : ∃ x, x = mvP Y A := ⟨_, rfl⟩
  rw [← hA1] at ma f1
  clear hA1
  obtain ⟨B1, hB1⟩ : ∃ x, x = mvP Y B := ⟨_, rfl⟩
  rw [← hB1] at mb f1
  clear hB1
  obtain ⟨C1, hC1⟩ : ∃ x, x = mvP Y C := ⟨_, rfl⟩
  rw [← hC1] at mc f1
  clear hC1
  obtain ⟨D1, hD1⟩ : ∃ x, x = mvP Y D := ⟨_, rfl⟩
  rw [← hD1] at md f1
  clear hD1
  obtain ⟨A2, hA2⟩ : ∃ x, x = quP A := ⟨_, rfl⟩
  rw [← hA2] at qa f2
  clear hA2
  obtain ⟨B2, hB2⟩ : ∃ x, x = quP B := ⟨_, rfl⟩
  rw [← hB2] at qb f2
  clear hB2
  obtain ⟨C2, hC2⟩ : ∃ x, x = quP C := ⟨_, rfl⟩
  rw [← hC2] at qc f2
  clear hC2
  obtain ⟨D2, hD2⟩ : ∃ x, x = quP D := ⟨_, rfl⟩
  rw [← hD2] at qd f2
  clear hD2
  obtain ⟨A3, hA3⟩ : ∃ x, x = grP m A := ⟨_, rfl⟩
  rw [← hA3] at ga f3
  clear hA3
  obtain ⟨B3, hB3⟩ : ∃ x, x = grP m B := ⟨_, rfl⟩
  rw [← hB3] at gb f3
  clear hB3
  obtain ⟨C3, hC3⟩ : ∃ x, x = grP m C := ⟨_, rfl⟩
  rw [← hC3] at gc f3
  clear hC3
  obtain ⟨D3, hD3⟩ : ∃ x, x = grP m D := ⟨_, rfl⟩
  rw [← hD3] at gd f3
  clear hD3
  clear he hf HA HBd HC HDd HY hM zm zy za zb zc zd hgr
  repeat' (first
    | with_reducible first | apply thenW_n | apply W_seq | apply W_block | apply W_skip
    | with_reducible refine W_region (by first | decide | (with_unfolding_all rfl)) ?_
    | (rw [vcn]; (try simp [-map_take,-map_drop, push_cast, g1, g2, sgAV, sgC, ptAV, ptC, ratAV, ratC, zAV, zC]))
    | (with_reducible refine W_condW ?_; (try simp [-map_take,-map_drop, AS.val, upd, resB, mkS_env, mkS_box, lk, entry_env, condW_true, condW_false, g1, g2, sgAV, sgC, ptAV, ptC, ratAV, ratC, zAV, zC]))
    | fail)
  refine CallG_of (f0) rfl rfl rfl ?_
  try dsimp only
  repeat' (first
    | with_reducible first | apply thenW_n | apply W_seq
    | (rw [vcn]; (try simp [-map_take,-map_drop, push_cast, g1, g2, sgAV, sgC, ptAV, ptC, ratAV, ratC, zAV, zC]))
    | with_reducible refine W_drawn mixed (by decide) (by kernel_rfl) ?_
    | (rw [vcnD]; (try simp [-map_take,-map_drop, push_cast, g1, g2, sgAV, sgC, ptAV, ptC, ratAV, ratC, zAV, zC]))
    | fail)
  refine callD_of (ma) rfl rfl rfl ?_
  try dsimp only
  repeat' (first
    | (rw [vcnD]; (try simp [-map_take,-map_drop, push_cast, g1, g2, sgAV, sgC, ptAV, ptC, ratAV, ratC, zAV, zC]))
    | fail)
  refine callD_of (mb) rfl rfl rfl ?_
  try dsimp only
  repeat' (first
    | (rw [vcnD]; (try simp [-map_take,-map_drop, push_cast, g1, g2, sgAV, sgC, ptAV, ptC, ratAV, ratC, zAV, zC]))
    | fail)
  refine callD_of (mc) rfl rfl rfl ?_
  try dsimp only
  repeat' (first
    | (rw [vcnD]; (try simp [-map_take,-map_drop, push_cast, g1, g2, sgAV, sgC, ptAV, ptC, ratAV, ratC, zAV, zC]))
    | fail)
  refine callD_of (md) rfl rfl rfl ?_
  try dsimp only
  repeat' (first
    | (rw [vcnD]; (try simp [-map_take,-map_drop, push_cast, g1, g2, sgAV, sgC, ptAV, ptC, ratAV, ratC, zAV, zC]))
    | fail)
  refine callD_of (f1) rfl rfl rfl ?_
  try dsimp only
  repeat' (first
    | (rw [vcnD]; (try simp [-map_take,-map_drop, push_cast, g1, g2, sgAV, sgC, ptAV, ptC, ratAV, ratC, zAV, zC]))
    | fail)
  refine callD_of (qa) rfl rfl rfl ?_
  try dsimp only
  repeat' (first
    | (rw [vcnD]; (try simp [-map_take,-map_drop, push_cast, g1, g2, sgAV, sgC, ptAV, ptC, ratAV, ratC, zAV, zC]))
    | fail)
  refine callD_of (qb) rfl rfl rfl ?_
  try dsimp only
  repeat' (first
    | (rw [vcnD]; (try simp [-map_take,-map_drop, push_cast, g1, g2, sgAV, sgC, ptAV, ptC, ratAV, ratC, zAV, zC]))
    | fail)
  refine callD_of (qc) rfl rfl rfl ?_
  try dsimp only
  repeat' (first
    | (rw [vcnD]; (try simp [-map_take,-map_drop, push_cast, g1, g2, sgAV, sgC, ptAV, ptC, ratAV, ratC, zAV, zC]))
    | fail)
  refine callD_of (qd) rfl rfl rfl ?_
  try dsimp only
  repeat' (first
    | (rw [vcnD]; (try simp [-map_take,-map_drop, push_cast, g1, g2, sgAV, sgC, ptAV, ptC, ratAV, ratC, zAV, zC]))
    | fail)
  refine callD_of (f2) rfl rfl rfl ?_
  try dsimp only
  by_cases hlow : -1099511627776 < n
  · have g3 : (-1099511627776 < n) = True := eq_true hlow
    have o1 := Int.mul_le_mul_of_nonneg_right (a := -1099511627776) (b := n) (c := (t : Int)) (by omega) (by omega)
    have o2 := Int.mul_le_mul_of_nonneg_right (a := n) (b := 1099511627776) (c := (t : Int)) (by omega) (by omega)
    have w3 : IntKind.i64.wrap (n * (t : Int)) = n * t := by rw [i64_in _ (by omega)]
    have f3 := f3 (by unfold inI; omega)
    repeat' (first
      | with_reducible first | apply thenW_n | apply W_seq | apply W_skip
      | with_reducible refine W_drawn mixed (by decide) (by kernel_rfl) ?_
      | (rw [vcnD]; (try simp [-map_take,-map_drop, push_cast, g1, g2, g3, sgAV, sgC, ptAV, ptC, ratAV, ratC, zAV, zC]))
      | (with_reducible refine W_condW ?_; (try simp [-map_take,-map_drop, AS.val, upd, resB, mkS_env, mkS_box, lk, entry_env, condW_true, condW_false, g1, g2, g3, sgAV, sgC, ptAV, ptC, ratAV, ratC, zAV, zC]))
      | refine And.intro (by first | omega | kernel_rfl) ?_
      | fail)
    refine callD_of (ga) rfl rfl rfl ?_
    try dsimp only
    repeat' (first
      | (rw [vcnD]; (try simp [-map_take,-map_drop, push_cast, g1, g2, g3, sgAV, sgC, ptAV, ptC, ratAV, ratC, zAV, zC]))
      | fail)
    refine callD_of (gb) rfl rfl rfl ?_
    try dsimp only
    repeat' (first
      | (rw [vcnD]; (try simp [-map_take,-map_drop, push_cast, g1, g2, g3, sgAV, sgC, ptAV, ptC, ratAV, ratC, zAV, zC]))
      | fail)
    refine callD_of (gc) rfl rfl rfl ?_
    try dsimp only
    repeat' (first
      | (rw [vcnD]; (try simp [-map_take,-map_drop, push_cast, g1, g2, g3, sgAV, sgC, ptAV, ptC, ratAV, ratC, zAV, zC]))
      | fail)
    refine callD_of (gd) rfl rfl rfl ?_
    try dsimp only
    repeat' (first
      | (rw [vcnD]; (try simp [-map_take,-map_drop, push_cast, g1, g2, g3, w3, sgAV, sgC, ptAV, ptC, ratAV, ratC, zAV, zC]))
      | fail)
    refine callD_of (f3) rfl rfl rfl ?_
    try dsimp only
    repeat' (first
      | with_reducible first | apply thenW_n | apply blockW_n | apply W_skip
      | with_reducible refine W_region (by first | decide | (with_unfolding_all rfl)) ?_
      | (rw [vcn]; (try simp [-map_take,-map_drop, push_cast, g1, g2, g3, w1]))
      | (rw [vcnD]; (try simp [-map_take,-map_drop, push_cast, g1, g2, g3, w1]))
      | (with_reducible refine W_condW ?_; (try simp [-map_take,-map_drop, AS.val, upd, resB, mkS_env, mkS_box, lk, entry_env, condW_true, condW_false, g1, g2, g3, w1]))
      | refine And.intro (by first | omega | kernel_rfl) ?_
      | fail)
    refine loopW_n (k + 1) id (by omega) ⟨by omega, by omega⟩ ⟨?_, ?_, ?_, ?_, ?_, ?_⟩
    all_goals first | (simp [-map_take,-map_drop, push_cast, dV_take, dV_drop, sgC, ptC, ratC, zC]; done)
  · have g3 : (-1099511627776 < n) = False := eq_false hlow
    repeat' (first
      | with_reducible first | apply thenW_n | apply blockW_n | apply W_seq | apply W_skip
      | with_reducible refine W_region (by first | decide | (with_unfolding_all rfl)) ?_
      | (rw [vcn]; (try simp [-map_take,-map_drop, push_cast, g1, g2, g3, w1]))
      | with_reducible refine W_drawn mixed (by decide) (by kernel_rfl) ?_
      | (rw [vcnD]; (try simp [-map_take,-map_drop, push_cast, g1, g2, g3, w1]))
      | (with_reducible refine W_condW ?_; (try simp [-map_take,-map_drop, AS.val, upd, resB, mkS_env, mkS_box, lk, entry_env, condW_true, condW_false, g1, g2, g3, w1]))
      | refine And.intro (by first | omega | kernel_rfl) ?_
      | fail)
    refine loopW_n (k + 1) id (by omega) ⟨by omega, by omega⟩ ⟨?_, ?_, ?_, ?_, ?_, ?_⟩
    all_goals first | (simp [-map_take,-map_drop, push_cast, dV_take, dV_drop, sgC, ptC, ratC, zC]; done)
end Go.Fw

/- The law PairPoints comes to true: the walk. -/
import Derived.Test.YtgpfebgjcbacnaaV5p
set_option linter.unusedSimpArgs false
set_option linter.unusedVariables false
-- VALS: zAV, zC, ratAV, ratC, ptAV, ptC, sgAV, sgC, d3sAV, d3C, dC, dotAV
namespace Go.Fw
open Go Go.Proofs Go.IntWalk
set_option linter.unusedSimpArgs false
set_option maxRecDepth 100000
set_option maxHeartbeats 20000000

theorem hund19 (n : Int) : ∃ k : Nat, (IntKind.u64.wrap n).tmod 101 = (k : Int) ∧ k ≤ 100 := by
  rw [IntKind.wrap_u64, Int.tmod_eq_emod_of_nonneg (by omega)]
  exact ⟨(n % 18446744073709551616 % 101).toNat, by omega, by omega⟩

open List (map_take map_drop)
attribute [local push_cast] optK_some optK_none optK_ite optK_map optK_bind gOn stepK isMem evPure evMem evBin evUn evConv evLen evBuiltin evMinMax evSlice evBuild evAppend evIndex evIndexAddr evField evFieldAddr intBin strBin appDest AS.val AS.mem AS.elems AS.put AS.put' AS.eff AV.cells? AV.isCell AV.refs all_isByte take_byteV drop_byteV strOf_map bndOk bnd partAV ptrAdd killBox catA inOrder fillA setAt ofVal resB upd byteV List.head?_take List.head?_drop List.getElem?_map mkS_env mkS_box mkS_used entry_env entry_box entry_used lk stepD lookIds Oper.looksAt Op.operands Call.operands St.ids refsL renL_append ren renL renBox Box.refs iV i64V boolV dV_getElem dV_app dV_cons toNat_add2 toNat_add1
attribute [local simp ↓] numC_refs numC_isCell numC_cells numC_resB numC_resD numC_ren numC_closeC numC_isOwn
theorem part19_ok (s : FSg) (i : Int) (k : Nat) (hk : (IntKind.u64.wrap i).tmod 101 = (k : Int)) (h100 : k ≤ 100) (h : szS s ≤ 1000) : Eval Try.prog 19 [sgAV s, i64V i] (.ret (ptAV (s.at (Rat.divInt k 100)))) := by
  refine Eval.intro Try.func19 rfl Try.call19 _ _ (Nat.le_of_ble_eq_true rfl) (by simp [-map_take,-map_drop, AV.refs, refsL, natAV, zAV, zC, ratAV, ratC, ptAV, ptC, sgAV, sgC, d3sAV, d3C, dC, dotAV, push_cast]) fun hs0 => ?_
  unfold szS szV at h
  have w1 : IntKind.i64.wrap (k : Int) = k := by rw [i64_in _ (by omega)]
  have e0 := ofF_ok k 100 (by omega) (by omega) (by omega)
  have z0 : szQ (Rat.divInt k 100) ≤ 4 := by
    have h1 := sz_divInt (k : Int) 100 (by omega)
    have h2 := limbs_small (n := (k : Int).natAbs) (by omega)
    have h3 := limbs_small (n := (100 : Int).natAbs) (by omega)
    omega
  unfold FSg.at
  have hq : (FQ.of (Rat.divInt k 100)).q = Rat.divInt k 100 := rfl
  obtain ⟨l, hl⟩ : ∃ l, l = FQ.of (Rat.divInt k 100) := ⟨_, rfl⟩
  rw [← hl] at e0 hq
  rw [← hq] at z0 ⊢
  clear hq hl
  have z1 := szQ_sub s.B.x.q s.A.x.q
  have z2 := szQ_sub s.B.y.q s.A.y.q
  have z3 := szQ_mul (s.B.x.q - s.A.x.q) l.q
  have z4 := szQ_mul (s.B.y.q - s.A.y.q) l.q
  have e1 := subR_ok s.B.x s.A.x (by omega)
  have e2 := mulR_ok (.of (s.B.x.q - s.A.x.q)) l (by simp only [FQ.of]; omega)
  have e3 := addR_ok s.A.x (.of ((s.B.x.q - s.A.x.q) * l.q)) (by simp only [FQ.of]; omega)
  have e4 := subR_ok s.B.y s.A.y (by omega)
  have e5 := mulR_ok (.of (s.B.y.q - s.A.y.q)) l (by simp only [FQ.of]; omega)
  have e6 := addR_ok s.A.y (.of ((s.B.y.q - s.A.y.q) * l.q)) (by simp only [FQ.of]; omega)
  have o1 : (FQ.of (s.B.x.q - s.A.x.q)).q = s.B.x.q - s.A.x.q := rfl
  have o2 : (FQ.of (s.B.y.q - s.A.y.q)).q = s.B.y.q - s.A.y.q := rfl
  have o3 : (FQ.of ((s.B.x.q - s.A.x.q) * l.q)).q = (s.B.x.q - s.A.x.q) * l.q := rfl
  have o4 : (FQ.of ((s.B.y.q - s.A.y.q) * l.q)).q = (s.B.y.q - s.A.y.q) * l.q := rfl
  rw [o1] at e2
  rw [o2] at e5
  rw [o3] at e3
  rw [o4] at e6
  obtain ⟨a1, h1⟩ : ∃ a, a = FQ.of (s.B.x.q - s.A.x.q) := ⟨_, rfl⟩
  obtain ⟨a2, h2⟩ : ∃ a, a = FQ.of ((s.B.x.q - s.A.x.q) * l.q) := ⟨_, rfl⟩
  obtain ⟨a3, h3⟩ : ∃ a, a = FQ.of (s.A.x.q + (s.B.x.q - s.A.x.q) * l.q) := ⟨_, rfl⟩
  obtain ⟨b1, h4⟩ : ∃ a, a = FQ.of (s.B.y.q - s.A.y.q) := ⟨_, rfl⟩
  obtain ⟨b2, h5⟩ : ∃ a, a = FQ.of ((s.B.y.q - s.A.y.q) * l.q) := ⟨_, rfl⟩
  obtain ⟨b3, h6⟩ : ∃ a, a = FQ.of (s.A.y.q + (s.B.y.q - s.A.y.q) * l.q) := ⟨_, rfl⟩
  rw [← h1] at e1 e2
  rw [← h2] at e2 e3
  rw [← h3] at e3 ⊢
  rw [← h4] at e4 e5
  rw [← h5] at e5 e6
  rw [← h6] at e6 ⊢
  clear h1 h2 h3 h4 h5 h6 o1 o2 o3 o4 z0 z1 z2 z3 z4 h h100
  repeat' (first
    | with_reducible first | apply thenW_n | apply W_seq
    | with_reducible refine W_region (by first | decide | (with_unfolding_all rfl)) ?_
    | (rw [vcn]; (try simp [-map_take,-map_drop, push_cast, hk, w1, sgAV, sgC, ptAV, ptC, ratAV, ratC, zAV, zC]))
    | fail)
  refine CallG_of (e0) rfl rfl rfl ?_
  try dsimp only
  repeat' (first
    | with_reducible first | apply thenW_n | apply W_seq
    | (rw [vcn]; (try simp [-map_take,-map_drop, push_cast, sgAV, sgC, ptAV, ptC, ratAV, ratC, zAV, zC]))
    | with_reducible refine W_drawn mixed (by decide) (by kernel_rfl) ?_
    | (rw [vcnD]; (try simp [-map_take,-map_drop, push_cast, sgAV, sgC, ptAV, ptC, ratAV, ratC, zAV, zC]))
    | fail)
  refine callD_of (e1) rfl rfl rfl ?_
  try dsimp only
  repeat' (first
    | (rw [vcnD]; (try simp [-map_take,-map_drop, push_cast, sgAV, sgC, ptAV, ptC, ratAV, ratC, zAV, zC]))
    | fail)
  refine callD_of (e2) rfl rfl rfl ?_
  try dsimp only
  repeat' (first
    | (rw [vcnD]; (try simp [-map_take,-map_drop, push_cast, sgAV, sgC, ptAV, ptC, ratAV, ratC, zAV, zC]))
    | fail)
  refine callD_of (e3) rfl rfl rfl ?_
  try dsimp only
  repeat' (first
    | (rw [vcnD]; (try simp [-map_take,-map_drop, push_cast, sgAV, sgC, ptAV, ptC, ratAV, ratC, zAV, zC]))
    | fail)
  refine callD_of (e4) rfl rfl rfl ?_
  try dsimp only
  repeat' (first
    | (rw [vcnD]; (try simp [-map_take,-map_drop, push_cast, sgAV, sgC, ptAV, ptC, ratAV, ratC, zAV, zC]))
    | fail)
  refine callD_of (e5) rfl rfl rfl ?_
  try dsimp only
  repeat' (first
    | (rw [vcnD]; (try simp [-map_take,-map_drop, push_cast, sgAV, sgC, ptAV, ptC, ratAV, ratC, zAV, zC]))
    | fail)
  refine callD_of (e6) rfl rfl rfl ?_
  try dsimp only
  repeat' (first
    | with_reducible first | apply thenW_n | apply W_ret
    | (rw [vcnD]; (try simp [-map_take,-map_drop, push_cast, sgAV, sgC, ptAV, ptC, ratAV, ratC, zAV, zC]))
    | refine And.intro (by first | omega | kernel_rfl) ?_
    | fail)
  simp [-map_take,-map_drop, post, resAV, resAll, resOne, closeV, closeC, closeL, resD, resDL, push_cast, ptAV, ptC, ratAV, ratC, zAV, zC]

theorem lawPoints_ok (a b c d : Int × Int × Int) (i0 j0 n : Int) (ha : inD a) (hb : inD b) (hc : inD c) (hd : inD d) (hn : inI n) :
    Eval Try.prog 5 [dotAV a, dotAV b, dotAV c, dotAV d, i64V i0, i64V j0, i64V n] (.ret (.v (.bool true))) := by
  refine Eval.intro Try.func5 rfl Try.call5 _ _ (Nat.le_of_ble_eq_true rfl) (by simp [-map_take,-map_drop, AV.refs, refsL, natAV, zAV, zC, ratAV, ratC, ptAV, ptC, sgAV, sgC, d3sAV, d3C, dC, dotAV, push_cast]) fun hs0 => ?_
  obtain ⟨ki, hki, ki100⟩ := hund19 i0
  obtain ⟨kj, hkj, kj100⟩ := hund19 j0
  have s1 := seg19_ok a b ha hb
  have s2 := seg19_ok c d hc hd
  have he := HS.dots ha hb
  have hf := HS.dots hc hd
  have hp := HQ.part ha hb ki100
  have hq := HQ.part hc hd kj100
  obtain ⟨e, h1⟩ : ∃ e, e = dotsF a b := ⟨_, rfl⟩
  obtain ⟨f, h2⟩ : ∃ e, e = dotsF c d := ⟨_, rfl⟩
  rw [← h1] at s1 he hp
  rw [← h2] at s2 hf hq
  clear h1 h2
  have ze := he.sz
  have zf := hf.sz
  have q1 := part19_ok e i0 ki hki ki100 (by omega)
  have q2 := part19_ok f j0 kj hkj kj100 (by omega)
  have onp := on_part e ki100
  have onq := on_part f kj100
  obtain ⟨p, h1⟩ : ∃ p, p = e.at (Rat.divInt ki 100) := ⟨_, rfl⟩
  obtain ⟨q, h2⟩ : ∃ p, p = f.at (Rat.divInt kj 100) := ⟨_, rfl⟩
  rw [← h1] at q1 hp onp
  rw [← h2] at q2 hq onq
  have zp := hp.sz
  have zq := hq.sz
  have zs := HQ.sq hp hq
  have zd1 := HP.dotq he.1 he.2 hf.1
  have zd2 := HP.dotq he.1 he.2 hf.2
  have zn : szQ ((n : Int) : Rat) ≤ 5 := szQ_int hn
  have zm := szQ_mul ((n : Int) : Rat) ((n : Int) : Rat)
  unfold szS at ze zf
  have r1 := ofZ_ok n hn
  have r2 := whole_ok n (by have := limbs_small (n := n.natAbs) (by unfold inI at hn; omega); omega)
  have c0 := cmpP_ok p q (by omega)
  have t1 := square_ok p q (by omega)
  have t2 := mulR_ok (.of ((n : Int) : Rat)) (.of ((n : Int) : Rat)) (by simp only [FQ.of]; omega)
  have t3 := cmpR_ok (.of (sqP p q)) (.of (((n : Int) : Rat) * ((n : Int) : Rat))) (by simp only [FQ.of]; omega)
  have u1 := side_ok e.A e.B f.A (by omega)
  have u2 := side_ok e.A e.B f.B (by omega)
  have d1 := dot_ok e.A e.B f.B (by omega)
  have d2 := dot_ok e.A e.B f.A (by omega)
  have d3 := cmpR_ok (.of (dot e.A.v e.B.v f.B.v)) (.of (dot e.A.v e.B.v f.A.v)) (by simp only [FQ.of]; omega)
  have v1 := side_ok f.A f.B p (by omega)
  have v2 := side_ok e.A e.B q (by omega)
  have c1 := cmpP_ok e.A e.B (by omega)
  have c2 := cmpP_ok f.A f.B (by omega)
  have f1 := fits_ok 1 e f n hn he hf
  have f2 := fits_ok 2 e f n hn he hf
  have f3 := fits_ok 3 e f n hn he hf
  have f4 := fits_ok 4 e f n hn he hf
  have f5 := fits_ok 5 e f n hn he hf
  have f6 := fits_ok 6 e f n hn he hf
  have l1 := fun ht hw hF hE => two_12 (k := 1) (n := n) (.inl rfl) onp onq ht hw hF hE
  have l6 := fun ht hw hF hE => two_12 (k := 6) (n := n) (.inr rfl) onp onq ht hw hF hE
  have l2 := fun ht hw hF hE => two_34 (k := 2) (n := n) (.inl rfl) onp onq ht hw hF hE
  have l3 := fun ht hw hF hE => two_34 (k := 3) (n := n) (.inr (.inl rfl)) onp onq ht hw hF hE
  have l4 := fun ht hw hF hE => two_34 (k := 4) (n := n) (.inr (.inr rfl)) onp onq ht hw hF hE
  have l5 := fun ht hw hF hE => two_5 (n := n) onp onq ht hw hF hE
  have fk := fun k : Int => fits_ok k e f n hn he hf
  have ck := closer_ok e f n hn (by unfold szS; omega)
  have lk : ∀ k : Int, fitsB k e f n = true → closerB e f n = true := fun k h => fitsB_closer h
  have o1 : cmpZ ((FQ.of (sqP p q)).q.num * (FQ.of (((n : Int) : Rat) * ((n : Int) : Rat))).q.den) ((FQ.of (((n : Int) : Rat) * ((n : Int) : Rat))).q.num * (FQ.of (sqP p q)).q.den) = sqC p q n := rfl
  rw [o1] at t3
  have o2 : cmpZ ((FQ.of (dot e.A.v e.B.v f.B.v)).q.num * (FQ.of (dot e.A.v e.B.v f.A.v)).q.den) ((FQ.of (dot e.A.v e.B.v f.A.v)).q.num * (FQ.of (dot e.A.v e.B.v f.B.v)).q.den) = wayC e f := rfl
  rw [o2] at d3
  have o3 : (e.B.x.q - e.A.x.q) * (f.B.x.q - e.A.x.q) + (e.B.y.q - e.A.y.q) * (f.B.y.q - e.A.y.q) = dot e.A.v e.B.v f.B.v := rfl
  have o4 : (e.B.x.q - e.A.x.q) * (f.A.x.q - e.A.x.q) + (e.B.y.q - e.A.y.q) * (f.A.y.q - e.A.y.q) = dot e.A.v e.B.v f.A.v := rfl
  have o5 : (FQ.of ((n : Int) : Rat)).q * (FQ.of ((n : Int) : Rat)).q = ((n : Int) : Rat) * ((n : Int) : Rat) := rfl
  rw [o3] at d1
  rw [o4] at d2
  rw [o5] at t2
  obtain ⟨D1, h3⟩ : ∃ x, x = FQ.of (dot e.A.v e.B.v f.B.v) := ⟨_, rfl⟩
  obtain ⟨D2, h4⟩ : ∃ x, x = FQ.of (dot e.A.v e.B.v f.A.v) := ⟨_, rfl⟩
  obtain ⟨SQ, h5⟩ : ∃ x, x = FQ.of (sqP p q) := ⟨_, rfl⟩
  obtain ⟨M, h6⟩ : ∃ x, x = FQ.of ((n : Int) : Rat) := ⟨_, rfl⟩
  obtain ⟨MM, h7⟩ : ∃ x, x = FQ.of (((n : Int) : Rat) * ((n : Int) : Rat)) := ⟨_, rfl⟩
  rw [← h3] at d1 d3
  rw [← h4] at d2 d3
  rw [← h5] at t1 t3
  rw [← h6] at r2 t2
  rw [← h7] at t2 t3
  clear h1 h2 h3 h4 h5 h6 h7 o1 o2 o3 o4 o5 zp zq zs zd1 zd2 zn zm ze zf he hf hp hq ha hb hc hd onp onq hki hkj ki100 kj100
  unfold twoB at l1 l2 l3 l4 l5 l6
  obtain ⟨cp, h1⟩ : ∃ x, x = cmpP p q := ⟨_, rfl⟩
  obtain ⟨cr, h2⟩ : ∃ x, x = sqC p q n := ⟨_, rfl⟩
  obtain ⟨u, h3⟩ : ∃ x, x = sideOf e.A e.B f.A := ⟨_, rfl⟩
  obtain ⟨v, h4⟩ : ∃ x, x = sideOf e.A e.B f.B := ⟨_, rfl⟩
  obtain ⟨w, h5⟩ : ∃ x, x = wayC e f := ⟨_, rfl⟩
  obtain ⟨oF, h6⟩ : ∃ x, x = sideOf f.A f.B p := ⟨_, rfl⟩
  obtain ⟨oE, h7⟩ : ∃ x, x = sideOf e.A e.B q := ⟨_, rfl⟩
  obtain ⟨x, h8⟩ : ∃ x, x = cmpP e.A e.B := ⟨_, rfl⟩
  obtain ⟨y, h9⟩ : ∃ x, x = cmpP f.A f.B := ⟨_, rfl⟩
  rw [← h1] at c0 l1 l2 l3 l4 l5 l6
  rw [← h2] at t3 l1 l2 l3 l4 l5 l6
  rw [← h3] at u1 l1 l2 l3 l4 l5 l6
  rw [← h4] at u2 l1 l2 l3 l4 l5 l6
  rw [← h5] at d3 l1 l2 l3 l4 l5 l6
  rw [← h6] at v1 l1 l2 l3 l4 l5 l6
  rw [← h7] at v2 l1 l2 l3 l4 l5 l6
  rw [← h8] at c1 l1 l2 l3 l4 l5 l6
  rw [← h9] at c2 l1 l2 l3 l4 l5 l6
  clear h1 h2 h3 h4 h5 h6 h7 h8 h9
  obtain ⟨F1, h1⟩ : ∃ x, x = fitsB 1 e f n := ⟨_, rfl⟩
  obtain ⟨F2, h2⟩ : ∃ x, x = fitsB 2 e f n := ⟨_, rfl⟩
  obtain ⟨F3, h3⟩ : ∃ x, x = fitsB 3 e f n := ⟨_, rfl⟩
  obtain ⟨F4, h4⟩ : ∃ x, x = fitsB 4 e f n := ⟨_, rfl⟩
  obtain ⟨F5, h5⟩ : ∃ x, x = fitsB 5 e f n := ⟨_, rfl⟩
  obtain ⟨F6, h6⟩ : ∃ x, x = fitsB 6 e f n := ⟨_, rfl⟩
  rw [← h1] at f1 l1
  rw [← h2] at f2 l2
  rw [← h3] at f3 l3
  rw [← h4] at f4 l4
  rw [← h5] at f5 l5
  rw [← h6] at f6 l6
  clear h1 h2 h3 h4 h5 h6
  obtain ⟨cl, h1⟩ : ∃ x, x = closerB e f n := ⟨_, rfl⟩
  rw [← h1] at ck lk
  clear h1
  obtain ⟨clo, hclo⟩ : ∃ x, x = (decide (0 < n) && ((cp != 0) && decide (cr < 0))) := ⟨_, rfl⟩
  obtain ⟨lin, hlin⟩ : ∃ x, x = ((u == 0) && (v == 0)) := ⟨_, rfl⟩
  obtain ⟨two, htwo⟩ : ∃ b, b = ((x != 0) && ((y != 0) && (!lin && clo))) := ⟨_, rfl⟩
  rw [← hclo, ← hlin, ← htwo] at l1 l2 l3 l4 l5 l6
  repeat' (first
    | with_reducible first | apply thenW_n | apply W_seq
    | with_reducible refine W_region (by first | decide | (with_unfolding_all rfl)) ?_
    | (rw [vcn]; (try simp [-map_take,-map_drop, push_cast, dotAV]))
    | fail)
  refine CallG_of (s1) rfl rfl rfl ?_
  try dsimp only
  repeat' (first
    | with_reducible first | apply thenW_n | apply W_seq
    | with_reducible refine W_region (by first | decide | (with_unfolding_all rfl)) ?_
    | (rw [vcn]; (try simp [-map_take,-map_drop, push_cast, sgAV, sgC, ptAV, ptC, ratAV, ratC, zAV, zC, d3sAV, d3C, dC]))
    | fail)
  refine CallG_of (s2) rfl rfl rfl ?_
  try dsimp only
  repeat' (first
    | with_reducible first | apply thenW_n | apply W_seq
    | with_reducible refine W_region (by first | decide | (with_unfolding_all rfl)) ?_
    | (rw [vcn]; (try simp [-map_take,-map_drop, push_cast, sgAV, sgC, ptAV, ptC, ratAV, ratC, zAV, zC, d3sAV, d3C, dC]))
    | with_reducible refine W_drawn mixed (by decide) (by kernel_rfl) ?_
    | (rw [vcnD]; (try simp [-map_take,-map_drop, push_cast, sgAV, sgC, ptAV, ptC, ratAV, ratC, zAV, zC, d3sAV, d3C, dC]))
    | fail)
  refine callD_of (q1) rfl rfl rfl ?_
  try dsimp only
  repeat' (first
    | (rw [vcnD]; (try simp [-map_take,-map_drop, push_cast, sgAV, sgC, ptAV, ptC, ratAV, ratC, zAV, zC]))
    | fail)
  refine callD_of (q2) rfl rfl rfl ?_
  try dsimp only
  repeat' (first
    | with_reducible first | apply thenW_n | apply W_seq
    | with_reducible refine W_region (by first | decide | (with_unfolding_all rfl)) ?_
    | (rw [vcn]; (try simp [-map_take,-map_drop, push_cast, sgAV, sgC, ptAV, ptC, ratAV, ratC, zAV, zC]))
    | (rw [vcnD]; (try simp [-map_take,-map_drop, push_cast, sgAV, sgC, ptAV, ptC, ratAV, ratC, zAV, zC]))
    | refine And.intro (by first | omega | kernel_rfl) ?_
    | fail)
  refine CallG_of (r1) rfl rfl rfl ?_
  try dsimp only
  repeat' (first
    | (rw [vcn]; (try simp [-map_take,-map_drop, push_cast, zAV, zC]))
    | fail)
  refine CallG_of (r2) rfl rfl rfl ?_
  try dsimp only
  repeat' (first
    | (rw [vcn]; (try simp [-map_take,-map_drop, push_cast, ratAV, ratC, zAV, zC]))
    | fail)
  refine thenW_n ?_
  refine W_seq ?_
  refine W_joinQ (X := Unit) (fun _ => [(6, i64V n), (15, .bp 15 0), (17, .bp 17 0), (20, .bp 20 0), (21, .bp 21 0), (23, boolV clo)]) (fun _ => [(15, .mut 34 (sgC e)), (17, .mut 34 (sgC f)), (20, .mut 32 (ptC p)), (21, .mut 32 (ptC q))]) (fun _ => True) ?_ fun _ _ => ?_
  · by_cases g0 : 0 < n
    · have G0 : (0 < n) = True := eq_true g0
      repeat' (first
        | with_reducible refine W_drawn mixed (by decide) (by kernel_rfl) ?_
        | (rw [vcnD]; (try simp [-map_take,-map_drop, push_cast, G0, sgAV, sgC, ptAV, ptC, ratAV, ratC, zAV, zC]))
        | fail)
      refine callD_of (c0) rfl rfl rfl ?_
      try dsimp only
      by_cases g1 : cp = 0
      · have hc : clo = false := by rw [hclo, g1]; simp [-map_take,-map_drop]
        repeat' (first
          | (rw [vcnD]; (try simp [-map_take,-map_drop, push_cast, G0, g1]))
          | refine And.intro (by first | omega | kernel_rfl) ?_
          | fail)
        refine joinW_n () id trivial ⟨?_, ?_, ?_, ?_, ?_, ?_⟩
        all_goals first | (simp [-map_take,-map_drop, push_cast, dV_take, dV_drop, sgC, ptC, ratC, zC, hc]; done)
      · have G1 : (cp = 0) = False := eq_false g1
        repeat' (first
          | (rw [vcnD]; (try simp [-map_take,-map_drop, push_cast, G0, G1, sgAV, sgC, ptAV, ptC, ratAV, ratC, zAV, zC]))
          | fail)
        refine callD_of (t1) rfl rfl rfl ?_
        try dsimp only
        repeat' (first
          | (rw [vcnD]; (try simp [-map_take,-map_drop, push_cast, G0, G1, sgAV, sgC, ptAV, ptC, ratAV, ratC, zAV, zC]))
          | fail)
        refine callD_of (t2) rfl rfl rfl ?_
        try dsimp only
        repeat' (first
          | (rw [vcnD]; (try simp [-map_take,-map_drop, push_cast, G0, G1, sgAV, sgC, ptAV, ptC, ratAV, ratC, zAV, zC]))
          | fail)
        refine callD_of (t3) rfl rfl rfl ?_
        try dsimp only
        have hc : clo = decide (cr < 0) := by rw [hclo, bne_iff_ne.2 g1, decide_eq_true g0]; rfl
        repeat' (first
          | (rw [vcnD]; (try simp [-map_take,-map_drop, push_cast, G0, G1, g1]))
          | refine And.intro (by first | omega | kernel_rfl) ?_
          | fail)
        refine joinW_n () id trivial ⟨?_, ?_, ?_, ?_, ?_, ?_⟩
        all_goals first | (simp [-map_take,-map_drop, push_cast, dV_take, dV_drop, sgC, ptC, ratC, zC, hc]; done)
    · have G0 : (0 < n) = False := eq_false g0
      have hc : clo = false := by rw [hclo, decide_eq_false g0]; rfl
      repeat' (first
        | with_reducible refine W_drawn mixed (by decide) (by kernel_rfl) ?_
        | (rw [vcnD]; (try simp [-map_take,-map_drop, push_cast, G0]))
        | refine And.intro (by first | omega | kernel_rfl) ?_
        | fail)
      refine joinW_n () id trivial ⟨?_, ?_, ?_, ?_, ?_, ?_⟩
      all_goals first | (simp [-map_take,-map_drop, push_cast, dV_take, dV_drop, sgC, ptC, ratC, zC, hc]; done)
  clear c0 t1 t2 t3 r1 r2 q1 q2 s1 s2 hclo
  refine W_seq ?_
  refine W_joinQ (X := Unit) (fun _ => [(6, i64V n), (15, .bp 15 0), (17, .bp 17 0), (20, .bp 20 0), (21, .bp 21 0), (23, boolV clo), (24, boolV lin)]) (fun _ => [(15, .mut 34 (sgC e)), (17, .mut 34 (sgC f)), (20, .mut 32 (ptC p)), (21, .mut 32 (ptC q))]) (fun _ => True) ?_ fun _ _ => ?_
  · skip
    repeat' (first
      | with_reducible refine W_region (by first | decide | (with_unfolding_all rfl)) ?_
      | (rw [vcn]; (try simp [-map_take,-map_drop, push_cast, sgAV, sgC, ptAV, ptC, ratAV, ratC, zAV, zC]))
      | fail)
    refine CallG_of (u1) rfl rfl rfl ?_
    try dsimp only
    by_cases g0 : u = 0
    · skip
      repeat' (first
        | (rw [vcn]; (try simp [-map_take,-map_drop, push_cast, g0, sgAV, sgC, ptAV, ptC, ratAV, ratC, zAV, zC]))
        | fail)
      refine CallG_of (u2) rfl rfl rfl ?_
      try dsimp only
      have hc : lin = (v == 0) := by rw [hlin, g0]; rfl
      repeat' (first
        | (rw [vcn]; (try simp [-map_take,-map_drop, push_cast, g0]))
        | fail)
      refine joinW_n () id trivial ⟨?_, ?_, ?_, ?_, ?_, ?_⟩
      all_goals first | (simp [-map_take,-map_drop, push_cast, dV_take, dV_drop, sgC, ptC, ratC, zC, hc]; done)
    · have hc : lin = false := by rw [hlin, beq_eq_false_iff_ne.2 g0]; rfl
      repeat' (first
        | (rw [vcn]; (try simp [-map_take,-map_drop, push_cast, g0]))
        | fail)
      refine joinW_n () id trivial ⟨?_, ?_, ?_, ?_, ?_, ?_⟩
      all_goals first | (simp [-map_take,-map_drop, push_cast, dV_take, dV_drop, sgC, ptC, ratC, zC, hc]; done)
  clear u1 u2 hlin
  repeat' (first
    | with_reducible apply W_seq
    | with_reducible refine W_drawn mixed (by decide) (by kernel_rfl) ?_
    | (rw [vcnD]; (try simp [-map_take,-map_drop, push_cast, sgAV, sgC, ptAV, ptC, ratAV, ratC, zAV, zC]))
    | fail)
  refine callD_of (d1) rfl rfl rfl ?_
  try dsimp only
  repeat' (first
    | (rw [vcnD]; (try simp [-map_take,-map_drop, push_cast, sgAV, sgC, ptAV, ptC, ratAV, ratC, zAV, zC]))
    | fail)
  refine callD_of (d2) rfl rfl rfl ?_
  try dsimp only
  repeat' (first
    | (rw [vcnD]; (try simp [-map_take,-map_drop, push_cast, sgAV, sgC, ptAV, ptC, ratAV, ratC, zAV, zC]))
    | fail)
  refine callD_of (d3) rfl rfl rfl ?_
  try dsimp only
  repeat' (first
    | (rw [vcnD]; (try simp [-map_take,-map_drop, push_cast, sgAV, sgC, ptAV, ptC, ratAV, ratC, zAV, zC]))
    | refine And.intro (by first | omega | kernel_rfl) ?_
    | fail)
  refine thenW_n ?_
  clear d1 d2 d3
  repeat' (first
    | with_reducible apply W_seq
    | with_reducible refine W_drawn mixed (by decide) (by kernel_rfl) ?_
    | (rw [vcnD]; (try simp [-map_take,-map_drop, push_cast, sgAV, sgC, ptAV, ptC, ratAV, ratC, zAV, zC]))
    | fail)
  refine callD_of (v1) rfl rfl rfl ?_
  try dsimp only
  repeat' (first
    | (rw [vcnD]; (try simp [-map_take,-map_drop, push_cast, sgAV, sgC, ptAV, ptC, ratAV, ratC, zAV, zC]))
    | fail)
  refine callD_of (v2) rfl rfl rfl ?_
  try dsimp only
  repeat' (first
    | (rw [vcnD]; (try simp [-map_take,-map_drop, push_cast, sgAV, sgC, ptAV, ptC, ratAV, ratC, zAV, zC]))
    | refine And.intro (by first | omega | kernel_rfl) ?_
    | fail)
  refine thenW_n ?_
  clear v1 v2
  refine W_seq ?_
  refine W_joinQ (X := Unit) (fun _ => [(6, i64V n), (15, .bp 15 0), (17, .bp 17 0), (25, i64V w), (26, i64V oF), (27, i64V oE), (28, boolV two)]) (fun _ => [(15, .mut 34 (sgC e)), (17, .mut 34 (sgC f))]) (fun _ => True) ?_ fun _ _ => ?_
  · skip
    repeat' (first
      | with_reducible refine W_region (by first | decide | (with_unfolding_all rfl)) ?_
      | (rw [vcn]; (try simp [-map_take,-map_drop, push_cast, sgAV, sgC, ptAV, ptC, ratAV, ratC, zAV, zC]))
      | fail)
    refine CallG_of (c1) rfl rfl rfl ?_
    try dsimp only
    by_cases g0 : x = 0
    · have hc : two = false := by rw [htwo, g0]; rfl
      repeat' (first
        | (rw [vcn]; (try simp [-map_take,-map_drop, push_cast, g0]))
        | fail)
      refine joinW_n () id trivial ⟨?_, ?_, ?_, ?_, ?_, ?_⟩
      all_goals first | (simp [-map_take,-map_drop, push_cast, dV_take, dV_drop, sgC, ptC, ratC, zC, hc]; done)
    · skip
      repeat' (first
        | (rw [vcn]; (try simp [-map_take,-map_drop, push_cast, g0, sgAV, sgC, ptAV, ptC, ratAV, ratC, zAV, zC]))
        | fail)
      refine CallG_of (c2) rfl rfl rfl ?_
      try dsimp only
      by_cases g1 : y = 0
      · have hc : two = false := by rw [htwo, g1]; simp [-map_take,-map_drop]
        repeat' (first
          | (rw [vcn]; (try simp [-map_take,-map_drop, push_cast, g0, g1]))
          | fail)
        refine joinW_n () id trivial ⟨?_, ?_, ?_, ?_, ?_, ?_⟩
        all_goals first | (simp [-map_take,-map_drop, push_cast, dV_take, dV_drop, sgC, ptC, ratC, zC, hc]; done)
      · have hc : two = (!lin && clo) := by rw [htwo, bne_iff_ne.2 g0, bne_iff_ne.2 g1]; rfl
        cases lin with
        | true =>
          repeat' (first
            | (rw [vcn]; (try simp [-map_take,-map_drop, push_cast, g0, g1]))
            | fail)
          refine joinW_n () id trivial ⟨?_, ?_, ?_, ?_, ?_, ?_⟩
          all_goals first | (simp [-map_take,-map_drop, push_cast, dV_take, dV_drop, sgC, ptC, ratC, zC, hc]; done)
        | false =>
          repeat' (first
            | (rw [vcn]; (try simp [-map_take,-map_drop, push_cast, g0, g1]))
            | fail)
          refine joinW_n () id trivial ⟨?_, ?_, ?_, ?_, ?_, ?_⟩
          all_goals first | (simp [-map_take,-map_drop, push_cast, dV_take, dV_drop, sgC, ptC, ratC, zC, hc]; done)
  clear c1 c2 htwo
  refine W_seq ?_
  refine W_joinQ (X := Unit) (fun _ => [(6, i64V n), (15, .bp 15 0), (17, .bp 17 0), (25, i64V w), (26, i64V oF), (27, i64V oE), (28, boolV two)]) (fun _ => [(15, .mut 34 (sgC e)), (17, .mut 34 (sgC f))]) (fun _ => True) ?_ fun _ _ => ?_
  · cases two with
    | false =>
      repeat' (first
        | with_reducible first | apply thenW_n | apply W_seq | apply W_skip
        | with_reducible refine W_region (by first | decide | (with_unfolding_all rfl)) ?_
        | (rw [vcn]; (try simp [-map_take,-map_drop, push_cast]))
        | (with_reducible refine W_condW ?_; (try simp [-map_take,-map_drop, AS.val, upd, resB, mkS_env, mkS_box, lk, entry_env, condW_true, condW_false]))
        | fail)
      refine joinW_n () id trivial ⟨?_, ?_, ?_, ?_, ?_, ?_⟩
      all_goals first | (simp [-map_take,-map_drop, push_cast, dV_take, dV_drop, sgC, ptC, ratC, zC]; done)
    | true =>
      by_cases g0 : w < 0
      · have G0 : (w < 0) = True := eq_true g0
        by_cases g1 : 0 ≤ oF
        · have G1 : (0 ≤ oF) = True := eq_true g1
          by_cases g2 : 0 ≤ oE
          · have G2 : (0 ≤ oE) = True := eq_true g2
            have ef1 := l1 rfl g0 g1 g2
            subst ef1
            have ef6 := l6 rfl g0 g1 g2
            subst ef6
            repeat' (first
              | with_reducible apply W_seq
              | with_reducible refine W_region (by first | decide | (with_unfolding_all rfl)) ?_
              | (rw [vcn]; (try simp [-map_take,-map_drop, push_cast, G0, G1, G2, sgAV, sgC, ptAV, ptC, ratAV, ratC, zAV, zC]))
              | fail)
            refine CallG_of (f1) rfl rfl rfl ?_
            try dsimp only
            repeat' (first
              | (rw [vcn]; (try simp [-map_take,-map_drop, push_cast, G0, G1, G2, sgAV, sgC, ptAV, ptC, ratAV, ratC, zAV, zC]))
              | fail)
            refine CallG_of (f6) rfl rfl rfl ?_
            try dsimp only
            repeat' (first
              | with_reducible first | apply thenW_n | apply W_skip
              | (rw [vcn]; (try simp [-map_take,-map_drop, push_cast, G0, G1, G2]))
              | (with_reducible refine W_condW ?_; (try simp [-map_take,-map_drop, AS.val, upd, resB, mkS_env, mkS_box, lk, entry_env, condW_true, condW_false, G0, G1, G2]))
              | fail)
            refine joinW_n () id trivial ⟨?_, ?_, ?_, ?_, ?_, ?_⟩
            all_goals first | (simp [-map_take,-map_drop, push_cast, dV_take, dV_drop, sgC, ptC, ratC, zC]; done)
          · have G2 : (0 ≤ oE) = False := eq_false g2
            repeat' (first
              | with_reducible first | apply thenW_n | apply W_seq | apply W_skip
              | with_reducible refine W_region (by first | decide | (with_unfolding_all rfl)) ?_
              | (rw [vcn]; (try simp [-map_take,-map_drop, push_cast, G0, G1, G2]))
              | (with_reducible refine W_condW ?_; (try simp [-map_take,-map_drop, AS.val, upd, resB, mkS_env, mkS_box, lk, entry_env, condW_true, condW_false, G0, G1, G2]))
              | fail)
            refine joinW_n () id trivial ⟨?_, ?_, ?_, ?_, ?_, ?_⟩
            all_goals first | (simp [-map_take,-map_drop, push_cast, dV_take, dV_drop, sgC, ptC, ratC, zC]; done)
        · have G1 : (0 ≤ oF) = False := eq_false g1
          repeat' (first
            | with_reducible first | apply thenW_n | apply W_seq | apply W_skip
            | with_reducible refine W_region (by first | decide | (with_unfolding_all rfl)) ?_
            | (rw [vcn]; (try simp [-map_take,-map_drop, push_cast, G0, G1]))
            | (with_reducible refine W_condW ?_; (try simp [-map_take,-map_drop, AS.val, upd, resB, mkS_env, mkS_box, lk, entry_env, condW_true, condW_false, G0, G1]))
            | fail)
          refine joinW_n () id trivial ⟨?_, ?_, ?_, ?_, ?_, ?_⟩
          all_goals first | (simp [-map_take,-map_drop, push_cast, dV_take, dV_drop, sgC, ptC, ratC, zC]; done)
      · have G0 : (w < 0) = False := eq_false g0
        repeat' (first
          | with_reducible first | apply thenW_n | apply W_seq | apply W_skip
          | with_reducible refine W_region (by first | decide | (with_unfolding_all rfl)) ?_
          | (rw [vcn]; (try simp [-map_take,-map_drop, push_cast, G0]))
          | (with_reducible refine W_condW ?_; (try simp [-map_take,-map_drop, AS.val, upd, resB, mkS_env, mkS_box, lk, entry_env, condW_true, condW_false, G0]))
          | fail)
        refine joinW_n () id trivial ⟨?_, ?_, ?_, ?_, ?_, ?_⟩
        all_goals first | (simp [-map_take,-map_drop, push_cast, dV_take, dV_drop, sgC, ptC, ratC, zC]; done)
  refine W_seq ?_
  refine W_joinQ (X := Unit) (fun _ => [(6, i64V n), (15, .bp 15 0), (17, .bp 17 0), (25, i64V w), (26, i64V oF), (27, i64V oE), (28, boolV two)]) (fun _ => [(15, .mut 34 (sgC e)), (17, .mut 34 (sgC f))]) (fun _ => True) ?_ fun _ _ => ?_
  · cases two with
    | false =>
      repeat' (first
        | with_reducible first | apply thenW_n | apply W_seq | apply W_skip
        | with_reducible refine W_region (by first | decide | (with_unfolding_all rfl)) ?_
        | (rw [vcn]; (try simp [-map_take,-map_drop, push_cast]))
        | (with_reducible refine W_condW ?_; (try simp [-map_take,-map_drop, AS.val, upd, resB, mkS_env, mkS_box, lk, entry_env, condW_true, condW_false]))
        | fail)
      refine joinW_n () id trivial ⟨?_, ?_, ?_, ?_, ?_, ?_⟩
      all_goals first | (simp [-map_take,-map_drop, push_cast, dV_take, dV_drop, sgC, ptC, ratC, zC]; done)
    | true =>
      by_cases g0 : w < 0
      · have G0 : (w < 0) = True := eq_true g0
        by_cases g1 : oF ≤ 0
        · have G1 : (oF ≤ 0) = True := eq_true g1
          by_cases g2 : oE ≤ 0
          · have G2 : (oE ≤ 0) = True := eq_true g2
            have ef2 := l2 rfl g0 g1 g2
            subst ef2
            have ef3 := l3 rfl g0 g1 g2
            subst ef3
            have ef4 := l4 rfl g0 g1 g2
            subst ef4
            repeat' (first
              | with_reducible apply W_seq
              | with_reducible refine W_region (by first | decide | (with_unfolding_all rfl)) ?_
              | (rw [vcn]; (try simp [-map_take,-map_drop, push_cast, G0, G1, G2, sgAV, sgC, ptAV, ptC, ratAV, ratC, zAV, zC]))
              | fail)
            refine CallG_of (f2) rfl rfl rfl ?_
            try dsimp only
            repeat' (first
              | (rw [vcn]; (try simp [-map_take,-map_drop, push_cast, G0, G1, G2, sgAV, sgC, ptAV, ptC, ratAV, ratC, zAV, zC]))
              | fail)
            refine CallG_of (f3) rfl rfl rfl ?_
            try dsimp only
            repeat' (first
              | (rw [vcn]; (try simp [-map_take,-map_drop, push_cast, G0, G1, G2, sgAV, sgC, ptAV, ptC, ratAV, ratC, zAV, zC]))
              | fail)
            refine CallG_of (f4) rfl rfl rfl ?_
            try dsimp only
            repeat' (first
              | with_reducible first | apply thenW_n | apply W_skip
              | (rw [vcn]; (try simp [-map_take,-map_drop, push_cast, G0, G1, G2]))
              | (with_reducible refine W_condW ?_; (try simp [-map_take,-map_drop, AS.val, upd, resB, mkS_env, mkS_box, lk, entry_env, condW_true, condW_false, G0, G1, G2]))
              | fail)
            refine joinW_n () id trivial ⟨?_, ?_, ?_, ?_, ?_, ?_⟩
            all_goals first | (simp [-map_take,-map_drop, push_cast, dV_take, dV_drop, sgC, ptC, ratC, zC]; done)
          · have G2 : (oE ≤ 0) = False := eq_false g2
            repeat' (first
              | with_reducible first | apply thenW_n | apply W_seq | apply W_skip
              | with_reducible refine W_region (by first | decide | (with_unfolding_all rfl)) ?_
              | (rw [vcn]; (try simp [-map_take,-map_drop, push_cast, G0, G1, G2]))
              | (with_reducible refine W_condW ?_; (try simp [-map_take,-map_drop, AS.val, upd, resB, mkS_env, mkS_box, lk, entry_env, condW_true, condW_false, G0, G1, G2]))
              | fail)
            refine joinW_n () id trivial ⟨?_, ?_, ?_, ?_, ?_, ?_⟩
            all_goals first | (simp [-map_take,-map_drop, push_cast, dV_take, dV_drop, sgC, ptC, ratC, zC]; done)
        · have G1 : (oF ≤ 0) = False := eq_false g1
          repeat' (first
            | with_reducible first | apply thenW_n | apply W_seq | apply W_skip
            | with_reducible refine W_region (by first | decide | (with_unfolding_all rfl)) ?_
            | (rw [vcn]; (try simp [-map_take,-map_drop, push_cast, G0, G1]))
            | (with_reducible refine W_condW ?_; (try simp [-map_take,-map_drop, AS.val, upd, resB, mkS_env, mkS_box, lk, entry_env, condW_true, condW_false, G0, G1]))
            | fail)
          refine joinW_n () id trivial ⟨?_, ?_, ?_, ?_, ?_, ?_⟩
          all_goals first | (simp [-map_take,-map_drop, push_cast, dV_take, dV_drop, sgC, ptC, ratC, zC]; done)
      · have G0 : (w < 0) = False := eq_false g0
        repeat' (first
          | with_reducible first | apply thenW_n | apply W_seq | apply W_skip
          | with_reducible refine W_region (by first | decide | (with_unfolding_all rfl)) ?_
          | (rw [vcn]; (try simp [-map_take,-map_drop, push_cast, G0]))
          | (with_reducible refine W_condW ?_; (try simp [-map_take,-map_drop, AS.val, upd, resB, mkS_env, mkS_box, lk, entry_env, condW_true, condW_false, G0]))
          | fail)
        refine joinW_n () id trivial ⟨?_, ?_, ?_, ?_, ?_, ?_⟩
        all_goals first | (simp [-map_take,-map_drop, push_cast, dV_take, dV_drop, sgC, ptC, ratC, zC]; done)
  refine W_seq ?_
  refine W_joinQ (X := Unit) (fun _ => [(6, i64V n), (15, .bp 15 0), (17, .bp 17 0), (25, i64V w), (26, i64V oF), (27, i64V oE), (28, boolV two)]) (fun _ => [(15, .mut 34 (sgC e)), (17, .mut 34 (sgC f))]) (fun _ => True) ?_ fun _ _ => ?_
  · cases two with
    | false =>
      repeat' (first
        | with_reducible first | apply thenW_n | apply W_seq | apply W_skip
        | with_reducible refine W_region (by first | decide | (with_unfolding_all rfl)) ?_
        | (rw [vcn]; (try simp [-map_take,-map_drop, push_cast]))
        | (with_reducible refine W_condW ?_; (try simp [-map_take,-map_drop, AS.val, upd, resB, mkS_env, mkS_box, lk, entry_env, condW_true, condW_false]))
        | fail)
      refine joinW_n () id trivial ⟨?_, ?_, ?_, ?_, ?_, ?_⟩
      all_goals first | (simp [-map_take,-map_drop, push_cast, dV_take, dV_drop, sgC, ptC, ratC, zC]; done)
    | true =>
      by_cases g0 : 0 < w
      · have G0 : (0 < w) = True := eq_true g0
        by_cases g1 : 0 ≤ oF
        · have G1 : (0 ≤ oF) = True := eq_true g1
          by_cases g2 : oE ≤ 0
          · have G2 : (oE ≤ 0) = True := eq_true g2
            have ef5 := l5 rfl g0 g1 g2
            subst ef5
            repeat' (first
              | with_reducible apply W_seq
              | with_reducible refine W_region (by first | decide | (with_unfolding_all rfl)) ?_
              | (rw [vcn]; (try simp [-map_take,-map_drop, push_cast, G0, G1, G2, sgAV, sgC, ptAV, ptC, ratAV, ratC, zAV, zC]))
              | fail)
            refine CallG_of (f5) rfl rfl rfl ?_
            try dsimp only
            repeat' (first
              | with_reducible first | apply thenW_n | apply W_skip
              | (rw [vcn]; (try simp [-map_take,-map_drop, push_cast, G0, G1, G2]))
              | (with_reducible refine W_condW ?_; (try simp [-map_take,-map_drop, AS.val, upd, resB, mkS_env, mkS_box, lk, entry_env, condW_true, condW_false, G0, G1, G2]))
              | fail)
            refine joinW_n () id trivial ⟨?_, ?_, ?_, ?_, ?_, ?_⟩
            all_goals first | (simp [-map_take,-map_drop, push_cast, dV_take, dV_drop, sgC, ptC, ratC, zC]; done)
          · have G2 : (oE ≤ 0) = False := eq_false g2
            repeat' (first
              | with_reducible first | apply thenW_n | apply W_seq | apply W_skip
              | with_reducible refine W_region (by first | decide | (with_unfolding_all rfl)) ?_
              | (rw [vcn]; (try simp [-map_take,-map_drop, push_cast, G0, G1, G2]))
              | (with_reducible refine W_condW ?_; (try simp [-map_take,-map_drop, AS.val, upd, resB, mkS_env, mkS_box, lk, entry_env, condW_true, condW_false, G0, G1, G2]))
              | fail)
            refine joinW_n () id trivial ⟨?_, ?_, ?_, ?_, ?_, ?_⟩
            all_goals first | (simp [-map_take,-map_drop, push_cast, dV_take, dV_drop, sgC, ptC, ratC, zC]; done)
        · have G1 : (0 ≤ oF) = False := eq_false g1
          repeat' (first
            | with_reducible first | apply thenW_n | apply W_seq | apply W_skip
            | with_reducible refine W_region (by first | decide | (with_unfolding_all rfl)) ?_
            | (rw [vcn]; (try simp [-map_take,-map_drop, push_cast, G0, G1]))
            | (with_reducible refine W_condW ?_; (try simp [-map_take,-map_drop, AS.val, upd, resB, mkS_env, mkS_box, lk, entry_env, condW_true, condW_false, G0, G1]))
            | fail)
          refine joinW_n () id trivial ⟨?_, ?_, ?_, ?_, ?_, ?_⟩
          all_goals first | (simp [-map_take,-map_drop, push_cast, dV_take, dV_drop, sgC, ptC, ratC, zC]; done)
      · have G0 : (0 < w) = False := eq_false g0
        repeat' (first
          | with_reducible first | apply thenW_n | apply W_seq | apply W_skip
          | with_reducible refine W_region (by first | decide | (with_unfolding_all rfl)) ?_
          | (rw [vcn]; (try simp [-map_take,-map_drop, push_cast, G0]))
          | (with_reducible refine W_condW ?_; (try simp [-map_take,-map_drop, AS.val, upd, resB, mkS_env, mkS_box, lk, entry_env, condW_true, condW_false, G0]))
          | fail)
        refine joinW_n () id trivial ⟨?_, ?_, ?_, ?_, ?_, ?_⟩
        all_goals first | (simp [-map_take,-map_drop, push_cast, dV_take, dV_drop, sgC, ptC, ratC, zC]; done)
  clear f1 f2 f3 f4 f5 f6 l1 l2 l3 l4 l5 l6
  repeat' (first
    | with_reducible first | apply thenW_n | apply W_seq | apply W_block
    | with_reducible refine W_region (by first | decide | (with_unfolding_all rfl)) ?_
    | (rw [vcn]; (try simp [-map_take,-map_drop, push_cast]))
    | fail)
  refine W_loopW (X := Nat) (fun k => [(6, i64V n), (15, .bp 15 0), (17, .bp 17 0), (29, i64V k)]) (fun _ => [(15, .mut 34 (sgC e)), (17, .mut 34 (sgC f))])
    (fun k => 7 - k) (fun k => 1 ≤ k ∧ k ≤ 7) 1 id ⟨by omega, by omega⟩ ⟨?_, ?_, ?_, ?_, ?_, ?_⟩ fun k hk => ?_
  all_goals first | (with_reducible refine W_id ?_) | (simp [-map_take,-map_drop, push_cast, dV_take, dV_drop, sgC, ptC, ratC, zC]; done)
  obtain ⟨k1, k7⟩ := hk
  by_cases hk : k = 7
  · subst hk
    repeat' (first
      | with_reducible first | apply thenW_n | apply thenW_exit | apply blockW_same | apply loopW_exit | apply W_seq | apply W_exit
      | with_reducible refine W_region (by first | decide | (with_unfolding_all rfl)) ?_
      | (rw [vcn]; (try simp [-map_take,-map_drop, push_cast]))
      | (with_reducible refine W_condW ?_; (try simp [-map_take,-map_drop, AS.val, upd, resB, mkS_env, mkS_box, lk, entry_env, condW_true, condW_false]))
      | fail)
    refine CallG_of (known19_ok) rfl rfl rfl ?_
    try dsimp only
    repeat' (first
      | with_reducible first | apply thenW_n | apply W_ret
      | (rw [vcn]; (try simp [-map_take,-map_drop, push_cast]))
      | fail)
    simp [-map_take,-map_drop, post, resAV, resAll, resOne, closeV, closeC, closeL, resD, resDL, push_cast]
  · have g1 : ((k : Int) ≤ 6) = True := eq_true (by omega)
    have g2 : (k ≤ 6) = True := eq_true (by omega)
    have w1 : IntKind.i64.wrap ((k : Int) + 1) = ((k + 1 : Nat) : Int) := by rw [i64_in _ (by omega)]; omega
    have fk := fk k
    have lk := lk k
    obtain ⟨b, hb⟩ : ∃ b, b = fitsB k e f n := ⟨_, rfl⟩
    rw [← hb] at fk lk
    clear hb
    repeat' (first
      | with_reducible first | apply thenW_n | apply W_seq | apply W_block | apply W_skip
      | with_reducible refine W_region (by first | decide | (with_unfolding_all rfl)) ?_
      | (rw [vcn]; (try simp [-map_take,-map_drop, push_cast, g1, g2, sgAV, sgC, ptAV, ptC, ratAV, ratC, zAV, zC]))
      | (with_reducible refine W_condW ?_; (try simp [-map_take,-map_drop, AS.val, upd, resB, mkS_env, mkS_box, lk, entry_env, condW_true, condW_false, g1, g2, sgAV, sgC, ptAV, ptC, ratAV, ratC, zAV, zC]))
      | fail)
    refine CallG_of (fk) rfl rfl rfl ?_
    try dsimp only
    cases b with
    | false =>
      repeat' (first
        | with_reducible first | apply thenW_n | apply blockW_n | apply W_skip
        | with_reducible refine W_region (by first | decide | (with_unfolding_all rfl)) ?_
        | (rw [vcn]; (try simp [-map_take,-map_drop, push_cast, g1, g2, w1]))
        | (with_reducible refine W_condW ?_; (try simp [-map_take,-map_drop, AS.val, upd, resB, mkS_env, mkS_box, lk, entry_env, condW_true, condW_false, g1, g2, w1]))
        | fail)
      refine loopW_n (k + 1) id (by omega) ⟨by omega, by omega⟩ ⟨?_, ?_, ?_, ?_, ?_, ?_⟩
      all_goals first | (simp [-map_take,-map_drop, push_cast, dV_take, dV_drop, sgC, ptC, ratC, zC]; done)
    | true =>
      have lk := lk rfl
      subst lk
      repeat' (first
        | (rw [vcn]; (try simp [-map_take,-map_drop, push_cast, g1, g2, sgAV, sgC, ptAV, ptC, ratAV, ratC, zAV, zC]))
        | fail)
      refine CallG_of (ck) rfl rfl rfl ?_
      try dsimp only
      repeat' (first
        | with_reducible first | apply thenW_n | apply blockW_n | apply W_skip
        | with_reducible refine W_region (by first | decide | (with_unfolding_all rfl)) ?_
        | (rw [vcn]; (try simp [-map_take,-map_drop, push_cast, g1, g2, w1]))
        | (with_reducible refine W_condW ?_; (try simp [-map_take,-map_drop, AS.val, upd, resB, mkS_env, mkS_box, lk, entry_env, condW_true, condW_false, g1, g2, w1]))
        | fail)
      refine loopW_n (k + 1) id (by omega) ⟨by omega, by omega⟩ ⟨?_, ?_, ?_, ?_, ?_, ?_⟩
      all_goals first | (simp [-map_take,-map_drop, push_cast, dV_take, dV_drop, sgC, ptC, ratC, zC]; done)
end Go.Fw

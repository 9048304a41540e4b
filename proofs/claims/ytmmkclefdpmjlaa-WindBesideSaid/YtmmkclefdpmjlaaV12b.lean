import Derived.Test.YtmmkclefdpmjlaaV1b
import Derived.Test.YtmmkclefdpmjlaaHb
set_option linter.unusedSimpArgs false
set_option linter.unusedVariables false
-- VALS: rAV, rC, dAV, dC, d3AV, d3C
namespace Go.Fw
open Go Go.Proofs Go.IntWalk
set_option linter.unusedSimpArgs false
set_option maxRecDepth 100000
set_option maxHeartbeats 20000000
def szD (z : Int) : Nat := (tens z.natAbs).length
theorem szD_mul (a b : Int) : szD (a * b) ≤ szD a + szD b := by
  unfold szD
  rw [Int.natAbs_mul]
  refine tens_len ?_
  rw [Nat.pow_add]
  exact Nat.mul_lt_mul'' (tens_lt_pow _) (tens_lt_pow _)
theorem szD_add (a b : Int) : szD (a + b) ≤ szD a + szD b + 1 := by
  unfold szD
  exact Nat.le_trans (tens_mono (Int.natAbs_add_le a b)) (tens_add_len _ _)
theorem szD_sub (a b : Int) : szD (a - b) ≤ szD a + szD b + 1 := by
  have h := szD_add a (-b)
  rw [← Int.sub_eq_add_neg] at h
  have e : szD (-b) = szD b := by unfold szD; rw [Int.natAbs_neg]
  omega
structure DP where
  x : Int
  y : Int
  w : Int
def DP.av (p : DP) : AV := d3AV p.x p.y p.w
def szP3 (p : DP) : Nat := szD p.x + szD p.y + szD p.w
def lessX (a b : DP) : Int := b.x * a.w - a.x * b.w
def lessY (a b : DP) : Int := b.y * a.w - a.y * b.w
theorem sz_lessX (a b : DP) : szD (lessX a b) ≤ szP3 a + szP3 b + (szP3 a + szP3 b) + 1 := by
  have h1 := szD_mul b.x a.w
  have h2 := szD_mul a.x b.w
  have h3 := szD_sub (b.x * a.w) (a.x * b.w)
  unfold lessX szP3
  omega
theorem sz_lessY (a b : DP) : szD (lessY a b) ≤ szP3 a + szP3 b + (szP3 a + szP3 b) + 1 := by
  have h1 := szD_mul b.y a.w
  have h2 := szD_mul a.y b.w
  have h3 := szD_sub (b.y * a.w) (a.y * b.w)
  unfold lessY szP3
  omega
open List (map_take map_drop)
attribute [local push_cast] optK_some optK_none optK_ite optK_map optK_bind gOn stepK isMem evPure evMem evBin evUn evConv evLen evBuiltin evMinMax evSlice evBuild evAppend evIndex evIndexAddr evField evFieldAddr intBin strBin appDest AS.val AS.mem AS.elems AS.put AS.put' AS.eff AV.cells? AV.isCell AV.refs all_isByte take_byteV drop_byteV strOf_map bndOk bnd partAV ptrAdd killBox catA inOrder fillA setAt ofVal resB upd byteV List.head?_take List.head?_drop List.getElem?_map mkS_env mkS_box mkS_used entry_env entry_box entry_used lk stepD lookIds Oper.looksAt Op.operands Call.operands St.ids refsL renL_append ren renL renBox Box.refs iV i64V boolV dV_getElem dV_app dV_cons toNat_add2 toNat_add1
attribute [local simp ↓] numC_refs numC_isCell numC_cells numC_resB numC_resD numC_ren numC_closeC numC_isOwn
theorem mul11_ok (a b : Int) (h : szD a + szD b ≤ 20000000) : Eval Try.prog 67 [dAV a, dAV b] (.ret (dAV (a * b))) := by
  refine Eval.intro Try.func67 rfl Try.call67 _ _ (Nat.le_of_ble_eq_true rfl) (by simp [-map_take,-map_drop, AV.refs, refsL, natAV, rAV, rC, dAV, dC, d3AV, d3C, push_cast]) fun hs0 => ?_
  have e1 := mul02_ok a b h
  obtain ⟨r, hr⟩ : ∃ r, r = a * b := ⟨_, rfl⟩
  rw [← hr] at e1 ⊢
  repeat' (first
    | with_reducible first | apply thenW_n | apply W_seq
    | with_reducible refine W_rg ?_
    | (rw [vcn]; (try simp [-map_take,-map_drop, push_cast, dAV, dC, rC, numC, ← tens.eq_1]))
    | fail)
  refine CallG_of (e1) rfl rfl rfl ?_
  try dsimp only
  repeat' (first
    | with_reducible first | apply thenW_n | apply W_ret
    | (rw [vcn]; (try simp [-map_take,-map_drop, push_cast, dAV, dC, rC, numC, ← tens.eq_1]))
    | fail)
  simp [-map_take,-map_drop, post, resAV, resAll, resOne, closeV, closeC, closeL, resD, resDL, push_cast, dAV, dC, rC, numC, ← tens.eq_1]
theorem sub11_ok (a b : Int) (h : szD a + szD b ≤ 20000000) : Eval Try.prog 91 [dAV a, dAV b] (.ret (dAV (a - b))) := by
  refine Eval.intro Try.func91 rfl Try.call91 _ _ (Nat.le_of_ble_eq_true rfl) (by simp [-map_take,-map_drop, AV.refs, refsL, natAV, rAV, rC, dAV, dC, d3AV, d3C, push_cast]) fun hs0 => ?_
  have e1 := sub02_ok a b h
  obtain ⟨r, hr⟩ : ∃ r, r = a - b := ⟨_, rfl⟩
  rw [← hr] at e1 ⊢
  repeat' (first
    | with_reducible first | apply thenW_n | apply W_seq
    | with_reducible refine W_rg ?_
    | (rw [vcn]; (try simp [-map_take,-map_drop, push_cast, dAV, dC, rC, numC, ← tens.eq_1]))
    | fail)
  refine CallG_of (e1) rfl rfl rfl ?_
  try dsimp only
  repeat' (first
    | with_reducible first | apply thenW_n | apply W_ret
    | (rw [vcn]; (try simp [-map_take,-map_drop, push_cast, dAV, dC, rC, numC, ← tens.eq_1]))
    | fail)
  simp [-map_take,-map_drop, post, resAV, resAll, resOne, closeV, closeC, closeL, resD, resDL, push_cast, dAV, dC, rC, numC, ← tens.eq_1]
theorem add11_ok (a b : Int) (h : szD a + szD b ≤ 20000000) : Eval Try.prog 108 [dAV a, dAV b] (.ret (dAV (a + b))) := by
  refine Eval.intro Try.func108 rfl Try.call108 _ _ (Nat.le_of_ble_eq_true rfl) (by simp [-map_take,-map_drop, AV.refs, refsL, natAV, rAV, rC, dAV, dC, d3AV, d3C, push_cast]) fun hs0 => ?_
  have e1 := add02_ok a b h
  obtain ⟨r, hr⟩ : ∃ r, r = a + b := ⟨_, rfl⟩
  rw [← hr] at e1 ⊢
  repeat' (first
    | with_reducible first | apply thenW_n | apply W_seq
    | with_reducible refine W_rg ?_
    | (rw [vcn]; (try simp [-map_take,-map_drop, push_cast, dAV, dC, rC, numC, ← tens.eq_1]))
    | fail)
  refine CallG_of (e1) rfl rfl rfl ?_
  try dsimp only
  repeat' (first
    | with_reducible first | apply thenW_n | apply W_ret
    | (rw [vcn]; (try simp [-map_take,-map_drop, push_cast, dAV, dC, rC, numC, ← tens.eq_1]))
    | fail)
  simp [-map_take,-map_drop, post, resAV, resAll, resOne, closeV, closeC, closeL, resD, resDL, push_cast, dAV, dC, rC, numC, ← tens.eq_1]
theorem less11_ok (a b : DP) (h : szP3 a + szP3 b ≤ 1000000) : Eval Try.prog 90 [a.av, b.av] (.ret (.tup [dAV (lessX a b), dAV (lessY a b)])) := by
  obtain ⟨ax, ay, aw⟩ := a
  obtain ⟨bx, by', bw⟩ := b
  simp only [szP3] at h
  have z1 := szD_mul bx aw
  have z2 := szD_mul ax bw
  have z3 := szD_mul by' aw
  have z4 := szD_mul ay bw
  have e1 := mul11_ok bx aw (by omega)
  have e2 := mul11_ok ax bw (by omega)
  have e3 := sub11_ok (bx * aw) (ax * bw) (by omega)
  have e4 := mul11_ok by' aw (by omega)
  have e5 := mul11_ok ay bw (by omega)
  have e6 := sub11_ok (by' * aw) (ay * bw) (by omega)
  simp only [lessX, lessY, DP.av]
  obtain ⟨p1, hx⟩ : ∃ x, x = bx * aw := ⟨_, rfl⟩
  rw [← hx] at e1 e3 ⊢
  clear hx
  obtain ⟨p2, hx⟩ : ∃ x, x = ax * bw := ⟨_, rfl⟩
  rw [← hx] at e2 e3 ⊢
  clear hx
  obtain ⟨p4, hx⟩ : ∃ x, x = by' * aw := ⟨_, rfl⟩
  rw [← hx] at e4 e6 ⊢
  clear hx
  obtain ⟨p5, hx⟩ : ∃ x, x = ay * bw := ⟨_, rfl⟩
  rw [← hx] at e5 e6 ⊢
  clear hx
  obtain ⟨p3, hx⟩ : ∃ x, x = p1 - p2 := ⟨_, rfl⟩
  rw [← hx] at e3 ⊢
  clear hx
  obtain ⟨p6, hx⟩ : ∃ x, x = p4 - p5 := ⟨_, rfl⟩
  rw [← hx] at e6 ⊢
  clear hx
  refine Eval.intro Try.func90 rfl Try.call90 _ _ (Nat.le_of_ble_eq_true rfl) (by simp [-map_take,-map_drop, AV.refs, refsL, natAV, rAV, rC, dAV, dC, d3AV, d3C, push_cast]) fun hs0 => ?_
  repeat' (first
    | with_reducible first | apply thenW_n | apply W_seq
    | with_reducible refine W_rg ?_
    | (rw [vcn]; (try simp [-map_take,-map_drop, push_cast, d3AV, d3C, dC, rC, numC, ← tens.eq_1]))
    | with_reducible refine W_drawn mixed (by decide) (by kernel_rfl) ?_
    | (rw [vcnD]; (try simp [-map_take,-map_drop, push_cast, d3AV, d3C, dC, rC, numC, ← tens.eq_1]))
    | fail)
  refine callD_of (e1) rfl rfl rfl ?_
  try dsimp only
  repeat' (first
    | (rw [vcnD]; (try simp [-map_take,-map_drop, push_cast, d3AV, d3C, dC, rC, numC, ← tens.eq_1, dAV]))
    | fail)
  refine callD_of (e2) rfl rfl rfl ?_
  try dsimp only
  repeat' (first
    | (rw [vcnD]; (try simp [-map_take,-map_drop, push_cast, d3AV, d3C, dC, rC, numC, ← tens.eq_1, dAV]))
    | fail)
  refine callD_of (e3) rfl rfl rfl ?_
  try dsimp only
  repeat' (first
    | (rw [vcnD]; (try simp [-map_take,-map_drop, push_cast, d3AV, d3C, dC, rC, numC, ← tens.eq_1, dAV]))
    | fail)
  refine callD_of (e4) rfl rfl rfl ?_
  try dsimp only
  repeat' (first
    | (rw [vcnD]; (try simp [-map_take,-map_drop, push_cast, d3AV, d3C, dC, rC, numC, ← tens.eq_1, dAV]))
    | fail)
  refine callD_of (e5) rfl rfl rfl ?_
  try dsimp only
  repeat' (first
    | (rw [vcnD]; (try simp [-map_take,-map_drop, push_cast, d3AV, d3C, dC, rC, numC, ← tens.eq_1, dAV]))
    | fail)
  refine callD_of (e6) rfl rfl rfl ?_
  try dsimp only
  repeat' (first
    | with_reducible first | apply thenW_n | apply W_ret
    | (rw [vcnD]; (try simp [-map_take,-map_drop, push_cast, d3AV, d3C, dC, rC, numC, ← tens.eq_1, dAV]))
    | refine And.intro (by first | omega | kernel_rfl) ?_
    | fail)
  simp [-map_take,-map_drop, post, resAV, resAll, resOne, closeV, closeC, closeL, resD, resDL, push_cast, dAV, dC, rC, numC, ← tens.eq_1]
theorem side11_ok (a b c : DP) (h : szP3 a + szP3 b + szP3 c ≤ 100000) : Eval Try.prog 65 [a.av, b.av, c.av] (.ret (i64V (cmpZ (lessX a b * lessY a c) (lessY a b * lessX a c)))) := by
  have y1 := sz_lessX a b
  have y2 := sz_lessY a b
  have y3 := sz_lessX a c
  have y4 := sz_lessY a c
  have e1 := less11_ok a b (by omega)
  have e2 := less11_ok a c (by omega)
  have e3 := mul11_ok (lessX a b) (lessY a c) (by omega)
  have e4 := mul11_ok (lessY a b) (lessX a c) (by omega)
  have e5 := cmp02_ok (lessX a b * lessY a c) (lessY a b * lessX a c)
  obtain ⟨q, hx⟩ : ∃ x, x = lessX a b * lessY a c := ⟨_, rfl⟩
  rw [← hx] at e3 e5 ⊢
  clear hx
  obtain ⟨r, hx⟩ : ∃ x, x = lessY a b * lessX a c := ⟨_, rfl⟩
  rw [← hx] at e4 e5 ⊢
  clear hx
  obtain ⟨s, hx⟩ : ∃ x, x = cmpZ q r := ⟨_, rfl⟩
  rw [← hx] at e5 ⊢
  clear hx
  obtain ⟨x, hx⟩ : ∃ x, x = lessX a b := ⟨_, rfl⟩
  rw [← hx] at e1 e3
  clear hx
  obtain ⟨y, hx⟩ : ∃ x, x = lessY a b := ⟨_, rfl⟩
  rw [← hx] at e1 e4
  clear hx
  obtain ⟨u, hx⟩ : ∃ x, x = lessX a c := ⟨_, rfl⟩
  rw [← hx] at e2 e4
  clear hx
  obtain ⟨v, hx⟩ : ∃ x, x = lessY a c := ⟨_, rfl⟩
  rw [← hx] at e2 e3
  clear hx
  clear y1 y2 y3 y4
  obtain ⟨ax, ay, aw⟩ := a
  obtain ⟨bx, by', bw⟩ := b
  obtain ⟨cx, cy, cw⟩ := c
  simp only [DP.av] at e1 e2 ⊢
  refine Eval.intro Try.func65 rfl Try.call65 _ _ (Nat.le_of_ble_eq_true rfl) (by simp [-map_take,-map_drop, AV.refs, refsL, natAV, rAV, rC, dAV, dC, d3AV, d3C, push_cast]) fun hs0 => ?_
  repeat' (first
    | with_reducible first | apply thenW_n | apply W_seq
    | with_reducible refine W_rg ?_
    | (rw [vcn]; (try simp [-map_take,-map_drop, push_cast, d3AV, d3C, dC, rC, numC, ← tens.eq_1]))
    | fail)
  refine CallG_of (e1) rfl rfl rfl ?_
  try dsimp only
  repeat' (first
    | with_reducible first | apply thenW_n | apply W_seq
    | with_reducible refine W_rg ?_
    | (rw [vcn]; (try simp [-map_take,-map_drop, push_cast, d3AV, d3C, dC, rC, numC, ← tens.eq_1, dAV]))
    | fail)
  refine CallG_of (e2) rfl rfl rfl ?_
  try dsimp only
  repeat' (first
    | with_reducible first | apply thenW_n | apply W_seq
    | (rw [vcn]; (try simp [-map_take,-map_drop, push_cast, d3AV, d3C, dC, rC, numC, ← tens.eq_1, dAV]))
    | with_reducible refine W_drawn mixed (by decide) (by kernel_rfl) ?_
    | (rw [vcnD]; (try simp [-map_take,-map_drop, push_cast, d3AV, d3C, dC, rC, numC, ← tens.eq_1, dAV]))
    | fail)
  refine callD_of (e3) rfl rfl rfl ?_
  try dsimp only
  repeat' (first
    | (rw [vcnD]; (try simp [-map_take,-map_drop, push_cast, d3AV, d3C, dC, rC, numC, ← tens.eq_1, dAV]))
    | fail)
  refine callD_of (e4) rfl rfl rfl ?_
  try dsimp only
  repeat' (first
    | (rw [vcnD]; (try simp [-map_take,-map_drop, push_cast, d3AV, d3C, dC, rC, numC, ← tens.eq_1, dAV]))
    | fail)
  refine callD_of (e5) rfl rfl rfl ?_
  try dsimp only
  repeat' (first
    | with_reducible first | apply thenW_n | apply W_ret
    | (rw [vcnD]; (try simp [-map_take,-map_drop, push_cast, d3AV, d3C, dC, rC, numC, ← tens.eq_1, dAV]))
    | refine And.intro (by first | omega | kernel_rfl) ?_
    | fail)
  simp [-map_take,-map_drop, post, resAV, resAll, resOne, closeV, closeC, closeL, resD, resDL, push_cast]
end Go.Fw
-- VALS: rAV, rC, dAV, dC, d3AV, d3C
namespace Go.Fw
open Go Go.Proofs Go.IntWalk
set_option linter.unusedSimpArgs false
set_option maxRecDepth 100000
set_option maxHeartbeats 20000000
def ratD (n d : Int) : AV := .agg (dC n ++ dC d)
def denW (a b c : DP) : Int := (a.w * a.w) * (b.w * c.w)
open List (map_take map_drop)
attribute [local push_cast] optK_some optK_none optK_ite optK_map optK_bind gOn stepK isMem evPure evMem evBin evUn evConv evLen evBuiltin evMinMax evSlice evBuild evAppend evIndex evIndexAddr evField evFieldAddr intBin strBin appDest AS.val AS.mem AS.elems AS.put AS.put' AS.eff AV.cells? AV.isCell AV.refs all_isByte take_byteV drop_byteV strOf_map bndOk bnd partAV ptrAdd killBox catA inOrder fillA setAt ofVal resB upd byteV List.head?_take List.head?_drop List.getElem?_map mkS_env mkS_box mkS_used entry_env entry_box entry_used lk stepD lookIds Oper.looksAt Op.operands Call.operands St.ids refsL renL_append ren renL renBox Box.refs iV i64V boolV dV_getElem dV_app dV_cons toNat_add2 toNat_add1
attribute [local simp ↓] numC_refs numC_isCell numC_cells numC_resB numC_resD numC_ren numC_closeC numC_isOwn
theorem times11_ok (a b c : DP) (h : szP3 a + szP3 b + szP3 c ≤ 100000) : Eval Try.prog 71 [a.av, b.av, c.av] (.ret (ratD (lessX a b * lessX a c + lessY a b * lessY a c) (denW a b c))) := by
  have y1 := sz_lessX a b
  have y2 := sz_lessY a b
  have y3 := sz_lessX a c
  have y4 := sz_lessY a c
  have z1 := szD_mul (lessX a b) (lessX a c)
  have z2 := szD_mul (lessY a b) (lessY a c)
  have z3 := szD_mul a.w a.w
  have z4 := szD_mul b.w c.w
  have za : szD a.w ≤ szP3 a := by unfold szP3; omega
  have zb : szD b.w ≤ szP3 b := by unfold szP3; omega
  have zc : szD c.w ≤ szP3 c := by unfold szP3; omega
  have e1 := less11_ok a b (by omega)
  have e2 := less11_ok a c (by omega)
  have e3 := mul11_ok (lessX a b) (lessX a c) (by omega)
  have e4 := mul11_ok (lessY a b) (lessY a c) (by omega)
  have e5 := add11_ok (lessX a b * lessX a c) (lessY a b * lessY a c) (by omega)
  have e6 := mul11_ok a.w a.w (by omega)
  have e7 := mul11_ok b.w c.w (by omega)
  have e8 := mul11_ok (a.w * a.w) (b.w * c.w) (by omega)
  unfold denW ratD
  obtain ⟨q, hx⟩ : ∃ x, x = lessX a b * lessX a c := ⟨_, rfl⟩
  rw [← hx] at e3 e5 ⊢
  clear hx
  obtain ⟨r, hx⟩ : ∃ x, x = lessY a b * lessY a c := ⟨_, rfl⟩
  rw [← hx] at e4 e5 ⊢
  clear hx
  obtain ⟨s, hx⟩ : ∃ x, x = q + r := ⟨_, rfl⟩
  rw [← hx] at e5 ⊢
  clear hx
  obtain ⟨x, hx⟩ : ∃ x, x = lessX a b := ⟨_, rfl⟩
  rw [← hx] at e1 e3
  clear hx
  obtain ⟨y, hx⟩ : ∃ x, x = lessY a b := ⟨_, rfl⟩
  rw [← hx] at e1 e4
  clear hx
  obtain ⟨u, hx⟩ : ∃ x, x = lessX a c := ⟨_, rfl⟩
  rw [← hx] at e2 e3
  clear hx
  obtain ⟨v, hx⟩ : ∃ x, x = lessY a c := ⟨_, rfl⟩
  rw [← hx] at e2 e4
  clear hx
  clear y1 y2 y3 y4 z1 z2 z3 z4 za zb zc
  obtain ⟨ax, ay, aw⟩ := a
  obtain ⟨bx, by', bw⟩ := b
  obtain ⟨cx, cy, cw⟩ := c
  simp only [DP.av] at e1 e2 e6 e7 e8 ⊢
  obtain ⟨w1, hx⟩ : ∃ x, x = aw * aw := ⟨_, rfl⟩
  rw [← hx] at e6 e8 ⊢
  clear hx
  obtain ⟨w2, hx⟩ : ∃ x, x = bw * cw := ⟨_, rfl⟩
  rw [← hx] at e7 e8 ⊢
  clear hx
  obtain ⟨w3, hx⟩ : ∃ x, x = w1 * w2 := ⟨_, rfl⟩
  rw [← hx] at e8 ⊢
  clear hx
  refine Eval.intro Try.func71 rfl Try.call71 _ _ (Nat.le_of_ble_eq_true rfl) (by simp [-map_take,-map_drop, AV.refs, refsL, natAV, rAV, rC, dAV, dC, d3AV, d3C, push_cast]) fun hs0 => ?_
  repeat' (first
    | with_reducible first | apply thenW_n | apply W_seq
    | with_reducible refine W_rg ?_
    | (rw [vcn]; (try simp [-map_take,-map_drop, push_cast, d3AV, d3C, dC, rC, numC, ← tens.eq_1]))
    | fail)
  refine CallG_of (e1) rfl rfl rfl ?_
  try dsimp only
  repeat' (first
    | with_reducible first | apply thenW_n | apply W_seq
    | with_reducible refine W_rg ?_
    | (rw [vcn]; (try simp [-map_take,-map_drop, push_cast, d3AV, d3C, dC, rC, numC, ← tens.eq_1, dAV]))
    | fail)
  refine CallG_of (e2) rfl rfl rfl ?_
  try dsimp only
  repeat' (first
    | with_reducible first | apply thenW_n | apply W_seq
    | (rw [vcn]; (try simp [-map_take,-map_drop, push_cast, d3AV, d3C, dC, rC, numC, ← tens.eq_1, dAV]))
    | with_reducible refine W_drawn mixed (by decide) (by kernel_rfl) ?_
    | (rw [vcnD]; (try simp [-map_take,-map_drop, push_cast, d3AV, d3C, dC, rC, numC, ← tens.eq_1, dAV]))
    | fail)
  refine callD_of (e3) rfl rfl rfl ?_
  try dsimp only
  repeat' (first
    | (rw [vcnD]; (try simp [-map_take,-map_drop, push_cast, d3AV, d3C, dC, rC, numC, ← tens.eq_1, dAV]))
    | fail)
  refine callD_of (e4) rfl rfl rfl ?_
  try dsimp only
  repeat' (first
    | (rw [vcnD]; (try simp [-map_take,-map_drop, push_cast, d3AV, d3C, dC, rC, numC, ← tens.eq_1, dAV]))
    | fail)
  refine callD_of (e5) rfl rfl rfl ?_
  try dsimp only
  repeat' (first
    | (rw [vcnD]; (try simp [-map_take,-map_drop, push_cast, d3AV, d3C, dC, rC, numC, ← tens.eq_1, dAV]))
    | fail)
  refine callD_of (e6) rfl rfl rfl ?_
  try dsimp only
  repeat' (first
    | (rw [vcnD]; (try simp [-map_take,-map_drop, push_cast, d3AV, d3C, dC, rC, numC, ← tens.eq_1, dAV]))
    | fail)
  refine callD_of (e7) rfl rfl rfl ?_
  try dsimp only
  repeat' (first
    | (rw [vcnD]; (try simp [-map_take,-map_drop, push_cast, d3AV, d3C, dC, rC, numC, ← tens.eq_1, dAV]))
    | fail)
  refine callD_of (e8) rfl rfl rfl ?_
  try dsimp only
  repeat' (first
    | with_reducible first | apply thenW_n | apply W_ret
    | (rw [vcnD]; (try simp [-map_take,-map_drop, push_cast, d3AV, d3C, dC, rC, numC, ← tens.eq_1, dAV]))
    | refine And.intro (by first | omega | kernel_rfl) ?_
    | fail)
  simp [-map_take,-map_drop, post, resAV, resAll, resOne, closeV, closeC, closeL, resD, resDL, push_cast, dAV, dC, rC, numC, ← tens.eq_1]
theorem of11_ok (x y : Int) (hx : inI x) (hy : inI y) : Eval Try.prog 60 [i64V x, i64V y] (.ret (DP.av ⟨x, y, 1⟩)) := by
  have e1 := of02_ok x hx
  have e2 := of02_ok y hy
  have e3 := of02_ok 1 (by unfold inI; omega)
  simp only [DP.av]
  obtain ⟨o, ho⟩ : ∃ o : Int, o = 1 := ⟨_, rfl⟩
  have e3' : Eval Try.prog 35 [i64V 1] (.ret (dAV o)) := by rw [ho]; exact e3
  rw [← ho]
  refine Eval.intro Try.func60 rfl Try.call60 _ _ (Nat.le_of_ble_eq_true rfl) (by simp [-map_take,-map_drop, AV.refs, refsL, natAV, rAV, rC, dAV, dC, d3AV, d3C, push_cast]) fun hs0 => ?_
  repeat' (first
    | with_reducible first | apply thenW_n | apply W_seq
    | with_reducible refine W_rg ?_
    | (rw [vcn]; (try simp [-map_take,-map_drop, push_cast]))
    | fail)
  refine CallG_of (e1) rfl rfl rfl ?_
  try dsimp only
  repeat' (first
    | (rw [vcn]; (try simp [-map_take,-map_drop, push_cast, dAV, dC, rC, numC, ← tens.eq_1]))
    | fail)
  refine CallG_of (e2) rfl rfl rfl ?_
  try dsimp only
  repeat' (first
    | (rw [vcn]; (try simp [-map_take,-map_drop, push_cast, dAV, dC, rC, numC, ← tens.eq_1]))
    | fail)
  refine CallG_of (e3') rfl rfl rfl ?_
  try dsimp only
  repeat' (first
    | with_reducible first | apply thenW_n | apply W_ret
    | (rw [vcn]; (try simp [-map_take,-map_drop, push_cast, dAV, dC, rC, numC, ← tens.eq_1]))
    | fail)
  simp [-map_take,-map_drop, post, resAV, resAll, resOne, closeV, closeC, closeL, resD, resDL, push_cast, d3AV, d3C, dC, rC, numC, ← tens.eq_1]
end Go.Fw
-- VALS: rAV, rC, dAV, dC, d3AV, d3C
namespace Go.Fw
open Go Go.Proofs Go.IntWalk
set_option linter.unusedSimpArgs false
set_option maxRecDepth 100000
set_option maxHeartbeats 20000000
def cmp3 (p q : DP) : Int := if cmpZ (p.x * q.w) (q.x * p.w) ≠ 0 then cmpZ (p.x * q.w) (q.x * p.w) else cmpZ (p.y * q.w) (q.y * p.w)
def DP.av2 (a b : DP) : AV := .agg (d3C a.x a.y a.w ++ d3C b.x b.y b.w)
def timesN (a b c : DP) : Int := lessX a b * lessX a c + lessY a b * lessY a c
def on3 (a b p : DP) : Bool := (cmpZ (lessX a b * lessY a p) (lessY a b * lessX a p) == 0) && decide ((timesN p a b).sign ≤ 0)
open List (map_take map_drop)
attribute [local push_cast] optK_some optK_none optK_ite optK_map optK_bind gOn stepK isMem evPure evMem evBin evUn evConv evLen evBuiltin evMinMax evSlice evBuild evAppend evIndex evIndexAddr evField evFieldAddr intBin strBin appDest AS.val AS.mem AS.elems AS.put AS.put' AS.eff AV.cells? AV.isCell AV.refs all_isByte take_byteV drop_byteV strOf_map bndOk bnd partAV ptrAdd killBox catA inOrder fillA setAt ofVal resB upd byteV List.head?_take List.head?_drop List.getElem?_map mkS_env mkS_box mkS_used entry_env entry_box entry_used lk stepD lookIds Oper.looksAt Op.operands Call.operands St.ids refsL renL_append ren renL renBox Box.refs iV i64V boolV dV_getElem dV_app dV_cons toNat_add2 toNat_add1
attribute [local simp ↓] numC_refs numC_isCell numC_cells numC_resB numC_resD numC_ren numC_closeC numC_isOwn
theorem cmp11_ok (p q : DP) (h : szP3 p + szP3 q ≤ 1000000) : Eval Try.prog 27 [p.av, q.av] (.ret (i64V (cmp3 p q))) := by
  obtain ⟨ax, ay, aw⟩ := p
  obtain ⟨bx, by', bw⟩ := q
  simp only [szP3] at h
  have e1 := mul11_ok ax bw (by omega)
  have e2 := mul11_ok bx aw (by omega)
  have e3 := cmp02_ok (ax * bw) (bx * aw)
  have e4 := mul11_ok ay bw (by omega)
  have e5 := mul11_ok by' aw (by omega)
  have e6 := cmp02_ok (ay * bw) (by' * aw)
  simp only [cmp3, DP.av]
  obtain ⟨p1, hx⟩ : ∃ x, x = ax * bw := ⟨_, rfl⟩
  simp only [← hx] at e1 e3 ⊢
  clear hx
  obtain ⟨p2, hx⟩ : ∃ x, x = bx * aw := ⟨_, rfl⟩
  simp only [← hx] at e2 e3 ⊢
  clear hx
  obtain ⟨p4, hx⟩ : ∃ x, x = ay * bw := ⟨_, rfl⟩
  simp only [← hx] at e4 e6 ⊢
  clear hx
  obtain ⟨p5, hx⟩ : ∃ x, x = by' * aw := ⟨_, rfl⟩
  simp only [← hx] at e5 e6 ⊢
  clear hx
  obtain ⟨c, hx⟩ : ∃ x, x = cmpZ p1 p2 := ⟨_, rfl⟩
  simp only [← hx] at e3 ⊢
  clear hx
  obtain ⟨d, hx⟩ : ∃ x, x = cmpZ p4 p5 := ⟨_, rfl⟩
  simp only [← hx] at e6 ⊢
  clear hx
  by_cases h0 : c = 0
  · rw [if_neg (fun k => k h0)]
    have g1 : (c = 0) = True := eq_true h0
    refine Eval.intro Try.func27 rfl Try.call27 _ _ (Nat.le_of_ble_eq_true rfl) (by simp [-map_take,-map_drop, AV.refs, refsL, natAV, rAV, rC, dAV, dC, d3AV, d3C, push_cast]) fun hs0 => ?_
    repeat' (first
      | with_reducible first | apply thenW_n | apply W_seq
      | with_reducible refine W_rg ?_
      | (rw [vcn]; (try simp [-map_take,-map_drop, push_cast, d3AV, d3C, dC, rC, numC, ← tens.eq_1]))
      | with_reducible refine W_drawn mixed (by decide) (by kernel_rfl) ?_
      | (rw [vcnD]; (try simp [-map_take,-map_drop, push_cast, d3AV, d3C, dC, rC, numC, ← tens.eq_1]))
      | fail)
    refine callD_of (e1) rfl rfl rfl ?_
    try dsimp only
    repeat' (first
      | (rw [vcnD]; (try simp [-map_take,-map_drop, push_cast, d3AV, d3C, dC, rC, numC, ← tens.eq_1, dAV, g1]))
      | fail)
    refine callD_of (e2) rfl rfl rfl ?_
    try dsimp only
    repeat' (first
      | (rw [vcnD]; (try simp [-map_take,-map_drop, push_cast, d3AV, d3C, dC, rC, numC, ← tens.eq_1, dAV, g1]))
      | fail)
    refine callD_of (e3) rfl rfl rfl ?_
    try dsimp only
    repeat' (first
      | with_reducible first | apply thenW_n | apply W_seq | apply W_skip
      | with_reducible refine W_rg ?_
      | (rw [vcn]; (try simp [-map_take,-map_drop, push_cast, d3AV, d3C, dC, rC, numC, ← tens.eq_1, dAV, g1]))
      | with_reducible refine W_drawn mixed (by decide) (by kernel_rfl) ?_
      | (rw [vcnD]; (try simp [-map_take,-map_drop, push_cast, d3AV, d3C, dC, rC, numC, ← tens.eq_1, dAV, g1]))
      | (with_reducible refine W_condW ?_; (try simp [-map_take,-map_drop, AS.val, upd, resB, mkS_env, mkS_box, lk, entry_env, condW_true, condW_false, d3AV, d3C, dC, rC, numC, ← tens.eq_1, dAV, g1]))
      | refine And.intro (by first | omega | kernel_rfl) ?_
      | ((with_reducible refine condW_b (fun hc => ?_) (fun hc => ?_) <;> (try simp [-map_take,-map_drop, Int.ofNat_inj] at hc) <;> (try contradiction)))
      | fail)
    refine callD_of (e4) rfl rfl rfl ?_
    try dsimp only
    repeat' (first
      | (rw [vcnD]; (try simp [-map_take,-map_drop, push_cast, d3AV, d3C, dC, rC, numC, ← tens.eq_1, dAV]))
      | fail)
    refine callD_of (e5) rfl rfl rfl ?_
    try dsimp only
    repeat' (first
      | (rw [vcnD]; (try simp [-map_take,-map_drop, push_cast, d3AV, d3C, dC, rC, numC, ← tens.eq_1, dAV]))
      | fail)
    refine callD_of (e6) rfl rfl rfl ?_
    try dsimp only
    repeat' (first
      | with_reducible first | apply thenW_n | apply W_ret
      | (rw [vcnD]; (try simp [-map_take,-map_drop, push_cast, d3AV, d3C, dC, rC, numC, ← tens.eq_1, dAV]))
      | refine And.intro (by first | omega | kernel_rfl) ?_
      | fail)
    simp [-map_take,-map_drop, post, resAV, resAll, resOne, closeV, closeC, closeL, resD, resDL, push_cast]
  · rw [if_pos h0]
    have g1 : (c = 0) = False := eq_false h0
    refine Eval.intro Try.func27 rfl Try.call27 _ _ (Nat.le_of_ble_eq_true rfl) (by simp [-map_take,-map_drop, AV.refs, refsL, natAV, rAV, rC, dAV, dC, d3AV, d3C, push_cast]) fun hs0 => ?_
    repeat' (first
      | with_reducible first | apply thenW_n | apply W_seq
      | with_reducible refine W_rg ?_
      | (rw [vcn]; (try simp [-map_take,-map_drop, push_cast, d3AV, d3C, dC, rC, numC, ← tens.eq_1]))
      | with_reducible refine W_drawn mixed (by decide) (by kernel_rfl) ?_
      | (rw [vcnD]; (try simp [-map_take,-map_drop, push_cast, d3AV, d3C, dC, rC, numC, ← tens.eq_1]))
      | fail)
    refine callD_of (e1) rfl rfl rfl ?_
    try dsimp only
    repeat' (first
      | (rw [vcnD]; (try simp [-map_take,-map_drop, push_cast, d3AV, d3C, dC, rC, numC, ← tens.eq_1, dAV, g1]))
      | fail)
    refine callD_of (e2) rfl rfl rfl ?_
    try dsimp only
    repeat' (first
      | (rw [vcnD]; (try simp [-map_take,-map_drop, push_cast, d3AV, d3C, dC, rC, numC, ← tens.eq_1, dAV, g1]))
      | fail)
    refine callD_of (e3) rfl rfl rfl ?_
    try dsimp only
    repeat' (first
      | with_reducible first | apply thenW_n | apply thenW_ret | apply W_seq | apply W_ret
      | with_reducible refine W_rg ?_
      | (rw [vcn]; (try simp [-map_take,-map_drop, push_cast, d3AV, d3C, dC, rC, numC, ← tens.eq_1, dAV, g1]))
      | (rw [vcnD]; (try simp [-map_take,-map_drop, push_cast, d3AV, d3C, dC, rC, numC, ← tens.eq_1, dAV, g1]))
      | (with_reducible refine W_condW ?_; (try simp [-map_take,-map_drop, AS.val, upd, resB, mkS_env, mkS_box, lk, entry_env, condW_true, condW_false, d3AV, d3C, dC, rC, numC, ← tens.eq_1, dAV, g1]))
      | refine And.intro (by first | omega | kernel_rfl) ?_
      | ((with_reducible refine condW_b (fun hc => ?_) (fun hc => ?_) <;> (try simp [-map_take,-map_drop, Int.ofNat_inj] at hc) <;> (try contradiction)))
      | fail)
    simp [-map_take,-map_drop, post, resAV, resAll, resOne, closeV, closeC, closeL, resD, resDL, push_cast]
theorem on11_ok (a b p : DP) (h : szP3 a + szP3 b + szP3 p ≤ 100000) : Eval Try.prog 31 [DP.av2 a b, p.av] (.ret (boolV (on3 a b p))) := by
  have e1 := side11_ok a b p (by omega)
  have e2 := times11_ok p a b (by omega)
  have ht : lessX p a * lessX p b + lessY p a * lessY p b = timesN p a b := rfl
  rw [ht] at e2
  unfold on3
  obtain ⟨c, hx⟩ : ∃ x, x = cmpZ (lessX a b * lessY a p) (lessY a b * lessX a p) := ⟨_, rfl⟩
  rw [← hx] at e1 ⊢
  clear hx ht
  obtain ⟨t, hx⟩ : ∃ x, x = timesN p a b := ⟨_, rfl⟩
  rw [← hx] at e2 ⊢
  clear hx
  obtain ⟨d, hx⟩ : ∃ x, x = denW p a b := ⟨_, rfl⟩
  rw [← hx] at e2
  clear hx
  unfold ratD at e2
  obtain ⟨ax, ay, aw⟩ := a
  obtain ⟨bx, by', bw⟩ := b
  obtain ⟨cx, cy, cw⟩ := p
  simp only [DP.av, DP.av2] at e1 e2 ⊢
  by_cases h0 : c = 0
  · have g1 : (c = 0) = True := eq_true h0
    have hb : (c == 0) = true := by rw [h0]; rfl
    rw [hb, Bool.true_and]
    refine Eval.intro Try.func31 rfl Try.call31 _ _ (Nat.le_of_ble_eq_true rfl) (by simp [-map_take,-map_drop, AV.refs, refsL, natAV, rAV, rC, dAV, dC, d3AV, d3C, push_cast]) fun hs0 => ?_
    repeat' (first
      | with_reducible first | apply thenW_n | apply W_seq
      | with_reducible refine W_rg ?_
      | (rw [vcn]; (try simp [-map_take,-map_drop, push_cast, d3AV, d3C, dC, rC, numC, ← tens.eq_1]))
      | fail)
    refine CallG_of (e1) rfl rfl rfl ?_
    try dsimp only
    repeat' (first
      | (rw [vcn]; (try simp [-map_take,-map_drop, push_cast, d3AV, d3C, dC, rC, numC, ← tens.eq_1, g1]))
      | fail)
    refine CallG_of (e2) rfl rfl rfl ?_
    try dsimp only
    repeat' (first
      | with_reducible first | apply thenW_n | apply W_ret
      | (rw [vcn]; (try simp [-map_take,-map_drop, push_cast, d3AV, d3C, dC, rC, numC, ← tens.eq_1, g1]))
      | fail)
    simp [-map_take,-map_drop, post, resAV, resAll, resOne, closeV, closeC, closeL, resD, resDL, push_cast]
  · have g1 : (c = 0) = False := eq_false h0
    have hb : (c == 0) = false := beq_eq_false_iff_ne.2 h0
    rw [hb, Bool.false_and]
    refine Eval.intro Try.func31 rfl Try.call31 _ _ (Nat.le_of_ble_eq_true rfl) (by simp [-map_take,-map_drop, AV.refs, refsL, natAV, rAV, rC, dAV, dC, d3AV, d3C, push_cast]) fun hs0 => ?_
    repeat' (first
      | with_reducible first | apply thenW_n | apply W_seq
      | with_reducible refine W_rg ?_
      | (rw [vcn]; (try simp [-map_take,-map_drop, push_cast, d3AV, d3C, dC, rC, numC, ← tens.eq_1]))
      | fail)
    refine CallG_of (e1) rfl rfl rfl ?_
    try dsimp only
    repeat' (first
      | with_reducible first | apply thenW_n | apply W_ret
      | (rw [vcn]; (try simp [-map_take,-map_drop, push_cast, d3AV, d3C, dC, rC, numC, ← tens.eq_1, g1]))
      | fail)
    simp [-map_take,-map_drop, post, resAV, resAll, resOne, closeV, closeC, closeL, resD, resDL, push_cast]
end Go.Fw
-- VALS: rAV, rC, dAV, dC, d3AV, d3C
namespace Go.Fw
open Go Go.Proofs Go.IntWalk
set_option linter.unusedSimpArgs false
set_option maxRecDepth 100000
set_option maxHeartbeats 20000000
def lineA (a b : DP) : Int := a.y * b.w - b.y * a.w
def lineB (a b : DP) : Int := b.x * a.w - a.x * b.w
def lineC (a b : DP) : Int := b.x * a.y - a.x * b.y
open List (map_take map_drop)
attribute [local push_cast] optK_some optK_none optK_ite optK_map optK_bind gOn stepK isMem evPure evMem evBin evUn evConv evLen evBuiltin evMinMax evSlice evBuild evAppend evIndex evIndexAddr evField evFieldAddr intBin strBin appDest AS.val AS.mem AS.elems AS.put AS.put' AS.eff AV.cells? AV.isCell AV.refs all_isByte take_byteV drop_byteV strOf_map bndOk bnd partAV ptrAdd killBox catA inOrder fillA setAt ofVal resB upd byteV List.head?_take List.head?_drop List.getElem?_map mkS_env mkS_box mkS_used entry_env entry_box entry_used lk stepD lookIds Oper.looksAt Op.operands Call.operands St.ids refsL renL_append ren renL renBox Box.refs iV i64V boolV dV_getElem dV_app dV_cons toNat_add2 toNat_add1
attribute [local simp ↓] numC_refs numC_isCell numC_cells numC_resB numC_resD numC_ren numC_closeC numC_isOwn
theorem line11_ok (a b : DP) (h : szP3 a + szP3 b ≤ 1000000) : Eval Try.prog 130 [DP.av2 a b] (.ret (.tup [dAV (lineA a b), dAV (lineB a b), dAV (lineC a b)])) := by
  obtain ⟨ax, ay, aw⟩ := a
  obtain ⟨bx, by', bw⟩ := b
  simp only [szP3] at h
  have z1 := szD_mul ay bw
  have z2 := szD_mul by' aw
  have z3 := szD_mul bx aw
  have z4 := szD_mul ax bw
  have z5 := szD_mul bx ay
  have z6 := szD_mul ax by'
  have e1 := mul11_ok ay bw (by omega)
  have e2 := mul11_ok by' aw (by omega)
  have e3 := sub11_ok (ay * bw) (by' * aw) (by omega)
  have e4 := mul11_ok bx aw (by omega)
  have e5 := mul11_ok ax bw (by omega)
  have e6 := sub11_ok (bx * aw) (ax * bw) (by omega)
  have e7 := mul11_ok bx ay (by omega)
  have e8 := mul11_ok ax by' (by omega)
  have e9 := sub11_ok (bx * ay) (ax * by') (by omega)
  simp only [lineA, lineB, lineC, DP.av2]
  obtain ⟨p1, hx⟩ : ∃ x, x = ay * bw := ⟨_, rfl⟩
  rw [← hx] at e1 e3 ⊢
  clear hx
  obtain ⟨p2, hx⟩ : ∃ x, x = by' * aw := ⟨_, rfl⟩
  rw [← hx] at e2 e3 ⊢
  clear hx
  obtain ⟨p4, hx⟩ : ∃ x, x = bx * aw := ⟨_, rfl⟩
  rw [← hx] at e4 e6 ⊢
  clear hx
  obtain ⟨p5, hx⟩ : ∃ x, x = ax * bw := ⟨_, rfl⟩
  rw [← hx] at e5 e6 ⊢
  clear hx
  obtain ⟨p7, hx⟩ : ∃ x, x = bx * ay := ⟨_, rfl⟩
  rw [← hx] at e7 e9 ⊢
  clear hx
  obtain ⟨p8, hx⟩ : ∃ x, x = ax * by' := ⟨_, rfl⟩
  rw [← hx] at e8 e9 ⊢
  clear hx
  obtain ⟨p3, hx⟩ : ∃ x, x = p1 - p2 := ⟨_, rfl⟩
  rw [← hx] at e3 ⊢
  clear hx
  obtain ⟨p6, hx⟩ : ∃ x, x = p4 - p5 := ⟨_, rfl⟩
  rw [← hx] at e6 ⊢
  clear hx
  obtain ⟨p9, hx⟩ : ∃ x, x = p7 - p8 := ⟨_, rfl⟩
  rw [← hx] at e9 ⊢
  clear hx
  refine Eval.intro Try.func130 rfl Try.call130 _ _ (Nat.le_of_ble_eq_true rfl) (by simp [-map_take,-map_drop, AV.refs, refsL, natAV, rAV, rC, dAV, dC, d3AV, d3C, push_cast]) fun hs0 => ?_
  repeat' (first
    | with_reducible first | apply thenW_n | apply W_seq
    | with_reducible refine W_rg ?_
    | (rw [vcn]; (try simp [-map_take,-map_drop, push_cast, d3AV, d3C, dC, rC, numC, ← tens.eq_1]))
    | with_reducible refine W_drawn mixed (by decide) (by kernel_rfl) ?_
    | (rw [vcnD]; (try simp [-map_take,-map_drop, push_cast, d3AV, d3C, dC, rC, numC, ← tens.eq_1]))
    | fail)
  refine callD_of (e1) rfl rfl rfl ?_
  try dsimp only
  repeat' (first
    | (rw [vcnD]; (try simp [-map_take,-map_drop, push_cast, d3AV, d3C, dC, rC, numC, ← tens.eq_1, dAV]))
    | fail)
  refine callD_of (e2) rfl rfl rfl ?_
  try dsimp only
  repeat' (first
    | (rw [vcnD]; (try simp [-map_take,-map_drop, push_cast, d3AV, d3C, dC, rC, numC, ← tens.eq_1, dAV]))
    | fail)
  refine callD_of (e3) rfl rfl rfl ?_
  try dsimp only
  repeat' (first
    | with_reducible first | apply thenW_n | apply W_seq
    | with_reducible refine W_drawn mixed (by decide) (by kernel_rfl) ?_
    | (rw [vcnD]; (try simp [-map_take,-map_drop, push_cast, d3AV, d3C, dC, rC, numC, ← tens.eq_1, dAV]))
    | refine And.intro (by first | omega | kernel_rfl) ?_
    | fail)
  refine callD_of (e4) rfl rfl rfl ?_
  try dsimp only
  repeat' (first
    | (rw [vcnD]; (try simp [-map_take,-map_drop, push_cast, d3AV, d3C, dC, rC, numC, ← tens.eq_1, dAV]))
    | fail)
  refine callD_of (e5) rfl rfl rfl ?_
  try dsimp only
  repeat' (first
    | (rw [vcnD]; (try simp [-map_take,-map_drop, push_cast, d3AV, d3C, dC, rC, numC, ← tens.eq_1, dAV]))
    | fail)
  refine callD_of (e6) rfl rfl rfl ?_
  try dsimp only
  repeat' (first
    | with_reducible first | apply thenW_n | apply W_seq
    | with_reducible refine W_drawn mixed (by decide) (by kernel_rfl) ?_
    | (rw [vcnD]; (try simp [-map_take,-map_drop, push_cast, d3AV, d3C, dC, rC, numC, ← tens.eq_1, dAV]))
    | refine And.intro (by first | omega | kernel_rfl) ?_
    | fail)
  refine callD_of (e7) rfl rfl rfl ?_
  try dsimp only
  repeat' (first
    | (rw [vcnD]; (try simp [-map_take,-map_drop, push_cast, d3AV, d3C, dC, rC, numC, ← tens.eq_1, dAV]))
    | fail)
  refine callD_of (e8) rfl rfl rfl ?_
  try dsimp only
  repeat' (first
    | (rw [vcnD]; (try simp [-map_take,-map_drop, push_cast, d3AV, d3C, dC, rC, numC, ← tens.eq_1, dAV]))
    | fail)
  refine callD_of (e9) rfl rfl rfl ?_
  try dsimp only
  repeat' (first
    | with_reducible first | apply thenW_n | apply W_seq | apply W_ret
    | with_reducible refine W_drawn mixed (by decide) (by kernel_rfl) ?_
    | (rw [vcnD]; (try simp [-map_take,-map_drop, push_cast, d3AV, d3C, dC, rC, numC, ← tens.eq_1, dAV]))
    | refine And.intro (by first | omega | kernel_rfl) ?_
    | fail)
  simp [-map_take,-map_drop, post, resAV, resAll, resOne, closeV, closeC, closeL, resD, resDL, push_cast, dAV, dC, rC, numC, ← tens.eq_1]
end Go.Fw
-- VALS: rAV, rC, dAV, dC, d3AV, d3C
namespace Go.Fw
open Go Go.Proofs Go.IntWalk
set_option linter.unusedSimpArgs false
set_option maxRecDepth 100000
set_option maxHeartbeats 20000000
theorem sz_line (a b : DP) : szD (lineA a b) ≤ 2 * (szP3 a + szP3 b) + 1 ∧ szD (lineB a b) ≤ 2 * (szP3 a + szP3 b) + 1 ∧ szD (lineC a b) ≤ 2 * (szP3 a + szP3 b) + 1 := by
  have z1 := szD_mul a.y b.w
  have z2 := szD_mul b.y a.w
  have z3 := szD_mul b.x a.w
  have z4 := szD_mul a.x b.w
  have z5 := szD_mul b.x a.y
  have z6 := szD_mul a.x b.y
  have y1 := szD_sub (a.y * b.w) (b.y * a.w)
  have y2 := szD_sub (b.x * a.w) (a.x * b.w)
  have y3 := szD_sub (b.x * a.y) (a.x * b.y)
  unfold lineA lineB lineC szP3
  omega
def parB (a b c d : DP) : Bool := cmpZ (lineA a b * lineB c d) (lineB a b * lineA c d) == 0
def crW (a b c d : DP) : Int := lineA a b * lineB c d - lineB a b * lineA c d
def crX (a b c d : DP) : Int := lineC a b * lineB c d - lineB a b * lineC c d
def crY (a b c d : DP) : Int := lineA a b * lineC c d - lineC a b * lineA c d
def crossP (a b c d : DP) : DP := if (crW a b c d).sign < 0 then ⟨-crX a b c d, -crY a b c d, -crW a b c d⟩ else ⟨crX a b c d, crY a b c d, crW a b c d⟩
open List (map_take map_drop)
attribute [local push_cast] optK_some optK_none optK_ite optK_map optK_bind gOn stepK isMem evPure evMem evBin evUn evConv evLen evBuiltin evMinMax evSlice evBuild evAppend evIndex evIndexAddr evField evFieldAddr intBin strBin appDest AS.val AS.mem AS.elems AS.put AS.put' AS.eff AV.cells? AV.isCell AV.refs all_isByte take_byteV drop_byteV strOf_map bndOk bnd partAV ptrAdd killBox catA inOrder fillA setAt ofVal resB upd byteV List.head?_take List.head?_drop List.getElem?_map mkS_env mkS_box mkS_used entry_env entry_box entry_used lk stepD lookIds Oper.looksAt Op.operands Call.operands St.ids refsL renL_append ren renL renBox Box.refs iV i64V boolV dV_getElem dV_app dV_cons toNat_add2 toNat_add1
attribute [local simp ↓] numC_refs numC_isCell numC_cells numC_resB numC_resD numC_ren numC_closeC numC_isOwn
theorem parallel11_ok (a b c d : DP) (h : szP3 a + szP3 b + szP3 c + szP3 d ≤ 100000) : Eval Try.prog 121 [DP.av2 a b, DP.av2 c d] (.ret (boolV (parB a b c d))) := by
  have h1 := sz_line a b
  have h2 := sz_line c d
  have e1 := line11_ok a b (by omega)
  have e2 := line11_ok c d (by omega)
  have e3 := mul11_ok (lineA a b) (lineB c d) (by omega)
  have e4 := mul11_ok (lineB a b) (lineA c d) (by omega)
  have e5 := cmp02_ok (lineA a b * lineB c d) (lineB a b * lineA c d)
  unfold parB
  obtain ⟨A1, hx⟩ : ∃ x, x = lineA a b := ⟨_, rfl⟩
  simp only [← hx] at e1 e2 e3 e4 e5 h1 h2 ⊢
  clear hx
  obtain ⟨B1, hx⟩ : ∃ x, x = lineB a b := ⟨_, rfl⟩
  simp only [← hx] at e1 e2 e3 e4 e5 h1 h2 ⊢
  clear hx
  obtain ⟨C1, hx⟩ : ∃ x, x = lineC a b := ⟨_, rfl⟩
  simp only [← hx] at e1 e2 e3 e4 e5 h1 h2 ⊢
  clear hx
  obtain ⟨A2, hx⟩ : ∃ x, x = lineA c d := ⟨_, rfl⟩
  simp only [← hx] at e1 e2 e3 e4 e5 h1 h2 ⊢
  clear hx
  obtain ⟨B2, hx⟩ : ∃ x, x = lineB c d := ⟨_, rfl⟩
  simp only [← hx] at e1 e2 e3 e4 e5 h1 h2 ⊢
  clear hx
  obtain ⟨C2, hx⟩ : ∃ x, x = lineC c d := ⟨_, rfl⟩
  simp only [← hx] at e1 e2 e3 e4 e5 h1 h2 ⊢
  clear hx
  obtain ⟨p, hx⟩ : ∃ x, x = A1 * B2 := ⟨_, rfl⟩
  rw [← hx] at e3 e5 ⊢
  clear hx
  obtain ⟨q, hx⟩ : ∃ x, x = B1 * A2 := ⟨_, rfl⟩
  rw [← hx] at e4 e5 ⊢
  clear hx
  obtain ⟨r, hx⟩ : ∃ x, x = cmpZ p q := ⟨_, rfl⟩
  rw [← hx] at e5 ⊢
  clear hx
  clear h1 h2 h
  obtain ⟨ax, ay, aw⟩ := a
  obtain ⟨bx, by', bw⟩ := b
  obtain ⟨cx, cy, cw⟩ := c
  obtain ⟨dx, dy, dw⟩ := d
  simp only [DP.av2] at e1 e2 ⊢
  refine Eval.intro Try.func121 rfl Try.call121 _ _ (Nat.le_of_ble_eq_true rfl) (by simp [-map_take,-map_drop, AV.refs, refsL, natAV, rAV, rC, dAV, dC, d3AV, d3C, push_cast]) fun hs0 => ?_
  repeat' (first
    | with_reducible first | apply thenW_n | apply W_seq
    | with_reducible refine W_rg ?_
    | (rw [vcn]; (try simp [-map_take,-map_drop, push_cast, d3AV, d3C, dC, rC, numC, ← tens.eq_1]))
    | fail)
  refine CallG_of (e1) rfl rfl rfl ?_
  try dsimp only
  repeat' (first
    | with_reducible first | apply thenW_n | apply W_seq
    | with_reducible refine W_rg ?_
    | (rw [vcn]; (try simp [-map_take,-map_drop, push_cast, d3AV, d3C, dC, rC, numC, ← tens.eq_1, dAV]))
    | fail)
  refine CallG_of (e2) rfl rfl rfl ?_
  try dsimp only
  repeat' (first
    | with_reducible first | apply thenW_n | apply W_seq
    | (rw [vcn]; (try simp [-map_take,-map_drop, push_cast, d3AV, d3C, dC, rC, numC, ← tens.eq_1, dAV]))
    | with_reducible refine W_drawn mixed (by decide) (by kernel_rfl) ?_
    | (rw [vcnD]; (try simp [-map_take,-map_drop, push_cast, d3AV, d3C, dC, rC, numC, ← tens.eq_1, dAV]))
    | fail)
  refine callD_of (e3) rfl rfl rfl ?_
  try dsimp only
  repeat' (first
    | (rw [vcnD]; (try simp [-map_take,-map_drop, push_cast, d3AV, d3C, dC, rC, numC, ← tens.eq_1, dAV]))
    | fail)
  refine callD_of (e4) rfl rfl rfl ?_
  try dsimp only
  repeat' (first
    | (rw [vcnD]; (try simp [-map_take,-map_drop, push_cast, d3AV, d3C, dC, rC, numC, ← tens.eq_1, dAV]))
    | fail)
  refine callD_of (e5) rfl rfl rfl ?_
  try dsimp only
  repeat' (first
    | with_reducible first | apply thenW_n | apply W_ret
    | (rw [vcnD]; (try simp [-map_take,-map_drop, push_cast, d3AV, d3C, dC, rC, numC, ← tens.eq_1, dAV]))
    | refine And.intro (by first | omega | kernel_rfl) ?_
    | fail)
  simp [-map_take,-map_drop, post, resAV, resAll, resOne, closeV, closeC, closeL, resD, resDL, push_cast]
theorem crossing11_ok (a b c d : DP) (h : szP3 a + szP3 b + szP3 c + szP3 d ≤ 100000) : Eval Try.prog 122 [DP.av2 a b, DP.av2 c d] (.ret (crossP a b c d).av) := by
  have h1 := sz_line a b
  have h2 := sz_line c d
  have e1 := line11_ok a b (by omega)
  have e2 := line11_ok c d (by omega)
  have z1 := szD_mul (lineA a b) (lineB c d)
  have z2 := szD_mul (lineB a b) (lineA c d)
  have z3 := szD_mul (lineC a b) (lineB c d)
  have z4 := szD_mul (lineB a b) (lineC c d)
  have z5 := szD_mul (lineA a b) (lineC c d)
  have z6 := szD_mul (lineC a b) (lineA c d)
  have m1 := mul11_ok (lineA a b) (lineB c d) (by omega)
  have m2 := mul11_ok (lineB a b) (lineA c d) (by omega)
  have m3 := sub11_ok (lineA a b * lineB c d) (lineB a b * lineA c d) (by omega)
  have m4 := mul11_ok (lineC a b) (lineB c d) (by omega)
  have m5 := mul11_ok (lineB a b) (lineC c d) (by omega)
  have m6 := sub11_ok (lineC a b * lineB c d) (lineB a b * lineC c d) (by omega)
  have m7 := mul11_ok (lineA a b) (lineC c d) (by omega)
  have m8 := mul11_ok (lineC a b) (lineA c d) (by omega)
  have m9 := sub11_ok (lineA a b * lineC c d) (lineC a b * lineA c d) (by omega)
  unfold crossP crW crX crY
  obtain ⟨A1, hx⟩ : ∃ x, x = lineA a b := ⟨_, rfl⟩
  simp only [← hx] at e1 e2 m1 m2 m3 m4 m5 m6 m7 m8 m9 ⊢
  clear hx
  obtain ⟨B1, hx⟩ : ∃ x, x = lineB a b := ⟨_, rfl⟩
  simp only [← hx] at e1 e2 m1 m2 m3 m4 m5 m6 m7 m8 m9 ⊢
  clear hx
  obtain ⟨C1, hx⟩ : ∃ x, x = lineC a b := ⟨_, rfl⟩
  simp only [← hx] at e1 e2 m1 m2 m3 m4 m5 m6 m7 m8 m9 ⊢
  clear hx
  obtain ⟨A2, hx⟩ : ∃ x, x = lineA c d := ⟨_, rfl⟩
  simp only [← hx] at e1 e2 m1 m2 m3 m4 m5 m6 m7 m8 m9 ⊢
  clear hx
  obtain ⟨B2, hx⟩ : ∃ x, x = lineB c d := ⟨_, rfl⟩
  simp only [← hx] at e1 e2 m1 m2 m3 m4 m5 m6 m7 m8 m9 ⊢
  clear hx
  obtain ⟨C2, hx⟩ : ∃ x, x = lineC c d := ⟨_, rfl⟩
  simp only [← hx] at e1 e2 m1 m2 m3 m4 m5 m6 m7 m8 m9 ⊢
  clear hx
  obtain ⟨p1, hx⟩ : ∃ x, x = A1 * B2 := ⟨_, rfl⟩
  simp only [← hx] at m1 m3 ⊢
  clear hx
  obtain ⟨p2, hx⟩ : ∃ x, x = B1 * A2 := ⟨_, rfl⟩
  simp only [← hx] at m2 m3 ⊢
  clear hx
  obtain ⟨p4, hx⟩ : ∃ x, x = C1 * B2 := ⟨_, rfl⟩
  simp only [← hx] at m4 m6 ⊢
  clear hx
  obtain ⟨p5, hx⟩ : ∃ x, x = B1 * C2 := ⟨_, rfl⟩
  simp only [← hx] at m5 m6 ⊢
  clear hx
  obtain ⟨p7, hx⟩ : ∃ x, x = A1 * C2 := ⟨_, rfl⟩
  simp only [← hx] at m7 m9 ⊢
  clear hx
  obtain ⟨p8, hx⟩ : ∃ x, x = C1 * A2 := ⟨_, rfl⟩
  simp only [← hx] at m8 m9 ⊢
  clear hx
  obtain ⟨W, hx⟩ : ∃ x, x = p1 - p2 := ⟨_, rfl⟩
  simp only [← hx] at m3 ⊢
  clear hx
  obtain ⟨X, hx⟩ : ∃ x, x = p4 - p5 := ⟨_, rfl⟩
  simp only [← hx] at m6 ⊢
  clear hx
  obtain ⟨Y, hx⟩ : ∃ x, x = p7 - p8 := ⟨_, rfl⟩
  simp only [← hx] at m9 ⊢
  clear hx
  clear h1 h2 h z1 z2 z3 z4 z5 z6
  have n1 := neg02_ok X
  have n2 := neg02_ok Y
  have n3 := neg02_ok W
  obtain ⟨ax, ay, aw⟩ := a
  obtain ⟨bx, by', bw⟩ := b
  obtain ⟨cx, cy, cw⟩ := c
  obtain ⟨dx, dy, dw⟩ := d
  simp only [DP.av2] at e1 e2 ⊢
  by_cases h0 : W.sign < 0
  · rw [if_pos h0]
    have g1 : (W.sign < 0) = True := eq_true h0
    simp only [DP.av]
    obtain ⟨X', hx⟩ : ∃ x, x = -X := ⟨_, rfl⟩
    obtain ⟨Y', hy⟩ : ∃ x, x = -Y := ⟨_, rfl⟩
    obtain ⟨W', hw⟩ : ∃ x, x = -W := ⟨_, rfl⟩
    rw [← hx] at n1 ⊢
    rw [← hy] at n2 ⊢
    rw [← hw] at n3 ⊢
    refine Eval.intro Try.func122 rfl Try.call122 _ _ (Nat.le_of_ble_eq_true rfl) (by simp [-map_take,-map_drop, AV.refs, refsL, natAV, rAV, rC, dAV, dC, d3AV, d3C, push_cast]) fun hs0 => ?_
    repeat' (first
      | with_reducible first | apply thenW_n | apply W_seq
      | with_reducible refine W_rg ?_
      | (rw [vcn]; (try simp [-map_take,-map_drop, push_cast, d3AV, d3C, dC, rC, numC, ← tens.eq_1]))
      | fail)
    refine CallG_of (e1) rfl rfl rfl ?_
    try dsimp only
    repeat' (first
      | with_reducible first | apply thenW_n | apply W_seq
      | with_reducible refine W_rg ?_
      | (rw [vcn]; (try simp [-map_take,-map_drop, push_cast, d3AV, d3C, dC, rC, numC, ← tens.eq_1, dAV, g1]))
      | fail)
    refine CallG_of (e2) rfl rfl rfl ?_
    try dsimp only
    repeat' (first
      | with_reducible first | apply thenW_n | apply W_seq
      | (rw [vcn]; (try simp [-map_take,-map_drop, push_cast, d3AV, d3C, dC, rC, numC, ← tens.eq_1, dAV, g1]))
      | with_reducible refine W_drawn mixed (by decide) (by kernel_rfl) ?_
      | (rw [vcnD]; (try simp [-map_take,-map_drop, push_cast, d3AV, d3C, dC, rC, numC, ← tens.eq_1, dAV, g1]))
      | fail)
    refine callD_of (m1) rfl rfl rfl ?_
    try dsimp only
    repeat' (first
      | (rw [vcnD]; (try simp [-map_take,-map_drop, push_cast, d3AV, d3C, dC, rC, numC, ← tens.eq_1, dAV, g1]))
      | fail)
    refine callD_of (m2) rfl rfl rfl ?_
    try dsimp only
    repeat' (first
      | (rw [vcnD]; (try simp [-map_take,-map_drop, push_cast, d3AV, d3C, dC, rC, numC, ← tens.eq_1, dAV, g1]))
      | fail)
    refine callD_of (m3) rfl rfl rfl ?_
    try dsimp only
    repeat' (first
      | with_reducible first | apply thenW_n | apply W_seq
      | with_reducible refine W_drawn mixed (by decide) (by kernel_rfl) ?_
      | (rw [vcnD]; (try simp [-map_take,-map_drop, push_cast, d3AV, d3C, dC, rC, numC, ← tens.eq_1, dAV, g1]))
      | refine And.intro (by first | omega | kernel_rfl) ?_
      | fail)
    refine callD_of (m4) rfl rfl rfl ?_
    try dsimp only
    repeat' (first
      | (rw [vcnD]; (try simp [-map_take,-map_drop, push_cast, d3AV, d3C, dC, rC, numC, ← tens.eq_1, dAV, g1]))
      | fail)
    refine callD_of (m5) rfl rfl rfl ?_
    try dsimp only
    repeat' (first
      | (rw [vcnD]; (try simp [-map_take,-map_drop, push_cast, d3AV, d3C, dC, rC, numC, ← tens.eq_1, dAV, g1]))
      | fail)
    refine callD_of (m6) rfl rfl rfl ?_
    try dsimp only
    repeat' (first
      | with_reducible first | apply thenW_n | apply W_seq
      | with_reducible refine W_drawn mixed (by decide) (by kernel_rfl) ?_
      | (rw [vcnD]; (try simp [-map_take,-map_drop, push_cast, d3AV, d3C, dC, rC, numC, ← tens.eq_1, dAV, g1]))
      | refine And.intro (by first | omega | kernel_rfl) ?_
      | fail)
    refine callD_of (m7) rfl rfl rfl ?_
    try dsimp only
    repeat' (first
      | (rw [vcnD]; (try simp [-map_take,-map_drop, push_cast, d3AV, d3C, dC, rC, numC, ← tens.eq_1, dAV, g1]))
      | fail)
    refine callD_of (m8) rfl rfl rfl ?_
    try dsimp only
    repeat' (first
      | (rw [vcnD]; (try simp [-map_take,-map_drop, push_cast, d3AV, d3C, dC, rC, numC, ← tens.eq_1, dAV, g1]))
      | fail)
    refine callD_of (m9) rfl rfl rfl ?_
    try dsimp only
    repeat' (first
      | with_reducible first | apply thenW_n | apply W_seq
      | with_reducible refine W_rg ?_
      | (rw [vcn]; (try simp [-map_take,-map_drop, push_cast, d3AV, d3C, dC, rC, numC, ← tens.eq_1, dAV, g1]))
      | with_reducible refine W_drawn mixed (by decide) (by kernel_rfl) ?_
      | (rw [vcnD]; (try simp [-map_take,-map_drop, push_cast, d3AV, d3C, dC, rC, numC, ← tens.eq_1, dAV, g1]))
      | (with_reducible refine W_condW ?_; (try simp [-map_take,-map_drop, AS.val, upd, resB, mkS_env, mkS_box, lk, entry_env, condW_true, condW_false, d3AV, d3C, dC, rC, numC, ← tens.eq_1, dAV, g1]))
      | refine And.intro (by first | omega | kernel_rfl) ?_
      | fail)
    refine callD_of (n1) rfl rfl rfl ?_
    try dsimp only
    repeat' (first
      | (rw [vcnD]; (try simp [-map_take,-map_drop, push_cast, d3AV, d3C, dC, rC, numC, ← tens.eq_1, dAV]))
      | fail)
    refine callD_of (n2) rfl rfl rfl ?_
    try dsimp only
    repeat' (first
      | (rw [vcnD]; (try simp [-map_take,-map_drop, push_cast, d3AV, d3C, dC, rC, numC, ← tens.eq_1, dAV]))
      | fail)
    refine callD_of (n3) rfl rfl rfl ?_
    try dsimp only
    repeat' (first
      | with_reducible first | apply thenW_n | apply thenW_ret | apply W_ret
      | (rw [vcnD]; (try simp [-map_take,-map_drop, push_cast, d3AV, d3C, dC, rC, numC, ← tens.eq_1, dAV]))
      | refine And.intro (by first | omega | kernel_rfl) ?_
      | fail)
    simp [-map_take,-map_drop, post, resAV, resAll, resOne, closeV, closeC, closeL, resD, resDL, push_cast, d3AV, d3C, dC, rC, numC, ← tens.eq_1]
  · rw [if_neg h0]
    have g1 : (W.sign < 0) = False := eq_false h0
    simp only [DP.av]
    refine Eval.intro Try.func122 rfl Try.call122 _ _ (Nat.le_of_ble_eq_true rfl) (by simp [-map_take,-map_drop, AV.refs, refsL, natAV, rAV, rC, dAV, dC, d3AV, d3C, push_cast]) fun hs0 => ?_
    repeat' (first
      | with_reducible first | apply thenW_n | apply W_seq
      | with_reducible refine W_rg ?_
      | (rw [vcn]; (try simp [-map_take,-map_drop, push_cast, d3AV, d3C, dC, rC, numC, ← tens.eq_1]))
      | fail)
    refine CallG_of (e1) rfl rfl rfl ?_
    try dsimp only
    repeat' (first
      | with_reducible first | apply thenW_n | apply W_seq
      | with_reducible refine W_rg ?_
      | (rw [vcn]; (try simp [-map_take,-map_drop, push_cast, d3AV, d3C, dC, rC, numC, ← tens.eq_1, dAV, g1]))
      | fail)
    refine CallG_of (e2) rfl rfl rfl ?_
    try dsimp only
    repeat' (first
      | with_reducible first | apply thenW_n | apply W_seq
      | (rw [vcn]; (try simp [-map_take,-map_drop, push_cast, d3AV, d3C, dC, rC, numC, ← tens.eq_1, dAV, g1]))
      | with_reducible refine W_drawn mixed (by decide) (by kernel_rfl) ?_
      | (rw [vcnD]; (try simp [-map_take,-map_drop, push_cast, d3AV, d3C, dC, rC, numC, ← tens.eq_1, dAV, g1]))
      | fail)
    refine callD_of (m1) rfl rfl rfl ?_
    try dsimp only
    repeat' (first
      | (rw [vcnD]; (try simp [-map_take,-map_drop, push_cast, d3AV, d3C, dC, rC, numC, ← tens.eq_1, dAV, g1]))
      | fail)
    refine callD_of (m2) rfl rfl rfl ?_
    try dsimp only
    repeat' (first
      | (rw [vcnD]; (try simp [-map_take,-map_drop, push_cast, d3AV, d3C, dC, rC, numC, ← tens.eq_1, dAV, g1]))
      | fail)
    refine callD_of (m3) rfl rfl rfl ?_
    try dsimp only
    repeat' (first
      | with_reducible first | apply thenW_n | apply W_seq
      | with_reducible refine W_drawn mixed (by decide) (by kernel_rfl) ?_
      | (rw [vcnD]; (try simp [-map_take,-map_drop, push_cast, d3AV, d3C, dC, rC, numC, ← tens.eq_1, dAV, g1]))
      | refine And.intro (by first | omega | kernel_rfl) ?_
      | fail)
    refine callD_of (m4) rfl rfl rfl ?_
    try dsimp only
    repeat' (first
      | (rw [vcnD]; (try simp [-map_take,-map_drop, push_cast, d3AV, d3C, dC, rC, numC, ← tens.eq_1, dAV, g1]))
      | fail)
    refine callD_of (m5) rfl rfl rfl ?_
    try dsimp only
    repeat' (first
      | (rw [vcnD]; (try simp [-map_take,-map_drop, push_cast, d3AV, d3C, dC, rC, numC, ← tens.eq_1, dAV, g1]))
      | fail)
    refine callD_of (m6) rfl rfl rfl ?_
    try dsimp only
    repeat' (first
      | with_reducible first | apply thenW_n | apply W_seq
      | with_reducible refine W_drawn mixed (by decide) (by kernel_rfl) ?_
      | (rw [vcnD]; (try simp [-map_take,-map_drop, push_cast, d3AV, d3C, dC, rC, numC, ← tens.eq_1, dAV, g1]))
      | refine And.intro (by first | omega | kernel_rfl) ?_
      | fail)
    refine callD_of (m7) rfl rfl rfl ?_
    try dsimp only
    repeat' (first
      | (rw [vcnD]; (try simp [-map_take,-map_drop, push_cast, d3AV, d3C, dC, rC, numC, ← tens.eq_1, dAV, g1]))
      | fail)
    refine callD_of (m8) rfl rfl rfl ?_
    try dsimp only
    repeat' (first
      | (rw [vcnD]; (try simp [-map_take,-map_drop, push_cast, d3AV, d3C, dC, rC, numC, ← tens.eq_1, dAV, g1]))
      | fail)
    refine callD_of (m9) rfl rfl rfl ?_
    try dsimp only
    repeat' (first
      | with_reducible first | apply thenW_n | apply W_seq | apply W_skip | apply W_ret
      | with_reducible refine W_rg ?_
      | (rw [vcn]; (try simp [-map_take,-map_drop, push_cast, d3AV, d3C, dC, rC, numC, ← tens.eq_1, dAV, g1]))
      | (rw [vcnD]; (try simp [-map_take,-map_drop, push_cast, d3AV, d3C, dC, rC, numC, ← tens.eq_1, dAV, g1]))
      | (with_reducible refine W_condW ?_; (try simp [-map_take,-map_drop, AS.val, upd, resB, mkS_env, mkS_box, lk, entry_env, condW_true, condW_false, d3AV, d3C, dC, rC, numC, ← tens.eq_1, dAV, g1]))
      | refine And.intro (by first | omega | kernel_rfl) ?_
      | fail)
    simp [-map_take,-map_drop, post, resAV, resAll, resOne, closeV, closeC, closeL, resD, resDL, push_cast, d3AV, d3C, dC, rC, numC, ← tens.eq_1]
end Go.Fw

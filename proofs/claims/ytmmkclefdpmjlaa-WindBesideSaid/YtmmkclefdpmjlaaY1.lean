/- The document's quotients (03): Of, Make, Cmp, Neg, Add, Sub, Mul, Div. -/
import Derived.Test.YtmmkclefdpmjlaaW1b
set_option linter.unusedSimpArgs false
set_option linter.unusedVariables false
-- VALS: rAV, rC, dAV, dC, d3AV, d3C, ratD, RD.av
namespace Go.Fw
open Go Go.Proofs Go.IntWalk
set_option linter.unusedSimpArgs false
set_option maxRecDepth 100000
set_option maxHeartbeats 20000000
structure RD where
  n : Int
  d : Int
def RD.av (r : RD) : AV := ratD r.n r.d
def RD.q (r : RD) : Rat := Rat.divInt r.n r.d
def szR (r : RD) : Nat := szD r.n + szD r.d
def makeD (n d : Int) : RD := if d.sign < 0 then ⟨-n, -d⟩ else ⟨n, d⟩
def mulD (a b : RD) : RD := ⟨a.n * b.n, a.d * b.d⟩
def negD (a : RD) : RD := ⟨-a.n, a.d⟩
def addD (a b : RD) : RD := if cmpZ a.d b.d = 0 then ⟨a.n + b.n, a.d⟩ else ⟨a.n * b.d + b.n * a.d, a.d * b.d⟩
def subD (a b : RD) : RD := addD a (negD b)
def divD (a b : RD) : RD := makeD (a.n * b.d) (a.d * b.n)
def cmpD (a b : RD) : Int := cmpZ (a.n * b.d) (b.n * a.d)
def ofD (k : Int) : RD := ⟨k, 1⟩
theorem RD.hn (r : RD) (h : 0 < r.d) : (r.n : Rat) = r.q * (r.d : Rat) := dv_mul h
theorem q_of {n d : Int} {q : Rat} (h : 0 < d) (e : (n : Rat) = q * (d : Rat)) : (RD.mk n d).q = q := dv_of h e
theorem szD_neg' (z : Int) : szD (-z) = szD z := by unfold szD; rw [Int.natAbs_neg]
theorem cmpZ_eq0 (a b : Int) : cmpZ a b = 0 ↔ a = b := by unfold cmpZ; split <;> (try split) <;> omega
theorem mulD_q {a b : RD} (ha : 0 < a.d) (hb : 0 < b.d) : (mulD a b).q = a.q * b.q ∧ 0 < (mulD a b).d := by
  refine ⟨q_of (Int.mul_pos ha hb) ?_, Int.mul_pos ha hb⟩
  rw [Rat.intCast_mul, Rat.intCast_mul, a.hn ha, b.hn hb]
  grind
theorem negD_q {a : RD} (ha : 0 < a.d) : (negD a).q = -a.q ∧ 0 < (negD a).d := by
  refine ⟨q_of ha ?_, ha⟩
  rw [Rat.intCast_neg, a.hn ha]
  grind
theorem addD_q {a b : RD} (ha : 0 < a.d) (hb : 0 < b.d) : (addD a b).q = a.q + b.q ∧ 0 < (addD a b).d := by
  unfold addD
  by_cases h : cmpZ a.d b.d = 0
  · rw [if_pos h]
    have h' := (cmpZ_eq0 _ _).1 h
    refine ⟨q_of ha ?_, ha⟩
    rw [Rat.intCast_add, a.hn ha, b.hn hb, h']
    grind
  · rw [if_neg h]
    refine ⟨q_of (Int.mul_pos ha hb) ?_, Int.mul_pos ha hb⟩
    rw [Rat.intCast_add, Rat.intCast_mul, Rat.intCast_mul, Rat.intCast_mul, a.hn ha, b.hn hb]
    grind
theorem subD_q {a b : RD} (ha : 0 < a.d) (hb : 0 < b.d) : (subD a b).q = a.q - b.q ∧ 0 < (subD a b).d := by
  obtain ⟨h1, h2⟩ := negD_q hb
  obtain ⟨h3, h4⟩ := addD_q ha h2
  exact ⟨by show (addD a (negD b)).q = _; rw [h3, h1]; grind, h4⟩
theorem mulD_sz (a b : RD) : szR (mulD a b) ≤ szR a + szR b := by
  have h1 := szD_mul a.n b.n
  have h2 := szD_mul a.d b.d
  show szD (a.n * b.n) + szD (a.d * b.d) ≤ _
  unfold szR
  omega
theorem negD_sz (a : RD) : szR (negD a) = szR a := by
  show szD (-a.n) + szD a.d = _
  rw [szD_neg']
  rfl
theorem addD_sz (a b : RD) : szR (addD a b) ≤ 2 * (szR a + szR b) + 1 := by
  have h1 := szD_mul a.n b.d
  have h2 := szD_mul b.n a.d
  have h3 := szD_mul a.d b.d
  have h4 := szD_add (a.n * b.d) (b.n * a.d)
  have h5 := szD_add a.n b.n
  unfold addD szR
  split
  · dsimp only; omega
  · dsimp only; omega
theorem subD_sz (a b : RD) : szR (subD a b) ≤ 2 * (szR a + szR b) + 1 := by
  have := addD_sz a (negD b)
  rw [negD_sz] at this
  exact this
open List (map_take map_drop)
attribute [local push_cast] optK_some optK_none optK_ite optK_map optK_bind gOn stepK isMem evPure evMem evBin evUn evConv evLen evBuiltin evMinMax evSlice evBuild evAppend evIndex evIndexAddr evField evFieldAddr intBin strBin appDest AS.val AS.mem AS.elems AS.put AS.put' AS.eff AV.cells? AV.isCell AV.refs all_isByte take_byteV drop_byteV strOf_map bndOk bnd partAV ptrAdd killBox catA inOrder fillA setAt ofVal resB upd byteV List.head?_take List.head?_drop List.getElem?_map mkS_env mkS_box mkS_used entry_env entry_box entry_used lk stepD lookIds Oper.looksAt Op.operands Call.operands St.ids refsL renL_append ren renL renBox Box.refs iV i64V boolV dV_getElem dV_app dV_cons toNat_add2 toNat_add1
attribute [local simp ↓] numC_refs numC_isCell numC_cells numC_resB numC_resD numC_ren numC_closeC numC_isOwn
theorem mul03_ok (a b : RD) (h : szR a + szR b ≤ 20000000) : Eval Try.prog 53 [a.av, b.av] (.ret (mulD a b).av) := by
  unfold szR at h
  have e1 := mul02_ok a.n b.n (by show szD a.n + szD b.n ≤ _; omega)
  have e2 := mul02_ok a.d b.d (by show szD a.d + szD b.d ≤ _; omega)
  unfold mulD
  obtain ⟨p, nm_⟩ : ∃ nm0_, nm0_ = a.n * b.n := ⟨_, rfl⟩
  simp only [← nm_] at e1 ⊢
  clear nm_
  obtain ⟨q, nm_⟩ : ∃ nm0_, nm0_ = a.d * b.d := ⟨_, rfl⟩
  simp only [← nm_] at e2 ⊢
  clear nm_
  refine Eval.intro Try.func53 rfl Try.call53 _ _ (Nat.le_of_ble_eq_true rfl) (by simp [-map_take,-map_drop, AV.refs, refsL, natAV, rAV, rC, dAV, dC, d3AV, d3C, ratD, RD.av, push_cast]) fun hs0 => ?_
  repeat' (first
    | with_reducible first | apply thenW_n | apply W_seq
    | with_reducible refine W_rg ?_
    | (rw [vcn]; (try simp [-map_take,-map_drop, push_cast, RD.av, ratD, dC, rC, numC, ← tens.eq_1, dAV]))
    | with_reducible refine W_drawn mixed (by decide) (by kernel_rfl) ?_
    | (rw [vcnD]; (try simp [-map_take,-map_drop, push_cast, RD.av, ratD, dC, rC, numC, ← tens.eq_1, dAV]))
    | fail)
  refine callD_of (e1) rfl rfl rfl ?_
  try dsimp only
  repeat' (first
    | (rw [vcnD]; (try simp [-map_take,-map_drop, push_cast, RD.av, ratD, dC, rC, numC, ← tens.eq_1, dAV]))
    | fail)
  refine callD_of (e2) rfl rfl rfl ?_
  try dsimp only
  repeat' (first
    | with_reducible first | apply thenW_n | apply W_ret
    | (rw [vcnD]; (try simp [-map_take,-map_drop, push_cast, RD.av, ratD, dC, rC, numC, ← tens.eq_1, dAV]))
    | refine And.intro (by first | omega | kernel_rfl) ?_
    | fail)
  simp [-map_take,-map_drop, post, resAV, resAll, resOne, closeV, closeC, closeL, resD, resDL, push_cast, RD.av, ratD, dC, rC, numC, ← tens.eq_1, dAV]
theorem neg03_ok (a : RD) : Eval Try.prog 129 [a.av] (.ret (negD a).av) := by
  have e1 := neg02_ok a.n
  unfold negD
  obtain ⟨p, nm_⟩ : ∃ nm0_, nm0_ = -a.n := ⟨_, rfl⟩
  simp only [← nm_] at e1 ⊢
  clear nm_
  refine Eval.intro Try.func129 rfl Try.call129 _ _ (Nat.le_of_ble_eq_true rfl) (by simp [-map_take,-map_drop, AV.refs, refsL, natAV, rAV, rC, dAV, dC, d3AV, d3C, ratD, RD.av, push_cast]) fun hs0 => ?_
  repeat' (first
    | with_reducible first | apply thenW_n | apply W_seq
    | with_reducible refine W_rg ?_
    | (rw [vcn]; (try simp [-map_take,-map_drop, push_cast, RD.av, ratD, dC, rC, numC, ← tens.eq_1, dAV]))
    | with_reducible refine W_drawn mixed (by decide) (by kernel_rfl) ?_
    | (rw [vcnD]; (try simp [-map_take,-map_drop, push_cast, RD.av, ratD, dC, rC, numC, ← tens.eq_1, dAV]))
    | fail)
  refine callD_of (e1) rfl rfl rfl ?_
  try dsimp only
  repeat' (first
    | with_reducible first | apply thenW_n | apply W_ret
    | (rw [vcnD]; (try simp [-map_take,-map_drop, push_cast, RD.av, ratD, dC, rC, numC, ← tens.eq_1, dAV]))
    | refine And.intro (by first | omega | kernel_rfl) ?_
    | fail)
  simp [-map_take,-map_drop, post, resAV, resAll, resOne, closeV, closeC, closeL, resD, resDL, push_cast, RD.av, ratD, dC, rC, numC, ← tens.eq_1, dAV]
theorem add03_ok (a b : RD) (h : szR a + szR b ≤ 9000000) : Eval Try.prog 51 [a.av, b.av] (.ret (addD a b).av) := by
  unfold szR at h
  have e0 := cmp02_ok a.d b.d
  have z1 := szD_mul a.n b.d
  have z2 := szD_mul b.n a.d
  unfold addD
  by_cases hc : cmpZ a.d b.d = 0
  · rw [if_pos hc]
    rw [hc] at e0
    have e1 := add02_ok a.n b.n (by show szD a.n + szD b.n ≤ _; omega)
    obtain ⟨p, nm_⟩ : ∃ nm0_, nm0_ = a.n + b.n := ⟨_, rfl⟩
    simp only [← nm_] at e1 ⊢
    clear nm_
    refine Eval.intro Try.func51 rfl Try.call51 _ _ (Nat.le_of_ble_eq_true rfl) (by simp [-map_take,-map_drop, AV.refs, refsL, natAV, rAV, rC, dAV, dC, d3AV, d3C, ratD, RD.av, push_cast]) fun hs0 => ?_
    repeat' (first
      | with_reducible first | apply thenW_n | apply W_seq
      | with_reducible refine W_rg ?_
      | (rw [vcn]; (try simp [-map_take,-map_drop, push_cast, RD.av, ratD, dC, rC, numC, ← tens.eq_1, dAV]))
      | fail)
    refine CallG_of (e0) rfl rfl rfl ?_
    try dsimp only
    repeat' (first
      | with_reducible first | apply thenW_n | apply W_seq
      | (rw [vcn]; (try simp [-map_take,-map_drop, push_cast, RD.av, ratD, dC, rC, numC, ← tens.eq_1, dAV]))
      | with_reducible refine W_drawn mixed (by decide) (by kernel_rfl) ?_
      | (rw [vcnD]; (try simp [-map_take,-map_drop, push_cast, RD.av, ratD, dC, rC, numC, ← tens.eq_1, dAV]))
      | (with_reducible refine W_condW ?_; (try simp [-map_take,-map_drop, AS.val, upd, resB, mkS_env, mkS_box, lk, entry_env, condW_true, condW_false, RD.av, ratD, dC, rC, numC, ← tens.eq_1, dAV]))
      | fail)
    refine callD_of (e1) rfl rfl rfl ?_
    try dsimp only
    repeat' (first
      | with_reducible first | apply thenW_n | apply thenW_ret | apply W_ret
      | (rw [vcnD]; (try simp [-map_take,-map_drop, push_cast, RD.av, ratD, dC, rC, numC, ← tens.eq_1, dAV]))
      | refine And.intro (by first | omega | kernel_rfl) ?_
      | fail)
    simp [-map_take,-map_drop, post, resAV, resAll, resOne, closeV, closeC, closeL, resD, resDL, push_cast, RD.av, ratD, dC, rC, numC, ← tens.eq_1, dAV]
  · rw [if_neg hc]
    have e1 := mul02_ok a.n b.d (by show szD a.n + szD b.d ≤ _; omega)
    have e2 := mul02_ok b.n a.d (by show szD b.n + szD a.d ≤ _; omega)
    have e3 := add02_ok (a.n * b.d) (b.n * a.d) (by show szD (a.n * b.d) + szD (b.n * a.d) ≤ _; omega)
    have e4 := mul02_ok a.d b.d (by show szD a.d + szD b.d ≤ _; omega)
    obtain ⟨p, nm_⟩ : ∃ nm0_, nm0_ = a.n * b.d := ⟨_, rfl⟩
    simp only [← nm_] at e1 e3 ⊢
    clear nm_
    obtain ⟨q, nm_⟩ : ∃ nm0_, nm0_ = b.n * a.d := ⟨_, rfl⟩
    simp only [← nm_] at e2 e3 ⊢
    clear nm_
    obtain ⟨r, nm_⟩ : ∃ nm0_, nm0_ = p + q := ⟨_, rfl⟩
    simp only [← nm_] at e3 ⊢
    clear nm_
    obtain ⟨t, nm_⟩ : ∃ nm0_, nm0_ = a.d * b.d := ⟨_, rfl⟩
    simp only [← nm_] at e4 ⊢
    clear nm_
    obtain ⟨c, nm_⟩ : ∃ nm0_, nm0_ = cmpZ a.d b.d := ⟨_, rfl⟩
    simp only [← nm_] at e0 hc
    clear nm_
    have g1 : (c = 0) = False := eq_false hc
    have g2 : (c == 0) = false := beq_eq_false_iff_ne.2 hc
    refine Eval.intro Try.func51 rfl Try.call51 _ _ (Nat.le_of_ble_eq_true rfl) (by simp [-map_take,-map_drop, AV.refs, refsL, natAV, rAV, rC, dAV, dC, d3AV, d3C, ratD, RD.av, push_cast]) fun hs0 => ?_
    repeat' (first
      | with_reducible first | apply thenW_n | apply W_seq
      | with_reducible refine W_rg ?_
      | (rw [vcn]; (try simp [-map_take,-map_drop, push_cast, RD.av, ratD, dC, rC, numC, ← tens.eq_1, dAV, g1, g2]))
      | fail)
    refine CallG_of (e0) rfl rfl rfl ?_
    try dsimp only
    repeat' (first
      | with_reducible first | apply thenW_n | apply W_seq | apply W_skip
      | (rw [vcn]; (try simp [-map_take,-map_drop, push_cast, RD.av, ratD, dC, rC, numC, ← tens.eq_1, dAV, g1, g2]))
      | with_reducible refine W_drawn mixed (by decide) (by kernel_rfl) ?_
      | (rw [vcnD]; (try simp [-map_take,-map_drop, push_cast, RD.av, ratD, dC, rC, numC, ← tens.eq_1, dAV, g1, g2]))
      | (with_reducible refine W_condW ?_; (try simp [-map_take,-map_drop, AS.val, upd, resB, mkS_env, mkS_box, lk, entry_env, condW_true, condW_false, RD.av, ratD, dC, rC, numC, ← tens.eq_1, dAV, g1, g2]))
      | fail)
    refine callD_of (e1) rfl rfl rfl ?_
    try dsimp only
    repeat' (first
      | (rw [vcnD]; (try simp [-map_take,-map_drop, push_cast, RD.av, ratD, dC, rC, numC, ← tens.eq_1, dAV, g1, g2]))
      | fail)
    refine callD_of (e2) rfl rfl rfl ?_
    try dsimp only
    repeat' (first
      | (rw [vcnD]; (try simp [-map_take,-map_drop, push_cast, RD.av, ratD, dC, rC, numC, ← tens.eq_1, dAV, g1, g2]))
      | fail)
    refine callD_of (e3) rfl rfl rfl ?_
    try dsimp only
    repeat' (first
      | (rw [vcnD]; (try simp [-map_take,-map_drop, push_cast, RD.av, ratD, dC, rC, numC, ← tens.eq_1, dAV, g1, g2]))
      | fail)
    refine callD_of (e4) rfl rfl rfl ?_
    try dsimp only
    repeat' (first
      | with_reducible first | apply thenW_n | apply W_ret
      | (rw [vcnD]; (try simp [-map_take,-map_drop, push_cast, RD.av, ratD, dC, rC, numC, ← tens.eq_1, dAV, g1, g2]))
      | refine And.intro (by first | omega | kernel_rfl) ?_
      | fail)
    simp [-map_take,-map_drop, post, resAV, resAll, resOne, closeV, closeC, closeL, resD, resDL, push_cast, RD.av, ratD, dC, rC, numC, ← tens.eq_1, dAV]
theorem sub03_ok (a b : RD) (h : szR a + szR b ≤ 9000000) : Eval Try.prog 120 [a.av, b.av] (.ret (subD a b).av) := by
  have e1 := neg03_ok b
  have e2 := add03_ok a (negD b) (by rw [negD_sz]; exact h)
  unfold subD
  obtain ⟨p, nm_⟩ : ∃ nm0_, nm0_ = negD b := ⟨_, rfl⟩
  simp only [← nm_] at e1 e2 ⊢
  clear nm_
  obtain ⟨r, nm_⟩ : ∃ nm0_, nm0_ = addD a p := ⟨_, rfl⟩
  simp only [← nm_] at e2 ⊢
  clear nm_
  refine Eval.intro Try.func120 rfl Try.call120 _ _ (Nat.le_of_ble_eq_true rfl) (by simp [-map_take,-map_drop, AV.refs, refsL, natAV, rAV, rC, dAV, dC, d3AV, d3C, ratD, RD.av, push_cast]) fun hs0 => ?_
  repeat' (first
    | with_reducible first | apply thenW_n | apply W_seq
    | with_reducible refine W_rg ?_
    | (rw [vcn]; (try simp [-map_take,-map_drop, push_cast, RD.av, ratD, dC, rC, numC, ← tens.eq_1, dAV]))
    | with_reducible refine W_drawn mixed (by decide) (by kernel_rfl) ?_
    | (rw [vcnD]; (try simp [-map_take,-map_drop, push_cast, RD.av, ratD, dC, rC, numC, ← tens.eq_1, dAV]))
    | fail)
  refine callD_of (e1) rfl rfl rfl ?_
  try dsimp only
  repeat' (first
    | (rw [vcnD]; (try simp [-map_take,-map_drop, push_cast, RD.av, ratD, dC, rC, numC, ← tens.eq_1, dAV]))
    | fail)
  refine callD_of (e2) rfl rfl rfl ?_
  try dsimp only
  repeat' (first
    | with_reducible first | apply thenW_n | apply W_ret
    | (rw [vcnD]; (try simp [-map_take,-map_drop, push_cast, RD.av, ratD, dC, rC, numC, ← tens.eq_1, dAV]))
    | refine And.intro (by first | omega | kernel_rfl) ?_
    | fail)
  simp [-map_take,-map_drop, post, resAV, resAll, resOne, closeV, closeC, closeL, resD, resDL, push_cast, RD.av, ratD, dC, rC, numC, ← tens.eq_1, dAV]
end Go.Fw

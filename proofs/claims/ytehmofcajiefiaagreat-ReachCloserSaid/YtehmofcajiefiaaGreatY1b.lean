import Derived.Test.YtehmofcajiefiaaGreatW1b
import Derived.Test.YtehmofcajiefiaaGreatW5
set_option linter.unusedSimpArgs false
set_option linter.unusedVariables false
-- VALS: rAV, rC, dAV, dC, d3AV, d3C, ratD, RD.av
namespace Go.Fw
open Go Go.Proofs Go.IntWalk
set_option linter.unusedSimpArgs false
set_option maxRecDepth 100000
set_option maxHeartbeats 20000000
structure RD where
  n : Int
  d : Int
def RD.av (r : RD) : AV := ratD r.n r.d
def RD.q (r : RD) : Rat := Rat.divInt r.n r.d
def szR (r : RD) : Nat := szD r.n + szD r.d
def makeD (n d : Int) : RD := if d.sign < 0 then ⟨-n, -d⟩ else ⟨n, d⟩
def mulD (a b : RD) : RD := ⟨a.n * b.n, a.d * b.d⟩
def negD (a : RD) : RD := ⟨-a.n, a.d⟩
def addD (a b : RD) : RD := if cmpZ a.d b.d = 0 then ⟨a.n + b.n, a.d⟩ else ⟨a.n * b.d + b.n * a.d, a.d * b.d⟩
def subD (a b : RD) : RD := addD a (negD b)
def divD (a b : RD) : RD := makeD (a.n * b.d) (a.d * b.n)
def cmpD (a b : RD) : Int := cmpZ (a.n * b.d) (b.n * a.d)
def ofD (k : Int) : RD := ⟨k, 1⟩
theorem RD.hn (r : RD) (h : 0 < r.d) : (r.n : Rat) = r.q * (r.d : Rat) := dv_mul h
theorem q_of {n d : Int} {q : Rat} (h : 0 < d) (e : (n : Rat) = q * (d : Rat)) : (RD.mk n d).q = q := dv_of h e
theorem szD_neg' (z : Int) : szD (-z) = szD z := by unfold szD; rw [Int.natAbs_neg]
theorem cmpZ_eq0 (a b : Int) : cmpZ a b = 0 ↔ a = b := by unfold cmpZ; split <;> (try split) <;> omega
theorem mulD_q {a b : RD} (ha : 0 < a.d) (hb : 0 < b.d) : (mulD a b).q = a.q * b.q ∧ 0 < (mulD a b).d := by
  refine ⟨q_of (Int.mul_pos ha hb) ?_, Int.mul_pos ha hb⟩
  rw [Rat.intCast_mul, Rat.intCast_mul, a.hn ha, b.hn hb]
  grind
theorem negD_q {a : RD} (ha : 0 < a.d) : (negD a).q = -a.q ∧ 0 < (negD a).d := by
  refine ⟨q_of ha ?_, ha⟩
  rw [Rat.intCast_neg, a.hn ha]
  grind
theorem addD_q {a b : RD} (ha : 0 < a.d) (hb : 0 < b.d) : (addD a b).q = a.q + b.q ∧ 0 < (addD a b).d := by
  unfold addD
  by_cases h : cmpZ a.d b.d = 0
  · rw [if_pos h]
    have h' := (cmpZ_eq0 _ _).1 h
    refine ⟨q_of ha ?_, ha⟩
    rw [Rat.intCast_add, a.hn ha, b.hn hb, h']
    grind
  · rw [if_neg h]
    refine ⟨q_of (Int.mul_pos ha hb) ?_, Int.mul_pos ha hb⟩
    rw [Rat.intCast_add, Rat.intCast_mul, Rat.intCast_mul, Rat.intCast_mul, a.hn ha, b.hn hb]
    grind
theorem subD_q {a b : RD} (ha : 0 < a.d) (hb : 0 < b.d) : (subD a b).q = a.q - b.q ∧ 0 < (subD a b).d := by
  obtain ⟨h1, h2⟩ := negD_q hb
  obtain ⟨h3, h4⟩ := addD_q ha h2
  exact ⟨by show (addD a (negD b)).q = _; rw [h3, h1]; grind, h4⟩
theorem divD_q {a b : RD} (ha : 0 < a.d) (hb : 0 < b.d) (hn : 0 < b.n) : (divD a b).q = a.q / b.q ∧ 0 < (divD a b).d := by
  have hd : 0 < a.d * b.n := Int.mul_pos ha hn
  have e : divD a b = ⟨a.n * b.d, a.d * b.n⟩ := by
    unfold divD makeD
    rw [if_neg (by have := sign_cases (a.d * b.n); omega)]
  rw [e]
  have hq : b.q ≠ 0 := fun k => by
    have h1 := b.hn hb
    rw [k, Rat.zero_mul] at h1
    have h2 := rat_pos hn
    grind
  refine ⟨q_of hd ?_, hd⟩
  rw [Rat.intCast_mul, Rat.intCast_mul, a.hn ha, b.hn hb]
  have : a.q / b.q * b.q = a.q := Rat.div_mul_cancel hq
  generalize a.q / b.q = x at *
  rw [← this]
  grind
theorem cmpD_q {a b : RD} (ha : 0 < a.d) (hb : 0 < b.d) : cmpD a b = if a.q < b.q then -1 else if b.q < a.q then 1 else 0 := by
  unfold cmpD
  rw [cmpZ_v (q := a.q - b.q) (Int.mul_pos ha hb) (by
    rw [Rat.intCast_sub, Rat.intCast_mul, Rat.intCast_mul, Rat.intCast_mul, a.hn ha, b.hn hb]
    grind)]
  have h1 : a.q - b.q < 0 ↔ a.q < b.q := by constructor <;> intro h <;> grind
  have h2 : 0 < a.q - b.q ↔ b.q < a.q := by constructor <;> intro h <;> grind
  simp only [h1, h2]
theorem cmpD_neg {a b : RD} (ha : 0 < a.d) (hb : 0 < b.d) : cmpD a b < 0 ↔ a.q < b.q := by
  rw [cmpD_q ha hb]
  by_cases h : a.q < b.q
  · simp [h]
  · rw [if_neg h]
    split
    · simp [h]
    · simp [h]
theorem cmpD_nn {a b : RD} (ha : 0 < a.d) (hb : 0 < b.d) : 0 ≤ cmpD a b ↔ b.q ≤ a.q := by
  have := cmpD_neg ha hb
  constructor
  · intro h
    have h2 : ¬ a.q < b.q := fun k => by have := this.2 k; omega
    grind
  · intro h
    have h2 : ¬ cmpD a b < 0 := fun k => by have := this.1 k; grind
    omega
theorem ofD_q (k : Int) : (ofD k).q = (k : Rat) ∧ 0 < (ofD k).d := by
  refine ⟨q_of (by omega) ?_, ?_⟩
  · have : ((1 : Int) : Rat) = 1 := rfl
    rw [this]; grind
  · show (0 : Int) < 1
    omega
theorem sign_pos_q {a : RD} (ha : 0 < a.d) : (0 < a.n ↔ 0 < a.q) ∧ (a.n < 0 ↔ a.q < 0) ∧ (a.n = 0 ↔ a.q = 0) := by
  have h1 := pos_of ha (a.hn ha)
  have h2 := neg_of ha (a.hn ha)
  refine ⟨h1, h2, ?_⟩
  constructor
  · intro h
    have : ¬ 0 < a.q := fun k => by have := h1.2 k; omega
    have : ¬ a.q < 0 := fun k => by have := h2.2 k; omega
    grind
  · intro h
    have : ¬ 0 < a.n := fun k => by have := h1.1 k; grind
    have : ¬ a.n < 0 := fun k => by have := h2.1 k; grind
    omega
theorem mulD_sz (a b : RD) : szR (mulD a b) ≤ szR a + szR b := by
  have h1 := szD_mul a.n b.n
  have h2 := szD_mul a.d b.d
  show szD (a.n * b.n) + szD (a.d * b.d) ≤ _
  unfold szR
  omega
theorem negD_sz (a : RD) : szR (negD a) = szR a := by
  show szD (-a.n) + szD a.d = _
  rw [szD_neg']
  rfl
theorem addD_sz (a b : RD) : szR (addD a b) ≤ 2 * (szR a + szR b) + 1 := by
  have h1 := szD_mul a.n b.d
  have h2 := szD_mul b.n a.d
  have h3 := szD_mul a.d b.d
  have h4 := szD_add (a.n * b.d) (b.n * a.d)
  have h5 := szD_add a.n b.n
  unfold addD szR
  split
  · dsimp only; omega
  · dsimp only; omega
theorem subD_sz (a b : RD) : szR (subD a b) ≤ 2 * (szR a + szR b) + 1 := by
  have := addD_sz a (negD b)
  rw [negD_sz] at this
  exact this
theorem makeD_sz (n d : Int) : szR (makeD n d) = szD n + szD d := by
  unfold makeD szR
  split
  · dsimp only; rw [szD_neg', szD_neg']
  · rfl
theorem divD_sz (a b : RD) : szR (divD a b) ≤ szR a + szR b := by
  have h1 := szD_mul a.n b.d
  have h2 := szD_mul a.d b.n
  unfold divD
  rw [makeD_sz]
  unfold szR
  omega
theorem ofD_sz {k : Int} (h : inI k) : szR (ofD k) ≤ 10 := by
  have h1 := szD_small h
  have h2 := szD_small (z := 1) (by unfold inI; omega)
  show szD k + szD 1 ≤ 10
  omega
open List (map_take map_drop)
attribute [local push_cast] optK_some optK_none optK_ite optK_map optK_bind gOn stepK isMem evPure evMem evBin evUn evConv evLen evBuiltin evMinMax evSlice evBuild evAppend evIndex evIndexAddr evField evFieldAddr intBin strBin appDest AS.val AS.mem AS.elems AS.put AS.put' AS.eff AV.cells? AV.isCell AV.refs all_isByte take_byteV drop_byteV strOf_map bndOk bnd partAV ptrAdd killBox catA inOrder fillA setAt ofVal resB upd byteV List.head?_take List.head?_drop List.getElem?_map mkS_env mkS_box mkS_used entry_env entry_box entry_used lk stepD lookIds Oper.looksAt Op.operands Call.operands St.ids refsL renL_append ren renL renBox Box.refs iV i64V boolV dV_getElem dV_app dV_cons toNat_add2 toNat_add1
attribute [local simp ↓] numC_refs numC_isCell numC_cells numC_resB numC_resD numC_ren numC_closeC numC_isOwn
theorem of03_ok (k : Int) (hk : inI k) : Eval Tryz.prog 44 [i64V k] (.ret (ofD k).av) := by
  have e1 := of02_ok k hk
  have e2 := of02_ok 1 (by unfold inI; omega)
  unfold ofD
  obtain ⟨o, ho⟩ : ∃ o : Int, o = 1 := ⟨_, rfl⟩
  have e2' : Eval Tryz.prog 28 [i64V 1] (.ret (dAV o)) := by rw [ho]; exact e2
  rw [← ho]
  clear e2 ho
  refine Eval.intro Tryz.func44 rfl Tryz.call44 _ _ (Nat.le_of_ble_eq_true rfl) (by simp [-map_take,-map_drop, AV.refs, refsL, natAV, rAV, rC, dAV, dC, d3AV, d3C, ratD, RD.av, push_cast]) fun hs0 => ?_
  repeat' (first
    | with_reducible first | apply thenW_n | apply W_seq
    | with_reducible refine W_rg ?_
    | (rw [vcn]; (try simp [-map_take,-map_drop, push_cast, RD.av, ratD, dC, rC, numC, ← tens.eq_1, dAV]))
    | fail)
  refine CallG_of (e1) rfl rfl rfl ?_
  try dsimp only
  repeat' (first
    | (rw [vcn]; (try simp [-map_take,-map_drop, push_cast, RD.av, ratD, dC, rC, numC, ← tens.eq_1, dAV]))
    | fail)
  refine CallG_of (e2') rfl rfl rfl ?_
  try dsimp only
  repeat' (first
    | with_reducible first | apply thenW_n | apply W_ret
    | (rw [vcn]; (try simp [-map_take,-map_drop, push_cast, RD.av, ratD, dC, rC, numC, ← tens.eq_1, dAV]))
    | fail)
  simp [-map_take,-map_drop, post, resAV, resAll, resOne, closeV, closeC, closeL, resD, resDL, push_cast, RD.av, ratD, dC, rC, numC, ← tens.eq_1, dAV]
theorem mul03_ok (a b : RD) (h : szR a + szR b ≤ 20000000) : Eval Tryz.prog 46 [a.av, b.av] (.ret (mulD a b).av) := by
  unfold szR at h
  have e1 := mul02_ok a.n b.n (by show szD a.n + szD b.n ≤ _; omega)
  have e2 := mul02_ok a.d b.d (by show szD a.d + szD b.d ≤ _; omega)
  unfold mulD
  obtain ⟨p, nm_⟩ : ∃ nm0_, nm0_ = a.n * b.n := ⟨_, rfl⟩
  simp only [← nm_] at e1 ⊢
  clear nm_
  obtain ⟨q, nm_⟩ : ∃ nm0_, nm0_ = a.d * b.d := ⟨_, rfl⟩
  simp only [← nm_] at e2 ⊢
  clear nm_
  refine Eval.intro Tryz.func46 rfl Tryz.call46 _ _ (Nat.le_of_ble_eq_true rfl) (by simp [-map_take,-map_drop, AV.refs, refsL, natAV, rAV, rC, dAV, dC, d3AV, d3C, ratD, RD.av, push_cast]) fun hs0 => ?_
  repeat' (first
    | with_reducible first | apply thenW_n | apply W_seq
    | with_reducible refine W_rg ?_
    | (rw [vcn]; (try simp [-map_take,-map_drop, push_cast, RD.av, ratD, dC, rC, numC, ← tens.eq_1, dAV]))
    | with_reducible refine W_drawn mixed (by decide) (by kernel_rfl) ?_
    | (rw [vcnD]; (try simp [-map_take,-map_drop, push_cast, RD.av, ratD, dC, rC, numC, ← tens.eq_1, dAV]))
    | fail)
  refine callD_of (e1) rfl rfl rfl ?_
  try dsimp only
  repeat' (first
    | (rw [vcnD]; (try simp [-map_take,-map_drop, push_cast, RD.av, ratD, dC, rC, numC, ← tens.eq_1, dAV]))
    | fail)
  refine callD_of (e2) rfl rfl rfl ?_
  try dsimp only
  repeat' (first
    | with_reducible first | apply thenW_n | apply W_ret
    | (rw [vcnD]; (try simp [-map_take,-map_drop, push_cast, RD.av, ratD, dC, rC, numC, ← tens.eq_1, dAV]))
    | refine And.intro (by first | omega | kernel_rfl) ?_
    | fail)
  simp [-map_take,-map_drop, post, resAV, resAll, resOne, closeV, closeC, closeL, resD, resDL, push_cast, RD.av, ratD, dC, rC, numC, ← tens.eq_1, dAV]
theorem neg03_ok (a : RD) : Eval Tryz.prog 51 [a.av] (.ret (negD a).av) := by
  have e1 := neg02_ok a.n
  unfold negD
  obtain ⟨p, nm_⟩ : ∃ nm0_, nm0_ = -a.n := ⟨_, rfl⟩
  simp only [← nm_] at e1 ⊢
  clear nm_
  refine Eval.intro Tryz.func51 rfl Tryz.call51 _ _ (Nat.le_of_ble_eq_true rfl) (by simp [-map_take,-map_drop, AV.refs, refsL, natAV, rAV, rC, dAV, dC, d3AV, d3C, ratD, RD.av, push_cast]) fun hs0 => ?_
  repeat' (first
    | with_reducible first | apply thenW_n | apply W_seq
    | with_reducible refine W_rg ?_
    | (rw [vcn]; (try simp [-map_take,-map_drop, push_cast, RD.av, ratD, dC, rC, numC, ← tens.eq_1, dAV]))
    | with_reducible refine W_drawn mixed (by decide) (by kernel_rfl) ?_
    | (rw [vcnD]; (try simp [-map_take,-map_drop, push_cast, RD.av, ratD, dC, rC, numC, ← tens.eq_1, dAV]))
    | fail)
  refine callD_of (e1) rfl rfl rfl ?_
  try dsimp only
  repeat' (first
    | with_reducible first | apply thenW_n | apply W_ret
    | (rw [vcnD]; (try simp [-map_take,-map_drop, push_cast, RD.av, ratD, dC, rC, numC, ← tens.eq_1, dAV]))
    | refine And.intro (by first | omega | kernel_rfl) ?_
    | fail)
  simp [-map_take,-map_drop, post, resAV, resAll, resOne, closeV, closeC, closeL, resD, resDL, push_cast, RD.av, ratD, dC, rC, numC, ← tens.eq_1, dAV]
theorem cmp03_ok (a b : RD) (h : szR a + szR b ≤ 20000000) : Eval Tryz.prog 43 [a.av, b.av] (.ret (i64V (cmpD a b))) := by
  unfold szR at h
  have e1 := mul02_ok a.n b.d (by show szD a.n + szD b.d ≤ _; omega)
  have e2 := mul02_ok b.n a.d (by show szD b.n + szD a.d ≤ _; omega)
  have e3 := cmp02_ok (a.n * b.d) (b.n * a.d)
  unfold cmpD
  obtain ⟨p, nm_⟩ : ∃ nm0_, nm0_ = a.n * b.d := ⟨_, rfl⟩
  simp only [← nm_] at e1 e3 ⊢
  clear nm_
  obtain ⟨q, nm_⟩ : ∃ nm0_, nm0_ = b.n * a.d := ⟨_, rfl⟩
  simp only [← nm_] at e2 e3 ⊢
  clear nm_
  obtain ⟨c, nm_⟩ : ∃ nm0_, nm0_ = cmpZ p q := ⟨_, rfl⟩
  simp only [← nm_] at e3 ⊢
  clear nm_
  refine Eval.intro Tryz.func43 rfl Tryz.call43 _ _ (Nat.le_of_ble_eq_true rfl) (by simp [-map_take,-map_drop, AV.refs, refsL, natAV, rAV, rC, dAV, dC, d3AV, d3C, ratD, RD.av, push_cast]) fun hs0 => ?_
  repeat' (first
    | with_reducible first | apply thenW_n | apply W_seq
    | with_reducible refine W_rg ?_
    | (rw [vcn]; (try simp [-map_take,-map_drop, push_cast, RD.av, ratD, dC, rC, numC, ← tens.eq_1, dAV]))
    | with_reducible refine W_drawn mixed (by decide) (by kernel_rfl) ?_
    | (rw [vcnD]; (try simp [-map_take,-map_drop, push_cast, RD.av, ratD, dC, rC, numC, ← tens.eq_1, dAV]))
    | fail)
  refine callD_of (e1) rfl rfl rfl ?_
  try dsimp only
  repeat' (first
    | (rw [vcnD]; (try simp [-map_take,-map_drop, push_cast, RD.av, ratD, dC, rC, numC, ← tens.eq_1, dAV]))
    | fail)
  refine callD_of (e2) rfl rfl rfl ?_
  try dsimp only
  repeat' (first
    | (rw [vcnD]; (try simp [-map_take,-map_drop, push_cast, RD.av, ratD, dC, rC, numC, ← tens.eq_1, dAV]))
    | fail)
  refine callD_of (e3) rfl rfl rfl ?_
  try dsimp only
  repeat' (first
    | with_reducible first | apply thenW_n | apply W_ret
    | (rw [vcnD]; (try simp [-map_take,-map_drop, push_cast, RD.av, ratD, dC, rC, numC, ← tens.eq_1, dAV]))
    | refine And.intro (by first | omega | kernel_rfl) ?_
    | fail)
  simp [-map_take,-map_drop, post, resAV, resAll, resOne, closeV, closeC, closeL, resD, resDL, push_cast, RD.av, ratD, dC, rC, numC, ← tens.eq_1, dAV]
theorem make03_ok (n d : Int) : Eval Tryz.prog 86 [dAV n, dAV d] (.ret (makeD n d).av) := by
  have e1 := neg02_ok n
  have e2 := neg02_ok d
  unfold makeD
  by_cases h : d.sign < 0
  · have g1 : (d.sign < 0) = True := eq_true h
    rw [if_pos h]
    obtain ⟨p, nm_⟩ : ∃ nm0_, nm0_ = -n := ⟨_, rfl⟩
    simp only [← nm_] at e1 ⊢
    clear nm_
    obtain ⟨q, nm_⟩ : ∃ nm0_, nm0_ = -d := ⟨_, rfl⟩
    simp only [← nm_] at e2 ⊢
    clear nm_
    refine Eval.intro Tryz.func86 rfl Tryz.call86 _ _ (Nat.le_of_ble_eq_true rfl) (by simp [-map_take,-map_drop, AV.refs, refsL, natAV, rAV, rC, dAV, dC, d3AV, d3C, ratD, RD.av, push_cast]) fun hs0 => ?_
    repeat' (first
      | with_reducible first | apply thenW_n | apply W_seq
      | with_reducible refine W_rg ?_
      | (rw [vcn]; (try simp [-map_take,-map_drop, push_cast, RD.av, ratD, dC, rC, numC, ← tens.eq_1, dAV, g1]))
      | with_reducible refine W_drawn mixed (by decide) (by kernel_rfl) ?_
      | (rw [vcnD]; (try simp [-map_take,-map_drop, push_cast, RD.av, ratD, dC, rC, numC, ← tens.eq_1, dAV, g1]))
      | (with_reducible refine W_condW ?_; (try simp [-map_take,-map_drop, AS.val, upd, resB, mkS_env, mkS_box, lk, entry_env, condW_true, condW_false, RD.av, ratD, dC, rC, numC, ← tens.eq_1, dAV, g1]))
      | fail)
    refine callD_of (e1) rfl rfl rfl ?_
    try dsimp only
    repeat' (first
      | (rw [vcnD]; (try simp [-map_take,-map_drop, push_cast, RD.av, ratD, dC, rC, numC, ← tens.eq_1, dAV, g1]))
      | fail)
    refine callD_of (e2) rfl rfl rfl ?_
    try dsimp only
    repeat' (first
      | with_reducible first | apply thenW_n | apply thenW_ret | apply W_ret
      | (rw [vcnD]; (try simp [-map_take,-map_drop, push_cast, RD.av, ratD, dC, rC, numC, ← tens.eq_1, dAV, g1]))
      | refine And.intro (by first | omega | kernel_rfl) ?_
      | fail)
    simp [-map_take,-map_drop, post, resAV, resAll, resOne, closeV, closeC, closeL, resD, resDL, push_cast, RD.av, ratD, dC, rC, numC, ← tens.eq_1, dAV]
  · have g1 : (d.sign < 0) = False := eq_false h
    rw [if_neg h]
    refine Eval.intro Tryz.func86 rfl Tryz.call86 _ _ (Nat.le_of_ble_eq_true rfl) (by simp [-map_take,-map_drop, AV.refs, refsL, natAV, rAV, rC, dAV, dC, d3AV, d3C, ratD, RD.av, push_cast]) fun hs0 => ?_
    repeat' (first
      | with_reducible first | apply thenW_n | apply W_seq | apply W_skip | apply W_ret
      | with_reducible refine W_rg ?_
      | (rw [vcn]; (try simp [-map_take,-map_drop, push_cast, RD.av, ratD, dC, rC, numC, ← tens.eq_1, dAV, g1]))
      | (with_reducible refine W_condW ?_; (try simp [-map_take,-map_drop, AS.val, upd, resB, mkS_env, mkS_box, lk, entry_env, condW_true, condW_false, RD.av, ratD, dC, rC, numC, ← tens.eq_1, dAV, g1]))
      | fail)
    simp [-map_take,-map_drop, post, resAV, resAll, resOne, closeV, closeC, closeL, resD, resDL, push_cast, RD.av, ratD, dC, rC, numC, ← tens.eq_1, dAV]
theorem div03_ok (a b : RD) (h : szR a + szR b ≤ 20000000) : Eval Tryz.prog 42 [a.av, b.av] (.ret (divD a b).av) := by
  unfold szR at h
  have e1 := mul02_ok a.n b.d (by show szD a.n + szD b.d ≤ _; omega)
  have e2 := mul02_ok a.d b.n (by show szD a.d + szD b.n ≤ _; omega)
  have e3 := make03_ok (a.n * b.d) (a.d * b.n)
  unfold divD
  obtain ⟨p, nm_⟩ : ∃ nm0_, nm0_ = a.n * b.d := ⟨_, rfl⟩
  simp only [← nm_] at e1 e3 ⊢
  clear nm_
  obtain ⟨q, nm_⟩ : ∃ nm0_, nm0_ = a.d * b.n := ⟨_, rfl⟩
  simp only [← nm_] at e2 e3 ⊢
  clear nm_
  obtain ⟨r, nm_⟩ : ∃ nm0_, nm0_ = makeD p q := ⟨_, rfl⟩
  simp only [← nm_] at e3 ⊢
  clear nm_
  refine Eval.intro Tryz.func42 rfl Tryz.call42 _ _ (Nat.le_of_ble_eq_true rfl) (by simp [-map_take,-map_drop, AV.refs, refsL, natAV, rAV, rC, dAV, dC, d3AV, d3C, ratD, RD.av, push_cast]) fun hs0 => ?_
  repeat' (first
    | with_reducible first | apply thenW_n | apply W_seq
    | with_reducible refine W_rg ?_
    | (rw [vcn]; (try simp [-map_take,-map_drop, push_cast, RD.av, ratD, dC, rC, numC, ← tens.eq_1, dAV]))
    | with_reducible refine W_drawn mixed (by decide) (by kernel_rfl) ?_
    | (rw [vcnD]; (try simp [-map_take,-map_drop, push_cast, RD.av, ratD, dC, rC, numC, ← tens.eq_1, dAV]))
    | fail)
  refine callD_of (e1) rfl rfl rfl ?_
  try dsimp only
  repeat' (first
    | (rw [vcnD]; (try simp [-map_take,-map_drop, push_cast, RD.av, ratD, dC, rC, numC, ← tens.eq_1, dAV]))
    | fail)
  refine callD_of (e2) rfl rfl rfl ?_
  try dsimp only
  repeat' (first
    | (rw [vcnD]; (try simp [-map_take,-map_drop, push_cast, RD.av, ratD, dC, rC, numC, ← tens.eq_1, dAV]))
    | fail)
  refine callD_of (e3) rfl rfl rfl ?_
  try dsimp only
  repeat' (first
    | with_reducible first | apply thenW_n | apply W_ret
    | (rw [vcnD]; (try simp [-map_take,-map_drop, push_cast, RD.av, ratD, dC, rC, numC, ← tens.eq_1, dAV]))
    | refine And.intro (by first | omega | kernel_rfl) ?_
    | fail)
  simp [-map_take,-map_drop, post, resAV, resAll, resOne, closeV, closeC, closeL, resD, resDL, push_cast, RD.av, ratD, dC, rC, numC, ← tens.eq_1, dAV]
theorem add03_ok (a b : RD) (h : szR a + szR b ≤ 9000000) : Eval Tryz.prog 88 [a.av, b.av] (.ret (addD a b).av) := by
  unfold szR at h
  have e0 := cmp02_ok a.d b.d
  have z1 := szD_mul a.n b.d
  have z2 := szD_mul b.n a.d
  unfold addD
  by_cases hc : cmpZ a.d b.d = 0
  · rw [if_pos hc]
    rw [hc] at e0
    have e1 := add02_ok a.n b.n (by show szD a.n + szD b.n ≤ _; omega)
    obtain ⟨p, nm_⟩ : ∃ nm0_, nm0_ = a.n + b.n := ⟨_, rfl⟩
    simp only [← nm_] at e1 ⊢
    clear nm_
    refine Eval.intro Tryz.func88 rfl Tryz.call88 _ _ (Nat.le_of_ble_eq_true rfl) (by simp [-map_take,-map_drop, AV.refs, refsL, natAV, rAV, rC, dAV, dC, d3AV, d3C, ratD, RD.av, push_cast]) fun hs0 => ?_
    repeat' (first
      | with_reducible first | apply thenW_n | apply W_seq
      | with_reducible refine W_rg ?_
      | (rw [vcn]; (try simp [-map_take,-map_drop, push_cast, RD.av, ratD, dC, rC, numC, ← tens.eq_1, dAV]))
      | fail)
    refine CallG_of (e0) rfl rfl rfl ?_
    try dsimp only
    repeat' (first
      | with_reducible first | apply thenW_n | apply W_seq
      | (rw [vcn]; (try simp [-map_take,-map_drop, push_cast, RD.av, ratD, dC, rC, numC, ← tens.eq_1, dAV]))
      | with_reducible refine W_drawn mixed (by decide) (by kernel_rfl) ?_
      | (rw [vcnD]; (try simp [-map_take,-map_drop, push_cast, RD.av, ratD, dC, rC, numC, ← tens.eq_1, dAV]))
      | (with_reducible refine W_condW ?_; (try simp [-map_take,-map_drop, AS.val, upd, resB, mkS_env, mkS_box, lk, entry_env, condW_true, condW_false, RD.av, ratD, dC, rC, numC, ← tens.eq_1, dAV]))
      | fail)
    refine callD_of (e1) rfl rfl rfl ?_
    try dsimp only
    repeat' (first
      | with_reducible first | apply thenW_n | apply thenW_ret | apply W_ret
      | (rw [vcnD]; (try simp [-map_take,-map_drop, push_cast, RD.av, ratD, dC, rC, numC, ← tens.eq_1, dAV]))
      | refine And.intro (by first | omega | kernel_rfl) ?_
      | fail)
    simp [-map_take,-map_drop, post, resAV, resAll, resOne, closeV, closeC, closeL, resD, resDL, push_cast, RD.av, ratD, dC, rC, numC, ← tens.eq_1, dAV]
  · rw [if_neg hc]
    have e1 := mul02_ok a.n b.d (by show szD a.n + szD b.d ≤ _; omega)
    have e2 := mul02_ok b.n a.d (by show szD b.n + szD a.d ≤ _; omega)
    have e3 := add02_ok (a.n * b.d) (b.n * a.d) (by show szD (a.n * b.d) + szD (b.n * a.d) ≤ _; omega)
    have e4 := mul02_ok a.d b.d (by show szD a.d + szD b.d ≤ _; omega)
    obtain ⟨p, nm_⟩ : ∃ nm0_, nm0_ = a.n * b.d := ⟨_, rfl⟩
    simp only [← nm_] at e1 e3 ⊢
    clear nm_
    obtain ⟨q, nm_⟩ : ∃ nm0_, nm0_ = b.n * a.d := ⟨_, rfl⟩
    simp only [← nm_] at e2 e3 ⊢
    clear nm_
    obtain ⟨r, nm_⟩ : ∃ nm0_, nm0_ = p + q := ⟨_, rfl⟩
    simp only [← nm_] at e3 ⊢
    clear nm_
    obtain ⟨t, nm_⟩ : ∃ nm0_, nm0_ = a.d * b.d := ⟨_, rfl⟩
    simp only [← nm_] at e4 ⊢
    clear nm_
    obtain ⟨c, nm_⟩ : ∃ nm0_, nm0_ = cmpZ a.d b.d := ⟨_, rfl⟩
    simp only [← nm_] at e0 hc
    clear nm_
    have g1 : (c = 0) = False := eq_false hc
    have g2 : (c == 0) = false := beq_eq_false_iff_ne.2 hc
    refine Eval.intro Tryz.func88 rfl Tryz.call88 _ _ (Nat.le_of_ble_eq_true rfl) (by simp [-map_take,-map_drop, AV.refs, refsL, natAV, rAV, rC, dAV, dC, d3AV, d3C, ratD, RD.av, push_cast]) fun hs0 => ?_
    repeat' (first
      | with_reducible first | apply thenW_n | apply W_seq
      | with_reducible refine W_rg ?_
      | (rw [vcn]; (try simp [-map_take,-map_drop, push_cast, RD.av, ratD, dC, rC, numC, ← tens.eq_1, dAV, g1, g2]))
      | fail)
    refine CallG_of (e0) rfl rfl rfl ?_
    try dsimp only
    repeat' (first
      | with_reducible first | apply thenW_n | apply W_seq | apply W_skip
      | (rw [vcn]; (try simp [-map_take,-map_drop, push_cast, RD.av, ratD, dC, rC, numC, ← tens.eq_1, dAV, g1, g2]))
      | with_reducible refine W_drawn mixed (by decide) (by kernel_rfl) ?_
      | (rw [vcnD]; (try simp [-map_take,-map_drop, push_cast, RD.av, ratD, dC, rC, numC, ← tens.eq_1, dAV, g1, g2]))
      | (with_reducible refine W_condW ?_; (try simp [-map_take,-map_drop, AS.val, upd, resB, mkS_env, mkS_box, lk, entry_env, condW_true, condW_false, RD.av, ratD, dC, rC, numC, ← tens.eq_1, dAV, g1, g2]))
      | fail)
    refine callD_of (e1) rfl rfl rfl ?_
    try dsimp only
    repeat' (first
      | (rw [vcnD]; (try simp [-map_take,-map_drop, push_cast, RD.av, ratD, dC, rC, numC, ← tens.eq_1, dAV, g1, g2]))
      | fail)
    refine callD_of (e2) rfl rfl rfl ?_
    try dsimp only
    repeat' (first
      | (rw [vcnD]; (try simp [-map_take,-map_drop, push_cast, RD.av, ratD, dC, rC, numC, ← tens.eq_1, dAV, g1, g2]))
      | fail)
    refine callD_of (e3) rfl rfl rfl ?_
    try dsimp only
    repeat' (first
      | (rw [vcnD]; (try simp [-map_take,-map_drop, push_cast, RD.av, ratD, dC, rC, numC, ← tens.eq_1, dAV, g1, g2]))
      | fail)
    refine callD_of (e4) rfl rfl rfl ?_
    try dsimp only
    repeat' (first
      | with_reducible first | apply thenW_n | apply W_ret
      | (rw [vcnD]; (try simp [-map_take,-map_drop, push_cast, RD.av, ratD, dC, rC, numC, ← tens.eq_1, dAV, g1, g2]))
      | refine And.intro (by first | omega | kernel_rfl) ?_
      | fail)
    simp [-map_take,-map_drop, post, resAV, resAll, resOne, closeV, closeC, closeL, resD, resDL, push_cast, RD.av, ratD, dC, rC, numC, ← tens.eq_1, dAV]
theorem sub03_ok (a b : RD) (h : szR a + szR b ≤ 9000000) : Eval Tryz.prog 45 [a.av, b.av] (.ret (subD a b).av) := by
  have e1 := neg03_ok b
  have e2 := add03_ok a (negD b) (by rw [negD_sz]; exact h)
  unfold subD
  obtain ⟨p, nm_⟩ : ∃ nm0_, nm0_ = negD b := ⟨_, rfl⟩
  simp only [← nm_] at e1 e2 ⊢
  clear nm_
  obtain ⟨r, nm_⟩ : ∃ nm0_, nm0_ = addD a p := ⟨_, rfl⟩
  simp only [← nm_] at e2 ⊢
  clear nm_
  refine Eval.intro Tryz.func45 rfl Tryz.call45 _ _ (Nat.le_of_ble_eq_true rfl) (by simp [-map_take,-map_drop, AV.refs, refsL, natAV, rAV, rC, dAV, dC, d3AV, d3C, ratD, RD.av, push_cast]) fun hs0 => ?_
  repeat' (first
    | with_reducible first | apply thenW_n | apply W_seq
    | with_reducible refine W_rg ?_
    | (rw [vcn]; (try simp [-map_take,-map_drop, push_cast, RD.av, ratD, dC, rC, numC, ← tens.eq_1, dAV]))
    | with_reducible refine W_drawn mixed (by decide) (by kernel_rfl) ?_
    | (rw [vcnD]; (try simp [-map_take,-map_drop, push_cast, RD.av, ratD, dC, rC, numC, ← tens.eq_1, dAV]))
    | fail)
  refine callD_of (e1) rfl rfl rfl ?_
  try dsimp only
  repeat' (first
    | (rw [vcnD]; (try simp [-map_take,-map_drop, push_cast, RD.av, ratD, dC, rC, numC, ← tens.eq_1, dAV]))
    | fail)
  refine callD_of (e2) rfl rfl rfl ?_
  try dsimp only
  repeat' (first
    | with_reducible first | apply thenW_n | apply W_ret
    | (rw [vcnD]; (try simp [-map_take,-map_drop, push_cast, RD.av, ratD, dC, rC, numC, ← tens.eq_1, dAV]))
    | refine And.intro (by first | omega | kernel_rfl) ?_
    | fail)
  simp [-map_take,-map_drop, post, resAV, resAll, resOne, closeV, closeC, closeL, resD, resDL, push_cast, RD.av, ratD, dC, rC, numC, ← tens.eq_1, dAV]
end Go.Fw
-- VALS: rAV, rC, dAV, dC, d3AV, d3C, ratD, RD.av, DP.av, DP.av2, dpC
namespace Go.Fw
open Go Go.Proofs Go.IntWalk
set_option linter.unusedSimpArgs false
set_option maxRecDepth 100000
set_option maxHeartbeats 20000000
def timesR (a b c : DP) : RD := ⟨timesN a b c, denW a b c⟩
def squareR (p q : DP) : RD := timesR p q q
theorem timesR_q {a b c : DP} (ha : 0 < a.w) (hb : 0 < b.w) (hc : 0 < c.w) : (timesR a b c).q = dot a.v b.v c.v ∧ 0 < (timesR a b c).d :=
  ⟨q_of (denW_pos ha hb hc) (timesN_v ha hb hc), denW_pos ha hb hc⟩
theorem squareR_q {p q : DP} (hp : 0 < p.w) (hq : 0 < q.w) : (squareR p q).q = sqD p.v q.v ∧ 0 < (squareR p q).d := by
  obtain ⟨h1, h2⟩ := timesR_q hp hq hq
  exact ⟨by show (timesR p q q).q = _; rw [h1, sqD_dot], h2⟩
theorem timesR_sz (a b c : DP) : szR (timesR a b c) ≤ 10 * (szP3 a + szP3 b + szP3 c) + 5 := by
  have y1 := sz_lessX a b
  have y2 := sz_lessY a b
  have y3 := sz_lessX a c
  have y4 := sz_lessY a c
  have z1 := szD_mul (lessX a b) (lessX a c)
  have z2 := szD_mul (lessY a b) (lessY a c)
  have z3 := szD_add (lessX a b * lessX a c) (lessY a b * lessY a c)
  have z7 := szD_mul a.w a.w
  have z8 := szD_mul b.w c.w
  have z9 := szD_mul (a.w * a.w) (b.w * c.w)
  have zw : ∀ q : DP, szD q.w ≤ szP3 q := fun q => by unfold szP3; omega
  have u1 := zw a
  have u2 := zw b
  have u3 := zw c
  show szD (timesN a b c) + szD (denW a b c) ≤ _
  unfold timesN denW
  omega
theorem squareR_sz (p q : DP) : szR (squareR p q) ≤ 20 * (szP3 p + szP3 q) + 5 := by
  have := timesR_sz p q q
  show szR (timesR p q q) ≤ _
  omega
def partR (a b p : DP) : RD := divD (timesR a b p) (squareR a b)
def toR (a b p : DP) : RD :=
  if (squareR a b).n.sign = 0 then squareR a p
  else if (partR a b p).n.sign ≤ 0 then squareR a p
  else if 0 ≤ cmpD (partR a b p) (ofD 1) then squareR b p
  else subD (squareR a p) (mulD (mulD (partR a b p) (partR a b p)) (squareR a b))
theorem partR_sz (a b p : DP) : szR (partR a b p) ≤ 30 * (szP3 a + szP3 b + szP3 p) + 10 := by
  have h1 := divD_sz (timesR a b p) (squareR a b)
  have h2 := timesR_sz a b p
  have h3 := squareR_sz a b
  unfold partR
  omega
theorem toR_sz (a b p : DP) : szR (toR a b p) ≤ 400 * (szP3 a + szP3 b + szP3 p) + 200 := by
  have h1 := squareR_sz a p
  have h2 := squareR_sz b p
  have h3 := squareR_sz a b
  have h4 := partR_sz a b p
  have h5 := mulD_sz (partR a b p) (partR a b p)
  have h6 := mulD_sz (mulD (partR a b p) (partR a b p)) (squareR a b)
  have h7 := subD_sz (squareR a p) (mulD (mulD (partR a b p) (partR a b p)) (squareR a b))
  unfold toR
  (repeat' split) <;> omega
theorem one_inI : inI 1 := by unfold inI; omega
theorem sqD_nn2 (a b : V2) : 0 ≤ sqD a b := by
  have h1 := sq_nonneg' (b.x - a.x)
  have h2 := sq_nonneg' (b.y - a.y)
  unfold sqD
  grind
theorem sq_zero {a b : V2} (h : sqD a b = 0) : a = b := by
  have h1 := sq_nonneg' (b.x - a.x)
  have h2 := sq_nonneg' (b.y - a.y)
  unfold sqD at h
  refine V2.ext' ?_ ?_
  · by_cases hx : b.x - a.x = 0
    · grind
    · have := sq_pos' hx; grind
  · by_cases hy : b.y - a.y = 0
    · grind
    · have := sq_pos' hy; grind
theorem foot_eq (A B P : V2) {L : Rat} (hL : L = sqD A B) (h0 : L ≠ 0) : sqD A P - dot A B P / L * (dot A B P / L) * L = cross A B P * cross A B P / L := by
  have e1 : dot A B P / L * L = dot A B P := Rat.div_mul_cancel h0
  have e2 : cross A B P * cross A B P / L * L = cross A B P * cross A B P := Rat.div_mul_cancel h0
  have lag : cross A B P * cross A B P + dot A B P * dot A B P = sqD A B * sqD A P := by unfold cross dot sqD; grind
  rw [← hL] at lag
  generalize dot A B P / L = t at *
  generalize cross A B P * cross A B P / L = u at *
  have h1 : (sqD A P - t * t * L - u) * L = 0 := by
    have : (sqD A P - t * t * L - u) * L = L * sqD A P - t * L * (t * L) - u * L := by grind
    rw [this, e1, e2]
    grind
  rcases Rat.mul_eq_zero.1 h1 with h2 | h2
  · grind
  · exact absurd h2 h0
theorem toR_q {a b p : DP} (ha : 0 < a.w) (hb : 0 < b.w) (hp : 0 < p.w) : (toR a b p).q = toD ⟨a.v, b.v⟩ p.v ∧ 0 < (toR a b p).d := by
  obtain ⟨s1, s2⟩ := squareR_q ha hb
  obtain ⟨a1, a2⟩ := squareR_q ha hp
  obtain ⟨b1, b2⟩ := squareR_q hb hp
  obtain ⟨t1, t2⟩ := timesR_q ha hb hp
  have ds : dot b.v a.v p.v = sqD a.v b.v - dot a.v b.v p.v := by unfold dot sqD; grind
  have db : sqD b.v p.v = sqD a.v p.v + sqD a.v b.v - 2 * dot a.v b.v p.v := by unfold dot sqD; grind
  have hnn := sqD_nn2 a.v b.v
  have sz := sign_pos_q s2
  rw [s1] at sz
  unfold toR toD
  dsimp only
  by_cases h0 : (squareR a b).n.sign = 0
  · rw [if_pos h0]
    have h1 : sqD a.v b.v = 0 := sz.2.2.1 (Int.sign_eq_zero_iff_zero.1 h0)
    have h2 := sq_zero h1
    have h3 : dot a.v b.v p.v = 0 := by rw [h2]; unfold dot; grind
    rw [if_neg (by grind)]
    refine ⟨?_, a2⟩
    rw [a1, db, h1, h3]
    grind
  rw [if_neg h0]
  have hL0 : sqD a.v b.v ≠ 0 := fun k => h0 (Int.sign_eq_zero_iff_zero.2 (sz.2.2.2 k))
  have hLp : 0 < sqD a.v b.v := by grind
  obtain ⟨p1, p2⟩ := divD_q t2 s2 (sz.1.2 hLp)
  have pe : divD (timesR a b p) (squareR a b) = partR a b p := rfl
  rw [pe, t1, s1] at p1
  rw [pe] at p2
  have pm : (partR a b p).q * sqD a.v b.v = dot a.v b.v p.v := by rw [p1]; exact Rat.div_mul_cancel hL0
  have pz := sign_pos_q p2
  by_cases h1 : (partR a b p).n.sign ≤ 0
  · rw [if_pos h1]
    have h2 : ¬ 0 < (partR a b p).q := fun k => by have := pz.1.2 k; have := sign_cases (partR a b p).n; omega
    have h3 : ¬ 0 < dot a.v b.v p.v := fun k => by
      rw [← pm] at k
      exact h2 ((Rat.mul_pos_iff_of_pos_right hLp).1 k)
    rw [if_neg (fun k => h3 k.1)]
    refine ⟨?_, a2⟩
    rw [a1, db]
    grind
  rw [if_neg h1]
  have h2 : 0 < (partR a b p).q := pz.1.1 (by have := sign_cases (partR a b p).n; omega)
  have hdp : 0 < dot a.v b.v p.v := by rw [← pm]; exact Rat.mul_pos h2 hLp
  obtain ⟨o1, o2⟩ := ofD_q 1
  have o3 : (ofD 1).q = 1 := o1
  by_cases h3 : 0 ≤ cmpD (partR a b p) (ofD 1)
  · rw [if_pos h3]
    have h4 : 1 ≤ (partR a b p).q := by have := (cmpD_nn p2 o2).1 h3; rwa [o3] at this
    have h5 : sqD a.v b.v ≤ dot a.v b.v p.v := by
      rw [← pm]
      have := Rat.mul_le_mul_of_nonneg_right h4 (c := sqD a.v b.v) (by grind)
      grind
    rw [if_neg (by grind)]
    refine ⟨?_, b2⟩
    rw [b1, db]
    grind
  · rw [if_neg h3]
    have h4 : (partR a b p).q < 1 := by
      have h5 := cmpD_nn p2 o2
      rw [o3] at h5
      have : ¬ 1 ≤ (partR a b p).q := fun k => h3 (h5.2 k)
      grind
    have h5 : dot a.v b.v p.v < sqD a.v b.v := by
      rw [← pm]
      have := Rat.mul_lt_mul_of_pos_right h4 hLp
      grind
    rw [if_pos ⟨hdp, by grind⟩]
    obtain ⟨m1, m2⟩ := mulD_q p2 p2
    obtain ⟨m3, m4⟩ := mulD_q m2 s2
    obtain ⟨m5, m6⟩ := subD_q a2 m4
    refine ⟨?_, m6⟩
    rw [m5, m3, m1, a1, s1, p1]
    exact foot_eq a.v b.v p.v rfl hL0
def lesserD (a b : RD) : RD := if cmpD b a < 0 then b else a
theorem lesserD_q {a b : RD} (ha : 0 < a.d) (hb : 0 < b.d) : (lesserD a b).q = min a.q b.q ∧ 0 < (lesserD a b).d := by
  unfold lesserD
  by_cases h : cmpD b a < 0
  · rw [if_pos h]
    have := (cmpD_neg hb ha).1 h
    exact ⟨by grind, hb⟩
  · rw [if_neg h]
    have : ¬ b.q < a.q := fun k => h ((cmpD_neg hb ha).2 k)
    exact ⟨by grind, ha⟩
theorem lesserD_sz (a b : RD) : szR (lesserD a b) ≤ szR a + szR b := by unfold lesserD; split <;> omega
def leastR (a b c d : DP) : RD := if meetR a b c d ≠ [] then ofD 0 else lesserD (lesserD (toR a b c) (toR a b d)) (lesserD (toR c d a) (toR c d b))
theorem leastR_q {a b c d : DP} (ha : 0 < a.w) (hb : 0 < b.w) (hc : 0 < c.w) (hd : 0 < d.w) : (leastR a b c d).q = leastD ⟨a.v, b.v⟩ ⟨c.v, d.v⟩ ∧ 0 < (leastR a b c d).d := by
  have hm := (meetR_v ha hb hc hd).1
  unfold leastR leastD
  rw [← hm]
  by_cases h : meetR a b c d ≠ []
  · rw [if_pos h, if_pos (by simpa using h)]
    exact ofD_q 0
  · rw [if_neg h, if_neg (by simpa using h)]
    obtain ⟨t1, u1⟩ := toR_q ha hb hc
    obtain ⟨t2, u2⟩ := toR_q ha hb hd
    obtain ⟨t3, u3⟩ := toR_q hc hd ha
    obtain ⟨t4, u4⟩ := toR_q hc hd hb
    obtain ⟨l1, v1⟩ := lesserD_q u1 u2
    obtain ⟨l2, v2⟩ := lesserD_q u3 u4
    obtain ⟨l3, v3⟩ := lesserD_q v1 v2
    exact ⟨by rw [l3, l1, l2, t1, t2, t3, t4], v3⟩
theorem leastR_sz (a b c d : DP) : szR (leastR a b c d) ≤ 1200 * (szP3 a + szP3 b + szP3 c + szP3 d) + 800 := by
  have h1 := toR_sz a b c
  have h2 := toR_sz a b d
  have h3 := toR_sz c d a
  have h4 := toR_sz c d b
  have h5 := lesserD_sz (toR a b c) (toR a b d)
  have h6 := lesserD_sz (toR c d a) (toR c d b)
  have h7 := lesserD_sz (lesserD (toR a b c) (toR a b d)) (lesserD (toR c d a) (toR c d b))
  have h8 := ofD_sz (k := 0) (by unfold inI; omega)
  unfold leastR
  split <;> omega
def mostR (a b c d : DP) : RD := negD (lesserD (lesserD (negD (squareR a c)) (negD (squareR a d))) (lesserD (negD (squareR b c)) (negD (squareR b d))))
theorem mostR_q {a b c d : DP} (ha : 0 < a.w) (hb : 0 < b.w) (hc : 0 < c.w) (hd : 0 < d.w) : (mostR a b c d).q = max (max (sqD a.v c.v) (sqD a.v d.v)) (max (sqD b.v c.v) (sqD b.v d.v)) ∧ 0 < (mostR a b c d).d := by
  obtain ⟨t1, u1⟩ := squareR_q ha hc
  obtain ⟨t2, u2⟩ := squareR_q ha hd
  obtain ⟨t3, u3⟩ := squareR_q hb hc
  obtain ⟨t4, u4⟩ := squareR_q hb hd
  obtain ⟨n1, w1⟩ := negD_q u1
  obtain ⟨n2, w2⟩ := negD_q u2
  obtain ⟨n3, w3⟩ := negD_q u3
  obtain ⟨n4, w4⟩ := negD_q u4
  obtain ⟨l1, v1⟩ := lesserD_q w1 w2
  obtain ⟨l2, v2⟩ := lesserD_q w3 w4
  obtain ⟨l3, v3⟩ := lesserD_q v1 v2
  obtain ⟨l4, v4⟩ := negD_q v3
  refine ⟨?_, v4⟩
  show (negD _).q = _
  rw [l4, l3, l1, l2, n1, n2, n3, n4, t1, t2, t3, t4]
  grind
theorem mostR_sz (a b c d : DP) : szR (mostR a b c d) ≤ 100 * (szP3 a + szP3 b + szP3 c + szP3 d) + 100 := by
  have h1 := squareR_sz a c
  have h2 := squareR_sz a d
  have h3 := squareR_sz b c
  have h4 := squareR_sz b d
  have h5 := lesserD_sz (negD (squareR a c)) (negD (squareR a d))
  have h6 := lesserD_sz (negD (squareR b c)) (negD (squareR b d))
  have h7 := lesserD_sz (lesserD (negD (squareR a c)) (negD (squareR a d))) (lesserD (negD (squareR b c)) (negD (squareR b d)))
  have n1 := negD_sz (squareR a c)
  have n2 := negD_sz (squareR a d)
  have n3 := negD_sz (squareR b c)
  have n4 := negD_sz (squareR b d)
  have n5 := negD_sz (lesserD (lesserD (negD (squareR a c)) (negD (squareR a d))) (lesserD (negD (squareR b c)) (negD (squareR b d))))
  unfold mostR
  omega
def closerR (a b c d : DP) (n : Int) : Bool :=
  decide (0 < n) && (!(cmp3 a b == 0 && cmp3 c d == 0 && (leastR a b c d).n.sign == 0) && decide (cmpD (leastR a b c d) (mulD (ofD n) (ofD n)) < 0))
theorem closerR_iff {a b c d : DP} (ha : 0 < a.w) (hb : 0 < b.w) (hc : 0 < c.w) (hd : 0 < d.w) (n : Int) : closerR a b c d n = true ↔ closerD ⟨a.v, b.v⟩ ⟨c.v, d.v⟩ n := by
  obtain ⟨l1, l2⟩ := leastR_q ha hb hc hd
  obtain ⟨o1, o2⟩ := ofD_q n
  obtain ⟨m1, m2⟩ := mulD_q o2 o2
  have sz := (sign_pos_q l2).2.2
  unfold closerR closerD
  rw [Bool.and_eq_true, Bool.and_eq_true, decide_eq_true_eq, decide_eq_true_eq, cmpD_neg l2 m2, m1, o1, l1, Bool.not_eq_true', Bool.and_eq_false_iff, Bool.and_eq_false_iff, beq_eq_false_iff_ne, beq_eq_false_iff_ne, beq_eq_false_iff_ne, Ne, Ne, Ne, cmp3_zero ha hb, cmp3_zero hc hd, Int.sign_eq_zero_iff_zero, sz, l1]
  refine and_congr_right fun hn => ?_
  have hnq : (0 : Rat) < (n : Rat) * (n : Rat) := Rat.mul_pos (rat_pos hn) (rat_pos hn)
  by_cases h0 : leastD ⟨a.v, b.v⟩ ⟨c.v, d.v⟩ = 0
  · rw [if_pos h0, h0]
    constructor
    · rintro ⟨h1, _⟩
      rcases h1 with h1 | h1
      · exact h1
      · exact absurd rfl h1
    · intro h1
      exact ⟨.inl h1, hnq⟩
  · rw [if_neg h0]
    exact ⟨fun h => h.2, fun h => ⟨.inr h0, h⟩⟩
open List (map_take map_drop)
attribute [local push_cast] optK_some optK_none optK_ite optK_map optK_bind gOn stepK isMem evPure evMem evBin evUn evConv evLen evBuiltin evMinMax evSlice evBuild evAppend evIndex evIndexAddr evField evFieldAddr intBin strBin appDest AS.val AS.mem AS.elems AS.put AS.put' AS.eff AV.cells? AV.isCell AV.refs all_isByte take_byteV drop_byteV strOf_map bndOk bnd partAV ptrAdd killBox catA inOrder fillA setAt ofVal resB upd byteV List.head?_take List.head?_drop List.getElem?_map mkS_env mkS_box mkS_used entry_env entry_box entry_used lk stepD lookIds Oper.looksAt Op.operands Call.operands St.ids refsL renL_append ren renL renBox Box.refs iV i64V boolV dV_getElem dV_app dV_cons toNat_add2 toNat_add1
attribute [local simp ↓] numC_refs numC_isCell numC_cells numC_resB numC_resD numC_ren numC_closeC numC_isOwn
theorem times11R_ok (a b c : DP) (h : szP3 a + szP3 b + szP3 c ≤ 100000) : Eval Tryz.prog 36 [a.av, b.av, c.av] (.ret (timesR a b c).av) := times11_ok a b c h
theorem square12_ok (p q : DP) (h : szP3 p + szP3 q ≤ 30000) : Eval Tryz.prog 13 [p.av, q.av] (.ret (squareR p q).av) := by
  have e1 := times11R_ok p q q (by omega)
  unfold squareR
  obtain ⟨r, nm_⟩ : ∃ nm0_, nm0_ = timesR p q q := ⟨_, rfl⟩
  simp only [← nm_] at e1 ⊢
  clear nm_
  clear h
  refine Eval.intro Tryz.func13 rfl Tryz.call13 _ _ (Nat.le_of_ble_eq_true rfl) (by simp [-map_take,-map_drop, AV.refs, refsL, natAV, rAV, rC, dAV, dC, d3AV, d3C, ratD, RD.av, DP.av, DP.av2, dpC, push_cast]) fun hs0 => ?_
  repeat' (first
    | with_reducible first | apply thenW_n | apply W_seq
    | with_reducible refine W_rg ?_
    | (rw [vcn]; (try simp [-map_take,-map_drop, push_cast, DP.av2, DP.av, d3AV, d3C, RD.av, ratD, dC, rC, numC, ← tens.eq_1, dAV]))
    | fail)
  refine CallG_of (e1) rfl rfl rfl ?_
  try dsimp only
  repeat' (first
    | with_reducible first | apply thenW_n | apply W_ret
    | (rw [vcn]; (try simp [-map_take,-map_drop, push_cast, DP.av2, DP.av, d3AV, d3C, RD.av, ratD, dC, rC, numC, ← tens.eq_1, dAV]))
    | fail)
  simp [-map_take,-map_drop, post, resAV, resAll, resOne, closeV, closeC, closeL, resD, resDL, push_cast, DP.av2, DP.av, d3AV, d3C, RD.av, ratD, dC, rC, numC, ← tens.eq_1, dAV]
theorem to12_ok (a b p : DP) (h : szP3 a + szP3 b + szP3 p ≤ 10000) : Eval Tryz.prog 15 [DP.av2 a b, p.av] (.ret (toR a b p).av) := by
  have e1 := square12_ok a b (by omega)
  have e2 := square12_ok a p (by omega)
  have z2 := timesR_sz a b p
  have z3 := squareR_sz a b
  have z4 := partR_sz a b p
  have z5 := squareR_sz a p
  unfold toR
  by_cases h0 : (squareR a b).n.sign = 0
  · rw [if_pos h0]
    obtain ⟨L, nm_⟩ : ∃ nm0_, nm0_ = squareR a b := ⟨_, rfl⟩
    simp only [← nm_] at e1 h0
    clear nm_
    obtain ⟨R, nm_⟩ : ∃ nm0_, nm0_ = squareR a p := ⟨_, rfl⟩
    simp only [← nm_] at e2 ⊢
    clear nm_
    have g1 : (L.n.sign = 0) = True := eq_true h0
    have g2 : (L.n.sign == 0) = true := beq_iff_eq.2 h0
    clear h h0 z2 z3 z4 z5
    refine Eval.intro Tryz.func15 rfl Tryz.call15 _ _ (Nat.le_of_ble_eq_true rfl) (by simp [-map_take,-map_drop, AV.refs, refsL, natAV, rAV, rC, dAV, dC, d3AV, d3C, ratD, RD.av, DP.av, DP.av2, dpC, push_cast]) fun hs0 => ?_
    repeat' (first
      | with_reducible first | apply thenW_n | apply W_seq
      | with_reducible refine W_rg ?_
      | (rw [vcn]; (try simp [-map_take,-map_drop, push_cast, DP.av2, DP.av, d3AV, d3C, RD.av, ratD, dC, rC, numC, ← tens.eq_1, dAV, g1, g2]))
      | fail)
    refine CallG_of (e1) rfl rfl rfl ?_
    try dsimp only
    repeat' (first
      | with_reducible first | apply thenW_n | apply W_seq
      | with_reducible refine W_rg ?_
      | (rw [vcn]; (try simp [-map_take,-map_drop, push_cast, DP.av2, DP.av, d3AV, d3C, RD.av, ratD, dC, rC, numC, ← tens.eq_1, dAV, g1, g2]))
      | (with_reducible refine W_condW ?_; (try simp [-map_take,-map_drop, AS.val, upd, resB, mkS_env, mkS_box, lk, entry_env, condW_true, condW_false, DP.av2, DP.av, d3AV, d3C, RD.av, ratD, dC, rC, numC, ← tens.eq_1, dAV, g1, g2]))
      | fail)
    refine CallG_of (e2) rfl rfl rfl ?_
    try dsimp only
    repeat' (first
      | with_reducible first | apply thenW_n | apply thenW_ret | apply W_ret
      | (rw [vcn]; (try simp [-map_take,-map_drop, push_cast, DP.av2, DP.av, d3AV, d3C, RD.av, ratD, dC, rC, numC, ← tens.eq_1, dAV, g1, g2]))
      | fail)
    simp [-map_take,-map_drop, post, resAV, resAll, resOne, closeV, closeC, closeL, resD, resDL, push_cast, DP.av2, DP.av, d3AV, d3C, RD.av, ratD, dC, rC, numC, ← tens.eq_1, dAV]
  rw [if_neg h0]
  have e3 := times11R_ok a b p (by omega)
  have e4 := div03_ok (timesR a b p) (squareR a b) (by omega)
  have pe : divD (timesR a b p) (squareR a b) = partR a b p := rfl
  rw [pe] at e4
  have k1 : ((squareR a b).n.sign = 0) = False := eq_false h0
  have k2 : ((squareR a b).n.sign == 0) = false := beq_eq_false_iff_ne.2 h0
  by_cases h1 : (partR a b p).n.sign ≤ 0
  · rw [if_pos h1]
    have k3 : ((partR a b p).n.sign ≤ 0) = True := eq_true h1
    obtain ⟨P, nm_⟩ : ∃ nm0_, nm0_ = partR a b p := ⟨_, rfl⟩
    simp only [← nm_] at e4 k3
    clear nm_
    obtain ⟨T, nm_⟩ : ∃ nm0_, nm0_ = timesR a b p := ⟨_, rfl⟩
    simp only [← nm_] at e3 e4
    clear nm_
    obtain ⟨L, nm_⟩ : ∃ nm0_, nm0_ = squareR a b := ⟨_, rfl⟩
    simp only [← nm_] at e1 e4 k1 k2
    clear nm_
    obtain ⟨R, nm_⟩ : ∃ nm0_, nm0_ = squareR a p := ⟨_, rfl⟩
    simp only [← nm_] at e2 ⊢
    clear nm_
    clear h h0 h1 z2 z3 z4 z5 pe
    refine Eval.intro Tryz.func15 rfl Tryz.call15 _ _ (Nat.le_of_ble_eq_true rfl) (by simp [-map_take,-map_drop, AV.refs, refsL, natAV, rAV, rC, dAV, dC, d3AV, d3C, ratD, RD.av, DP.av, DP.av2, dpC, push_cast]) fun hs0 => ?_
    repeat' (first
      | with_reducible first | apply thenW_n | apply W_seq
      | with_reducible refine W_rg ?_
      | (rw [vcn]; (try simp [-map_take,-map_drop, push_cast, DP.av2, DP.av, d3AV, d3C, RD.av, ratD, dC, rC, numC, ← tens.eq_1, dAV, k1, k2, k3]))
      | fail)
    refine CallG_of (e1) rfl rfl rfl ?_
    try dsimp only
    repeat' (first
      | with_reducible first | apply thenW_n | apply W_seq | apply W_skip
      | with_reducible refine W_rg ?_
      | (rw [vcn]; (try simp [-map_take,-map_drop, push_cast, DP.av2, DP.av, d3AV, d3C, RD.av, ratD, dC, rC, numC, ← tens.eq_1, dAV, k1, k2, k3]))
      | with_reducible refine W_drawn mixed (by decide) (by kernel_rfl) ?_
      | (rw [vcnD]; (try simp [-map_take,-map_drop, push_cast, DP.av2, DP.av, d3AV, d3C, RD.av, ratD, dC, rC, numC, ← tens.eq_1, dAV, k1, k2, k3]))
      | (with_reducible refine W_condW ?_; (try simp [-map_take,-map_drop, AS.val, upd, resB, mkS_env, mkS_box, lk, entry_env, condW_true, condW_false, DP.av2, DP.av, d3AV, d3C, RD.av, ratD, dC, rC, numC, ← tens.eq_1, dAV, k1, k2, k3]))
      | fail)
    refine callD_of (e3) rfl rfl rfl ?_
    try dsimp only
    repeat' (first
      | (rw [vcnD]; (try simp [-map_take,-map_drop, push_cast, DP.av2, DP.av, d3AV, d3C, RD.av, ratD, dC, rC, numC, ← tens.eq_1, dAV, k1, k2, k3]))
      | fail)
    refine callD_of (e4) rfl rfl rfl ?_
    try dsimp only
    repeat' (first
      | with_reducible first | apply thenW_n | apply W_seq
      | with_reducible refine W_rg ?_
      | (rw [vcn]; (try simp [-map_take,-map_drop, push_cast, DP.av2, DP.av, d3AV, d3C, RD.av, ratD, dC, rC, numC, ← tens.eq_1, dAV, k1, k2, k3]))
      | (rw [vcnD]; (try simp [-map_take,-map_drop, push_cast, DP.av2, DP.av, d3AV, d3C, RD.av, ratD, dC, rC, numC, ← tens.eq_1, dAV, k1, k2, k3]))
      | (with_reducible refine W_condW ?_; (try simp [-map_take,-map_drop, AS.val, upd, resB, mkS_env, mkS_box, lk, entry_env, condW_true, condW_false, DP.av2, DP.av, d3AV, d3C, RD.av, ratD, dC, rC, numC, ← tens.eq_1, dAV, k1, k2, k3]))
      | refine And.intro (by first | omega | kernel_rfl) ?_
      | fail)
    refine CallG_of (e2) rfl rfl rfl ?_
    try dsimp only
    repeat' (first
      | with_reducible first | apply thenW_n | apply thenW_ret | apply W_ret
      | (rw [vcn]; (try simp [-map_take,-map_drop, push_cast, DP.av2, DP.av, d3AV, d3C, RD.av, ratD, dC, rC, numC, ← tens.eq_1, dAV, k1, k2, k3]))
      | fail)
    simp [-map_take,-map_drop, post, resAV, resAll, resOne, closeV, closeC, closeL, resD, resDL, push_cast, DP.av2, DP.av, d3AV, d3C, RD.av, ratD, dC, rC, numC, ← tens.eq_1, dAV]
  rw [if_neg h1]
  have k3 : ((partR a b p).n.sign ≤ 0) = False := eq_false h1
  have e5 := of03_ok 1 one_inI
  have zo := ofD_sz one_inI
  have e6 := cmp03_ok (partR a b p) (ofD 1) (by omega)
  by_cases h2 : 0 ≤ cmpD (partR a b p) (ofD 1)
  · rw [if_pos h2]
    have e7 := square12_ok b p (by omega)
    have k4 : (0 ≤ cmpD (partR a b p) (ofD 1)) = True := eq_true h2
    obtain ⟨c, nm_⟩ : ∃ nm0_, nm0_ = cmpD (partR a b p) (ofD 1) := ⟨_, rfl⟩
    simp only [← nm_] at e6 k4
    clear nm_
    obtain ⟨O, nm_⟩ : ∃ nm0_, nm0_ = ofD 1 := ⟨_, rfl⟩
    simp only [← nm_] at e5 e6
    clear nm_
    obtain ⟨P, nm_⟩ : ∃ nm0_, nm0_ = partR a b p := ⟨_, rfl⟩
    simp only [← nm_] at e4 e6 k3
    clear nm_
    obtain ⟨T, nm_⟩ : ∃ nm0_, nm0_ = timesR a b p := ⟨_, rfl⟩
    simp only [← nm_] at e3 e4
    clear nm_
    obtain ⟨L, nm_⟩ : ∃ nm0_, nm0_ = squareR a b := ⟨_, rfl⟩
    simp only [← nm_] at e1 e4 k1 k2
    clear nm_
    obtain ⟨R, nm_⟩ : ∃ nm0_, nm0_ = squareR b p := ⟨_, rfl⟩
    simp only [← nm_] at e7 ⊢
    clear nm_
    clear h h0 h1 h2 z2 z3 z4 z5 zo pe e2
    refine Eval.intro Tryz.func15 rfl Tryz.call15 _ _ (Nat.le_of_ble_eq_true rfl) (by simp [-map_take,-map_drop, AV.refs, refsL, natAV, rAV, rC, dAV, dC, d3AV, d3C, ratD, RD.av, DP.av, DP.av2, dpC, push_cast]) fun hs0 => ?_
    repeat' (first
      | with_reducible first | apply thenW_n | apply W_seq
      | with_reducible refine W_rg ?_
      | (rw [vcn]; (try simp [-map_take,-map_drop, push_cast, DP.av2, DP.av, d3AV, d3C, RD.av, ratD, dC, rC, numC, ← tens.eq_1, dAV, k1, k2, k3, k4]))
      | fail)
    refine CallG_of (e1) rfl rfl rfl ?_
    try dsimp only
    repeat' (first
      | with_reducible first | apply thenW_n | apply W_seq | apply W_skip
      | with_reducible refine W_rg ?_
      | (rw [vcn]; (try simp [-map_take,-map_drop, push_cast, DP.av2, DP.av, d3AV, d3C, RD.av, ratD, dC, rC, numC, ← tens.eq_1, dAV, k1, k2, k3, k4]))
      | with_reducible refine W_drawn mixed (by decide) (by kernel_rfl) ?_
      | (rw [vcnD]; (try simp [-map_take,-map_drop, push_cast, DP.av2, DP.av, d3AV, d3C, RD.av, ratD, dC, rC, numC, ← tens.eq_1, dAV, k1, k2, k3, k4]))
      | (with_reducible refine W_condW ?_; (try simp [-map_take,-map_drop, AS.val, upd, resB, mkS_env, mkS_box, lk, entry_env, condW_true, condW_false, DP.av2, DP.av, d3AV, d3C, RD.av, ratD, dC, rC, numC, ← tens.eq_1, dAV, k1, k2, k3, k4]))
      | fail)
    refine callD_of (e3) rfl rfl rfl ?_
    try dsimp only
    repeat' (first
      | (rw [vcnD]; (try simp [-map_take,-map_drop, push_cast, DP.av2, DP.av, d3AV, d3C, RD.av, ratD, dC, rC, numC, ← tens.eq_1, dAV, k1, k2, k3, k4]))
      | fail)
    refine callD_of (e4) rfl rfl rfl ?_
    try dsimp only
    repeat' (first
      | with_reducible first | apply thenW_n | apply W_seq | apply W_skip
      | with_reducible refine W_rg ?_
      | (rw [vcn]; (try simp [-map_take,-map_drop, push_cast, DP.av2, DP.av, d3AV, d3C, RD.av, ratD, dC, rC, numC, ← tens.eq_1, dAV, k1, k2, k3, k4]))
      | with_reducible refine W_drawn mixed (by decide) (by kernel_rfl) ?_
      | (rw [vcnD]; (try simp [-map_take,-map_drop, push_cast, DP.av2, DP.av, d3AV, d3C, RD.av, ratD, dC, rC, numC, ← tens.eq_1, dAV, k1, k2, k3, k4]))
      | (with_reducible refine W_condW ?_; (try simp [-map_take,-map_drop, AS.val, upd, resB, mkS_env, mkS_box, lk, entry_env, condW_true, condW_false, DP.av2, DP.av, d3AV, d3C, RD.av, ratD, dC, rC, numC, ← tens.eq_1, dAV, k1, k2, k3, k4]))
      | refine And.intro (by first | omega | kernel_rfl) ?_
      | fail)
    refine callD_of (e5) rfl rfl rfl ?_
    try dsimp only
    repeat' (first
      | (rw [vcnD]; (try simp [-map_take,-map_drop, push_cast, DP.av2, DP.av, d3AV, d3C, RD.av, ratD, dC, rC, numC, ← tens.eq_1, dAV, k1, k2, k3, k4]))
      | fail)
    refine callD_of (e6) rfl rfl rfl ?_
    try dsimp only
    repeat' (first
      | with_reducible first | apply thenW_n | apply W_seq
      | with_reducible refine W_rg ?_
      | (rw [vcn]; (try simp [-map_take,-map_drop, push_cast, DP.av2, DP.av, d3AV, d3C, RD.av, ratD, dC, rC, numC, ← tens.eq_1, dAV, k1, k2, k3, k4]))
      | (rw [vcnD]; (try simp [-map_take,-map_drop, push_cast, DP.av2, DP.av, d3AV, d3C, RD.av, ratD, dC, rC, numC, ← tens.eq_1, dAV, k1, k2, k3, k4]))
      | (with_reducible refine W_condW ?_; (try simp [-map_take,-map_drop, AS.val, upd, resB, mkS_env, mkS_box, lk, entry_env, condW_true, condW_false, DP.av2, DP.av, d3AV, d3C, RD.av, ratD, dC, rC, numC, ← tens.eq_1, dAV, k1, k2, k3, k4]))
      | refine And.intro (by first | omega | kernel_rfl) ?_
      | fail)
    refine CallG_of (e7) rfl rfl rfl ?_
    try dsimp only
    repeat' (first
      | with_reducible first | apply thenW_n | apply thenW_ret | apply W_ret
      | (rw [vcn]; (try simp [-map_take,-map_drop, push_cast, DP.av2, DP.av, d3AV, d3C, RD.av, ratD, dC, rC, numC, ← tens.eq_1, dAV, k1, k2, k3, k4]))
      | fail)
    simp [-map_take,-map_drop, post, resAV, resAll, resOne, closeV, closeC, closeL, resD, resDL, push_cast, DP.av2, DP.av, d3AV, d3C, RD.av, ratD, dC, rC, numC, ← tens.eq_1, dAV]
  · rw [if_neg h2]
    have k4 : (0 ≤ cmpD (partR a b p) (ofD 1)) = False := eq_false h2
    have z6 := mulD_sz (partR a b p) (partR a b p)
    have z7 := mulD_sz (mulD (partR a b p) (partR a b p)) (squareR a b)
    have e7 := mul03_ok (partR a b p) (partR a b p) (by omega)
    have e8 := mul03_ok (mulD (partR a b p) (partR a b p)) (squareR a b) (by omega)
    have e9 := sub03_ok (squareR a p) (mulD (mulD (partR a b p) (partR a b p)) (squareR a b)) (by omega)
    obtain ⟨c, nm_⟩ : ∃ nm0_, nm0_ = cmpD (partR a b p) (ofD 1) := ⟨_, rfl⟩
    simp only [← nm_] at e6 k4
    clear nm_
    obtain ⟨O, nm_⟩ : ∃ nm0_, nm0_ = ofD 1 := ⟨_, rfl⟩
    simp only [← nm_] at e5 e6
    clear nm_
    obtain ⟨P, nm_⟩ : ∃ nm0_, nm0_ = partR a b p := ⟨_, rfl⟩
    simp only [← nm_] at e4 e6 e7 e8 e9 k3 ⊢
    clear nm_
    obtain ⟨T, nm_⟩ : ∃ nm0_, nm0_ = timesR a b p := ⟨_, rfl⟩
    simp only [← nm_] at e3 e4
    clear nm_
    obtain ⟨L, nm_⟩ : ∃ nm0_, nm0_ = squareR a b := ⟨_, rfl⟩
    simp only [← nm_] at e1 e4 e8 e9 k1 k2 ⊢
    clear nm_
    obtain ⟨S, nm_⟩ : ∃ nm0_, nm0_ = squareR a p := ⟨_, rfl⟩
    simp only [← nm_] at e2 e9 ⊢
    clear nm_
    obtain ⟨M, nm_⟩ : ∃ nm0_, nm0_ = mulD P P := ⟨_, rfl⟩
    simp only [← nm_] at e7 e8 e9 ⊢
    clear nm_
    obtain ⟨N, nm_⟩ : ∃ nm0_, nm0_ = mulD M L := ⟨_, rfl⟩
    simp only [← nm_] at e8 e9 ⊢
    clear nm_
    obtain ⟨R, nm_⟩ : ∃ nm0_, nm0_ = subD S N := ⟨_, rfl⟩
    simp only [← nm_] at e9 ⊢
    clear nm_
    clear h h0 h1 h2 z2 z3 z4 z5 z6 z7 zo pe
    refine Eval.intro Tryz.func15 rfl Tryz.call15 _ _ (Nat.le_of_ble_eq_true rfl) (by simp [-map_take,-map_drop, AV.refs, refsL, natAV, rAV, rC, dAV, dC, d3AV, d3C, ratD, RD.av, DP.av, DP.av2, dpC, push_cast]) fun hs0 => ?_
    repeat' (first
      | with_reducible first | apply thenW_n | apply W_seq
      | with_reducible refine W_rg ?_
      | (rw [vcn]; (try simp [-map_take,-map_drop, push_cast, DP.av2, DP.av, d3AV, d3C, RD.av, ratD, dC, rC, numC, ← tens.eq_1, dAV, k1, k2, k3, k4]))
      | fail)
    refine CallG_of (e1) rfl rfl rfl ?_
    try dsimp only
    repeat' (first
      | with_reducible first | apply thenW_n | apply W_seq | apply W_skip
      | with_reducible refine W_rg ?_
      | (rw [vcn]; (try simp [-map_take,-map_drop, push_cast, DP.av2, DP.av, d3AV, d3C, RD.av, ratD, dC, rC, numC, ← tens.eq_1, dAV, k1, k2, k3, k4]))
      | with_reducible refine W_drawn mixed (by decide) (by kernel_rfl) ?_
      | (rw [vcnD]; (try simp [-map_take,-map_drop, push_cast, DP.av2, DP.av, d3AV, d3C, RD.av, ratD, dC, rC, numC, ← tens.eq_1, dAV, k1, k2, k3, k4]))
      | (with_reducible refine W_condW ?_; (try simp [-map_take,-map_drop, AS.val, upd, resB, mkS_env, mkS_box, lk, entry_env, condW_true, condW_false, DP.av2, DP.av, d3AV, d3C, RD.av, ratD, dC, rC, numC, ← tens.eq_1, dAV, k1, k2, k3, k4]))
      | fail)
    refine callD_of (e3) rfl rfl rfl ?_
    try dsimp only
    repeat' (first
      | (rw [vcnD]; (try simp [-map_take,-map_drop, push_cast, DP.av2, DP.av, d3AV, d3C, RD.av, ratD, dC, rC, numC, ← tens.eq_1, dAV, k1, k2, k3, k4]))
      | fail)
    refine callD_of (e4) rfl rfl rfl ?_
    try dsimp only
    repeat' (first
      | with_reducible first | apply thenW_n | apply W_seq | apply W_skip
      | with_reducible refine W_rg ?_
      | (rw [vcn]; (try simp [-map_take,-map_drop, push_cast, DP.av2, DP.av, d3AV, d3C, RD.av, ratD, dC, rC, numC, ← tens.eq_1, dAV, k1, k2, k3, k4]))
      | with_reducible refine W_drawn mixed (by decide) (by kernel_rfl) ?_
      | (rw [vcnD]; (try simp [-map_take,-map_drop, push_cast, DP.av2, DP.av, d3AV, d3C, RD.av, ratD, dC, rC, numC, ← tens.eq_1, dAV, k1, k2, k3, k4]))
      | (with_reducible refine W_condW ?_; (try simp [-map_take,-map_drop, AS.val, upd, resB, mkS_env, mkS_box, lk, entry_env, condW_true, condW_false, DP.av2, DP.av, d3AV, d3C, RD.av, ratD, dC, rC, numC, ← tens.eq_1, dAV, k1, k2, k3, k4]))
      | refine And.intro (by first | omega | kernel_rfl) ?_
      | fail)
    refine callD_of (e5) rfl rfl rfl ?_
    try dsimp only
    repeat' (first
      | (rw [vcnD]; (try simp [-map_take,-map_drop, push_cast, DP.av2, DP.av, d3AV, d3C, RD.av, ratD, dC, rC, numC, ← tens.eq_1, dAV, k1, k2, k3, k4]))
      | fail)
    refine callD_of (e6) rfl rfl rfl ?_
    try dsimp only
    repeat' (first
      | with_reducible first | apply thenW_n | apply W_seq | apply W_skip
      | with_reducible refine W_drawn mixed (by decide) (by kernel_rfl) ?_
      | (rw [vcnD]; (try simp [-map_take,-map_drop, push_cast, DP.av2, DP.av, d3AV, d3C, RD.av, ratD, dC, rC, numC, ← tens.eq_1, dAV, k1, k2, k3, k4]))
      | (with_reducible refine W_condW ?_; (try simp [-map_take,-map_drop, AS.val, upd, resB, mkS_env, mkS_box, lk, entry_env, condW_true, condW_false, DP.av2, DP.av, d3AV, d3C, RD.av, ratD, dC, rC, numC, ← tens.eq_1, dAV, k1, k2, k3, k4]))
      | refine And.intro (by first | omega | kernel_rfl) ?_
      | fail)
    refine callD_of (e2) rfl rfl rfl ?_
    try dsimp only
    repeat' (first
      | (rw [vcnD]; (try simp [-map_take,-map_drop, push_cast, DP.av2, DP.av, d3AV, d3C, RD.av, ratD, dC, rC, numC, ← tens.eq_1, dAV, k1, k2, k3, k4]))
      | fail)
    refine callD_of (e7) rfl rfl rfl ?_
    try dsimp only
    repeat' (first
      | (rw [vcnD]; (try simp [-map_take,-map_drop, push_cast, DP.av2, DP.av, d3AV, d3C, RD.av, ratD, dC, rC, numC, ← tens.eq_1, dAV, k1, k2, k3, k4]))
      | fail)
    refine callD_of (e8) rfl rfl rfl ?_
    try dsimp only
    repeat' (first
      | (rw [vcnD]; (try simp [-map_take,-map_drop, push_cast, DP.av2, DP.av, d3AV, d3C, RD.av, ratD, dC, rC, numC, ← tens.eq_1, dAV, k1, k2, k3, k4]))
      | fail)
    refine callD_of (e9) rfl rfl rfl ?_
    try dsimp only
    repeat' (first
      | with_reducible first | apply thenW_n | apply W_ret
      | (rw [vcnD]; (try simp [-map_take,-map_drop, push_cast, DP.av2, DP.av, d3AV, d3C, RD.av, ratD, dC, rC, numC, ← tens.eq_1, dAV, k1, k2, k3, k4]))
      | refine And.intro (by first | omega | kernel_rfl) ?_
      | fail)
    simp [-map_take,-map_drop, post, resAV, resAll, resOne, closeV, closeC, closeL, resD, resDL, push_cast, DP.av2, DP.av, d3AV, d3C, RD.av, ratD, dC, rC, numC, ← tens.eq_1, dAV]
theorem lesser12_ok (a b : RD) (h : szR a + szR b ≤ 20000000) : Eval Tryz.prog 49 [a.av, b.av] (.ret (lesserD a b).av) := by
  have e1 := cmp03_ok b a (by omega)
  unfold lesserD
  by_cases h0 : cmpD b a < 0
  · rw [if_pos h0]
    have k1 : (cmpD b a < 0) = True := eq_true h0
    obtain ⟨c, nm_⟩ : ∃ nm0_, nm0_ = cmpD b a := ⟨_, rfl⟩
    simp only [← nm_] at e1 k1
    clear nm_
    clear h h0
    refine Eval.intro Tryz.func49 rfl Tryz.call49 _ _ (Nat.le_of_ble_eq_true rfl) (by simp [-map_take,-map_drop, AV.refs, refsL, natAV, rAV, rC, dAV, dC, d3AV, d3C, ratD, RD.av, DP.av, DP.av2, dpC, push_cast]) fun hs0 => ?_
    repeat' (first
      | with_reducible first | apply thenW_n | apply W_seq
      | with_reducible refine W_rg ?_
      | (rw [vcn]; (try simp [-map_take,-map_drop, push_cast, DP.av2, DP.av, d3AV, d3C, RD.av, ratD, dC, rC, numC, ← tens.eq_1, dAV, k1]))
      | fail)
    refine CallG_of (e1) rfl rfl rfl ?_
    try dsimp only
    repeat' (first
      | with_reducible first | apply thenW_n | apply thenW_ret | apply W_seq | apply W_ret
      | with_reducible refine W_rg ?_
      | (rw [vcn]; (try simp [-map_take,-map_drop, push_cast, DP.av2, DP.av, d3AV, d3C, RD.av, ratD, dC, rC, numC, ← tens.eq_1, dAV, k1]))
      | (with_reducible refine W_condW ?_; (try simp [-map_take,-map_drop, AS.val, upd, resB, mkS_env, mkS_box, lk, entry_env, condW_true, condW_false, DP.av2, DP.av, d3AV, d3C, RD.av, ratD, dC, rC, numC, ← tens.eq_1, dAV, k1]))
      | fail)
    simp [-map_take,-map_drop, post, resAV, resAll, resOne, closeV, closeC, closeL, resD, resDL, push_cast, DP.av2, DP.av, d3AV, d3C, RD.av, ratD, dC, rC, numC, ← tens.eq_1, dAV]
  · rw [if_neg h0]
    have k1 : (cmpD b a < 0) = False := eq_false h0
    obtain ⟨c, nm_⟩ : ∃ nm0_, nm0_ = cmpD b a := ⟨_, rfl⟩
    simp only [← nm_] at e1 k1
    clear nm_
    clear h h0
    refine Eval.intro Tryz.func49 rfl Tryz.call49 _ _ (Nat.le_of_ble_eq_true rfl) (by simp [-map_take,-map_drop, AV.refs, refsL, natAV, rAV, rC, dAV, dC, d3AV, d3C, ratD, RD.av, DP.av, DP.av2, dpC, push_cast]) fun hs0 => ?_
    repeat' (first
      | with_reducible first | apply thenW_n | apply W_seq
      | with_reducible refine W_rg ?_
      | (rw [vcn]; (try simp [-map_take,-map_drop, push_cast, DP.av2, DP.av, d3AV, d3C, RD.av, ratD, dC, rC, numC, ← tens.eq_1, dAV, k1]))
      | fail)
    refine CallG_of (e1) rfl rfl rfl ?_
    try dsimp only
    repeat' (first
      | with_reducible first | apply thenW_n | apply W_seq | apply W_skip | apply W_ret
      | with_reducible refine W_rg ?_
      | (rw [vcn]; (try simp [-map_take,-map_drop, push_cast, DP.av2, DP.av, d3AV, d3C, RD.av, ratD, dC, rC, numC, ← tens.eq_1, dAV, k1]))
      | (with_reducible refine W_condW ?_; (try simp [-map_take,-map_drop, AS.val, upd, resB, mkS_env, mkS_box, lk, entry_env, condW_true, condW_false, DP.av2, DP.av, d3AV, d3C, RD.av, ratD, dC, rC, numC, ← tens.eq_1, dAV, k1]))
      | fail)
    simp [-map_take,-map_drop, post, resAV, resAll, resOne, closeV, closeC, closeL, resD, resDL, push_cast, DP.av2, DP.av, d3AV, d3C, RD.av, ratD, dC, rC, numC, ← tens.eq_1, dAV]
theorem least12_ok (a b c d : DP) (h : szP3 a + szP3 b + szP3 c + szP3 d ≤ 5000) : Eval Tryz.prog 17 [DP.av2 a b, DP.av2 c d] (.ret (leastR a b c d).av) := by
  have m1 := meet11_ok a b c d (by omega)
  have r1 := dpsC_refs (meetR a b c d)
  have rl := dpsC_len (meetR a b c d)
  unfold leastR
  by_cases h0 : meetR a b c d ≠ []
  · rw [if_pos h0]
    have hn : 0 < (meetR a b c d).length := List.length_pos_iff.2 h0
    have e1 := of03_ok 0 (by unfold inI; omega)
    obtain ⟨n, nm_⟩ : ∃ nm0_, nm0_ = (meetR a b c d).length := ⟨_, rfl⟩
    simp only [← nm_] at m1 hn rl
    clear nm_
    obtain ⟨L, nm_⟩ : ∃ nm0_, nm0_ = dpsC (meetR a b c d) := ⟨_, rfl⟩
    simp only [← nm_] at m1 r1 rl
    clear nm_
    obtain ⟨O, hO⟩ : ∃ O, O = ofD 0 := ⟨_, rfl⟩
    rw [← hO] at e1 ⊢
    have k1 : (0 < n) = True := eq_true hn
    have k2 : ((0 : Int) < (n : Int)) = True := eq_true (by omega)
    clear h h0 hO
    refine Eval.intro Tryz.func17 rfl Tryz.call17 _ _ (Nat.le_of_ble_eq_true rfl) (by simp [-map_take,-map_drop, AV.refs, refsL, natAV, rAV, rC, dAV, dC, d3AV, d3C, ratD, RD.av, DP.av, DP.av2, dpC, push_cast]) fun hs0 => ?_
    repeat' (first
      | with_reducible first | apply thenW_n | apply W_seq
      | with_reducible refine W_rg ?_
      | (rw [vcn]; (try simp [-map_take,-map_drop, push_cast, DP.av2, DP.av, d3AV, d3C, RD.av, ratD, dC, rC, numC, ← tens.eq_1, dAV, k1, k2, r1, rl]))
      | fail)
    refine CallG_of (m1) rfl rfl rfl ?_
    try dsimp only
    repeat' (first
      | with_reducible first | apply thenW_n | apply W_seq
      | with_reducible refine W_rg ?_
      | (rw [vcn]; (try simp [-map_take,-map_drop, push_cast, DP.av2, DP.av, d3AV, d3C, RD.av, ratD, dC, rC, numC, ← tens.eq_1, dAV, k1, k2, r1, rl]))
      | (with_reducible refine W_condW ?_; (try simp [-map_take,-map_drop, AS.val, upd, resB, mkS_env, mkS_box, lk, entry_env, condW_true, condW_false, DP.av2, DP.av, d3AV, d3C, RD.av, ratD, dC, rC, numC, ← tens.eq_1, dAV, k1, k2, r1, rl]))
      | fail)
    refine CallG_of (e1) rfl rfl rfl ?_
    try dsimp only
    repeat' (first
      | with_reducible first | apply thenW_n | apply thenW_ret | apply W_ret
      | (rw [vcn]; (try simp [-map_take,-map_drop, push_cast, DP.av2, DP.av, d3AV, d3C, RD.av, ratD, dC, rC, numC, ← tens.eq_1, dAV, k1, k2, r1, rl]))
      | fail)
    simp [-map_take,-map_drop, post, resAV, resAll, resOne, closeV, closeC, closeL, resD, resDL, push_cast, DP.av2, DP.av, d3AV, d3C, RD.av, ratD, dC, rC, numC, ← tens.eq_1, dAV]
  · rw [if_neg h0]
    have h0 : meetR a b c d = [] := by simpa [-map_take,-map_drop] using h0
    rw [h0] at m1 r1 rl
    have z1 := toR_sz a b c
    have z2 := toR_sz a b d
    have z3 := toR_sz c d a
    have z4 := toR_sz c d b
    have z5 := lesserD_sz (toR a b c) (toR a b d)
    have z6 := lesserD_sz (toR c d a) (toR c d b)
    have e1 := to12_ok a b c (by omega)
    have e2 := to12_ok a b d (by omega)
    have e3 := to12_ok c d a (by omega)
    have e4 := to12_ok c d b (by omega)
    have e5 := lesser12_ok (toR a b c) (toR a b d) (by omega)
    have e6 := lesser12_ok (toR c d a) (toR c d b) (by omega)
    have e7 := lesser12_ok (lesserD (toR a b c) (toR a b d)) (lesserD (toR c d a) (toR c d b)) (by omega)
    obtain ⟨t1, nm_⟩ : ∃ nm0_, nm0_ = toR a b c := ⟨_, rfl⟩
    simp only [← nm_] at e1 e5 e7 ⊢
    clear nm_
    obtain ⟨t2, nm_⟩ : ∃ nm0_, nm0_ = toR a b d := ⟨_, rfl⟩
    simp only [← nm_] at e2 e5 e7 ⊢
    clear nm_
    obtain ⟨t3, nm_⟩ : ∃ nm0_, nm0_ = toR c d a := ⟨_, rfl⟩
    simp only [← nm_] at e3 e6 e7 ⊢
    clear nm_
    obtain ⟨t4, nm_⟩ : ∃ nm0_, nm0_ = toR c d b := ⟨_, rfl⟩
    simp only [← nm_] at e4 e6 e7 ⊢
    clear nm_
    obtain ⟨l1, nm_⟩ : ∃ nm0_, nm0_ = lesserD t1 t2 := ⟨_, rfl⟩
    simp only [← nm_] at e5 e7 ⊢
    clear nm_
    obtain ⟨l2, nm_⟩ : ∃ nm0_, nm0_ = lesserD t3 t4 := ⟨_, rfl⟩
    simp only [← nm_] at e6 e7 ⊢
    clear nm_
    obtain ⟨l3, nm_⟩ : ∃ nm0_, nm0_ = lesserD l1 l2 := ⟨_, rfl⟩
    simp only [← nm_] at e7 ⊢
    clear nm_
    have hL : dpsC [] = [] := rfl
    have hl : ([] : List DP).length = 0 := rfl
    rw [hL, hl] at m1
    clear h h0 z1 z2 z3 z4 z5 z6 hL hl r1 rl
    refine Eval.intro Tryz.func17 rfl Tryz.call17 _ _ (Nat.le_of_ble_eq_true rfl) (by simp [-map_take,-map_drop, AV.refs, refsL, natAV, rAV, rC, dAV, dC, d3AV, d3C, ratD, RD.av, DP.av, DP.av2, dpC, push_cast]) fun hs0 => ?_
    repeat' (first
      | with_reducible first | apply thenW_n | apply W_seq
      | with_reducible refine W_rg ?_
      | (rw [vcn]; (try simp [-map_take,-map_drop, push_cast, DP.av2, DP.av, d3AV, d3C, RD.av, ratD, dC, rC, numC, ← tens.eq_1, dAV]))
      | fail)
    refine CallG_of (m1) rfl rfl rfl ?_
    try dsimp only
    repeat' (first
      | with_reducible first | apply thenW_n | apply W_seq | apply W_skip
      | (rw [vcn]; (try simp [-map_take,-map_drop, push_cast, DP.av2, DP.av, d3AV, d3C, RD.av, ratD, dC, rC, numC, ← tens.eq_1, dAV]))
      | with_reducible refine W_drawn mixed (by decide) (by kernel_rfl) ?_
      | (rw [vcnD]; (try simp [-map_take,-map_drop, push_cast, DP.av2, DP.av, d3AV, d3C, RD.av, ratD, dC, rC, numC, ← tens.eq_1, dAV]))
      | (with_reducible refine W_condW ?_; (try simp [-map_take,-map_drop, AS.val, upd, resB, mkS_env, mkS_box, lk, entry_env, condW_true, condW_false, DP.av2, DP.av, d3AV, d3C, RD.av, ratD, dC, rC, numC, ← tens.eq_1, dAV]))
      | fail)
    refine callD_of (e1) rfl rfl rfl ?_
    try dsimp only
    repeat' (first
      | (rw [vcnD]; (try simp [-map_take,-map_drop, push_cast, DP.av2, DP.av, d3AV, d3C, RD.av, ratD, dC, rC, numC, ← tens.eq_1, dAV]))
      | fail)
    refine callD_of (e2) rfl rfl rfl ?_
    try dsimp only
    repeat' (first
      | (rw [vcnD]; (try simp [-map_take,-map_drop, push_cast, DP.av2, DP.av, d3AV, d3C, RD.av, ratD, dC, rC, numC, ← tens.eq_1, dAV]))
      | fail)
    refine callD_of (e5) rfl rfl rfl ?_
    try dsimp only
    repeat' (first
      | (rw [vcnD]; (try simp [-map_take,-map_drop, push_cast, DP.av2, DP.av, d3AV, d3C, RD.av, ratD, dC, rC, numC, ← tens.eq_1, dAV]))
      | fail)
    refine callD_of (e3) rfl rfl rfl ?_
    try dsimp only
    repeat' (first
      | (rw [vcnD]; (try simp [-map_take,-map_drop, push_cast, DP.av2, DP.av, d3AV, d3C, RD.av, ratD, dC, rC, numC, ← tens.eq_1, dAV]))
      | fail)
    refine callD_of (e4) rfl rfl rfl ?_
    try dsimp only
    repeat' (first
      | (rw [vcnD]; (try simp [-map_take,-map_drop, push_cast, DP.av2, DP.av, d3AV, d3C, RD.av, ratD, dC, rC, numC, ← tens.eq_1, dAV]))
      | fail)
    refine callD_of (e6) rfl rfl rfl ?_
    try dsimp only
    repeat' (first
      | (rw [vcnD]; (try simp [-map_take,-map_drop, push_cast, DP.av2, DP.av, d3AV, d3C, RD.av, ratD, dC, rC, numC, ← tens.eq_1, dAV]))
      | fail)
    refine callD_of (e7) rfl rfl rfl ?_
    try dsimp only
    repeat' (first
      | with_reducible first | apply thenW_n | apply W_ret
      | (rw [vcnD]; (try simp [-map_take,-map_drop, push_cast, DP.av2, DP.av, d3AV, d3C, RD.av, ratD, dC, rC, numC, ← tens.eq_1, dAV]))
      | refine And.intro (by first | omega | kernel_rfl) ?_
      | fail)
    simp [-map_take,-map_drop, post, resAV, resAll, resOne, closeV, closeC, closeL, resD, resDL, push_cast, DP.av2, DP.av, d3AV, d3C, RD.av, ratD, dC, rC, numC, ← tens.eq_1, dAV]
theorem most12_ok (a b c d : DP) (h : szP3 a + szP3 b + szP3 c + szP3 d ≤ 5000) : Eval Tryz.prog 19 [DP.av2 a b, DP.av2 c d] (.ret (mostR a b c d).av) := by
  have z1 := squareR_sz a c
  have z2 := squareR_sz a d
  have z3 := squareR_sz b c
  have z4 := squareR_sz b d
  have n1 := negD_sz (squareR a c)
  have n2 := negD_sz (squareR a d)
  have n3 := negD_sz (squareR b c)
  have n4 := negD_sz (squareR b d)
  have z5 := lesserD_sz (negD (squareR a c)) (negD (squareR a d))
  have z6 := lesserD_sz (negD (squareR b c)) (negD (squareR b d))
  have e1 := square12_ok a c (by omega)
  have e2 := square12_ok a d (by omega)
  have e3 := square12_ok b c (by omega)
  have e4 := square12_ok b d (by omega)
  have f1 := neg03_ok (squareR a c)
  have f2 := neg03_ok (squareR a d)
  have f3 := neg03_ok (squareR b c)
  have f4 := neg03_ok (squareR b d)
  have g1 := lesser12_ok (negD (squareR a c)) (negD (squareR a d)) (by omega)
  have g2 := lesser12_ok (negD (squareR b c)) (negD (squareR b d)) (by omega)
  have g3 := lesser12_ok (lesserD (negD (squareR a c)) (negD (squareR a d))) (lesserD (negD (squareR b c)) (negD (squareR b d))) (by omega)
  have g4 := neg03_ok (lesserD (lesserD (negD (squareR a c)) (negD (squareR a d))) (lesserD (negD (squareR b c)) (negD (squareR b d))))
  unfold mostR
  obtain ⟨n1, nm_⟩ : ∃ nm0_, nm0_ = negD (squareR a c) := ⟨_, rfl⟩
  simp only [← nm_] at f1 g1 g3 g4 ⊢
  clear nm_
  obtain ⟨n2, nm_⟩ : ∃ nm0_, nm0_ = negD (squareR a d) := ⟨_, rfl⟩
  simp only [← nm_] at f2 g1 g3 g4 ⊢
  clear nm_
  obtain ⟨n3, nm_⟩ : ∃ nm0_, nm0_ = negD (squareR b c) := ⟨_, rfl⟩
  simp only [← nm_] at f3 g2 g3 g4 ⊢
  clear nm_
  obtain ⟨n4, nm_⟩ : ∃ nm0_, nm0_ = negD (squareR b d) := ⟨_, rfl⟩
  simp only [← nm_] at f4 g2 g3 g4 ⊢
  clear nm_
  obtain ⟨s1, nm_⟩ : ∃ nm0_, nm0_ = squareR a c := ⟨_, rfl⟩
  simp only [← nm_] at e1 f1
  clear nm_
  obtain ⟨s2, nm_⟩ : ∃ nm0_, nm0_ = squareR a d := ⟨_, rfl⟩
  simp only [← nm_] at e2 f2
  clear nm_
  obtain ⟨s3, nm_⟩ : ∃ nm0_, nm0_ = squareR b c := ⟨_, rfl⟩
  simp only [← nm_] at e3 f3
  clear nm_
  obtain ⟨s4, nm_⟩ : ∃ nm0_, nm0_ = squareR b d := ⟨_, rfl⟩
  simp only [← nm_] at e4 f4
  clear nm_
  obtain ⟨l1, nm_⟩ : ∃ nm0_, nm0_ = lesserD n1 n2 := ⟨_, rfl⟩
  simp only [← nm_] at g1 g3 g4 ⊢
  clear nm_
  obtain ⟨l2, nm_⟩ : ∃ nm0_, nm0_ = lesserD n3 n4 := ⟨_, rfl⟩
  simp only [← nm_] at g2 g3 g4 ⊢
  clear nm_
  obtain ⟨l3, nm_⟩ : ∃ nm0_, nm0_ = lesserD l1 l2 := ⟨_, rfl⟩
  simp only [← nm_] at g3 g4 ⊢
  clear nm_
  obtain ⟨r, nm_⟩ : ∃ nm0_, nm0_ = negD l3 := ⟨_, rfl⟩
  simp only [← nm_] at g4 ⊢
  clear nm_
  clear z1 z2 z3 z4 z5 z6 h
  refine Eval.intro Tryz.func19 rfl Tryz.call19 _ _ (Nat.le_of_ble_eq_true rfl) (by simp [-map_take,-map_drop, AV.refs, refsL, natAV, rAV, rC, dAV, dC, d3AV, d3C, ratD, RD.av, DP.av, DP.av2, dpC, push_cast]) fun hs0 => ?_
  repeat' (first
    | with_reducible first | apply thenW_n | apply W_seq
    | with_reducible refine W_rg ?_
    | (rw [vcn]; (try simp [-map_take,-map_drop, push_cast, DP.av2, DP.av, d3AV, d3C, RD.av, ratD, dC, rC, numC, ← tens.eq_1, dAV]))
    | with_reducible refine W_drawn mixed (by decide) (by kernel_rfl) ?_
    | (rw [vcnD]; (try simp [-map_take,-map_drop, push_cast, DP.av2, DP.av, d3AV, d3C, RD.av, ratD, dC, rC, numC, ← tens.eq_1, dAV]))
    | fail)
  refine callD_of (e1) rfl rfl rfl ?_
  try dsimp only
  repeat' (first
    | (rw [vcnD]; (try simp [-map_take,-map_drop, push_cast, DP.av2, DP.av, d3AV, d3C, RD.av, ratD, dC, rC, numC, ← tens.eq_1, dAV]))
    | fail)
  refine callD_of (e2) rfl rfl rfl ?_
  try dsimp only
  repeat' (first
    | (rw [vcnD]; (try simp [-map_take,-map_drop, push_cast, DP.av2, DP.av, d3AV, d3C, RD.av, ratD, dC, rC, numC, ← tens.eq_1, dAV]))
    | fail)
  refine callD_of (e3) rfl rfl rfl ?_
  try dsimp only
  repeat' (first
    | (rw [vcnD]; (try simp [-map_take,-map_drop, push_cast, DP.av2, DP.av, d3AV, d3C, RD.av, ratD, dC, rC, numC, ← tens.eq_1, dAV]))
    | fail)
  refine callD_of (e4) rfl rfl rfl ?_
  try dsimp only
  repeat' (first
    | with_reducible first | apply thenW_n | apply W_seq
    | with_reducible refine W_drawn mixed (by decide) (by kernel_rfl) ?_
    | (rw [vcnD]; (try simp [-map_take,-map_drop, push_cast, DP.av2, DP.av, d3AV, d3C, RD.av, ratD, dC, rC, numC, ← tens.eq_1, dAV]))
    | refine And.intro (by first | omega | kernel_rfl) ?_
    | fail)
  refine callD_of (f1) rfl rfl rfl ?_
  try dsimp only
  repeat' (first
    | (rw [vcnD]; (try simp [-map_take,-map_drop, push_cast, DP.av2, DP.av, d3AV, d3C, RD.av, ratD, dC, rC, numC, ← tens.eq_1, dAV]))
    | fail)
  refine callD_of (f2) rfl rfl rfl ?_
  try dsimp only
  repeat' (first
    | (rw [vcnD]; (try simp [-map_take,-map_drop, push_cast, DP.av2, DP.av, d3AV, d3C, RD.av, ratD, dC, rC, numC, ← tens.eq_1, dAV]))
    | fail)
  refine callD_of (g1) rfl rfl rfl ?_
  try dsimp only
  repeat' (first
    | (rw [vcnD]; (try simp [-map_take,-map_drop, push_cast, DP.av2, DP.av, d3AV, d3C, RD.av, ratD, dC, rC, numC, ← tens.eq_1, dAV]))
    | fail)
  refine callD_of (f3) rfl rfl rfl ?_
  try dsimp only
  repeat' (first
    | (rw [vcnD]; (try simp [-map_take,-map_drop, push_cast, DP.av2, DP.av, d3AV, d3C, RD.av, ratD, dC, rC, numC, ← tens.eq_1, dAV]))
    | fail)
  refine callD_of (f4) rfl rfl rfl ?_
  try dsimp only
  repeat' (first
    | (rw [vcnD]; (try simp [-map_take,-map_drop, push_cast, DP.av2, DP.av, d3AV, d3C, RD.av, ratD, dC, rC, numC, ← tens.eq_1, dAV]))
    | fail)
  refine callD_of (g2) rfl rfl rfl ?_
  try dsimp only
  repeat' (first
    | (rw [vcnD]; (try simp [-map_take,-map_drop, push_cast, DP.av2, DP.av, d3AV, d3C, RD.av, ratD, dC, rC, numC, ← tens.eq_1, dAV]))
    | fail)
  refine callD_of (g3) rfl rfl rfl ?_
  try dsimp only
  repeat' (first
    | (rw [vcnD]; (try simp [-map_take,-map_drop, push_cast, DP.av2, DP.av, d3AV, d3C, RD.av, ratD, dC, rC, numC, ← tens.eq_1, dAV]))
    | fail)
  refine callD_of (g4) rfl rfl rfl ?_
  try dsimp only
  repeat' (first
    | with_reducible first | apply thenW_n | apply W_ret
    | (rw [vcnD]; (try simp [-map_take,-map_drop, push_cast, DP.av2, DP.av, d3AV, d3C, RD.av, ratD, dC, rC, numC, ← tens.eq_1, dAV]))
    | refine And.intro (by first | omega | kernel_rfl) ?_
    | fail)
  simp [-map_take,-map_drop, post, resAV, resAll, resOne, closeV, closeC, closeL, resD, resDL, push_cast, DP.av2, DP.av, d3AV, d3C, RD.av, ratD, dC, rC, numC, ← tens.eq_1, dAV]
theorem closer12_ok (a b c d : DP) (n : Int) (hn : inI n) (h : szP3 a + szP3 b + szP3 c + szP3 d ≤ 5000) : Eval Tryz.prog 21 [DP.av2 a b, DP.av2 c d, i64V n] (.ret (boolV (closerR a b c d n))) := by
  unfold closerR
  by_cases h0 : ¬ 0 < n
  · have k1 : (n ≤ 0) = True := eq_true (by omega)
    have e : decide (0 < n) = false := decide_eq_false h0
    rw [e, Bool.false_and]
    refine Eval.intro Tryz.func21 rfl Tryz.call21 _ _ (Nat.le_of_ble_eq_true rfl) (by simp [-map_take,-map_drop, AV.refs, refsL, natAV, rAV, rC, dAV, dC, d3AV, d3C, ratD, RD.av, DP.av, DP.av2, dpC, push_cast]) fun hs0 => ?_
    repeat' (first
      | with_reducible first | apply thenW_n | apply thenW_ret | apply W_seq | apply W_ret
      | with_reducible refine W_rg ?_
      | (rw [vcn]; (try simp [-map_take,-map_drop, push_cast, DP.av2, DP.av, d3AV, d3C, RD.av, ratD, dC, rC, numC, ← tens.eq_1, dAV, k1]))
      | (with_reducible refine W_condW ?_; (try simp [-map_take,-map_drop, AS.val, upd, resB, mkS_env, mkS_box, lk, entry_env, condW_true, condW_false, DP.av2, DP.av, d3AV, d3C, RD.av, ratD, dC, rC, numC, ← tens.eq_1, dAV, k1]))
      | fail)
    simp [-map_take,-map_drop, post, resAV, resAll, resOne, closeV, closeC, closeL, resD, resDL, push_cast, DP.av2, DP.av, d3AV, d3C, RD.av, ratD, dC, rC, numC, ← tens.eq_1, dAV]
  have k1 : (n ≤ 0) = False := eq_false (by omega)
  have e : decide (0 < n) = true := decide_eq_true (by omega)
  rw [e, Bool.true_and]
  have z1 := leastR_sz a b c d
  have z2 := ofD_sz hn
  have z3 := mulD_sz (ofD n) (ofD n)
  have e1 := cmp11_ok a b (by omega)
  have e2 := cmp11_ok c d (by omega)
  have e3 := least12_ok a b c d h
  have e4 := of03_ok n hn
  have e5 := mul03_ok (ofD n) (ofD n) (by omega)
  have e6 := cmp03_ok (leastR a b c d) (mulD (ofD n) (ofD n)) (by omega)
  obtain ⟨cc, nm_⟩ : ∃ nm0_, nm0_ = cmpD (leastR a b c d) (mulD (ofD n) (ofD n)) := ⟨_, rfl⟩
  simp only [← nm_] at e6 ⊢
  clear nm_
  obtain ⟨L, nm_⟩ : ∃ nm0_, nm0_ = leastR a b c d := ⟨_, rfl⟩
  simp only [← nm_] at e3 e6 ⊢
  clear nm_
  obtain ⟨M, nm_⟩ : ∃ nm0_, nm0_ = mulD (ofD n) (ofD n) := ⟨_, rfl⟩
  simp only [← nm_] at e5 e6
  clear nm_
  obtain ⟨N, nm_⟩ : ∃ nm0_, nm0_ = ofD n := ⟨_, rfl⟩
  simp only [← nm_] at e4 e5
  clear nm_
  obtain ⟨x, nm_⟩ : ∃ nm0_, nm0_ = cmp3 a b := ⟨_, rfl⟩
  simp only [← nm_] at e1 ⊢
  clear nm_
  obtain ⟨y, nm_⟩ : ∃ nm0_, nm0_ = cmp3 c d := ⟨_, rfl⟩
  simp only [← nm_] at e2 ⊢
  clear nm_
  clear z1 z2 z3 h hn h0 e
  by_cases hx : x = 0
  · have x1 : (x = 0) = True := eq_true hx
    have x2 : (x == 0) = true := beq_iff_eq.2 hx
    rw [x2, Bool.true_and]
    by_cases hy : y = 0
    · have y1 : (y = 0) = True := eq_true hy
      have y2 : (y == 0) = true := beq_iff_eq.2 hy
      rw [y2, Bool.true_and]
      by_cases hl : L.n.sign = 0
      · have l1 : (L.n.sign = 0) = True := eq_true hl
        have l2 : (L.n.sign == 0) = true := beq_iff_eq.2 hl
        rw [l2, Bool.not_true, Bool.false_and]
        refine Eval.intro Tryz.func21 rfl Tryz.call21 _ _ (Nat.le_of_ble_eq_true rfl) (by simp [-map_take,-map_drop, AV.refs, refsL, natAV, rAV, rC, dAV, dC, d3AV, d3C, ratD, RD.av, DP.av, DP.av2, dpC, push_cast]) fun hs0 => ?_
        repeat' (first
          | with_reducible first | apply thenW_n | apply W_seq | apply W_skip
          | with_reducible refine W_rg ?_
          | (rw [vcn]; (try simp [-map_take,-map_drop, push_cast, DP.av2, DP.av, d3AV, d3C, RD.av, ratD, dC, rC, numC, ← tens.eq_1, dAV, k1, x1, x2, y1, y2, l1, l2]))
          | (with_reducible refine W_condW ?_; (try simp [-map_take,-map_drop, AS.val, upd, resB, mkS_env, mkS_box, lk, entry_env, condW_true, condW_false, DP.av2, DP.av, d3AV, d3C, RD.av, ratD, dC, rC, numC, ← tens.eq_1, dAV, k1, x1, x2, y1, y2, l1, l2]))
          | fail)
        refine CallG_of (e1) rfl rfl rfl ?_
        try dsimp only
        repeat' (first
          | (rw [vcn]; (try simp [-map_take,-map_drop, push_cast, DP.av2, DP.av, d3AV, d3C, RD.av, ratD, dC, rC, numC, ← tens.eq_1, dAV, k1, x1, x2, y1, y2, l1, l2]))
          | fail)
        refine CallG_of (e2) rfl rfl rfl ?_
        try dsimp only
        repeat' (first
          | with_reducible first | apply thenW_n | apply W_seq
          | with_reducible refine W_rg ?_
          | (rw [vcn]; (try simp [-map_take,-map_drop, push_cast, DP.av2, DP.av, d3AV, d3C, RD.av, ratD, dC, rC, numC, ← tens.eq_1, dAV, k1, x1, x2, y1, y2, l1, l2]))
          | fail)
        refine CallG_of (e3) rfl rfl rfl ?_
        try dsimp only
        repeat' (first
          | with_reducible first | apply thenW_n | apply thenW_ret | apply W_seq | apply W_ret
          | with_reducible refine W_rg ?_
          | (rw [vcn]; (try simp [-map_take,-map_drop, push_cast, DP.av2, DP.av, d3AV, d3C, RD.av, ratD, dC, rC, numC, ← tens.eq_1, dAV, k1, x1, x2, y1, y2, l1, l2]))
          | (with_reducible refine W_condW ?_; (try simp [-map_take,-map_drop, AS.val, upd, resB, mkS_env, mkS_box, lk, entry_env, condW_true, condW_false, DP.av2, DP.av, d3AV, d3C, RD.av, ratD, dC, rC, numC, ← tens.eq_1, dAV, k1, x1, x2, y1, y2, l1, l2]))
          | fail)
        simp [-map_take,-map_drop, post, resAV, resAll, resOne, closeV, closeC, closeL, resD, resDL, push_cast, DP.av2, DP.av, d3AV, d3C, RD.av, ratD, dC, rC, numC, ← tens.eq_1, dAV]
      · have l1 : (L.n.sign = 0) = False := eq_false hl
        have l2 : (L.n.sign == 0) = false := beq_eq_false_iff_ne.2 hl
        rw [l2, Bool.not_false, Bool.true_and]
        refine Eval.intro Tryz.func21 rfl Tryz.call21 _ _ (Nat.le_of_ble_eq_true rfl) (by simp [-map_take,-map_drop, AV.refs, refsL, natAV, rAV, rC, dAV, dC, d3AV, d3C, ratD, RD.av, DP.av, DP.av2, dpC, push_cast]) fun hs0 => ?_
        repeat' (first
          | with_reducible first | apply thenW_n | apply W_seq | apply W_skip
          | with_reducible refine W_rg ?_
          | (rw [vcn]; (try simp [-map_take,-map_drop, push_cast, DP.av2, DP.av, d3AV, d3C, RD.av, ratD, dC, rC, numC, ← tens.eq_1, dAV, k1, x1, x2, y1, y2, l1, l2]))
          | (with_reducible refine W_condW ?_; (try simp [-map_take,-map_drop, AS.val, upd, resB, mkS_env, mkS_box, lk, entry_env, condW_true, condW_false, DP.av2, DP.av, d3AV, d3C, RD.av, ratD, dC, rC, numC, ← tens.eq_1, dAV, k1, x1, x2, y1, y2, l1, l2]))
          | fail)
        refine CallG_of (e1) rfl rfl rfl ?_
        try dsimp only
        repeat' (first
          | (rw [vcn]; (try simp [-map_take,-map_drop, push_cast, DP.av2, DP.av, d3AV, d3C, RD.av, ratD, dC, rC, numC, ← tens.eq_1, dAV, k1, x1, x2, y1, y2, l1, l2]))
          | fail)
        refine CallG_of (e2) rfl rfl rfl ?_
        try dsimp only
        repeat' (first
          | with_reducible first | apply thenW_n | apply W_seq
          | with_reducible refine W_rg ?_
          | (rw [vcn]; (try simp [-map_take,-map_drop, push_cast, DP.av2, DP.av, d3AV, d3C, RD.av, ratD, dC, rC, numC, ← tens.eq_1, dAV, k1, x1, x2, y1, y2, l1, l2]))
          | fail)
        refine CallG_of (e3) rfl rfl rfl ?_
        try dsimp only
        repeat' (first
          | with_reducible first | apply thenW_n | apply W_seq | apply W_skip
          | with_reducible refine W_rg ?_
          | (rw [vcn]; (try simp [-map_take,-map_drop, push_cast, DP.av2, DP.av, d3AV, d3C, RD.av, ratD, dC, rC, numC, ← tens.eq_1, dAV, k1, x1, x2, y1, y2, l1, l2]))
          | (with_reducible refine W_condW ?_; (try simp [-map_take,-map_drop, AS.val, upd, resB, mkS_env, mkS_box, lk, entry_env, condW_true, condW_false, DP.av2, DP.av, d3AV, d3C, RD.av, ratD, dC, rC, numC, ← tens.eq_1, dAV, k1, x1, x2, y1, y2, l1, l2]))
          | fail)
        refine CallG_of (e4) rfl rfl rfl ?_
        try dsimp only
        repeat' (first
          | with_reducible first | apply thenW_n | apply W_seq
          | (rw [vcn]; (try simp [-map_take,-map_drop, push_cast, DP.av2, DP.av, d3AV, d3C, RD.av, ratD, dC, rC, numC, ← tens.eq_1, dAV, k1, x1, x2, y1, y2, l1, l2]))
          | with_reducible refine W_drawn mixed (by decide) (by kernel_rfl) ?_
          | (rw [vcnD]; (try simp [-map_take,-map_drop, push_cast, DP.av2, DP.av, d3AV, d3C, RD.av, ratD, dC, rC, numC, ← tens.eq_1, dAV, k1, x1, x2, y1, y2, l1, l2]))
          | fail)
        refine callD_of (e5) rfl rfl rfl ?_
        try dsimp only
        repeat' (first
          | (rw [vcnD]; (try simp [-map_take,-map_drop, push_cast, DP.av2, DP.av, d3AV, d3C, RD.av, ratD, dC, rC, numC, ← tens.eq_1, dAV, k1, x1, x2, y1, y2, l1, l2]))
          | fail)
        refine callD_of (e6) rfl rfl rfl ?_
        try dsimp only
        repeat' (first
          | with_reducible first | apply thenW_n | apply W_ret
          | (rw [vcnD]; (try simp [-map_take,-map_drop, push_cast, DP.av2, DP.av, d3AV, d3C, RD.av, ratD, dC, rC, numC, ← tens.eq_1, dAV, k1, x1, x2, y1, y2, l1, l2]))
          | refine And.intro (by first | omega | kernel_rfl) ?_
          | fail)
        simp [-map_take,-map_drop, post, resAV, resAll, resOne, closeV, closeC, closeL, resD, resDL, push_cast, DP.av2, DP.av, d3AV, d3C, RD.av, ratD, dC, rC, numC, ← tens.eq_1, dAV]
    · have y1 : (y = 0) = False := eq_false hy
      have y2 : (y == 0) = false := beq_eq_false_iff_ne.2 hy
      rw [y2, Bool.false_and, Bool.not_false, Bool.true_and]
      refine Eval.intro Tryz.func21 rfl Tryz.call21 _ _ (Nat.le_of_ble_eq_true rfl) (by simp [-map_take,-map_drop, AV.refs, refsL, natAV, rAV, rC, dAV, dC, d3AV, d3C, ratD, RD.av, DP.av, DP.av2, dpC, push_cast]) fun hs0 => ?_
      repeat' (first
        | with_reducible first | apply thenW_n | apply W_seq | apply W_skip
        | with_reducible refine W_rg ?_
        | (rw [vcn]; (try simp [-map_take,-map_drop, push_cast, DP.av2, DP.av, d3AV, d3C, RD.av, ratD, dC, rC, numC, ← tens.eq_1, dAV, k1, x1, x2, y1, y2]))
        | (with_reducible refine W_condW ?_; (try simp [-map_take,-map_drop, AS.val, upd, resB, mkS_env, mkS_box, lk, entry_env, condW_true, condW_false, DP.av2, DP.av, d3AV, d3C, RD.av, ratD, dC, rC, numC, ← tens.eq_1, dAV, k1, x1, x2, y1, y2]))
        | fail)
      refine CallG_of (e1) rfl rfl rfl ?_
      try dsimp only
      repeat' (first
        | (rw [vcn]; (try simp [-map_take,-map_drop, push_cast, DP.av2, DP.av, d3AV, d3C, RD.av, ratD, dC, rC, numC, ← tens.eq_1, dAV, k1, x1, x2, y1, y2]))
        | fail)
      refine CallG_of (e2) rfl rfl rfl ?_
      try dsimp only
      repeat' (first
        | with_reducible first | apply thenW_n | apply W_seq
        | with_reducible refine W_rg ?_
        | (rw [vcn]; (try simp [-map_take,-map_drop, push_cast, DP.av2, DP.av, d3AV, d3C, RD.av, ratD, dC, rC, numC, ← tens.eq_1, dAV, k1, x1, x2, y1, y2]))
        | fail)
      refine CallG_of (e3) rfl rfl rfl ?_
      try dsimp only
      repeat' (first
        | with_reducible first | apply thenW_n | apply W_seq | apply W_skip
        | with_reducible refine W_rg ?_
        | (rw [vcn]; (try simp [-map_take,-map_drop, push_cast, DP.av2, DP.av, d3AV, d3C, RD.av, ratD, dC, rC, numC, ← tens.eq_1, dAV, k1, x1, x2, y1, y2]))
        | (with_reducible refine W_condW ?_; (try simp [-map_take,-map_drop, AS.val, upd, resB, mkS_env, mkS_box, lk, entry_env, condW_true, condW_false, DP.av2, DP.av, d3AV, d3C, RD.av, ratD, dC, rC, numC, ← tens.eq_1, dAV, k1, x1, x2, y1, y2]))
        | fail)
      refine CallG_of (e4) rfl rfl rfl ?_
      try dsimp only
      repeat' (first
        | with_reducible first | apply thenW_n | apply W_seq
        | (rw [vcn]; (try simp [-map_take,-map_drop, push_cast, DP.av2, DP.av, d3AV, d3C, RD.av, ratD, dC, rC, numC, ← tens.eq_1, dAV, k1, x1, x2, y1, y2]))
        | with_reducible refine W_drawn mixed (by decide) (by kernel_rfl) ?_
        | (rw [vcnD]; (try simp [-map_take,-map_drop, push_cast, DP.av2, DP.av, d3AV, d3C, RD.av, ratD, dC, rC, numC, ← tens.eq_1, dAV, k1, x1, x2, y1, y2]))
        | fail)
      refine callD_of (e5) rfl rfl rfl ?_
      try dsimp only
      repeat' (first
        | (rw [vcnD]; (try simp [-map_take,-map_drop, push_cast, DP.av2, DP.av, d3AV, d3C, RD.av, ratD, dC, rC, numC, ← tens.eq_1, dAV, k1, x1, x2, y1, y2]))
        | fail)
      refine callD_of (e6) rfl rfl rfl ?_
      try dsimp only
      repeat' (first
        | with_reducible first | apply thenW_n | apply W_ret
        | (rw [vcnD]; (try simp [-map_take,-map_drop, push_cast, DP.av2, DP.av, d3AV, d3C, RD.av, ratD, dC, rC, numC, ← tens.eq_1, dAV, k1, x1, x2, y1, y2]))
        | refine And.intro (by first | omega | kernel_rfl) ?_
        | fail)
      simp [-map_take,-map_drop, post, resAV, resAll, resOne, closeV, closeC, closeL, resD, resDL, push_cast, DP.av2, DP.av, d3AV, d3C, RD.av, ratD, dC, rC, numC, ← tens.eq_1, dAV]
  · have x1 : (x = 0) = False := eq_false hx
    have x2 : (x == 0) = false := beq_eq_false_iff_ne.2 hx
    rw [x2, Bool.false_and, Bool.false_and, Bool.not_false, Bool.true_and]
    refine Eval.intro Tryz.func21 rfl Tryz.call21 _ _ (Nat.le_of_ble_eq_true rfl) (by simp [-map_take,-map_drop, AV.refs, refsL, natAV, rAV, rC, dAV, dC, d3AV, d3C, ratD, RD.av, DP.av, DP.av2, dpC, push_cast]) fun hs0 => ?_
    repeat' (first
      | with_reducible first | apply thenW_n | apply W_seq | apply W_skip
      | with_reducible refine W_rg ?_
      | (rw [vcn]; (try simp [-map_take,-map_drop, push_cast, DP.av2, DP.av, d3AV, d3C, RD.av, ratD, dC, rC, numC, ← tens.eq_1, dAV, k1, x1, x2]))
      | (with_reducible refine W_condW ?_; (try simp [-map_take,-map_drop, AS.val, upd, resB, mkS_env, mkS_box, lk, entry_env, condW_true, condW_false, DP.av2, DP.av, d3AV, d3C, RD.av, ratD, dC, rC, numC, ← tens.eq_1, dAV, k1, x1, x2]))
      | fail)
    refine CallG_of (e1) rfl rfl rfl ?_
    try dsimp only
    repeat' (first
      | with_reducible first | apply thenW_n | apply W_seq
      | with_reducible refine W_rg ?_
      | (rw [vcn]; (try simp [-map_take,-map_drop, push_cast, DP.av2, DP.av, d3AV, d3C, RD.av, ratD, dC, rC, numC, ← tens.eq_1, dAV, k1, x1, x2]))
      | fail)
    refine CallG_of (e3) rfl rfl rfl ?_
    try dsimp only
    repeat' (first
      | with_reducible first | apply thenW_n | apply W_seq | apply W_skip
      | with_reducible refine W_rg ?_
      | (rw [vcn]; (try simp [-map_take,-map_drop, push_cast, DP.av2, DP.av, d3AV, d3C, RD.av, ratD, dC, rC, numC, ← tens.eq_1, dAV, k1, x1, x2]))
      | (with_reducible refine W_condW ?_; (try simp [-map_take,-map_drop, AS.val, upd, resB, mkS_env, mkS_box, lk, entry_env, condW_true, condW_false, DP.av2, DP.av, d3AV, d3C, RD.av, ratD, dC, rC, numC, ← tens.eq_1, dAV, k1, x1, x2]))
      | fail)
    refine CallG_of (e4) rfl rfl rfl ?_
    try dsimp only
    repeat' (first
      | with_reducible first | apply thenW_n | apply W_seq
      | (rw [vcn]; (try simp [-map_take,-map_drop, push_cast, DP.av2, DP.av, d3AV, d3C, RD.av, ratD, dC, rC, numC, ← tens.eq_1, dAV, k1, x1, x2]))
      | with_reducible refine W_drawn mixed (by decide) (by kernel_rfl) ?_
      | (rw [vcnD]; (try simp [-map_take,-map_drop, push_cast, DP.av2, DP.av, d3AV, d3C, RD.av, ratD, dC, rC, numC, ← tens.eq_1, dAV, k1, x1, x2]))
      | fail)
    refine callD_of (e5) rfl rfl rfl ?_
    try dsimp only
    repeat' (first
      | (rw [vcnD]; (try simp [-map_take,-map_drop, push_cast, DP.av2, DP.av, d3AV, d3C, RD.av, ratD, dC, rC, numC, ← tens.eq_1, dAV, k1, x1, x2]))
      | fail)
    refine callD_of (e6) rfl rfl rfl ?_
    try dsimp only
    repeat' (first
      | with_reducible first | apply thenW_n | apply W_ret
      | (rw [vcnD]; (try simp [-map_take,-map_drop, push_cast, DP.av2, DP.av, d3AV, d3C, RD.av, ratD, dC, rC, numC, ← tens.eq_1, dAV, k1, x1, x2]))
      | refine And.intro (by first | omega | kernel_rfl) ?_
      | fail)
    simp [-map_take,-map_drop, post, resAV, resAll, resOne, closeV, closeC, closeL, resD, resDL, push_cast, DP.av2, DP.av, d3AV, d3C, RD.av, ratD, dC, rC, numC, ← tens.eq_1, dAV]
end Go.Fw

/- The document's Floor (02, 03), Near (03), Int (08); a point on the grid (18). -/
import Derived.Test.YtnilkelofcblhaaY1
import Derived.Test.YtnilkelofcblhaaS2
import Derived.Test.YtnilkelofcblhaaR1b
set_option linter.unusedSimpArgs false
set_option linter.unusedVariables false
-- VALS: rAV, rC, dAV, dC, d3AV, d3C, ratD, RD.av, DP.av, ptI
namespace Go.Fw
open Go Go.Proofs Go.IntWalk
set_option linter.unusedSimpArgs false
set_option maxRecDepth 100000
set_option maxHeartbeats 20000000

theorem floor_parts (a b : Int) (hb : 0 < b) : (0 ≤ a ∨ a.natAbs % b.natAbs = 0 → ((a.natAbs / b.natAbs) = (a / b).natAbs ∧ (a.natAbs / b.natAbs ≠ 0 → a.sign * b.sign = (a / b).sign) ∧ a.natAbs % b.natAbs = (a % b).natAbs ∧ (a.natAbs % b.natAbs ≠ 0 → 1 = (a % b).sign))) ∧
    (¬ (0 ≤ a ∨ a.natAbs % b.natAbs = 0) → ((a.natAbs / b.natAbs + 1) = (a / b).natAbs ∧ (a.natAbs / b.natAbs + 1 ≠ 0 → a.sign * b.sign = (a / b).sign) ∧ b.natAbs - a.natAbs % b.natAbs = (a % b).natAbs ∧ (b.natAbs - a.natAbs % b.natAbs ≠ 0 → 1 = (a % b).sign))) := by
  obtain ⟨B, rfl⟩ : ∃ B : Nat, b = B := ⟨b.natAbs, by omega⟩
  have hB : 0 < B := by omega
  rw [Int.natAbs_natCast, Int.sign_eq_one_of_pos hb, Int.mul_one]
  have hm := Nat.mod_lt a.natAbs hB
  have hd := Nat.div_add_mod a.natAbs B
  generalize a.natAbs / B = q at *
  generalize a.natAbs % B = r at *
  have hdI : (B : Int) * q + r = (a.natAbs : Int) := by rw [← hd]; push_cast; rfl
  have sg := sign_cases a
  constructor
  · intro h
    by_cases h0 : 0 ≤ a
    · have e : a / (B : Int) = q ∧ a % (B : Int) = r := (Int.ediv_emod_unique hb).2 ⟨by omega, by omega, by omega⟩
      rw [e.1, e.2]
      refine ⟨by omega, fun hq => ?_, by omega, fun hr => ?_⟩
      · have : 0 < a := by
          rcases Int.lt_or_eq_of_le h0 with h1 | h1
          · exact h1
          · subst h1
            have h2 : B * q = 0 := by simp at hd; omega
            rcases Nat.mul_eq_zero.1 h2 with h3 | h3 <;> omega
        rw [Int.sign_eq_one_of_pos this, Int.sign_eq_one_of_pos (by omega)]
      · rw [Int.sign_eq_one_of_pos (by omega)]
    · have hr : r = 0 := h.resolve_left h0
      subst hr
      have e : a / (B : Int) = -(q : Int) ∧ a % (B : Int) = 0 := (Int.ediv_emod_unique hb).2 ⟨by rw [Int.mul_neg]; omega, by omega, by omega⟩
      rw [e.1, e.2]
      refine ⟨by omega, fun hq => ?_, rfl, fun h => absurd rfl h⟩
      rw [Int.sign_eq_neg_one_of_neg (by omega), Int.sign_eq_neg_one_of_neg (by omega)]
  · intro h
    have h0 : a < 0 := by
      have : ¬ 0 ≤ a := fun k => h (.inl k)
      omega
    have hr : r ≠ 0 := fun k => h (.inr k)
    have e : a / (B : Int) = -((q : Int) + 1) ∧ a % (B : Int) = (B : Int) - r := (Int.ediv_emod_unique hb).2 ⟨by rw [Int.mul_neg, Int.mul_add]; omega, by omega, by omega⟩
    rw [e.1, e.2]
    refine ⟨by omega, fun _ => ?_, by omega, fun _ => ?_⟩
    · rw [Int.sign_eq_neg_one_of_neg h0, Int.sign_eq_neg_one_of_neg (by omega)]
    · rw [Int.sign_eq_one_of_pos (by omega)]
theorem floor_q {n d : Int} (hd : 0 < d) : (Rat.divInt n d).floor = n / d := by
  have e := dv_mul (x := n) hd
  have hp := rat_pos hd
  generalize Rat.divInt n d = q at *
  have h1 : n / d ≤ q.floor := by
    rw [Rat.le_floor_iff]
    have h2 : n / d * d ≤ n := Int.ediv_mul_le n (by omega)
    have h3 : ((n / d * d : Int) : Rat) ≤ (n : Rat) := Rat.intCast_le_intCast.2 h2
    rw [Rat.intCast_mul, e] at h3
    exact Rat.le_of_mul_le_mul_right h3 hp
  have h2 : q.floor ≤ n / d := by
    rw [Int.le_ediv_iff_mul_le hd, ← Rat.intCast_le_intCast, Rat.intCast_mul, e]
    exact Rat.mul_le_mul_of_nonneg_right (Rat.floor_le q) (by grind)
  omega
theorem if_congr' {α : Type} {a b : Prop} [Decidable a] [Decidable b] {x y : α} (h : a ↔ b) : (if a then x else y) = (if b then x else y) := by
  by_cases hb : b
  · rw [if_pos hb, if_pos (h.2 hb)]
  · rw [if_neg hb, if_neg (fun k => hb (h.1 k))]
/-- The nearest whole number, of two as near the even one. -/
theorem nearQ_eq (q : Rat) : nearQ q = if 2 * (q - (q.floor : Rat)) < 1 ∨ 2 * (q - (q.floor : Rat)) = 1 ∧ q.floor % 2 = 0 then q.floor else q.floor + 1 := by
  have hd : (0 : Int) < (q.den : Int) := by have := q.den_pos; omega
  have hp := rat_pos hd
  have hn : (q.num : Rat) = q * ((q.den : Int) : Rat) := (num_den q).symm
  unfold nearQ
  rw [Rat.floor_def]
  generalize (q.den : Int) = d at *
  generalize q.num = n at *
  have e1 := Int.mul_ediv_add_emod n d
  have e2 := Int.emod_nonneg n (b := d) (by omega)
  have e3 := Int.emod_lt_of_pos n hd
  generalize n / d = L at *
  generalize n % d = r at *
  have hr : (q - (L : Rat)) * (d : Rat) = (r : Rat) := by
    have : (r : Rat) = (n : Rat) - (d : Rat) * (L : Rat) := by
      rw [← Rat.intCast_mul, ← Rat.intCast_sub]
      congr 1
      omega
    rw [this, hn]
    grind
  have c1 : 2 * (q - (L : Rat)) < 1 ↔ 2 * r < d := by
    rw [← Rat.intCast_lt_intCast, Rat.intCast_mul, ← hr]
    have e2 : ((2 : Int) : Rat) = 2 := rfl
    rw [e2]
    generalize q - (L : Rat) = f
    constructor
    · intro h
      have := Rat.mul_lt_mul_of_pos_right h hp
      grind
    · intro h
      have h' : (2 * f) * (d : Rat) < 1 * (d : Rat) := by grind
      exact Rat.lt_of_mul_lt_mul_right h' (by grind)
  have c2 : 2 * (q - (L : Rat)) = 1 ↔ 2 * r = d := by
    rw [← Rat.intCast_inj, Rat.intCast_mul, ← hr]
    have e2 : ((2 : Int) : Rat) = 2 := rfl
    rw [e2]
    generalize q - (L : Rat) = f
    constructor
    · intro h
      have : 2 * (f * (d : Rat)) = (2 * f) * (d : Rat) := by grind
      rw [this, h]; grind
    · intro h
      have h' : (2 * f - 1) * (d : Rat) = 0 := by grind
      rcases Rat.mul_eq_zero.1 h' with h2 | h2 <;> grind
  rw [if_congr' (or_congr c1 (and_congr_left fun _ => c2))]
  have hnd : n * 2 + d = d * 2 * L + (2 * r + d) := by
    rw [← e1]
    have : d * 2 * L = 2 * (d * L) := by rw [Int.mul_comm d 2, Int.mul_assoc]
    omega
  by_cases h1 : 2 * r < d
  · have e : (n * 2 + d) / (d * 2) = L ∧ (n * 2 + d) % (d * 2) = 2 * r + d := (Int.ediv_emod_unique (by omega)).2 ⟨by omega, by omega, by omega⟩
    rw [e.1, e.2, if_neg (by omega), if_pos (.inl h1)]
  · have e : (n * 2 + d) / (d * 2) = L + 1 ∧ (n * 2 + d) % (d * 2) = 2 * r - d := (Int.ediv_emod_unique (by omega)).2 ⟨by rw [Int.mul_add]; omega, by omega, by omega⟩
    rw [e.1, e.2]
    by_cases h2 : 2 * r = d
    · by_cases h3 : L % 2 = 0
      · rw [if_pos ⟨by omega, by omega⟩, if_pos (.inr ⟨h2, h3⟩)]; omega
      · rw [if_neg (by omega), if_neg (by omega)]
    · rw [if_neg (by omega), if_neg (by omega)]
def nearR (a : RD) : Int :=
  if cmpD (subD a (ofD (a.n / a.d))) (subD (ofD (a.n / a.d + 1)) a) < 0 ∨ cmpD (subD a (ofD (a.n / a.d))) (subD (ofD (a.n / a.d + 1)) a) = 0 ∧ (a.n / a.d % 2).sign = 0 then a.n / a.d else a.n / a.d + 1
theorem cmpD_zero {a b : RD} (ha : 0 < a.d) (hb : 0 < b.d) : cmpD a b = 0 ↔ a.q = b.q := by
  rw [cmpD_q ha hb]
  by_cases h : a.q < b.q
  · rw [if_pos h]
    constructor
    · intro k; omega
    · intro k; grind
  · rw [if_neg h]
    by_cases h2 : b.q < a.q
    · rw [if_pos h2]
      constructor
      · intro k; omega
      · intro k; grind
    · rw [if_neg h2]
      constructor
      · intro _; grind
      · intro _; rfl
theorem nearR_q {a : RD} (ha : 0 < a.d) : nearR a = nearQ a.q := by
  have hf : a.q.floor = a.n / a.d := floor_q ha
  rw [nearQ_eq, hf]
  unfold nearR
  obtain ⟨o1, o2⟩ := ofD_q (a.n / a.d)
  obtain ⟨o3, o4⟩ := ofD_q (a.n / a.d + 1)
  obtain ⟨s1, s2⟩ := subD_q ha o2
  obtain ⟨s3, s4⟩ := subD_q o4 ha
  refine if_congr' ?_
  rw [cmpD_neg s2 s4, cmpD_zero s2 s4, s1, s3, o1, o3, Int.sign_eq_zero_iff_zero, Rat.intCast_add]
  have e1 : ((1 : Int) : Rat) = 1 := rfl
  rw [e1]
  generalize a.n / a.d = L
  refine or_congr ?_ (and_congr_left fun _ => ?_)
  · constructor <;> intro h <;> grind
  · constructor <;> intro h <;> grind
def inR (z : Int) : Prop := -2147483648 ≤ z ∧ z ≤ 2147483647
instance (z : Int) : Decidable (inR z) := by unfold inR; infer_instance
def intR (z : Int) : Int := if inR z then z else 0
theorem sz_quot (a b : Int) (hb : 0 < b) : szD (a / b) ≤ szD a + 1 ∧ szD (a % b) ≤ szD b := by
  constructor
  · have h1 : (a / b).natAbs ≤ a.natAbs := by exact Int.natAbs_ediv_le_natAbs a b
    have := tens_mono h1
    unfold szD
    omega
  · have h1 := Int.emod_nonneg a (b := b) (by omega)
    have h2 := Int.emod_lt_of_pos a hb
    have h3 : (a % b).natAbs ≤ b.natAbs := by omega
    exact tens_mono h3

open List (map_take map_drop)
attribute [local push_cast] optK_some optK_none optK_ite optK_map optK_bind gOn stepK isMem evPure evMem evBin evUn evConv evLen evBuiltin evMinMax evSlice evBuild evAppend evIndex evIndexAddr evField evFieldAddr intBin strBin appDest AS.val AS.mem AS.elems AS.put AS.put' AS.eff AV.cells? AV.isCell AV.refs all_isByte take_byteV drop_byteV strOf_map bndOk bnd partAV ptrAdd killBox catA inOrder fillA setAt ofVal resB upd byteV List.head?_take List.head?_drop List.getElem?_map mkS_env mkS_box mkS_used entry_env entry_box entry_used lk stepD lookIds Oper.looksAt Op.operands Call.operands St.ids refsL renL_append ren renL renBox Box.refs iV i64V boolV dV_getElem dV_app dV_cons toNat_add2 toNat_add1
attribute [local simp ↓] numC_refs numC_isCell numC_cells numC_resB numC_resD numC_ren numC_closeC numC_isOwn
theorem floor02_ok (a b : Int) (hb : 0 < b) (h : szD a + szD b ≤ 1000000) : Eval Try.prog 18 [dAV a, dAV b] (.ret (.tup [dAV (a / b), dAV (a % b)])) := by
  have e1 := div01_ok a.natAbs b.natAbs (by omega) (by show szD a + szD b ≤ _; omega)
  obtain ⟨p1, p2⟩ := floor_parts a b hb
  have hw : IntKind.i64.wrap (a.sign * b.sign) = a.sign * b.sign := by
    rcases sign_cases a with ⟨h1, h2⟩ | ⟨h1, h2⟩ | ⟨h1, h2⟩ <;> rcases sign_cases b with ⟨h3, h4⟩ | ⟨h3, h4⟩ | ⟨h3, h4⟩ <;> rw [h2, h4] <;> rfl
  have hlt := Nat.mod_lt a.natAbs (show 0 < b.natAbs by omega)
  have hrl : (tens (a.natAbs % b.natAbs)).length ≤ szD b := tens_mono (by omega)
  have hql : (tens (a.natAbs / b.natAbs)).length ≤ szD a := tens_mono (Nat.div_le_self _ _)
  by_cases hc : 0 ≤ a ∨ a.natAbs % b.natAbs = 0
  · obtain ⟨q1, q2, q3, q4⟩ := p1 hc
    have e2 := made02_ok' (a.sign * b.sign) (a.natAbs / b.natAbs) (a / b) q1 q2
    have e3 := made02_ok' 1 (a.natAbs % b.natAbs) (a % b) q3 q4
    clear p1 p2 q1 q2 q3 q4
    obtain ⟨s, hs⟩ : ∃ s, s = a.sign * b.sign := ⟨_, rfl⟩
    rw [← hs] at e2 hw
    obtain ⟨z, nm_⟩ : ∃ nm0_, nm0_ = a / b := ⟨_, rfl⟩
    simp only [← nm_] at e2 ⊢
    clear nm_
    obtain ⟨y, nm_⟩ : ∃ nm0_, nm0_ = a % b := ⟨_, rfl⟩
    simp only [← nm_] at e3 ⊢
    clear nm_
    by_cases ha : 0 ≤ a
    · have g1 : (0 ≤ a.sign) = True := eq_true (by have := sign_cases a; omega)
      clear hc
      obtain ⟨q, nm_⟩ : ∃ nm0_, nm0_ = a.natAbs / b.natAbs := ⟨_, rfl⟩
      simp only [← nm_] at e1 e2 hql
      clear nm_
      obtain ⟨r, nm_⟩ : ∃ nm0_, nm0_ = a.natAbs % b.natAbs := ⟨_, rfl⟩
      simp only [← nm_] at e1 e3 hlt hrl
      clear nm_
      refine Eval.intro Try.func18 rfl Try.call18 _ _ (Nat.le_of_ble_eq_true rfl) (by simp [-map_take,-map_drop, AV.refs, refsL, natAV, rAV, rC, dAV, dC, d3AV, d3C, ratD, RD.av, DP.av, ptI, push_cast]) fun hs0 => ?_
      repeat' (first
        | with_reducible first | apply thenW_n | apply W_seq
        | with_reducible refine W_region (by first | decide | (with_unfolding_all rfl)) ?_
        | (rw [vcn]; (try simp [-map_take,-map_drop, push_cast, DP.av, d3AV, d3C, RD.av, ratD, dC, rC, numC, ← tens.eq_1, dAV]))
        | fail)
      refine CallG_of (e1) rfl rfl rfl ?_
      try dsimp only
      repeat' (first
        | with_reducible first | apply thenW_n | apply W_seq
        | with_reducible refine W_region (by first | decide | (with_unfolding_all rfl)) ?_
        | (rw [vcn]; (try simp [-map_take,-map_drop, push_cast, rAV, DP.av, d3AV, d3C, RD.av, ratD, dC, rC, numC, ← tens.eq_1, dAV, g1, ← hs, hw]))
        | with_reducible refine W_drawn mixed (by decide) (by kernel_rfl) ?_
        | (rw [vcnD]; (try simp [-map_take,-map_drop, push_cast, rAV, DP.av, d3AV, d3C, RD.av, ratD, dC, rC, numC, ← tens.eq_1, dAV, g1, ← hs, hw]))
        | (with_reducible refine W_condW ?_; (try simp [-map_take,-map_drop, AS.val, upd, resB, mkS_env, mkS_box, lk, entry_env, condW_true, condW_false, rAV, DP.av, d3AV, d3C, RD.av, ratD, dC, rC, numC, ← tens.eq_1, dAV, g1, ← hs, hw]))
        | fail)
      refine callD_of (e2) rfl rfl rfl ?_
      try dsimp only
      repeat' (first
        | (rw [vcnD]; (try simp [-map_take,-map_drop, push_cast, rAV, DP.av, d3AV, d3C, RD.av, ratD, dC, rC, numC, ← tens.eq_1, dAV]))
        | fail)
      refine callD_of (e3) rfl rfl rfl ?_
      try dsimp only
      repeat' (first
        | with_reducible first | apply thenW_n | apply thenW_ret | apply W_ret
        | (rw [vcnD]; (try simp [-map_take,-map_drop, push_cast, rAV, DP.av, d3AV, d3C, RD.av, ratD, dC, rC, numC, ← tens.eq_1, dAV]))
        | refine And.intro (by first | omega | kernel_rfl) ?_
        | fail)
      simp [-map_take,-map_drop, post, resAV, resAll, resOne, closeV, closeC, closeL, resD, resDL, push_cast, DP.av, d3AV, d3C, RD.av, ratD, dC, rC, numC, ← tens.eq_1, dAV]
    · have g1 : (0 ≤ a.sign) = False := eq_false (by have := sign_cases a; omega)
      have hr : a.natAbs % b.natAbs = 0 := hc.resolve_left ha
      rw [hr] at e1 e3
      clear hc hr hlt hrl
      have e0 : tens 0 = [] := rfl
      obtain ⟨q, nm_⟩ : ∃ nm0_, nm0_ = a.natAbs / b.natAbs := ⟨_, rfl⟩
      simp only [← nm_] at e1 e2 hql
      clear nm_
      refine Eval.intro Try.func18 rfl Try.call18 _ _ (Nat.le_of_ble_eq_true rfl) (by simp [-map_take,-map_drop, AV.refs, refsL, natAV, rAV, rC, dAV, dC, d3AV, d3C, ratD, RD.av, DP.av, ptI, push_cast]) fun hs0 => ?_
      repeat' (first
        | with_reducible first | apply thenW_n | apply W_seq
        | with_reducible refine W_region (by first | decide | (with_unfolding_all rfl)) ?_
        | (rw [vcn]; (try simp [-map_take,-map_drop, push_cast, DP.av, d3AV, d3C, RD.av, ratD, dC, rC, numC, ← tens.eq_1, dAV]))
        | fail)
      refine CallG_of (e1) rfl rfl rfl ?_
      try dsimp only
      repeat' (first
        | with_reducible first | apply thenW_n | apply W_seq
        | with_reducible refine W_region (by first | decide | (with_unfolding_all rfl)) ?_
        | (rw [vcn]; (try simp [-map_take,-map_drop, push_cast, rAV, DP.av, d3AV, d3C, RD.av, ratD, dC, rC, numC, ← tens.eq_1, dAV, g1, ← hs, hw, e0]))
        | with_reducible refine W_drawn mixed (by decide) (by kernel_rfl) ?_
        | (rw [vcnD]; (try simp [-map_take,-map_drop, push_cast, rAV, DP.av, d3AV, d3C, RD.av, ratD, dC, rC, numC, ← tens.eq_1, dAV, g1, ← hs, hw, e0]))
        | (with_reducible refine W_condW ?_; (try simp [-map_take,-map_drop, AS.val, upd, resB, mkS_env, mkS_box, lk, entry_env, condW_true, condW_false, rAV, DP.av, d3AV, d3C, RD.av, ratD, dC, rC, numC, ← tens.eq_1, dAV, g1, ← hs, hw, e0]))
        | fail)
      refine callD_of (e2) rfl rfl rfl ?_
      try dsimp only
      repeat' (first
        | (rw [vcnD]; (try simp [-map_take,-map_drop, push_cast, rAV, DP.av, d3AV, d3C, RD.av, ratD, dC, rC, numC, ← tens.eq_1, dAV, e0]))
        | fail)
      refine callD_of (e3) rfl rfl rfl ?_
      try dsimp only
      repeat' (first
        | with_reducible first | apply thenW_n | apply thenW_ret | apply W_ret
        | (rw [vcnD]; (try simp [-map_take,-map_drop, push_cast, rAV, DP.av, d3AV, d3C, RD.av, ratD, dC, rC, numC, ← tens.eq_1, dAV]))
        | refine And.intro (by first | omega | kernel_rfl) ?_
        | fail)
      simp [-map_take,-map_drop, post, resAV, resAll, resOne, closeV, closeC, closeL, resD, resDL, push_cast, DP.av, d3AV, d3C, RD.av, ratD, dC, rC, numC, ← tens.eq_1, dAV]
  · obtain ⟨q1, q2, q3, q4⟩ := p2 hc
    have hr0 : a.natAbs % b.natAbs ≠ 0 := fun k => hc (.inr k)
    have ha : ¬ 0 ≤ a := fun k => hc (.inl k)
    have l1 : (tens 1).length ≤ 1 := by decide
    have e2 := refOf_ok 1 (by omega)
    have e3 := refAdd_ok (a.natAbs / b.natAbs) 1 (by omega)
    have e4 := made02_ok' (a.sign * b.sign) (a.natAbs / b.natAbs + 1) (a / b) q1 q2
    have e5 := less01_ok b.natAbs (a.natAbs % b.natAbs) (by omega) (by show szD b ≤ _; omega)
    have e6 := made02_ok' 1 (b.natAbs - a.natAbs % b.natAbs) (a % b) q3 q4
    have g1 : (0 ≤ a.sign) = False := eq_false (by have := sign_cases a; omega)
    have hne : ¬ tens (a.natAbs % b.natAbs) = [] := fun k => hr0 (tens_nil.1 k)
    have g2 : (tens (a.natAbs % b.natAbs) = []) = False := eq_false hne
    have g3 : (((tens (a.natAbs % b.natAbs)).length : Int) == 0) = false := beq_eq_false_iff_ne.2 (fun k => hne (List.eq_nil_of_length_eq_zero (by omega)))
    have g4 : ((tens (a.natAbs % b.natAbs)).length = 0) = False := eq_false (fun k => hne (List.eq_nil_of_length_eq_zero k))
    clear p1 p2 q1 q2 q3 q4 hc hne ha hr0
    obtain ⟨s, hs⟩ : ∃ s, s = a.sign * b.sign := ⟨_, rfl⟩
    rw [← hs] at e4 hw
    obtain ⟨z, nm_⟩ : ∃ nm0_, nm0_ = a / b := ⟨_, rfl⟩
    simp only [← nm_] at e4 ⊢
    clear nm_
    obtain ⟨y, nm_⟩ : ∃ nm0_, nm0_ = a % b := ⟨_, rfl⟩
    simp only [← nm_] at e6 ⊢
    clear nm_
    obtain ⟨t, nm_⟩ : ∃ nm0_, nm0_ = a.natAbs / b.natAbs + 1 := ⟨_, rfl⟩
    simp only [← nm_] at e3 e4
    clear nm_
    obtain ⟨u, nm_⟩ : ∃ nm0_, nm0_ = b.natAbs - a.natAbs % b.natAbs := ⟨_, rfl⟩
    simp only [← nm_] at e5 e6
    clear nm_
    obtain ⟨q, nm_⟩ : ∃ nm0_, nm0_ = a.natAbs / b.natAbs := ⟨_, rfl⟩
    simp only [← nm_] at e1 e3 hql
    clear nm_
    obtain ⟨r, nm_⟩ : ∃ nm0_, nm0_ = a.natAbs % b.natAbs := ⟨_, rfl⟩
    simp only [← nm_] at e1 e5 hlt hrl g2 g3 g4
    clear nm_
    obtain ⟨o, ho⟩ : ∃ o : Nat, o = 1 := ⟨_, rfl⟩
    have e2' : Eval Try.prog 34 [iV .u64 1] (.ret (rAV o)) := by rw [ho]; exact e2
    rw [← ho] at e3
    clear e2 ho l1
    refine Eval.intro Try.func18 rfl Try.call18 _ _ (Nat.le_of_ble_eq_true rfl) (by simp [-map_take,-map_drop, AV.refs, refsL, natAV, rAV, rC, dAV, dC, d3AV, d3C, ratD, RD.av, DP.av, ptI, push_cast]) fun hs0 => ?_
    repeat' (first
      | with_reducible first | apply thenW_n | apply W_seq
      | with_reducible refine W_region (by first | decide | (with_unfolding_all rfl)) ?_
      | (rw [vcn]; (try simp [-map_take,-map_drop, push_cast, DP.av, d3AV, d3C, RD.av, ratD, dC, rC, numC, ← tens.eq_1, dAV]))
      | fail)
    refine CallG_of (e1) rfl rfl rfl ?_
    try dsimp only
    repeat' (first
      | with_reducible first | apply thenW_n | apply W_seq | apply W_skip
      | with_reducible refine W_region (by first | decide | (with_unfolding_all rfl)) ?_
      | (rw [vcn]; (try simp [-map_take,-map_drop, push_cast, rAV, DP.av, d3AV, d3C, RD.av, ratD, dC, rC, numC, ← tens.eq_1, dAV, g1, g2, g3, g4, ← hs, hw]))
      | with_reducible refine W_drawn mixed (by decide) (by kernel_rfl) ?_
      | (rw [vcnD]; (try simp [-map_take,-map_drop, push_cast, rAV, DP.av, d3AV, d3C, RD.av, ratD, dC, rC, numC, ← tens.eq_1, dAV, g1, g2, g3, g4, ← hs, hw]))
      | (with_reducible refine W_condW ?_; (try simp [-map_take,-map_drop, AS.val, upd, resB, mkS_env, mkS_box, lk, entry_env, condW_true, condW_false, rAV, DP.av, d3AV, d3C, RD.av, ratD, dC, rC, numC, ← tens.eq_1, dAV, g1, g2, g3, g4, ← hs, hw]))
      | fail)
    refine callD_of (e2') rfl rfl rfl ?_
    try dsimp only
    repeat' (first
      | (rw [vcnD]; (try simp [-map_take,-map_drop, push_cast, rAV, DP.av, d3AV, d3C, RD.av, ratD, dC, rC, numC, ← tens.eq_1, dAV]))
      | fail)
    refine callD_of (e3) rfl rfl rfl ?_
    try dsimp only
    repeat' (first
      | (rw [vcnD]; (try simp [-map_take,-map_drop, push_cast, rAV, DP.av, d3AV, d3C, RD.av, ratD, dC, rC, numC, ← tens.eq_1, dAV]))
      | fail)
    refine callD_of (e4) rfl rfl rfl ?_
    try dsimp only
    repeat' (first
      | (rw [vcnD]; (try simp [-map_take,-map_drop, push_cast, rAV, DP.av, d3AV, d3C, RD.av, ratD, dC, rC, numC, ← tens.eq_1, dAV]))
      | fail)
    refine callD_of (e5) rfl rfl rfl ?_
    try dsimp only
    repeat' (first
      | (rw [vcnD]; (try simp [-map_take,-map_drop, push_cast, rAV, DP.av, d3AV, d3C, RD.av, ratD, dC, rC, numC, ← tens.eq_1, dAV]))
      | fail)
    refine callD_of (e6) rfl rfl rfl ?_
    try dsimp only
    repeat' (first
      | with_reducible first | apply thenW_n | apply W_ret
      | (rw [vcnD]; (try simp [-map_take,-map_drop, push_cast, rAV, DP.av, d3AV, d3C, RD.av, ratD, dC, rC, numC, ← tens.eq_1, dAV]))
      | refine And.intro (by first | omega | kernel_rfl) ?_
      | fail)
    simp [-map_take,-map_drop, post, resAV, resAll, resOne, closeV, closeC, closeL, resD, resDL, push_cast, DP.av, d3AV, d3C, RD.av, ratD, dC, rC, numC, ← tens.eq_1, dAV]

theorem floor03_ok (a : RD) (hd : 0 < a.d) (h : szR a ≤ 1000000) : Eval Try.prog 36 [a.av] (.ret (dAV (a.n / a.d))) := by
  have e1 := floor02_ok a.n a.d hd h
  obtain ⟨z, nm_⟩ : ∃ nm0_, nm0_ = a.n / a.d := ⟨_, rfl⟩
  simp only [← nm_] at e1 ⊢
  clear nm_
  obtain ⟨y, nm_⟩ : ∃ nm0_, nm0_ = a.n % a.d := ⟨_, rfl⟩
  simp only [← nm_] at e1
  clear nm_
  clear h hd
  refine Eval.intro Try.func36 rfl Try.call36 _ _ (Nat.le_of_ble_eq_true rfl) (by simp [-map_take,-map_drop, AV.refs, refsL, natAV, rAV, rC, dAV, dC, d3AV, d3C, ratD, RD.av, DP.av, ptI, push_cast]) fun hs0 => ?_
  repeat' (first
    | with_reducible first | apply thenW_n | apply W_seq
    | with_reducible refine W_region (by first | decide | (with_unfolding_all rfl)) ?_
    | (rw [vcn]; (try simp [-map_take,-map_drop, push_cast, DP.av, d3AV, d3C, RD.av, ratD, dC, rC, numC, ← tens.eq_1, dAV]))
    | fail)
  refine CallG_of (e1) rfl rfl rfl ?_
  try dsimp only
  repeat' (first
    | with_reducible first | apply thenW_n | apply W_seq | apply W_ret
    | with_reducible refine W_region (by first | decide | (with_unfolding_all rfl)) ?_
    | (rw [vcn]; (try simp [-map_take,-map_drop, push_cast, DP.av, d3AV, d3C, RD.av, ratD, dC, rC, numC, ← tens.eq_1, dAV]))
    | fail)
  simp [-map_take,-map_drop, post, resAV, resAll, resOne, closeV, closeC, closeL, resD, resDL, push_cast, DP.av, d3AV, d3C, RD.av, ratD, dC, rC, numC, ← tens.eq_1, dAV]

theorem near03_ok (a : RD) (hd : 0 < a.d) (h : szR a ≤ 100000) : Eval Try.prog 17 [a.av] (.ret (dAV (nearR a))) := by
  have zq := (sz_quot a.n a.d hd).1
  have z1 : szD 1 ≤ 5 := szD_small (by unfold inI; omega)
  have za := szD_add (a.n / a.d) 1
  have hz : szD a.n ≤ szR a := by unfold szR; omega
  have e1 := floor03_ok a hd (by omega)
  have e2 := of02_ok 1 (by unfold inI; omega)
  have e3 := add02_ok (a.n / a.d) 1 (by show szD (a.n / a.d) + szD 1 ≤ _; omega)
  have o1 : szR (ofD (a.n / a.d)) ≤ szD (a.n / a.d) + 5 := by show szD (a.n / a.d) + szD 1 ≤ _; omega
  have o2 : szR (ofD (a.n / a.d + 1)) ≤ szD (a.n / a.d + 1) + 5 := by show szD (a.n / a.d + 1) + szD 1 ≤ _; omega
  have s1 := subD_sz a (ofD (a.n / a.d))
  have s2 := subD_sz (ofD (a.n / a.d + 1)) a
  have e4 := sub03_ok (ofD (a.n / a.d + 1)) a (by omega)
  have e5 := sub03_ok a (ofD (a.n / a.d)) (by omega)
  have e6 := cmp03_ok (subD a (ofD (a.n / a.d))) (subD (ofD (a.n / a.d + 1)) a) (by omega)
  have e7 := of02_ok 2 (by unfold inI; omega)
  have z2 : szD 2 ≤ 5 := szD_small (by unfold inI; omega)
  have e8 := floor02_ok (a.n / a.d) 2 (by omega) (by omega)
  have hr : nearR a = if cmpD (subD a (ofD (a.n / a.d))) (subD (ofD (a.n / a.d + 1)) a) < 0 ∨ cmpD (subD a (ofD (a.n / a.d))) (subD (ofD (a.n / a.d + 1)) a) = 0 ∧ (a.n / a.d % 2).sign = 0 then a.n / a.d else a.n / a.d + 1 := rfl
  obtain ⟨one, h1⟩ : ∃ o : Int, o = 1 := ⟨_, rfl⟩
  obtain ⟨two, h2⟩ : ∃ o : Int, o = 2 := ⟨_, rfl⟩
  have e2' : Eval Try.prog 14 [i64V 1] (.ret (dAV one)) := by rw [h1]; exact e2
  have e7' : Eval Try.prog 14 [i64V 2] (.ret (dAV two)) := by rw [h2]; exact e7
  have f1 : ∀ k, (ofD k).av = ratD k one := fun k => by rw [h1]; rfl
  rw [f1] at e4 e5
  rw [← h1] at e3
  rw [← h2] at e8
  rw [h1] at e3
  have e3' : Eval Try.prog 37 [dAV (a.n / a.d), dAV one] (.ret (dAV (a.n / a.d + 1))) := by rw [h1]; exact e3
  clear e2 e7 e3 f1 zq z1 za hz o1 o2 s1 s2 z2 h hd
  obtain ⟨c, nm_⟩ : ∃ nm0_, nm0_ = cmpD (subD a (ofD (a.n / a.d))) (subD (ofD (a.n / a.d + 1)) a) := ⟨_, rfl⟩
  simp only [← nm_] at e6 hr
  clear nm_
  obtain ⟨D, nm_⟩ : ∃ nm0_, nm0_ = subD a (ofD (a.n / a.d)) := ⟨_, rfl⟩
  simp only [← nm_] at e5 e6
  clear nm_
  obtain ⟨U, nm_⟩ : ∃ nm0_, nm0_ = subD (ofD (a.n / a.d + 1)) a := ⟨_, rfl⟩
  simp only [← nm_] at e4 e6
  clear nm_
  obtain ⟨hq, nm_⟩ : ∃ nm0_, nm0_ = a.n / a.d / two := ⟨_, rfl⟩
  simp only [← nm_] at e8
  clear nm_
  rw [← h2] at hr
  obtain ⟨od, nm_⟩ : ∃ nm0_, nm0_ = a.n / a.d % two := ⟨_, rfl⟩
  simp only [← nm_] at e8 hr
  clear nm_
  obtain ⟨H, nm_⟩ : ∃ nm0_, nm0_ = a.n / a.d + 1 := ⟨_, rfl⟩
  simp only [← nm_] at e3' e4 hr
  clear nm_
  obtain ⟨L, nm_⟩ : ∃ nm0_, nm0_ = a.n / a.d := ⟨_, rfl⟩
  simp only [← nm_] at e1 e3' e5 e8 hr
  clear nm_
  clear h1 h2
  by_cases c1 : c < 0
  · have g1 : (c < 0) = True := eq_true c1
    rw [if_pos (.inl c1)] at hr
    rw [hr]
    refine Eval.intro Try.func17 rfl Try.call17 _ _ (Nat.le_of_ble_eq_true rfl) (by simp [-map_take,-map_drop, AV.refs, refsL, natAV, rAV, rC, dAV, dC, d3AV, d3C, ratD, RD.av, DP.av, ptI, push_cast]) fun hs0 => ?_
    repeat' (first
      | with_reducible first | apply thenW_n | apply W_seq
      | with_reducible refine W_region (by first | decide | (with_unfolding_all rfl)) ?_
      | (rw [vcn]; (try simp [-map_take,-map_drop, push_cast, DP.av, d3AV, d3C, RD.av, ratD, dC, rC, numC, ← tens.eq_1, dAV, g1]))
      | fail)
    refine CallG_of (e1) rfl rfl rfl ?_
    try dsimp only
    repeat' (first
      | with_reducible first | apply thenW_n | apply W_seq
      | (rw [vcn]; (try simp [-map_take,-map_drop, push_cast, DP.av, d3AV, d3C, RD.av, ratD, dC, rC, numC, ← tens.eq_1, dAV, g1]))
      | with_reducible refine W_drawn mixed (by decide) (by kernel_rfl) ?_
      | (rw [vcnD]; (try simp [-map_take,-map_drop, push_cast, DP.av, d3AV, d3C, RD.av, ratD, dC, rC, numC, ← tens.eq_1, dAV, g1]))
      | fail)
    refine callD_of (e2') rfl rfl rfl ?_
    try dsimp only
    repeat' (first
      | (rw [vcnD]; (try simp [-map_take,-map_drop, push_cast, DP.av, d3AV, d3C, RD.av, ratD, dC, rC, numC, ← tens.eq_1, dAV, g1]))
      | fail)
    refine callD_of (e3') rfl rfl rfl ?_
    try dsimp only
    repeat' (first
      | with_reducible first | apply thenW_n | apply W_seq
      | with_reducible refine W_region (by first | decide | (with_unfolding_all rfl)) ?_
      | (rw [vcn]; (try simp [-map_take,-map_drop, push_cast, DP.av, d3AV, d3C, RD.av, ratD, dC, rC, numC, ← tens.eq_1, dAV, g1]))
      | (rw [vcnD]; (try simp [-map_take,-map_drop, push_cast, DP.av, d3AV, d3C, RD.av, ratD, dC, rC, numC, ← tens.eq_1, dAV, g1]))
      | refine And.intro (by first | omega | kernel_rfl) ?_
      | fail)
    refine CallG_of (e2') rfl rfl rfl ?_
    try dsimp only
    repeat' (first
      | with_reducible first | apply thenW_n | apply W_seq
      | with_reducible refine W_region (by first | decide | (with_unfolding_all rfl)) ?_
      | (rw [vcn]; (try simp [-map_take,-map_drop, push_cast, DP.av, d3AV, d3C, RD.av, ratD, dC, rC, numC, ← tens.eq_1, dAV, g1]))
      | fail)
    refine CallG_of (e4) rfl rfl rfl ?_
    try dsimp only
    repeat' (first
      | with_reducible first | apply thenW_n | apply W_seq
      | with_reducible refine W_region (by first | decide | (with_unfolding_all rfl)) ?_
      | (rw [vcn]; (try simp [-map_take,-map_drop, push_cast, DP.av, d3AV, d3C, RD.av, ratD, dC, rC, numC, ← tens.eq_1, dAV, g1]))
      | fail)
    refine CallG_of (e5) rfl rfl rfl ?_
    try dsimp only
    repeat' (first
      | with_reducible first | apply thenW_n | apply W_seq
      | with_reducible refine W_region (by first | decide | (with_unfolding_all rfl)) ?_
      | (rw [vcn]; (try simp [-map_take,-map_drop, push_cast, DP.av, d3AV, d3C, RD.av, ratD, dC, rC, numC, ← tens.eq_1, dAV, g1]))
      | fail)
    refine CallG_of (e6) rfl rfl rfl ?_
    try dsimp only
    repeat' (first
      | with_reducible first | apply thenW_n | apply W_seq
      | (rw [vcn]; (try simp [-map_take,-map_drop, push_cast, DP.av, d3AV, d3C, RD.av, ratD, dC, rC, numC, ← tens.eq_1, dAV, g1]))
      | with_reducible refine W_drawn mixed (by decide) (by kernel_rfl) ?_
      | (rw [vcnD]; (try simp [-map_take,-map_drop, push_cast, DP.av, d3AV, d3C, RD.av, ratD, dC, rC, numC, ← tens.eq_1, dAV, g1]))
      | fail)
    refine callD_of (e7') rfl rfl rfl ?_
    try dsimp only
    repeat' (first
      | (rw [vcnD]; (try simp [-map_take,-map_drop, push_cast, DP.av, d3AV, d3C, RD.av, ratD, dC, rC, numC, ← tens.eq_1, dAV, g1]))
      | fail)
    refine callD_of (e8) rfl rfl rfl ?_
    try dsimp only
    repeat' (first
      | with_reducible first | apply thenW_n | apply thenW_ret | apply W_seq | apply W_ret
      | with_reducible refine W_region (by first | decide | (with_unfolding_all rfl)) ?_
      | (rw [vcn]; (try simp [-map_take,-map_drop, push_cast, DP.av, d3AV, d3C, RD.av, ratD, dC, rC, numC, ← tens.eq_1, dAV, g1]))
      | (rw [vcnD]; (try simp [-map_take,-map_drop, push_cast, DP.av, d3AV, d3C, RD.av, ratD, dC, rC, numC, ← tens.eq_1, dAV, g1]))
      | (with_reducible refine W_condW ?_; (try simp [-map_take,-map_drop, AS.val, upd, resB, mkS_env, mkS_box, lk, entry_env, condW_true, condW_false, DP.av, d3AV, d3C, RD.av, ratD, dC, rC, numC, ← tens.eq_1, dAV, g1]))
      | refine And.intro (by first | omega | kernel_rfl) ?_
      | fail)
    simp [-map_take,-map_drop, post, resAV, resAll, resOne, closeV, closeC, closeL, resD, resDL, push_cast, DP.av, d3AV, d3C, RD.av, ratD, dC, rC, numC, ← tens.eq_1, dAV]
  · have g1 : (c < 0) = False := eq_false c1
    by_cases c2 : c = 0
    · have g2 : (c = 0) = True := eq_true c2
      have g3 : (c == 0) = true := beq_iff_eq.2 c2
      by_cases c3 : od.sign = 0
      · have g4 : (od.sign = 0) = True := eq_true c3
        have g5 : (od.sign == 0) = true := beq_iff_eq.2 c3
        rw [if_pos (.inr ⟨c2, c3⟩)] at hr
        rw [hr]
        refine Eval.intro Try.func17 rfl Try.call17 _ _ (Nat.le_of_ble_eq_true rfl) (by simp [-map_take,-map_drop, AV.refs, refsL, natAV, rAV, rC, dAV, dC, d3AV, d3C, ratD, RD.av, DP.av, ptI, push_cast]) fun hs0 => ?_
        repeat' (first
          | with_reducible first | apply thenW_n | apply W_seq
          | with_reducible refine W_region (by first | decide | (with_unfolding_all rfl)) ?_
          | (rw [vcn]; (try simp [-map_take,-map_drop, push_cast, DP.av, d3AV, d3C, RD.av, ratD, dC, rC, numC, ← tens.eq_1, dAV, g1, g2, g3, g4, g5]))
          | fail)
        refine CallG_of (e1) rfl rfl rfl ?_
        try dsimp only
        repeat' (first
          | with_reducible first | apply thenW_n | apply W_seq
          | (rw [vcn]; (try simp [-map_take,-map_drop, push_cast, DP.av, d3AV, d3C, RD.av, ratD, dC, rC, numC, ← tens.eq_1, dAV, g1, g2, g3, g4, g5]))
          | with_reducible refine W_drawn mixed (by decide) (by kernel_rfl) ?_
          | (rw [vcnD]; (try simp [-map_take,-map_drop, push_cast, DP.av, d3AV, d3C, RD.av, ratD, dC, rC, numC, ← tens.eq_1, dAV, g1, g2, g3, g4, g5]))
          | fail)
        refine callD_of (e2') rfl rfl rfl ?_
        try dsimp only
        repeat' (first
          | (rw [vcnD]; (try simp [-map_take,-map_drop, push_cast, DP.av, d3AV, d3C, RD.av, ratD, dC, rC, numC, ← tens.eq_1, dAV, g1, g2, g3, g4, g5]))
          | fail)
        refine callD_of (e3') rfl rfl rfl ?_
        try dsimp only
        repeat' (first
          | with_reducible first | apply thenW_n | apply W_seq
          | with_reducible refine W_region (by first | decide | (with_unfolding_all rfl)) ?_
          | (rw [vcn]; (try simp [-map_take,-map_drop, push_cast, DP.av, d3AV, d3C, RD.av, ratD, dC, rC, numC, ← tens.eq_1, dAV, g1, g2, g3, g4, g5]))
          | (rw [vcnD]; (try simp [-map_take,-map_drop, push_cast, DP.av, d3AV, d3C, RD.av, ratD, dC, rC, numC, ← tens.eq_1, dAV, g1, g2, g3, g4, g5]))
          | refine And.intro (by first | omega | kernel_rfl) ?_
          | fail)
        refine CallG_of (e2') rfl rfl rfl ?_
        try dsimp only
        repeat' (first
          | with_reducible first | apply thenW_n | apply W_seq
          | with_reducible refine W_region (by first | decide | (with_unfolding_all rfl)) ?_
          | (rw [vcn]; (try simp [-map_take,-map_drop, push_cast, DP.av, d3AV, d3C, RD.av, ratD, dC, rC, numC, ← tens.eq_1, dAV, g1, g2, g3, g4, g5]))
          | fail)
        refine CallG_of (e4) rfl rfl rfl ?_
        try dsimp only
        repeat' (first
          | with_reducible first | apply thenW_n | apply W_seq
          | with_reducible refine W_region (by first | decide | (with_unfolding_all rfl)) ?_
          | (rw [vcn]; (try simp [-map_take,-map_drop, push_cast, DP.av, d3AV, d3C, RD.av, ratD, dC, rC, numC, ← tens.eq_1, dAV, g1, g2, g3, g4, g5]))
          | fail)
        refine CallG_of (e5) rfl rfl rfl ?_
        try dsimp only
        repeat' (first
          | with_reducible first | apply thenW_n | apply W_seq
          | with_reducible refine W_region (by first | decide | (with_unfolding_all rfl)) ?_
          | (rw [vcn]; (try simp [-map_take,-map_drop, push_cast, DP.av, d3AV, d3C, RD.av, ratD, dC, rC, numC, ← tens.eq_1, dAV, g1, g2, g3, g4, g5]))
          | fail)
        refine CallG_of (e6) rfl rfl rfl ?_
        try dsimp only
        repeat' (first
          | with_reducible first | apply thenW_n | apply W_seq
          | (rw [vcn]; (try simp [-map_take,-map_drop, push_cast, DP.av, d3AV, d3C, RD.av, ratD, dC, rC, numC, ← tens.eq_1, dAV, g1, g2, g3, g4, g5]))
          | with_reducible refine W_drawn mixed (by decide) (by kernel_rfl) ?_
          | (rw [vcnD]; (try simp [-map_take,-map_drop, push_cast, DP.av, d3AV, d3C, RD.av, ratD, dC, rC, numC, ← tens.eq_1, dAV, g1, g2, g3, g4, g5]))
          | fail)
        refine callD_of (e7') rfl rfl rfl ?_
        try dsimp only
        repeat' (first
          | (rw [vcnD]; (try simp [-map_take,-map_drop, push_cast, DP.av, d3AV, d3C, RD.av, ratD, dC, rC, numC, ← tens.eq_1, dAV, g1, g2, g3, g4, g5]))
          | fail)
        refine callD_of (e8) rfl rfl rfl ?_
        try dsimp only
        repeat' (first
          | with_reducible first | apply thenW_n | apply thenW_ret | apply W_seq | apply W_ret
          | with_reducible refine W_region (by first | decide | (with_unfolding_all rfl)) ?_
          | (rw [vcn]; (try simp [-map_take,-map_drop, push_cast, DP.av, d3AV, d3C, RD.av, ratD, dC, rC, numC, ← tens.eq_1, dAV, g1, g2, g3, g4, g5]))
          | (rw [vcnD]; (try simp [-map_take,-map_drop, push_cast, DP.av, d3AV, d3C, RD.av, ratD, dC, rC, numC, ← tens.eq_1, dAV, g1, g2, g3, g4, g5]))
          | (with_reducible refine W_condW ?_; (try simp [-map_take,-map_drop, AS.val, upd, resB, mkS_env, mkS_box, lk, entry_env, condW_true, condW_false, DP.av, d3AV, d3C, RD.av, ratD, dC, rC, numC, ← tens.eq_1, dAV, g1, g2, g3, g4, g5]))
          | refine And.intro (by first | omega | kernel_rfl) ?_
          | fail)
        simp [-map_take,-map_drop, post, resAV, resAll, resOne, closeV, closeC, closeL, resD, resDL, push_cast, DP.av, d3AV, d3C, RD.av, ratD, dC, rC, numC, ← tens.eq_1, dAV]
      · have g4 : (od.sign = 0) = False := eq_false c3
        have g5 : (od.sign == 0) = false := beq_eq_false_iff_ne.2 c3
        rw [if_neg (fun h => h.elim c1 (fun h => c3 h.2))] at hr
        rw [hr]
        refine Eval.intro Try.func17 rfl Try.call17 _ _ (Nat.le_of_ble_eq_true rfl) (by simp [-map_take,-map_drop, AV.refs, refsL, natAV, rAV, rC, dAV, dC, d3AV, d3C, ratD, RD.av, DP.av, ptI, push_cast]) fun hs0 => ?_
        repeat' (first
          | with_reducible first | apply thenW_n | apply W_seq
          | with_reducible refine W_region (by first | decide | (with_unfolding_all rfl)) ?_
          | (rw [vcn]; (try simp [-map_take,-map_drop, push_cast, DP.av, d3AV, d3C, RD.av, ratD, dC, rC, numC, ← tens.eq_1, dAV, g1, g2, g3, g4, g5]))
          | fail)
        refine CallG_of (e1) rfl rfl rfl ?_
        try dsimp only
        repeat' (first
          | with_reducible first | apply thenW_n | apply W_seq
          | (rw [vcn]; (try simp [-map_take,-map_drop, push_cast, DP.av, d3AV, d3C, RD.av, ratD, dC, rC, numC, ← tens.eq_1, dAV, g1, g2, g3, g4, g5]))
          | with_reducible refine W_drawn mixed (by decide) (by kernel_rfl) ?_
          | (rw [vcnD]; (try simp [-map_take,-map_drop, push_cast, DP.av, d3AV, d3C, RD.av, ratD, dC, rC, numC, ← tens.eq_1, dAV, g1, g2, g3, g4, g5]))
          | fail)
        refine callD_of (e2') rfl rfl rfl ?_
        try dsimp only
        repeat' (first
          | (rw [vcnD]; (try simp [-map_take,-map_drop, push_cast, DP.av, d3AV, d3C, RD.av, ratD, dC, rC, numC, ← tens.eq_1, dAV, g1, g2, g3, g4, g5]))
          | fail)
        refine callD_of (e3') rfl rfl rfl ?_
        try dsimp only
        repeat' (first
          | with_reducible first | apply thenW_n | apply W_seq
          | with_reducible refine W_region (by first | decide | (with_unfolding_all rfl)) ?_
          | (rw [vcn]; (try simp [-map_take,-map_drop, push_cast, DP.av, d3AV, d3C, RD.av, ratD, dC, rC, numC, ← tens.eq_1, dAV, g1, g2, g3, g4, g5]))
          | (rw [vcnD]; (try simp [-map_take,-map_drop, push_cast, DP.av, d3AV, d3C, RD.av, ratD, dC, rC, numC, ← tens.eq_1, dAV, g1, g2, g3, g4, g5]))
          | refine And.intro (by first | omega | kernel_rfl) ?_
          | fail)
        refine CallG_of (e2') rfl rfl rfl ?_
        try dsimp only
        repeat' (first
          | with_reducible first | apply thenW_n | apply W_seq
          | with_reducible refine W_region (by first | decide | (with_unfolding_all rfl)) ?_
          | (rw [vcn]; (try simp [-map_take,-map_drop, push_cast, DP.av, d3AV, d3C, RD.av, ratD, dC, rC, numC, ← tens.eq_1, dAV, g1, g2, g3, g4, g5]))
          | fail)
        refine CallG_of (e4) rfl rfl rfl ?_
        try dsimp only
        repeat' (first
          | with_reducible first | apply thenW_n | apply W_seq
          | with_reducible refine W_region (by first | decide | (with_unfolding_all rfl)) ?_
          | (rw [vcn]; (try simp [-map_take,-map_drop, push_cast, DP.av, d3AV, d3C, RD.av, ratD, dC, rC, numC, ← tens.eq_1, dAV, g1, g2, g3, g4, g5]))
          | fail)
        refine CallG_of (e5) rfl rfl rfl ?_
        try dsimp only
        repeat' (first
          | with_reducible first | apply thenW_n | apply W_seq
          | with_reducible refine W_region (by first | decide | (with_unfolding_all rfl)) ?_
          | (rw [vcn]; (try simp [-map_take,-map_drop, push_cast, DP.av, d3AV, d3C, RD.av, ratD, dC, rC, numC, ← tens.eq_1, dAV, g1, g2, g3, g4, g5]))
          | fail)
        refine CallG_of (e6) rfl rfl rfl ?_
        try dsimp only
        repeat' (first
          | with_reducible first | apply thenW_n | apply W_seq
          | (rw [vcn]; (try simp [-map_take,-map_drop, push_cast, DP.av, d3AV, d3C, RD.av, ratD, dC, rC, numC, ← tens.eq_1, dAV, g1, g2, g3, g4, g5]))
          | with_reducible refine W_drawn mixed (by decide) (by kernel_rfl) ?_
          | (rw [vcnD]; (try simp [-map_take,-map_drop, push_cast, DP.av, d3AV, d3C, RD.av, ratD, dC, rC, numC, ← tens.eq_1, dAV, g1, g2, g3, g4, g5]))
          | fail)
        refine callD_of (e7') rfl rfl rfl ?_
        try dsimp only
        repeat' (first
          | (rw [vcnD]; (try simp [-map_take,-map_drop, push_cast, DP.av, d3AV, d3C, RD.av, ratD, dC, rC, numC, ← tens.eq_1, dAV, g1, g2, g3, g4, g5]))
          | fail)
        refine callD_of (e8) rfl rfl rfl ?_
        try dsimp only
        repeat' (first
          | with_reducible first | apply thenW_n | apply W_seq | apply W_skip | apply W_ret
          | with_reducible refine W_region (by first | decide | (with_unfolding_all rfl)) ?_
          | (rw [vcn]; (try simp [-map_take,-map_drop, push_cast, DP.av, d3AV, d3C, RD.av, ratD, dC, rC, numC, ← tens.eq_1, dAV, g1, g2, g3, g4, g5]))
          | (rw [vcnD]; (try simp [-map_take,-map_drop, push_cast, DP.av, d3AV, d3C, RD.av, ratD, dC, rC, numC, ← tens.eq_1, dAV, g1, g2, g3, g4, g5]))
          | (with_reducible refine W_condW ?_; (try simp [-map_take,-map_drop, AS.val, upd, resB, mkS_env, mkS_box, lk, entry_env, condW_true, condW_false, DP.av, d3AV, d3C, RD.av, ratD, dC, rC, numC, ← tens.eq_1, dAV, g1, g2, g3, g4, g5]))
          | refine And.intro (by first | omega | kernel_rfl) ?_
          | fail)
        simp [-map_take,-map_drop, post, resAV, resAll, resOne, closeV, closeC, closeL, resD, resDL, push_cast, DP.av, d3AV, d3C, RD.av, ratD, dC, rC, numC, ← tens.eq_1, dAV]
    · have g2 : (c = 0) = False := eq_false c2
      have g3 : (c == 0) = false := beq_eq_false_iff_ne.2 c2
      rw [if_neg (fun h => h.elim c1 (fun h => c2 h.1))] at hr
      rw [hr]
      refine Eval.intro Try.func17 rfl Try.call17 _ _ (Nat.le_of_ble_eq_true rfl) (by simp [-map_take,-map_drop, AV.refs, refsL, natAV, rAV, rC, dAV, dC, d3AV, d3C, ratD, RD.av, DP.av, ptI, push_cast]) fun hs0 => ?_
      repeat' (first
        | with_reducible first | apply thenW_n | apply W_seq
        | with_reducible refine W_region (by first | decide | (with_unfolding_all rfl)) ?_
        | (rw [vcn]; (try simp [-map_take,-map_drop, push_cast, DP.av, d3AV, d3C, RD.av, ratD, dC, rC, numC, ← tens.eq_1, dAV, g1, g2, g3]))
        | fail)
      refine CallG_of (e1) rfl rfl rfl ?_
      try dsimp only
      repeat' (first
        | with_reducible first | apply thenW_n | apply W_seq
        | (rw [vcn]; (try simp [-map_take,-map_drop, push_cast, DP.av, d3AV, d3C, RD.av, ratD, dC, rC, numC, ← tens.eq_1, dAV, g1, g2, g3]))
        | with_reducible refine W_drawn mixed (by decide) (by kernel_rfl) ?_
        | (rw [vcnD]; (try simp [-map_take,-map_drop, push_cast, DP.av, d3AV, d3C, RD.av, ratD, dC, rC, numC, ← tens.eq_1, dAV, g1, g2, g3]))
        | fail)
      refine callD_of (e2') rfl rfl rfl ?_
      try dsimp only
      repeat' (first
        | (rw [vcnD]; (try simp [-map_take,-map_drop, push_cast, DP.av, d3AV, d3C, RD.av, ratD, dC, rC, numC, ← tens.eq_1, dAV, g1, g2, g3]))
        | fail)
      refine callD_of (e3') rfl rfl rfl ?_
      try dsimp only
      repeat' (first
        | with_reducible first | apply thenW_n | apply W_seq
        | with_reducible refine W_region (by first | decide | (with_unfolding_all rfl)) ?_
        | (rw [vcn]; (try simp [-map_take,-map_drop, push_cast, DP.av, d3AV, d3C, RD.av, ratD, dC, rC, numC, ← tens.eq_1, dAV, g1, g2, g3]))
        | (rw [vcnD]; (try simp [-map_take,-map_drop, push_cast, DP.av, d3AV, d3C, RD.av, ratD, dC, rC, numC, ← tens.eq_1, dAV, g1, g2, g3]))
        | refine And.intro (by first | omega | kernel_rfl) ?_
        | fail)
      refine CallG_of (e2') rfl rfl rfl ?_
      try dsimp only
      repeat' (first
        | with_reducible first | apply thenW_n | apply W_seq
        | with_reducible refine W_region (by first | decide | (with_unfolding_all rfl)) ?_
        | (rw [vcn]; (try simp [-map_take,-map_drop, push_cast, DP.av, d3AV, d3C, RD.av, ratD, dC, rC, numC, ← tens.eq_1, dAV, g1, g2, g3]))
        | fail)
      refine CallG_of (e4) rfl rfl rfl ?_
      try dsimp only
      repeat' (first
        | with_reducible first | apply thenW_n | apply W_seq
        | with_reducible refine W_region (by first | decide | (with_unfolding_all rfl)) ?_
        | (rw [vcn]; (try simp [-map_take,-map_drop, push_cast, DP.av, d3AV, d3C, RD.av, ratD, dC, rC, numC, ← tens.eq_1, dAV, g1, g2, g3]))
        | fail)
      refine CallG_of (e5) rfl rfl rfl ?_
      try dsimp only
      repeat' (first
        | with_reducible first | apply thenW_n | apply W_seq
        | with_reducible refine W_region (by first | decide | (with_unfolding_all rfl)) ?_
        | (rw [vcn]; (try simp [-map_take,-map_drop, push_cast, DP.av, d3AV, d3C, RD.av, ratD, dC, rC, numC, ← tens.eq_1, dAV, g1, g2, g3]))
        | fail)
      refine CallG_of (e6) rfl rfl rfl ?_
      try dsimp only
      repeat' (first
        | with_reducible first | apply thenW_n | apply W_seq
        | (rw [vcn]; (try simp [-map_take,-map_drop, push_cast, DP.av, d3AV, d3C, RD.av, ratD, dC, rC, numC, ← tens.eq_1, dAV, g1, g2, g3]))
        | with_reducible refine W_drawn mixed (by decide) (by kernel_rfl) ?_
        | (rw [vcnD]; (try simp [-map_take,-map_drop, push_cast, DP.av, d3AV, d3C, RD.av, ratD, dC, rC, numC, ← tens.eq_1, dAV, g1, g2, g3]))
        | fail)
      refine callD_of (e7') rfl rfl rfl ?_
      try dsimp only
      repeat' (first
        | (rw [vcnD]; (try simp [-map_take,-map_drop, push_cast, DP.av, d3AV, d3C, RD.av, ratD, dC, rC, numC, ← tens.eq_1, dAV, g1, g2, g3]))
        | fail)
      refine callD_of (e8) rfl rfl rfl ?_
      try dsimp only
      repeat' (first
        | with_reducible first | apply thenW_n | apply W_seq | apply W_skip | apply W_ret
        | with_reducible refine W_region (by first | decide | (with_unfolding_all rfl)) ?_
        | (rw [vcn]; (try simp [-map_take,-map_drop, push_cast, DP.av, d3AV, d3C, RD.av, ratD, dC, rC, numC, ← tens.eq_1, dAV, g1, g2, g3]))
        | (rw [vcnD]; (try simp [-map_take,-map_drop, push_cast, DP.av, d3AV, d3C, RD.av, ratD, dC, rC, numC, ← tens.eq_1, dAV, g1, g2, g3]))
        | (with_reducible refine W_condW ?_; (try simp [-map_take,-map_drop, AS.val, upd, resB, mkS_env, mkS_box, lk, entry_env, condW_true, condW_false, DP.av, d3AV, d3C, RD.av, ratD, dC, rC, numC, ← tens.eq_1, dAV, g1, g2, g3]))
        | refine And.intro (by first | omega | kernel_rfl) ?_
        | fail)
      simp [-map_take,-map_drop, post, resAV, resAll, resOne, closeV, closeC, closeL, resD, resDL, push_cast, DP.av, d3AV, d3C, RD.av, ratD, dC, rC, numC, ← tens.eq_1, dAV]

theorem int08_ok (z : Int) (h : szD z ≤ 1000000) : Eval Try.prog 16 [dAV z] (.ret (.tup [i64V (intR z), boolV (decide (inR z))])) := by
  have e1 := of02_ok (-2147483648) (by unfold inI; omega)
  have e2 := of02_ok 2147483647 (by unfold inI; omega)
  have e3 := cmp02_ok z (-2147483648)
  have e4 := cmp02_ok z 2147483647
  have k1 : cmpZ z (-2147483648) < 0 ↔ z < -2147483648 := by unfold cmpZ; split <;> (try split) <;> omega
  have k2 : 0 < cmpZ z 2147483647 ↔ 2147483647 < z := by unfold cmpZ; split <;> (try split) <;> omega
  obtain ⟨lo, h1⟩ : ∃ o : Int, o = -2147483648 := ⟨_, rfl⟩
  obtain ⟨hi, h2⟩ : ∃ o : Int, o = 2147483647 := ⟨_, rfl⟩
  have e1' : Eval Try.prog 14 [i64V (-2147483648)] (.ret (dAV lo)) := by rw [h1]; exact e1
  have e2' : Eval Try.prog 14 [i64V 2147483647] (.ret (dAV hi)) := by rw [h2]; exact e2
  rw [← h1] at e3
  rw [← h2] at e4
  rw [← h1] at k1
  rw [← h2] at k2
  obtain ⟨c, nm_⟩ : ∃ nm0_, nm0_ = cmpZ z lo := ⟨_, rfl⟩
  simp only [← nm_] at e3 k1
  clear nm_
  obtain ⟨d, nm_⟩ : ∃ nm0_, nm0_ = cmpZ z hi := ⟨_, rfl⟩
  simp only [← nm_] at e4 k2
  clear nm_
  clear e1 e2
  by_cases hlo : z < -2147483648
  · have g1 : (c < 0) = True := eq_true (k1.2 (by rw [h1]; exact hlo))
    have hn : ¬ inR z := fun k => by unfold inR at k; omega
    have r1 : intR z = 0 := by unfold intR; rw [if_neg hn]
    rw [r1, decide_eq_false hn]
    refine Eval.intro Try.func16 rfl Try.call16 _ _ (Nat.le_of_ble_eq_true rfl) (by simp [-map_take,-map_drop, AV.refs, refsL, natAV, rAV, rC, dAV, dC, d3AV, d3C, ratD, RD.av, DP.av, ptI, push_cast]) fun hs0 => ?_
    repeat' (first
      | with_reducible first | apply thenW_n | apply W_seq
      | with_reducible refine W_region (by first | decide | (with_unfolding_all rfl)) ?_
      | (rw [vcn]; (try simp [-map_take,-map_drop, push_cast, DP.av, d3AV, d3C, RD.av, ratD, dC, rC, numC, ← tens.eq_1, dAV, g1]))
      | with_reducible refine W_drawn mixed (by decide) (by kernel_rfl) ?_
      | (rw [vcnD]; (try simp [-map_take,-map_drop, push_cast, DP.av, d3AV, d3C, RD.av, ratD, dC, rC, numC, ← tens.eq_1, dAV, g1]))
      | fail)
    refine callD_of (e1') rfl rfl rfl ?_
    try dsimp only
    repeat' (first
      | (rw [vcnD]; (try simp [-map_take,-map_drop, push_cast, DP.av, d3AV, d3C, RD.av, ratD, dC, rC, numC, ← tens.eq_1, dAV, g1]))
      | fail)
    refine callD_of (e3) rfl rfl rfl ?_
    try dsimp only
    repeat' (first
      | with_reducible first | apply thenW_n | apply thenW_ret | apply W_seq | apply W_ret
      | with_reducible refine W_region (by first | decide | (with_unfolding_all rfl)) ?_
      | (rw [vcn]; (try simp [-map_take,-map_drop, push_cast, DP.av, d3AV, d3C, RD.av, ratD, dC, rC, numC, ← tens.eq_1, dAV, g1]))
      | (rw [vcnD]; (try simp [-map_take,-map_drop, push_cast, DP.av, d3AV, d3C, RD.av, ratD, dC, rC, numC, ← tens.eq_1, dAV, g1]))
      | (with_reducible refine W_condW ?_; (try simp [-map_take,-map_drop, AS.val, upd, resB, mkS_env, mkS_box, lk, entry_env, condW_true, condW_false, DP.av, d3AV, d3C, RD.av, ratD, dC, rC, numC, ← tens.eq_1, dAV, g1]))
      | refine And.intro (by first | omega | kernel_rfl) ?_
      | fail)
    simp [-map_take,-map_drop, post, resAV, resAll, resOne, closeV, closeC, closeL, resD, resDL, push_cast]
  have g1 : (c < 0) = False := eq_false (fun k => hlo (by have := k1.1 k; rw [h1] at this; exact this))
  by_cases hhi : 2147483647 < z
  · have g2 : (0 < d) = True := eq_true (k2.2 (by rw [h2]; exact hhi))
    have hn : ¬ inR z := fun k => by unfold inR at k; omega
    have r1 : intR z = 0 := by unfold intR; rw [if_neg hn]
    rw [r1, decide_eq_false hn]
    refine Eval.intro Try.func16 rfl Try.call16 _ _ (Nat.le_of_ble_eq_true rfl) (by simp [-map_take,-map_drop, AV.refs, refsL, natAV, rAV, rC, dAV, dC, d3AV, d3C, ratD, RD.av, DP.av, ptI, push_cast]) fun hs0 => ?_
    repeat' (first
      | with_reducible first | apply thenW_n | apply W_seq
      | with_reducible refine W_region (by first | decide | (with_unfolding_all rfl)) ?_
      | (rw [vcn]; (try simp [-map_take,-map_drop, push_cast, DP.av, d3AV, d3C, RD.av, ratD, dC, rC, numC, ← tens.eq_1, dAV, g1, g2]))
      | with_reducible refine W_drawn mixed (by decide) (by kernel_rfl) ?_
      | (rw [vcnD]; (try simp [-map_take,-map_drop, push_cast, DP.av, d3AV, d3C, RD.av, ratD, dC, rC, numC, ← tens.eq_1, dAV, g1, g2]))
      | fail)
    refine callD_of (e1') rfl rfl rfl ?_
    try dsimp only
    repeat' (first
      | (rw [vcnD]; (try simp [-map_take,-map_drop, push_cast, DP.av, d3AV, d3C, RD.av, ratD, dC, rC, numC, ← tens.eq_1, dAV, g1, g2]))
      | fail)
    refine callD_of (e3) rfl rfl rfl ?_
    try dsimp only
    repeat' (first
      | (rw [vcnD]; (try simp [-map_take,-map_drop, push_cast, DP.av, d3AV, d3C, RD.av, ratD, dC, rC, numC, ← tens.eq_1, dAV, g1, g2]))
      | fail)
    refine callD_of (e2') rfl rfl rfl ?_
    try dsimp only
    repeat' (first
      | (rw [vcnD]; (try simp [-map_take,-map_drop, push_cast, DP.av, d3AV, d3C, RD.av, ratD, dC, rC, numC, ← tens.eq_1, dAV, g1, g2]))
      | fail)
    refine callD_of (e4) rfl rfl rfl ?_
    try dsimp only
    repeat' (first
      | with_reducible first | apply thenW_n | apply thenW_ret | apply W_seq | apply W_ret
      | with_reducible refine W_region (by first | decide | (with_unfolding_all rfl)) ?_
      | (rw [vcn]; (try simp [-map_take,-map_drop, push_cast, DP.av, d3AV, d3C, RD.av, ratD, dC, rC, numC, ← tens.eq_1, dAV, g1, g2]))
      | (rw [vcnD]; (try simp [-map_take,-map_drop, push_cast, DP.av, d3AV, d3C, RD.av, ratD, dC, rC, numC, ← tens.eq_1, dAV, g1, g2]))
      | (with_reducible refine W_condW ?_; (try simp [-map_take,-map_drop, AS.val, upd, resB, mkS_env, mkS_box, lk, entry_env, condW_true, condW_false, DP.av, d3AV, d3C, RD.av, ratD, dC, rC, numC, ← tens.eq_1, dAV, g1, g2]))
      | refine And.intro (by first | omega | kernel_rfl) ?_
      | fail)
    simp [-map_take,-map_drop, post, resAV, resAll, resOne, closeV, closeC, closeL, resD, resDL, push_cast]
  have g2 : (0 < d) = False := eq_false (fun k => hhi (by have := k2.1 k; rw [h2] at this; exact this))
  have hn : inR z := by unfold inR; omega
  have r1 : intR z = z := by unfold intR; rw [if_pos hn]
  rw [r1, decide_eq_true hn]
  obtain ⟨n, hnn⟩ : ∃ n, n = z.natAbs := ⟨_, rfl⟩
  have hn31 : n ≤ 2147483648 := by omega
  obtain ⟨L, hL⟩ : ∃ L, L = (tens n).length := ⟨_, rfl⟩
  have hLs : L ≤ 1000000 := by rw [hL, hnn]; exact h
  have w1 : IntKind.i64.wrap ((L : Int) - 1) = (L : Int) - 1 := i64_in _ (by omega)
  have hzs : (n : Int) * z.sign = z := by rw [hnn, Int.mul_comm]; exact Int.sign_mul_natAbs z
  have hv0 : val B4 ((tens n).drop L) = 0 := by rw [hL, List.drop_length]; rfl
  clear k1 k2 hlo hhi h1 h2
  refine Eval.intro Try.func16 rfl Try.call16 _ _ (Nat.le_of_ble_eq_true rfl) (by simp [-map_take,-map_drop, AV.refs, refsL, natAV, rAV, rC, dAV, dC, d3AV, d3C, ratD, RD.av, DP.av, ptI, push_cast]) fun hs0 => ?_
  repeat' (first
    | with_reducible first | apply thenW_n | apply W_seq
    | with_reducible refine W_region (by first | decide | (with_unfolding_all rfl)) ?_
    | (rw [vcn]; (try simp [-map_take,-map_drop, push_cast, DP.av, d3AV, d3C, RD.av, ratD, dC, rC, numC, ← tens.eq_1, dAV, ← hnn, ← hL]))
    | with_reducible refine W_drawn mixed (by decide) (by kernel_rfl) ?_
    | (rw [vcnD]; (try simp [-map_take,-map_drop, push_cast, DP.av, d3AV, d3C, RD.av, ratD, dC, rC, numC, ← tens.eq_1, dAV, ← hnn, ← hL]))
    | fail)
  refine callD_of (e1') rfl rfl rfl ?_
  try dsimp only
  repeat' (first
    | (rw [vcnD]; (try simp [-map_take,-map_drop, push_cast, DP.av, d3AV, d3C, RD.av, ratD, dC, rC, numC, ← tens.eq_1, dAV, ← hnn, ← hL]))
    | fail)
  refine callD_of (e3) (by simp [-map_take,-map_drop, natAV, numC, ← limbs.eq_1, push_cast, DP.av, d3AV, d3C, RD.av, ratD, dC, rC, numC, ← tens.eq_1, dAV, ← hnn, ← hL]) rfl rfl ?_
  try dsimp only
  repeat' (first
    | (rw [vcnD]; (try simp [-map_take,-map_drop, push_cast, DP.av, d3AV, d3C, RD.av, ratD, dC, rC, numC, ← tens.eq_1, dAV, ← hnn, ← hL, g1]))
    | fail)
  refine callD_of (e2') rfl rfl rfl ?_
  try dsimp only
  repeat' (first
    | (rw [vcnD]; (try simp [-map_take,-map_drop, push_cast, DP.av, d3AV, d3C, RD.av, ratD, dC, rC, numC, ← tens.eq_1, dAV, ← hnn, ← hL]))
    | fail)
  refine callD_of (e4) (by simp [-map_take,-map_drop, natAV, numC, ← limbs.eq_1, push_cast, DP.av, d3AV, d3C, RD.av, ratD, dC, rC, numC, ← tens.eq_1, dAV, ← hnn, ← hL]) rfl rfl ?_
  try dsimp only
  repeat' (first
    | with_reducible first | apply thenW_n | apply W_seq | apply W_block | apply W_skip
    | with_reducible refine W_region (by first | decide | (with_unfolding_all rfl)) ?_
    | (rw [vcn]; (try simp [-map_take,-map_drop, push_cast, DP.av, d3AV, d3C, RD.av, ratD, dC, rC, numC, ← tens.eq_1, dAV, ← hnn, ← hL, g2, w1]))
    | (rw [vcnD]; (try simp [-map_take,-map_drop, push_cast, DP.av, d3AV, d3C, RD.av, ratD, dC, rC, numC, ← tens.eq_1, dAV, ← hnn, ← hL, g2, w1]))
    | (with_reducible refine W_condW ?_; (try simp [-map_take,-map_drop, AS.val, upd, resB, mkS_env, mkS_box, lk, entry_env, condW_true, condW_false, DP.av, d3AV, d3C, RD.av, ratD, dC, rC, numC, ← tens.eq_1, dAV, ← hnn, ← hL, g2, w1]))
    | refine And.intro (by first | omega | kernel_rfl) ?_
    | fail)
  refine W_loopW (X := Nat) (fun j => [(1, .bp 1 0), (4, i64V ((val B4 ((tens n).drop j) : Nat) : Int)), (5, i64V ((j : Int) - 1))]) (fun _ => [(1, .mut 32 [i64V z.sign, rC n])])
    (fun j => j) (fun j => j ≤ L) L id (Nat.le_refl _) ⟨?_, ?_, ?_, ?_, ?_, ?_⟩ fun j hj => ?_
  all_goals first | (with_reducible refine W_id ?_) | (simp [-map_take,-map_drop, push_cast, dV_take, dV_drop, DP.av, d3AV, d3C, RD.av, ratD, dC, rC, numC, ← tens.eq_1, dAV, ← hnn, ← hL, hv0]; done)
  have hle : val B4 ((tens n).drop j) ≤ n := by
    have h1 := val_split B4 (tens n) j (by omega)
    rw [val_tens] at h1
    have h2 : 1 * val B4 ((tens n).drop j) ≤ B4 ^ j * val B4 ((tens n).drop j) := Nat.mul_le_mul_right _ (Nat.pow_pos (by decide))
    omega
  rcases Nat.eq_zero_or_pos j with h0 | h0
  · subst h0
    have hv : val B4 ((tens n).drop 0) = n := by rw [List.drop_zero, val_tens]
    have w2 : IntKind.i64.wrap ((n : Int) * z.sign) = z := by rw [hzs]; exact i64_in _ (by unfold inR at hn; omega)
    rw [hv]
    repeat' (first
      | with_reducible first | apply thenW_n | apply thenW_exit | apply blockW_same | apply loopW_exit | apply W_seq | apply W_ret | apply W_exit
      | with_reducible refine W_region (by first | decide | (with_unfolding_all rfl)) ?_
      | (rw [vcn]; (try simp [-map_take,-map_drop, push_cast, DP.av, d3AV, d3C, RD.av, ratD, dC, rC, numC, ← tens.eq_1, dAV, ← hL, w2]))
      | (with_reducible refine W_condW ?_; (try simp [-map_take,-map_drop, AS.val, upd, resB, mkS_env, mkS_box, lk, entry_env, condW_true, condW_false, DP.av, d3AV, d3C, RD.av, ratD, dC, rC, numC, ← tens.eq_1, dAV, ← hL, w2]))
      | fail)
    simp [-map_take,-map_drop, post, resAV, resAll, resOne, closeV, closeC, closeL, resD, resDL, push_cast, DP.av, d3AV, d3C, RD.av, ratD, dC, rC, numC, ← tens.eq_1, dAV]
  · obtain ⟨i, rfl⟩ : ∃ i, j = i + 1 := ⟨j - 1, by omega⟩
    have hji : ((i + 1 : Nat) : Int) - 1 = (i : Int) := by omega
    have hvd : val B4 ((tens n).drop i) = dg (tens n) i + 10000 * val B4 ((tens n).drop (i + 1)) := val_drop B4 (tens n) i
    have hle2 : val B4 ((tens n).drop i) ≤ n := by
      have h1 := val_split B4 (tens n) i (by omega)
      rw [val_tens] at h1
      have h2 : 1 * val B4 ((tens n).drop i) ≤ B4 ^ i * val B4 ((tens n).drop i) := Nat.mul_le_mul_right _ (Nat.pow_pos (by decide))
      omega
    have hd4 : dg (tens n) i < 10000 := dg_lt (by decide) (tens_lt n) i
    have w3 : IntKind.i64.wrap (10000 * ((val B4 ((tens n).drop (i + 1)) : Nat) : Int)) = 10000 * ((val B4 ((tens n).drop (i + 1)) : Nat) : Int) := i64_in _ (by omega)
    have w4 : IntKind.i64.wrap (10000 * ((val B4 ((tens n).drop (i + 1)) : Nat) : Int) + (dg (tens n) i : Int)) = ((val B4 ((tens n).drop i) : Nat) : Int) := by rw [i64_in _ (by omega)]; omega
    have w5 : IntKind.i64.wrap ((i : Int) - 1) = (i : Int) - 1 := i64_in _ (by omega)
    have hil : i < (tens n).length := by omega
    rw [hji]
    repeat' (first
      | with_reducible first | apply thenW_n | apply blockW_n | apply W_seq | apply W_block | apply W_skip
      | with_reducible refine W_region (by first | decide | (with_unfolding_all rfl)) ?_
      | (rw [vcn]; (try simp [-map_take,-map_drop, push_cast, DP.av, d3AV, d3C, RD.av, ratD, dC, rC, numC, ← tens.eq_1, dAV, ← hL, w3, w4, w5]))
      | (with_reducible refine W_condW ?_; (try simp [-map_take,-map_drop, AS.val, upd, resB, mkS_env, mkS_box, lk, entry_env, condW_true, condW_false, DP.av, d3AV, d3C, RD.av, ratD, dC, rC, numC, ← tens.eq_1, dAV, ← hL, w3, w4, w5]))
      | (with_reducible refine optK_dV (by first | omega | (simp [-map_take,-map_drop]; omega)) ?_)
      | refine And.intro (by first | omega | kernel_rfl) ?_
      | fail)
    refine loopW_n i id (by omega) (by omega) ⟨?_, ?_, ?_, ?_, ?_, ?_⟩
    all_goals first | (simp [-map_take,-map_drop, push_cast, dV_take, dV_drop, DP.av, d3AV, d3C, RD.av, ratD, dC, rC, numC, ← tens.eq_1, dAV, ← hnn, ← hL]; done)
end Go.Fw

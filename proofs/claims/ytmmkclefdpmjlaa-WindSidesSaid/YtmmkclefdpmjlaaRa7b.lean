import Derived.Test.YtmmkclefdpmjlaaRa4b
import Derived.Test.YtmmkclefdpmjlaaW1b
import Derived.Test.YtmmkclefdpmjlaaY1
import Derived.Test.YtmmkclefdpmjlaaW3
import Derived.Test.YtmmkclefdpmjlaaNd
set_option linter.unusedSimpArgs false
set_option linter.unusedVariables false
namespace Go.Fw
open Go
def shX (l : List FP) (i j : Nat) : Rat := (l.getD i nilF).x.q * (l.getD j nilF).y.q - (l.getD i nilF).y.q * (l.getD j nilF).x.q
def shS (l : List FP) : Nat → Rat
  | 0 => 0
  | k + 1 => shS l k + shX l k (k + 1)
def fanT (l : List FP) : Nat → Rat
  | 0 => 0
  | k + 1 => fanT l k + cross (l.getD 0 nilF).v (l.getD (k + 1) nilF).v (l.getD (k + 2) nilF).v
theorem fan_sh (l : List FP) : ∀ k, fanT l k = shS l (k + 1) + shX l (k + 1) 0
  | 0 => by
    show (0 : Rat) = 0 + shX l 0 1 + shX l 1 0
    unfold shX
    grind
  | k + 1 => by
    show fanT l k + cross _ _ _ = shS l (k + 1) + shX l (k + 1) (k + 2) + shX l (k + 2) 0
    rw [fan_sh l k]
    unfold shX cross FP.v
    grind
theorem areaS_sh (l : List FP) : ∀ k, k < l.length → areaS l (List.range k) = shS l k
  | 0, _ => rfl
  | k + 1, h => by
    rw [List.range_succ, areaS_snoc, areaS_sh l k (by omega), Nat.mod_eq_of_lt h]
    show _ = shS l k + shX l k (k + 1)
    unfold shX
    grind
theorem areaS_fan (l : List FP) : areaS l (List.range l.length) = fanT l (l.length - 2) := by
  obtain ⟨n, hn⟩ : ∃ n, n = l.length := ⟨_, rfl⟩
  rw [← hn]
  match n, hn with
  | 0, _ => rfl
  | 1, hn =>
    show areaS l ([] ++ [0]) = 0
    rw [areaS_snoc, ← hn]
    show (0 : Rat) + _ * _ - _ * _ = 0
    grind
  | k + 2, hn =>
    rw [List.range_succ, areaS_snoc, areaS_sh l (k + 1) (by omega), ← hn, Nat.mod_self]
    show _ = fanT l k
    rw [fan_sh]
    unfold shX
    grind
end Go.Fw
-- VALS: d3AV, d3C, dAV, dC, rAV, rC, DP.av, dpC, ratD, RD.av
namespace Go.Fw
open Go Go.Proofs Go.IntWalk
set_option linter.unusedSimpArgs false
set_option maxRecDepth 100000
set_option maxHeartbeats 20000000
def RB (r : RD) (n d : Nat) : Prop := r.n.natAbs < 2 ^ n ∧ r.d.natAbs < 2 ^ d
theorem tens_bits {x n : Nat} (h : x < 2 ^ n) : (tens x).length ≤ n / 13 + 1 := by
  refine tens_len (Nat.lt_of_lt_of_le h ?_)
  have e : (2 : Nat) ^ n ≤ 2 ^ (13 * (n / 13 + 1)) := Nat.pow_le_pow_right (by omega) (by omega)
  refine Nat.le_trans e ?_
  rw [Nat.pow_mul]
  exact Nat.pow_le_pow_left (by decide) _
theorem RB.sz {r : RD} {n d : Nat} (h : RB r n d) : szR r ≤ n / 13 + d / 13 + 2 := by
  have h1 := tens_bits h.1
  have h2 := tens_bits h.2
  unfold szR szD
  omega
theorem RB.mono {r : RD} {n d n' d' : Nat} (h : RB r n d) (hn : n ≤ n') (hd : d ≤ d') : RB r n' d' :=
  ⟨Nat.lt_of_lt_of_le h.1 (Nat.pow_le_pow_right (by omega) hn), Nat.lt_of_lt_of_le h.2 (Nat.pow_le_pow_right (by omega) hd)⟩
theorem bits_mul {a b : Int} {n m : Nat} (ha : a.natAbs < 2 ^ n) (hb : b.natAbs < 2 ^ m) : (a * b).natAbs < 2 ^ (n + m) := by
  rw [Int.natAbs_mul, Nat.pow_add]; exact Nat.mul_lt_mul'' ha hb
theorem bits_add {a b : Int} {n m k : Nat} (ha : a.natAbs < 2 ^ n) (hb : b.natAbs < 2 ^ m) (hn : n ≤ k) (hm : m ≤ k) : (a + b).natAbs < 2 ^ (k + 1) := by
  have h1 := Nat.lt_of_lt_of_le ha (Nat.pow_le_pow_right (by omega) hn)
  have h2 := Nat.lt_of_lt_of_le hb (Nat.pow_le_pow_right (by omega) hm)
  have h3 := Int.natAbs_add_le a b
  rw [Nat.pow_succ]
  omega
theorem bits_sub {a b : Int} {n m k : Nat} (ha : a.natAbs < 2 ^ n) (hb : b.natAbs < 2 ^ m) (hn : n ≤ k) (hm : m ≤ k) : (a - b).natAbs < 2 ^ (k + 1) := by
  rw [Int.sub_eq_add_neg]
  exact bits_add ha (by rw [Int.natAbs_neg]; exact hb) hn hm
theorem RB.add {a b : RD} {n1 d1 n2 d2 : Nat} (ha : RB a n1 d1) (hb : RB b n2 d2) (n : Nat) (h1 : n1 + d2 ≤ n) (h2 : n2 + d1 ≤ n) : RB (addD a b) (n + 1) (d1 + d2) := by
  unfold addD
  split
  · exact ⟨bits_add ha.1 hb.1 (by omega) (by omega), Nat.lt_of_lt_of_le ha.2 (Nat.pow_le_pow_right (by omega) (by omega))⟩
  · exact ⟨bits_add (bits_mul ha.1 hb.2) (bits_mul hb.1 ha.2) (by omega) (by omega), bits_mul ha.2 hb.2⟩
def DB (p : DP) : Prop := p.x.natAbs < 2 ^ 64 ∧ p.y.natAbs < 2 ^ 64 ∧ p.w.natAbs < 2 ^ 6 ∧ 0 < p.w
theorem cross_bits {a b c : DP} (ha : DB a) (hb : DB b) (hc : DB c) : RB ⟨crossN a b c, denW a b c⟩ 143 24 := by
  have less : ∀ {x1 x2 w1 w2 : Int}, x1.natAbs < 2 ^ 64 → x2.natAbs < 2 ^ 64 → w1.natAbs < 2 ^ 6 → w2.natAbs < 2 ^ 6 → (x2 * w1 - x1 * w2).natAbs < 2 ^ 71 := fun h1 h2 h3 h4 => bits_sub (k := 70) (bits_mul h2 h3) (bits_mul h1 h4) (by omega) (by omega)
  refine ⟨bits_sub (k := 142) (bits_mul (less ha.1 hb.1 ha.2.2.1 hb.2.2.1) (less ha.2.1 hc.2.1 ha.2.2.1 hc.2.2.1)) (bits_mul (less ha.2.1 hb.2.1 ha.2.2.1 hb.2.2.1) (less ha.1 hc.1 ha.2.2.1 hc.2.2.1)) (by omega) (by omega), ?_⟩
  exact bits_mul (bits_mul ha.2.2.1 ha.2.2.1) (bits_mul hb.2.2.1 hc.2.2.1)
def nilD : DP := ⟨0, 0, 1⟩
def fanD (l : List DP) : Nat → RD
  | 0 => ofD 0
  | k + 1 => addD (fanD l k) ⟨crossN (l.getD 0 nilD) (l.getD (k + 1) nilD) (l.getD (k + 2) nilD), denW (l.getD 0 nilD) (l.getD (k + 1) nilD) (l.getD (k + 2) nilD)⟩
theorem DB.at {l : List DP} (h : ∀ p ∈ l, DB p) (i : Nat) : DB (l.getD i nilD) := by
  rw [List.getD_eq_getElem?_getD]
  by_cases hi : i < l.length
  · rw [List.getElem?_eq_getElem hi]; exact h _ (List.getElem_mem hi)
  · rw [List.getElem?_eq_none (by omega)]
    exact ⟨by decide, by decide, by decide, by decide⟩
theorem fanD_bits {l : List DP} (h : ∀ p ∈ l, DB p) : ∀ k, RB (fanD l k) (150 + 25 * k) (1 + 24 * k)
  | 0 => ⟨by show (0 : Int).natAbs < 2 ^ 150; decide, by show (1 : Int).natAbs < 2 ^ 1; decide⟩
  | k + 1 => by
    have h1 := (fanD_bits h k).add (cross_bits (DB.at h 0) (DB.at h (k + 1)) (DB.at h (k + 2))) (174 + 25 * k) (by omega) (by omega)
    exact h1.mono (by omega) (by omega)
theorem fanD_q {l : List DP} {m : List FP} (h : ∀ p ∈ l, DB p) (hv : ∀ i, (l.getD i nilD).v = (m.getD i nilF).v) : ∀ k, (fanD l k).q = fanT m k ∧ 0 < (fanD l k).d
  | 0 => ⟨by show Rat.divInt 0 1 = 0; exact Rat.zero_divInt _, by show (0 : Int) < 1; decide⟩
  | k + 1 => by
    obtain ⟨h1, h2⟩ := fanD_q h hv k
    have w0 := (DB.at h 0).2.2.2
    have w1 := (DB.at h (k + 1)).2.2.2
    have w2 := (DB.at h (k + 2)).2.2.2
    have hd := denW_pos w0 w1 w2
    obtain ⟨h3, h4⟩ := addD_q (a := fanD l k) (b := ⟨crossN (l.getD 0 nilD) (l.getD (k + 1) nilD) (l.getD (k + 2) nilD), denW (l.getD 0 nilD) (l.getD (k + 1) nilD) (l.getD (k + 2) nilD)⟩) h2 hd
    refine ⟨?_, h4⟩
    show (addD _ _).q = fanT m k + cross _ _ _
    rw [h3, h1, q_of hd (crossN_v w0 w1 w2), hv, hv, hv]
end Go.Fw

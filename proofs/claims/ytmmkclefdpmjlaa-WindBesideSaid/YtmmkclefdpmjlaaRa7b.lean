import Derived.Test.YtmmkclefdpmjlaaRa5
import Derived.Test.YtmmkclefdpmjlaaW1b
import Derived.Test.YtmmkclefdpmjlaaY1
import Derived.Test.YtmmkclefdpmjlaaW3
import Derived.Test.YtmmkclefdpmjlaaNd
set_option linter.unusedSimpArgs false
set_option linter.unusedVariables false
namespace Go.Fw
open Go
def shX (l : List FP) (i j : Nat) : Rat := (l.getD i nilF).x.q * (l.getD j nilF).y.q - (l.getD i nilF).y.q * (l.getD j nilF).x.q
def shS (l : List FP) : Nat → Rat
  | 0 => 0
  | k + 1 => shS l k + shX l k (k + 1)
def fanT (l : List FP) : Nat → Rat
  | 0 => 0
  | k + 1 => fanT l k + cross (l.getD 0 nilF).v (l.getD (k + 1) nilF).v (l.getD (k + 2) nilF).v
end Go.Fw
-- VALS: d3AV, d3C, dAV, dC, rAV, rC, DP.av, dpC, ratD, RD.av
namespace Go.Fw
open Go Go.Proofs Go.IntWalk
set_option linter.unusedSimpArgs false
set_option maxRecDepth 100000
set_option maxHeartbeats 20000000
def RB (r : RD) (n d : Nat) : Prop := r.n.natAbs < 2 ^ n ∧ r.d.natAbs < 2 ^ d
theorem tens_bits {x n : Nat} (h : x < 2 ^ n) : (tens x).length ≤ n / 13 + 1 := by
  refine tens_len (Nat.lt_of_lt_of_le h ?_)
  have e : (2 : Nat) ^ n ≤ 2 ^ (13 * (n / 13 + 1)) := Nat.pow_le_pow_right (by omega) (by omega)
  refine Nat.le_trans e ?_
  rw [Nat.pow_mul]
  exact Nat.pow_le_pow_left (by decide) _
theorem RB.sz {r : RD} {n d : Nat} (h : RB r n d) : szR r ≤ n / 13 + d / 13 + 2 := by
  have h1 := tens_bits h.1
  have h2 := tens_bits h.2
  unfold szR szD
  omega
theorem RB.mono {r : RD} {n d n' d' : Nat} (h : RB r n d) (hn : n ≤ n') (hd : d ≤ d') : RB r n' d' :=
  ⟨Nat.lt_of_lt_of_le h.1 (Nat.pow_le_pow_right (by omega) hn), Nat.lt_of_lt_of_le h.2 (Nat.pow_le_pow_right (by omega) hd)⟩
theorem bits_mul {a b : Int} {n m : Nat} (ha : a.natAbs < 2 ^ n) (hb : b.natAbs < 2 ^ m) : (a * b).natAbs < 2 ^ (n + m) := by
  rw [Int.natAbs_mul, Nat.pow_add]; exact Nat.mul_lt_mul'' ha hb
theorem bits_add {a b : Int} {n m k : Nat} (ha : a.natAbs < 2 ^ n) (hb : b.natAbs < 2 ^ m) (hn : n ≤ k) (hm : m ≤ k) : (a + b).natAbs < 2 ^ (k + 1) := by
  have h1 := Nat.lt_of_lt_of_le ha (Nat.pow_le_pow_right (by omega) hn)
  have h2 := Nat.lt_of_lt_of_le hb (Nat.pow_le_pow_right (by omega) hm)
  have h3 := Int.natAbs_add_le a b
  rw [Nat.pow_succ]
  omega
theorem RB.add {a b : RD} {n1 d1 n2 d2 : Nat} (ha : RB a n1 d1) (hb : RB b n2 d2) (n : Nat) (h1 : n1 + d2 ≤ n) (h2 : n2 + d1 ≤ n) : RB (addD a b) (n + 1) (d1 + d2) := by
  unfold addD
  split
  · exact ⟨bits_add ha.1 hb.1 (by omega) (by omega), Nat.lt_of_lt_of_le ha.2 (Nat.pow_le_pow_right (by omega) (by omega))⟩
  · exact ⟨bits_add (bits_mul ha.1 hb.2) (bits_mul hb.1 ha.2) (by omega) (by omega), bits_mul ha.2 hb.2⟩
def DB (p : DP) : Prop := p.x.natAbs < 2 ^ 64 ∧ p.y.natAbs < 2 ^ 64 ∧ p.w.natAbs < 2 ^ 6 ∧ 0 < p.w
def nilD : DP := ⟨0, 0, 1⟩
def fanD (l : List DP) : Nat → RD
  | 0 => ofD 0
  | k + 1 => addD (fanD l k) ⟨crossN (l.getD 0 nilD) (l.getD (k + 1) nilD) (l.getD (k + 2) nilD), denW (l.getD 0 nilD) (l.getD (k + 1) nilD) (l.getD (k + 2) nilD)⟩
theorem DB.at {l : List DP} (h : ∀ p ∈ l, DB p) (i : Nat) : DB (l.getD i nilD) := by
  rw [List.getD_eq_getElem?_getD]
  by_cases hi : i < l.length
  · rw [List.getElem?_eq_getElem hi]; exact h _ (List.getElem_mem hi)
  · rw [List.getElem?_eq_none (by omega)]
    exact ⟨by decide, by decide, by decide, by decide⟩
end Go.Fw

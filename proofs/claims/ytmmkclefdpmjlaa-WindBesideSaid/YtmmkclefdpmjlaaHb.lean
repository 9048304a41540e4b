/- Plain: how many bits a quotient's numbers have. -/
import Derived.Test.YtmmkclefdpmjlaaR1b
set_option linter.unusedSimpArgs false
set_option linter.unusedVariables false
namespace Go.Fw
open Go Go.Proofs
def HB (q : Rat) (n d : Nat) : Prop := q.num.natAbs < 2 ^ n ∧ q.den < 2 ^ d
theorem limbs_bits {x n : Nat} (h : x < 2 ^ n) : (limbs x).length ≤ n / 32 + 1 := by
  refine digits_length_le B32_gt x _ (Nat.lt_of_lt_of_le h ?_)
  have e : B32 ^ (n / 32 + 1) = 2 ^ (32 * (n / 32 + 1)) := by rw [Nat.pow_mul]
  rw [e]
  exact Nat.pow_le_pow_right (by omega) (by omega)
theorem HB.sz {q : Rat} {n d : Nat} (h : HB q n d) : szQ q ≤ n / 32 + d / 32 + 2 := by
  have h1 := limbs_bits h.1
  have h2 := limbs_bits h.2
  unfold szQ
  omega
theorem HB.mono {q : Rat} {n d n' d' : Nat} (h : HB q n d) (hn : n ≤ n') (hd : d ≤ d') : HB q n' d' :=
  ⟨Nat.lt_of_lt_of_le h.1 (Nat.pow_le_pow_right (by omega) hn), Nat.lt_of_lt_of_le h.2 (Nat.pow_le_pow_right (by omega) hd)⟩
theorem divInt_le (n d : Int) (hd : d ≠ 0) : (Rat.divInt n d).num.natAbs ≤ n.natAbs ∧ (Rat.divInt n d).den ≤ d.natAbs := by
  obtain ⟨h1, h2⟩ := divInt_parts n d hd
  constructor
  · rw [h1]; split
    · rw [Int.natAbs_neg]; exact Int.natAbs_ediv_le_natAbs _ _
    · exact Int.natAbs_ediv_le_natAbs _ _
  · have : (Rat.divInt n d).den = ((Rat.divInt n d).den : Int).natAbs := by omega
    rw [this, h2]; split
    · rw [Int.natAbs_neg]; exact Int.natAbs_ediv_le_natAbs _ _
    · exact Int.natAbs_ediv_le_natAbs _ _
theorem HB.divInt {x y : Int} {n d : Nat} (hy : y ≠ 0) (hx : x.natAbs < 2 ^ n) (hd : y.natAbs < 2 ^ d) : HB (Rat.divInt x y) n d := by
  obtain ⟨h1, h2⟩ := divInt_le x y hy
  exact ⟨by omega, by omega⟩
theorem HB.mul {a b : Rat} {n1 d1 n2 d2 : Nat} (ha : HB a n1 d1) (hb : HB b n2 d2) : HB (a * b) (n1 + n2) (d1 + d2) := by
  rw [← mulQ_eq]
  refine HB.divInt (den_mul_ne a b) ?_ ?_
  · rw [Int.natAbs_mul, Nat.pow_add]; exact Nat.mul_lt_mul'' ha.1 hb.1
  · rw [Int.natAbs_mul, Int.natAbs_natCast, Int.natAbs_natCast, Nat.pow_add]; exact Nat.mul_lt_mul'' ha.2 hb.2
theorem HB.add {a b : Rat} {n1 d1 n2 d2 : Nat} (ha : HB a n1 d1) (hb : HB b n2 d2) (n : Nat) (h1 : n1 + d2 ≤ n) (h2 : n2 + d1 ≤ n) : HB (a + b) (n + 1) (d1 + d2) := by
  rw [← addQ_eq]
  refine HB.divInt (den_mul_ne a b) ?_ ?_
  · have k1 : (a.num * b.den).natAbs < 2 ^ n := by
      rw [Int.natAbs_mul, Int.natAbs_natCast]
      refine Nat.lt_of_lt_of_le (Nat.mul_lt_mul'' ha.1 hb.2) ?_
      rw [← Nat.pow_add]
      exact Nat.pow_le_pow_right (by omega) h1
    have k2 : (b.num * a.den).natAbs < 2 ^ n := by
      rw [Int.natAbs_mul, Int.natAbs_natCast]
      refine Nat.lt_of_lt_of_le (Nat.mul_lt_mul'' hb.1 ha.2) ?_
      rw [← Nat.pow_add]
      exact Nat.pow_le_pow_right (by omega) h2
    have k3 := Int.natAbs_add_le (a.num * b.den) (b.num * a.den)
    rw [Nat.pow_succ]
    omega
  · rw [Int.natAbs_mul, Int.natAbs_natCast, Int.natAbs_natCast, Nat.pow_add]; exact Nat.mul_lt_mul'' ha.2 hb.2
theorem HB.neg {a : Rat} {n d : Nat} (h : HB a n d) : HB (-a) n d := by
  unfold HB at *
  rw [Rat.neg_num, Rat.neg_den, Int.natAbs_neg]
  exact h
theorem HB.sub {a b : Rat} {n1 d1 n2 d2 : Nat} (ha : HB a n1 d1) (hb : HB b n2 d2) (n : Nat) (h1 : n1 + d2 ≤ n) (h2 : n2 + d1 ≤ n) : HB (a - b) (n + 1) (d1 + d2) := by
  rw [Rat.sub_eq_add_neg]
  exact ha.add hb.neg n h1 h2
theorem HB.inv {a : Rat} {n d : Nat} (h : HB a n d) : HB a⁻¹ d (n + 1) := by
  unfold HB at *
  rw [Rat.num_inv, Rat.den_inv]
  constructor
  · rw [Int.natAbs_mul, Int.natAbs_natCast]
    have : (a.num.sign).natAbs ≤ 1 := by rw [Int.natAbs_sign]; split <;> omega
    have := Nat.mul_le_mul_right a.den this
    omega
  · rw [Nat.pow_succ]
    have := Nat.two_pow_pos n
    split <;> omega
theorem HB.div {a b : Rat} {n1 d1 n2 d2 : Nat} (ha : HB a n1 d1) (hb : HB b n2 d2) : HB (a / b) (n1 + d2) (d1 + (n2 + 1)) := by
  rw [Rat.div_def]
  exact ha.mul hb.inv
theorem HB.int {k : Int} {n : Nat} (h : k.natAbs < 2 ^ n) : HB (k : Rat) n 1 := ⟨by rw [Rat.num_intCast]; exact h, by rw [Rat.den_intCast]; decide⟩
end Go.Fw

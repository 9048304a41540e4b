/- frac: Mul, Add, Sub, Cmp. -/
import Derived.Test.YtbabekaohfcjbaaR2
set_option linter.unusedSimpArgs false
set_option linter.unusedVariables false
-- VALS: zAV, zC, ratAV, ratC
namespace Go.Fw
open Go Go.Proofs Go.IntWalk
set_option linter.unusedSimpArgs false
set_option maxRecDepth 100000
set_option maxHeartbeats 4000000

theorem sz_divInt (n d : Int) (hd : d ≠ 0) : szQ (Rat.divInt n d) ≤ (limbs n.natAbs).length + (limbs d.natAbs).length := by
  obtain ⟨h1, h2⟩ := divInt_parts n d hd
  have g1 : (Rat.divInt n d).num.natAbs ≤ n.natAbs := by
    rw [h1]; split
    · rw [Int.natAbs_neg]; exact Int.natAbs_ediv_le_natAbs _ _
    · exact Int.natAbs_ediv_le_natAbs _ _
  have g2 : (Rat.divInt n d).den ≤ d.natAbs := by
    have : (Rat.divInt n d).den = ((Rat.divInt n d).den : Int).natAbs := by omega
    rw [this, h2]; split
    · rw [Int.natAbs_neg]; exact Int.natAbs_ediv_le_natAbs _ _
    · exact Int.natAbs_ediv_le_natAbs _ _
  have := limbs_le g1
  have := limbs_le g2
  unfold szQ; omega

theorem mulQ_eq (a b : Rat) : Rat.divInt (a.num * b.num) (a.den * b.den) = a * b := by
  rw [Rat.mul_def', ← Rat.divInt_ofNat, Int.natCast_mul]
theorem addQ_eq (a b : Rat) : Rat.divInt (a.num * b.den + b.num * a.den) (a.den * b.den) = a + b := by
  rw [Rat.add_def', ← Rat.divInt_ofNat, Int.natCast_mul]

theorem den_mul_ne (a b : Rat) : ((a.den : Int) * (b.den : Int)) ≠ 0 := by
  have := a.den_pos
  have := b.den_pos
  exact Int.mul_ne_zero (by omega) (by omega)

theorem limbs_mulI (a b : Int) : (limbs (a * b).natAbs).length ≤ (limbs a.natAbs).length + (limbs b.natAbs).length := by
  rw [Int.natAbs_mul]; exact limbs_mul _ _

theorem limbs_addI (a b : Int) : (limbs (a + b).natAbs).length ≤ (limbs a.natAbs).length + (limbs b.natAbs).length + 1 := by
  exact Nat.le_trans (limbs_le (Int.natAbs_add_le a b)) (limbs_add _ _)

theorem szQ_mul (a b : Rat) : szQ (a * b) ≤ szQ a + szQ b := by
  rw [← mulQ_eq]
  have h1 := sz_divInt (a.num * b.num) (a.den * b.den) (den_mul_ne a b)
  have h2 := limbs_mulI a.num b.num
  have h3 := limbs_mulI a.den b.den
  rw [Int.natAbs_natCast, Int.natAbs_natCast] at h3
  unfold szQ at *; omega

theorem szQ_add (a b : Rat) : szQ (a + b) ≤ 2 * (szQ a + szQ b) + 1 := by
  rw [← addQ_eq]
  have h1 := sz_divInt (a.num * b.den + b.num * a.den) (a.den * b.den) (den_mul_ne a b)
  have h2 := limbs_mulI a.num b.den
  have h3 := limbs_mulI b.num a.den
  have h4 := limbs_mulI a.den b.den
  have h5 := limbs_addI (a.num * b.den) (b.num * a.den)
  simp only [Int.natAbs_natCast] at h2 h3 h4
  unfold szQ at *; omega

theorem szQ_neg (a : Rat) : szQ (-a) = szQ a := by simp [szQ]
end Go.Fw

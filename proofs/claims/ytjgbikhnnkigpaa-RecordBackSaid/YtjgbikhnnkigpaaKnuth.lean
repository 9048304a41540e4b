/- The digit of a quotient, guessed by two digits of three (plain). -/
import Derived.Test.YtjgbikhnnkigpaaDig
set_option linter.unusedSimpArgs false
set_option linter.unusedVariables false
namespace Go.Fw

/-- The first guess isn't too small. -/
theorem kd_init {B P top next vl two r2 rl : Nat} (ht : 0 < top) (hr2 : r2 < B) (hrl : rl < P) (hP : 0 < P) (hB : 0 < B) :
    ((two * B + r2) * P + rl) / ((top * B + next) * P + vl) ≤ two / top := by
  have hV : 0 < (top * B + next) * P + vl := by
    have := Nat.mul_pos (Nat.mul_pos ht hB) hP
    have h2 : top * B * P ≤ (top * B + next) * P := Nat.mul_le_mul_right _ (by omega)
    omega
  obtain ⟨q, hq⟩ : ∃ q, q = ((two * B + r2) * P + rl) / ((top * B + next) * P + vl) := ⟨_, rfl⟩
  rw [← hq]
  have h1 : q * ((top * B + next) * P + vl) ≤ (two * B + r2) * P + rl := by rw [hq]; exact Nat.div_mul_le_self _ _
  rw [Nat.le_div_iff_mul_le ht]
  have h2 : q * (top * B * P) ≤ q * ((top * B + next) * P + vl) := Nat.mul_le_mul_left _ (by
    have : top * B * P ≤ (top * B + next) * P := Nat.mul_le_mul_right _ (by omega)
    omega)
  have h3 : (two * B + r2) * P + rl < (two + 1) * B * P := by
    have e : (two * B + r2 + 1) * P ≤ (two + 1) * B * P := Nat.mul_le_mul_right _ (by rw [Nat.add_mul]; omega)
    rw [Nat.add_mul _ 1] at e
    omega
  have h4 : q * top * (B * P) < (two + 1) * (B * P) := by
    have a1 : q * (top * B * P) = q * top * (B * P) := by simp only [Nat.mul_assoc]
    have a2 : (two + 1) * B * P = (two + 1) * (B * P) := by simp only [Nat.mul_assoc]
    omega
  have := Nat.lt_of_mul_lt_mul_right h4
  omega

/-- A guess that three digits show too great is too great. -/
theorem kd_great {B P top next vl two r2 rl g left : Nat} (hrl : rl < P) (hg : g * top + left = two) (h : left * B + r2 < g * next) :
    (two * B + r2) * P + rl < g * ((top * B + next) * P + vl) := by
  have h1 : two * B + r2 + 1 ≤ g * (top * B + next) := by
    rw [← hg, Nat.mul_add, ← Nat.mul_assoc, Nat.add_mul]
    omega
  have h2 : (two * B + r2 + 1) * P ≤ g * (top * B + next) * P := Nat.mul_le_mul_right _ h1
  have h3 : g * ((top * B + next) * P + vl) = g * (top * B + next) * P + g * vl := by rw [Nat.mul_add, ← Nat.mul_assoc]
  rw [Nat.add_mul _ 1] at h2
  omega

/-- A guess that three digits let stand is at most one too great. -/
theorem kd_exit {B P top next vl two r2 rl g left : Nat} (hvl : vl < P) (hP : 0 < P) (hB : 0 < B) (ht : 0 < top) (hgB : g ≤ B) (hg : g * top + left = two) (h : g * next ≤ left * B + r2) :
    g * ((top * B + next) * P + vl) ≤ (two * B + r2) * P + rl + ((top * B + next) * P + vl) := by
  have h1 : g * (top * B + next) ≤ two * B + r2 := by
    rw [← hg, Nat.mul_add, ← Nat.mul_assoc, Nat.add_mul]
    omega
  have h2 : g * (top * B + next) * P ≤ (two * B + r2) * P := Nat.mul_le_mul_right _ h1
  have h3 : g * ((top * B + next) * P + vl) = g * (top * B + next) * P + g * vl := by rw [Nat.mul_add, ← Nat.mul_assoc]
  have h4 : g * vl ≤ B * P := Nat.mul_le_mul hgB (by omega)
  have h5 : B * P ≤ top * B * P := Nat.mul_le_mul_right _ (by have := Nat.mul_le_mul_right B ht; omega)
  have h6 : top * B * P ≤ (top * B + next) * P := Nat.mul_le_mul_right _ (by omega)
  omega

/-- What is left where it is too great for two digits of its own: the guess stands. -/
theorem kd_break {B next r2 g left : Nat} (hn : next < B) (hg : g ≤ B) (hl : B ≤ left) : g * next ≤ left * B + r2 := by
  have h1 : g * next ≤ B * B := Nat.mul_le_mul hg (by omega)
  have h2 : B * B ≤ left * B := Nat.mul_le_mul_right _ hl
  omega

theorem kd_digit {R V g : Nat} (hV : 0 < V) (hlo : R / V ≤ g) (hhi : g * V ≤ R + V) : g = R / V ∨ (g = R / V + 1 ∧ R < g * V) := by
  have h1 := Nat.div_add_mod R V
  have h2 := Nat.mod_lt R hV
  rcases Nat.lt_or_ge R (g * V) with h | h
  · right
    have h3 : R / V < g := by rw [Nat.div_lt_iff_lt_mul hV]; exact h
    have h4 : g * V ≤ R + V := hhi
    have h5 : g ≤ R / V + 1 := by
      rcases Nat.lt_or_ge (R / V + 1) g with h6 | h6
      · have h7 : (R / V + 2) * V ≤ g * V := Nat.mul_le_mul_right _ h6
        rw [Nat.add_mul, Nat.mul_comm (R / V) V] at h7
        omega
      · exact h6
    exact ⟨by omega, h⟩
  · left
    have : g ≤ R / V := by rw [Nat.le_div_iff_mul_le hV]; exact h
    omega
end Go.Fw

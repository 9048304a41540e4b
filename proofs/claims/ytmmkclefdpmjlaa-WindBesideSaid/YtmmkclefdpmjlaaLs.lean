/- Plain: the least square is the least; what lies left of a segment. -/
import Derived.Test.YtmmkclefdpmjlaaFit
set_option linter.unusedSimpArgs false
set_option linter.unusedVariables false
namespace Go.Fw
theorem sq_nn (a : Rat) : 0 ≤ a * a := sq_nonneg' a
theorem sqD_nn (p q : V2) : 0 ≤ sqD p q := by
  unfold sqD
  have := sq_nn (q.x - p.x)
  have := sq_nn (q.y - p.y)
  grind
theorem sqD_zero {p q : V2} (h : sqD p q = 0) : p = q := by
  unfold sqD at h
  have h1 := sq_nn (q.x - p.x)
  have h2 := sq_nn (q.y - p.y)
  have e1 : (q.x - p.x) * (q.x - p.x) = 0 := by grind
  have e2 : (q.y - p.y) * (q.y - p.y) = 0 := by grind
  have f1 : q.x - p.x = 0 := by rcases Rat.mul_eq_zero.1 e1 with h | h <;> exact h
  have f2 : q.y - p.y = 0 := by rcases Rat.mul_eq_zero.1 e2 with h | h <;> exact h
  exact V2.ext' (by grind) (by grind)
theorem sq_pt (s : Sg) (p : V2) (l : Rat) : sqD (s.pt l) p = sqD s.A p - 2 * (l * dot s.A s.B p) + l * l * sqD s.A s.B := by
  unfold sqD dot Sg.pt; grind
theorem dot_sum (s : Sg) (p : V2) : dot s.B s.A p = sqD s.A s.B - dot s.A s.B p := by unfold sqD dot; grind
theorem lag (s : Sg) (p : V2) : cross s.A s.B p * cross s.A s.B p + dot s.A s.B p * dot s.A s.B p = sqD s.A s.B * sqD s.A p := by
  unfold sqD dot cross; grind
theorem qdiv_le {a b c : Rat} (hb : 0 < b) : a / b ≤ c ↔ a ≤ c * b := by
  rw [← Rat.not_lt, Rat.lt_div_iff hb, Rat.not_lt]
theorem qle_div {a b c : Rat} (hb : 0 < b) : c ≤ a / b ↔ c * b ≤ a := by
  rw [← Rat.not_lt, Rat.div_lt_iff hb, Rat.not_lt]
theorem div_le_of {a n f : Rat} (hn : 0 < n) (h : a ≤ f * n) : a / n ≤ f := (qdiv_le hn).2 h
theorem toD_le (s : Sg) (p q : V2) (hq : s.on q) : toD s p ≤ sqD q p := by
  obtain ⟨l, h0, h1, rfl⟩ := (on_iff s q).1 hq
  have hN := sqD_nn s.A s.B
  have hs := sq_pt s p l
  have hd := dot_sum s p
  have hL := lag s p
  have hB := sq_pt s p 1
  rw [pt_one] at hB
  unfold toD
  generalize sqD (s.pt l) p = F at *
  generalize dot s.A s.B p = D at *
  generalize dot s.B s.A p = E at *
  generalize sqD s.A s.B = N at *
  generalize sqD s.A p = P at *
  generalize sqD s.B p = Q at *
  generalize cross s.A s.B p = C at *
  subst hd
  by_cases h : 0 < D ∧ 0 < N - D
  · rw [if_pos h]
    refine div_le_of (by grind) ?_
    have h2 := sq_nn (l * N - D)
    have e : F * N = C * C + (l * N - D) * (l * N - D) := by grind
    rw [e]
    grind
  · rw [if_neg h]
    by_cases hD : 0 < D
    · have hE : N - D ≤ 0 := by grind
      have k1 : 0 ≤ (1 - l) * (D - N) := Rat.mul_nonneg (by grind) (by grind)
      have k2 : 0 ≤ ((1 - l) * (1 - l)) * N := Rat.mul_nonneg (sq_nn _) hN
      have : Q ≤ F := by grind
      grind
    · have k1 : 0 ≤ l * (-D) := Rat.mul_nonneg h0 (by grind)
      have k2 : 0 ≤ (l * l) * N := Rat.mul_nonneg (sq_nn _) hN
      have : P ≤ F := by grind
      grind
theorem toD_att (s : Sg) (p : V2) : ∃ q, s.on q ∧ sqD q p = toD s p := by
  unfold toD
  by_cases h : 0 < dot s.A s.B p ∧ 0 < dot s.B s.A p
  · rw [if_pos h]
    have hd := dot_sum s p
    have hL := lag s p
    have hN : 0 < sqD s.A s.B := by grind
    refine ⟨s.pt (dot s.A s.B p / sqD s.A s.B), (on_iff s _).2 ⟨_, ?_, ?_, rfl⟩, ?_⟩
    · rw [qle_div hN]; grind
    · rw [qdiv_le hN]; grind
    · rw [sq_pt]
      generalize dot s.A s.B p = D at *
      generalize dot s.B s.A p = E at *
      generalize sqD s.A s.B = N at *
      generalize sqD s.A p = P at *
      generalize cross s.A s.B p = C at *
      have hi := Rat.mul_inv_cancel N (by grind)
      rw [Rat.div_def, Rat.div_def]
      generalize N⁻¹ = i at *
      grind
  · rw [if_neg h]
    by_cases k : sqD s.A p ≤ sqD s.B p
    · exact ⟨s.A, on_A s, by grind⟩
    · exact ⟨s.B, on_B s, by grind⟩
end Go.Fw

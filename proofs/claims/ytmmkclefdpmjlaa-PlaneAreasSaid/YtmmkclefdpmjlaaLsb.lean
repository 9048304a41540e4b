import Derived.Test.YtmmkclefdpmjlaaFit
import Derived.Test.YtmmkclefdpmjlaaDt
import Derived.Test.YtmmkclefdpmjlaaU1b
set_option linter.unusedSimpArgs false
set_option linter.unusedVariables false
namespace Go.Fw
theorem sq_nn (a : Rat) : 0 ≤ a * a := sq_nonneg' a
theorem sqD_nn (p q : V2) : 0 ≤ sqD p q := by
  unfold sqD
  have := sq_nn (q.x - p.x)
  have := sq_nn (q.y - p.y)
  grind
theorem sqD_self (p : V2) : sqD p p = 0 := by unfold sqD; grind
theorem sqD_comm (p q : V2) : sqD p q = sqD q p := by unfold sqD; grind
theorem sqD_zero {p q : V2} (h : sqD p q = 0) : p = q := by
  unfold sqD at h
  have h1 := sq_nn (q.x - p.x)
  have h2 := sq_nn (q.y - p.y)
  have e1 : (q.x - p.x) * (q.x - p.x) = 0 := by grind
  have e2 : (q.y - p.y) * (q.y - p.y) = 0 := by grind
  have f1 : q.x - p.x = 0 := by rcases Rat.mul_eq_zero.1 e1 with h | h <;> exact h
  have f2 : q.y - p.y = 0 := by rcases Rat.mul_eq_zero.1 e2 with h | h <;> exact h
  exact V2.ext' (by grind) (by grind)
theorem sq_pt (s : Sg) (p : V2) (l : Rat) : sqD (s.pt l) p = sqD s.A p - 2 * (l * dot s.A s.B p) + l * l * sqD s.A s.B := by
  unfold sqD dot Sg.pt; grind
theorem dot_sum (s : Sg) (p : V2) : dot s.B s.A p = sqD s.A s.B - dot s.A s.B p := by unfold sqD dot; grind
theorem lag (s : Sg) (p : V2) : cross s.A s.B p * cross s.A s.B p + dot s.A s.B p * dot s.A s.B p = sqD s.A s.B * sqD s.A p := by
  unfold sqD dot cross; grind
theorem qdiv_le {a b c : Rat} (hb : 0 < b) : a / b ≤ c ↔ a ≤ c * b := by
  rw [← Rat.not_lt, Rat.lt_div_iff hb, Rat.not_lt]
theorem qle_div {a b c : Rat} (hb : 0 < b) : c ≤ a / b ↔ c * b ≤ a := by
  rw [← Rat.not_lt, Rat.div_lt_iff hb, Rat.not_lt]
theorem div_le_of {a n f : Rat} (hn : 0 < n) (h : a ≤ f * n) : a / n ≤ f := (qdiv_le hn).2 h
theorem toD_le (s : Sg) (p q : V2) (hq : s.on q) : toD s p ≤ sqD q p := by
  obtain ⟨l, h0, h1, rfl⟩ := (on_iff s q).1 hq
  have hN := sqD_nn s.A s.B
  have hs := sq_pt s p l
  have hd := dot_sum s p
  have hL := lag s p
  have hB := sq_pt s p 1
  rw [pt_one] at hB
  unfold toD
  generalize sqD (s.pt l) p = F at *
  generalize dot s.A s.B p = D at *
  generalize dot s.B s.A p = E at *
  generalize sqD s.A s.B = N at *
  generalize sqD s.A p = P at *
  generalize sqD s.B p = Q at *
  generalize cross s.A s.B p = C at *
  subst hd
  by_cases h : 0 < D ∧ 0 < N - D
  · rw [if_pos h]
    refine div_le_of (by grind) ?_
    have h2 := sq_nn (l * N - D)
    have e : F * N = C * C + (l * N - D) * (l * N - D) := by grind
    rw [e]
    grind
  · rw [if_neg h]
    by_cases hD : 0 < D
    · have hE : N - D ≤ 0 := by grind
      have k1 : 0 ≤ (1 - l) * (D - N) := Rat.mul_nonneg (by grind) (by grind)
      have k2 : 0 ≤ ((1 - l) * (1 - l)) * N := Rat.mul_nonneg (sq_nn _) hN
      have : Q ≤ F := by grind
      grind
    · have k1 : 0 ≤ l * (-D) := Rat.mul_nonneg h0 (by grind)
      have k2 : 0 ≤ (l * l) * N := Rat.mul_nonneg (sq_nn _) hN
      have : P ≤ F := by grind
      grind
theorem toD_att (s : Sg) (p : V2) : ∃ q, s.on q ∧ sqD q p = toD s p := by
  unfold toD
  by_cases h : 0 < dot s.A s.B p ∧ 0 < dot s.B s.A p
  · rw [if_pos h]
    have hd := dot_sum s p
    have hL := lag s p
    have hN : 0 < sqD s.A s.B := by grind
    refine ⟨s.pt (dot s.A s.B p / sqD s.A s.B), (on_iff s _).2 ⟨_, ?_, ?_, rfl⟩, ?_⟩
    · rw [qle_div hN]; grind
    · rw [qdiv_le hN]; grind
    · rw [sq_pt]
      generalize dot s.A s.B p = D at *
      generalize dot s.B s.A p = E at *
      generalize sqD s.A s.B = N at *
      generalize sqD s.A p = P at *
      generalize cross s.A s.B p = C at *
      have hi := Rat.mul_inv_cancel N (by grind)
      rw [Rat.div_def, Rat.div_def]
      generalize N⁻¹ = i at *
      grind
  · rw [if_neg h]
    by_cases k : sqD s.A p ≤ sqD s.B p
    · exact ⟨s.A, on_A s, by grind⟩
    · exact ⟨s.B, on_B s, by grind⟩
theorem mid_in {x a σ τ : Rat} (h0 : 0 ≤ σ) (h1 : σ ≤ τ) (hx : 0 ≤ x ∧ x ≤ 1) (hy : 0 ≤ x + τ * a ∧ x + τ * a ≤ 1) : 0 ≤ x + σ * a ∧ x + σ * a ≤ 1 := by
  by_cases ha : 0 ≤ a
  · have k1 : 0 ≤ σ * a := Rat.mul_nonneg h0 ha
    have k2 : 0 ≤ (τ - σ) * a := Rat.mul_nonneg (by grind) ha
    constructor <;> grind
  · have k1 : 0 ≤ σ * (-a) := Rat.mul_nonneg h0 (by grind)
    have k2 : 0 ≤ (τ - σ) * (-a) := Rat.mul_nonneg (by grind) (by grind)
    constructor <;> grind
theorem exit1 (x a : Rat) (hx : 0 ≤ x ∧ x ≤ 1) : (0 ≤ x + a ∧ x + a ≤ 1) ∨ ∃ τ, 0 ≤ τ ∧ τ ≤ 1 ∧ (x + τ * a = 0 ∨ x + τ * a = 1) := by
  by_cases h1 : 1 < x + a
  · right
    have ha : 0 < a := by grind
    refine ⟨(1 - x) / a, ?_, ?_, .inr ?_⟩
    · rw [qle_div ha]; grind
    · rw [qdiv_le ha]; grind
    · rw [Rat.div_mul_cancel (by grind)]; grind
  · by_cases h2 : x + a < 0
    · right
      have ha : 0 < -a := by grind
      refine ⟨x / -a, ?_, ?_, .inl ?_⟩
      · rw [qle_div ha]; grind
      · rw [qdiv_le ha]; grind
      · have := Rat.div_mul_cancel (a := x) (b := -a) (by grind)
        grind
    · left; constructor <;> grind
theorem exit2 (x y a b : Rat) (hx : 0 ≤ x ∧ x ≤ 1) (hy : 0 ≤ y ∧ y ≤ 1) (hn : ¬ ((0 ≤ x + a ∧ x + a ≤ 1) ∧ (0 ≤ y + b ∧ y + b ≤ 1))) :
    ∃ τ, 0 ≤ τ ∧ τ ≤ 1 ∧ (0 ≤ x + τ * a ∧ x + τ * a ≤ 1) ∧ (0 ≤ y + τ * b ∧ y + τ * b ≤ 1) ∧ ((x + τ * a = 0 ∨ x + τ * a = 1) ∨ (y + τ * b = 0 ∨ y + τ * b = 1)) := by
  rcases exit1 x a hx with h1 | ⟨τ, t0, t1, h1⟩
  · rcases exit1 y b hy with h2 | ⟨τ, t0, t1, h2⟩
    · exact absurd ⟨h1, h2⟩ hn
    · exact ⟨τ, t0, t1, mid_in t0 t1 hx (by constructor <;> grind), by constructor <;> grind, .inr h2⟩
  · rcases exit1 y b hy with h2 | ⟨υ, u0, u1, h2⟩
    · exact ⟨τ, t0, t1, by constructor <;> grind, mid_in t0 t1 hy (by constructor <;> grind), .inl h1⟩
    · by_cases hl : τ ≤ υ
      · exact ⟨τ, t0, t1, by constructor <;> grind, mid_in (τ := υ) t0 hl hy (by constructor <;> grind), .inl h1⟩
      · exact ⟨υ, u0, u1, mid_in (τ := τ) u0 (by grind) hx (by constructor <;> grind), by constructor <;> grind, .inr h2⟩
theorem toD_bound (s t : Sg) (p q : V2) (hp : s.on p) (hq : t.on q) (h : (p = s.A ∨ p = s.B) ∨ (q = t.A ∨ q = t.B)) :
    min (min (toD s t.A) (toD s t.B)) (min (toD t s.A) (toD t s.B)) ≤ sqD p q := by
  rcases h with (rfl | rfl) | (rfl | rfl)
  · have := toD_le t s.A q hq; rw [sqD_comm] at this; grind
  · have := toD_le t s.B q hq; rw [sqD_comm] at this; grind
  · have := toD_le s t.A p hp; grind
  · have := toD_le s t.B p hp; grind
theorem sq_le_one {τ : Rat} (h0 : 0 ≤ τ) (h1 : τ ≤ 1) : (1 - τ) * (1 - τ) ≤ 1 := by
  have := Rat.mul_nonneg (a := τ) (b := 2 - τ) h0 (by grind)
  grind
theorem leastD_le (s t : Sg) (p q : V2) (hp : s.on p) (hq : t.on q) : leastD s t ≤ sqD p q := by
  unfold leastD
  by_cases hm : meet s t ≠ []
  · rw [if_pos hm]; exact sqD_nn p q
  rw [if_neg hm]
  rw [meet_ne] at hm
  by_cases hs : s.A = s.B
  · refine toD_bound s t p q hp hq (.inl (.inl ?_))
    obtain ⟨l, _, _, rfl⟩ := (on_iff s p).1 hp
    exact V2.ext' (by simp only [Sg.pt, ← hs]; grind) (by simp only [Sg.pt, ← hs]; grind)
  have goal : ∀ (l m a b c : Rat), 0 ≤ l ∧ l ≤ 1 → 0 ≤ m ∧ m ≤ 1 → p = s.pt l → q = t.pt m → 0 ≤ c → c ≤ 1 →
      (∀ τ, 0 ≤ τ → τ ≤ 1 → sqD (s.pt (l + τ * a)) (t.pt (m + τ * b)) ≤ sqD p q) → ¬ ((0 ≤ l + a ∧ l + a ≤ 1) ∧ (0 ≤ m + b ∧ m + b ≤ 1)) →
      min (min (toD s t.A) (toD s t.B)) (min (toD t s.A) (toD t s.B)) ≤ sqD p q := by
    intro l m a b c hl hm' _ _ _ _ hle hn
    obtain ⟨τ, t0, t1, x1, x2, x3⟩ := exit2 l m a b hl hm' hn
    refine Rat.le_trans (toD_bound s t (s.pt (l + τ * a)) (t.pt (m + τ * b)) ((on_iff s _).2 ⟨_, x1.1, x1.2, rfl⟩) ((on_iff t _).2 ⟨_, x2.1, x2.2, rfl⟩) ?_) (hle τ t0 t1)
    rcases x3 with (h | h) | (h | h) <;> rw [h]
    · exact .inl (.inl (pt_zero s))
    · exact .inl (.inr (pt_one s))
    · exact .inr (.inl (pt_zero t))
    · exact .inr (.inr (pt_one t))
  obtain ⟨l, l0, l1, hpl⟩ := (on_iff s p).1 hp
  obtain ⟨m, m0, m1, hqm⟩ := (on_iff t q).1 hq
  by_cases hc : crossW s t = 0
  · -- side by side: move both alike
    obtain ⟨c, c1, c2⟩ : ∃ c, t.B.x - t.A.x = c * (s.B.x - s.A.x) ∧ t.B.y - t.A.y = c * (s.B.y - s.A.y) := by
      have hN := Sg.sq_pos hs
      unfold Sg.sq at hN
      unfold crossW at hc
      refine ⟨((t.B.x - t.A.x) * (s.B.x - s.A.x) + (t.B.y - t.A.y) * (s.B.y - s.A.y)) / ((s.B.x - s.A.x) * (s.B.x - s.A.x) + (s.B.y - s.A.y) * (s.B.y - s.A.y)), ?_, ?_⟩
      · generalize s.B.x - s.A.x = ux at *
        generalize s.B.y - s.A.y = uy at *
        generalize t.B.x - t.A.x = vx at *
        generalize t.B.y - t.A.y = vy at *
        have hi := Rat.mul_inv_cancel _ (show ux * ux + uy * uy ≠ 0 by grind)
        rw [Rat.div_def]
        generalize (ux * ux + uy * uy)⁻¹ = i at *
        grind
      · generalize s.B.x - s.A.x = ux at *
        generalize s.B.y - s.A.y = uy at *
        generalize t.B.x - t.A.x = vx at *
        generalize t.B.y - t.A.y = vy at *
        have hi := Rat.mul_inv_cancel _ (show ux * ux + uy * uy ≠ 0 by grind)
        rw [Rat.div_def]
        generalize (ux * ux + uy * uy)⁻¹ = i at *
        grind
    refine goal l m (2 * c) 2 0 ⟨l0, l1⟩ ⟨m0, m1⟩ hpl hqm (by grind) (by grind) (fun τ _ _ => ?_) (fun h => by grind)
    have e1 : (s.pt (l + τ * (2 * c))).x - (t.pt (m + τ * 2)).x = p.x - q.x := by rw [hpl, hqm]; simp only [Sg.pt]; grind
    have e2 : (s.pt (l + τ * (2 * c))).y - (t.pt (m + τ * 2)).y = p.y - q.y := by rw [hpl, hqm]; simp only [Sg.pt]; grind
    have : sqD (s.pt (l + τ * (2 * c))) (t.pt (m + τ * 2)) = sqD p q := by
      unfold sqD
      have f1 : (t.pt (m + τ * 2)).x - (s.pt (l + τ * (2 * c))).x = q.x - p.x := by grind
      have f2 : (t.pt (m + τ * 2)).y - (s.pt (l + τ * (2 * c))).y = q.y - p.y := by grind
      rw [f1, f2]
    rw [this]; exact Rat.le_refl
  · -- towards where the lines meet
    obtain ⟨a, b, c1, c2⟩ : ∃ a b, (s.B.x - s.A.x) * a - (t.B.x - t.A.x) * b = -(p.x - q.x) ∧ (s.B.y - s.A.y) * a - (t.B.y - t.A.y) * b = -(p.y - q.y) := by
      unfold crossW at hc
      generalize s.B.x - s.A.x = ux at *
      generalize s.B.y - s.A.y = uy at *
      generalize t.B.x - t.A.x = vx at *
      generalize t.B.y - t.A.y = vy at *
      generalize p.x - q.x = wx at *
      generalize p.y - q.y = wy at *
      have hi := Rat.mul_inv_cancel _ hc
      refine ⟨(wy * vx - wx * vy) * (ux * vy - uy * vx)⁻¹, (wy * ux - wx * uy) * (ux * vy - uy * vx)⁻¹, ?_, ?_⟩
      · generalize (ux * vy - uy * vx)⁻¹ = i at *
        grind
      · generalize (ux * vy - uy * vx)⁻¹ = i at *
        grind
    have e1 : ∀ τ, (t.pt (m + τ * b)).x - (s.pt (l + τ * a)).x = (1 - τ) * (q.x - p.x) := by
      intro τ
      have h1 : (t.pt (m + τ * b)).x - (s.pt (l + τ * a)).x = (q.x - p.x) - τ * ((s.B.x - s.A.x) * a - (t.B.x - t.A.x) * b) := by rw [hpl, hqm]; simp only [Sg.pt]; grind
      rw [h1, c1]; grind
    have e2 : ∀ τ, (t.pt (m + τ * b)).y - (s.pt (l + τ * a)).y = (1 - τ) * (q.y - p.y) := by
      intro τ
      have h1 : (t.pt (m + τ * b)).y - (s.pt (l + τ * a)).y = (q.y - p.y) - τ * ((s.B.y - s.A.y) * a - (t.B.y - t.A.y) * b) := by rw [hpl, hqm]; simp only [Sg.pt]; grind
      rw [h1, c2]; grind
    refine goal l m a b 0 ⟨l0, l1⟩ ⟨m0, m1⟩ hpl hqm (by grind) (by grind) (fun τ t0 t1 => ?_) (fun h => hm ?_)
    · have : sqD (s.pt (l + τ * a)) (t.pt (m + τ * b)) = ((1 - τ) * (1 - τ)) * sqD p q := by
        unfold sqD
        rw [e1, e2]; grind
      rw [this]
      have h1 := Rat.mul_nonneg (a := 1 - (1 - τ) * (1 - τ)) (b := sqD p q) (by have := sq_le_one t0 t1; grind) (sqD_nn p q)
      grind
    · refine ⟨s.pt (l + a), (on_iff s _).2 ⟨_, h.1.1, h.1.2, rfl⟩, (on_iff t _).2 ⟨_, h.2.1, h.2.2, ?_⟩⟩
      have k1 := e1 1
      have k2 := e2 1
      rw [Rat.one_mul, Rat.one_mul] at k1 k2
      exact V2.ext' (by grind) (by grind)
theorem leastD_att (s t : Sg) : ∃ p q, s.on p ∧ t.on q ∧ sqD p q = leastD s t := by
  unfold leastD
  by_cases hm : meet s t ≠ []
  · rw [if_pos hm]
    obtain ⟨p, h1, h2⟩ := (meet_ne s t).1 hm
    exact ⟨p, p, h1, h2, sqD_self p⟩
  · rw [if_neg hm]
    obtain ⟨a, a1, a2⟩ := toD_att s t.A
    obtain ⟨b, b1, b2⟩ := toD_att s t.B
    obtain ⟨c, c1, c2⟩ := toD_att t s.A
    obtain ⟨d, d1, d2⟩ := toD_att t s.B
    rw [sqD_comm] at c2 d2
    have hmin : ∀ x y : Rat, min x y = x ∨ min x y = y := by intro x y; grind
    rcases hmin (min (toD s t.A) (toD s t.B)) (min (toD t s.A) (toD t s.B)) with h | h
    · rw [h]
      rcases hmin (toD s t.A) (toD s t.B) with h | h
      · exact ⟨a, _, a1, on_A t, by rw [h, a2]⟩
      · exact ⟨b, _, b1, on_B t, by rw [h, b2]⟩
    · rw [h]
      rcases hmin (toD t s.A) (toD t s.B) with h | h
      · exact ⟨_, c, on_A s, c1, by rw [h, c2]⟩
      · exact ⟨_, d, on_B s, d1, by rw [h, d2]⟩
theorem sub_on (s : Sg) {l0 l1 : Rat} (h : l0 ≤ l1) (x : V2) : (Sg.mk (s.pt l0) (s.pt l1)).on x ↔ ∃ l, l0 ≤ l ∧ l ≤ l1 ∧ x = s.pt l := by
  rw [on_iff]
  have e : ∀ m, (Sg.mk (s.pt l0) (s.pt l1)).pt m = s.pt (l0 + (l1 - l0) * m) := fun m => V2.ext' (by simp only [Sg.pt]; grind) (by simp only [Sg.pt]; grind)
  constructor
  · rintro ⟨m, m0, m1, rfl⟩
    have k1 := Rat.mul_nonneg (a := l1 - l0) (b := m) (by grind) m0
    have k2 := Rat.mul_nonneg (a := l1 - l0) (b := 1 - m) (by grind) (by grind)
    exact ⟨l0 + (l1 - l0) * m, by grind, by grind, e m⟩
  · rintro ⟨l, a, b, rfl⟩
    by_cases h0 : l0 = l1
    · exact ⟨0, by grind, by grind, by rw [e]; congr 1; grind⟩
    · have hd : 0 < l1 - l0 := by grind
      refine ⟨(l - l0) / (l1 - l0), ?_, ?_, ?_⟩
      · rw [qle_div hd]; grind
      · rw [qdiv_le hd]; grind
      · rw [e]
        have := Rat.div_mul_cancel (a := l - l0) (b := l1 - l0) (by grind)
        congr 1
        grind
theorem cross_pt (b s : Sg) (l : Rat) : cross b.A b.B (s.pt l) = cross b.A b.B s.A + l * (cross b.A b.B s.B - cross b.A b.B s.A) := by
  unfold cross Sg.pt; grind
theorem pt_degen {s : Sg} (h : s.A = s.B) (l : Rat) : s.pt l = s.A := V2.ext' (by simp only [Sg.pt, ← h]; grind) (by simp only [Sg.pt, ← h]; grind)
theorem clip_on (s b : Sg) (x : V2) : (∃ h, spanOf (clip s b) = some h ∧ h.on x) ↔ s.on x ∧ 0 ≤ cross b.A b.B x := by
  have hg := cross_pt b s
  unfold clip
  have hd : s.A = s.B → cross b.A b.B s.A = cross b.A b.B s.B := fun h => by rw [h]
  generalize hA : cross b.A b.B s.A = a at *
  generalize hC : cross b.A b.B s.B = c at *
  have hon : s.on x ∧ 0 ≤ cross b.A b.B x ↔ ∃ l, (0 ≤ l ∧ l ≤ 1) ∧ x = s.pt l ∧ 0 ≤ a + l * (c - a) := by
    rw [on_iff]
    constructor
    · rintro ⟨⟨l, h0, h1, rfl⟩, h2⟩
      rw [hg] at h2
      exact ⟨l, ⟨h0, h1⟩, rfl, h2⟩
    · rintro ⟨l, ⟨h0, h1⟩, rfl, h2⟩
      rw [← hg] at h2
      exact ⟨⟨l, h0, h1, rfl⟩, h2⟩
  rw [hon]
  have key : ∀ l0 l1 : Rat, l0 ≤ l1 → spanOf (clipW a c s) = some ⟨s.pt l0, s.pt l1⟩ → (∀ l, (l0 ≤ l ∧ l ≤ l1) → ((0 ≤ l ∧ l ≤ 1) ∧ 0 ≤ a + l * (c - a))) → (∀ l, ((0 ≤ l ∧ l ≤ 1) ∧ 0 ≤ a + l * (c - a)) → (l0 ≤ l ∧ l ≤ l1) ∨ ∃ m, (l0 ≤ m ∧ m ≤ l1) ∧ s.pt l = s.pt m) →
      ((∃ h, spanOf (clipW a c s) = some h ∧ h.on x) ↔ ∃ l, (0 ≤ l ∧ l ≤ 1) ∧ x = s.pt l ∧ 0 ≤ a + l * (c - a)) := by
    intro l0 l1 h01 hsp hiff hback
    constructor
    · rintro ⟨h, h1, h2⟩
      rw [hsp] at h1
      cases h1
      obtain ⟨l, k0, k1, k2⟩ := (sub_on s h01 x).1 h2
      have := hiff l ⟨k0, k1⟩
      exact ⟨l, this.1, k2, this.2⟩
    · rintro ⟨l, k0, k1, k2⟩
      refine ⟨_, hsp, (sub_on s h01 x).2 ?_⟩
      rcases hback l ⟨k0, k2⟩ with h | ⟨m, hm, h⟩
      · exact ⟨l, h.1, h.2, k1⟩
      · exact ⟨m, hm.1, hm.2, by rw [k1, h]⟩
  have hr : ∀ h : a * c < 0, (a / (a - c)) * (a - c) = a := fun h => Rat.div_mul_cancel (mul_neg_ne h)
  by_cases ha : 0 ≤ a
  · by_cases hc : 0 ≤ c
    · have hn : ¬ a * c < 0 := by have := Rat.mul_nonneg ha hc; grind
      have hall : ∀ l : Rat, 0 ≤ l → l ≤ 1 → 0 ≤ a + l * (c - a) := by
        intro l h0 h1
        have k1 := Rat.mul_nonneg h0 hc
        have k2 := Rat.mul_nonneg (a := 1 - l) (by grind) ha
        grind
      by_cases hAB : s.A = s.B
      · refine key 0 0 (by grind) ?_ (fun l h => ?_) (fun l h => .inr ⟨0, ⟨by grind, by grind⟩, ?_⟩)
        · rw [pt_zero]; simp [clipW, ha, hc, hn, hAB, spanOf]
        · have : l = 0 := by grind
          subst this; exact ⟨⟨by grind, by grind⟩, by grind⟩
        · rw [pt_degen hAB, pt_degen hAB]
      · refine key 0 1 (by grind) ?_ (fun l h => ⟨h, hall l h.1 h.2⟩) (fun l h => .inl h.1)
        rw [pt_zero, pt_one]; simp [clipW, ha, hc, hn, hAB, spanOf]
    · have hAB : s.A ≠ s.B := fun h => hc (by have := hd h; grind)
      by_cases hz : a = 0
      · subst hz
        have hn : ¬ (0 : Rat) * c < 0 := by grind
        refine key 0 0 (by grind) ?_ (fun l h => ?_) (fun l h => .inl ?_)
        · rw [pt_zero]; simp [clipW, hc, spanOf]
        · have : l = 0 := by grind
          subst this; exact ⟨⟨by grind, by grind⟩, by grind⟩
        · obtain ⟨⟨h0, h1⟩, h2⟩ := h
          refine ⟨h0, ?_⟩
          by_cases hl : l ≤ 0
          · exact hl
          · have := Rat.mul_pos (a := l) (b := -c) (by grind) (by grind)
            grind
      · have hn : a * c < 0 := by have := Rat.mul_pos (a := a) (b := -c) (by grind) (by grind); grind
        have hr := hr hn
        have hp : 0 < a - c := by grind
        have r0 : 0 ≤ a / (a - c) := by rw [qle_div hp]; grind
        have r1 : a / (a - c) ≤ 1 := by rw [qdiv_le hp]; grind
        refine key 0 (a / (a - c)) r0 ?_ (fun l h => ?_) (fun l h => .inl ?_)
        · rw [pt_zero]; simp [clipW, ha, hc, hn, spanOf]
        · generalize a / (a - c) = r at *
          have := Rat.mul_nonneg (a := r - l) (b := a - c) (by grind) (by grind)
          exact ⟨⟨h.1, by grind⟩, by grind⟩
        · obtain ⟨⟨h0, h1⟩, h2⟩ := h
          refine ⟨h0, ?_⟩
          rw [qle_div hp]; grind
  · by_cases hc : 0 ≤ c
    · have hAB : s.A ≠ s.B := fun h => ha (by have := hd h; grind)
      by_cases hz : c = 0
      · subst hz
        refine key 1 1 (by grind) ?_ (fun l h => ?_) (fun l h => .inl ?_)
        · rw [pt_one]; simp [clipW, ha, hAB, spanOf]
        · have : l = 1 := by grind
          subst this; exact ⟨⟨by grind, by grind⟩, by grind⟩
        · obtain ⟨⟨h0, h1⟩, h2⟩ := h
          refine ⟨?_, h1⟩
          by_cases hl : 1 ≤ l
          · exact hl
          · have := Rat.mul_pos (a := 1 - l) (b := -a) (by grind) (by grind)
            grind
      · have hn : a * c < 0 := by have := Rat.mul_pos (a := -a) (b := c) (by grind) (by grind); grind
        have hr := hr hn
        have hp : 0 < c - a := by grind
        have hneg : a / (a - c) = (-a) / (c - a) := by
          have h1 := Rat.div_mul_cancel (a := -a) (b := c - a) (by grind)
          generalize a / (a - c) = r at *
          generalize -a / (c - a) = r' at *
          have e1 : (r - r') * (c - a) = 0 := by grind
          have := (Rat.mul_eq_zero.1 e1).resolve_right (by grind)
          grind
        have r0 : 0 ≤ a / (a - c) := by rw [hneg, qle_div hp]; grind
        have r1 : a / (a - c) ≤ 1 := by rw [hneg, qdiv_le hp]; grind
        refine key (a / (a - c)) 1 r1 ?_ (fun l h => ?_) (fun l h => .inl ?_)
        · rw [pt_one]; simp [clipW, ha, hc, hn, hAB, spanOf]
        · generalize a / (a - c) = r at *
          have := Rat.mul_nonneg (a := l - r) (b := c - a) (by grind) (by grind)
          exact ⟨⟨by grind, h.2⟩, by grind⟩
        · obtain ⟨⟨h0, h1⟩, h2⟩ := h
          refine ⟨?_, h1⟩
          rw [hneg, qdiv_le hp]; grind
    · have hn : ¬ a * c < 0 := by have := Rat.mul_pos (a := -a) (b := -c) (by grind) (by grind); grind
      constructor
      · rintro ⟨h, h1, _⟩
        simp [clipW, ha, hc, hn, spanOf] at h1
      · rintro ⟨l, ⟨h0, h1⟩, _, h2⟩
        exfalso
        clear key hon hr hg hd
        by_cases hl : l = 1
        · subst hl; grind
        · have k1 := Rat.mul_nonneg (a := l) (b := -c) h0 (by grind)
          have k2 := Rat.mul_pos (a := 1 - l) (b := -a) (by grind) (by grind)
          have e : a + l * (c - a) = -(l * -c) - (1 - l) * -a := by grind
          grind
theorem half_on (side : Int) (s b : Sg) (x : V2) : (∃ h, half side s b = some h ∧ h.on x) ↔ s.on x ∧ 0 ≤ (if side < 0 then - cross b.A b.B x else cross b.A b.B x) := by
  unfold half
  rw [clip_on]
  split
  · rw [show cross b.turn.A b.turn.B x = - cross b.A b.B x from cross_turn _ _ _]
  · rfl
theorem leastD_nn (s t : Sg) : 0 ≤ leastD s t := by
  obtain ⟨p, q, _, _, h⟩ := leastD_att s t
  rw [← h]; exact sqD_nn p q
theorem on_degen {s : Sg} (h : s.A = s.B) {p : V2} (hp : s.on p) : p = s.A := by
  obtain ⟨l, _, _, rfl⟩ := (on_iff s p).1 hp
  exact pt_degen h l
theorem points_fits {k d : Int} {e f : Sg} {p q : V2} (h1 : 1 ≤ k) (h2 : k ≤ 6) (h3 : 0 < d) (h4 : e.A ≠ e.B) (h5 : f.A ≠ f.B) (h6 : (wayD e f).num.sign = ruleW k)
    (h7 : ¬ (cross e.A e.B f.A = 0 ∧ cross e.A e.B f.B = 0)) (hp : e.on p) (hq : f.on q) (hpq : p ≠ q) (hs : sqD p q < (d : Rat) * (d : Rat))
    (hF : 0 ≤ (if ruleF k < 0 then - cross f.A f.B p else cross f.A f.B p)) (hE : 0 ≤ (if ruleE k < 0 then - cross e.A e.B q else cross e.A e.B q)) : fitsD k e f d := by
  obtain ⟨P, P1, P2⟩ := (half_on (ruleF k) e f p).2 ⟨hp, hF⟩
  obtain ⟨Q, Q1, Q2⟩ := (half_on (ruleE k) f e q).2 ⟨hq, hE⟩
  refine ⟨h1, h2, h3, h4, h5, h6, h7, P, Q, P1, Q1, h3, ?_⟩
  by_cases h0 : leastD P Q = 0
  · rw [if_pos h0]
    by_cases hP : P.A = P.B
    · by_cases hQ : Q.A = Q.B
      · exfalso
        obtain ⟨p', q', a1, a2, a3⟩ := leastD_att P Q
        rw [h0] at a3
        have := sqD_zero a3
        rw [on_degen hP a1, on_degen hQ a2, ← on_degen hP P2, ← on_degen hQ Q2] at this
        exact hpq this
      · exact .inr hQ
    · exact .inl hP
  · rw [if_neg h0]
    have := leastD_le P Q p q P2 Q2
    grind
theorem fits_closer {k d : Int} {e f : Sg} (h : fitsD k e f d) : closerD e f d := by
  obtain ⟨h1, h2, h3, h4, h5, h6, h7, P, Q, P1, Q1, hc⟩ := h
  refine ⟨h3, ?_⟩
  by_cases h0 : leastD e f = 0
  · rw [if_pos h0]; exact .inl h4
  · rw [if_neg h0]
    obtain ⟨p, q, a1, a2, a3⟩ := leastD_att P Q
    have b1 := ((half_on (ruleF k) e f p).1 ⟨P, P1, a1⟩).1
    have b2 := ((half_on (ruleE k) f e q).1 ⟨Q, Q1, a2⟩).1
    have hle := leastD_le e f p q b1 b2
    have hnn := leastD_nn e f
    have hn : leastD P Q ≠ 0 := by grind
    have := hc.2
    rw [if_neg hn] at this
    grind
end Go.Fw
namespace Go.Fw
open Go Go.Proofs
def sqC (p q : FP) (n : Int) : Int := cmpZ ((sqP p q).num * ((n : Rat) * (n : Rat)).den) (((n : Rat) * (n : Rat)).num * (sqP p q).den)
theorem sqC_neg (p q : FP) (n : Int) : sqC p q n < 0 ↔ sqD p.v q.v < (n : Rat) * (n : Rat) := lessQ_iff _ _
theorem hund19 (n : Int) : ∃ k : Nat, (IntKind.u64.wrap n).tmod 101 = (k : Int) ∧ k ≤ 100 := by
  rw [IntKind.wrap_u64, Int.tmod_eq_emod_of_nonneg (by omega)]
  exact ⟨(n % 18446744073709551616 % 101).toNat, by omega, by omega⟩
theorem on_part (s : FSg) {k : Nat} (h : k ≤ 100) : s.v.on (s.at (Rat.divInt k 100)).v := by
  refine (on_iff _ _).2 ⟨Rat.divInt k 100, ?_, ?_, rfl⟩
  · rw [Rat.divInt_eq_div, qle_div (by decide)]
    have : (0 : Rat) ≤ ((k : Int) : Rat) := Rat.intCast_nonneg.2 (by omega)
    grind
  · rw [Rat.divInt_eq_div, qdiv_le (by decide)]
    have : ((k : Int) : Rat) ≤ ((100 : Int) : Rat) := Rat.intCast_le_intCast.2 (by omega)
    grind
def HQ (p : FP) : Prop := HB p.x.q 85 25 ∧ HB p.y.q 85 25
theorem HQ.sz {p : FP} (h : HQ p) : szV p ≤ 8 := by
  have h1 := h.1.sz
  have h2 := h.2.sz
  unfold szV
  omega
theorem HQ.part {a b : Int × Int × Int} (ha : inD a) (hb : inD b) {k : Nat} (h : k ≤ 100) : HQ ((dotsF a b).at (Rat.divInt k 100)) := by
  have hk : HB (Rat.divInt k 100) 7 7 := HB.divInt (n := 7) (d := 7) (by omega) (by omega) (by omega)
  have a1 := HB.dot (d := a.2.2) ha.1
  have a2 := HB.dot (d := a.2.2) ha.2
  have b1 := HB.dot (d := b.2.2) hb.1
  have b2 := HB.dot (d := b.2.2) hb.2
  exact ⟨a1.add ((b1.sub a1 70 (by omega) (by omega)).mul hk) 84 (by omega) (by omega), a2.add ((b2.sub a2 70 (by omega) (by omega)).mul hk) 84 (by omega) (by omega)⟩
theorem HQ.sq {p q : FP} (hp : HQ p) (hq : HQ q) : szQ (sqP p q) ≤ 30 := by
  have h1 := hq.1.sub hp.1 110 (by omega) (by omega)
  have h2 := hq.2.sub hp.2 110 (by omega) (by omega)
  have h3 := (h1.mul h1).add (h2.mul h2) 322 (by omega) (by omega)
  have := h3.sz
  unfold sqP
  omega
end Go.Fw

import Derived.Test.YtmmkclefdpmjlaaRp5b
set_option linter.unusedSimpArgs false
set_option linter.unusedVariables false
namespace Go.Fw
open Go Go.Proofs
theorem div_nn {a d : Rat} (ha : 0 ≤ a) (hd : 0 < d) : 0 ≤ a / d := by
  have e : a / d * d = a := Rat.div_mul_cancel (by grind)
  by_cases h : a / d < 0
  · have := Rat.mul_pos (a := -(a / d)) (b := d) (by grind) hd
    grind
  · grind
theorem div_le1 {a d : Rat} (ha : a ≤ d) (hd : 0 < d) : a / d ≤ 1 := by
  have e : a / d * d = a := Rat.div_mul_cancel (by grind)
  by_cases h : 1 < a / d
  · have := Rat.mul_pos (a := a / d - 1) (b := d) (by grind) hd
    grind
  · grind
theorem beside_sign {m p A B : V2} (hm : m.y < p.y) (hA : A.y < B.y) (hno : ∀ X, (Sg.mk m p).on X → ¬ (Sg.mk A B).on X)
    (y1 y2 : Rat) (h1 : m.y ≤ y1) (h2 : A.y ≤ y1) (h12 : y1 ≤ y2) (h3 : y2 ≤ p.y) (h4 : y2 ≤ B.y) :
    let f := fun y : Rat => (A.x + (B.x - A.x) * ((y - A.y) / (B.y - A.y))) - (m.x + (p.x - m.x) * ((y - m.y) / (p.y - m.y)))
    (0 < f y1 ∧ 0 < f y2) ∨ (f y1 < 0 ∧ f y2 < 0) := by
  intro f
  have hd1 : p.y - m.y ≠ 0 := by grind
  have hd2 : B.y - A.y ≠ 0 := by grind
  have zero : ∀ y, m.y ≤ y → A.y ≤ y → y ≤ p.y → y ≤ B.y → f y ≠ 0 := by
    intro y k1 k2 k3 k4 hf
    refine hno ((Sg.mk m p).pt ((y - m.y) / (p.y - m.y))) ((on_iff _ _).2 ⟨_, ?_, ?_, rfl⟩) ((on_iff _ _).2 ⟨(y - A.y) / (B.y - A.y), ?_, ?_, ?_⟩)
    · exact div_nn (by grind) (by grind)
    · exact div_le1 (by grind) (by grind)
    · exact div_nn (by grind) (by grind)
    · exact div_le1 (by grind) (by grind)
    · have e1 : (y - m.y) / (p.y - m.y) * (p.y - m.y) = y - m.y := Rat.div_mul_cancel hd1
      have e2 : (y - A.y) / (B.y - A.y) * (B.y - A.y) = y - A.y := Rat.div_mul_cancel hd2
      refine V2.ext' ?_ ?_
      · simp only [Sg.pt]
        have : (A.x + (B.x - A.x) * ((y - A.y) / (B.y - A.y))) - (m.x + (p.x - m.x) * ((y - m.y) / (p.y - m.y))) = 0 := hf
        grind
      · simp only [Sg.pt]
        grind
  have n1 := zero y1 h1 h2 (by grind) (by grind)
  have n2 := zero y2 (by grind) (by grind) h3 h4
  have lin : ∀ u : Rat, f (y1 + (y2 - y1) * u) = f y1 + (f y2 - f y1) * u := by
    intro u
    have hdiv : ∀ z d : Rat, z / d = z * d⁻¹ := fun z d => Rat.div_def z d
    show (A.x + (B.x - A.x) * ((y1 + (y2 - y1) * u - A.y) / (B.y - A.y))) - (m.x + (p.x - m.x) * ((y1 + (y2 - y1) * u - m.y) / (p.y - m.y))) = _
    show _ = ((A.x + (B.x - A.x) * ((y1 - A.y) / (B.y - A.y))) - (m.x + (p.x - m.x) * ((y1 - m.y) / (p.y - m.y)))) + (((A.x + (B.x - A.x) * ((y2 - A.y) / (B.y - A.y))) - (m.x + (p.x - m.x) * ((y2 - m.y) / (p.y - m.y)))) - ((A.x + (B.x - A.x) * ((y1 - A.y) / (B.y - A.y))) - (m.x + (p.x - m.x) * ((y1 - m.y) / (p.y - m.y))))) * u
    simp only [hdiv]
    grind
  generalize f y1 = s at *
  generalize hv : f y2 = v at *
  by_cases c1 : 0 < s
  · by_cases c2 : 0 < v
    · exact .inl ⟨c1, c2⟩
    · exfalso
      have hsv : 0 < s - v := by grind
      have hu0 : 0 ≤ s / (s - v) := div_nn (by grind) (by grind)
      have hu1 : s / (s - v) ≤ 1 := div_le1 (by grind) hsv
      have eu : s / (s - v) * (s - v) = s := Rat.div_mul_cancel (by grind)
      have hl := lin (s / (s - v))
      have hw := Rat.mul_nonneg (a := y2 - y1) (b := s / (s - v)) (by grind) hu0
      have hw2 := Rat.mul_nonneg (a := y2 - y1) (b := 1 - s / (s - v)) (by grind) (by grind)
      exact zero (y1 + (y2 - y1) * (s / (s - v))) (by grind) (by grind) (by grind) (by grind) (by rw [hl]; grind)
  · by_cases c2 : v < 0
    · exact .inr ⟨by grind, c2⟩
    · exfalso
      have hsv : 0 < v - s := by grind
      have hu0 : 0 ≤ -s / (v - s) := div_nn (by grind) (by grind)
      have hu1 : -s / (v - s) ≤ 1 := div_le1 (by grind) hsv
      have eu : -s / (v - s) * (v - s) = -s := Rat.div_mul_cancel (by grind)
      have hl := lin (-s / (v - s))
      have hw := Rat.mul_nonneg (a := y2 - y1) (b := -s / (v - s)) (by grind) hu0
      have hw2 := Rat.mul_nonneg (a := y2 - y1) (b := 1 - -s / (v - s)) (by grind) (by grind)
      exact zero (y1 + (y2 - y1) * (-s / (v - s))) (by grind) (by grind) (by grind) (by grind) (by rw [hl]; grind)
end Go.Fw
namespace Go.Fw
open Go Go.Proofs
def besH (m p v : V2) (cl : Bool) : Int := if m.y < v.y ∧ v.y ≤ p.y ∧ (cross m p v < 0 ∨ (cl = true ∧ cross m p v = 0)) then -1 else 0
def farX (m p A B : V2) (y : Rat) : Rat := (A.x + (B.x - A.x) * ((y - A.y) / (B.y - A.y))) - (m.x + (p.x - m.x) * ((y - m.y) / (p.y - m.y)))
theorem pos_div {a d c : Rat} (hd : 0 < d) (h : c = a * d) : (0 < c ↔ 0 < a) ∧ (c < 0 ↔ a < 0) := by
  subst h
  have h1 := Rat.mul_pos_iff_of_pos_right (a := a) hd
  have h2 := Rat.mul_neg_iff_of_pos_right (a := a) hd
  exact ⟨h1, h2⟩
theorem far_m {m p A B : V2} (hm : m.y < p.y) (hA : A.y < B.y) : cross A B m = farX m p A B m.y * (B.y - A.y) := by
  unfold cross farX
  have e1 : (m.y - A.y) / (B.y - A.y) * (B.y - A.y) = m.y - A.y := Rat.div_mul_cancel (by grind)
  have e2 : (m.y - m.y) / (p.y - m.y) * (p.y - m.y) = m.y - m.y := Rat.div_mul_cancel (by grind)
  have e3 : (m.y - m.y) / (p.y - m.y) = 0 := by
    have : (m.y - m.y) / (p.y - m.y) * (p.y - m.y) = 0 := by rw [e2]; grind
    exact (mul_zero_iff' (d := p.y - m.y) (by grind)).1 (by grind)
  rw [e3]
  generalize (m.y - A.y) / (B.y - A.y) = z at *
  grind
theorem far_p {m p A B : V2} (hm : m.y < p.y) (hA : A.y < B.y) : cross A B p = farX m p A B p.y * (B.y - A.y) := by
  unfold cross farX
  have e1 : (p.y - A.y) / (B.y - A.y) * (B.y - A.y) = p.y - A.y := Rat.div_mul_cancel (by grind)
  have e2 : (p.y - m.y) / (p.y - m.y) * (p.y - m.y) = p.y - m.y := Rat.div_mul_cancel (by grind)
  generalize (p.y - A.y) / (B.y - A.y) = z at *
  have e3 : (p.y - m.y) / (p.y - m.y) = 1 := by
    have h1 : (p.y - m.y) * ((p.y - m.y) / (p.y - m.y) - 1) = 0 := by grind
    have := (mul_zero_iff' (d := p.y - m.y) (by grind)).1 h1
    grind
  rw [e3]
  grind
theorem far_A {m p A B : V2} (hm : m.y < p.y) (hA : A.y < B.y) : -cross m p A = farX m p A B A.y * (p.y - m.y) := by
  unfold cross farX
  have e1 : (A.y - A.y) / (B.y - A.y) * (B.y - A.y) = A.y - A.y := Rat.div_mul_cancel (by grind)
  have e2 : (A.y - m.y) / (p.y - m.y) * (p.y - m.y) = A.y - m.y := Rat.div_mul_cancel (by grind)
  have e3 : (A.y - A.y) / (B.y - A.y) = 0 := (mul_zero_iff' (d := B.y - A.y) (by grind)).1 (by grind)
  rw [e3]
  generalize (A.y - m.y) / (p.y - m.y) = z at *
  grind
theorem far_B {m p A B : V2} (hm : m.y < p.y) (hA : A.y < B.y) : -cross m p B = farX m p A B B.y * (p.y - m.y) := by
  unfold cross farX
  have e1 : (B.y - A.y) / (B.y - A.y) * (B.y - A.y) = B.y - A.y := Rat.div_mul_cancel (by grind)
  have e2 : (B.y - m.y) / (p.y - m.y) * (p.y - m.y) = B.y - m.y := Rat.div_mul_cancel (by grind)
  have e3 : (B.y - A.y) / (B.y - A.y) = 1 := by
    have h1 : (B.y - A.y) * ((B.y - A.y) / (B.y - A.y) - 1) = 0 := by grind
    have := (mul_zero_iff' (d := B.y - A.y) (by grind)).1 h1
    grind
  rw [e3]
  generalize (B.y - m.y) / (p.y - m.y) = z at *
  grind
theorem pass_up {A B q : V2} (hA : A.y < B.y) : passV A B q true false = if A.y ≤ q.y ∧ q.y < B.y ∧ 0 < cross A B q then 1 else 0 := by
  unfold passV passS wayS
  have h1 : hiS (sy q A) true = decide (q.y < A.y) := by
    unfold hiS
    have e : (0 < sy q A) ↔ q.y < A.y := by unfold sy; rw [sg_pos]; constructor <;> intro h <;> grind
    simp [e]
  have h2 : hiS (sy q B) true = decide (q.y < B.y) := by
    unfold hiS
    have e : (0 < sy q B) ↔ q.y < B.y := by unfold sy; rw [sg_pos]; constructor <;> intro h <;> grind
    simp [e]
  rw [h1, h2]
  by_cases c1 : q.y < A.y
  · have c2 : q.y < B.y := by grind
    simp [c1, c2]
    intro h
    grind
  · by_cases c2 : q.y < B.y
    · have c3 : A.y ≤ q.y := by grind
      have e : (0 < sk A B q) ↔ 0 < cross A B q := by unfold sk; rw [sg_pos]
      simp [c1, c2, c3, e]
    · simp [c1, c2]
theorem ni_up {m p A B : V2} (hm : m.y < p.y) (hA : A.y < B.y) (hno : ∀ X, (Sg.mk m p).on X → ¬ (Sg.mk A B).on X) (cl : Bool) :
    passV A B p true false - passV A B m true false = besH m p B cl - besH m p A cl := by
  rw [pass_up hA, pass_up hA]
  have hAB : 0 < B.y - A.y := by grind
  have hmp : 0 < p.y - m.y := by grind
  have key : ∀ y1 y2 : Rat, m.y ≤ y1 → A.y ≤ y1 → y1 ≤ y2 → y2 ≤ p.y → y2 ≤ B.y → (0 < farX m p A B y1 ∧ 0 < farX m p A B y2) ∨ (farX m p A B y1 < 0 ∧ farX m p A B y2 < 0) :=
    fun y1 y2 h1 h2 h12 h3 h4 => beside_sign hm hA hno y1 y2 h1 h2 h12 h3 h4
  obtain ⟨m1, m2⟩ := pos_div hAB (far_m hm hA)
  obtain ⟨p1, p2⟩ := pos_div hAB (far_p hm hA)
  obtain ⟨a1, a2⟩ := pos_div hmp (far_A hm hA)
  obtain ⟨b1, b2⟩ := pos_div hmp (far_B hm hA)
  generalize cross A B m = cm at *
  generalize cross A B p = cp at *
  unfold besH
  generalize cross m p A = ca at *
  generalize cross m p B = cb at *
  by_cases ha : A.y ≤ m.y
  · have nA : ¬ (m.y < A.y ∧ A.y ≤ p.y ∧ (ca < 0 ∨ (cl = true ∧ ca = 0))) := fun h => by grind
    rw [if_neg nA]
    by_cases hb : B.y ≤ m.y
    · have n1 : ¬ (A.y ≤ p.y ∧ p.y < B.y ∧ 0 < cp) := fun h => by grind
      have n2 : ¬ (A.y ≤ m.y ∧ m.y < B.y ∧ 0 < cm) := fun h => by grind
      have n3 : ¬ (m.y < B.y ∧ B.y ≤ p.y ∧ (cb < 0 ∨ (cl = true ∧ cb = 0))) := fun h => by grind
      rw [if_neg n1, if_neg n2, if_neg n3]
    · by_cases hb2 : B.y ≤ p.y
      · have n1 : ¬ (A.y ≤ p.y ∧ p.y < B.y ∧ 0 < cp) := fun h => by grind
        rw [if_neg n1]
        rcases key m.y B.y (by grind) (by grind) (by grind) hb2 (by grind) with ⟨k1, k2⟩ | ⟨k1, k2⟩
        · rw [if_pos ⟨ha, by grind, m1.2 k1⟩, if_pos ⟨by grind, hb2, .inl (by have := b1.2 k2; grind)⟩]
          rfl
        · have q1 := m2.2 k1
          have q2 := b2.2 k2
          rw [if_neg (fun h => by grind), if_neg (fun h => by grind)]
      · have n3 : ¬ (m.y < B.y ∧ B.y ≤ p.y ∧ (cb < 0 ∨ (cl = true ∧ cb = 0))) := fun h => hb2 h.2.1
        rw [if_neg n3]
        rcases key m.y p.y (by grind) (by grind) (by grind) (by grind) (by grind) with ⟨k1, k2⟩ | ⟨k1, k2⟩
        · rw [if_pos ⟨by grind, by grind, p1.2 k2⟩, if_pos ⟨ha, by grind, m1.2 k1⟩]
          rfl
        · have q1 := m2.2 k1
          have q2 := p2.2 k2
          rw [if_neg (fun h => by grind), if_neg (fun h => by grind)]
  · have n2 : ¬ (A.y ≤ m.y ∧ m.y < B.y ∧ 0 < cm) := fun h => ha h.1
    rw [if_neg n2]
    by_cases ha2 : A.y ≤ p.y
    · by_cases hb2 : B.y ≤ p.y
      · have n1 : ¬ (A.y ≤ p.y ∧ p.y < B.y ∧ 0 < cp) := fun h => by grind
        rw [if_neg n1]
        rcases key A.y B.y (by grind) (by grind) (by grind) hb2 (by grind) with ⟨k1, k2⟩ | ⟨k1, k2⟩
        · have q1 := a1.2 k1
          have q2 := b1.2 k2
          rw [if_pos ⟨by grind, hb2, .inl (by grind)⟩, if_pos ⟨by grind, ha2, .inl (by grind)⟩]
          rfl
        · have q1 := a2.2 k1
          have q2 := b2.2 k2
          rw [if_neg (fun h => by grind), if_neg (fun h => by grind)]
      · have n3 : ¬ (m.y < B.y ∧ B.y ≤ p.y ∧ (cb < 0 ∨ (cl = true ∧ cb = 0))) := fun h => hb2 h.2.1
        rw [if_neg n3]
        rcases key A.y p.y (by grind) (by grind) ha2 (by grind) (by grind) with ⟨k1, k2⟩ | ⟨k1, k2⟩
        · have q1 := a1.2 k1
          rw [if_pos ⟨ha2, by grind, p1.2 k2⟩, if_pos ⟨by grind, ha2, .inl (by grind)⟩]
          rfl
        · have q1 := a2.2 k1
          have q2 := p2.2 k2
          rw [if_neg (fun h => by grind), if_neg (fun h => by grind)]
    · have n1 : ¬ (A.y ≤ p.y ∧ p.y < B.y ∧ 0 < cp) := fun h => ha2 h.1
      have n3 : ¬ (m.y < B.y ∧ B.y ≤ p.y ∧ (cb < 0 ∨ (cl = true ∧ cb = 0))) := fun h => by grind
      have n4 : ¬ (m.y < A.y ∧ A.y ≤ p.y ∧ (ca < 0 ∨ (cl = true ∧ ca = 0))) := fun h => ha2 h.2.1
      rw [if_neg n1, if_neg n3, if_neg n4]
theorem ni_flat {m p A B : V2} (hm : m.y < p.y) (hA : A.y = B.y) (hno : ∀ X, (Sg.mk m p).on X → ¬ (Sg.mk A B).on X) (cl : Bool) : besH m p A cl = besH m p B cl := by
  by_cases hs : m.y < A.y ∧ A.y ≤ p.y
  · have hmp : 0 < p.y - m.y := by grind
    have u0 : 0 ≤ (A.y - m.y) / (p.y - m.y) := div_nn (by grind) hmp
    have u1 : (A.y - m.y) / (p.y - m.y) ≤ 1 := div_le1 (by grind) hmp
    have eu : (A.y - m.y) / (p.y - m.y) * (p.y - m.y) = A.y - m.y := Rat.div_mul_cancel (by grind)
    obtain ⟨u, hu⟩ : ∃ u, u = (A.y - m.y) / (p.y - m.y) := ⟨_, rfl⟩
    rw [← hu] at u0 u1 eu
    have hX := hno ((Sg.mk m p).pt u) ((on_iff _ _).2 ⟨u, u0, u1, rfl⟩)
    have cA : cross m p A = -(p.y - m.y) * (A.x - (m.x + (p.x - m.x) * u)) := by unfold cross; grind
    have cB : cross m p B = -(p.y - m.y) * (B.x - (m.x + (p.x - m.x) * u)) := by unfold cross; grind
    have hon : ¬ ∃ l, 0 ≤ l ∧ l ≤ 1 ∧ (Sg.mk m p).pt u = (Sg.mk A B).pt l := fun ⟨l, h1, h2, h3⟩ => hX ((on_iff _ _).2 ⟨l, h1, h2, h3⟩)
    have hside : (0 < A.x - (m.x + (p.x - m.x) * u) ∧ 0 < B.x - (m.x + (p.x - m.x) * u)) ∨ (A.x - (m.x + (p.x - m.x) * u) < 0 ∧ B.x - (m.x + (p.x - m.x) * u) < 0) := by
      obtain ⟨x, hx⟩ : ∃ x, x = m.x + (p.x - m.x) * u := ⟨_, rfl⟩
      rw [← hx]
      have at_ : ∀ l, 0 ≤ l → l ≤ 1 → A.x + (B.x - A.x) * l ≠ x := fun l h1 h2 h3 => hon ⟨l, h1, h2, V2.ext' (by simp only [Sg.pt]; grind) (by simp only [Sg.pt]; grind)⟩
      have nA := at_ 0 (by grind) (by grind)
      have nB := at_ 1 (by grind) (by grind)
      by_cases c1 : 0 < A.x - x
      · by_cases c2 : 0 < B.x - x
        · exact .inl ⟨c1, c2⟩
        · exfalso
          have hd : 0 < A.x - B.x := by grind
          have e := Rat.div_mul_cancel (a := A.x - x) (b := A.x - B.x) (by grind)
          exact at_ ((A.x - x) / (A.x - B.x)) (div_nn (by grind) hd) (div_le1 (by grind) hd) (by grind)
      · by_cases c2 : B.x - x < 0
        · exact .inr ⟨by grind, c2⟩
        · exfalso
          have hd : 0 < B.x - A.x := by grind
          have e := Rat.div_mul_cancel (a := x - A.x) (b := B.x - A.x) (by grind)
          exact at_ ((x - A.x) / (B.x - A.x)) (div_nn (by grind) hd) (div_le1 (by grind) hd) (by grind)
    unfold besH
    rcases hside with ⟨k1, k2⟩ | ⟨k1, k2⟩
    · have := Rat.mul_pos hmp k1
      have := Rat.mul_pos hmp k2
      rw [if_pos ⟨hs.1, hs.2, .inl (by grind)⟩, if_pos ⟨by grind, by grind, .inl (by grind)⟩]
    · have := Rat.mul_pos (a := p.y - m.y) (b := -(A.x - (m.x + (p.x - m.x) * u))) hmp (by grind)
      have := Rat.mul_pos (a := p.y - m.y) (b := -(B.x - (m.x + (p.x - m.x) * u))) hmp (by grind)
      rw [if_neg (fun h => by grind), if_neg (fun h => by grind)]
  · unfold besH
    rw [if_neg (fun h => hs ⟨h.1, h.2.1⟩), if_neg (fun h => hs ⟨by grind, by grind⟩)]
theorem pass_level {A B q : V2} (hA : A.y = B.y) (up left : Bool) : passV A B q up left = 0 := by
  have h : sy q A = sy q B := by unfold sy; rw [hA]
  unfold passV passS
  have hw : wayS (sy q A) (sy q B) up = 0 := by
    rw [h]
    unfold wayS
    cases hiS (sy q B) up <;> simp
  rw [hw]
  split <;> rfl
theorem ni_all {m p A B : V2} (hm : m.y < p.y) (hno : ∀ X, (Sg.mk m p).on X → ¬ (Sg.mk A B).on X) (cl : Bool) :
    passV A B p true false - passV A B m true false = besH m p B cl - besH m p A cl := by
  by_cases h1 : A.y < B.y
  · exact ni_up hm h1 hno cl
  · by_cases h2 : A.y = B.y
    · rw [pass_level h2, pass_level h2, ni_flat hm h2 hno cl]; omega
    · have h3 : B.y < A.y := by grind
      have hno' : ∀ X, (Sg.mk m p).on X → ¬ (Sg.mk B A).on X := fun X hX hBA => hno X hX (by
        have e := hitI_swap X A B
        unfold hitI at e
        rw [if_pos hBA] at e
        by_cases k : (Sg.mk A B).on X
        · exact k
        · rw [if_neg k] at e; cases e)
      have := ni_up hm h3 hno' cl
      rw [pass_swap B A p true, pass_swap B A m true]
      omega
end Go.Fw
namespace Go.Fw
open Go Go.Proofs
def lowI (q v : V2) : Int := if v.y ≤ q.y then 1 else 0
theorem hi_low (q v : V2) : hiS (sy q v) true = decide (q.y < v.y) := by
  unfold hiS
  have e : (0 < sy q v) ↔ q.y < v.y := by unfold sy; rw [sg_pos]; constructor <;> intro h <;> grind
  simp [e]
theorem way_low (q A B : V2) : wayS (sy q A) (sy q B) true = lowI q A - lowI q B := by
  unfold wayS lowI
  rw [hi_low, hi_low]
  by_cases c1 : q.y < A.y
  · have d1 : ¬ A.y ≤ q.y := by grind
    by_cases c2 : q.y < B.y
    · have d2 : ¬ B.y ≤ q.y := by grind
      simp [c1, c2, d1, d2]
    · have d2 : B.y ≤ q.y := by grind
      simp [c1, c2, d1, d2]
  · have d1 : A.y ≤ q.y := by grind
    by_cases c2 : q.y < B.y
    · have d2 : ¬ B.y ≤ q.y := by grind
      simp [c1, c2, d1, d2]
    · have d2 : B.y ≤ q.y := by grind
      simp [c1, c2, d1, d2]
theorem pass_low (q A B : V2) (left : Bool) : passV A B q true left = if 0 < (lowI q A - lowI q B) * sk A B q ∨ ((lowI q A - lowI q B) * sk A B q = 0 ∧ left = true) then lowI q A - lowI q B else 0 := by
  unfold passV passS
  rw [way_low]
def onD (m : V2) (dx dy c : Rat) : V2 := ⟨m.x + c * dx, m.y + c * dy⟩
def offD (m : V2) (dx dy t : Rat) : V2 := ⟨m.x - t * dy, m.y + t * dx⟩
section
variable {m : V2} {dx dy t al be : Rat}
theorem along_m (left : Bool) : passV (onD m dx dy al) (onD m dx dy be) m true left = if left = true then lowI m (onD m dx dy al) - lowI m (onD m dx dy be) else 0 := by
  rw [pass_low]
  have hk : sk (onD m dx dy al) (onD m dx dy be) m = 0 := by
    unfold sk
    refine sgQ_zero.2 ?_
    unfold cross onD
    grind
  rw [hk, Int.mul_zero]
  cases left <;> simp
theorem sq2_pos (h : ¬ (dx = 0 ∧ dy = 0)) : 0 < dx * dx + dy * dy := by
  have h1 := sq_nonneg' dx
  have h2 := sq_nonneg' dy
  by_cases k : dx = 0
  · have := sq_pos' (a := dy) (fun e => h ⟨k, e⟩)
    grind
  · have := sq_pos' k
    grind
theorem along_k (ht : 0 < t) (h : ¬ (dx = 0 ∧ dy = 0)) : sk (onD m dx dy al) (onD m dx dy be) (offD m dx dy t) = sgQ (be - al) := by
  have hp := Rat.mul_pos ht (sq2_pos h)
  have e : cross (onD m dx dy al) (onD m dx dy be) (offD m dx dy t) = (be - al) * (t * (dx * dx + dy * dy)) := by
    unfold cross onD offD; grind
  unfold sk
  rw [e, sgQ_mul, sgQ_pos.2 hp, Int.mul_one]
theorem low_cases (q v : V2) : (v.y ≤ q.y ∧ lowI q v = 1) ∨ (q.y < v.y ∧ lowI q v = 0) := by
  unfold lowI
  by_cases h : v.y ≤ q.y
  · exact .inl ⟨h, by rw [if_pos h]⟩
  · exact .inr ⟨by grind, by rw [if_neg h]⟩
theorem along_p_up (ht : 0 < t) (hy : 0 < dy) : passV (onD m dx dy al) (onD m dx dy be) (offD m dx dy t) true false = lowI (offD m dx dy t) (onD m dx dy al) - lowI (offD m dx dy t) (onD m dx dy be) := by
  rw [pass_low, along_k ht (fun h => by grind)]
  have hA : (onD m dx dy al).y = m.y + al * dy := rfl
  have hB : (onD m dx dy be).y = m.y + be * dy := rfl
  rcases low_cases (offD m dx dy t) (onD m dx dy al) with ⟨h1, e1⟩ | ⟨h1, e1⟩ <;> rcases low_cases (offD m dx dy t) (onD m dx dy be) with ⟨h2, e2⟩ | ⟨h2, e2⟩ <;> rw [e1, e2]
  · split <;> rfl
  · have hk : sgQ (be - al) = 1 := by
      refine sgQ_pos.2 ?_
      have h3 : 0 < (be - al) * dy := by grind
      exact (Rat.mul_pos_iff_of_pos_right hy).1 h3
    rw [hk]; rfl
  · have hk : sgQ (be - al) = -1 := by
      refine sgQ_neg1.2 ?_
      have h3 : (be - al) * dy < 0 := by grind
      exact (Rat.mul_neg_iff_of_pos_right hy).1 h3
    rw [hk]; rfl
  · split <;> rfl
theorem along_p_down (ht : 0 < t) (hy : dy < 0) : passV (onD m dx dy al) (onD m dx dy be) (offD m dx dy t) true false = 0 := by
  rw [pass_low, along_k ht (fun h => by grind)]
  have hA : (onD m dx dy al).y = m.y + al * dy := rfl
  have hB : (onD m dx dy be).y = m.y + be * dy := rfl
  rcases low_cases (offD m dx dy t) (onD m dx dy al) with ⟨h1, e1⟩ | ⟨h1, e1⟩ <;> rcases low_cases (offD m dx dy t) (onD m dx dy be) with ⟨h2, e2⟩ | ⟨h2, e2⟩ <;> rw [e1, e2]
  · split <;> rfl
  · have hk : sgQ (be - al) = -1 := by
      refine sgQ_neg1.2 ?_
      have h3 : 0 < (al - be) * (-dy) := by grind
      have := (Rat.mul_pos_iff_of_pos_right (a := al - be) (b := -dy) (by grind)).1 h3
      grind
    rw [hk]; rfl
  · have hk : sgQ (be - al) = 1 := by
      refine sgQ_pos.2 ?_
      have h3 : 0 < (be - al) * (-dy) := by grind
      exact (Rat.mul_pos_iff_of_pos_right (b := -dy) (by grind)).1 h3
    rw [hk]; rfl
  · split <;> rfl
end
end Go.Fw
namespace Go.Fw
open Go Go.Proofs
section
variable {m : V2} {dx dy t al be c : Rat}
theorem cross_off : cross m (offD m dx dy t) (onD m dx dy c) = -(c * (t * (dx * dx + dy * dy))) := by unfold cross offD onD; grind
theorem cross_off' : cross (offD m dx dy t) m (onD m dx dy c) = c * (t * (dx * dx + dy * dy)) := by unfold cross offD onD; grind
theorem off_y : (offD m dx dy t).y = m.y + t * dx := rfl
theorem on_y : (onD m dx dy c).y = m.y + c * dy := rfl
theorem on_x : (onD m dx dy c).x = m.x + c * dx := rfl
theorem sgn_mul {x y : Rat} (hy : 0 < y) : (0 < x * y ↔ 0 < x) ∧ (x * y < 0 ↔ x < 0) ∧ (x * y = 0 ↔ x = 0) :=
  ⟨Rat.mul_pos_iff_of_pos_right hy, Rat.mul_neg_iff_of_pos_right hy, ⟨fun h => by
    rcases Rat.mul_eq_zero.1 h with k | k
    · exact k
    · grind, fun h => by rw [h, Rat.zero_mul]⟩⟩
theorem bes_right_up (ht : 0 < t) (hx : 0 < dx) (hy : 0 < dy) : besH m (offD m dx dy t) (onD m dx dy c) false = lowI m (onD m dx dy c) - lowI (offD m dx dy t) (onD m dx dy c) := by
  have hp := Rat.mul_pos ht (sq2_pos (dx := dx) (dy := dy) (fun h => by grind))
  have htx := Rat.mul_pos ht hx
  obtain ⟨s1, s2, s3⟩ := sgn_mul (x := c) hp
  obtain ⟨r1, r2, r3⟩ := sgn_mul (x := c) hy
  unfold besH lowI
  rw [cross_off, off_y, on_y]
  generalize c * (t * (dx * dx + dy * dy)) = k at *
  generalize c * dy = z at *
  generalize t * dx = w at *
  by_cases h1 : m.y < m.y + z
  · have hc : 0 < c := r1.1 (by grind)
    have hk := s1.2 hc
    rw [if_neg (show ¬ m.y + z ≤ m.y by grind)]
    by_cases h2 : m.y + z ≤ m.y + w
    · rw [if_pos h2, if_pos ⟨h1, h2, .inl (by grind)⟩]; rfl
    · rw [if_neg h2, if_neg (fun h => h2 h.2.1)]; rfl
  · rw [if_neg (fun h => h1 h.1), if_pos (show m.y + z ≤ m.y by grind), if_pos (show m.y + z ≤ m.y + w by grind)]; rfl
theorem bes_right_down (ht : 0 < t) (hx : 0 < dx) (hy : dy ≤ 0) : besH m (offD m dx dy t) (onD m dx dy c) false = 0 := by
  have hp := Rat.mul_pos ht (sq2_pos (dx := dx) (dy := dy) (fun h => by grind))
  obtain ⟨s1, s2, s3⟩ := sgn_mul (x := c) hp
  unfold besH
  rw [cross_off, off_y, on_y]
  refine if_neg ?_
  rintro ⟨h1, h2, h3⟩
  rcases h3 with h3 | ⟨h3, _⟩
  · have hc : 0 < c := s1.1 (by grind)
    have := Rat.mul_nonneg (a := c) (b := -dy) (by grind) (by grind)
    grind
  · cases h3
theorem bes_left_up (ht : 0 < t) (hx : dx < 0) (hy : 0 < dy) : besH (offD m dx dy t) m (onD m dx dy c) true = lowI (offD m dx dy t) (onD m dx dy c) - lowI m (onD m dx dy c) := by
  have hp := Rat.mul_pos ht (sq2_pos (dx := dx) (dy := dy) (fun h => by grind))
  have htx := Rat.mul_pos ht (show 0 < -dx by grind)
  obtain ⟨s1, s2, s3⟩ := sgn_mul (x := c) hp
  obtain ⟨r1, r2, r3⟩ := sgn_mul (x := c) hy
  unfold besH lowI
  rw [cross_off', off_y, on_y]
  have hw : t * dx = -(t * -dx) := by grind
  rw [hw]
  generalize c * (t * (dx * dx + dy * dy)) = k at *
  generalize c * dy = z at *
  generalize t * -dx = w at *
  by_cases h1 : m.y + z ≤ m.y
  · have hc : ¬ 0 < c := fun h => by have := r1.2 h; grind
    have hk : ¬ 0 < k := fun h => hc (s1.1 h)
    rw [if_pos h1]
    by_cases h2 : m.y + z ≤ m.y + -w
    · rw [if_pos h2, if_neg (fun h => by grind)]; rfl
    · rw [if_neg h2, if_pos ⟨by grind, h1, by
        by_cases k0 : k < 0
        · exact .inl k0
        · exact .inr ⟨rfl, by grind⟩⟩]; rfl
  · rw [if_neg h1, if_neg (fun h => h1 h.2.1), if_neg (show ¬ m.y + z ≤ m.y + -w by grind)]; rfl
theorem bes_left_down (ht : 0 < t) (hx : dx < 0) (hy : dy < 0) : besH (offD m dx dy t) m (onD m dx dy c) false = 0 := by
  have hp := Rat.mul_pos ht (sq2_pos (dx := dx) (dy := dy) (fun h => by grind))
  obtain ⟨s1, s2, s3⟩ := sgn_mul (x := c) hp
  unfold besH
  rw [cross_off', off_y, on_y]
  refine if_neg ?_
  rintro ⟨h1, h2, h3⟩
  rcases h3 with h3 | ⟨h3, _⟩
  · have hc : c < 0 := s2.1 h3
    have := Rat.mul_pos (a := -c) (b := -dy) (by grind) (by grind)
    grind
  · cases h3
theorem bes_left_flat (ht : 0 < t) (hx : dx < 0) : -besH (offD m dx 0 t) m (onD m dx 0 c) false - psiS (sx m (onD m dx 0 c)) (sy m (onD m dx 0 c)) = 0 := by
  have hp := Rat.mul_pos ht (sq2_pos (dx := dx) (dy := 0) (fun h => by grind))
  have htx := Rat.mul_pos ht (show 0 < -dx by grind)
  obtain ⟨s1, s2, s3⟩ := sgn_mul (x := c) hp
  have hy0 : sy m (onD m dx 0 c) = 0 := sgQ_zero.2 (by rw [on_y]; grind)
  unfold besH psiS
  rw [cross_off', off_y, on_y, hy0]
  by_cases hc : c < 0
  · have h1 := Rat.mul_pos (a := -c) (b := -dx) (by grind) (by grind)
    have hxp : 0 < sx m (onD m dx 0 c) := sg_pos.2 (by rw [on_x]; grind)
    rw [if_pos ⟨by grind, by grind, .inl (s2.2 hc)⟩, if_pos ⟨rfl, hxp⟩]; rfl
  · have hxn : ¬ 0 < sx m (onD m dx 0 c) := fun h => by
      have h2 := sg_pos.1 h
      rw [on_x] at h2
      have := Rat.mul_nonneg (a := c) (b := -dx) (by grind) (by grind)
      grind
    rw [if_neg (fun h => by
      rcases h.2.2 with k | ⟨k, _⟩
      · exact hc (s2.1 k)
      · cases k), if_neg (fun h => hxn h.2)]; rfl
theorem along_right (ht : 0 < t) (hx : 0 < dx) : passV (onD m dx dy al) (onD m dx dy be) (offD m dx dy t) true false - passV (onD m dx dy al) (onD m dx dy be) m true (decide (0 < dy)) = besH m (offD m dx dy t) (onD m dx dy be) false - besH m (offD m dx dy t) (onD m dx dy al) false := by
  rw [along_m]
  by_cases hy : 0 < dy
  · rw [decide_eq_true hy, if_pos rfl, along_p_up ht hy, bes_right_up ht hx hy, bes_right_up ht hx hy]; omega
  · rw [decide_eq_false hy, if_neg (by decide), bes_right_down ht hx (by grind), bes_right_down ht hx (by grind)]
    by_cases h0 : dy = 0
    · rw [pass_level (by rw [on_y, on_y, h0]; grind)]
    · rw [along_p_down ht (by grind)]
def leftH (m : V2) (dx dy t : Rat) (v : V2) : Int := -besH (offD m dx dy t) m v (decide (0 < dy)) - (if dy = 0 then psiS (sx m v) (sy m v) else 0)
theorem along_left (ht : 0 < t) (hx : dx < 0) : passV (onD m dx dy al) (onD m dx dy be) (offD m dx dy t) true false - passV (onD m dx dy al) (onD m dx dy be) m (decide (dy ≠ 0)) (decide (0 < dy)) = leftH m dx dy t (onD m dx dy be) - leftH m dx dy t (onD m dx dy al) := by
  unfold leftH
  by_cases h0 : dy = 0
  · subst h0
    rw [pass_level (by rw [on_y, on_y]; grind), pass_level (by rw [on_y, on_y]; grind), if_pos rfl, if_pos rfl]
    have e1 := bes_left_flat (m := m) (dx := dx) (t := t) (c := al) ht hx
    have e2 := bes_left_flat (m := m) (dx := dx) (t := t) (c := be) ht hx
    have hd : decide ((0 : Rat) < 0) = false := decide_eq_false (by grind)
    rw [hd]
    omega
  · rw [decide_eq_true h0, along_m, if_neg h0, if_neg h0]
    by_cases hy : 0 < dy
    · rw [decide_eq_true hy, if_pos rfl, along_p_up ht hy, bes_left_up ht hx hy, bes_left_up ht hx hy]; omega
    · rw [decide_eq_false hy, if_neg (by decide), bes_left_down ht hx (by grind), bes_left_down ht hx (by grind), along_p_down ht (by grind)]; rfl
theorem along_beside (ht : 0 < t) (hx : dx = 0) (h0 : dy ≠ 0) : passV (onD m dx dy al) (onD m dx dy be) (offD m dx dy t) true false = passV (onD m dx dy al) (onD m dx dy be) m true (decide (0 < dy)) := by
  rw [along_m]
  have hl : ∀ v, lowI (offD m dx dy t) v = lowI m v := fun v => by
    unfold lowI
    have : (offD m dx dy t).y = m.y := by rw [off_y, hx]; grind
    rw [this]
  by_cases hy : 0 < dy
  · rw [decide_eq_true hy, if_pos rfl, along_p_up ht hy, hl, hl]
  · rw [decide_eq_false hy, if_neg (by decide), along_p_down ht (by grind)]
end
end Go.Fw
namespace Go.Fw
open Go Go.Proofs
theorem on_first (m p : V2) : (Sg.mk m p).on m := (on_iff _ _).2 ⟨0, by grind, by grind, (pt_zero ⟨m, p⟩).symm⟩
theorem on_last (m p : V2) : (Sg.mk m p).on p := (on_iff _ _).2 ⟨1, by grind, by grind, (pt_one ⟨m, p⟩).symm⟩
theorem on_swap {a b X : V2} (h : (Sg.mk b a).on X) : (Sg.mk a b).on X := by
  have e := hitI_swap X a b
  unfold hitI at e
  rw [if_pos h] at e
  by_cases k : (Sg.mk a b).on X
  · exact k
  · rw [if_neg k] at e; cases e
theorem on_of_height {A B X : V2} (hA : A.y ≠ B.y) (hc : cross A B X = 0) (h : (A.y ≤ X.y ∧ X.y ≤ B.y) ∨ (B.y ≤ X.y ∧ X.y ≤ A.y)) : (Sg.mk A B).on X := by
  have hd : B.y - A.y ≠ 0 := by grind
  have e := Rat.div_mul_cancel (a := X.y - A.y) (b := B.y - A.y) hd
  refine (on_iff _ _).2 ⟨(X.y - A.y) / (B.y - A.y), ?_, ?_, ?_⟩
  · rcases h with ⟨h1, h2⟩ | ⟨h1, h2⟩
    · exact div_nn (by grind) (by grind)
    · have e2 := Rat.div_mul_cancel (a := A.y - X.y) (b := A.y - B.y) (by grind)
      have e3 := div_nn (a := A.y - X.y) (d := A.y - B.y) (by grind) (by grind)
      have : (X.y - A.y) / (B.y - A.y) = (A.y - X.y) / (A.y - B.y) := by
        have h3 : (B.y - A.y) * ((X.y - A.y) / (B.y - A.y) - (A.y - X.y) / (A.y - B.y)) = 0 := by grind
        have := (mul_zero_iff' hd).1 h3
        grind
      rw [this]; exact e3
  · rcases h with ⟨h1, h2⟩ | ⟨h1, h2⟩
    · exact div_le1 (by grind) (by grind)
    · have e2 := Rat.div_mul_cancel (a := A.y - X.y) (b := A.y - B.y) (by grind)
      have e3 := div_le1 (a := A.y - X.y) (d := A.y - B.y) (by grind) (by grind)
      have : (X.y - A.y) / (B.y - A.y) = (A.y - X.y) / (A.y - B.y) := by
        have h3 : (B.y - A.y) * ((X.y - A.y) / (B.y - A.y) - (A.y - X.y) / (A.y - B.y)) = 0 := by grind
        have := (mul_zero_iff' hd).1 h3
        grind
      rw [this]; exact e3
  · generalize (X.y - A.y) / (B.y - A.y) = l at *
    refine V2.ext' ?_ ?_
    · simp only [Sg.pt]
      unfold cross at hc
      have h3 : (B.y - A.y) * (X.x - (A.x + (B.x - A.x) * l)) = 0 := by grind
      have := (mul_zero_iff' hd).1 h3
      grind
    · simp only [Sg.pt]; grind
theorem ni_beside {m p A B : V2} (hm : p.y = m.y) (hno : ∀ X, (Sg.mk m p).on X → ¬ (Sg.mk A B).on X) : passV A B p true false = passV A B m true false := by
  rw [pass_low, pass_low]
  have hl : ∀ v, lowI p v = lowI m v := fun v => by unfold lowI; rw [hm]
  rw [hl, hl]
  by_cases hw : lowI m A - lowI m B = 0
  · rw [hw]; simp
  · have hh : (A.y ≤ m.y ∧ m.y < B.y) ∨ (B.y ≤ m.y ∧ m.y < A.y) := by
      rcases low_cases m A with ⟨h1, e1⟩ | ⟨h1, e1⟩ <;> rcases low_cases m B with ⟨h2, e2⟩ | ⟨h2, e2⟩
      · rw [e1, e2] at hw; exact absurd rfl hw
      · exact .inl ⟨h1, h2⟩
      · exact .inr ⟨h2, h1⟩
      · rw [e1, e2] at hw; exact absurd rfl hw
    have hAB : A.y ≠ B.y := by grind
    have pt0 : ∀ u, 0 ≤ u → u ≤ 1 → cross A B ((Sg.mk m p).pt u) ≠ 0 := fun u h1 h2 h3 => by
      refine hno _ ((on_iff _ _).2 ⟨u, h1, h2, rfl⟩) (on_of_height hAB h3 ?_)
      have e : ((Sg.mk m p).pt u).y = m.y := by simp only [Sg.pt]; grind
      rw [e]
      rcases hh with h | h
      · exact .inl ⟨h.1, by grind⟩
      · exact .inr ⟨h.1, by grind⟩
    have lin : ∀ u, cross A B ((Sg.mk m p).pt u) = cross A B m + u * (cross A B p - cross A B m) := fun u => by unfold cross Sg.pt; grind
    have n0 := pt0 0 (by grind) (by grind)
    have n1 := pt0 1 (by grind) (by grind)
    rw [lin] at n0 n1
    have hsame : sk A B p = sk A B m := by
      unfold sk
      rcases sgQ_cases (cross A B m) with ⟨h1, e1⟩ | ⟨h1, e1⟩ | ⟨h1, e1⟩ <;> rcases sgQ_cases (cross A B p) with ⟨h2, e2⟩ | ⟨h2, e2⟩ | ⟨h2, e2⟩ <;> rw [e1, e2]
      · exfalso; grind
      · exfalso
        have hd : 0 < cross A B p - cross A B m := by grind
        have e := Rat.div_mul_cancel (a := -cross A B m) (b := cross A B p - cross A B m) (by grind)
        exact pt0 (-cross A B m / (cross A B p - cross A B m)) (div_nn (by grind) hd) (div_le1 (by grind) hd) (by rw [lin]; grind)
      · exfalso; grind
      · exfalso; grind
      · exfalso
        have hd : 0 < cross A B m - cross A B p := by grind
        have e := Rat.div_mul_cancel (a := cross A B m) (b := cross A B m - cross A B p) (by grind)
        exact pt0 (cross A B m / (cross A B m - cross A B p)) (div_nn (by grind) hd) (div_le1 (by grind) hd) (by rw [lin]; grind)
      · exfalso; grind
    rw [hsame]
def goH (m : V2) (dx dy t : Rat) (v : V2) : Int := if 0 < dx then besH m (offD m dx dy t) v false else if dx < 0 then leftH m dx dy t v else 0
theorem side_step {a b m A B : V2} {t : Rat} (ht : 0 < t) (hab : a ≠ b) (h : (∃ al be, A = onD m (b.x - a.x) (b.y - a.y) al ∧ B = onD m (b.x - a.x) (b.y - a.y) be) ∨ (∀ X, (Sg.mk m (offD m (b.x - a.x) (b.y - a.y) t)).on X → ¬ (Sg.mk A B).on X)) :
    passV A B (offD m (b.x - a.x) (b.y - a.y) t) true false - passV A B m (upLV a b) (lfLV a b) = goH m (b.x - a.x) (b.y - a.y) t B - goH m (b.x - a.x) (b.y - a.y) t A := by
  have hup : upLV a b = if b.y - a.y = 0 then decide (0 < b.x - a.x) else true := by
    unfold upLV
    by_cases k : b.y - a.y = 0
    · have e : sy b a = 0 := sgQ_zero.2 (by grind)
      rw [if_pos e, if_pos k]
      congr 1
      rw [eq_iff_iff]
      unfold sx
      rw [sg_neg]
      constructor <;> intro h <;> grind
    · have e : ¬ sy b a = 0 := fun h => k (by have := sgQ_zero.1 h; grind)
      rw [if_neg e, if_neg k]
  have hlf : lfLV a b = decide (0 < b.y - a.y) := by
    unfold lfLV
    by_cases k : b.y - a.y = 0
    · have e : sy b a = 0 := sgQ_zero.2 (by grind)
      rw [if_pos e, decide_eq_false (by grind)]
    · have e : ¬ sy b a = 0 := fun h => k (by have := sgQ_zero.1 h; grind)
      rw [if_neg e]
      congr 1
      rw [eq_iff_iff]
      unfold sy
      rw [sg_neg]
      constructor <;> intro h <;> grind
  have hne : ¬ (b.x - a.x = 0 ∧ b.y - a.y = 0) := fun h => hab (V2.ext' (by grind) (by grind))
  rw [hup, hlf]
  generalize b.x - a.x = dx at *
  generalize b.y - a.y = dy at *
  unfold goH
  rcases (by grind : 0 < dx ∨ dx < 0 ∨ dx = 0) with hx | hx | hx
  · have hup' : (if dy = 0 then decide (0 < dx) else true) = true := by split <;> simp [hx]
    rw [hup', if_pos hx, if_pos hx]
    rcases h with ⟨al, be, rfl, rfl⟩ | h
    · exact along_right ht hx
    · have hn : ¬ (Sg.mk A B).on m := h m (on_first m _)
      have hl : passV A B m true (decide (0 < dy)) = passV A B m true false := by
        cases decide (0 < dy)
        · rfl
        · exact pass_same hn
      rw [hl]
      have := Rat.mul_pos ht hx
      exact ni_all (by rw [off_y]; grind) h false
  · rw [if_neg (show ¬ 0 < dx by grind), if_neg (show ¬ 0 < dx by grind), if_pos hx, if_pos hx]
    have hup' : (if dy = 0 then decide (0 < dx) else true) = decide (dy ≠ 0) := by
      by_cases k : dy = 0
      · rw [if_pos k, decide_eq_false (show ¬ 0 < dx by grind), decide_eq_false (fun h => h k)]
      · rw [if_neg k, decide_eq_true k]
    rw [hup']
    rcases h with ⟨al, be, rfl, rfl⟩ | h
    · exact along_left ht hx
    · have hn : ¬ (Sg.mk A B).on m := h m (on_first m _)
      have htx := Rat.mul_pos ht (show 0 < -dx by grind)
      have key := ni_all (m := offD m dx dy t) (p := m) (by rw [off_y]; grind) (fun X hX => h X (on_swap hX)) (decide (0 < dy))
      unfold leftH
      by_cases k : dy = 0
      · rw [if_pos k, if_pos k, decide_eq_false (fun h => h k), decide_eq_false (show ¬ 0 < dy by grind)]
        rw [decide_eq_false (show ¬ 0 < dy by grind)] at key
        have f := pass_flat hn
        omega
      · rw [if_neg k, if_neg k, decide_eq_true k]
        have hl : passV A B m true (decide (0 < dy)) = passV A B m true false := by
          cases decide (0 < dy)
          · rfl
          · exact pass_same hn
        rw [hl]
        omega
  · have h0 : dy ≠ 0 := fun k => hne ⟨hx, k⟩
    rw [if_neg (show ¬ 0 < dx by grind), if_neg (show ¬ 0 < dx by grind), if_neg (show ¬ dx < 0 by grind), if_neg (show ¬ dx < 0 by grind), if_neg h0]
    rcases h with ⟨al, be, rfl, rfl⟩ | h
    · rw [along_beside ht hx h0]; omega
    · have hn : ¬ (Sg.mk A B).on m := h m (on_first m _)
      have hl : passV A B m true (decide (0 < dy)) = passV A B m true false := by
        cases decide (0 < dy)
        · rfl
        · exact pass_same hn
      rw [hl, ni_beside (by rw [off_y, hx]; grind) h]
      omega
end Go.Fw

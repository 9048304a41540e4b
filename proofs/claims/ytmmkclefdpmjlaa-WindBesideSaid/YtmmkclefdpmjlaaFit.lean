/- Plain: what lies left of a segment, how near segments are, which sides are too near. -/
import Derived.Test.YtmmkclefdpmjlaaPa
set_option linter.unusedSimpArgs false
set_option linter.unusedVariables false
namespace Go.Fw
def Sg.turn (s : Sg) : Sg := ⟨s.B, s.A⟩
def clipW (a c : Rat) (s : Sg) : List V2 :=
  (if 0 ≤ a then [s.A] else []) ++ ((if a * c < 0 then [s.pt (a / (a - c))] else []) ++ (if 0 ≤ c ∧ s.A ≠ s.B then [s.B] else []))
def clip (s b : Sg) : List V2 := clipW (cross b.A b.B s.A) (cross b.A b.B s.B) s
def spanOf (l : List V2) : Option Sg := match l.head?, l.getLast? with
  | some p, some q => some ⟨p, q⟩
  | _, _ => none
def half (side : Int) (s b : Sg) : Option Sg := spanOf (clip s (if side < 0 then b.turn else b))
def sqD (p q : V2) : Rat := (q.x - p.x) * (q.x - p.x) + (q.y - p.y) * (q.y - p.y)
def toD (s : Sg) (p : V2) : Rat := if 0 < dot s.A s.B p ∧ 0 < dot s.B s.A p then cross s.A s.B p * cross s.A s.B p / sqD s.A s.B else min (sqD s.A p) (sqD s.B p)
def leastD (s t : Sg) : Rat := if meet s t ≠ [] then 0 else min (min (toD s t.A) (toD s t.B)) (min (toD t s.A) (toD t s.B))
def closerD (s t : Sg) (d : Int) : Prop := 0 < d ∧ (if leastD s t = 0 then s.A ≠ s.B ∨ t.A ≠ t.B else leastD s t < (d : Rat) * (d : Rat))
def wayD (e f : Sg) : Rat := (e.B.x - e.A.x) * (f.B.x - f.A.x) + (e.B.y - e.A.y) * (f.B.y - f.A.y)
def ruleW (k : Int) : Int := if k = 5 then 1 else -1
def ruleE (k : Int) : Int := if k = 1 ∨ k = 6 then 1 else -1
def ruleF (k : Int) : Int := if k = 1 ∨ k = 5 ∨ k = 6 then 1 else -1
def fitsD (k : Int) (e f : Sg) (d : Int) : Prop :=
  1 ≤ k ∧ k ≤ 6 ∧ 0 < d ∧ e.A ≠ e.B ∧ f.A ≠ f.B ∧ (wayD e f).num.sign = ruleW k ∧ ¬ (cross e.A e.B f.A = 0 ∧ cross e.A e.B f.B = 0) ∧
    ∃ p q, half (ruleF k) e f = some p ∧ half (ruleE k) f e = some q ∧ closerD p q d
theorem hull_ne (l : List V2) (hl : l.length ≤ 2) : (∃ p, hull l p) ↔ l ≠ [] := by
  match l, hl with
  | [], _ => simp [hull]
  | [a], _ => simp [hull]
  | [a, b], _ =>
    simp only [hull]
    constructor
    · intro _ h; cases h
    · intro _; exact ⟨a, on_A ⟨a, b⟩⟩
  | _ :: _ :: _ :: _, h => simp at h
theorem meet_ne (s t : Sg) : meet s t ≠ [] ↔ ∃ p, s.on p ∧ t.on p := by
  rw [← hull_ne _ (meet_len s t)]
  constructor
  · rintro ⟨p, h⟩; exact ⟨p, (meet_iff s t p).1 h⟩
  · rintro ⟨p, h⟩; exact ⟨p, (meet_iff s t p).2 h⟩
theorem mul_neg_ne {a c : Rat} (h : a * c < 0) : a - c ≠ 0 := by
  intro h0
  have : a = c := by grind
  subst this
  have := sq_nonneg' a
  grind
def Sg.map (φ : V2 → V2) (s : Sg) : Sg := ⟨φ s.A, φ s.B⟩
structure Sim (φ : V2 → V2) (c : Rat) : Prop where
  pos : 0 < c
  cr : ∀ a b p, cross (φ a) (φ b) (φ p) = c * cross a b p
  dt : ∀ a b p, dot (φ a) (φ b) (φ p) = c * dot a b p
  pt : ∀ (s : Sg) l, φ (s.pt l) = (s.map φ).pt l
  inj : ∀ a b, φ a = φ b ↔ a = b
theorem sqD_dot (p q : V2) : sqD p q = dot p q q := by unfold sqD dot; grind
section
variable {φ : V2 → V2} {c : Rat} (h : Sim φ c)
include h
theorem Sim.mul_pos {x : Rat} : 0 < c * x ↔ 0 < x := Rat.mul_pos_iff_of_pos_left h.pos
theorem Sim.mul_neg {x : Rat} : c * x < 0 ↔ x < 0 := Rat.mul_neg_iff_of_pos_left h.pos
theorem Sim.ne : c ≠ 0 := by have := h.pos; grind
theorem Sim.mul_zero {x : Rat} : c * x = 0 ↔ x = 0 := by
  rw [Rat.mul_eq_zero]; exact ⟨fun k => k.resolve_left h.ne, .inr⟩
theorem Sim.sq (p q : V2) : sqD (φ p) (φ q) = c * sqD p q := by rw [sqD_dot, sqD_dot, h.dt]
theorem Sim.mul_min (x y : Rat) : min (c * x) (c * y) = c * min x y := by
  have h1 : c * x ≤ c * y ↔ x ≤ y := by
    have := h.mul_neg (x := y - x)
    constructor <;> intro k <;> grind
  by_cases k : x ≤ y
  · have := h1.2 k; grind
  · have : ¬ c * x ≤ c * y := fun k' => k (h1.1 k'); grind
theorem Sim.mul_div (x y : Rat) (hy : y ≠ 0) : c * x / (c * y) = x / y := by
  have h1 := Rat.div_mul_cancel (a := x) hy
  have h2 : c * y ≠ 0 := fun k => hy (h.mul_zero.1 k)
  have h3 := Rat.div_mul_cancel (a := c * x) h2
  have h4 : (c * x / (c * y) - x / y) * (c * y) = 0 := by grind
  have := (Rat.mul_eq_zero.1 h4).resolve_right h2
  grind
theorem Sim.clipW (a d : Rat) (s : Sg) : Go.Fw.clipW (c * a) (c * d) (s.map φ) = (Go.Fw.clipW a d s).map φ := by
  have e1 : (0 ≤ c * a) ↔ 0 ≤ a := by have := h.mul_neg (x := a); grind
  have e2 : (0 ≤ c * d) ↔ 0 ≤ d := by have := h.mul_neg (x := d); grind
  have e3 : (c * a * (c * d) < 0) ↔ a * d < 0 := by
    have k1 := h.mul_neg (x := c * (a * d))
    have k2 := h.mul_neg (x := a * d)
    have k3 : c * a * (c * d) = c * (c * (a * d)) := by grind
    rw [k3, k1, k2]
  have e4 : a * d < 0 → (s.map φ).pt (c * a / (c * a - c * d)) = φ (s.pt (a / (a - d))) := by
    intro hn
    have k1 := mul_neg_ne hn
    have k2 : c * a - c * d = c * (a - d) := by grind
    rw [k2, h.mul_div _ _ k1, h.pt]
  have e5 : (φ s.A = φ s.B) ↔ s.A = s.B := h.inj _ _
  unfold Go.Fw.clipW
  by_cases h3 : a * d < 0
  · rw [e4 h3]
    by_cases h1 : 0 ≤ a <;> by_cases h2 : 0 ≤ d <;> by_cases h5 : s.A = s.B <;> simp [e1, e2, e3, e5, h1, h2, h3, h5, Sg.map]
  · by_cases h1 : 0 ≤ a <;> by_cases h2 : 0 ≤ d <;> by_cases h5 : s.A = s.B <;> simp [e1, e2, e3, e5, h1, h2, h3, h5, Sg.map]
theorem Sim.clip (s b : Sg) : clip (s.map φ) (b.map φ) = (clip s b).map φ := by
  unfold Go.Fw.clip
  rw [← h.clipW]
  simp only [Sg.map, h.cr]
theorem Sim.half (side : Int) (s b : Sg) : half side (s.map φ) (b.map φ) = (half side s b).map (Sg.map φ) := by
  have e : ∀ b : Sg, (b.map φ).turn = b.turn.map φ := fun _ => rfl
  have k : ∀ l : List V2, spanOf (l.map φ) = (spanOf l).map (Sg.map φ) := by
    intro l
    unfold spanOf
    rw [List.head?_map, List.getLast?_map]
    cases l.head? <;> cases l.getLast? <;> rfl
  unfold Go.Fw.half
  split
  · rw [e, h.clip, k]
  · rw [h.clip, k]
theorem Sim.to (s : Sg) (p : V2) : toD (s.map φ) (φ p) = c * toD s p := by
  unfold toD
  simp only [Sg.map, h.dt, h.cr, h.sq]
  by_cases k : 0 < dot s.A s.B p ∧ 0 < dot s.B s.A p
  · rw [if_pos k, if_pos ⟨h.mul_pos.2 k.1, h.mul_pos.2 k.2⟩]
    have hne : sqD s.A s.B ≠ 0 := by
      intro h0
      have h1 := sq_nonneg' (s.B.x - s.A.x)
      have h2 := sq_nonneg' (s.B.y - s.A.y)
      unfold sqD at h0
      have hx : s.B.x - s.A.x = 0 := by
        by_cases hx : s.B.x - s.A.x = 0
        · exact hx
        · have := sq_pos' hx; grind
      have hy : s.B.y - s.A.y = 0 := by
        by_cases hy : s.B.y - s.A.y = 0
        · exact hy
        · have := sq_pos' hy; grind
      have := k.1
      unfold dot at this
      rw [hx, hy] at this
      grind
    have e : c * cross s.A s.B p * (c * cross s.A s.B p) = c * (c * (cross s.A s.B p * cross s.A s.B p)) := by grind
    rw [e, h.mul_div _ _ hne, Rat.div_def, Rat.div_def, Rat.mul_assoc]
  · rw [if_neg k, if_neg (fun k' => k ⟨h.mul_pos.1 k'.1, h.mul_pos.1 k'.2⟩), h.mul_min]
theorem Sim.on (s : Sg) (p : V2) : (s.map φ).on (φ p) ↔ s.on p := by
  rw [on_iff, on_iff]
  constructor <;> rintro ⟨l, h1, h2, h3⟩
  · rw [← h.pt, h.inj] at h3; exact ⟨l, h1, h2, h3⟩
  · exact ⟨l, h1, h2, by rw [← h.pt, h.inj]; exact h3⟩
theorem Sim.least (s t : Sg) : leastD (s.map φ) (t.map φ) = c * leastD s t := by
  have hm : meet (s.map φ) (t.map φ) ≠ [] ↔ meet s t ≠ [] := by
    rw [meet_ne, meet_ne]
    constructor
    · rintro ⟨q, h1, h2⟩
      obtain ⟨l, k1, k2, rfl⟩ := (on_iff _ _).1 h1
      rw [← h.pt] at h1 h2
      exact ⟨_, (h.on _ _).1 h1, (h.on _ _).1 h2⟩
    · rintro ⟨p, h1, h2⟩
      exact ⟨φ p, (h.on _ _).2 h1, (h.on _ _).2 h2⟩
  unfold leastD
  by_cases k : meet s t ≠ []
  · rw [if_pos k, if_pos (hm.2 k)]; grind
  · rw [if_neg k, if_neg (fun k' => k (hm.1 k'))]
    have e1 : (t.map φ).A = φ t.A := rfl
    have e2 : (t.map φ).B = φ t.B := rfl
    have e3 : (s.map φ).A = φ s.A := rfl
    have e4 : (s.map φ).B = φ s.B := rfl
    rw [e1, e2, e3, e4, h.to, h.to, h.to, h.to, h.mul_min, h.mul_min, h.mul_min]
end
end Go.Fw

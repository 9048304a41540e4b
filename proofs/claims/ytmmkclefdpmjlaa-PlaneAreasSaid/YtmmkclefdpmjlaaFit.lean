/- Plain: what lies left of a segment, how near segments are, which sides are too near. -/
import Derived.Test.YtmmkclefdpmjlaaPa
set_option linter.unusedSimpArgs false
set_option linter.unusedVariables false
namespace Go.Fw
def Sg.turn (s : Sg) : Sg := ⟨s.B, s.A⟩
def clipW (a c : Rat) (s : Sg) : List V2 :=
  (if 0 ≤ a then [s.A] else []) ++ ((if a * c < 0 then [s.pt (a / (a - c))] else []) ++ (if 0 ≤ c ∧ s.A ≠ s.B then [s.B] else []))
def clip (s b : Sg) : List V2 := clipW (cross b.A b.B s.A) (cross b.A b.B s.B) s
def spanOf (l : List V2) : Option Sg := match l.head?, l.getLast? with
  | some p, some q => some ⟨p, q⟩
  | _, _ => none
def half (side : Int) (s b : Sg) : Option Sg := spanOf (clip s (if side < 0 then b.turn else b))
def sqD (p q : V2) : Rat := (q.x - p.x) * (q.x - p.x) + (q.y - p.y) * (q.y - p.y)
def toD (s : Sg) (p : V2) : Rat := if 0 < dot s.A s.B p ∧ 0 < dot s.B s.A p then cross s.A s.B p * cross s.A s.B p / sqD s.A s.B else min (sqD s.A p) (sqD s.B p)
def leastD (s t : Sg) : Rat := if meet s t ≠ [] then 0 else min (min (toD s t.A) (toD s t.B)) (min (toD t s.A) (toD t s.B))
def closerD (s t : Sg) (d : Int) : Prop := 0 < d ∧ (if leastD s t = 0 then s.A ≠ s.B ∨ t.A ≠ t.B else leastD s t < (d : Rat) * (d : Rat))
def wayD (e f : Sg) : Rat := (e.B.x - e.A.x) * (f.B.x - f.A.x) + (e.B.y - e.A.y) * (f.B.y - f.A.y)
def ruleW (k : Int) : Int := if k = 5 then 1 else -1
def ruleE (k : Int) : Int := if k = 1 ∨ k = 6 then 1 else -1
def ruleF (k : Int) : Int := if k = 1 ∨ k = 5 ∨ k = 6 then 1 else -1
def fitsD (k : Int) (e f : Sg) (d : Int) : Prop :=
  1 ≤ k ∧ k ≤ 6 ∧ 0 < d ∧ e.A ≠ e.B ∧ f.A ≠ f.B ∧ (wayD e f).num.sign = ruleW k ∧ ¬ (cross e.A e.B f.A = 0 ∧ cross e.A e.B f.B = 0) ∧
    ∃ p q, half (ruleF k) e f = some p ∧ half (ruleE k) f e = some q ∧ closerD p q d
theorem on_turn (s : Sg) (p : V2) : s.turn.on p ↔ s.on p := by
  rw [on_iff, on_iff]
  constructor <;> rintro ⟨l, h1, h2, rfl⟩ <;> exact ⟨1 - l, by grind, by grind, V2.ext' (by simp only [Sg.pt, Sg.turn]; grind) (by simp only [Sg.pt, Sg.turn]; grind)⟩
theorem hull_ne (l : List V2) (hl : l.length ≤ 2) : (∃ p, hull l p) ↔ l ≠ [] := by
  match l, hl with
  | [], _ => simp [hull]
  | [a], _ => simp [hull]
  | [a, b], _ =>
    simp only [hull]
    constructor
    · intro _ h; cases h
    · intro _; exact ⟨a, on_A ⟨a, b⟩⟩
  | _ :: _ :: _ :: _, h => simp at h
theorem meet_ne (s t : Sg) : meet s t ≠ [] ↔ ∃ p, s.on p ∧ t.on p := by
  rw [← hull_ne _ (meet_len s t)]
  constructor
  · rintro ⟨p, h⟩; exact ⟨p, (meet_iff s t p).1 h⟩
  · rintro ⟨p, h⟩; exact ⟨p, (meet_iff s t p).2 h⟩
theorem min_comm' (a b : Rat) : min a b = min b a := by grind
theorem leastD_comm (s t : Sg) : leastD s t = leastD t s := by
  have h : meet s t ≠ [] ↔ meet t s ≠ [] := by
    rw [meet_ne, meet_ne]
    constructor <;> rintro ⟨p, h1, h2⟩ <;> exact ⟨p, h2, h1⟩
  unfold leastD
  by_cases h1 : meet s t ≠ []
  · rw [if_pos h1, if_pos (h.1 h1)]
  · rw [if_neg h1, if_neg (fun h2 => h1 (h.2 h2))]
    exact min_comm' _ _
theorem toD_turn (s : Sg) (p : V2) : toD s.turn p = toD s p := by
  unfold toD Sg.turn
  simp only
  have e1 : cross s.B s.A p * cross s.B s.A p = cross s.A s.B p * cross s.A s.B p := by unfold cross; grind
  have e2 : sqD s.B s.A = sqD s.A s.B := by unfold sqD; grind
  by_cases h : 0 < dot s.A s.B p ∧ 0 < dot s.B s.A p
  · rw [if_pos h, if_pos ⟨h.2, h.1⟩, e1, e2]
  · rw [if_neg h, if_neg (fun h' => h ⟨h'.2, h'.1⟩)]
    exact min_comm' _ _
theorem leastD_turn (s t : Sg) : leastD s.turn t = leastD s t := by
  have h : meet s.turn t ≠ [] ↔ meet s t ≠ [] := by
    rw [meet_ne, meet_ne]
    constructor <;> rintro ⟨p, h1, h2⟩
    · exact ⟨p, (on_turn s p).1 h1, h2⟩
    · exact ⟨p, (on_turn s p).2 h1, h2⟩
  unfold leastD
  by_cases h1 : meet s t ≠ []
  · rw [if_pos h1, if_pos (h.2 h1)]
  · rw [if_neg h1, if_neg (fun h2 => h1 (h.1 h2)), toD_turn, toD_turn]
    congr 1
    exact min_comm' _ _
theorem closerD_comm (s t : Sg) (d : Int) : closerD s t d ↔ closerD t s d := by
  unfold closerD
  rw [leastD_comm]
  by_cases h : leastD t s = 0
  · rw [if_pos h, if_pos h, Or.comm]
  · rw [if_neg h, if_neg h]
theorem closerD_turn (s t : Sg) (d : Int) : closerD s.turn t d ↔ closerD s t d := by
  unfold closerD
  rw [leastD_turn]
  have e : (s.turn.A ≠ s.turn.B) ↔ s.A ≠ s.B := ⟨fun h h' => h h'.symm, fun h h' => h h'.symm⟩
  by_cases h : leastD s t = 0
  · rw [if_pos h, if_pos h, e]
  · rw [if_neg h, if_neg h]
theorem closerD_mono (s t : Sg) {d e : Int} (hde : d ≤ e) (h : closerD s t d) : closerD s t e := by
  obtain ⟨h1, h2⟩ := h
  refine ⟨by omega, ?_⟩
  by_cases h0 : leastD s t = 0
  · rw [if_pos h0] at h2 ⊢; exact h2
  · rw [if_neg h0] at h2 ⊢
    have : ((d * d : Int) : Rat) ≤ ((e * e : Int) : Rat) := Rat.intCast_le_intCast.2 (Int.mul_le_mul hde hde (by omega) (by omega))
    rw [Rat.intCast_mul, Rat.intCast_mul] at this
    grind
theorem cross_turn (a b p : V2) : cross b a p = - cross a b p := by unfold cross; grind
theorem mul_neg_ne {a c : Rat} (h : a * c < 0) : a - c ≠ 0 := by
  intro h0
  have : a = c := by grind
  subst this
  have := sq_nonneg' a
  grind
theorem parts_one {a c : Rat} (h : a - c ≠ 0) : c / (c - a) = 1 - a / (a - c) := by
  rw [Rat.div_def, Rat.div_def]
  have h2 : c - a ≠ 0 := fun h0 => h (by grind)
  have hi := Rat.mul_inv_cancel _ h
  have hj := Rat.mul_inv_cancel _ h2
  generalize (a - c)⁻¹ = i at *
  generalize (c - a)⁻¹ = j at *
  have e1 : (c - a) * (j + i) = 0 := by grind
  have e2 : j + i = 0 := (Rat.mul_eq_zero.1 e1).resolve_left h2
  have e3 : j = -i := by grind
  subst e3
  grind
theorem clipW_turn {s : Sg} (a c : Rat) (h : s.A ≠ s.B) : clipW c a s.turn = (clipW a c s).reverse := by
  have h' : s.B ≠ s.A := fun e => h e.symm
  have e2 : a * c < 0 → s.turn.pt (c / (c - a)) = s.pt (a / (a - c)) := by
    intro hn
    rw [parts_one (mul_neg_ne hn)]
    generalize a / (a - c) = u
    exact V2.ext' (by simp only [Sg.pt, Sg.turn]; grind) (by simp only [Sg.pt, Sg.turn]; grind)
  have e3 : c * a = a * c := Rat.mul_comm c a
  unfold clipW
  rw [e3]
  by_cases h1 : 0 ≤ a <;> by_cases h2 : 0 ≤ c <;> by_cases h3 : a * c < 0
  · rw [e2 h3]; simp [h1, h2, h3, h, h', Sg.turn]
  · simp [h1, h2, h3, h, h', Sg.turn]
  · rw [e2 h3]; simp [h1, h2, h3, h, h', Sg.turn]
  · simp [h1, h2, h3, h, h', Sg.turn]
  · rw [e2 h3]; simp [h1, h2, h3, h, h', Sg.turn]
  · simp [h1, h2, h3, h, h', Sg.turn]
  · rw [e2 h3]; simp [h1, h2, h3, h, h', Sg.turn]
  · simp [h1, h2, h3, h, h', Sg.turn]
theorem clip_turn {s : Sg} (b : Sg) (h : s.A ≠ s.B) : clip s.turn b = (clip s b).reverse := clipW_turn _ _ h
theorem span_reverse (l : List V2) : spanOf l.reverse = (spanOf l).map Sg.turn := by
  unfold spanOf
  rw [List.head?_reverse, List.getLast?_reverse]
  cases l.head? <;> cases l.getLast? <;> rfl
theorem half_turn (side : Int) {s : Sg} (b : Sg) (h : s.A ≠ s.B) : half side s.turn b = (half side s b).map Sg.turn := by
  unfold half
  rw [clip_turn _ h, span_reverse]
theorem turn_turn (s : Sg) : s.turn.turn = s := rfl
theorem half_neg (side : Int) (hs : side = 1 ∨ side = -1) (s b : Sg) : half side s b.turn = half (-side) s b := by
  unfold half
  rcases hs with rfl | rfl <;> rfl
theorem col_of {e f : Sg} (he : e.A ≠ e.B) (h : cross e.A e.B f.A = 0 ∧ cross e.A e.B f.B = 0) : cross f.A f.B e.A = 0 ∧ cross f.A f.B e.B = 0 := by
  obtain ⟨l, hl⟩ := line_at he h.1
  obtain ⟨m, hm⟩ := line_at he h.2
  rw [hl, hm]
  constructor <;> (unfold cross Sg.pt; grind)
theorem way_comm (e f : Sg) : wayD f e = wayD e f := by unfold wayD; grind
theorem way_turn (e f : Sg) : wayD e.turn f.turn = wayD e f := by unfold wayD Sg.turn; grind
theorem fits_swap {k : Int} (hk : k ≠ 5) (e f : Sg) (d : Int) (h : fitsD k e f d) : fitsD k f e d := by
  obtain ⟨h1, h2, h3, h4, h5, h6, h7, p, q, h8, h9, h10⟩ := h
  have hr : ruleE k = ruleF k := by unfold ruleE ruleF; simp [hk]
  refine ⟨h1, h2, h3, h5, h4, by rw [way_comm]; exact h6, fun h => h7 (col_of h5 h), q, p, by rw [← hr]; exact h9, by rw [hr]; exact h8, (closerD_comm p q d).1 h10⟩
theorem fits_more {k : Int} {e f : Sg} {d g : Int} (hdg : d ≤ g) (h : fitsD k e f d) : fitsD k e f g := by
  obtain ⟨h1, h2, h3, h4, h5, h6, h7, p, q, h8, h9, h10⟩ := h
  exact ⟨h1, h2, by omega, h4, h5, h6, h7, p, q, h8, h9, closerD_mono p q hdg h10⟩
theorem cross_turn0 (a b p : V2) : cross b a p = 0 ↔ cross a b p = 0 := by rw [cross_turn]; constructor <;> intro h <;> grind
theorem closer_tt (p q : Sg) (d : Int) : closerD p.turn q.turn d ↔ closerD p q d := by
  rw [closerD_turn, closerD_comm, closerD_turn, closerD_comm]
theorem fits_space (e f : Sg) (d : Int) : fitsD 2 e.turn f.turn d ↔ fitsD 1 e f d := by
  have key : ∀ (k k' : Int) (e f : Sg), 1 ≤ k' → k' ≤ 6 → ruleW k' = ruleW k → ruleF k' = - ruleF k → ruleE k' = - ruleE k → (ruleF k = 1 ∨ ruleF k = -1) → (ruleE k = 1 ∨ ruleE k = -1) → fitsD k e f d → fitsD k' e.turn f.turn d := by
    intro k k' e f g1 g2 g3 g4 g5 g6 g7 ⟨h1, h2, h3, h4, h5, h6, h7, p, q, h8, h9, h10⟩
    refine ⟨g1, g2, h3, fun h => h4 h.symm, fun h => h5 h.symm, by rw [way_turn, g3]; exact h6, ?_, p.turn, q.turn, ?_, ?_, (closer_tt p q d).2 h10⟩
    · rintro ⟨k1, k2⟩
      exact h7 ⟨(cross_turn0 _ _ _).1 k2, (cross_turn0 _ _ _).1 k1⟩
    · rw [half_turn _ _ h4, g4, half_neg _ (by rcases g6 with g | g <;> rw [g] <;> simp), Int.neg_neg, h8]; rfl
    · rw [half_turn _ _ h5, g5, half_neg _ (by rcases g7 with g | g <;> rw [g] <;> simp), Int.neg_neg, h9]; rfl
  constructor
  · intro h
    have := key 2 1 e.turn f.turn (by omega) (by omega) rfl rfl rfl (.inr rfl) (.inr rfl) h
    rwa [turn_turn, turn_turn] at this
  · intro h
    exact key 1 2 e f (by omega) (by omega) rfl rfl rfl (.inl rfl) (.inl rfl) h
theorem fits_around (e f : Sg) (d : Int) : fitsD 5 f.turn e.turn d ↔ fitsD 5 e f d := by
  have key : ∀ e f : Sg, fitsD 5 e f d → fitsD 5 f.turn e.turn d := by
    intro e f ⟨h1, h2, h3, h4, h5, h6, h7, p, q, h8, h9, h10⟩
    refine ⟨h1, h2, h3, fun h => h5 h.symm, fun h => h4 h.symm, by rw [way_turn, way_comm]; exact h6, ?_, q.turn, p.turn, ?_, ?_, (closer_tt q p d).2 ((closerD_comm p q d).1 h10)⟩
    · rintro ⟨k1, k2⟩
      exact h7 (col_of h5 ⟨(cross_turn0 _ _ _).1 k2, (cross_turn0 _ _ _).1 k1⟩)
    · have e1 : ruleF 5 = - ruleE 5 := rfl
      rw [half_turn _ _ h5, e1, half_neg (-ruleE 5) (.inl rfl), Int.neg_neg, h9]; rfl
    · have e1 : ruleE 5 = - ruleF 5 := rfl
      rw [half_turn _ _ h4, e1, half_neg (-ruleF 5) (.inr rfl), Int.neg_neg, h8]; rfl
  constructor
  · intro h
    have := key _ _ h
    rwa [turn_turn, turn_turn] at this
  · exact key e f
def Sg.map (φ : V2 → V2) (s : Sg) : Sg := ⟨φ s.A, φ s.B⟩
structure Sim (φ : V2 → V2) (c : Rat) : Prop where
  pos : 0 < c
  cr : ∀ a b p, cross (φ a) (φ b) (φ p) = c * cross a b p
  dt : ∀ a b p, dot (φ a) (φ b) (φ p) = c * dot a b p
  pt : ∀ (s : Sg) l, φ (s.pt l) = (s.map φ).pt l
  inj : ∀ a b, φ a = φ b ↔ a = b
theorem sim_move (v : V2) : Sim (fun p => ⟨p.x + v.x, p.y + v.y⟩) 1 :=
  ⟨by grind, fun a b p => by unfold cross; grind, fun a b p => by unfold dot; grind, fun s l => V2.ext' (by simp only [Sg.pt, Sg.map]; grind) (by simp only [Sg.pt, Sg.map]; grind), fun a b => by
    constructor
    · intro h
      have h1 := congrArg V2.x h
      have h2 := congrArg V2.y h
      simp only at h1 h2
      exact V2.ext' (by grind) (by grind)
    · rintro rfl; rfl⟩
theorem sim_quarter : Sim (fun p => ⟨-p.y, p.x⟩) 1 :=
  ⟨by grind, fun a b p => by unfold cross; grind, fun a b p => by unfold dot; grind, fun s l => V2.ext' (by simp only [Sg.pt, Sg.map]; grind) (by simp only [Sg.pt, Sg.map]), fun a b => by
    constructor
    · intro h
      have h1 := congrArg V2.x h
      have h2 := congrArg V2.y h
      simp only at h1 h2
      exact V2.ext' (by grind) (by grind)
    · rintro rfl; rfl⟩
theorem sim_great {m : Rat} (hm : 0 < m) : Sim (fun p => ⟨p.x * m, p.y * m⟩) (m * m) :=
  ⟨Rat.mul_pos hm hm, fun a b p => by unfold cross; grind, fun a b p => by unfold dot; grind, fun s l => V2.ext' (by simp only [Sg.pt, Sg.map]; grind) (by simp only [Sg.pt, Sg.map]; grind), fun a b => by
    constructor
    · intro h
      have h1 := congrArg V2.x h
      have h2 := congrArg V2.y h
      simp only at h1 h2
      have h0 : m ≠ 0 := by grind
      have k1 : (a.x - b.x) * m = 0 := by grind
      have k2 : (a.y - b.y) * m = 0 := by grind
      have k3 := (Rat.mul_eq_zero.1 k1).resolve_right h0
      have k4 := (Rat.mul_eq_zero.1 k2).resolve_right h0
      exact V2.ext' (by grind) (by grind)
    · rintro rfl; rfl⟩
theorem sqD_dot (p q : V2) : sqD p q = dot p q q := by unfold sqD dot; grind
theorem wayD_dot (e f : Sg) : wayD e f = dot e.A e.B f.B - dot e.A e.B f.A := by unfold wayD dot; grind
theorem sign_num (q : Rat) : q.num.sign = if q < 0 then -1 else if 0 < q then 1 else 0 := by
  have h1 := Rat.num_nonneg (q := q)
  have h2 := Rat.num_eq_zero (q := q)
  by_cases h : q < 0
  · rw [if_pos h]
    have : ¬ 0 ≤ q := by grind
    have : q.num < 0 := by
      have := mt h1.1 this
      omega
    exact Int.sign_eq_neg_one_of_neg this
  · rw [if_neg h]
    by_cases h3 : 0 < q
    · rw [if_pos h3]
      have k1 : 0 ≤ q.num := h1.2 (by grind)
      have k2 : q.num ≠ 0 := fun h0 => by have := h2.1 h0; grind
      exact Int.sign_eq_one_of_pos (by omega)
    · rw [if_neg h3]
      have : q = 0 := by grind
      subst this
      rfl
section
variable {φ : V2 → V2} {c : Rat} (h : Sim φ c)
include h
theorem Sim.mul_pos {x : Rat} : 0 < c * x ↔ 0 < x := Rat.mul_pos_iff_of_pos_left h.pos
theorem Sim.mul_neg {x : Rat} : c * x < 0 ↔ x < 0 := Rat.mul_neg_iff_of_pos_left h.pos
theorem Sim.ne : c ≠ 0 := by have := h.pos; grind
theorem Sim.mul_zero {x : Rat} : c * x = 0 ↔ x = 0 := by
  rw [Rat.mul_eq_zero]; exact ⟨fun k => k.resolve_left h.ne, .inr⟩
theorem Sim.sq (p q : V2) : sqD (φ p) (φ q) = c * sqD p q := by rw [sqD_dot, sqD_dot, h.dt]
theorem Sim.mul_min (x y : Rat) : min (c * x) (c * y) = c * min x y := by
  have h1 : c * x ≤ c * y ↔ x ≤ y := by
    have := h.mul_neg (x := y - x)
    constructor <;> intro k <;> grind
  by_cases k : x ≤ y
  · have := h1.2 k; grind
  · have : ¬ c * x ≤ c * y := fun k' => k (h1.1 k'); grind
theorem Sim.mul_div (x y : Rat) (hy : y ≠ 0) : c * x / (c * y) = x / y := by
  have h1 := Rat.div_mul_cancel (a := x) hy
  have h2 : c * y ≠ 0 := fun k => hy (h.mul_zero.1 k)
  have h3 := Rat.div_mul_cancel (a := c * x) h2
  have h4 : (c * x / (c * y) - x / y) * (c * y) = 0 := by grind
  have := (Rat.mul_eq_zero.1 h4).resolve_right h2
  grind
theorem Sim.clipW (a d : Rat) (s : Sg) : Go.Fw.clipW (c * a) (c * d) (s.map φ) = (Go.Fw.clipW a d s).map φ := by
  have e1 : (0 ≤ c * a) ↔ 0 ≤ a := by have := h.mul_neg (x := a); grind
  have e2 : (0 ≤ c * d) ↔ 0 ≤ d := by have := h.mul_neg (x := d); grind
  have e3 : (c * a * (c * d) < 0) ↔ a * d < 0 := by
    have k1 := h.mul_neg (x := c * (a * d))
    have k2 := h.mul_neg (x := a * d)
    have k3 : c * a * (c * d) = c * (c * (a * d)) := by grind
    rw [k3, k1, k2]
  have e4 : a * d < 0 → (s.map φ).pt (c * a / (c * a - c * d)) = φ (s.pt (a / (a - d))) := by
    intro hn
    have k1 := mul_neg_ne hn
    have k2 : c * a - c * d = c * (a - d) := by grind
    rw [k2, h.mul_div _ _ k1, h.pt]
  have e5 : (φ s.A = φ s.B) ↔ s.A = s.B := h.inj _ _
  unfold Go.Fw.clipW
  by_cases h3 : a * d < 0
  · rw [e4 h3]
    by_cases h1 : 0 ≤ a <;> by_cases h2 : 0 ≤ d <;> by_cases h5 : s.A = s.B <;> simp [e1, e2, e3, e5, h1, h2, h3, h5, Sg.map]
  · by_cases h1 : 0 ≤ a <;> by_cases h2 : 0 ≤ d <;> by_cases h5 : s.A = s.B <;> simp [e1, e2, e3, e5, h1, h2, h3, h5, Sg.map]
theorem Sim.clip (s b : Sg) : clip (s.map φ) (b.map φ) = (clip s b).map φ := by
  unfold Go.Fw.clip
  rw [← h.clipW]
  simp only [Sg.map, h.cr]
theorem Sim.half (side : Int) (s b : Sg) : half side (s.map φ) (b.map φ) = (half side s b).map (Sg.map φ) := by
  have e : ∀ b : Sg, (b.map φ).turn = b.turn.map φ := fun _ => rfl
  have k : ∀ l : List V2, spanOf (l.map φ) = (spanOf l).map (Sg.map φ) := by
    intro l
    unfold spanOf
    rw [List.head?_map, List.getLast?_map]
    cases l.head? <;> cases l.getLast? <;> rfl
  unfold Go.Fw.half
  split
  · rw [e, h.clip, k]
  · rw [h.clip, k]
theorem Sim.to (s : Sg) (p : V2) : toD (s.map φ) (φ p) = c * toD s p := by
  unfold toD
  simp only [Sg.map, h.dt, h.cr, h.sq]
  by_cases k : 0 < dot s.A s.B p ∧ 0 < dot s.B s.A p
  · rw [if_pos k, if_pos ⟨h.mul_pos.2 k.1, h.mul_pos.2 k.2⟩]
    have hne : sqD s.A s.B ≠ 0 := by
      intro h0
      have h1 := sq_nonneg' (s.B.x - s.A.x)
      have h2 := sq_nonneg' (s.B.y - s.A.y)
      unfold sqD at h0
      have hx : s.B.x - s.A.x = 0 := by
        by_cases hx : s.B.x - s.A.x = 0
        · exact hx
        · have := sq_pos' hx; grind
      have hy : s.B.y - s.A.y = 0 := by
        by_cases hy : s.B.y - s.A.y = 0
        · exact hy
        · have := sq_pos' hy; grind
      have := k.1
      unfold dot at this
      rw [hx, hy] at this
      grind
    have e : c * cross s.A s.B p * (c * cross s.A s.B p) = c * (c * (cross s.A s.B p * cross s.A s.B p)) := by grind
    rw [e, h.mul_div _ _ hne, Rat.div_def, Rat.div_def, Rat.mul_assoc]
  · rw [if_neg k, if_neg (fun k' => k ⟨h.mul_pos.1 k'.1, h.mul_pos.1 k'.2⟩), h.mul_min]
theorem Sim.on (s : Sg) (p : V2) : (s.map φ).on (φ p) ↔ s.on p := by
  rw [on_iff, on_iff]
  constructor <;> rintro ⟨l, h1, h2, h3⟩
  · rw [← h.pt, h.inj] at h3; exact ⟨l, h1, h2, h3⟩
  · exact ⟨l, h1, h2, by rw [← h.pt, h.inj]; exact h3⟩
theorem Sim.least (s t : Sg) : leastD (s.map φ) (t.map φ) = c * leastD s t := by
  have hm : meet (s.map φ) (t.map φ) ≠ [] ↔ meet s t ≠ [] := by
    rw [meet_ne, meet_ne]
    constructor
    · rintro ⟨q, h1, h2⟩
      obtain ⟨l, k1, k2, rfl⟩ := (on_iff _ _).1 h1
      rw [← h.pt] at h1 h2
      exact ⟨_, (h.on _ _).1 h1, (h.on _ _).1 h2⟩
    · rintro ⟨p, h1, h2⟩
      exact ⟨φ p, (h.on _ _).2 h1, (h.on _ _).2 h2⟩
  unfold leastD
  by_cases k : meet s t ≠ []
  · rw [if_pos k, if_pos (hm.2 k)]; grind
  · rw [if_neg k, if_neg (fun k' => k (hm.1 k'))]
    have e1 : (t.map φ).A = φ t.A := rfl
    have e2 : (t.map φ).B = φ t.B := rfl
    have e3 : (s.map φ).A = φ s.A := rfl
    have e4 : (s.map φ).B = φ s.B := rfl
    rw [e1, e2, e3, e4, h.to, h.to, h.to, h.to, h.mul_min, h.mul_min, h.mul_min]
theorem Sim.closer (s t : Sg) {d g : Int} (hg : (g : Rat) * (g : Rat) = c * ((d : Rat) * (d : Rat))) (hp : 0 < g ↔ 0 < d) : closerD (s.map φ) (t.map φ) g ↔ closerD s t d := by
  unfold closerD
  rw [hp, h.least, hg]
  have e1 : ((s.map φ).A ≠ (s.map φ).B) ↔ s.A ≠ s.B := not_congr (h.inj _ _)
  have e2 : ((t.map φ).A ≠ (t.map φ).B) ↔ t.A ≠ t.B := not_congr (h.inj _ _)
  have e3 : c * leastD s t < c * ((d : Rat) * (d : Rat)) ↔ leastD s t < (d : Rat) * (d : Rat) := Rat.mul_lt_mul_left h.pos
  by_cases k : leastD s t = 0
  · rw [if_pos k, if_pos (h.mul_zero.2 k), e1, e2]
  · rw [if_neg k, if_neg (fun k' => k (h.mul_zero.1 k')), e3]
theorem Sim.fits (k : Int) (e f : Sg) {d g : Int} (hg : (g : Rat) * (g : Rat) = c * ((d : Rat) * (d : Rat))) (hp : 0 < g ↔ 0 < d) : fitsD k (e.map φ) (f.map φ) g ↔ fitsD k e f d := by
  have e1 : ((e.map φ).A ≠ (e.map φ).B) ↔ e.A ≠ e.B := not_congr (h.inj _ _)
  have e2 : ((f.map φ).A ≠ (f.map φ).B) ↔ f.A ≠ f.B := not_congr (h.inj _ _)
  have e3 : (wayD (e.map φ) (f.map φ)).num.sign = (wayD e f).num.sign := by
    have : wayD (e.map φ) (f.map φ) = c * wayD e f := by
      rw [wayD_dot, wayD_dot]
      simp only [Sg.map, h.dt]
      grind
    rw [this, sign_num, sign_num]
    simp only [h.mul_neg, h.mul_pos]
  have e4 : (cross (e.map φ).A (e.map φ).B (f.map φ).A = 0 ∧ cross (e.map φ).A (e.map φ).B (f.map φ).B = 0) ↔ (cross e.A e.B f.A = 0 ∧ cross e.A e.B f.B = 0) := by
    simp only [Sg.map, h.cr, h.mul_zero]
  unfold fitsD
  rw [hp, e1, e2, e3, e4, h.half, h.half]
  refine and_congr_right fun _ => and_congr_right fun _ => and_congr_right fun _ => and_congr_right fun _ => and_congr_right fun _ => and_congr_right fun _ => and_congr_right fun _ => ?_
  constructor
  · rintro ⟨p, q, k1, k2, k3⟩
    rw [Option.map_eq_some_iff] at k1 k2
    obtain ⟨p', k4, rfl⟩ := k1
    obtain ⟨q', k5, rfl⟩ := k2
    exact ⟨p', q', k4, k5, (h.closer p' q' hg hp).1 k3⟩
  · rintro ⟨p, q, k1, k2, k3⟩
    exact ⟨p.map φ, q.map φ, by rw [k1]; rfl, by rw [k2]; rfl, (h.closer p q hg hp).2 k3⟩
end
end Go.Fw

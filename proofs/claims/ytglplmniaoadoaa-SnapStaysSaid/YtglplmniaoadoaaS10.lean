/- Plain: rows of whole numbers, their box. -/
import Derived.Test.YtglplmniaoadoaaS9
import Derived.Test.YtglplmniaoadoaaS5
import Derived.Test.YtglplmniaoadoaaSn
namespace Go.Fw
open Go Go.Proofs

def gridF (q : Int × Int) : FP := ⟨.of (q.1 : Rat), .of (q.2 : Rat)⟩
def rowF (m : List (Int × Int)) : List FP := m.map gridF
def segF (z : Int × Int) (q : Int × Int) : FSg := ⟨gridF q, gridF z⟩
def segsF (z : Int × Int) (m : List (Int × Int)) : List FSg := m.map (segF z)
def inB (q : Int × Int) : Bool := decide (inC q.1) && decide (inC q.2)
def insideB (m : List (Int × Int)) : Bool := m.all inB

theorem near_grid (q : Int × Int) : nearP (gridF q) = gridZ q.1 q.2 := by
  unfold nearP
  show gridZ (nearQ (q.1 : Rat)) (nearQ (q.2 : Rat)) = _
  rw [nearQ_int, nearQ_int]
theorem near_some (q : Int × Int) : (nearP (gridF q)).isSome = inB q := by
  rw [near_grid]
  unfold gridZ inB
  by_cases h1 : inC q.1 <;> by_cases h2 : inC q.2 <;> simp [h1, h2]
theorem rowsOk_grid (m : List (Int × Int)) : rowsOk [rowF m] = insideB m := by
  unfold rowsOk insideB rowF
  simp only [List.all_cons, List.all_nil, Bool.and_true, List.all_map]
  congr 1
  funext q
  exact near_some q
theorem ptsN_grid (m : List (Int × Int)) (h : insideB m = true) : ptsN (rowF m) = ptsI m := by
  unfold ptsN
  congr 1
  unfold rowF
  rw [List.map_map]
  have : ∀ q ∈ m, (nearV ∘ gridF) q = q := by
    intro q hq
    have h1 := List.all_eq_true.1 h q hq
    unfold inB at h1
    rw [Bool.and_eq_true, decide_eq_true_eq, decide_eq_true_eq] at h1
    show (nearP (gridF q)).getD (0, 0) = q
    rw [near_grid, gridZ, if_pos h1]
    rfl
  rw [List.map_congr_left this, List.map_id']
theorem wholeB_grid (m : List (Int × Int)) : wholeB [rowF m] = true := by
  unfold wholeB rowF
  simp only [List.all_cons, List.all_nil, Bool.and_true, List.all_map]
  rw [List.all_eq_true]
  intro q _
  show wholeP (gridF q) = true
  unfold wholeP
  rw [Bool.and_eq_true, decide_eq_true_eq, decide_eq_true_eq]
  exact ⟨Rat.den_intCast q.1, Rat.den_intCast q.2⟩
theorem grid_sz {q : Int × Int} (h1 : inI q.1) (h2 : inI q.2) : szV (gridF q) ≤ 20 := by
  unfold inI at h1 h2
  have l1 := limbs_small (n := q.1.natAbs) (by omega)
  have l2 := limbs_small (n := q.2.natAbs) (by omega)
  have l3 := limbs_small (n := 1) (by omega)
  show ((limbs q.1.natAbs).length + (limbs 1).length) + ((limbs q.2.natAbs).length + (limbs 1).length) ≤ 20
  omega
theorem upQ_int (k : Int) : upQ (k : Rat) = k := by
  unfold upQ
  rw [← Rat.intCast_neg, Rat.floor_intCast]
  omega

/-- The least and the greatest of whole numbers. -/
theorem ends_of (z : Int × Int) (m : List (Int × Int)) (hz : z ∈ m) (g : FSg → List FQ) (c : Int × Int → Int) (hg : ∀ q, g (segF z q) = [.of (c q : Rat), .of (c z : Rat)]) :
    (∃ q ∈ m, (leastOf ((segsF z m).flatMap g)).q = (c q : Rat) ∧ ∀ p ∈ m, c q ≤ c p) ∧ (∃ q ∈ m, (mostOf ((segsF z m).flatMap g)).q = (c q : Rat) ∧ ∀ p ∈ m, c p ≤ c q) := by
  obtain ⟨L, hL⟩ : ∃ L, L = (segsF z m).flatMap g := ⟨_, rfl⟩
  have hin : ∀ p ∈ m, FQ.of (c p : Rat) ∈ L := by
    intro p hp
    rw [hL, List.mem_flatMap]
    exact ⟨segF z p, List.mem_map.2 ⟨p, hp, rfl⟩, by rw [hg]; simp⟩
  have hout : ∀ x ∈ L, ∃ q ∈ m, x = FQ.of (c q : Rat) := by
    intro x hx
    rw [hL, List.mem_flatMap] at hx
    obtain ⟨s, h1, h2⟩ := hx
    obtain ⟨p, hp, rfl⟩ := List.mem_map.1 h1
    rw [hg] at h2
    simp only [List.mem_cons, List.not_mem_nil, or_false] at h2
    rcases h2 with rfl | rfl
    · exact ⟨p, hp, rfl⟩
    · exact ⟨z, hz, rfl⟩
  have hpos : 0 < L.length := List.length_pos_of_mem (hin z hz)
  rw [← hL]
  constructor
  · obtain ⟨q, hq, he⟩ := hout _ (leastOf_mem L hpos)
    refine ⟨q, hq, by rw [he]; rfl, fun p hp => ?_⟩
    have := leastOf_le L _ (hin p hp)
    rw [he] at this
    exact Rat.intCast_le_intCast.1 this
  · obtain ⟨q, hq, he⟩ := hout _ (mostOf_mem L hpos)
    refine ⟨q, hq, by rw [he]; rfl, fun p hp => ?_⟩
    have := le_mostOf L _ (hin p hp)
    rw [he] at this
    exact Rat.intCast_le_intCast.1 this

/-- The box of points on the grid. -/
structure BoxOf (m : List (Int × Int)) (a b : Int × Int) : Prop where
  ax : ∃ q ∈ m, q.1 = a.1
  ay : ∃ q ∈ m, q.2 = a.2
  bx : ∃ q ∈ m, q.1 = b.1
  by' : ∃ q ∈ m, q.2 = b.2
  all : ∀ q ∈ m, a.1 ≤ q.1 ∧ a.2 ≤ q.2 ∧ q.1 ≤ b.1 ∧ q.2 ≤ b.2

theorem box_grid (z : Int × Int) (m : List (Int × Int)) (hz : z ∈ m) : ∃ a b : Int × Int, lowG (segsF z m) = gridZ a.1 a.2 ∧ highG (segsF z m) = gridZ b.1 b.2 ∧ BoxOf m a b := by
  obtain ⟨⟨q1, h1, e1, k1⟩, ⟨q3, h3, e3, k3⟩⟩ := ends_of z m hz (fun s => [s.A.x, s.B.x]) (·.1) (fun _ => rfl)
  obtain ⟨⟨q2, h2, e2, k2⟩, ⟨q4, h4, e4, k4⟩⟩ := ends_of z m hz (fun s => [s.A.y, s.B.y]) (·.2) (fun _ => rfl)
  refine ⟨(q1.1, q2.2), (q3.1, q4.2), ?_, ?_, ⟨q1, h1, rfl⟩, ⟨q2, h2, rfl⟩, ⟨q3, h3, rfl⟩, ⟨q4, h4, rfl⟩, fun q hq => ⟨k1 q hq, k2 q hq, k3 q hq, k4 q hq⟩⟩
  · unfold lowG xsOf ysOf
    rw [e1, e2, Rat.floor_intCast, Rat.floor_intCast]
  · unfold highG xsOf ysOf
    rw [e3, e4, upQ_int, upQ_int]

/-- Whether all lie inside tells the box. -/
theorem box_inside {m : List (Int × Int)} {a b : Int × Int} (h : BoxOf m a b) : (inC a.1 ∧ inC a.2) ∧ (inC b.1 ∧ inC b.2) ↔ insideB m = true := by
  constructor
  · rintro ⟨⟨h1, h2⟩, ⟨h3, h4⟩⟩
    unfold insideB
    rw [List.all_eq_true]
    intro q hq
    have := h.all q hq
    unfold inB
    rw [Bool.and_eq_true, decide_eq_true_eq, decide_eq_true_eq]
    unfold inC at *
    omega
  · intro hin
    unfold insideB at hin
    rw [List.all_eq_true] at hin
    have key : ∀ q ∈ m, inC q.1 ∧ inC q.2 := by
      intro q hq
      have := hin q hq
      unfold inB at this
      rwa [Bool.and_eq_true, decide_eq_true_eq, decide_eq_true_eq] at this
    obtain ⟨q1, h1, e1⟩ := h.ax
    obtain ⟨q2, h2, e2⟩ := h.ay
    obtain ⟨q3, h3, e3⟩ := h.bx
    obtain ⟨q4, h4, e4⟩ := h.by'
    rw [← e1, ← e2, ← e3, ← e4]
    exact ⟨⟨(key q1 h1).1, (key q2 h2).2⟩, ⟨(key q3 h3).1, (key q4 h4).2⟩⟩
end Go.Fw

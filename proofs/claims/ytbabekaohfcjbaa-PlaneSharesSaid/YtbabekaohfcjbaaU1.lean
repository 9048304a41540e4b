/- Points and segments of the program's, and what they stand for (plain). -/
import Derived.Test.YtbabekaohfcjbaaR12
import Derived.Test.YtbabekaohfcjbaaR10
import Derived.Test.YtbabekaohfcjbaaSn
import Derived.Test.YtbabekaohfcjbaaFit
import Derived.Test.YtbabekaohfcjbaaHb
set_option linter.unusedSimpArgs false
set_option linter.unusedVariables false
namespace Go.Fw
open Go Go.Proofs

def FP.v (p : FP) : V2 := ⟨p.x.q, p.y.q⟩
def FSg.v (s : FSg) : Sg := ⟨s.A.v, s.B.v⟩

theorem cmpP_eq (p q : FP) : cmpP p q = if lexLt p.v q.v then -1 else if lexLt q.v p.v then 1 else 0 := by
  unfold cmpP
  rw [cmpQ_eq, cmpQ_eq]
  unfold lexLt FP.v
  simp only
  by_cases h1 : p.x.q < q.x.q
  · simp [h1]
  · by_cases h2 : q.x.q < p.x.q
    · have h3 : ¬ p.x.q = q.x.q := by grind
      simp [h1, h2, h3]
    · have h3 : p.x.q = q.x.q := by grind
      simp only [h3, Rat.lt_irrefl, false_or, true_and, if_false, ne_eq, not_true, Int.reduceNeg]
theorem cmpP_neg (p q : FP) : cmpP p q < 0 ↔ lexLt p.v q.v := by
  rw [cmpP_eq]
  by_cases h : lexLt p.v q.v
  · simp [h]
  · rw [if_neg h]
    by_cases h2 : lexLt q.v p.v
    · rw [if_pos h2]; simp [h]
    · rw [if_neg h2]; simp [h]
theorem cmpP_pos (p q : FP) : 0 < cmpP p q ↔ lexLt q.v p.v := by
  rw [cmpP_eq]
  by_cases h : lexLt p.v q.v
  · have : ¬ lexLt q.v p.v := fun k => lexLt_irrefl (lexLt_trans h k)
    simp [h, this]
  · rw [if_neg h]
    by_cases h2 : lexLt q.v p.v
    · rw [if_pos h2]; simp [h2]
    · rw [if_neg h2]; simp [h2]
theorem cmpP_zero (p q : FP) : cmpP p q = 0 ↔ p.v = q.v := by
  constructor
  · intro h
    exact lex_anti (fun k => by have := (cmpP_neg p q).2 k; omega) (fun k => by have := (cmpP_pos p q).2 k; omega)
  · intro h
    have h1 : ¬ cmpP p q < 0 := fun k => by have := (cmpP_neg p q).1 k; rw [h] at this; exact lexLt_irrefl this
    have h2 : ¬ 0 < cmpP p q := fun k => by have := (cmpP_pos p q).1 k; rw [h] at this; exact lexLt_irrefl this
    omega
theorem sideOf_zero (a b c : FP) : sideOf a b c = 0 ↔ cross a.v b.v c.v = 0 := by
  unfold sideOf
  simp only
  rw [cmpQ_eq]
  unfold cross FP.v
  simp only
  by_cases h1 : (b.x.q - a.x.q) * (c.y.q - a.y.q) < (b.y.q - a.y.q) * (c.x.q - a.x.q)
  · rw [if_pos h1]
    constructor
    · intro h; cases h
    · intro h; grind
  · rw [if_neg h1]
    by_cases h2 : (b.y.q - a.y.q) * (c.x.q - a.x.q) < (b.x.q - a.x.q) * (c.y.q - a.y.q)
    · rw [if_pos h2]
      constructor
      · intro h; cases h
      · intro h; grind
    · rw [if_neg h2]
      constructor
      · intro _; grind
      · intro _; rfl

/-- What Clip tells. -/
def clipF (s b : FSg) : List FP :=
  (if 0 ≤ cross b.A.v b.B.v s.A.v then [s.A] else []) ++ ((if cross b.A.v b.B.v s.A.v * cross b.A.v b.B.v s.B.v < 0 then [s.at (cross b.A.v b.B.v s.A.v / (cross b.A.v b.B.v s.A.v - cross b.A.v b.B.v s.B.v))] else []) ++ (if 0 ≤ cross b.A.v b.B.v s.B.v ∧ cmpP s.A s.B ≠ 0 then [s.B] else []))
theorem at_v (s : FSg) (l : Rat) : (s.at l).v = s.v.pt l := rfl
theorem clipF_v (s b : FSg) : (clipF s b).map FP.v = clip s.v b.v := by
  unfold clipF clip clipW
  have e : (0 ≤ cross b.A.v b.B.v s.B.v ∧ cmpP s.A s.B ≠ 0) ↔ (0 ≤ cross b.v.A b.v.B s.v.B ∧ s.v.A ≠ s.v.B) := by
    rw [Ne, cmpP_zero]; rfl
  have h1 : cross b.v.A b.v.B s.v.A = cross b.A.v b.B.v s.A.v := rfl
  have h2 : cross b.v.A b.v.B s.v.B = cross b.A.v b.B.v s.B.v := rfl
  rw [List.map_append, List.map_append]
  congr 1
  · rw [h1]; split <;> rfl
  · congr 1
    · rw [h1, h2]
      split
      · rw [List.map_cons, at_v]; rfl
      · rfl
    · by_cases h : 0 ≤ cross b.A.v b.B.v s.B.v ∧ cmpP s.A s.B ≠ 0
      · rw [if_pos h, if_pos (e.1 h)]; rfl
      · rw [if_neg h, if_neg (fun k => h (e.2 k))]; rfl

def lowestF (p : FP) : List FP → FP
  | [] => p
  | q :: l => lowestF (if cmpP q p < 0 then q else p) l
def highestF (p : FP) : List FP → FP
  | [] => p
  | q :: l => highestF (if 0 < cmpP q p then q else p) l
theorem lowestF_v (l : List FP) : ∀ p, (lowestF p l).v = lowest p.v (l.map FP.v) := by
  induction l with
  | nil => intro p; rfl
  | cons q l ih =>
    intro p
    simp only [lowestF, lowest, List.map_cons]
    rw [ih]
    congr 1
    unfold lowP
    by_cases h : cmpP q p < 0
    · rw [if_pos h, if_pos ((cmpP_neg q p).1 h)]
    · rw [if_neg h, if_neg (fun k => h ((cmpP_neg q p).2 k))]
theorem highestF_v (l : List FP) : ∀ p, (highestF p l).v = highest p.v (l.map FP.v) := by
  induction l with
  | nil => intro p; rfl
  | cons q l ih =>
    intro p
    simp only [highestF, highest, List.map_cons]
    rw [ih]
    congr 1
    unfold highP
    by_cases h : 0 < cmpP q p
    · rw [if_pos h, if_pos ((cmpP_pos q p).1 h)]
    · rw [if_neg h, if_neg (fun k => h ((cmpP_pos q p).2 k))]
def endsF (l : List FP) : List FP := match l with
  | [] => []
  | p :: r => if cmpP (lowestF p (p :: r)) (highestF p (p :: r)) = 0 then [lowestF p (p :: r)] else [lowestF p (p :: r), highestF p (p :: r)]
theorem endsF_v (l : List FP) : (endsF l).map FP.v = ends (l.map FP.v) := by
  cases l with
  | nil => rfl
  | cons p r =>
    unfold endsF ends
    simp only [List.map_cons]
    have h1 := lowestF_v (p :: r) p
    have h2 := highestF_v (p :: r) p
    rw [List.map_cons] at h1 h2
    by_cases h : cmpP (lowestF p (p :: r)) (highestF p (p :: r)) = 0
    · rw [if_pos h, if_pos (by rw [← h1, ← h2]; exact (cmpP_zero _ _).1 h), ← h1]; rfl
    · rw [if_neg h, if_neg (by rw [← h1, ← h2]; exact fun k => h ((cmpP_zero _ _).2 k)), ← h1, ← h2]; rfl
end Go.Fw

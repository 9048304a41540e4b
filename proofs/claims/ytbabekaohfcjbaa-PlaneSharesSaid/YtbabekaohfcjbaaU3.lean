/- What Meet, To, Least, Closer tell (plain). -/
import Derived.Test.YtbabekaohfcjbaaU1
import Derived.Test.YtbabekaohfcjbaaR13
import Derived.Test.YtbabekaohfcjbaaS6
set_option linter.unusedSimpArgs false
set_option linter.unusedVariables false
namespace Go.Fw
open Go Go.Proofs

theorem risingF_v (s : FSg) : (risingF s).v = s.v.rise := by
  unfold risingF Sg.rise
  by_cases h : 0 < cmpP s.A s.B
  · have h' : lexLt s.v.B s.v.A := (cmpP_pos _ _).1 h
    rw [if_pos h, if_pos h']; rfl
  · have h' : ¬ lexLt s.v.B s.v.A := fun k => h ((cmpP_pos _ _).2 k)
    rw [if_neg h, if_neg h']
theorem onF_iff (s : FSg) (p : FP) : onF s p = true ↔ s.v.on p.v := by
  unfold onF withinF Sg.on
  rw [Bool.and_eq_true, Bool.and_eq_true, decide_eq_true_eq, decide_eq_true_eq, beq_iff_eq, sideOf_zero]
  have h1 : cmpP (risingF s).A p ≤ 0 ↔ ¬ lexLt p.v s.v.rise.A := by
    rw [← risingF_v]
    have := cmpP_pos (risingF s).A p
    constructor
    · intro h k; have := this.2 k; omega
    · intro h
      by_cases k : 0 < cmpP (risingF s).A p
      · exact absurd (this.1 k) h
      · omega
  have h2 : cmpP p (risingF s).B ≤ 0 ↔ ¬ lexLt s.v.rise.B p.v := by
    rw [← risingF_v]
    have := cmpP_pos p (risingF s).B
    constructor
    · intro h k; have := this.2 k; omega
    · intro h
      by_cases k : 0 < cmpP p (risingF s).B
      · exact absurd (this.1 k) h
      · omega
  rw [h1, h2]
  constructor
  · rintro ⟨⟨a, b⟩, c⟩; exact ⟨a, b, c⟩
  · rintro ⟨a, b, c⟩; exact ⟨⟨a, b⟩, c⟩

def bothF (s t : FSg) : List FP := [s.A, s.B, t.A, t.B].filter fun p => onF s p && onF t p
theorem bothF_v (s t : FSg) : (bothF s t).map FP.v = both s.v t.v := by
  unfold bothF both
  have e : [s.v.A, s.v.B, t.v.A, t.v.B] = [s.A, s.B, t.A, t.B].map FP.v := rfl
  rw [e, List.filter_map]
  congr 1
  refine List.filter_congr fun p _ => ?_
  show (onF s p && onF t p) = (decide (s.v.on p.v) && decide (t.v.on p.v))
  congr 1
  · rw [Bool.eq_iff_iff, onF_iff, decide_eq_true_eq]
  · rw [Bool.eq_iff_iff, onF_iff, decide_eq_true_eq]
/-- What Meet tells. -/
def meetF (s t : FSg) : List FP :=
  if crossW s.v t.v ≠ 0 then
    if s.v.part t.v < 0 ∨ 1 < s.v.part t.v ∨ s.v.part2 t.v < 0 ∨ 1 < s.v.part2 t.v then [] else [s.at (s.v.part t.v)]
  else endsF (bothF s t)
theorem meetF_v (s t : FSg) : (meetF s t).map FP.v = meet s.v t.v := by
  unfold meetF meet
  by_cases h : crossW s.v t.v ≠ 0
  · rw [if_pos h, if_pos h]
    split
    · rfl
    · rfl
  · rw [if_neg h, if_neg h, endsF_v, bothF_v]
theorem meetF_nil (s t : FSg) : meetF s t = [] ↔ meet s.v t.v = [] := by
  rw [← meetF_v]
  constructor
  · intro h; rw [h]; rfl
  · intro h; exact List.map_eq_nil_iff.1 h

def toF (s : FSg) (p : FP) : FQ :=
  if 0 < dot s.A.v s.B.v p.v ∧ 0 < dot s.B.v s.A.v p.v then .of (cross s.A.v s.B.v p.v * cross s.A.v s.B.v p.v / sqP s.A s.B)
  else leastOf [.of (sqP s.A p), .of (sqP s.B p)]
theorem least_two (a b : FQ) : (leastOf [a, b]).q = min a.q b.q := by
  show (if lessQ b.q a.q then b else a).q = _
  by_cases h : lessQ b.q a.q
  · rw [if_pos h]; rw [lessQ_iff] at h; grind
  · rw [if_neg h]; rw [lessQ_iff] at h; grind
theorem least_four (a b c d : FQ) : (leastOf [a, b, c, d]).q = min (min a.q b.q) (min c.q d.q) := by
  have h1 := leastOf_le [a, b, c, d] a (by simp)
  have h2 := leastOf_le [a, b, c, d] b (by simp)
  have h3 := leastOf_le [a, b, c, d] c (by simp)
  have h4 := leastOf_le [a, b, c, d] d (by simp)
  have h5 := leastOf_mem [a, b, c, d] (by simp)
  simp only [List.mem_cons, List.not_mem_nil, or_false] at h5
  generalize leastOf [a, b, c, d] = m at *
  rcases h5 with rfl | rfl | rfl | rfl <;> grind
theorem toF_q (s : FSg) (p : FP) : (toF s p).q = toD s.v p.v := by
  unfold toF toD
  by_cases h : 0 < dot s.A.v s.B.v p.v ∧ 0 < dot s.B.v s.A.v p.v
  · have h' : 0 < dot s.v.A s.v.B p.v ∧ 0 < dot s.v.B s.v.A p.v := h
    rw [if_pos h, if_pos h']; rfl
  · have h' : ¬ (0 < dot s.v.A s.v.B p.v ∧ 0 < dot s.v.B s.v.A p.v) := h
    rw [if_neg h, if_neg h', least_two]; rfl
def leastF (s t : FSg) : FQ := if meetF s t ≠ [] then FQ.zero else leastOf [toF s t.A, toF s t.B, toF t s.A, toF t s.B]
theorem leastF_q (s t : FSg) : (leastF s t).q = leastD s.v t.v := by
  unfold leastF leastD
  by_cases h : meetF s t ≠ []
  · rw [if_pos h, if_pos (fun k => h ((meetF_nil s t).2 k))]; rfl
  · rw [if_neg h, if_neg (fun k => h (fun e => k ((meetF_nil s t).1 e))), least_four, toF_q, toF_q, toF_q, toF_q]; rfl
end Go.Fw

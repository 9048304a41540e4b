/- Layer 6, plain: what is joined is split as it was. -/
import Derived.Test.YtjgbikhnnkigpaaQ8
set_option linter.unusedSimpArgs false
set_option linter.unusedVariables false
namespace Go.Fw
open Go Go.Proofs
set_option maxRecDepth 100000

theorem short_two (z : Nat) (hz : z ≤ 65530) : ∃ p q : UInt8, shortB ((z + 4 : Nat) : Int) = [p, q] ∧ p.toNat * 256 + q.toNat = z + 4 := by
  refine ⟨_, _, rfl, ?_⟩
  unfold lowB shrI
  rw [Int.fdiv_eq_ediv_of_nonneg _ (Int.le_of_lt (Int.pow_pos (by decide))), UInt8.toNat_ofNat', UInt8.toNat_ofNat']
  simp only [IntKind.bits]
  simp
  omega

theorem nextRec_join (r : Rec) (h : recOk r = true) (q : List UInt8) : nextRec (recB r ++ q) = .ok (r.1, r.2.1, r.2.2, (recB r).length) := by
  obtain ⟨k, d, b⟩ := r
  unfold recOk at h
  rw [Bool.and_eq_true, decide_eq_true_eq, decide_eq_true_eq] at h
  obtain ⟨h1, h2⟩ := h
  simp only at h1 h2
  obtain ⟨x, y, e, hxy⟩ := short_two b.length h2
  have hl := recB_len (k, d, b)
  simp only at hl
  rw [hl]
  unfold recB
  simp only [e]
  unfold nextRec
  rw [if_neg (by simp)]
  simp only [List.cons_append, List.nil_append, List.getD_cons_zero, List.getD_cons_succ, hxy]
  rw [if_neg (by omega), if_neg (by simp)]
  have e2 : b.length + 4 = b.length + 1 + 1 + 1 + 1 := rfl
  rw [e2]
  simp

theorem recs_pre (a : List Rec) (h : ∀ r ∈ a, r.1 ≠ 4 ∧ recOk r = true) (q : List UInt8) : recs (joinB a ++ q) = preR a (recs q) := by
  induction a with
  | nil =>
    show recs ([] ++ q) = _
    rw [List.nil_append]
    cases recs q with
    | error e => rfl
    | ok p => rfl
  | cons r a ih =>
    obtain ⟨h1, h2⟩ := h r (List.mem_cons_self ..)
    have e : joinB (r :: a) ++ q = recB r ++ (joinB a ++ q) := by
      show (recB r ++ joinB a) ++ q = _
      rw [List.append_assoc]
    rw [e, recs_eq, nextRec_join r h2]
    simp only
    rw [if_neg h1, List.drop_left' rfl, ih fun x hx => h x (List.mem_cons_of_mem _ hx)]
    cases recs q with
    | error e => rfl
    | ok p => rfl

def endR : Rec := (4, 0, [])
theorem recB_end : recB endR = [0, 4, 4, 0] := by decide
theorem joinB_append (a b : List Rec) : joinB (a ++ b) = joinB a ++ joinB b := by simp [joinB]
theorem joinB_end (a : List Rec) : joinB (a ++ [endR]) = joinB a ++ [0, 4, 4, 0] := by
  rw [joinB_append]
  congr 1

theorem recs_end (q : List UInt8) : recs ([0, 4, 4, 0] ++ q) = .ok ([endR], q) := by
  rw [← recB_end, recs_eq, nextRec_join endR (by decide)]
  simp only
  rw [if_pos (by rfl), List.drop_left' rfl]
  first | done | rfl

theorem recs_all (a : List Rec) (h : ∀ r ∈ a, r.1 ≠ 4 ∧ recOk r = true) (q : List UInt8) : recs (joinB (a ++ [endR]) ++ q) = .ok (a ++ [endR], q) := by
  rw [joinB_end, List.append_assoc, recs_pre a h, recs_end]
  rfl

theorem split_ok (a : List Rec) (h : ∀ r ∈ a, r.1 ≠ 4 ∧ recOk r = true) (k : Nat) (hl : (joinB (a ++ [endR])).length + k ≤ 16777216) :
    splitSpec (joinB (a ++ [endR]) ++ List.replicate k 0) = .ok (a ++ [endR], (joinB (a ++ [endR])).length) := by
  unfold splitSpec
  rw [if_neg (by rw [List.length_append, List.length_replicate]; omega), recs_all a h]
  simp only
  rw [if_pos (by rw [List.all_eq_true]; intro x hx; simp [List.eq_of_mem_replicate hx])]
  rw [List.length_append, Nat.add_sub_cancel]
theorem split_one (a : List Rec) (h : ∀ r ∈ a, r.1 ≠ 4 ∧ recOk r = true) (k : Nat) (hl : (joinB (a ++ [endR])).length + k + 1 ≤ 16777216) :
    splitSpec (joinB (a ++ [endR]) ++ List.replicate k 0 ++ [1]) = .error 4 := by
  unfold splitSpec
  rw [if_neg (by rw [List.length_append, List.length_append, List.length_replicate, List.length_singleton]; omega), List.append_assoc, recs_all a h]
  simp only
  rw [if_neg]
  intro h'
  rw [List.all_eq_true] at h'
  have := h' 1 (by simp)
  simp at this
theorem split_cut (a : List Rec) (h : ∀ r ∈ a, r.1 ≠ 4 ∧ recOk r = true) (hl : (joinB (a ++ [endR])).length ≤ 16777216) :
    splitSpec ((joinB (a ++ [endR])).take ((joinB (a ++ [endR])).length - 1)) = .error 7 := by
  have e : (joinB (a ++ [endR])).take ((joinB (a ++ [endR])).length - 1) = joinB a ++ [0, 4, 4] := by
    rw [joinB_end]
    have : (joinB a ++ [0, 4, 4, 0]).length - 1 = (joinB a ++ [0, 4, 4]).length := by simp
    rw [this]
    have e2 : joinB a ++ ([0, 4, 4, 0] : List UInt8) = (joinB a ++ [0, 4, 4]) ++ [0] := by simp
    rw [e2, List.take_left' rfl]
  rw [e]
  unfold splitSpec
  rw [if_neg (by rw [joinB_end, List.length_append] at hl; rw [List.length_append]; simp at hl ⊢; omega), recs_pre a h]
  have : recs ([0, 4, 4] : List UInt8) = .error 7 := by kernel_rfl
  rw [this]
  rfl
end Go.Fw

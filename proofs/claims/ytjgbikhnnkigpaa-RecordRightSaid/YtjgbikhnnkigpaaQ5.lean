/- A record's kind, told twice: plain. -/
import Derived.Test.YtjgbikhnnkigpaaQ3
set_option linter.unusedSimpArgs false
set_option linter.unusedVariables false
namespace Go.Fw
open Go Go.Proofs Go.IntWalk
set_option linter.unusedSimpArgs false
set_option maxRecDepth 100000
set_option maxHeartbeats 2000000

theorem firstIn_neg (l : List UInt8) (c : UInt8) : decide (firstIn l c < 0) = l.all (fun x => x != c) := by
  have e : firstIn l c = match (List.range l.length).find? (fun i => (ByteArray.mk l.toArray)[i]! == c) with
    | some i => (i : Int)
    | none => -1 := by
    unfold firstIn firstIdx
    rfl
  have hget : ∀ i, (h : i < l.length) → (ByteArray.mk l.toArray)[i]! = l[i] := by
    intro i h
    have hs : i < (ByteArray.mk l.toArray).size := h
    rw [getElem!_pos _ i hs]
    rfl
  rw [e]
  cases hf : (List.range l.length).find? (fun i => (ByteArray.mk l.toArray)[i]! == c) with
  | some i =>
    have h1 := List.find?_some hf
    have h2 := List.mem_of_find?_eq_some hf
    rw [List.mem_range] at h2
    rw [hget i h2] at h1
    symm
    simp only
    rw [show decide ((i : Int) < 0) = false from by simp, Bool.eq_false_iff]
    intro h
    have := List.all_eq_true.1 h l[i] (List.getElem_mem h2)
    simp only [bne, h1] at this
    cases this
  | none =>
    rw [List.find?_eq_none] at hf
    simp only
    rw [show decide ((-1 : Int) < 0) = true from rfl]
    symm
    rw [List.all_eq_true]
    intro x hx
    obtain ⟨i, hi, rfl⟩ := List.mem_iff_getElem.1 hx
    have := hf i (List.mem_range.2 hi)
    rw [hget i hi] at this
    simpa [bne] using this

theorem textOf_all (b : List UInt8) (P : UInt8 → Bool) (h0 : 0 < b.length) (hP : P 0 = false) :
    (textOf b).all P = (List.range b.length).all (fun i => (decide (i + 1 = b.length) && b.getD i 0 == 0) || P (b.getD i 0)) := by
  have hget : ∀ i, (h : i < b.length) → b.getD i 0 = b[i] := fun i h => by simp [List.getD, List.getElem?_eq_getElem h]
  rw [Bool.eq_iff_iff, List.all_eq_true, List.all_eq_true]
  by_cases hz : b[b.length - 1]? = some 0
  · have ht : textOf b = b.take (b.length - 1) := by unfold textOf; rw [if_pos ⟨h0, hz⟩]
    rw [ht]
    constructor
    · intro h i hi
      rw [List.mem_range] at hi
      rw [hget i hi]
      by_cases hl : i + 1 = b.length
      · have : b[i] = 0 := by
          have e : i = b.length - 1 := by omega
          rw [← e, List.getElem?_eq_getElem hi] at hz
          exact Option.some.inj hz
        simp [hl, this]
      · have hm : b[i] ∈ b.take (b.length - 1) := by
          rw [List.mem_iff_getElem]
          exact ⟨i, by rw [List.length_take]; omega, by rw [List.getElem_take]⟩
        simp [h _ hm]
    · intro h x hx
      rw [List.mem_iff_getElem] at hx
      obtain ⟨i, hi, rfl⟩ := hx
      rw [List.length_take] at hi
      rw [List.getElem_take]
      have := h i (List.mem_range.2 (by omega))
      rw [hget i (by omega)] at this
      simpa [show ¬ i + 1 = b.length by omega] using this
  · have ht : textOf b = b := by unfold textOf; rw [if_neg (fun h => hz h.2)]
    rw [ht]
    constructor
    · intro h i hi
      rw [List.mem_range] at hi
      rw [hget i hi]
      simp [h _ (List.getElem_mem hi)]
    · intro h x hx
      rw [List.mem_iff_getElem] at hx
      obtain ⟨i, hi, rfl⟩ := hx
      have := h i (List.mem_range.2 hi)
      rw [hget i hi] at this
      rcases Bool.or_eq_true _ _ |>.mp this with h1 | h1
      · exfalso
        simp only [Bool.and_eq_true, decide_eq_true_eq, beq_iff_eq] at h1
        apply hz
        rw [show b.length - 1 = i by omega, List.getElem?_eq_getElem hi, h1.2]
      · exact h1

theorem letterB_zero : letterB 0 = false := by decide
theorem text_false (b : List UInt8) (h0 : 0 < b.length) : decide (firstIn (textOf b) 0 < 0) = (List.range b.length).all (okAt b false) := by
  rw [firstIn_neg, textOf_all b (fun x => x != 0) h0 (by decide)]
  congr 1
  funext i
  simp [okAt]
theorem text_true (b : List UInt8) (h0 : 0 < b.length) : (textOf b).all letterB = (List.range b.length).all (okAt b true) := by
  rw [textOf_all b letterB h0 letterB_zero]
  congr 1
  funext i
  simp only [okAt]
  congr 1
  by_cases h : b.getD i 0 = 0
  · rw [h]; decide
  · rw [show (b.getD i 0 != 0) = true from by rw [bne, beq_eq_false_iff_ne.2 h]; rfl]; rfl

theorem byte_dec (s d : UInt8) : decide (s = d) = decide (d.toNat = s.toNat) := by
  rw [Bool.eq_iff_iff]
  simp only [decide_eq_true_eq]
  exact ⟨fun h => by rw [h], fun h => (UInt8.toNat_inj.1 h).symm⟩
theorem textB_eq (b : List UInt8) (most : Nat) (names : Bool) (X : Bool) (lo hi : Nat) (hm : most = hi * 2) (hx : 0 < b.length → X = (List.range b.length).all (okAt b names)) :
    (decide (b.length % 2 = 0) && (decide (1 ≤ b.length / 2) && (decide (b.length / 2 ≤ hi) && X))) = textB b most names := by
  unfold textB
  by_cases h0 : 0 < b.length
  · rw [hx h0]
    by_cases h1 : b.length % 2 = 0
    · have e1 : (1 ≤ b.length / 2) := by omega
      have e2 : (b.length / 2 ≤ hi) ↔ (b.length ≤ most) := by omega
      simp only [h0, h1, e1, e2, decide_true, Bool.true_and]
    · simp [h1]
  · have : ¬ 1 ≤ b.length / 2 := by omega
    simp [h0, this]
end Go.Fw

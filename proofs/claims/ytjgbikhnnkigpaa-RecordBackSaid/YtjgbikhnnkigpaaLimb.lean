/- What loops over digits come to (plain). -/
import Derived.Test.YtjgbikhnnkigpaaKnuth
set_option linter.unusedSimpArgs false
set_option linter.unusedVariables false
namespace Go.Fw

/-- A digit; 0 beyond the top. -/
def dg (l : List Nat) (i : Nat) : Nat := l.getD i 0

theorem dg_eq {l : List Nat} {i : Nat} (h : i < l.length) : dg l i = l[i] := by simp [dg, h]
theorem dg_ge {l : List Nat} {i : Nat} (h : l.length ≤ i) : dg l i = 0 := by simp [dg, h]
theorem dg_lt {B : Nat} (hB : 0 < B) {l : List Nat} (h : ∀ d ∈ l, d < B) (i : Nat) : dg l i < B := by
  rcases Nat.lt_or_ge i l.length with hi | hi
  · rw [dg_eq hi]; exact h _ (List.getElem_mem hi)
  · rw [dg_ge hi]; exact hB

theorem val_take_succ (B : Nat) (l : List Nat) (i : Nat) : val B (l.take (i + 1)) = val B (l.take i) + B ^ i * dg l i := by
  rcases Nat.lt_or_ge i l.length with h | h
  · rw [List.take_add_one, val_append, List.length_take, Nat.min_eq_left (by omega), List.getElem?_eq_getElem h, dg_eq h]
    simp [val]
  · rw [List.take_of_length_le h, List.take_of_length_le (by omega), dg_ge h]; simp

theorem val_drop (B : Nat) (l : List Nat) (i : Nat) : val B (l.drop i) = dg l i + B * val B (l.drop (i + 1)) := by
  rcases Nat.lt_or_ge i l.length with h | h
  · rw [List.drop_eq_getElem_cons h, val, dg_eq h]
  · rw [List.drop_of_length_le h, List.drop_of_length_le (by omega), dg_ge h]; simp [val]

theorem val_split (B : Nat) (l : List Nat) (i : Nat) (h : i ≤ l.length) : val B l = val B (l.take i) + B ^ i * val B (l.drop i) := by
  have := val_append B (l.take i) (l.drop i)
  rw [List.take_append_drop, List.length_take, Nat.min_eq_left h] at this
  exact this

theorem val_replicate (B n : Nat) : val B (List.replicate n 0) = 0 := by
  induction n with
  | zero => rfl
  | succ n ih => simp [List.replicate_succ, val, ih]

theorem val_set (B : Nat) : ∀ (l : List Nat) (i x : Nat), i < l.length → val B (l.set i x) + B ^ i * dg l i = val B l + B ^ i * x
  | [], i, x, h => by simp at h
  | d :: l, 0, x, _ => by simp [val, dg]; omega
  | d :: l, i + 1, x, h => by
    have ih := val_set B l i x (by simpa using h)
    have e : dg (d :: l) (i + 1) = dg l i := by simp [dg]
    simp only [List.set_cons_succ, val, e, Nat.pow_succ]
    have h1 : B * val B (l.set i x) + B * (B ^ i * dg l i) = B * val B l + B * (B ^ i * x) := by rw [← Nat.mul_add, ih, Nat.mul_add]
    have h2 : B ^ i * B * dg l i = B * (B ^ i * dg l i) := by rw [Nat.mul_comm (B ^ i) B, Nat.mul_assoc]
    have h3 : B ^ i * B * x = B * (B ^ i * x) := by rw [Nat.mul_comm (B ^ i) B, Nat.mul_assoc]
    omega

theorem dg_set (l : List Nat) (i j x : Nat) (h : i < l.length) : dg (l.set i x) j = if i = j then x else dg l j := by
  unfold dg
  simp only [List.getD_eq_getElem?_getD, List.getElem?_set]
  split
  · rename_i he; subst he; simp [h]
  · rfl

theorem mem_set_lt {B : Nat} {l : List Nat} (hl : ∀ d ∈ l, d < B) {i x : Nat} (hx : x < B) : ∀ d ∈ l.set i x, d < B := by
  intro d hd
  rcases List.mem_or_eq_of_mem_set hd with h | h
  · exact hl d h
  · omega

theorem mem_append_lt {B : Nat} {l : List Nat} (hl : ∀ d ∈ l, d < B) {x : Nat} (hx : x < B) : ∀ d ∈ l ++ [x], d < B := by
  intro d hd
  simp at hd
  rcases hd with h | h
  · exact hl d h
  · omega

/-- All noughts from a place on. -/
theorem val_take_of_zero (B : Nat) (l : List Nat) (n : Nat) (h : ∀ j, n ≤ j → dg l j = 0) : val B l = val B (l.take n) := by
  rcases Nat.lt_or_ge l.length n with h1 | h1
  · rw [List.take_of_length_le (by omega)]
  · rw [val_split B l n h1]
    have : ∀ (m : List Nat), (∀ j, dg m j = 0) → val B m = 0 := by
      intro m
      induction m with
      | nil => intro _; rfl
      | cons d m ih =>
        intro hm
        have h0 := hm 0
        simp [dg] at h0
        have hs := ih (fun j => by have := hm (j + 1); simpa [dg] using this)
        simp [val, h0, hs]
    rw [this (l.drop n) (fun j => by have := h (n + j) (by omega); simpa [dg] using this)]
    simp

/-- A sum, digit by digit. -/
theorem add_step {B c i va vb vo x y : Nat} (hB : 0 < B) (h : vo + B ^ i * c = va + vb) :
    vo + B ^ i * ((c + x + y) % B) + B ^ (i + 1) * ((c + x + y) / B) = va + B ^ i * x + (vb + B ^ i * y) := by
  have h1 : B ^ i * ((c + x + y) % B) + B ^ (i + 1) * ((c + x + y) / B) = B ^ i * (c + x + y) := by
    rw [Nat.pow_succ, Nat.mul_assoc, ← Nat.mul_add, Nat.mod_add_div]
  rw [Nat.add_assoc, h1, Nat.mul_add, Nat.mul_add]
  omega

theorem digits_val {B : Nat} (hB : 1 < B) {l : List Nat} (hl : ∀ d ∈ l, d < B) (ht : l = [] ∨ l[l.length - 1]? ≠ some 0) : digits B (val B l) = l := by
  rw [← strip_digits hB l hl, strip_take l l.length (Nat.le_refl _) (fun i h1 h2 => by omega) ?_, List.take_length]
  rcases ht with h | h
  · subst h; exact .inl rfl
  · exact .inr h

theorem val_inj {B : Nat} (hB : 1 < B) {a b : Nat} (h : digits B a = digits B b) : a = b := by
  rw [← val_digits hB a, h, val_digits hB]

/-- Of two rows as long the one whose first unlike digit, from the top, is less is the less. -/
theorem val_cmp_top {B : Nat} (hB : 0 < B) {a b : List Nat} (ha : ∀ d ∈ a, d < B) (hb : ∀ d ∈ b, d < B) (hl : a.length = b.length) (i : Nat) (hi : i < a.length)
    (he : a.drop (i + 1) = b.drop (i + 1)) (hlt : dg a i < dg b i) : val B a < val B b := by
  rw [val_split B a i (by omega), val_split B b i (by omega), val_drop B a i, val_drop B b i, he]
  have h1 := val_lt hB (a.take i) (fun d hd => ha d (List.mem_of_mem_take hd))
  rw [List.length_take, Nat.min_eq_left (by omega)] at h1
  have h2 : B ^ i * (dg a i + 1) ≤ B ^ i * dg b i := Nat.mul_le_mul_left _ hlt
  rw [Nat.mul_add, Nat.mul_add]
  rw [Nat.mul_add] at h2
  omega
end Go.Fw

/- Digits to a base, the lowest first (plain). -/
import Derived.Test.YtjgbikhnnkigpaaFwX
set_option linter.unusedSimpArgs false
set_option linter.unusedVariables false
namespace Go.Fw

def val (B : Nat) : List Nat → Nat
  | [] => 0
  | d :: l => d + B * val B l

/-- The digits of a number (none for 0). -/
def digF (B : Nat) : Nat → Nat → List Nat
  | 0, _ => []
  | f + 1, n => if n = 0 then [] else n % B :: digF B f (n / B)
def digits (B n : Nat) : List Nat := digF B n n

/-- Without noughts on top. -/
def strip : List Nat → List Nat
  | [] => []
  | d :: l => match strip l with
    | [] => if d = 0 then [] else [d]
    | e :: r => d :: e :: r

theorem digF_fuel {B : Nat} (hB : 1 < B) : ∀ (f g n : Nat), n ≤ f → n ≤ g → digF B f n = digF B g n
  | 0, 0, _, _, _ => rfl
  | 0, g + 1, n, h, _ => by
    have : n = 0 := by omega
    subst this; simp [digF]
  | f + 1, 0, n, _, h => by
    have : n = 0 := by omega
    subst this; simp [digF]
  | f + 1, g + 1, n, h, h' => by
    simp only [digF]
    split
    · rfl
    · rename_i h0
      have : n / B < n := Nat.div_lt_self (by omega) hB
      rw [digF_fuel hB f g (n / B) (by omega) (by omega)]

theorem digits_zero (B : Nat) : digits B 0 = [] := rfl
theorem digits_pos {B n : Nat} (hB : 1 < B) (hn : 0 < n) : digits B n = n % B :: digits B (n / B) := by
  unfold digits
  obtain ⟨m, rfl⟩ : ∃ m, n = m + 1 := ⟨n - 1, by omega⟩
  simp only [digF]
  rw [if_neg (by omega)]
  have : (m + 1) / B < m + 1 := Nat.div_lt_self (by omega) hB
  rw [digF_fuel hB m ((m + 1) / B) _ (by omega) (by omega)]

theorem val_digits {B : Nat} (hB : 1 < B) : ∀ n, val B (digits B n) = n := by
  intro n
  induction n using Nat.strongRecOn with
  | _ n ih =>
    rcases Nat.eq_zero_or_pos n with h | h
    · subst h; rfl
    · rw [digits_pos hB h, val, ih _ (Nat.div_lt_self h hB)]
      exact Nat.mod_add_div n B

theorem digits_lt {B : Nat} (hB : 1 < B) : ∀ n, ∀ d ∈ digits B n, d < B := by
  intro n
  induction n using Nat.strongRecOn with
  | _ n ih =>
    rcases Nat.eq_zero_or_pos n with h | h
    · subst h; intro d hd; cases hd
    · rw [digits_pos hB h]
      intro d hd
      rcases List.mem_cons.1 hd with rfl | hd
      · exact Nat.mod_lt _ (by omega)
      · exact ih _ (Nat.div_lt_self h hB) d hd

theorem val_append (B : Nat) : ∀ l l' : List Nat, val B (l ++ l') = val B l + B ^ l.length * val B l'
  | [], l' => by simp [val]
  | d :: l, l' => by
    simp only [List.cons_append, val, List.length_cons, val_append B l l', Nat.pow_succ]
    rw [Nat.mul_add, Nat.mul_comm (B ^ l.length) B, Nat.mul_assoc]; omega

theorem val_lt {B : Nat} (hB : 0 < B) : ∀ l : List Nat, (∀ d ∈ l, d < B) → val B l < B ^ l.length
  | [], _ => by simp [val]
  | d :: l, h => by
    have h1 := val_lt hB l fun e he => h e (by simp [he])
    have h2 := h d (by simp)
    simp only [val, List.length_cons, Nat.pow_succ]
    calc d + B * val B l < B + B * val B l := by omega
      _ = B * (val B l + 1) := by rw [Nat.mul_add]; omega
      _ ≤ B * B ^ l.length := Nat.mul_le_mul_left _ h1
      _ = B ^ l.length * B := Nat.mul_comm _ _

theorem strip_digits {B : Nat} (hB : 1 < B) : ∀ l : List Nat, (∀ d ∈ l, d < B) → strip l = digits B (val B l)
  | [], _ => rfl
  | d :: l, h => by
    have ih := strip_digits hB l fun e he => h e (by simp [he])
    have hd := h d (by simp)
    simp only [strip, val]
    have hmod : (d + B * val B l) % B = d := by rw [Nat.add_mul_mod_self_left, Nat.mod_eq_of_lt hd]
    have hdiv : (d + B * val B l) / B = val B l := by rw [Nat.add_mul_div_left _ _ (by omega), Nat.div_eq_of_lt hd]; omega
    rcases Nat.eq_zero_or_pos (val B l) with h0 | h0
    · rw [ih, h0, digits_zero]
      simp only [Nat.mul_zero, Nat.add_zero]
      by_cases hd0 : d = 0
      · simp [hd0, digits_zero]
      · rw [if_neg hd0, digits_pos hB (by omega), Nat.mod_eq_of_lt hd, Nat.div_eq_of_lt hd, digits_zero]
    · have hpos : 0 < d + B * val B l := by have := Nat.mul_pos (show 0 < B by omega) h0; omega
      rw [digits_pos hB hpos, hmod, hdiv, ih, digits_pos hB h0]

/-- Where the first number stands whose top digits are noughts: what is cut. -/
theorem strip_take : ∀ (l : List Nat) (n : Nat), n ≤ l.length → (∀ i, n ≤ i → i < l.length → l[i]? = some 0) → (n = 0 ∨ l[n - 1]? ≠ some 0) → strip l = l.take n
  | [], n, h, _, _ => by simp [strip]
  | d :: l, 0, _, hz, _ => by
    have h1 := strip_take l 0 (by omega) (fun i _ hi => by have := hz (i + 1) (by omega) (by simpa using hi); simpa using this) (.inl rfl)
    have h0 := hz 0 (by omega) (by simp)
    simp at h0
    simp [strip, h1, h0]
  | d :: l, n + 1, h, hz, hn => by
    simp only [List.length_cons] at h
    have hz' : ∀ i, n ≤ i → i < l.length → l[i]? = some 0 := fun i h1 hi => by have := hz (i + 1) (by omega) (by simpa using hi); simpa using this
    rcases Nat.eq_zero_or_pos n with h0 | h0
    · subst h0
      have h1 := strip_take l 0 (by omega) hz' (.inl rfl)
      rcases hn with hn | hn
      · omega
      · simp at hn
        simp [strip, h1, hn]
    · have hn' : l[n - 1]? ≠ some 0 := by
        rcases hn with hn | hn
        · omega
        · obtain ⟨m, rfl⟩ : ∃ m, n = m + 1 := ⟨n - 1, by omega⟩
          simpa using hn
      have h1 := strip_take l n (by omega) hz' (.inr hn')
      simp only [strip, List.take_succ_cons, h1]
      cases hc : l.take n with
      | nil =>
        have : (l.take n).length = 0 := by rw [hc]; rfl
        rw [List.length_take] at this
        omega
      | cons e r => rfl

theorem digits_length_le {B : Nat} (hB : 1 < B) : ∀ (n k : Nat), n < B ^ k → (digits B n).length ≤ k := by
  intro n
  induction n using Nat.strongRecOn with
  | _ n ih =>
    intro k hk
    rcases Nat.eq_zero_or_pos n with h | h
    · subst h; simp [digits_zero]
    · rw [digits_pos hB h]
      cases k with
      | zero => simp at hk; omega
      | succ k =>
        simp only [List.length_cons]
        have := ih (n / B) (Nat.div_lt_self h hB) k (by
          rw [Nat.div_lt_iff_lt_mul (by omega)]
          rwa [Nat.pow_succ] at hk)
        omega

/-- The top digit isn't 0. -/
theorem digits_top {B : Nat} (hB : 1 < B) : ∀ n, 0 < n → (digits B n)[(digits B n).length - 1]? ≠ some 0 := by
  intro n
  induction n using Nat.strongRecOn with
  | _ n ih =>
    intro hn
    rw [digits_pos hB hn]
    rcases Nat.eq_zero_or_pos (n / B) with h | h
    · rw [h, digits_zero]
      simp
      have := Nat.mod_add_div n B
      rw [h] at this
      omega
    · have h1 := ih (n / B) (Nat.div_lt_self hn hB) h
      have h2 : 0 < (digits B (n / B)).length := by rw [digits_pos hB h]; simp
      obtain ⟨m, hm⟩ : ∃ m, (digits B (n / B)).length = m + 1 := ⟨_, (Nat.succ_pred_eq_of_pos h2).symm⟩
      rw [hm] at h1
      simpa [hm] using h1

theorem digits_ne_nil {B n : Nat} (hB : 1 < B) : digits B n = [] ↔ n = 0 := by
  constructor
  · intro h
    rcases Nat.eq_zero_or_pos n with h0 | h0
    · exact h0
    · rw [digits_pos hB h0] at h; cases h
  · rintro rfl; rfl

theorem le_val_digits {B : Nat} (hB : 1 < B) (n : Nat) (hn : 0 < n) : B ^ ((digits B n).length - 1) ≤ n := by
  induction n using Nat.strongRecOn with
  | _ n ih =>
    rw [digits_pos hB hn]
    rcases Nat.eq_zero_or_pos (n / B) with h | h
    · rw [h, digits_zero]; simp; omega
    · have h1 := ih (n / B) (Nat.div_lt_self hn hB) h
      have h2 : 0 < (digits B (n / B)).length := by rw [digits_pos hB h]; simp
      simp only [List.length_cons, Nat.add_sub_cancel]
      obtain ⟨m, hm⟩ : ∃ m, (digits B (n / B)).length = m + 1 := ⟨_, (Nat.succ_pred_eq_of_pos h2).symm⟩
      rw [hm] at h1 ⊢
      simp only [Nat.add_sub_cancel] at h1
      calc B ^ (m + 1) = B ^ m * B := Nat.pow_succ ..
        _ ≤ n / B * B := Nat.mul_le_mul_right _ h1
        _ ≤ n := Nat.div_mul_le_self n B

/-- Fewer digits: a lesser number. -/
theorem digits_length_mono {B : Nat} (hB : 1 < B) {a b : Nat} (h : (digits B a).length < (digits B b).length) : a < b := by
  have hb : 0 < b := by
    rcases Nat.eq_zero_or_pos b with h0 | h0
    · subst h0; simp [digits_zero] at h
    · exact h0
  have h1 := le_val_digits hB b hb
  have h2 := val_lt (show 0 < B by omega) (digits B a) (digits_lt hB a)
  rw [val_digits hB] at h2
  exact Nat.lt_of_lt_of_le h2 (Nat.le_trans (Nat.pow_le_pow_right (by omega) (by omega)) h1)
end Go.Fw

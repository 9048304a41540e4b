/- Dig, Knuth, Limb, Kn, Dec, Pl, Meet, put together. -/
import Derived.Test.YtmmkclefdpmjlaaFw2
set_option linter.unusedSimpArgs false
set_option linter.unusedVariables false
namespace Go.Fw
def val (B : Nat) : List Nat → Nat
  | [] => 0
  | d :: l => d + B * val B l
def digF (B : Nat) : Nat → Nat → List Nat
  | 0, _ => []
  | f + 1, n => if n = 0 then [] else n % B :: digF B f (n / B)
def digits (B n : Nat) : List Nat := digF B n n
def strip : List Nat → List Nat
  | [] => []
  | d :: l => match strip l with
    | [] => if d = 0 then [] else [d]
    | e :: r => d :: e :: r
theorem digF_fuel {B : Nat} (hB : 1 < B) : ∀ (f g n : Nat), n ≤ f → n ≤ g → digF B f n = digF B g n
  | 0, 0, _, _, _ => rfl
  | 0, g + 1, n, h, _ => by
    have : n = 0 := by omega
    subst this; simp [digF]
  | f + 1, 0, n, _, h => by
    have : n = 0 := by omega
    subst this; simp [digF]
  | f + 1, g + 1, n, h, h' => by
    simp only [digF]
    split
    · rfl
    · rename_i h0
      have : n / B < n := Nat.div_lt_self (by omega) hB
      rw [digF_fuel hB f g (n / B) (by omega) (by omega)]
theorem digits_zero (B : Nat) : digits B 0 = [] := rfl
theorem digits_pos {B n : Nat} (hB : 1 < B) (hn : 0 < n) : digits B n = n % B :: digits B (n / B) := by
  unfold digits
  obtain ⟨m, rfl⟩ : ∃ m, n = m + 1 := ⟨n - 1, by omega⟩
  simp only [digF]
  rw [if_neg (by omega)]
  have : (m + 1) / B < m + 1 := Nat.div_lt_self (by omega) hB
  rw [digF_fuel hB m ((m + 1) / B) _ (by omega) (by omega)]
theorem val_digits {B : Nat} (hB : 1 < B) : ∀ n, val B (digits B n) = n := by
  intro n
  induction n using Nat.strongRecOn with
  | _ n ih =>
    rcases Nat.eq_zero_or_pos n with h | h
    · subst h; rfl
    · rw [digits_pos hB h, val, ih _ (Nat.div_lt_self h hB)]
      exact Nat.mod_add_div n B
theorem digits_lt {B : Nat} (hB : 1 < B) : ∀ n, ∀ d ∈ digits B n, d < B := by
  intro n
  induction n using Nat.strongRecOn with
  | _ n ih =>
    rcases Nat.eq_zero_or_pos n with h | h
    · subst h; intro d hd; cases hd
    · rw [digits_pos hB h]
      intro d hd
      rcases List.mem_cons.1 hd with rfl | hd
      · exact Nat.mod_lt _ (by omega)
      · exact ih _ (Nat.div_lt_self h hB) d hd
theorem val_append (B : Nat) : ∀ l l' : List Nat, val B (l ++ l') = val B l + B ^ l.length * val B l'
  | [], l' => by simp [val]
  | d :: l, l' => by
    simp only [List.cons_append, val, List.length_cons, val_append B l l', Nat.pow_succ]
    rw [Nat.mul_add, Nat.mul_comm (B ^ l.length) B, Nat.mul_assoc]; omega
theorem val_lt {B : Nat} (hB : 0 < B) : ∀ l : List Nat, (∀ d ∈ l, d < B) → val B l < B ^ l.length
  | [], _ => by simp [val]
  | d :: l, h => by
    have h1 := val_lt hB l fun e he => h e (by simp [he])
    have h2 := h d (by simp)
    simp only [val, List.length_cons, Nat.pow_succ]
    calc d + B * val B l < B + B * val B l := by omega
      _ = B * (val B l + 1) := by rw [Nat.mul_add]; omega
      _ ≤ B * B ^ l.length := Nat.mul_le_mul_left _ h1
      _ = B ^ l.length * B := Nat.mul_comm _ _
theorem strip_digits {B : Nat} (hB : 1 < B) : ∀ l : List Nat, (∀ d ∈ l, d < B) → strip l = digits B (val B l)
  | [], _ => rfl
  | d :: l, h => by
    have ih := strip_digits hB l fun e he => h e (by simp [he])
    have hd := h d (by simp)
    simp only [strip, val]
    have hmod : (d + B * val B l) % B = d := by rw [Nat.add_mul_mod_self_left, Nat.mod_eq_of_lt hd]
    have hdiv : (d + B * val B l) / B = val B l := by rw [Nat.add_mul_div_left _ _ (by omega), Nat.div_eq_of_lt hd]; omega
    rcases Nat.eq_zero_or_pos (val B l) with h0 | h0
    · rw [ih, h0, digits_zero]
      simp only [Nat.mul_zero, Nat.add_zero]
      by_cases hd0 : d = 0
      · simp [hd0, digits_zero]
      · rw [if_neg hd0, digits_pos hB (by omega), Nat.mod_eq_of_lt hd, Nat.div_eq_of_lt hd, digits_zero]
    · have hpos : 0 < d + B * val B l := by have := Nat.mul_pos (show 0 < B by omega) h0; omega
      rw [digits_pos hB hpos, hmod, hdiv, ih, digits_pos hB h0]
theorem strip_take : ∀ (l : List Nat) (n : Nat), n ≤ l.length → (∀ i, n ≤ i → i < l.length → l[i]? = some 0) → (n = 0 ∨ l[n - 1]? ≠ some 0) → strip l = l.take n
  | [], n, h, _, _ => by simp [strip]
  | d :: l, 0, _, hz, _ => by
    have h1 := strip_take l 0 (by omega) (fun i _ hi => by have := hz (i + 1) (by omega) (by simpa using hi); simpa using this) (.inl rfl)
    have h0 := hz 0 (by omega) (by simp)
    simp at h0
    simp [strip, h1, h0]
  | d :: l, n + 1, h, hz, hn => by
    simp only [List.length_cons] at h
    have hz' : ∀ i, n ≤ i → i < l.length → l[i]? = some 0 := fun i h1 hi => by have := hz (i + 1) (by omega) (by simpa using hi); simpa using this
    rcases Nat.eq_zero_or_pos n with h0 | h0
    · subst h0
      have h1 := strip_take l 0 (by omega) hz' (.inl rfl)
      rcases hn with hn | hn
      · omega
      · simp at hn
        simp [strip, h1, hn]
    · have hn' : l[n - 1]? ≠ some 0 := by
        rcases hn with hn | hn
        · omega
        · obtain ⟨m, rfl⟩ : ∃ m, n = m + 1 := ⟨n - 1, by omega⟩
          simpa using hn
      have h1 := strip_take l n (by omega) hz' (.inr hn')
      simp only [strip, List.take_succ_cons, h1]
      cases hc : l.take n with
      | nil =>
        have : (l.take n).length = 0 := by rw [hc]; rfl
        rw [List.length_take] at this
        omega
      | cons e r => rfl
theorem digits_length_le {B : Nat} (hB : 1 < B) : ∀ (n k : Nat), n < B ^ k → (digits B n).length ≤ k := by
  intro n
  induction n using Nat.strongRecOn with
  | _ n ih =>
    intro k hk
    rcases Nat.eq_zero_or_pos n with h | h
    · subst h; simp [digits_zero]
    · rw [digits_pos hB h]
      cases k with
      | zero => simp at hk; omega
      | succ k =>
        simp only [List.length_cons]
        have := ih (n / B) (Nat.div_lt_self h hB) k (by
          rw [Nat.div_lt_iff_lt_mul (by omega)]
          rwa [Nat.pow_succ] at hk)
        omega
theorem digits_top {B : Nat} (hB : 1 < B) : ∀ n, 0 < n → (digits B n)[(digits B n).length - 1]? ≠ some 0 := by
  intro n
  induction n using Nat.strongRecOn with
  | _ n ih =>
    intro hn
    rw [digits_pos hB hn]
    rcases Nat.eq_zero_or_pos (n / B) with h | h
    · rw [h, digits_zero]
      simp
      have := Nat.mod_add_div n B
      rw [h] at this
      omega
    · have h1 := ih (n / B) (Nat.div_lt_self hn hB) h
      have h2 : 0 < (digits B (n / B)).length := by rw [digits_pos hB h]; simp
      obtain ⟨m, hm⟩ : ∃ m, (digits B (n / B)).length = m + 1 := ⟨_, (Nat.succ_pred_eq_of_pos h2).symm⟩
      rw [hm] at h1
      simpa [hm] using h1
theorem digits_ne_nil {B n : Nat} (hB : 1 < B) : digits B n = [] ↔ n = 0 := by
  constructor
  · intro h
    rcases Nat.eq_zero_or_pos n with h0 | h0
    · exact h0
    · rw [digits_pos hB h0] at h; cases h
  · rintro rfl; rfl
theorem le_val_digits {B : Nat} (hB : 1 < B) (n : Nat) (hn : 0 < n) : B ^ ((digits B n).length - 1) ≤ n := by
  induction n using Nat.strongRecOn with
  | _ n ih =>
    rw [digits_pos hB hn]
    rcases Nat.eq_zero_or_pos (n / B) with h | h
    · rw [h, digits_zero]; simp; omega
    · have h1 := ih (n / B) (Nat.div_lt_self hn hB) h
      have h2 : 0 < (digits B (n / B)).length := by rw [digits_pos hB h]; simp
      simp only [List.length_cons, Nat.add_sub_cancel]
      obtain ⟨m, hm⟩ : ∃ m, (digits B (n / B)).length = m + 1 := ⟨_, (Nat.succ_pred_eq_of_pos h2).symm⟩
      rw [hm] at h1 ⊢
      simp only [Nat.add_sub_cancel] at h1
      calc B ^ (m + 1) = B ^ m * B := Nat.pow_succ ..
        _ ≤ n / B * B := Nat.mul_le_mul_right _ h1
        _ ≤ n := Nat.div_mul_le_self n B
theorem digits_length_mono {B : Nat} (hB : 1 < B) {a b : Nat} (h : (digits B a).length < (digits B b).length) : a < b := by
  have hb : 0 < b := by
    rcases Nat.eq_zero_or_pos b with h0 | h0
    · subst h0; simp [digits_zero] at h
    · exact h0
  have h1 := le_val_digits hB b hb
  have h2 := val_lt (show 0 < B by omega) (digits B a) (digits_lt hB a)
  rw [val_digits hB] at h2
  exact Nat.lt_of_lt_of_le h2 (Nat.le_trans (Nat.pow_le_pow_right (by omega) (by omega)) h1)
end Go.Fw
namespace Go.Fw
theorem kd_init {B P top next vl two r2 rl : Nat} (ht : 0 < top) (hr2 : r2 < B) (hrl : rl < P) (hP : 0 < P) (hB : 0 < B) :
    ((two * B + r2) * P + rl) / ((top * B + next) * P + vl) ≤ two / top := by
  have hV : 0 < (top * B + next) * P + vl := by
    have := Nat.mul_pos (Nat.mul_pos ht hB) hP
    have h2 : top * B * P ≤ (top * B + next) * P := Nat.mul_le_mul_right _ (by omega)
    omega
  obtain ⟨q, hq⟩ : ∃ q, q = ((two * B + r2) * P + rl) / ((top * B + next) * P + vl) := ⟨_, rfl⟩
  rw [← hq]
  have h1 : q * ((top * B + next) * P + vl) ≤ (two * B + r2) * P + rl := by rw [hq]; exact Nat.div_mul_le_self _ _
  rw [Nat.le_div_iff_mul_le ht]
  have h2 : q * (top * B * P) ≤ q * ((top * B + next) * P + vl) := Nat.mul_le_mul_left _ (by
    have : top * B * P ≤ (top * B + next) * P := Nat.mul_le_mul_right _ (by omega)
    omega)
  have h3 : (two * B + r2) * P + rl < (two + 1) * B * P := by
    have e : (two * B + r2 + 1) * P ≤ (two + 1) * B * P := Nat.mul_le_mul_right _ (by rw [Nat.add_mul]; omega)
    rw [Nat.add_mul _ 1] at e
    omega
  have h4 : q * top * (B * P) < (two + 1) * (B * P) := by
    have a1 : q * (top * B * P) = q * top * (B * P) := by simp only [Nat.mul_assoc]
    have a2 : (two + 1) * B * P = (two + 1) * (B * P) := by simp only [Nat.mul_assoc]
    omega
  have := Nat.lt_of_mul_lt_mul_right h4
  omega
theorem kd_great {B P top next vl two r2 rl g left : Nat} (hrl : rl < P) (hg : g * top + left = two) (h : left * B + r2 < g * next) :
    (two * B + r2) * P + rl < g * ((top * B + next) * P + vl) := by
  have h1 : two * B + r2 + 1 ≤ g * (top * B + next) := by
    rw [← hg, Nat.mul_add, ← Nat.mul_assoc, Nat.add_mul]
    omega
  have h2 : (two * B + r2 + 1) * P ≤ g * (top * B + next) * P := Nat.mul_le_mul_right _ h1
  have h3 : g * ((top * B + next) * P + vl) = g * (top * B + next) * P + g * vl := by rw [Nat.mul_add, ← Nat.mul_assoc]
  rw [Nat.add_mul _ 1] at h2
  omega
theorem kd_exit {B P top next vl two r2 rl g left : Nat} (hvl : vl < P) (hP : 0 < P) (hB : 0 < B) (ht : 0 < top) (hgB : g ≤ B) (hg : g * top + left = two) (h : g * next ≤ left * B + r2) :
    g * ((top * B + next) * P + vl) ≤ (two * B + r2) * P + rl + ((top * B + next) * P + vl) := by
  have h1 : g * (top * B + next) ≤ two * B + r2 := by
    rw [← hg, Nat.mul_add, ← Nat.mul_assoc, Nat.add_mul]
    omega
  have h2 : g * (top * B + next) * P ≤ (two * B + r2) * P := Nat.mul_le_mul_right _ h1
  have h3 : g * ((top * B + next) * P + vl) = g * (top * B + next) * P + g * vl := by rw [Nat.mul_add, ← Nat.mul_assoc]
  have h4 : g * vl ≤ B * P := Nat.mul_le_mul hgB (by omega)
  have h5 : B * P ≤ top * B * P := Nat.mul_le_mul_right _ (by have := Nat.mul_le_mul_right B ht; omega)
  have h6 : top * B * P ≤ (top * B + next) * P := Nat.mul_le_mul_right _ (by omega)
  omega
theorem kd_break {B next r2 g left : Nat} (hn : next < B) (hg : g ≤ B) (hl : B ≤ left) : g * next ≤ left * B + r2 := by
  have h1 : g * next ≤ B * B := Nat.mul_le_mul hg (by omega)
  have h2 : B * B ≤ left * B := Nat.mul_le_mul_right _ hl
  omega
theorem kd_digit {R V g : Nat} (hV : 0 < V) (hlo : R / V ≤ g) (hhi : g * V ≤ R + V) : g = R / V ∨ (g = R / V + 1 ∧ R < g * V) := by
  have h1 := Nat.div_add_mod R V
  have h2 := Nat.mod_lt R hV
  rcases Nat.lt_or_ge R (g * V) with h | h
  · right
    have h3 : R / V < g := by rw [Nat.div_lt_iff_lt_mul hV]; exact h
    have h4 : g * V ≤ R + V := hhi
    have h5 : g ≤ R / V + 1 := by
      rcases Nat.lt_or_ge (R / V + 1) g with h6 | h6
      · have h7 : (R / V + 2) * V ≤ g * V := Nat.mul_le_mul_right _ h6
        rw [Nat.add_mul, Nat.mul_comm (R / V) V] at h7
        omega
      · exact h6
    exact ⟨by omega, h⟩
  · left
    have : g ≤ R / V := by rw [Nat.le_div_iff_mul_le hV]; exact h
    omega
end Go.Fw
namespace Go.Fw
def dg (l : List Nat) (i : Nat) : Nat := l.getD i 0
theorem dg_eq {l : List Nat} {i : Nat} (h : i < l.length) : dg l i = l[i] := by simp [dg, h]
theorem dg_ge {l : List Nat} {i : Nat} (h : l.length ≤ i) : dg l i = 0 := by simp [dg, h]
theorem dg_lt {B : Nat} (hB : 0 < B) {l : List Nat} (h : ∀ d ∈ l, d < B) (i : Nat) : dg l i < B := by
  rcases Nat.lt_or_ge i l.length with hi | hi
  · rw [dg_eq hi]; exact h _ (List.getElem_mem hi)
  · rw [dg_ge hi]; exact hB
theorem val_take_succ (B : Nat) (l : List Nat) (i : Nat) : val B (l.take (i + 1)) = val B (l.take i) + B ^ i * dg l i := by
  rcases Nat.lt_or_ge i l.length with h | h
  · rw [List.take_add_one, val_append, List.length_take, Nat.min_eq_left (by omega), List.getElem?_eq_getElem h, dg_eq h]
    simp [val]
  · rw [List.take_of_length_le h, List.take_of_length_le (by omega), dg_ge h]; simp
theorem val_drop (B : Nat) (l : List Nat) (i : Nat) : val B (l.drop i) = dg l i + B * val B (l.drop (i + 1)) := by
  rcases Nat.lt_or_ge i l.length with h | h
  · rw [List.drop_eq_getElem_cons h, val, dg_eq h]
  · rw [List.drop_of_length_le h, List.drop_of_length_le (by omega), dg_ge h]; simp [val]
theorem val_split (B : Nat) (l : List Nat) (i : Nat) (h : i ≤ l.length) : val B l = val B (l.take i) + B ^ i * val B (l.drop i) := by
  have := val_append B (l.take i) (l.drop i)
  rw [List.take_append_drop, List.length_take, Nat.min_eq_left h] at this
  exact this
theorem val_replicate (B n : Nat) : val B (List.replicate n 0) = 0 := by
  induction n with
  | zero => rfl
  | succ n ih => simp [List.replicate_succ, val, ih]
theorem val_set (B : Nat) : ∀ (l : List Nat) (i x : Nat), i < l.length → val B (l.set i x) + B ^ i * dg l i = val B l + B ^ i * x
  | [], i, x, h => by simp at h
  | d :: l, 0, x, _ => by simp [val, dg]; omega
  | d :: l, i + 1, x, h => by
    have ih := val_set B l i x (by simpa using h)
    have e : dg (d :: l) (i + 1) = dg l i := by simp [dg]
    simp only [List.set_cons_succ, val, e, Nat.pow_succ]
    have h1 : B * val B (l.set i x) + B * (B ^ i * dg l i) = B * val B l + B * (B ^ i * x) := by rw [← Nat.mul_add, ih, Nat.mul_add]
    have h2 : B ^ i * B * dg l i = B * (B ^ i * dg l i) := by rw [Nat.mul_comm (B ^ i) B, Nat.mul_assoc]
    have h3 : B ^ i * B * x = B * (B ^ i * x) := by rw [Nat.mul_comm (B ^ i) B, Nat.mul_assoc]
    omega
theorem dg_set (l : List Nat) (i j x : Nat) (h : i < l.length) : dg (l.set i x) j = if i = j then x else dg l j := by
  unfold dg
  simp only [List.getD_eq_getElem?_getD, List.getElem?_set]
  split
  · rename_i he; subst he; simp [h]
  · rfl
theorem mem_set_lt {B : Nat} {l : List Nat} (hl : ∀ d ∈ l, d < B) {i x : Nat} (hx : x < B) : ∀ d ∈ l.set i x, d < B := by
  intro d hd
  rcases List.mem_or_eq_of_mem_set hd with h | h
  · exact hl d h
  · omega
theorem mem_append_lt {B : Nat} {l : List Nat} (hl : ∀ d ∈ l, d < B) {x : Nat} (hx : x < B) : ∀ d ∈ l ++ [x], d < B := by
  intro d hd
  simp at hd
  rcases hd with h | h
  · exact hl d h
  · omega
theorem val_take_of_zero (B : Nat) (l : List Nat) (n : Nat) (h : ∀ j, n ≤ j → dg l j = 0) : val B l = val B (l.take n) := by
  rcases Nat.lt_or_ge l.length n with h1 | h1
  · rw [List.take_of_length_le (by omega)]
  · rw [val_split B l n h1]
    have : ∀ (m : List Nat), (∀ j, dg m j = 0) → val B m = 0 := by
      intro m
      induction m with
      | nil => intro _; rfl
      | cons d m ih =>
        intro hm
        have h0 := hm 0
        simp [dg] at h0
        have hs := ih (fun j => by have := hm (j + 1); simpa [dg] using this)
        simp [val, h0, hs]
    rw [this (l.drop n) (fun j => by have := h (n + j) (by omega); simpa [dg] using this)]
    simp
theorem add_step {B c i va vb vo x y : Nat} (hB : 0 < B) (h : vo + B ^ i * c = va + vb) :
    vo + B ^ i * ((c + x + y) % B) + B ^ (i + 1) * ((c + x + y) / B) = va + B ^ i * x + (vb + B ^ i * y) := by
  have h1 : B ^ i * ((c + x + y) % B) + B ^ (i + 1) * ((c + x + y) / B) = B ^ i * (c + x + y) := by
    rw [Nat.pow_succ, Nat.mul_assoc, ← Nat.mul_add, Nat.mod_add_div]
  rw [Nat.add_assoc, h1, Nat.mul_add, Nat.mul_add]
  omega
theorem val_inj {B : Nat} (hB : 1 < B) {a b : Nat} (h : digits B a = digits B b) : a = b := by
  rw [← val_digits hB a, h, val_digits hB]
theorem val_cmp_top {B : Nat} (hB : 0 < B) {a b : List Nat} (ha : ∀ d ∈ a, d < B) (hb : ∀ d ∈ b, d < B) (hl : a.length = b.length) (i : Nat) (hi : i < a.length)
    (he : a.drop (i + 1) = b.drop (i + 1)) (hlt : dg a i < dg b i) : val B a < val B b := by
  rw [val_split B a i (by omega), val_split B b i (by omega), val_drop B a i, val_drop B b i, he]
  have h1 := val_lt hB (a.take i) (fun d hd => ha d (List.mem_of_mem_take hd))
  rw [List.length_take, Nat.min_eq_left (by omega)] at h1
  have h2 : B ^ i * (dg a i + 1) ≤ B ^ i * dg b i := Nat.mul_le_mul_left _ hlt
  rw [Nat.mul_add, Nat.mul_add]
  rw [Nat.mul_add] at h2
  omega
end Go.Fw
namespace Go.Fw
theorem zero_above {B : Nat} (hB : 0 < B) {l : List Nat} {m : Nat} (h : val B l < B ^ m) : ∀ p, m ≤ p → dg l p = 0 := by
  intro p hp
  rcases Nat.lt_or_ge p l.length with h1 | h1
  · rw [val_split B l p (by omega), val_drop] at h
    rcases Nat.eq_zero_or_pos (dg l p) with h0 | h0
    · exact h0
    · exfalso
      have h2 : B ^ m ≤ B ^ p := Nat.pow_le_pow_right hB hp
      have h3 : B ^ p * 1 ≤ B ^ p * (dg l p + B * val B (l.drop (p + 1))) := Nat.mul_le_mul_left _ (by omega)
      omega
  · exact dg_ge h1
theorem val_low {B : Nat} (l : List Nat) (m : Nat) (h : ∀ p, m < p → dg l p = 0) : val B l = val B (l.take m) + B ^ m * dg l m := by
  rw [val_take_of_zero B l (m + 1) (fun p hp => h p (by omega)), val_take_succ]
theorem take_lt {B : Nat} (hB : 0 < B) {l : List Nat} (hl : ∀ d ∈ l, d < B) (m : Nat) : val B (l.take m) < B ^ m := by
  have h1 := val_lt hB (l.take m) (fun d hd => hl d (List.mem_of_mem_take hd))
  exact Nat.lt_of_lt_of_le h1 (Nat.pow_le_pow_right hB (by rw [List.length_take]; omega))
theorem dg_drop (l : List Nat) (i k : Nat) : dg (l.drop i) k = dg l (i + k) := by
  simp [dg, List.getElem?_drop]
theorem three {B : Nat} (hB : 1 < B) {rest d : List Nat} {j n V : Nat} (hn : 2 ≤ n) (hd : ∀ x ∈ d, x < B) (hr : ∀ x ∈ rest, x < B) (hdl : d.length = n) (hV : val B d = V)
    (hL : j + n + 1 ≤ rest.length) (hlt : val B rest < V * B ^ (j + 1)) (ht : 0 < dg d (n - 1)) :
    ∃ R lo rl vl, val B rest = lo + B ^ j * R ∧ lo < B ^ j ∧ R < V * B ∧ rl < B ^ (n - 2) ∧ vl < B ^ (n - 2) ∧
      R = ((dg rest (j + n) * B + dg rest (j + n - 1)) * B + dg rest (j + n - 2)) * B ^ (n - 2) + rl ∧
      V = (dg d (n - 1) * B + dg d (n - 2)) * B ^ (n - 2) + vl ∧ dg rest (j + n) ≤ dg d (n - 1) ∧ (∀ p, j + n < p → dg rest p = 0) := by
  have hB0 : 0 < B := by omega
  obtain ⟨m, rfl⟩ : ∃ m, n = m + 2 := ⟨n - 2, by omega⟩
  have hVn : V < B ^ (m + 2) := by rw [← hV, ← hdl]; exact val_lt hB0 d hd
  have hrn : val B rest < B ^ (j + (m + 2) + 1) := by
    refine Nat.lt_trans hlt ?_
    rw [show j + (m + 2) + 1 = (m + 2) + (j + 1) from by omega, Nat.pow_add B (m + 2)]
    exact Nat.mul_lt_mul_of_pos_right hVn (Nat.pow_pos hB0)
  have hz := zero_above hB0 hrn
  have e1 := val_split B rest j (by omega)
  have hlo := take_lt hB0 hr j
  have hR : val B (rest.drop j) < V * B := by
    have h1 : B ^ j * val B (rest.drop j) < B ^ j * (V * B) := by
      have : V * B ^ (j + 1) = B ^ j * (V * B) := by rw [Nat.pow_succ, Nat.mul_left_comm]
      omega
    exact Nat.lt_of_mul_lt_mul_left h1
  have e2 : val B (rest.drop j) = val B ((rest.drop j).take m) + B ^ m * (dg rest (j + m) + B * (dg rest (j + m + 1) + B * dg rest (j + m + 2))) := by
    rw [val_low (rest.drop j) (m + 2) (fun p hp => by rw [dg_drop]; exact hz _ (by omega)), val_take_succ, val_take_succ, dg_drop, dg_drop, dg_drop]
    rw [Nat.mul_add, Nat.mul_add B, Nat.pow_succ, Nat.pow_succ, Nat.mul_add]
    simp only [← Nat.add_assoc, Nat.mul_assoc]
    rw [show B ^ (m + 1) = B ^ m * B from Nat.pow_succ ..]
    simp only [Nat.mul_assoc]
  have e3 : V = val B (d.take m) + B ^ m * (dg d m + B * dg d (m + 1)) := by
    rw [← hV, val_low d (m + 1) (fun p hp => dg_ge (by omega)), val_take_succ, Nat.mul_add, Nat.pow_succ]
    simp only [← Nat.add_assoc, Nat.mul_assoc]
  have hrl := take_lt hB0 (l := rest.drop j) (fun x hx => hr x (List.mem_of_mem_drop hx)) m
  have hvl := take_lt hB0 hd m
  refine ⟨val B (rest.drop j), val B (rest.take j), val B ((rest.drop j).take m), val B (d.take m), e1, hlo, hR, hrl, hvl, ?_, ?_, ?_, fun p hp => hz p (by omega)⟩
  · rw [e2, show j + (m + 2) - 1 = j + m + 1 from by omega, show j + (m + 2) - 2 = j + m from by omega, show m + 2 - 2 = m from by omega, show j + (m + 2) = j + m + 2 from by omega]
    rw [Nat.add_comm (val B _), Nat.mul_comm (B ^ m)]
    congr 2
    rw [Nat.add_comm, Nat.mul_comm B]
    congr 2
    rw [Nat.add_comm, Nat.mul_comm B]
  · rw [show m + 2 - 1 = m + 1 from by omega, show m + 2 - 2 = m from by omega, e3, Nat.add_comm, Nat.mul_comm]
    congr 2
    rw [Nat.add_comm, Nat.mul_comm]
  · rw [show m + 2 - 1 = m + 1 from by omega]
    have h1 : dg rest (j + (m + 2)) * B ^ (m + 2) ≤ val B (rest.drop j) := by
      rw [val_low (rest.drop j) (m + 2) (fun p hp => by rw [dg_drop]; exact hz _ (by omega)), dg_drop, Nat.mul_comm]
      omega
    have h2 : V < (dg d (m + 1) + 1) * B ^ (m + 1) := by
      rw [← hV, val_low d (m + 1) (fun p hp => dg_ge (by omega)), Nat.add_mul, Nat.mul_comm]
      have := take_lt hB0 hd (m + 1)
      omega
    have h3 : V * B ≤ (dg d (m + 1) + 1) * B ^ (m + 1) * B := Nat.mul_le_mul_right _ (by omega)
    have h4 : dg rest (j + (m + 2)) * B ^ (m + 2) < (dg d (m + 1) + 1) * B ^ (m + 2) := by
      rw [Nat.pow_succ B (m + 1), ← Nat.mul_assoc (dg d (m + 1) + 1)]
      rw [Nat.pow_succ B (m + 1)] at h1
      omega
    have := Nat.lt_of_mul_lt_mul_right h4
    omega
theorem ms_step {B p j k V0 v v' old x c b b' g vk dk : Nat} (hp : p = j + k) (hs : v' + B ^ p * old = v + B ^ p * x) (hI : v + B ^ j * (g * vk) = V0 + B ^ p * (c + b))
    (hx : x + (c + g * dk) % B + b = old + B * b') : v' + B ^ j * (g * (vk + B ^ k * dk)) = V0 + B ^ (p + 1) * ((c + g * dk) / B + b') := by
  have h1 : B ^ j * (g * (vk + B ^ k * dk)) = B ^ j * (g * vk) + B ^ p * (g * dk) := by
    rw [Nat.mul_add, Nat.mul_add, hp, Nat.pow_add, Nat.mul_assoc, Nat.mul_left_comm g]
  have h2 : B ^ (p + 1) * ((c + g * dk) / B + b') = B ^ p * (B * ((c + g * dk) / B)) + B ^ p * (B * b') := by
    rw [Nat.pow_succ, Nat.mul_assoc, Nat.mul_add, Nat.mul_add]
  have h3 : B ^ p * ((c + g * dk) % B) + B ^ p * (B * ((c + g * dk) / B)) = B ^ p * c + B ^ p * (g * dk) := by
    rw [← Nat.mul_add, Nat.mod_add_div, Nat.mul_add]
  have h4 : B ^ p * x + B ^ p * ((c + g * dk) % B) + B ^ p * b = B ^ p * old + B ^ p * (B * b') := by
    rw [← Nat.mul_add, ← Nat.mul_add, hx, Nat.mul_add]
  have h5 : B ^ p * (c + b) = B ^ p * c + B ^ p * b := Nat.mul_add ..
  omega
theorem ab_step {B p j k V0 v v' old s vk dk : Nat} (hp : p = j + k) (hs : v' + B ^ p * old = v + B ^ p * ((s + (old + dk)) % B)) (hI : v + B ^ p * s = V0 + B ^ j * vk) :
    v' + B ^ (p + 1) * ((s + (old + dk)) / B) = V0 + B ^ j * (vk + B ^ k * dk) := by
  have h1 : B ^ j * (vk + B ^ k * dk) = B ^ j * vk + B ^ p * dk := by rw [Nat.mul_add, hp, Nat.pow_add, Nat.mul_assoc]
  have h2 : B ^ p * ((s + (old + dk)) % B) + B ^ (p + 1) * ((s + (old + dk)) / B) = B ^ p * s + B ^ p * old + B ^ p * dk := by
    rw [Nat.pow_succ, Nat.mul_assoc, ← Nat.mul_add, Nat.mod_add_div, Nat.mul_add, Nat.mul_add, Nat.add_assoc]
  omega
theorem fin_a {B j V V0 R lo g v2 : Nat} (hV : 0 < V) (hBj : 0 < B ^ j) (h0 : V0 = lo + B ^ j * R) (hlo : lo < B ^ j) (hg : g = R / V ∨ (g = R / V + 1 ∧ R < g * V)) (h : v2 + B ^ j * (g * V) = V0) :
    g = R / V ∧ v2 < V * B ^ j := by
  have hgV : g * V ≤ R := by
    rcases Nat.lt_or_ge R (g * V) with h1 | h1
    · exfalso
      have : B ^ j * (R + 1) ≤ B ^ j * (g * V) := Nat.mul_le_mul_left _ h1
      rw [Nat.mul_add] at this
      omega
    · exact h1
  have e : g = R / V := by
    rcases hg with e | ⟨_, h1⟩
    · exact e
    · omega
  refine ⟨e, ?_⟩
  have h2 : R < g * V + V := by
    have h3 := Nat.div_add_mod R V
    have h4 := Nat.mod_lt R hV
    rw [e, Nat.mul_comm]; omega
  have h3 : B ^ j * (R + 1) ≤ B ^ j * (g * V + V) := Nat.mul_le_mul_left _ h2
  rw [Nat.mul_add, Nat.mul_add (B ^ j) (g * V), Nat.mul_comm (B ^ j) V] at h3
  omega
theorem fin_b {B j V V0 R lo g low low1 r0 c b s X : Nat} (hV : 0 < V) (hBj : 0 < B ^ j) (hX : V * B ^ j ≤ X) (h0 : V0 = lo + B ^ j * R) (hlo : lo < B ^ j) (hg : g = R / V ∨ (g = R / V + 1 ∧ R < g * V))
    (hl1 : low1 < X) (hl : low < X) (h1 : low1 + X * r0 + B ^ j * (g * V) = V0 + X * (c + b)) (hneg : r0 < c + b)
    (h2 : low + X * s = low1 + B ^ j * V) (hs : s ≤ 1) :
    1 ≤ g ∧ g - 1 = R / V ∧ s = 1 ∧ c + b = r0 + 1 ∧ low + B ^ j * ((g - 1) * V) = V0 ∧ low < V * B ^ j := by
  have key : ∀ q, q * V ≤ R → ∃ Z, Z + B ^ j * (q * V) = V0 := by
    intro q hq
    have : B ^ j * (q * V) ≤ B ^ j * R := Nat.mul_le_mul_left _ hq
    exact ⟨V0 - B ^ j * (q * V), by omega⟩
  have hqV : R / V * V ≤ R := Nat.div_mul_le_self R V
  obtain ⟨E, hE⟩ : ∃ E, c + b = r0 + E := ⟨c + b - r0, by omega⟩
  have hE1 : 1 ≤ E := by omega
  have e2 : X * (c + b) = X * r0 + X * E := by rw [hE, Nat.mul_add]
  have hXE : X * 1 ≤ X * E := Nat.mul_le_mul_left _ hE1
  rw [Nat.mul_one] at hXE
  have hgg : g = R / V + 1 := by
    rcases hg with e | ⟨e, _⟩
    · exfalso
      obtain ⟨Z, hZ⟩ := key g (by rw [e]; exact hqV)
      rw [e2, ← hZ] at h1
      have h3 : low1 = Z + X * E := by
        clear h2 hZ h0
        generalize B ^ j * (g * V) = G at h1
        generalize X * r0 = A at h1
        omega
      omega
    · exact e
  have hg1 : g - 1 = R / V := by rw [hgg]; exact Nat.add_sub_cancel ..
  obtain ⟨Z, hZ⟩ := key (R / V) hqV
  have hZb : Z < V * B ^ j := (fin_a hV hBj h0 hlo (.inl rfl) hZ).2
  have e1 : B ^ j * (g * V) = B ^ j * (R / V * V) + B ^ j * V := by rw [hgg, Nat.add_mul, Nat.one_mul, Nat.mul_add]
  have e3 : low + X * s = Z + X * E := by
    rw [e2, ← hZ, e1] at h1
    clear hZ h0 e1 e2
    generalize B ^ j * (R / V * V) = G at h1
    generalize X * r0 = A at h1
    generalize B ^ j * V = H at h1 h2
    omega
  have hsE : s = E := by
    rcases Nat.lt_trichotomy s E with h4 | h4 | h4
    · have : X * (s + 1) ≤ X * E := Nat.mul_le_mul_left _ h4
      rw [Nat.mul_add] at this
      omega
    · exact h4
    · omega
  subst hsE
  have hs1 : s = 1 := by omega
  subst hs1
  have hlz : low = Z := by omega
  exact ⟨by rw [hgg]; exact Nat.le_add_left .., hg1, rfl, hE, by rw [hg1, hlz]; exact hZ, by omega⟩
theorem fin_n {B j V V0 R lo g low1 r0 c b X : Nat} (h0 : V0 = lo + B ^ j * R) (hg : g = R / V ∨ (g = R / V + 1 ∧ R < g * V))
    (hl1 : low1 < X) (h1 : low1 + X * r0 + B ^ j * (g * V) = V0 + X * (c + b)) (hneg : r0 < c + b) : g = R / V + 1 := by
  have hqV : R / V * V ≤ R := Nat.div_mul_le_self R V
  obtain ⟨E, hE⟩ : ∃ E, c + b = r0 + E := ⟨c + b - r0, by omega⟩
  have hE1 : 1 ≤ E := by omega
  have e2 : X * (c + b) = X * r0 + X * E := by rw [hE, Nat.mul_add]
  have hXE : X * 1 ≤ X * E := Nat.mul_le_mul_left _ hE1
  rw [Nat.mul_one] at hXE
  rcases hg with e | ⟨e, _⟩
  · exfalso
    have h5 : B ^ j * (g * V) ≤ B ^ j * R := Nat.mul_le_mul_left _ (by rw [e]; exact hqV)
    rw [e2, h0] at h1
    have h3 : X * E ≤ low1 := by
      clear e2 h0
      generalize B ^ j * (g * V) = G at h1 h5
      generalize X * r0 = A at h1
      omega
    omega
  · exact e
end Go.Fw
namespace Go.Fw
def decL (n : Nat) : List Nat := if n = 0 then [0] else (digits 10 n).reverse
def decB (n : Nat) : List UInt8 := (decL n).map fun d => UInt8.ofNat (48 + d)
def pad : Nat → Nat → List Nat
  | 0, _ => []
  | w + 1, n => n % 10 :: pad w (n / 10)
end Go.Fw
namespace Go.Fw
structure V2 where
  x : Rat
  y : Rat
  deriving DecidableEq
structure Sg where
  A : V2
  B : V2
  deriving DecidableEq
def cross (a b c : V2) : Rat := (b.x - a.x) * (c.y - a.y) - (b.y - a.y) * (c.x - a.x)
def dot (a b c : V2) : Rat := (b.x - a.x) * (c.x - a.x) + (b.y - a.y) * (c.y - a.y)
def lexLt (p q : V2) : Prop := p.x < q.x ∨ p.x = q.x ∧ p.y < q.y
instance (p q : V2) : Decidable (lexLt p q) := by unfold lexLt; infer_instance
def Sg.pt (s : Sg) (l : Rat) : V2 := ⟨s.A.x + (s.B.x - s.A.x) * l, s.A.y + (s.B.y - s.A.y) * l⟩
def Sg.rise (s : Sg) : Sg := if lexLt s.B s.A then ⟨s.B, s.A⟩ else s
def Sg.on (s : Sg) (p : V2) : Prop := ¬ lexLt p s.rise.A ∧ ¬ lexLt s.rise.B p ∧ cross s.A s.B p = 0
instance (s : Sg) (p : V2) : Decidable (s.on p) := by unfold Sg.on; infer_instance
def Sg.onR (s : Sg) (p : V2) : Prop := cross s.A s.B p = 0 ∧ dot p s.A s.B ≤ 0
instance (s : Sg) (p : V2) : Decidable (s.onR p) := by unfold Sg.onR; infer_instance
theorem V2.ext' {p q : V2} (h1 : p.x = q.x) (h2 : p.y = q.y) : p = q := by cases p; cases q; simp_all
theorem lexLt_trans {p q r : V2} (h : lexLt p q) (k : lexLt q r) : lexLt p r := by unfold lexLt at *; grind
theorem lexLt_irrefl {p : V2} : ¬ lexLt p p := by unfold lexLt; grind
theorem lex_anti {p q : V2} (h : ¬ lexLt p q) (k : ¬ lexLt q p) : p = q := by
  unfold lexLt at *
  have h1 : p.x = q.x := by grind
  exact V2.ext' h1 (by grind)
theorem lexLt_of_le_lt {p q r : V2} (h : ¬ lexLt q p) (k : lexLt q r) : lexLt p r := by unfold lexLt at *; grind
theorem lexLt_of_lt_le {p q r : V2} (h : lexLt p q) (k : ¬ lexLt r q) : lexLt p r := by unfold lexLt at *; grind
theorem lexLt_tri (p q : V2) : lexLt p q ∨ p = q ∨ lexLt q p := by
  by_cases h : lexLt p q
  · exact .inl h
  · by_cases k : lexLt q p
    · exact .inr (.inr k)
    · exact .inr (.inl (lex_anti h k))
theorem mul_pos_iff' {d l : Rat} (hd : 0 < d) : 0 < d * l ↔ 0 < l := Rat.mul_pos_iff_of_pos_left hd
theorem mul_zero_iff' {d l : Rat} (hd : d ≠ 0) : d * l = 0 ↔ l = 0 := by
  rw [Rat.mul_eq_zero]; exact ⟨fun h => h.resolve_left hd, .inr⟩
theorem line_at {s : Sg} (h : s.A ≠ s.B) {p : V2} (hc : cross s.A s.B p = 0) : ∃ l, p = s.pt l := by
  unfold cross at hc
  by_cases hx : s.B.x - s.A.x = 0
  · have hy : s.B.y - s.A.y ≠ 0 := by
      intro hy
      exact h (V2.ext' (by grind) (by grind))
    refine ⟨(p.y - s.A.y) / (s.B.y - s.A.y), V2.ext' ?_ ?_⟩
    · simp only [Sg.pt]
      have h1 : (s.B.y - s.A.y) * (p.x - s.A.x) = 0 := by grind
      have h2 : p.x - s.A.x = 0 := (mul_zero_iff' hy).1 h1
      grind
    · simp only [Sg.pt]
      grind
  · refine ⟨(p.x - s.A.x) / (s.B.x - s.A.x), V2.ext' ?_ ?_⟩
    · simp only [Sg.pt]; grind
    · simp only [Sg.pt]; grind
theorem cross_at (s : Sg) (l : Rat) : cross s.A s.B (s.pt l) = 0 := by
  unfold cross Sg.pt; grind
theorem pt_zero (s : Sg) : s.pt 0 = s.A := V2.ext' (by simp only [Sg.pt]; grind) (by simp only [Sg.pt]; grind)
theorem pt_one (s : Sg) : s.pt 1 = s.B := V2.ext' (by simp only [Sg.pt]; grind) (by simp only [Sg.pt]; grind)
theorem lex_pt {s : Sg} (h : lexLt s.A s.B) (l m : Rat) : lexLt (s.pt l) (s.pt m) ↔ l < m := by
  unfold lexLt at h ⊢
  simp only [Sg.pt]
  rcases h with h | ⟨h, k⟩
  · have hd : 0 < s.B.x - s.A.x := by grind
    have h1 := mul_pos_iff' (d := s.B.x - s.A.x) (l := m - l) hd
    have h2 := mul_zero_iff' (d := s.B.x - s.A.x) (l := m - l) (by grind)
    have e : (s.B.x - s.A.x) * (m - l) = (s.B.x - s.A.x) * m - (s.B.x - s.A.x) * l := by grind
    constructor
    · rintro (h3 | ⟨h3, h4⟩)
      · grind
      · have : m - l = 0 := h2.1 (by grind)
        have : m = l := by grind
        subst this; grind
    · intro h3; left; grind
  · have hd : 0 < s.B.y - s.A.y := by grind
    have h1 := mul_pos_iff' (d := s.B.y - s.A.y) (l := m - l) hd
    have e : (s.B.y - s.A.y) * (m - l) = (s.B.y - s.A.y) * m - (s.B.y - s.A.y) * l := by grind
    constructor
    · rintro (h3 | ⟨h3, h4⟩)
      · grind
      · grind
    · intro h3; right; constructor <;> grind
theorem rise_lt {s : Sg} (h : s.A ≠ s.B) : lexLt s.rise.A s.rise.B := by
  unfold Sg.rise
  split
  · assumption
  · rename_i h1
    rcases lexLt_tri s.A s.B with h2 | h2 | h2
    · exact h2
    · exact absurd h2 h
    · exact absurd h2 h1
theorem on_iff (s : Sg) (p : V2) : s.on p ↔ ∃ l, 0 ≤ l ∧ l ≤ 1 ∧ p = s.pt l := by
  by_cases h : s.A = s.B
  · have hr : s.rise = s := by unfold Sg.rise; rw [if_neg (by rw [h]; exact lexLt_irrefl)]
    unfold Sg.on
    rw [hr, h]
    constructor
    · rintro ⟨h1, h2, h3⟩
      refine ⟨0, by grind, by grind, ?_⟩
      rw [pt_zero, h]
      exact lex_anti h1 h2
    · rintro ⟨l, h1, h2, rfl⟩
      have : s.pt l = s.B := V2.ext' (by simp only [Sg.pt, h]; grind) (by simp only [Sg.pt, h]; grind)
      rw [this]
      exact ⟨lexLt_irrefl, lexLt_irrefl, by unfold cross; grind⟩
  · have hlt := rise_lt h
    have hpt : ∀ l, ∃ m, s.pt l = s.rise.pt m ∧ (m = l ∨ m = 1 - l) := by
      intro l
      unfold Sg.rise
      split
      · exact ⟨1 - l, V2.ext' (by simp only [Sg.pt]; grind) (by simp only [Sg.pt]; grind), .inr rfl⟩
      · exact ⟨l, rfl, .inl rfl⟩
    have key : ∀ m, (¬ lexLt (s.rise.pt m) s.rise.A ∧ ¬ lexLt s.rise.B (s.rise.pt m)) ↔ (0 ≤ m ∧ m ≤ 1) := by
      intro m
      have h1 := lex_pt hlt m 0
      have h2 := lex_pt hlt 1 m
      rw [pt_zero] at h1
      rw [pt_one] at h2
      rw [h1, h2]
      grind
    unfold Sg.on
    constructor
    · rintro ⟨h1, h2, h3⟩
      obtain ⟨l, rfl⟩ := line_at h h3
      obtain ⟨m, hm, hml⟩ := hpt l
      rw [hm] at h1 h2
      have := (key m).1 ⟨h1, h2⟩
      exact ⟨l, by grind, by grind, rfl⟩
    · rintro ⟨l, h1, h2, rfl⟩
      obtain ⟨m, hm, hml⟩ := hpt l
      have := (key m).2 (by grind)
      rw [hm]
      exact ⟨this.1, this.2, by rw [← hm]; exact cross_at s l⟩
theorem sq_nonneg' (a : Rat) : 0 ≤ a * a := by
  rcases Rat.le_total (a := 0) (b := a) with h | h
  · exact Rat.mul_nonneg h h
  · have := Rat.mul_nonneg (a := -a) (b := -a) (by grind) (by grind)
    grind
theorem sq_pos' {a : Rat} (h : a ≠ 0) : 0 < a * a := by
  have h1 := sq_nonneg' a
  have h2 : a * a ≠ 0 := by intro h3; exact h ((mul_zero_iff' h).1 h3)
  grind
def Sg.sq (s : Sg) : Rat := (s.B.x - s.A.x) * (s.B.x - s.A.x) + (s.B.y - s.A.y) * (s.B.y - s.A.y)
theorem Sg.sq_pos {s : Sg} (h : s.A ≠ s.B) : 0 < s.sq := by
  unfold Sg.sq
  have h1 := sq_nonneg' (s.B.x - s.A.x)
  have h2 := sq_nonneg' (s.B.y - s.A.y)
  by_cases hx : s.B.x - s.A.x = 0
  · have hy : s.B.y - s.A.y ≠ 0 := by
      intro hy
      exact h (V2.ext' (by grind) (by grind))
    have := sq_pos' hy
    grind
  · have := sq_pos' hx
    grind
theorem between_iff {l : Rat} : l * (l - 1) ≤ 0 ↔ 0 ≤ l ∧ l ≤ 1 := by
  constructor
  · intro h
    constructor
    · rcases Rat.le_total (a := 0) (b := l) with k | k
      · exact k
      · by_cases h0 : l = 0
        · grind
        · have := Rat.mul_pos (a := -l) (b := 1 - l) (by grind) (by grind)
          grind
    · rcases Rat.le_total (a := l) (b := 1) with k | k
      · exact k
      · by_cases h0 : l = 1
        · grind
        · have := Rat.mul_pos (a := l) (b := l - 1) (by grind) (by grind)
          grind
  · rintro ⟨h1, h2⟩
    have := Rat.mul_nonneg (a := l) (b := 1 - l) h1 (by grind)
    grind
theorem onR_iff (s : Sg) (p : V2) : s.onR p ↔ ∃ l, 0 ≤ l ∧ l ≤ 1 ∧ p = s.pt l := by
  by_cases h : s.A = s.B
  · unfold Sg.onR dot
    constructor
    · rintro ⟨h1, h2⟩
      refine ⟨0, by grind, by grind, ?_⟩
      rw [pt_zero]
      rw [← h] at h2
      have h3 := sq_nonneg' (s.A.x - p.x)
      have h4 := sq_nonneg' (s.A.y - p.y)
      refine V2.ext' ?_ ?_
      · have : s.A.x - p.x = 0 := by
          by_cases h5 : s.A.x - p.x = 0
          · exact h5
          · have := sq_pos' h5; grind
        grind
      · have : s.A.y - p.y = 0 := by
          by_cases h5 : s.A.y - p.y = 0
          · exact h5
          · have := sq_pos' h5; grind
        grind
    · rintro ⟨l, h1, h2, rfl⟩
      have : s.pt l = s.A := V2.ext' (by simp only [Sg.pt, ← h]; grind) (by simp only [Sg.pt, ← h]; grind)
      rw [this]
      refine ⟨by unfold cross; grind, by grind⟩
  · have hd : ∀ l, dot (s.pt l) s.A s.B = s.sq * (l * (l - 1)) := by
      intro l; unfold dot Sg.pt Sg.sq; grind
    have hpos := Sg.sq_pos h
    have key : ∀ l, dot (s.pt l) s.A s.B ≤ 0 ↔ 0 ≤ l ∧ l ≤ 1 := by
      intro l
      rw [hd, ← between_iff]
      have := mul_pos_iff' (d := s.sq) (l := l * (l - 1)) hpos
      grind
    unfold Sg.onR
    constructor
    · rintro ⟨h1, h2⟩
      obtain ⟨l, rfl⟩ := line_at h h1
      obtain ⟨h3, h4⟩ := (key l).1 h2
      exact ⟨l, h3, h4, rfl⟩
    · rintro ⟨l, h1, h2, rfl⟩
      exact ⟨cross_at s l, (key l).2 ⟨h1, h2⟩⟩
theorem on_onR (s : Sg) (p : V2) : s.on p ↔ s.onR p := by rw [on_iff, onR_iff]
end Go.Fw
namespace Go.Fw
def crossW (s t : Sg) : Rat := (s.B.x - s.A.x) * (t.B.y - t.A.y) - (s.B.y - s.A.y) * (t.B.x - t.A.x)
def Sg.part (s t : Sg) : Rat := ((t.A.x - s.A.x) * (t.B.y - t.A.y) - (t.A.y - s.A.y) * (t.B.x - t.A.x)) / crossW s t
def Sg.part2 (s t : Sg) : Rat := ((t.A.x - s.A.x) * (s.B.y - s.A.y) - (t.A.y - s.A.y) * (s.B.x - s.A.x)) / crossW s t
def lowP (a b : V2) : V2 := if lexLt b a then b else a
def highP (a b : V2) : V2 := if lexLt a b then b else a
def lowest (p : V2) : List V2 → V2
  | [] => p
  | q :: l => lowest (lowP p q) l
def highest (p : V2) : List V2 → V2
  | [] => p
  | q :: l => highest (highP p q) l
def ends (l : List V2) : List V2 := match l with
  | [] => []
  | p :: r => let a := lowest p (p :: r); let b := highest p (p :: r); if a = b then [a] else [a, b]
def both (s t : Sg) : List V2 := [s.A, s.B, t.A, t.B].filter fun p => decide (s.on p) && decide (t.on p)
def meet (s t : Sg) : List V2 :=
  if crossW s t ≠ 0 then
    if s.part t < 0 ∨ 1 < s.part t ∨ s.part2 t < 0 ∨ 1 < s.part2 t then [] else [s.pt (s.part t)]
  else ends (both s t)
theorem lowest_mem (p : V2) : ∀ (l : List V2), lowest p l = p ∨ lowest p l ∈ l := by
  intro l
  induction l generalizing p with
  | nil => exact .inl rfl
  | cons q l ih =>
    simp only [lowest]
    rcases ih (lowP p q) with h | h
    · rw [h]; unfold lowP; split <;> simp
    · right; simp [h]
theorem highest_mem (p : V2) : ∀ (l : List V2), highest p l = p ∨ highest p l ∈ l := by
  intro l
  induction l generalizing p with
  | nil => exact .inl rfl
  | cons q l ih =>
    simp only [highest]
    rcases ih (highP p q) with h | h
    · rw [h]; unfold highP; split <;> simp
    · right; simp [h]
theorem lowest_le (p : V2) : ∀ (l : List V2), ¬ lexLt p (lowest p l) ∧ ∀ q ∈ l, ¬ lexLt q (lowest p l) := by
  intro l
  induction l generalizing p with
  | nil => exact ⟨lexLt_irrefl, by simp⟩
  | cons q l ih =>
    simp only [lowest]
    obtain ⟨h1, h2⟩ := ih (lowP p q)
    have hp : ¬ lexLt p (lowP p q) ∧ ¬ lexLt q (lowP p q) := by
      unfold lowP
      split
      · rename_i h; exact ⟨fun k => lexLt_irrefl (lexLt_trans h k), lexLt_irrefl⟩
      · rename_i h; exact ⟨lexLt_irrefl, h⟩
    refine ⟨fun h => h1 (lexLt_of_le_lt hp.1 h), fun r hr => ?_⟩
    rcases List.mem_cons.1 hr with rfl | hr
    · exact fun h => h1 (lexLt_of_le_lt hp.2 h)
    · exact h2 r hr
theorem highest_ge (p : V2) : ∀ (l : List V2), ¬ lexLt (highest p l) p ∧ ∀ q ∈ l, ¬ lexLt (highest p l) q := by
  intro l
  induction l generalizing p with
  | nil => exact ⟨lexLt_irrefl, by simp⟩
  | cons q l ih =>
    simp only [highest]
    obtain ⟨h1, h2⟩ := ih (highP p q)
    have hp : ¬ lexLt (highP p q) p ∧ ¬ lexLt (highP p q) q := by
      unfold highP
      split
      · rename_i h; exact ⟨fun k => lexLt_irrefl (lexLt_trans h k), lexLt_irrefl⟩
      · rename_i h; exact ⟨lexLt_irrefl, h⟩
    refine ⟨fun h => h1 (lexLt_of_lt_le h hp.1), fun r hr => ?_⟩
    rcases List.mem_cons.1 hr with rfl | hr
    · exact fun h => h1 (lexLt_of_lt_le h hp.2)
    · exact h2 r hr
theorem between_on {s : Sg} {a b p : V2} (ha : s.on a) (hb : s.on b) (hp : (Sg.mk a b).on p) : s.on p := by
  rw [on_iff] at *
  obtain ⟨l, h1, h2, rfl⟩ := ha
  obtain ⟨m, h3, h4, rfl⟩ := hb
  obtain ⟨n, h5, h6, rfl⟩ := hp
  refine ⟨l + (m - l) * n, ?_, ?_, ?_⟩
  · have := Rat.mul_nonneg h1 (show 0 ≤ 1 - n by grind)
    have := Rat.mul_nonneg h3 h5
    grind
  · have := Rat.mul_nonneg (show 0 ≤ 1 - l by grind) (show 0 ≤ 1 - n by grind)
    have := Rat.mul_nonneg (show 0 ≤ 1 - m by grind) h5
    grind
  · refine V2.ext' ?_ ?_ <;> simp only [Sg.pt] <;> grind
theorem on_between {s : Sg} {a b p : V2} (ha : s.on a) (hb : s.on b) (hp : s.on p) (h1 : ¬ lexLt p a) (h2 : ¬ lexLt b p) : (Sg.mk a b).on p := by
  by_cases h : s.A = s.B
  · have hall : ∀ q, s.on q → q = s.A := by
      intro q hq
      obtain ⟨l, _, _, rfl⟩ := (on_iff s q).1 hq
      refine V2.ext' ?_ ?_ <;> simp only [Sg.pt, ← h] <;> grind
    rw [hall a ha, hall b hb, hall p hp, on_iff]
    exact ⟨0, by grind, by grind, V2.ext' (by simp only [Sg.pt]; grind) (by simp only [Sg.pt]; grind)⟩
  · by_cases hab : a = b
    · subst hab
      have : p = a := lex_anti h1 h2
      subst this
      rw [on_iff]
      exact ⟨0, by grind, by grind, V2.ext' (by simp only [Sg.pt]; grind) (by simp only [Sg.pt]; grind)⟩
    · have hlt : lexLt a b := by
        rcases lexLt_tri a b with k | k | k
        · exact k
        · exact absurd k hab
        · exact absurd (lexLt_of_le_lt h1 (lexLt_of_le_lt h2 k)) lexLt_irrefl
      have hc : cross a b p = 0 := by
        obtain ⟨l, _, _, rfl⟩ := (on_iff s a).1 ha
        obtain ⟨m, _, _, rfl⟩ := (on_iff s b).1 hb
        obtain ⟨n, _, _, rfl⟩ := (on_iff s p).1 hp
        unfold cross Sg.pt; grind
      have hr : (Sg.mk a b).rise = ⟨a, b⟩ := by
        unfold Sg.rise
        rw [if_neg]
        exact fun k => lexLt_irrefl (lexLt_trans hlt k)
      refine ⟨?_, ?_, hc⟩
      · rw [hr]; exact h1
      · rw [hr]; exact h2
theorem crossW_pt {s t : Sg} {p : V2} (hs : s.on p) (ht : t.on p) (h : crossW s t ≠ 0) : p = s.pt (s.part t) ∧ p = t.pt (s.part2 t) ∧ 0 ≤ s.part t ∧ s.part t ≤ 1 ∧ 0 ≤ s.part2 t ∧ s.part2 t ≤ 1 := by
  obtain ⟨l, h1, h2, rfl⟩ := (on_iff s p).1 hs
  obtain ⟨m, h3, h4, e⟩ := (on_iff t _).1 ht
  have ex : (s.pt l).x = (t.pt m).x := by rw [e]
  have ey : (s.pt l).y = (t.pt m).y := by rw [e]
  simp only [Sg.pt] at ex ey
  have e1 : s.part t = l := by
    unfold Sg.part
    have : (t.A.x - s.A.x) * (t.B.y - t.A.y) - (t.A.y - s.A.y) * (t.B.x - t.A.x) = l * crossW s t := by unfold crossW; grind
    rw [this]; exact Rat.mul_div_cancel h
  have e2 : s.part2 t = m := by
    unfold Sg.part2
    have : (t.A.x - s.A.x) * (s.B.y - s.A.y) - (t.A.y - s.A.y) * (s.B.x - s.A.x) = m * crossW s t := by unfold crossW; grind
    rw [this]; exact Rat.mul_div_cancel h
  rw [e1, e2]
  exact ⟨rfl, e, h1, h2, h3, h4⟩
theorem part_eq {s t : Sg} (h : crossW s t ≠ 0) : s.pt (s.part t) = t.pt (s.part2 t) := by
  have h1 : s.part t * crossW s t = (t.A.x - s.A.x) * (t.B.y - t.A.y) - (t.A.y - s.A.y) * (t.B.x - t.A.x) := Rat.div_mul_cancel h
  have h2 : s.part2 t * crossW s t = (t.A.x - s.A.x) * (s.B.y - s.A.y) - (t.A.y - s.A.y) * (s.B.x - s.A.x) := Rat.div_mul_cancel h
  refine V2.ext' ?_ ?_
  · simp only [Sg.pt]
    have : crossW s t * (s.A.x + (s.B.x - s.A.x) * s.part t - (t.A.x + (t.B.x - t.A.x) * s.part2 t)) = 0 := by
      have : crossW s t * (s.A.x + (s.B.x - s.A.x) * s.part t - (t.A.x + (t.B.x - t.A.x) * s.part2 t)) = crossW s t * (s.A.x - t.A.x) + (s.B.x - s.A.x) * (s.part t * crossW s t) - (t.B.x - t.A.x) * (s.part2 t * crossW s t) := by grind
      rw [this, h1, h2]; unfold crossW; grind
    have := (mul_zero_iff' h).1 this
    grind
  · simp only [Sg.pt]
    have : crossW s t * (s.A.y + (s.B.y - s.A.y) * s.part t - (t.A.y + (t.B.y - t.A.y) * s.part2 t)) = 0 := by
      have : crossW s t * (s.A.y + (s.B.y - s.A.y) * s.part t - (t.A.y + (t.B.y - t.A.y) * s.part2 t)) = crossW s t * (s.A.y - t.A.y) + (s.B.y - s.A.y) * (s.part t * crossW s t) - (t.B.y - t.A.y) * (s.part2 t * crossW s t) := by grind
      rw [this, h1, h2]; unfold crossW; grind
    have := (mul_zero_iff' h).1 this
    grind
def hull (l : List V2) (p : V2) : Prop := match l with
  | [] => False
  | [a] => p = a
  | [a, b] => (Sg.mk a b).on p
  | _ => False
theorem on_A (s : Sg) : s.on s.A := (on_iff _ _).2 ⟨0, by grind, by grind, (pt_zero s).symm⟩
theorem on_B (s : Sg) : s.on s.B := (on_iff _ _).2 ⟨1, by grind, by grind, (pt_one s).symm⟩
theorem mem_both {s t : Sg} {p : V2} : p ∈ both s t ↔ (p = s.A ∨ p = s.B ∨ p = t.A ∨ p = t.B) ∧ s.on p ∧ t.on p := by
  unfold both
  simp [List.mem_filter]
theorem par_ends {s t : Sg} (h : crossW s t = 0) {p : V2} (hs : s.on p) (ht : t.on p) : ∃ a ∈ both s t, ¬ lexLt p a := by
  -- the greater of both lower ends
  by_cases hsp : s.A = s.B
  · have : p = s.A := by
      obtain ⟨l, _, _, rfl⟩ := (on_iff s p).1 hs
      refine V2.ext' ?_ ?_ <;> simp only [Sg.pt, ← hsp] <;> grind
    subst this
    exact ⟨s.A, mem_both.2 ⟨.inl rfl, hs, ht⟩, lexLt_irrefl⟩
  by_cases htp : t.A = t.B
  · have : p = t.A := by
      obtain ⟨l, _, _, rfl⟩ := (on_iff t p).1 ht
      refine V2.ext' ?_ ?_ <;> simp only [Sg.pt, ← htp] <;> grind
    subst this
    exact ⟨t.A, mem_both.2 ⟨.inr (.inr (.inl rfl)), hs, ht⟩, lexLt_irrefl⟩
  -- the lower ends
  have low : ∀ u : Sg, ∃ a, (a = u.A ∨ a = u.B) ∧ u.on a ∧ ∀ q, u.on q → ¬ lexLt q a := by
    intro u
    have hr : u.rise.A = u.A ∨ u.rise.A = u.B := by unfold Sg.rise; split <;> simp
    refine ⟨u.rise.A, hr, ?_, fun q hq => hq.1⟩
    rcases hr with e | e
    · rw [e]; exact on_A u
    · rw [e]; exact on_B u
  obtain ⟨a, ha, ha1, ha2⟩ := low s
  obtain ⟨b, hb, hb1, hb2⟩ := low t
  -- a point of one line is one of the other
  have line : ∀ (u v : Sg), crossW u v = 0 → u.A ≠ u.B → v.A ≠ v.B → ∀ p q, u.on p → v.on p → u.on q → ¬ lexLt p q → ∀ c, v.on c → ¬ lexLt q c → (Sg.mk c p).on q := by
    intro u v huv hu hv p q hup hvp huq hpq c hvc hcq
    have hne : v.A ≠ v.B := hv
    have hc : cross v.A v.B q = 0 := by
      obtain ⟨l, _, _, e1⟩ := (on_iff u p).1 hup
      obtain ⟨m, _, _, e2⟩ := (on_iff u q).1 huq
      obtain ⟨n, _, _, e3⟩ := (on_iff v p).1 hvp
      have x1 : p.x = (u.pt l).x := by rw [e1]
      have y1 : p.y = (u.pt l).y := by rw [e1]
      have x2 : q.x = (u.pt m).x := by rw [e2]
      have y2 : q.y = (u.pt m).y := by rw [e2]
      have x3 : p.x = (v.pt n).x := by rw [e3]
      have y3 : p.y = (v.pt n).y := by rw [e3]
      simp only [Sg.pt] at x1 y1 x2 y2 x3 y3
      unfold crossW at huv
      unfold cross
      have : q.x = p.x + (u.B.x - u.A.x) * (m - l) := by grind
      have : q.y = p.y + (u.B.y - u.A.y) * (m - l) := by grind
      have : (v.B.x - v.A.x) * (q.y - v.A.y) - (v.B.y - v.A.y) * (q.x - v.A.x) = (v.B.x - v.A.x) * (p.y - v.A.y) - (v.B.y - v.A.y) * (p.x - v.A.x) + (m - l) * (-((u.B.x - u.A.x) * (v.B.y - v.A.y) - (u.B.y - u.A.y) * (v.B.x - v.A.x))) := by grind
      rw [this, huv]
      grind
    obtain ⟨m, rfl⟩ := line_at hne hc
    obtain ⟨k, _, _, ek⟩ := (on_iff v c).1 hvc
    obtain ⟨n, _, _, en⟩ := (on_iff v p).1 hvp
    subst ek en
    by_cases hkn : k = n
    · subst hkn
      have : v.pt m = v.pt k := lex_anti hcq hpq
      rw [this]; exact on_A _
    · have hcne : v.pt k ≠ v.pt n := by
        intro e
        have ex : (v.pt k).x = (v.pt n).x := by rw [e]
        have ey : (v.pt k).y = (v.pt n).y := by rw [e]
        simp only [Sg.pt] at ex ey
        have e1 : (v.B.x - v.A.x) * (k - n) = 0 := by grind
        have e2 : (v.B.y - v.A.y) * (k - n) = 0 := by grind
        rcases Rat.mul_eq_zero.1 e1 with e3 | e3
        · rcases Rat.mul_eq_zero.1 e2 with e4 | e4
          · exact hne (V2.ext' (by grind) (by grind))
          · exact hkn (by grind)
        · exact hkn (by grind)
      have hlt : lexLt (v.pt k) (v.pt n) := by
        rcases lexLt_tri (v.pt k) (v.pt n) with h1 | h1 | h1
        · exact h1
        · exact absurd h1 hcne
        · exact absurd (lexLt_of_le_lt hcq (lexLt_of_le_lt hpq h1)) lexLt_irrefl
      have hr : (Sg.mk (v.pt k) (v.pt n)).rise = ⟨v.pt k, v.pt n⟩ := by
        unfold Sg.rise
        rw [if_neg (fun h1 => lexLt_irrefl (lexLt_trans hlt h1))]
      refine ⟨by rw [hr]; exact hcq, by rw [hr]; exact hpq, ?_⟩
      unfold cross Sg.pt; grind
  by_cases hab : lexLt a b
  · -- b lies on s
    have hbp := hb2 p ht
    have h1 : (Sg.mk a p).on b := line t s (by unfold crossW at *; grind) htp hsp p b ht hs hb1 hbp a ha1 (fun h => lexLt_irrefl (lexLt_trans hab h))
    refine ⟨b, mem_both.2 ⟨?_, between_on ha1 hs h1, hb1⟩, hbp⟩
    rcases hb with rfl | rfl <;> simp
  · have hap := ha2 p hs
    have h1 : (Sg.mk b p).on a := line s t h hsp htp p a hs ht ha1 hap b hb1 hab
    refine ⟨a, mem_both.2 ⟨?_, ha1, between_on hb1 ht h1⟩, hap⟩
    rcases ha with rfl | rfl <;> simp
def V2.neg (p : V2) : V2 := ⟨-p.x, -p.y⟩
def Sg.neg (s : Sg) : Sg := ⟨s.A.neg, s.B.neg⟩
theorem neg_neg' (p : V2) : p.neg.neg = p := V2.ext' (by simp [V2.neg, Rat.neg_neg]) (by simp [V2.neg, Rat.neg_neg])
theorem lex_neg (p q : V2) : lexLt p.neg q.neg ↔ lexLt q p := by unfold lexLt V2.neg; grind
theorem on_neg (s : Sg) (p : V2) : s.neg.on p.neg ↔ s.on p := by
  rw [on_iff, on_iff]
  constructor
  · rintro ⟨l, h1, h2, h3⟩
    have hx := congrArg V2.x h3
    have hy := congrArg V2.y h3
    simp only [Sg.pt, Sg.neg, V2.neg] at hx hy
    exact ⟨l, h1, h2, V2.ext' (by simp only [Sg.pt]; grind) (by simp only [Sg.pt]; grind)⟩
  · rintro ⟨l, h1, h2, rfl⟩
    exact ⟨l, h1, h2, V2.ext' (by simp only [Sg.pt, Sg.neg, V2.neg]; grind) (by simp only [Sg.pt, Sg.neg, V2.neg]; grind)⟩
theorem mem_both_neg {s t : Sg} {p : V2} : p.neg ∈ both s.neg t.neg ↔ p ∈ both s t := by
  have inj : ∀ a b : V2, a.neg = b.neg ↔ a = b := fun a b => ⟨fun h => by rw [← neg_neg' a, h, neg_neg'], fun h => by rw [h]⟩
  rw [mem_both, mem_both, on_neg, on_neg]
  simp only [Sg.neg, inj]
theorem par_ends_high {s t : Sg} (h : crossW s t = 0) {p : V2} (hs : s.on p) (ht : t.on p) : ∃ a ∈ both s t, ¬ lexLt a p := by
  obtain ⟨a, ha, h1⟩ := par_ends (s := s.neg) (t := t.neg) (p := p.neg) (by unfold crossW Sg.neg V2.neg at *; grind) ((on_neg s p).2 hs) ((on_neg t p).2 ht)
  refine ⟨a.neg, ?_, ?_⟩
  · rw [← mem_both_neg, neg_neg']; exact ha
  · rw [← lex_neg, neg_neg']; exact h1
theorem meet_iff (s t : Sg) (p : V2) : hull (meet s t) p ↔ s.on p ∧ t.on p := by
  unfold meet
  split
  · rename_i h
    split
    · rename_i h1
      constructor
      · exact fun h2 => h2.elim
      · rintro ⟨hs, ht⟩
        obtain ⟨_, _, k⟩ := crossW_pt hs ht h
        grind
    · rename_i h1
      constructor
      · intro h2
        simp only [hull] at h2
        subst h2
        refine ⟨(on_iff _ _).2 ⟨_, by grind, by grind, rfl⟩, (on_iff _ _).2 ⟨_, by grind, by grind, part_eq h⟩⟩
      · rintro ⟨hs, ht⟩
        exact (crossW_pt hs ht h).1
  · rename_i h
    have h : crossW s t = 0 := by grind
    have hall := fun q => mem_both (s := s) (t := t) (p := q)
    have hlow := fun hs ht => par_ends (s := s) (t := t) (p := p) h hs ht
    have hhigh := fun hs ht => par_ends_high (s := s) (t := t) (p := p) h hs ht
    cases hb : both s t with
    | nil =>
      simp only [ends, hull]
      refine ⟨fun h => h.elim, fun ⟨hs, ht⟩ => ?_⟩
      obtain ⟨a, ha, _⟩ := hlow hs ht
      rw [hb] at ha; cases ha
    | cons a l =>
      rw [hb] at hall hlow hhigh
      obtain ⟨lo, hlo⟩ : ∃ lo, lo = lowest a (a :: l) := ⟨_, rfl⟩
      obtain ⟨hi, hhi⟩ : ∃ hi, hi = highest a (a :: l) := ⟨_, rfl⟩
      have hlm : lo ∈ a :: l := by rcases lowest_mem a (a :: l) with h | h <;> rw [hlo] <;> simp_all
      have hhm : hi ∈ a :: l := by rcases highest_mem a (a :: l) with h | h <;> rw [hhi] <;> simp_all
      have hll : ∀ q ∈ a :: l, ¬ lexLt q lo := fun q hq => by rw [hlo]; exact (lowest_le a (a :: l)).2 q hq
      have hhl : ∀ q ∈ a :: l, ¬ lexLt hi q := fun q hq => by rw [hhi]; exact (highest_ge a (a :: l)).2 q hq
      have hlo2 := (hall lo).1 hlm
      have hhi2 := (hall hi).1 hhm
      have key : (s.on p ∧ t.on p) ↔ (Sg.mk lo hi).on p := by
        constructor
        · rintro ⟨hs, ht⟩
          obtain ⟨c, hc, hc2⟩ := hlow hs ht
          obtain ⟨d, hd, hd2⟩ := hhigh hs ht
          exact on_between hlo2.2.1 hhi2.2.1 hs (fun h => (hll c hc) (lexLt_of_le_lt hc2 h)) (fun h => (hhl d hd) (lexLt_of_lt_le h hd2))
        · intro h
          exact ⟨between_on hlo2.2.1 hhi2.2.1 h, between_on hlo2.2.2 hhi2.2.2 h⟩
      rw [key]
      simp only [ends, ← hlo, ← hhi]
      split
      · rename_i he
        simp only [hull]
        rw [he]
        constructor
        · intro h; rw [h]; exact on_A _
        · intro h
          obtain ⟨l, _, _, rfl⟩ := (on_iff _ _).1 h
          refine V2.ext' ?_ ?_ <;> simp only [Sg.pt] <;> grind
      · rfl
theorem meet_len (s t : Sg) : (meet s t).length ≤ 2 := by
  unfold meet
  split
  · split <;> simp
  · cases both s t with
    | nil => simp [ends]
    | cons c l => simp only [ends]; split <;> simp
end Go.Fw

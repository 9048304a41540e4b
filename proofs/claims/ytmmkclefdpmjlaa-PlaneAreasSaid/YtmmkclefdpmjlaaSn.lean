/- Plain: least, most, near. -/
import Derived.Test.YtmmkclefdpmjlaaR8b
set_option linter.unusedSimpArgs false
set_option linter.unusedVariables false
namespace Go.Fw
theorem cmpQ_eq (a b : Rat) : cmpZ (a.num * b.den) (b.num * a.den) = if a < b then -1 else if b < a then 1 else 0 := by
  unfold cmpZ
  by_cases h1 : a < b
  · rw [if_pos h1, if_pos ((Rat.lt_iff a b).1 h1)]
  · rw [if_neg h1, if_neg (fun h => h1 ((Rat.lt_iff a b).2 h))]
    by_cases h2 : b < a
    · rw [if_pos h2, if_pos ((Rat.lt_iff b a).1 h2)]
    · rw [if_neg h2, if_neg (fun h => h2 ((Rat.lt_iff b a).2 h))]
theorem lessQ_iff (a b : Rat) : lessQ a b ↔ a < b := by
  unfold lessQ
  rw [cmpQ_eq]
  split
  · rename_i h; simp [h]
  · rename_i h; split <;> simp [h]
theorem moreQ_iff (a b : Rat) : moreQ a b ↔ b < a := by
  unfold moreQ
  rw [cmpQ_eq]
  by_cases h1 : a < b
  · rw [if_pos h1]
    have : ¬ b < a := by grind
    simp [this]
  · rw [if_neg h1]
    by_cases h2 : b < a
    · rw [if_pos h2]; simp [h2]
    · rw [if_neg h2]; simp [h2]
theorem least_fold_le (t : List FQ) (a : FQ) : (t.foldl (fun o x => if lessQ x.q o.q then x else o) a).q ≤ a.q ∧ ∀ x ∈ t, (t.foldl (fun o x => if lessQ x.q o.q then x else o) a).q ≤ x.q := by
  induction t generalizing a with
  | nil => exact ⟨Rat.le_refl, by simp⟩
  | cons y t ih =>
    rw [List.foldl_cons]
    obtain ⟨h1, h2⟩ := ih (if lessQ y.q a.q then y else a)
    have h3 : (if lessQ y.q a.q then y else a).q ≤ a.q ∧ (if lessQ y.q a.q then y else a).q ≤ y.q := by
      split
      · rename_i h; rw [lessQ_iff] at h; exact ⟨by grind, Rat.le_refl⟩
      · rename_i h; rw [lessQ_iff] at h; exact ⟨Rat.le_refl, by grind⟩
    refine ⟨Rat.le_trans h1 h3.1, fun x hx => ?_⟩
    rcases List.mem_cons.1 hx with rfl | hx
    · exact Rat.le_trans h1 h3.2
    · exact h2 x hx
theorem leastOf_le (l : List FQ) (x : FQ) (hx : x ∈ l) : (leastOf l).q ≤ x.q := by
  cases l with
  | nil => cases hx
  | cons a t =>
    obtain ⟨h1, h2⟩ := least_fold_le t a
    rcases List.mem_cons.1 hx with rfl | hx
    · exact h1
    · exact h2 x hx
theorem most_fold_le (t : List FQ) (a : FQ) : a.q ≤ (t.foldl (fun o x => if moreQ x.q o.q then x else o) a).q ∧ ∀ x ∈ t, x.q ≤ (t.foldl (fun o x => if moreQ x.q o.q then x else o) a).q := by
  induction t generalizing a with
  | nil => exact ⟨Rat.le_refl, by simp⟩
  | cons y t ih =>
    rw [List.foldl_cons]
    obtain ⟨h1, h2⟩ := ih (if moreQ y.q a.q then y else a)
    have h3 : a.q ≤ (if moreQ y.q a.q then y else a).q ∧ y.q ≤ (if moreQ y.q a.q then y else a).q := by
      split
      · rename_i h; rw [moreQ_iff] at h; exact ⟨by grind, Rat.le_refl⟩
      · rename_i h; rw [moreQ_iff] at h; exact ⟨Rat.le_refl, by grind⟩
    refine ⟨Rat.le_trans h3.1 h1, fun x hx => ?_⟩
    rcases List.mem_cons.1 hx with rfl | hx
    · exact Rat.le_trans h3.2 h1
    · exact h2 x hx
theorem le_mostOf (l : List FQ) (x : FQ) (hx : x ∈ l) : x.q ≤ (mostOf l).q := by
  cases l with
  | nil => cases hx
  | cons a t =>
    obtain ⟨h1, h2⟩ := most_fold_le t a
    rcases List.mem_cons.1 hx with rfl | hx
    · exact h1
    · exact h2 x hx
theorem nearQ_int (k : Int) : nearQ (k : Rat) = k := by
  unfold nearQ
  rw [Rat.num_intCast, Rat.den_intCast]
  rw [if_neg (by omega)]
  omega
theorem num_den (q : Rat) : q * (q.den : Rat) = (q.num : Rat) := by
  have h := Rat.num_divInt_den q
  rw [Rat.divInt_eq_div] at h
  have hd : ((q.den : Int) : Rat) ≠ 0 := by
    have := q.den_pos
    intro h0
    have := Rat.intCast_eq_zero_iff.1 h0
    omega
  have h2 := Rat.div_mul_cancel (a := (q.num : Rat)) hd
  rw [h] at h2
  exact h2
theorem near_half (q : Rat) : 2 * (nearQ q : Rat) ≤ 2 * q + 1 ∧ 2 * q - 1 ≤ 2 * (nearQ q : Rat) := by
  have hd := q.den_pos
  have hq := num_den q
  obtain ⟨n, hn⟩ : ∃ n, n = q.num := ⟨_, rfl⟩
  obtain ⟨d, hdd⟩ : ∃ d, d = q.den := ⟨_, rfl⟩
  have key : 2 * (nearQ q) * d ≤ 2 * n + d ∧ 2 * n - d ≤ 2 * (nearQ q) * d := by
    unfold nearQ
    rw [← hn, ← hdd]
    rw [← hdd] at hd
    obtain ⟨t, ht⟩ : ∃ t, t = (n * 2 + (d : Int)) / (d * 2) := ⟨_, rfl⟩
    obtain ⟨r, hr⟩ : ∃ r, r = (n * 2 + (d : Int)) % (d * 2) := ⟨_, rfl⟩
    have h1 := Int.mul_ediv_add_emod (n * 2 + (d : Int)) (d * 2)
    have h2 := Int.emod_nonneg (n * 2 + (d : Int)) (b := d * 2) (by omega)
    have h3 := Int.emod_lt_of_pos (n * 2 + (d : Int)) (b := d * 2) (by omega)
    rw [← ht, ← hr] at h1
    rw [← hr] at h2 h3
    rw [← ht, ← hr]
    have e1 : 2 * t * (d : Int) = d * 2 * t := by rw [Int.mul_comm 2 t, Int.mul_assoc, Int.mul_comm t, Int.mul_comm 2]
    split
    · rename_i h0
      have e2 : 2 * (t - 1) * (d : Int) = d * 2 * t - 2 * d := by rw [Int.mul_sub, Int.sub_mul, e1]; omega
      rw [e2]
      omega
    · rw [e1]; omega
  rw [← hdd] at hd hq
  rw [← hn] at hq
  have hdp : (0 : Rat) < (d : Rat) := Rat.natCast_pos.2 hd
  have c1 : ((2 * (nearQ q) * d : Int) : Rat) ≤ ((2 * n + d : Int) : Rat) := Rat.intCast_le_intCast.2 key.1
  have c2 : ((2 * n - d : Int) : Rat) ≤ ((2 * (nearQ q) * d : Int) : Rat) := Rat.intCast_le_intCast.2 key.2
  simp only [Rat.intCast_mul, Rat.intCast_add, Rat.intCast_sub, Rat.intCast_natCast] at c1 c2
  constructor
  · refine Rat.le_of_mul_le_mul_right (c := (d : Rat)) ?_ hdp
    have e3 : (2 * q + 1) * (d : Rat) = 2 * (q * d) + d := by grind
    rw [e3, hq]
    exact c1
  · refine Rat.le_of_mul_le_mul_right (c := (d : Rat)) ?_ hdp
    have e3 : (2 * q - 1) * (d : Rat) = 2 * (q * d) - d := by grind
    rw [e3, hq]
    exact c2
end Go.Fw

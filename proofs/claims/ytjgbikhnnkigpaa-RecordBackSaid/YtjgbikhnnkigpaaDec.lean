/- Decimal texts (plain). -/
import Derived.Test.YtjgbikhnnkigpaaLimb
set_option linter.unusedSimpArgs false
set_option linter.unusedVariables false
namespace Go.Fw

def decL (n : Nat) : List Nat := if n = 0 then [0] else (digits 10 n).reverse
/-- A number's digits as bytes, the highest first. -/
def decB (n : Nat) : List UInt8 := (decL n).map fun d => UInt8.ofNat (48 + d)

/-- So many digits, the lowest first. -/
def pad : Nat → Nat → List Nat
  | 0, _ => []
  | w + 1, n => n % 10 :: pad w (n / 10)

theorem pad_length : ∀ w n, (pad w n).length = w
  | 0, _ => rfl
  | w + 1, n => by simp [pad, pad_length w]
theorem pad_lt : ∀ w n, ∀ d ∈ pad w n, d < 10
  | 0, _, d, h => by cases h
  | w + 1, n, d, h => by
    simp only [pad, List.mem_cons] at h
    rcases h with rfl | h
    · exact Nat.mod_lt _ (by omega)
    · exact pad_lt w _ d h
theorem val_pad : ∀ w n, val 10 (pad w n) = n % 10 ^ w
  | 0, n => by simp [pad, val, Nat.mod_one]
  | w + 1, n => by
    simp only [pad, val, val_pad w]
    rw [Nat.pow_succ, Nat.mul_comm (10 ^ w) 10, Nat.mod_mul]
theorem pad_append : ∀ (w v n : Nat), pad (w + v) n = pad w n ++ pad v (n / 10 ^ w)
  | 0, v, n => by simp [pad]
  | w + 1, v, n => by
    rw [show w + 1 + v = (w + v) + 1 from by omega]
    simp only [pad, List.cons_append, pad_append w v, Nat.div_div_eq_div_mul, Nat.pow_succ, Nat.mul_comm]
theorem strip_pad (w n : Nat) (h : n < 10 ^ w) : strip (pad w n) = digits 10 n := by
  rw [strip_digits (by omega) _ (pad_lt w n), val_pad, Nat.mod_eq_of_lt h]

theorem strip_append_zero : ∀ l : List Nat, strip (l ++ [0]) = strip l
  | [] => by simp [strip]
  | d :: l => by simp only [List.cons_append, strip, strip_append_zero l]
theorem strip_append_pos : ∀ (l : List Nat) (x : Nat), x ≠ 0 → strip (l ++ [x]) = l ++ [x]
  | [], x, h => by simp [strip, h]
  | d :: l, x, h => by
    simp only [List.cons_append, strip, strip_append_pos l x h]
    cases hc : l ++ [x] with
    | nil => simp at hc
    | cons e r => rfl

/-- Without the noughts ahead. -/
theorem reverse_strip (l : List Nat) : l.reverse.dropWhile (· == 0) = (strip l).reverse := by
  generalize hr : l.reverse = r
  have hl : l = r.reverse := by rw [← hr, List.reverse_reverse]
  subst hl
  clear hr
  induction r with
  | nil => rfl
  | cons x r ih =>
    simp only [List.reverse_cons, List.dropWhile_cons]
    by_cases h : x = 0
    · subst h; simp [ih, strip_append_zero]
    · rw [strip_append_pos _ _ h]; simp [h]
end Go.Fw

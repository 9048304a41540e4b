/- Dig, Knuth, Limb, Kn, Dec, Pl, Meet, put together. -/
import Derived.Test.YtjgbikhnnkigpaaFw2
set_option linter.unusedSimpArgs false
set_option linter.unusedVariables false
set_option linter.unusedVariables false
set_option linter.unusedSimpArgs false
namespace Go.Fw
def val (B : Nat) : List Nat → Nat
  | [] => 0
  | d :: l => d + B * val B l
def digF (B : Nat) : Nat → Nat → List Nat
  | 0, _ => []
  | f + 1, n => if n = 0 then [] else n % B :: digF B f (n / B)
def digits (B n : Nat) : List Nat := digF B n n
def strip : List Nat → List Nat
  | [] => []
  | d :: l => match strip l with
    | [] => if d = 0 then [] else [d]
    | e :: r => d :: e :: r
theorem val_append (B : Nat) : ∀ l l' : List Nat, val B (l ++ l') = val B l + B ^ l.length * val B l'
  | [], l' => by simp [val]
  | d :: l, l' => by
    simp only [List.cons_append, val, List.length_cons, val_append B l l', Nat.pow_succ]
    rw [Nat.mul_add, Nat.mul_comm (B ^ l.length) B, Nat.mul_assoc]; omega
theorem val_lt {B : Nat} (hB : 0 < B) : ∀ l : List Nat, (∀ d ∈ l, d < B) → val B l < B ^ l.length
  | [], _ => by simp [val]
  | d :: l, h => by
    have h1 := val_lt hB l fun e he => h e (by simp [he])
    have h2 := h d (by simp)
    simp only [val, List.length_cons, Nat.pow_succ]
    calc d + B * val B l < B + B * val B l := by omega
      _ = B * (val B l + 1) := by rw [Nat.mul_add]; omega
      _ ≤ B * B ^ l.length := Nat.mul_le_mul_left _ h1
      _ = B ^ l.length * B := Nat.mul_comm _ _
end Go.Fw
namespace Go.Fw
end Go.Fw
namespace Go.Fw
def dg (l : List Nat) (i : Nat) : Nat := l.getD i 0
theorem dg_eq {l : List Nat} {i : Nat} (h : i < l.length) : dg l i = l[i] := by simp [dg, h]
theorem dg_ge {l : List Nat} {i : Nat} (h : l.length ≤ i) : dg l i = 0 := by simp [dg, h]
theorem val_take_succ (B : Nat) (l : List Nat) (i : Nat) : val B (l.take (i + 1)) = val B (l.take i) + B ^ i * dg l i := by
  rcases Nat.lt_or_ge i l.length with h | h
  · rw [List.take_add_one, val_append, List.length_take, Nat.min_eq_left (by omega), List.getElem?_eq_getElem h, dg_eq h]
    simp [val]
  · rw [List.take_of_length_le h, List.take_of_length_le (by omega), dg_ge h]; simp
theorem val_drop (B : Nat) (l : List Nat) (i : Nat) : val B (l.drop i) = dg l i + B * val B (l.drop (i + 1)) := by
  rcases Nat.lt_or_ge i l.length with h | h
  · rw [List.drop_eq_getElem_cons h, val, dg_eq h]
  · rw [List.drop_of_length_le h, List.drop_of_length_le (by omega), dg_ge h]; simp [val]
theorem val_split (B : Nat) (l : List Nat) (i : Nat) (h : i ≤ l.length) : val B l = val B (l.take i) + B ^ i * val B (l.drop i) := by
  have := val_append B (l.take i) (l.drop i)
  rw [List.take_append_drop, List.length_take, Nat.min_eq_left h] at this
  exact this
theorem val_take_of_zero (B : Nat) (l : List Nat) (n : Nat) (h : ∀ j, n ≤ j → dg l j = 0) : val B l = val B (l.take n) := by
  rcases Nat.lt_or_ge l.length n with h1 | h1
  · rw [List.take_of_length_le (by omega)]
  · rw [val_split B l n h1]
    have : ∀ (m : List Nat), (∀ j, dg m j = 0) → val B m = 0 := by
      intro m
      induction m with
      | nil => intro _; rfl
      | cons d m ih =>
        intro hm
        have h0 := hm 0
        simp [dg] at h0
        have hs := ih (fun j => by have := hm (j + 1); simpa [dg] using this)
        simp [val, h0, hs]
    rw [this (l.drop n) (fun j => by have := h (n + j) (by omega); simpa [dg] using this)]
    simp
end Go.Fw
namespace Go.Fw
theorem zero_above {B : Nat} (hB : 0 < B) {l : List Nat} {m : Nat} (h : val B l < B ^ m) : ∀ p, m ≤ p → dg l p = 0 := by
  intro p hp
  rcases Nat.lt_or_ge p l.length with h1 | h1
  · rw [val_split B l p (by omega), val_drop] at h
    rcases Nat.eq_zero_or_pos (dg l p) with h0 | h0
    · exact h0
    · exfalso
      have h2 : B ^ m ≤ B ^ p := Nat.pow_le_pow_right hB hp
      have h3 : B ^ p * 1 ≤ B ^ p * (dg l p + B * val B (l.drop (p + 1))) := Nat.mul_le_mul_left _ (by omega)
      omega
  · exact dg_ge h1
theorem val_low {B : Nat} (l : List Nat) (m : Nat) (h : ∀ p, m < p → dg l p = 0) : val B l = val B (l.take m) + B ^ m * dg l m := by
  rw [val_take_of_zero B l (m + 1) (fun p hp => h p (by omega)), val_take_succ]
theorem take_lt {B : Nat} (hB : 0 < B) {l : List Nat} (hl : ∀ d ∈ l, d < B) (m : Nat) : val B (l.take m) < B ^ m := by
  have h1 := val_lt hB (l.take m) (fun d hd => hl d (List.mem_of_mem_take hd))
  exact Nat.lt_of_lt_of_le h1 (Nat.pow_le_pow_right hB (by rw [List.length_take]; omega))
theorem dg_drop (l : List Nat) (i k : Nat) : dg (l.drop i) k = dg l (i + k) := by
  simp [dg, List.getElem?_drop]
theorem three {B : Nat} (hB : 1 < B) {rest d : List Nat} {j n V : Nat} (hn : 2 ≤ n) (hd : ∀ x ∈ d, x < B) (hr : ∀ x ∈ rest, x < B) (hdl : d.length = n) (hV : val B d = V)
    (hL : j + n + 1 ≤ rest.length) (hlt : val B rest < V * B ^ (j + 1)) (ht : 0 < dg d (n - 1)) :
    ∃ R lo rl vl, val B rest = lo + B ^ j * R ∧ lo < B ^ j ∧ R < V * B ∧ rl < B ^ (n - 2) ∧ vl < B ^ (n - 2) ∧
      R = ((dg rest (j + n) * B + dg rest (j + n - 1)) * B + dg rest (j + n - 2)) * B ^ (n - 2) + rl ∧
      V = (dg d (n - 1) * B + dg d (n - 2)) * B ^ (n - 2) + vl ∧ dg rest (j + n) ≤ dg d (n - 1) ∧ (∀ p, j + n < p → dg rest p = 0) := by
  have hB0 : 0 < B := by omega
  obtain ⟨m, rfl⟩ : ∃ m, n = m + 2 := ⟨n - 2, by omega⟩
  have hVn : V < B ^ (m + 2) := by rw [← hV, ← hdl]; exact val_lt hB0 d hd
  have hrn : val B rest < B ^ (j + (m + 2) + 1) := by
    refine Nat.lt_trans hlt ?_
    rw [show j + (m + 2) + 1 = (m + 2) + (j + 1) from by omega, Nat.pow_add B (m + 2)]
    exact Nat.mul_lt_mul_of_pos_right hVn (Nat.pow_pos hB0)
  have hz := zero_above hB0 hrn
  have e1 := val_split B rest j (by omega)
  have hlo := take_lt hB0 hr j
  have hR : val B (rest.drop j) < V * B := by
    have h1 : B ^ j * val B (rest.drop j) < B ^ j * (V * B) := by
      have : V * B ^ (j + 1) = B ^ j * (V * B) := by rw [Nat.pow_succ, Nat.mul_left_comm]
      omega
    exact Nat.lt_of_mul_lt_mul_left h1
  have e2 : val B (rest.drop j) = val B ((rest.drop j).take m) + B ^ m * (dg rest (j + m) + B * (dg rest (j + m + 1) + B * dg rest (j + m + 2))) := by
    rw [val_low (rest.drop j) (m + 2) (fun p hp => by rw [dg_drop]; exact hz _ (by omega)), val_take_succ, val_take_succ, dg_drop, dg_drop, dg_drop]
    rw [Nat.mul_add, Nat.mul_add B, Nat.pow_succ, Nat.pow_succ, Nat.mul_add]
    simp only [← Nat.add_assoc, Nat.mul_assoc]
    rw [show B ^ (m + 1) = B ^ m * B from Nat.pow_succ ..]
    simp only [Nat.mul_assoc]
  have e3 : V = val B (d.take m) + B ^ m * (dg d m + B * dg d (m + 1)) := by
    rw [← hV, val_low d (m + 1) (fun p hp => dg_ge (by omega)), val_take_succ, Nat.mul_add, Nat.pow_succ]
    simp only [← Nat.add_assoc, Nat.mul_assoc]
  have hrl := take_lt hB0 (l := rest.drop j) (fun x hx => hr x (List.mem_of_mem_drop hx)) m
  have hvl := take_lt hB0 hd m
  refine ⟨val B (rest.drop j), val B (rest.take j), val B ((rest.drop j).take m), val B (d.take m), e1, hlo, hR, hrl, hvl, ?_, ?_, ?_, fun p hp => hz p (by omega)⟩
  · rw [e2, show j + (m + 2) - 1 = j + m + 1 from by omega, show j + (m + 2) - 2 = j + m from by omega, show m + 2 - 2 = m from by omega, show j + (m + 2) = j + m + 2 from by omega]
    rw [Nat.add_comm (val B _), Nat.mul_comm (B ^ m)]
    congr 2
    rw [Nat.add_comm, Nat.mul_comm B]
    congr 2
    rw [Nat.add_comm, Nat.mul_comm B]
  · rw [show m + 2 - 1 = m + 1 from by omega, show m + 2 - 2 = m from by omega, e3, Nat.add_comm, Nat.mul_comm]
    congr 2
    rw [Nat.add_comm, Nat.mul_comm]
  · rw [show m + 2 - 1 = m + 1 from by omega]
    have h1 : dg rest (j + (m + 2)) * B ^ (m + 2) ≤ val B (rest.drop j) := by
      rw [val_low (rest.drop j) (m + 2) (fun p hp => by rw [dg_drop]; exact hz _ (by omega)), dg_drop, Nat.mul_comm]
      omega
    have h2 : V < (dg d (m + 1) + 1) * B ^ (m + 1) := by
      rw [← hV, val_low d (m + 1) (fun p hp => dg_ge (by omega)), Nat.add_mul, Nat.mul_comm]
      have := take_lt hB0 hd (m + 1)
      omega
    have h3 : V * B ≤ (dg d (m + 1) + 1) * B ^ (m + 1) * B := Nat.mul_le_mul_right _ (by omega)
    have h4 : dg rest (j + (m + 2)) * B ^ (m + 2) < (dg d (m + 1) + 1) * B ^ (m + 2) := by
      rw [Nat.pow_succ B (m + 1), ← Nat.mul_assoc (dg d (m + 1) + 1)]
      rw [Nat.pow_succ B (m + 1)] at h1
      omega
    have := Nat.lt_of_mul_lt_mul_right h4
    omega
end Go.Fw
namespace Go.Fw
def decL (n : Nat) : List Nat := if n = 0 then [0] else (digits 10 n).reverse
def decB (n : Nat) : List UInt8 := (decL n).map fun d => UInt8.ofNat (48 + d)
def pad : Nat → Nat → List Nat
  | 0, _ => []
  | w + 1, n => n % 10 :: pad w (n / 10)
end Go.Fw
namespace Go.Fw
structure V2 where
  x : Rat
  y : Rat
  deriving DecidableEq
structure Sg where
  A : V2
  B : V2
  deriving DecidableEq
def cross (a b c : V2) : Rat := (b.x - a.x) * (c.y - a.y) - (b.y - a.y) * (c.x - a.x)
def dot (a b c : V2) : Rat := (b.x - a.x) * (c.x - a.x) + (b.y - a.y) * (c.y - a.y)
def lexLt (p q : V2) : Prop := p.x < q.x ∨ p.x = q.x ∧ p.y < q.y
instance (p q : V2) : Decidable (lexLt p q) := by unfold lexLt; infer_instance
def Sg.pt (s : Sg) (l : Rat) : V2 := ⟨s.A.x + (s.B.x - s.A.x) * l, s.A.y + (s.B.y - s.A.y) * l⟩
def Sg.rise (s : Sg) : Sg := if lexLt s.B s.A then ⟨s.B, s.A⟩ else s
def Sg.on (s : Sg) (p : V2) : Prop := ¬ lexLt p s.rise.A ∧ ¬ lexLt s.rise.B p ∧ cross s.A s.B p = 0
instance (s : Sg) (p : V2) : Decidable (s.on p) := by unfold Sg.on; infer_instance
def Sg.onR (s : Sg) (p : V2) : Prop := cross s.A s.B p = 0 ∧ dot p s.A s.B ≤ 0
instance (s : Sg) (p : V2) : Decidable (s.onR p) := by unfold Sg.onR; infer_instance
theorem V2.ext' {p q : V2} (h1 : p.x = q.x) (h2 : p.y = q.y) : p = q := by cases p; cases q; simp_all
def Sg.sq (s : Sg) : Rat := (s.B.x - s.A.x) * (s.B.x - s.A.x) + (s.B.y - s.A.y) * (s.B.y - s.A.y)
end Go.Fw
namespace Go.Fw
def crossW (s t : Sg) : Rat := (s.B.x - s.A.x) * (t.B.y - t.A.y) - (s.B.y - s.A.y) * (t.B.x - t.A.x)
def Sg.part (s t : Sg) : Rat := ((t.A.x - s.A.x) * (t.B.y - t.A.y) - (t.A.y - s.A.y) * (t.B.x - t.A.x)) / crossW s t
def Sg.part2 (s t : Sg) : Rat := ((t.A.x - s.A.x) * (s.B.y - s.A.y) - (t.A.y - s.A.y) * (s.B.x - s.A.x)) / crossW s t
def lowP (a b : V2) : V2 := if lexLt b a then b else a
def highP (a b : V2) : V2 := if lexLt a b then b else a
def lowest (p : V2) : List V2 → V2
  | [] => p
  | q :: l => lowest (lowP p q) l
def highest (p : V2) : List V2 → V2
  | [] => p
  | q :: l => highest (highP p q) l
def ends (l : List V2) : List V2 := match l with
  | [] => []
  | p :: r => let a := lowest p (p :: r); let b := highest p (p :: r); if a = b then [a] else [a, b]
def both (s t : Sg) : List V2 := [s.A, s.B, t.A, t.B].filter fun p => decide (s.on p) && decide (t.on p)
def meet (s t : Sg) : List V2 :=
  if crossW s t ≠ 0 then
    if s.part t < 0 ∨ 1 < s.part t ∨ s.part2 t < 0 ∨ 1 < s.part2 t then [] else [s.pt (s.part t)]
  else ends (both s t)
def hull (l : List V2) (p : V2) : Prop := match l with
  | [] => False
  | [a] => p = a
  | [a, b] => (Sg.mk a b).on p
  | _ => False
def V2.neg (p : V2) : V2 := ⟨-p.x, -p.y⟩
def Sg.neg (s : Sg) : Sg := ⟨s.A.neg, s.B.neg⟩
end Go.Fw

/- How often a row goes around a point (plain): by the sides that pass a ray, and by quarters. -/
import Derived.Test.YtmmkclefdpmjlaaPa
set_option linter.unusedSimpArgs false
set_option linter.unusedVariables false
namespace Go.Fw
open Go
def sgQ (q : Rat) : Int := if q < 0 then -1 else if 0 < q then 1 else 0
theorem sgQ_cases (q : Rat) : (q < 0 ∧ sgQ q = -1) ∨ (q = 0 ∧ sgQ q = 0) ∨ (0 < q ∧ sgQ q = 1) := by
  unfold sgQ
  by_cases h : q < 0
  · exact .inl ⟨h, by rw [if_pos h]⟩
  · by_cases k : 0 < q
    · exact .inr (.inr ⟨k, by rw [if_neg h, if_pos k]⟩)
    · exact .inr (.inl ⟨by grind, by rw [if_neg h, if_neg k]⟩)
theorem sgQ_mul (a b : Rat) : sgQ (a * b) = sgQ a * sgQ b := by
  have n1 : ∀ a b : Rat, a < 0 → 0 < b → a * b < 0 := fun a b h k => by
    have := Rat.mul_pos (a := -a) (b := b) (by grind) k
    grind
  have n2 : ∀ a b : Rat, a < 0 → b < 0 → 0 < a * b := fun a b h k => by
    have := Rat.mul_pos (a := -a) (b := -b) (by grind) (by grind)
    grind
  have n3 : ∀ a b : Rat, 0 < a → b < 0 → a * b < 0 := fun a b h k => by
    have := n1 b a k h
    grind
  have p : ∀ q : Rat, 0 < q → sgQ q = 1 := fun q h => by unfold sgQ; rw [if_neg (by grind), if_pos h]
  have m : ∀ q : Rat, q < 0 → sgQ q = -1 := fun q h => by unfold sgQ; rw [if_pos h]
  have z : sgQ 0 = 0 := by decide
  rcases sgQ_cases a with ⟨h, e⟩ | ⟨h, e⟩ | ⟨h, e⟩ <;> rcases sgQ_cases b with ⟨k, f⟩ | ⟨k, f⟩ | ⟨k, f⟩ <;> rw [e, f]
  · rw [p _ (n2 a b h k)]; rfl
  · rw [k, Rat.mul_zero, z]; rfl
  · rw [m _ (n1 a b h k)]; rfl
  · rw [h, Rat.zero_mul, z]; rfl
  · rw [h, Rat.zero_mul, z]; rfl
  · rw [h, Rat.zero_mul, z]; rfl
  · rw [m _ (n3 a b h k)]; rfl
  · rw [k, Rat.mul_zero, z]; rfl
  · rw [p _ (Rat.mul_pos h k)]; rfl
theorem sgQ_neg (a : Rat) : sgQ (-a) = -sgQ a := by
  rcases sgQ_cases a with ⟨h, e⟩ | ⟨h, e⟩ | ⟨h, e⟩ <;> rcases sgQ_cases (-a) with ⟨k, f⟩ | ⟨k, f⟩ | ⟨k, f⟩ <;> rw [e, f] <;> first | rfl | (exfalso; grind)
def sumOk (s t k : Int) : Bool := (decide (k = -1) || decide (k = 0) || decide (k = 1)) && (decide (s + t ≤ 0) || decide (k = 1)) && (decide (0 ≤ s + t) || decide (k = -1)) && (!(decide (s = 0) && decide (t = 0)) || decide (k = 0))
theorem sumOk_add (a b : Rat) : sumOk (sgQ a) (sgQ b) (sgQ (a + b)) = true := by
  rcases sgQ_cases a with ⟨h, e⟩ | ⟨h, e⟩ | ⟨h, e⟩ <;> rcases sgQ_cases b with ⟨k, f⟩ | ⟨k, f⟩ | ⟨k, f⟩ <;> rcases sgQ_cases (a + b) with ⟨l, g⟩ | ⟨l, g⟩ | ⟨l, g⟩ <;> rw [e, f, g] <;> first | rfl | (exfalso; grind)
def hiS (y : Int) (up : Bool) : Bool := decide (0 < y) || (decide (y = 0) && !up)
def wayS (a b : Int) (up : Bool) : Int := if hiS a up = false ∧ hiS b up = true then 1 else if hiS a up = true ∧ hiS b up = false then -1 else 0
def passS (a b k : Int) (up left : Bool) : Int := if 0 < wayS a b up * k ∨ (wayS a b up * k = 0 ∧ left = true) then wayS a b up else 0
def quarS (x y : Int) : Int := if 0 < x ∧ 0 ≤ y then 0 else if x ≤ 0 ∧ 0 < y then 1 else if x < 0 ∧ y ≤ 0 then 2 else 3
def turnS (qa qb k : Int) : Int :=
  let d := (qb - qa + 4) % 4
  let d := if d = 3 then -1 else d
  if d = 2 then 2 * k else d
def highS (x y : Int) : Int := if 0 < x ∧ y = 0 then 4 else quarS x y
def S3 : List Int := [-1, 0, 1]
theorem turn_signs : ∀ ax ∈ S3, ∀ ay ∈ S3, ∀ bx ∈ S3, ∀ b_y ∈ S3, ∀ k ∈ S3, ∀ n ∈ S3, sumOk (ax * b_y) (-(ay * bx)) k = true → sumOk (ax * bx) (ay * b_y) n = true → ¬ (k = 0 ∧ n ≤ 0) →
    turnS (quarS ax ay) (quarS bx b_y) k = highS bx b_y - highS ax ay + 4 * passS ay b_y k true false := by decide +kernel
theorem sgQ_in (q : Rat) : sgQ q ∈ S3 := by
  rcases sgQ_cases q with ⟨_, e⟩ | ⟨_, e⟩ | ⟨_, e⟩ <;> rw [e] <;> decide
def sx (p a : V2) : Int := sgQ (a.x - p.x)
def sy (p a : V2) : Int := sgQ (a.y - p.y)
def sk (a b p : V2) : Int := sgQ (cross a b p)
def passV (a b p : V2) (up left : Bool) : Int := passS (sy p a) (sy p b) (sk a b p) up left
def turnV (a b p : V2) : Int := turnS (quarS (sx p a) (sy p a)) (quarS (sx p b) (sy p b)) (sk a b p)
theorem turn_pass {a b p : V2} (h : ¬ (Sg.mk a b).onR p) : turnV a b p = highS (sx p b) (sy p b) - highS (sx p a) (sy p a) + 4 * passV a b p true false := by
  have e1 : cross a b p = (a.x - p.x) * (b.y - p.y) + -((a.y - p.y) * (b.x - p.x)) := by unfold cross; grind
  have e2 : dot p a b = (a.x - p.x) * (b.x - p.x) + (a.y - p.y) * (b.y - p.y) := rfl
  have h1 := sumOk_add ((a.x - p.x) * (b.y - p.y)) (-((a.y - p.y) * (b.x - p.x)))
  have h2 := sumOk_add ((a.x - p.x) * (b.x - p.x)) ((a.y - p.y) * (b.y - p.y))
  rw [← e1, sgQ_neg, sgQ_mul, sgQ_mul] at h1
  rw [← e2, sgQ_mul, sgQ_mul] at h2
  refine turn_signs _ (sgQ_in _) _ (sgQ_in _) _ (sgQ_in _) _ (sgQ_in _) _ (sgQ_in _) _ (sgQ_in (dot p a b)) h1 h2 fun ⟨k1, k2⟩ => h ⟨?_, ?_⟩
  · rcases sgQ_cases (cross a b p) with ⟨l, g⟩ | ⟨l, g⟩ | ⟨l, g⟩
    · unfold sk at k1; omega
    · exact l
    · unfold sk at k1; omega
  · rcases sgQ_cases (dot p a b) with ⟨l, g⟩ | ⟨l, g⟩ | ⟨l, g⟩
    · show dot p a b ≤ 0; grind
    · show dot p a b ≤ 0; grind
    · omega
theorem pass_signs : ∀ a ∈ S3, ∀ b ∈ S3, ∀ k ∈ S3, ∀ up : Bool, passS b a (-k) up false = -passS a b k up false := by decide +kernel
theorem sk_swap (a b p : V2) : sk b a p = -sk a b p := by
  unfold sk; rw [← sgQ_neg]; congr 1; unfold cross; grind
theorem pass_swap (a b p : V2) (up : Bool) : passV b a p up false = -passV a b p up false := by
  unfold passV; rw [sk_swap]; exact pass_signs _ (sgQ_in _) _ (sgQ_in _) _ (sgQ_in _) up
-- a sum along a row; around
section
variable {α : Type} (f g : α → α → Int)
def alongS : α → List α → Int
  | _, [] => 0
  | p, q :: r => f p q + alongS q r
def endS : α → List α → α
  | p, [] => p
  | _, q :: r => endS q r
def ringS : List α → Int
  | [] => 0
  | p :: r => alongS f p (r ++ [p])
theorem alongS_append (p : α) (l m : List α) : alongS f p (l ++ m) = alongS f p l + alongS f (endS p l) m := by
  induction l generalizing p with
  | nil => show alongS f p m = 0 + alongS f p m; omega
  | cons q r ih => show _ + alongS f q (r ++ m) = _ + alongS f q r + _; rw [ih]; show _ = _ + alongS f q r + alongS f (endS q r) m; omega
theorem endS_append (p : α) (l : List α) (q : α) : endS p (l ++ [q]) = q := by
  induction l generalizing p with
  | nil => rfl
  | cons x r ih => exact ih x
theorem alongS_one (p q : α) : alongS f p [q] = f p q := by show _ + (0 : Int) = _; omega
theorem alongS_neg (p : α) (l : List α) : alongS (fun a b => -f a b) p l = -alongS f p l := by
  induction l generalizing p with
  | nil => rfl
  | cons q r ih => show -f p q + alongS _ q r = -(f p q + alongS f q r); rw [ih]; omega
theorem ringS_neg (l : List α) : ringS (fun a b => -f a b) l = -ringS f l := by
  cases l with
  | nil => rfl
  | cons p r => exact alongS_neg f p _
theorem alongS_tele (h : α → Int) (p : α) (l : List α) : alongS (fun a b => h b - h a) p l = h (endS p l) - h p := by
  induction l generalizing p with
  | nil => show (0 : Int) = h p - h p; omega
  | cons q r ih => show h q - h p + alongS _ q r = _; rw [ih]; show _ = h (endS q r) - h p; omega
theorem ringS_tele (h : α → Int) (l : List α) : ringS (fun a b => h b - h a) l = 0 := by
  cases l with
  | nil => rfl
  | cons p r => show alongS _ p (r ++ [p]) = 0; rw [alongS_tele, endS_append]; omega
theorem alongS_add (p : α) (l : List α) : alongS (fun a b => f a b + g a b) p l = alongS f p l + alongS g p l := by
  induction l generalizing p with
  | nil => rfl
  | cons q r ih => show f p q + g p q + alongS _ q r = f p q + alongS f q r + (g p q + alongS g q r); rw [ih]; omega
theorem ringS_add (l : List α) : ringS (fun a b => f a b + g a b) l = ringS f l + ringS g l := by
  cases l with
  | nil => rfl
  | cons p r => exact alongS_add f g p _
theorem alongS_mul (c : Int) (p : α) (l : List α) : alongS (fun a b => c * f a b) p l = c * alongS f p l := by
  induction l generalizing p with
  | nil => show (0 : Int) = c * 0; rw [Int.mul_zero]
  | cons q r ih => show c * f p q + alongS _ q r = c * (f p q + alongS f q r); rw [ih, Int.mul_add]
theorem ringS_mul (c : Int) (l : List α) : ringS (fun a b => c * f a b) l = c * ringS f l := by
  cases l with
  | nil => show (0 : Int) = c * 0; rw [Int.mul_zero]
  | cons p r => exact alongS_mul f c p _
end
theorem snocInd {α : Type} {P : List α → Prop} (h0 : P []) (h1 : ∀ l a, P l → P (l ++ [a])) (l : List α) : P l := by
  have h : ∀ r : List α, P r.reverse := fun r => by
    induction r with
    | nil => exact h0
    | cons a r ih => rw [List.reverse_cons]; exact h1 _ _ ih
  have := h l.reverse
  rwa [List.reverse_reverse] at this
-- the sum over a row's sides, by their numbers
section
variable {α : Type} (d : α) (f : α → α → Int)
def sideS (l : List α) (is : List Nat) : Int := is.foldl (fun s i => s + f (l.getD i d) (l.getD ((i + 1) % l.length) d)) 0
theorem sideS_snoc (l : List α) (is : List Nat) (i : Nat) : sideS d f l (is ++ [i]) = sideS d f l is + f (l.getD i d) (l.getD ((i + 1) % l.length) d) := by
  unfold sideS; rw [List.foldl_append]; rfl
theorem getD_lt' {l : List α} {i : Nat} (h : i < l.length) : l.getD i d = l[i] := by rw [List.getD_eq_getElem?_getD, List.getElem?_eq_getElem h]; rfl
theorem endS_take (p : α) (r : List α) : ∀ k, k ≤ r.length → endS p (r.take k) = (p :: r).getD k d
  | 0, _ => rfl
  | k + 1, h => by
    rw [List.take_succ_eq_append_getElem (by omega), endS_append, getD_lt' d (by simp; omega)]
    rfl
theorem sideS_along (p : α) (r : List α) : ∀ k, k ≤ r.length → sideS d f (p :: r) (List.range k) = alongS f p (r.take k)
  | 0, _ => rfl
  | k + 1, h => by
    rw [List.range_succ, sideS_snoc, sideS_along p r k (by omega), List.take_succ_eq_append_getElem (by omega), alongS_append, alongS_one, endS_take d p r k (by omega)]
    have e : (p :: r).getD ((k + 1) % (p :: r).length) d = r[k] := by
      rw [Nat.mod_eq_of_lt (by simp; omega), getD_lt' d (by simp; omega)]; rfl
    rw [e]
theorem sideS_ring (l : List α) : sideS d f l (List.range l.length) = ringS f l := by
  cases l with
  | nil => rfl
  | cons p r =>
    rw [List.length_cons, List.range_succ, sideS_snoc, sideS_along d f p r r.length (Nat.le_refl _), List.take_length, List.length_cons, Nat.mod_self]
    show _ = alongS f p (r ++ [p])
    rw [alongS_append, alongS_one]
    have e1 := endS_take d p r r.length (Nat.le_refl _)
    rw [List.take_length] at e1
    have e0 : (p :: r).getD 0 d = p := rfl
    rw [e1, e0]
theorem sideS_congr (g : α → α → Int) (l : List α) (is : List Nat) (h : ∀ i ∈ is, f (l.getD i d) (l.getD ((i + 1) % l.length) d) = g (l.getD i d) (l.getD ((i + 1) % l.length) d)) : sideS d f l is = sideS d g l is := by
  induction is using snocInd with
  | h0 => rfl
  | h1 is i ih => rw [sideS_snoc, sideS_snoc, h i (by simp), ih fun j hj => h j (by simp [hj])]
theorem sideS_bound (b : Nat) (l : List α) (is : List Nat) (h : ∀ x y, -(b : Int) ≤ f x y ∧ f x y ≤ b) : -(b * is.length : Int) ≤ sideS d f l is ∧ sideS d f l is ≤ b * is.length := by
  induction is using snocInd with
  | h0 => exact ⟨by simp [sideS], by simp [sideS]⟩
  | h1 is i ih =>
    have := h (l.getD i d) (l.getD ((i + 1) % l.length) d)
    rw [sideS_snoc, List.length_append, List.length_singleton, Int.natCast_add, Int.mul_add]
    omega
end
end Go.Fw

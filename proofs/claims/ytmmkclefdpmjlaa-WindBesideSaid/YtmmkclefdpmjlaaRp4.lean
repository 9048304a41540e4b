/- The points beside a side's middle (plain): left and right differ by the sides there. -/
import Derived.Test.YtmmkclefdpmjlaaRp2b
import Derived.Test.YtmmkclefdpmjlaaRh1
set_option linter.unusedSimpArgs false
set_option linter.unusedVariables false
namespace Go.Fw
open Go Go.Proofs
theorem side_same : ∀ ax ∈ S3, ∀ ay ∈ S3, ∀ bx ∈ S3, ∀ b_y ∈ S3, ∀ k ∈ S3, ∀ n ∈ S3, sumOk (ax * b_y) (-(ay * bx)) k = true → sumOk (ax * bx) (ay * b_y) n = true → ¬ (k = 0 ∧ n ≤ 0) →
    passS ay b_y k true true = passS ay b_y k true false := by decide +kernel
def psiS (x y : Int) : Int := if y = 0 ∧ 0 < x then 1 else 0
theorem side_flat : ∀ ax ∈ S3, ∀ ay ∈ S3, ∀ bx ∈ S3, ∀ b_y ∈ S3, ∀ k ∈ S3, ∀ n ∈ S3, sumOk (ax * b_y) (-(ay * bx)) k = true → sumOk (ax * bx) (ay * b_y) n = true → ¬ (k = 0 ∧ n ≤ 0) →
    passS ay b_y k true false - passS ay b_y k false false = psiS ax ay - psiS bx b_y := by decide +kernel
theorem signs_of (a b p : V2) : sumOk (sx p a * sy p b) (-(sy p a * sx p b)) (sk a b p) = true ∧ sumOk (sx p a * sx p b) (sy p a * sy p b) (sgQ (dot p a b)) = true := by
  have e1 : cross a b p = (a.x - p.x) * (b.y - p.y) + -((a.y - p.y) * (b.x - p.x)) := by unfold cross; grind
  have e2 : dot p a b = (a.x - p.x) * (b.x - p.x) + (a.y - p.y) * (b.y - p.y) := rfl
  have h1 := sumOk_add ((a.x - p.x) * (b.y - p.y)) (-((a.y - p.y) * (b.x - p.x)))
  have h2 := sumOk_add ((a.x - p.x) * (b.x - p.x)) ((a.y - p.y) * (b.y - p.y))
  rw [← e1, sgQ_neg, sgQ_mul, sgQ_mul] at h1
  rw [← e2, sgQ_mul, sgQ_mul] at h2
  exact ⟨h1, h2⟩
theorem sgQ_zero {q : Rat} : sgQ q = 0 ↔ q = 0 := by
  rcases sgQ_cases q with ⟨h, e⟩ | ⟨h, e⟩ | ⟨h, e⟩ <;> rw [e] <;> constructor <;> intro k <;> first | exact h | (exfalso; grind) | rfl | omega
theorem sgQ_np {q : Rat} : sgQ q ≤ 0 ↔ q ≤ 0 := by
  rcases sgQ_cases q with ⟨h, e⟩ | ⟨h, e⟩ | ⟨h, e⟩ <;> rw [e] <;> constructor <;> intro k <;> first | (exfalso; grind) | grind | omega
theorem sgQ_pos {q : Rat} : sgQ q = 1 ↔ 0 < q := by
  rcases sgQ_cases q with ⟨h, e⟩ | ⟨h, e⟩ | ⟨h, e⟩ <;> rw [e] <;> constructor <;> intro k <;> first | exact h | (exfalso; grind) | rfl | omega
theorem sgQ_neg1 {q : Rat} : sgQ q = -1 ↔ q < 0 := by
  rcases sgQ_cases q with ⟨h, e⟩ | ⟨h, e⟩ | ⟨h, e⟩ <;> rw [e] <;> constructor <;> intro k <;> first | exact h | (exfalso; grind) | rfl | omega
theorem on_signs (a b p : V2) : (Sg.mk a b).on p ↔ (sk a b p = 0 ∧ sgQ (dot p a b) ≤ 0) := by
  rw [on_onR]
  unfold Sg.onR sk
  rw [sgQ_zero, sgQ_np]
theorem pass_same {a b p : V2} (h : ¬ (Sg.mk a b).on p) : passV a b p true true = passV a b p true false := by
  obtain ⟨h1, h2⟩ := signs_of a b p
  exact side_same _ (sgQ_in _) _ (sgQ_in _) _ (sgQ_in _) _ (sgQ_in _) _ (sgQ_in _) _ (sgQ_in (dot p a b)) h1 h2 (fun k => h ((on_signs a b p).2 k))
theorem pass_flat {a b p : V2} (h : ¬ (Sg.mk a b).on p) : passV a b p true false - passV a b p false false = psiS (sx p a) (sy p a) - psiS (sx p b) (sy p b) := by
  obtain ⟨h1, h2⟩ := signs_of a b p
  exact side_flat _ (sgQ_in _) _ (sgQ_in _) _ (sgQ_in _) _ (sgQ_in _) _ (sgQ_in _) _ (sgQ_in (dot p a b)) h1 h2 (fun k => h ((on_signs a b p).2 k))
def cmpV (a b : V2) : Int := if lexLt a b then -1 else if lexLt b a then 1 else 0
theorem lex_dec {a b : V2} : cmpV a b = -1 ↔ lexLt a b := by
  unfold cmpV
  by_cases h : lexLt a b
  · rw [if_pos h]; exact ⟨fun _ => h, fun _ => rfl⟩
  · rw [if_neg h]
    by_cases k : lexLt b a
    · rw [if_pos k]; exact ⟨fun e => by omega, fun e => absurd e h⟩
    · rw [if_neg k]; exact ⟨fun e => by omega, fun e => absurd e h⟩
theorem cmpV_cases {a b : V2} (h : a ≠ b) : (lexLt a b ∧ ¬ lexLt b a ∧ cmpV a b = -1) ∨ (lexLt b a ∧ ¬ lexLt a b ∧ cmpV a b = 1) := by
  rcases lexLt_tri a b with k | k | k
  · exact .inl ⟨k, fun l => lexLt_irrefl (lexLt_trans k l), lex_dec.2 k⟩
  · exact absurd k h
  · have hn : ¬ lexLt a b := fun l => lexLt_irrefl (lexLt_trans k l)
    refine .inr ⟨k, hn, ?_⟩
    unfold cmpV
    rw [if_neg hn, if_pos k]
structure Along (a b m A B : V2) : Prop where
  ab : a ≠ b
  hA : cross a b A = 0
  hB : cross a b B = 0
  hm : cross a b m = 0
  on : (Sg.mk A B).on m
  nA : A ≠ m
  nB : B ≠ m
theorem Along.part {a b m A B : V2} (h : Along a b m A B) : ∃ l, 0 < l ∧ l < 1 ∧ m = (Sg.mk A B).pt l := by
  obtain ⟨l, h1, h2, h3⟩ := (on_iff _ _).1 h.on
  refine ⟨l, ?_, ?_, h3⟩
  · by_cases k : l = 0
    · subst k; rw [pt_zero] at h3; exact absurd h3.symm h.nA
    · grind
  · by_cases k : l = 1
    · subst k; rw [pt_one] at h3; exact absurd h3.symm h.nB
    · grind
end Go.Fw

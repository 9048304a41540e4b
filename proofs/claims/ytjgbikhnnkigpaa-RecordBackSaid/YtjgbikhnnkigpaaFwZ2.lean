/- The walk's steps by name: what stands behind, blocks, loops. -/
import Derived.Test.YtjgbikhnnkigpaaFwZ
set_option linter.unusedSimpArgs false
set_option linter.unusedVariables false
namespace Go.Fw
open Go Go.RowKit

section
variable {P : Program} {nt : Nat} {y : Code} {Q : Exit → AS → Prop} {s : AS}

theorem thenW_n (h : W P nt y s Q) : thenW P nt y Q .normal s := h
theorem thenW_ret (h : Q .ret s) : thenW P nt y Q .ret s := h
theorem thenW_exit {i : Nat} (h : Q (.exit i) s) : thenW P nt y Q (.exit i) s := h
theorem thenW_panic {l : List PanicEntry} (h : Q (.panic l) s) : thenW P nt y Q (.panic l) s := h
theorem blockW_n {id : Nat} (h : Q .normal s) : blockW id Q .normal s := h
theorem blockW_ret {id : Nat} (h : Q .ret s) : blockW id Q .ret s := h
theorem blockW_panic {id : Nat} {l : List PanicEntry} (h : Q (.panic l) s) : blockW id Q (.panic l) s := h
theorem blockW_same {id : Nat} (h : Q .normal s) : blockW id Q (.exit id) s := by simp [blockW, h]
theorem blockW_other {id i : Nat} (hi : (i == id) = false) (h : Q (.exit i) s) : blockW id Q (.exit i) s := by
  have : i ≠ id := by simpa using hi
  simp [blockW, h, this]

/-- What is asked at a round's end. -/
def loopW {X : Type} (env : X → List (Nat × AV)) (box : X → List (Nat × Box)) (μ : X → Nat) (I : X → Prop) (x : X) (Q : Exit → AS → Prop) : Exit → AS → Prop
  | .normal, s' => ∃ x', μ x' < μ x ∧ I x' ∧ ∃ ρ, Wk s' (env x') (box x') ρ
  | e, s' => Q e s'

variable {X : Type} {env : X → List (Nat × AV)} {box : X → List (Nat × Box)} {μ : X → Nat} {I : X → Prop} {x : X}
theorem loopW_n (x' : X) (ρ : Nat → Nat) (h1 : μ x' < μ x) (h2 : I x') (h3 : Wk s (env x') (box x') ρ) : loopW env box μ I x Q .normal s := ⟨x', h1, h2, ρ, h3⟩
theorem loopW_ret (h : Q .ret s) : loopW env box μ I x Q .ret s := h
theorem loopW_exit {i : Nat} (h : Q (.exit i) s) : loopW env box μ I x Q (.exit i) s := h
theorem loopW_panic {l : List PanicEntry} (h : Q (.panic l) s) : loopW env box μ I x Q (.panic l) s := h

@[congr] theorem thenW_congr {e : Exit} {s' : AS} (h : s = s') : thenW P nt y Q e s = thenW P nt y Q e s' := by rw [h]
@[congr] theorem blockW_congr {id : Nat} {e : Exit} {s' : AS} (h : s = s') : blockW id Q e s = blockW id Q e s' := by rw [h]
@[congr] theorem loopW_congr {e : Exit} {s' : AS} (h : s = s') : loopW env box μ I x Q e s = loopW env box μ I x Q e s' := by rw [h]
@[congr] theorem post_congr {fn : Func} {out : Out} {e : Exit} {s' : AS} (h : s = s') : post P fn out e s = post P fn out e s' := by rw [h]

theorem W_loopW {c : Code} (env : X → List (Nat × AV)) (box : X → List (Nat × Box)) (μ : X → Nat) (I : X → Prop) (x0 : X) (ρ0 : Nat → Nat) (h0 : I x0) (hs : Wk s (env x0) (box x0) ρ0)
    (round : ∀ x, I x → W P nt c (mkS (env x) (box x)) (loopW env box μ I x Q)) : W P nt (.loop c) s Q := by
  refine W_loop env box μ I x0 ρ0 h0 hs fun x hx => W_mono (round x hx) fun e s' h => ?_
  cases e <;> exact h

/-- What is asked where ways join. -/
def joinW (P : Program) (nt : Nat) (y : Code) {X : Type} (env : X → List (Nat × AV)) (box : X → List (Nat × Box)) (I : X → Prop) (Q : Exit → AS → Prop) : Exit → AS → Prop
  | .normal, s' => ∃ p, I p ∧ ∃ ρ, Wk s' (env p) (box p) ρ
  | e, s' => Q e s'
theorem joinW_n {I : X → Prop} (p : X) (ρ : Nat → Nat) (h1 : I p) (h2 : Wk s (env p) (box p) ρ) : joinW P nt y env box I Q .normal s := ⟨p, h1, ρ, h2⟩
theorem joinW_ret (h : Q .ret s) : joinW P nt y env box I Q .ret s := h
theorem joinW_exit {i : Nat} (h : Q (.exit i) s) : joinW P nt y env box I Q (.exit i) s := h
theorem joinW_panic {l : List PanicEntry} (h : Q (.panic l) s) : joinW P nt y env box I Q (.panic l) s := h
@[congr] theorem joinW_congr {I : X → Prop} {e : Exit} {s' : AS} (h : s = s') : joinW P nt y env box I Q e s = joinW P nt y env box I Q e s' := by rw [h]
theorem W_joinW {c : Code} (env : X → List (Nat × AV)) (box : X → List (Nat × Box)) (I : X → Prop) (hx : W P nt c s (joinW P nt y env box I Q))
    (hy : ∀ p, I p → W P nt y (mkS (env p) (box p)) Q) : W P nt (.seq c y) s Q := by
  refine W_join env box I (W_mono hx fun e s' h => ?_) hy
  cases e <;> exact h
/-- ..where a condition has put two ways: told behind it. -/
theorem W_joinQ {c : Code} (env : X → List (Nat × AV)) (box : X → List (Nat × Box)) (I : X → Prop) (hx : W P nt c s (joinW P nt y env box I (thenW P nt y Q)))
    (hy : ∀ p, I p → W P nt y (mkS (env p) (box p)) Q) : W P nt c s (thenW P nt y Q) := by
  refine W_mono hx fun e s' h => ?_
  cases e with
  | normal =>
    obtain ⟨p, hp, ρ, hw⟩ := h
    exact W_wk _ _ ρ hw (hy p hp)
  | _ => exact h

theorem W_cond_t {c : Operand} {a b : Code} (hc : s.val c = .v (.bool true)) (h : W P nt a s Q) : W P nt (.cond c a b) s Q := W_cond hc (fun _ => h) (fun h => by cases h)
theorem W_cond_f {c : Operand} {a b : Code} (hc : s.val c = .v (.bool false)) (h : W P nt b s Q) : W P nt (.cond c a b) s Q := W_cond hc (fun h => by cases h) (fun _ => h)

theorem W_id {c : Code} (h : W P nt c s Q) : W P nt c s Q := h
/-- A choice, its condition told. -/
def condW (v : AV) (A B : Prop) : Prop := ∃ b : Bool, v = .v (.bool b) ∧ (b = true → A) ∧ (b = false → B)
@[congr] theorem condW_congr {v v' : AV} {A B : Prop} (h : v = v') : condW v A B = condW v' A B := by rw [h]
theorem condW_true (A B : Prop) : condW (.v (.bool true)) A B = A := by simp [condW]
theorem condW_false (A B : Prop) : condW (.v (.bool false)) A B = B := by simp [condW]
theorem condW_b {b : Bool} {A B : Prop} (ht : b = true → A) (hf : b = false → B) : condW (.v (.bool b)) A B := ⟨b, rfl, ht, hf⟩
theorem W_condW {c : Operand} {a b : Code} (h : condW (s.val c) (W P nt a s Q) (W P nt b s Q)) : W P nt (.cond c a b) s Q := by
  obtain ⟨x, h1, h2, h3⟩ := h
  exact W_cond h1 h2 h3

/-- At a body's end, with what is handed over told. -/
theorem post_of {fn : Func} {out r v : AV} (h1 : resAV P s fn.results.toList = some r) (h2 : closeV s.box (resD s.box r) = some v) (h3 : v = out) (h4 : (resD s.box r).refs.Nodup) : post P fn (.ret out) .ret s := by
  subst h3
  exact ⟨r, h1, _, h2, rfl, h4⟩
end

/-! A state that is told whole stays shut. -/
theorem mkS_env (env : List (Nat × AV)) (box : List (Nat × Box)) (t : Nat) : (mkS env box).env t = (lk env t).getD .junk := rfl
theorem mkS_box (env : List (Nat × AV)) (box : List (Nat × Box)) (i : Nat) : (mkS env box).box i = lk box i := rfl
theorem mkS_used (env : List (Nat × AV)) (box : List (Nat × Box)) (i : Nat) : (mkS env box).used i = (i ∈ box.map (·.1) ∨ 1000000 ≤ i) := rfl
theorem entry_env (args : List AV) (t : Nat) : (entry args).env t = (args[t]?).getD (.tup []) := rfl
theorem entry_box (args : List AV) (i : Nat) : (entry args).box i = none := rfl
theorem entry_used (args : List AV) (i : Nat) : (entry args).used i = (1000000 ≤ i) := rfl
end Go.Fw

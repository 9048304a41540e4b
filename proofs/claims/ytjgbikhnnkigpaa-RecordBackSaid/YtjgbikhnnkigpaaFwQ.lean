/- Sequences with what stands behind put aside; joins. -/
import Derived.Test.YtjgbikhnnkigpaaFwP
import Derived.IntWalk
set_option linter.unusedSimpArgs false
set_option linter.unusedVariables false
namespace Go.Fw
open Go Go.RowKit

section
variable {P : Program} {C : Ctx} {M : Mem} {β : Loc} {s : AS} {w : World} {nt : Nat} {a : Act} {Q : Exit → AS → Prop}

theorem W_seq_k {x y : Code} (h : ∀ K : Exit → AS → Prop, (∀ s', W P nt y s' Q → K .normal s') → (∀ e s', e ≠ .normal → Q e s' → K e s') → W P nt x s K) : W P nt (.seq x y) s Q :=
  W_seq (h _ (fun _ h => h) (fun e s' he h => by cases e <;> first | exact absurd rfl he | exact h))

/-- Behind a piece of code the states are told by a parameter. -/
theorem W_join {x y : Code} {X : Type} (env : X → List (Nat × AV)) (box : X → List (Nat × Box)) (I : X → Prop)
    (hx : W P nt x s (fun e s' => match e with
      | .normal => ∃ p, I p ∧ ∃ ρ, Wk s' (env p) (box p) ρ
      | e => Q e s'))
    (hy : ∀ p, I p → W P nt y (mkS (env p) (box p)) Q) : W P nt (.seq x y) s Q := by
  refine W_seq (W_mono hx fun e s' h => ?_)
  cases e with
  | normal =>
    obtain ⟨p, hp, ρ, hw⟩ := h
    exact W_wk _ _ ρ hw (hy p hp)
  | _ => exact h

theorem W_block_k {id : Nat} {c : Code} (h : ∀ K : Exit → AS → Prop, (∀ s', Q .normal s' → K .normal s') → (∀ s', Q .normal s' → K (.exit id) s') → (∀ i s', i ≠ id → Q (.exit i) s' → K (.exit i) s') → (∀ s', Q .ret s' → K .ret s') →
    (∀ l s', Q (.panic l) s' → K (.panic l) s') → W P nt c s K) : W P nt (.block id c) s Q := by
  refine W_block (h (blockW id Q) ?_ ?_ ?_ ?_ ?_) <;> simp only [blockW] <;> intros <;> simp_all
end

theorem strOf_map (l : List UInt8) : strOf (l.map byteV) = ⟨l.toArray⟩ := by simp [strOf, Function.comp_def, byteV, AV.byte]
theorem take_byteV (l : List UInt8) (m : Nat) : (l.map byteV).take m = (l.take m).map byteV := by rw [List.map_take]
theorem drop_byteV (l : List UInt8) (m : Nat) : (l.map byteV).drop m = (l.drop m).map byteV := by rw [List.map_drop]
theorem strOf_take (l : List UInt8) (m : Nat) : strOf ((l.map byteV).take m) = ⟨(l.take m).toArray⟩ := by rw [← List.map_take, strOf_map]
theorem strOf_drop (l : List UInt8) (m : Nat) : strOf ((l.map byteV).drop m) = ⟨(l.drop m).toArray⟩ := by rw [← List.map_drop, strOf_map]
theorem all_isByte (l : List UInt8) : (l.map byteV).all AV.isByte = true := by simp [List.all_eq_true, byteV, AV.isByte]
theorem u8_zero {c : UInt8} : ((c.toNat : Int) == 0) = (c == 0) := by
  by_cases h : c = 0
  · subst h; rfl
  · have : c.toNat ≠ 0 := fun h' => h (UInt8.toNat_inj.1 h')
    have h2 : (c == 0) = false := by simpa using h
    rw [h2]
    simpa using this

@[congr] theorem optK_congr {α : Type} {x y : Option α} {k : α → Prop} (h : x = y) : optK x k = optK y k := by rw [h]
@[congr] theorem CallG_congr {P : Program} {f f' : AV} {l l' : List AV} {s : AS} {K : Out → AS → Prop} (h : f = f') (h2 : l = l') : CallG P f l s K = CallG P f' l' s K := by rw [h, h2]
@[congr] theorem CallV_congr {P : Program} {f : FuncId} {l l' : List AV} {s : AS} {K : Out → AS → Prop} (h2 : l = l') : CallV P f l s K = CallV P f l' s K := by rw [h2]

theorem gOn_none (ops : List Oper) (o : Oper) (s : AS) (h : o.guard = none) : gOn ops o s = some true := by simp [gOn, h]

@[simp] theorem isByte_u8 (n : Int) : (AV.v (.int .u8 n)).isByte = true := rfl
@[simp] theorem byteV_isCell (c : UInt8) : (byteV c).isCell = true := rfl
@[simp] theorem refsL_bytes (l : List UInt8) : refsL (l.map byteV) = [] := by
  induction l with
  | nil => rfl
  | cons a l ih => simp [refsL, AV.refs, byteV, ih]
@[simp] theorem refsL_nil : refsL [] = [] := rfl
@[simp] theorem refsL_append (l l' : List AV) : refsL (l ++ l') = refsL l ++ refsL l' := by
  induction l with
  | nil => rfl
  | cons a l ih => simp [refsL, ih]
@[simp] theorem refsL_cons (a : AV) (l : List AV) : refsL (a :: l) = a.refs ++ refsL l := rfl
@[simp] theorem byteV_refs (c : UInt8) : (byteV c).refs = [] := rfl

end Go.Fw

/- What an operation comes to hangs on its operands alone. -/
import Derived.Test.YtjgbikhnnkigpaaFwR
set_option linter.unusedSimpArgs false
set_option linter.unusedVariables false
namespace Go.Fw
open Go Go.RowKit

section
variable {P : Program} {s s' : AS}

theorem mem_agree {v : AV} (hb : ∀ id ∈ v.refs, s.box id = s'.box id) : s.mem v = s'.mem v := by
  cases v <;> simp only [AS.mem]
  rename_i id off
  rw [hb id (by simp [AV.refs])]

theorem elems_agree {z : Nat} {v : AV} (hb : ∀ id ∈ v.refs, s.box id = s'.box id) : s.elems z v = s'.elems z v := by
  unfold AS.elems
  split
  · rfl
  · rename_i id z' off n
    rw [hb id (by simp [AV.refs])]
  · rfl
  · rfl

theorem appDest_agree {e z : Nat} {v : AV} (hb : ∀ id ∈ v.refs, s.box id = s'.box id) : appDest s e z v = appDest s' e z v := by
  unfold appDest
  split
  · rename_i id z' off n
    rw [hb id (by simp [AV.refs])]
  · rfl
  · rfl
  · rfl

theorem conv_agree {a b : TypeId} {v : AV} (hb : ∀ id ∈ v.refs, s.box id = s'.box id) : evConv P s a b v = evConv P s' a b v := by
  unfold evConv
  split
  · rfl
  · rfl
  · rw [elems_agree hb]

theorem map_agree {xs : Array Operand} (hv : ∀ x ∈ xs, s.val x = s'.val x) : xs.toList.map s.val = xs.toList.map s'.val :=
  List.map_congr_left fun x hx => hv x (by simpa using hx)

theorem pairs_agree {ps : Array (Nat × Operand)} (hv : ∀ x ∈ ps.map (·.2), s.val x = s'.val x) : (ps.toList.map fun p => (p.1, s.val p.2)) = ps.toList.map fun p => (p.1, s'.val p.2) :=
  List.map_congr_left fun p hp => by rw [hv p.2 (Array.mem_map.2 ⟨p, by simpa using hp, rfl⟩)]

theorem append_agree {d : Nat} {args : List AV} {ts : List TypeId} (hb : ∀ v ∈ args, ∀ id ∈ v.refs, s.box id = s'.box id) : evAppend P s d args ts = evAppend P s' d args ts := by
  unfold evAppend
  split
  · rename_i x y t u
    have h1 := fun e z => appDest_agree (s := s) (s' := s') (e := e) (z := z) (hb x (by simp))
    have h2 := fun z => elems_agree (s := s) (s' := s') (z := z) (hb y (by simp))
    simp only [h1, h2]
  · rfl

theorem evPure_agree {op : Op} (hv : ∀ x ∈ op.operands, s.val x = s'.val x) (hb : ∀ x ∈ op.operands, ∀ id ∈ (s'.val x).refs, s.box id = s'.box id) : evPure P s op = evPure P s' op := by
  cases op <;> simp only [Op.operands] at hv hb <;> simp only [evPure]
  case call c =>
    split
    · rename_i b hc
      have : c.args.toList.map s.val = c.args.toList.map s'.val := map_agree fun x hx => hv x (by simp [Call.operands, hx])
      rw [this]
    · rfl
  case makeFunc fn first caps =>
    have : caps.toList.map s.val = caps.toList.map s'.val := map_agree fun x hx => hv x (by simp [hx])
    cases fn <;> simp only [] <;> rw [this]
  case build t ps => rw [pairs_agree fun x hx => hv x (by simpa using hx)]
  case load t p =>
    have h1 := hv p (by simp)
    rw [h1, mem_agree (hb p (by simp))]
  case convert src dst x =>
    have h1 := hv x (by simp)
    rw [h1, conv_agree (hb x (by simp))]
  case slice t x lo hi mx =>
    have h0 := hv x (by simp)
    have h1 : lo.map s.val = lo.map s'.val := by cases lo with | none => rfl | some y => simp [hv y (by simp)]
    have h2 : hi.map s.val = hi.map s'.val := by cases hi with | none => rfl | some y => simp [hv y (by simp)]
    have h3 : mx.map s.val = mx.map s'.val := by cases mx with | none => rfl | some y => simp [hv y (by simp)]
    rw [h0, h1, h2, h3]
  all_goals (first | rfl | (simp_all; done))

theorem evMem_agree {dst : Option Nat} {op : Op} (hv : ∀ x ∈ op.operands, s.val x = s'.val x) (hb : ∀ x ∈ op.operands, ∀ id ∈ (s'.val x).refs, s.box id = s'.box id) : evMem P s dst op = evMem P s' dst op := by
  cases op <;> simp only [Op.operands] at hv hb <;> simp only [evMem]
  case call c =>
    split
    · rename_i hc
      have : c.args.toList.map s.val = c.args.toList.map s'.val := map_agree fun x hx => hv x (by simp [Call.operands, hx])
      rw [this]
      refine append_agree fun v hvm => ?_
      obtain ⟨x, hx, rfl⟩ := List.mem_map.1 hvm
      exact hb x (by simp [Call.operands, (show x ∈ c.args by simpa using hx)])
    · rfl
  case buildSlice t n ps => rw [pairs_agree fun x hx => hv x (by simpa using hx)]
  case store t p x =>
    have h1 := hv p (by simp)
    have h2 := hv x (by simp)
    rw [h1, h2]
    have hb1 := hb p (by simp)
    generalize s'.val p = v at *
    generalize (s'.val x).cells? = cs
    cases dst <;> cases v <;> cases cs <;> try rfl
    rename_i id off cs
    simp only [hb1 id (by simp [AV.refs])]
  all_goals (first | rfl | (simp_all; done))
end

end Go.Fw

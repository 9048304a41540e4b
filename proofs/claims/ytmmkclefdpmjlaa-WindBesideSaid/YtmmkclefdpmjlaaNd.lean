/- Scopes; what may be done with a state ahead of a call: boxes frozen, cells looked at anew. -/
import Derived.Test.YtmmkclefdpmjlaaNb
import Derived.Scope
set_option linter.unusedSimpArgs false
set_option linter.unusedVariables false
namespace Go.Fw
open Go Go.RowKit
def scopeW (Q : Exit → AS → Prop) : Exit → AS → Prop
  | .goto _, _ => False
  | e, s => Q e s
section
variable {P : Program} {nt : NT} {Q : Exit → AS → Prop} {s : AS}
@[congr] theorem scopeW_congr {e : Exit} {s' : AS} (h : s = s') : scopeW Q e s = scopeW Q e s' := by rw [h]
theorem stepR_scope {b : Frame} {a : Act} {k : List Item} {cs : List Frame} {w : World} {c : Code} : step P (lone (b.atR a (.code (.scope c) :: k)) cs w) = .next (lone (b.atR a (.code c :: .inScope c :: k)) cs w) :=
  step_lone_go (by simp [stepG, stepG.exec, Frame.atR])
def Later (s s' : AS) : Prop := ∀ (C : Ctx) (M : Mem) (β : Loc) (w : World) (nt : NT) (a : Act), Rel C M β s w → Slots nt M β s a → ∃ M', MemLe M M' ∧ Rel C M' β s' w ∧ Slots nt M' β s' a
theorem Later.refl (s : AS) : Later s s := fun _ M _ _ _ _ h k => ⟨M, MemLe.refl M, h, k⟩
theorem Later.trans {s1 s2 s3 : AS} (h : Later s1 s2) (k : Later s2 s3) : Later s1 s3 := fun C M β w nt a hR hS => by
  obtain ⟨M1, m1, h1, h2⟩ := h C M β w nt a hR hS
  obtain ⟨M2, m2, h3, h4⟩ := k C M1 β w nt a h1 h2
  exact ⟨M2, m1.trans m2, h3, h4⟩
end
end Go.Fw

/- Scopes; what may be done with a state ahead of a call: boxes frozen, cells looked at anew. -/
import Derived.Test.YtmmkclefdpmjlaaNb
import Derived.Scope
set_option linter.unusedSimpArgs false
set_option linter.unusedVariables false
namespace Go.Fw
open Go Go.RowKit
def scopeW (Q : Exit → AS → Prop) : Exit → AS → Prop
  | .goto _, _ => False
  | e, s => Q e s
section
variable {P : Program} {nt : NT} {Q : Exit → AS → Prop} {s : AS}
theorem scopeW_n (h : Q .normal s) : scopeW Q .normal s := h
theorem scopeW_ret (h : Q .ret s) : scopeW Q .ret s := h
theorem scopeW_exit {i : Nat} (h : Q (.exit i) s) : scopeW Q (.exit i) s := h
theorem scopeW_panic {l : List PanicEntry} (h : Q (.panic l) s) : scopeW Q (.panic l) s := h
@[congr] theorem scopeW_congr {e : Exit} {s' : AS} (h : s = s') : scopeW Q e s = scopeW Q e s' := by rw [h]
theorem stepR_scope {b : Frame} {a : Act} {k : List Item} {cs : List Frame} {w : World} {c : Code} : step P (lone (b.atR a (.code (.scope c) :: k)) cs w) = .next (lone (b.atR a (.code c :: .inScope c :: k)) cs w) :=
  step_lone_go (by simp [stepG, stepG.exec, Frame.atR])
theorem stepR_inScope {b : Frame} {a : Act} {k : List Item} {cs : List Frame} {w : World} {c : Code} : step P (lone (b.atR a (.inScope c :: k)) cs w) = .next (lone (b.atR a k) cs w) :=
  step_lone_go (by simp [stepG, stepG.exec, Frame.atR])
theorem wpIn_scope_straight {F : Fence} {n : Nat} {Q : Exit → Act → World → Prop} {a : Act} {w : World} {c : Code} (h : c.wpIn F n P (Exit.noGoto Q) a w) : (Code.scope c).wpIn F n P Q a w := by
  intro b k cs hro hb hr
  have h0 : (lone (b.atR a (.code (.scope c) :: k)) cs w).fenced P F := fenced_calm hb hr rfl
  obtain ⟨e, a₁, w₁, hq, harr⟩ := h b (.inScope c :: k) cs hro hb hr
  cases e with
  | normal => exact ⟨.normal, a₁, w₁, hq, .head h0 stepR_scope (StepsIn.trans harr (.one (fenced_calm hb hr rfl) stepR_inScope))⟩
  | exit id => exact ⟨.exit id, a₁, w₁, hq, fun k' hk => .head h0 stepR_scope (harr.1 k' (by simp [exitTo, hk])), fun h1 h2 => by
      obtain ⟨k₁, h3, h4⟩ := harr.2 h1 (by simp [exitTo, h2])
      exact ⟨k₁, h3, .head h0 stepR_scope h4⟩⟩
  | goto l => exact hq.elim
  | ret => exact ⟨_, a₁, w₁, hq, .of_steps (.one h0 stepR_scope) harr⟩
  | panic ch => exact ⟨_, a₁, w₁, hq, .of_steps (.one h0 stepR_scope) harr⟩
  | outgrown => exact ⟨_, a₁, w₁, hq, .of_steps (.one h0 stepR_scope) harr⟩
theorem W_scope {c : Code} (h : W P nt c s (scopeW Q)) : W P nt (.scope c) s Q := by
  intro C M β a w hR hS
  refine wpIn_scope_straight (wpIn_mono (h C M β a w hR hS) ?_)
  rintro e a' w' ⟨s', M', β', hq, h1, h2⟩
  cases e with
  | goto l => exact hq.elim
  | normal => exact ⟨s', M', β', hq, h1, h2⟩
  | ret => exact ⟨s', M', β', hq, h1, h2⟩
  | exit i => exact ⟨s', M', β', hq, h1, h2⟩
  | panic l => exact ⟨s', M', β', hq, h1, h2⟩
  | outgrown => exact ⟨s', M', β', hq, h1, h2⟩
def Later (s s' : AS) : Prop := ∀ (C : Ctx) (M : Mem) (β : Loc) (w : World) (nt : NT) (a : Act), Rel C M β s w → Slots nt M β s a → ∃ M', MemLe M M' ∧ Rel C M' β s' w ∧ Slots nt M' β s' a
theorem Later.refl (s : AS) : Later s s := fun _ M _ _ _ _ h k => ⟨M, MemLe.refl M, h, k⟩
theorem Later.trans {s1 s2 s3 : AS} (h : Later s1 s2) (k : Later s2 s3) : Later s1 s3 := fun C M β w nt a hR hS => by
  obtain ⟨M1, m1, h1, h2⟩ := h C M β w nt a hR hS
  obtain ⟨M2, m2, h3, h4⟩ := k C M1 β w nt a h1 h2
  exact ⟨M2, m1.trans m2, h3, h4⟩
theorem CallV_later {f : FuncId} {args : List AV} {s' : AS} {K : Out → AS → Prop} (h : Later s s') (hc : CallV P f args s' K) : CallV P f args s K := by
  intro C nt M β a w vs hR hS hvs hrep
  obtain ⟨M', m1, hR', hS'⟩ := h C M β w nt a hR hS
  exact hc C nt M' β a w vs hR' hS' hvs (RepT.mono m1 _ _ _ (fun _ _ => rfl) hrep)
theorem CallG_later {f : FuncId} {caps args : List AV} {s' : AS} {K : Out → AS → Prop} (h : Later s s') (hc : CallG P (.fn f caps) args s' K) : CallG P (.fn f caps) args s K := CallV_later h hc
theorem W_later {c : Code} {s' : AS} (h : Later s s') (hc : W P nt c s' Q) : W P nt c s Q := by
  intro C M β a w hR hS
  obtain ⟨M', _, hR', hS'⟩ := h C M β w nt a hR hS
  exact hc C M' β a w hR' hS'
theorem later_frz (F : List Nat) (hF : frzOk F s) : Later s (frzS F s) := fun C M β w nt a hR hS => by
  obtain ⟨M', m1, h1, h2, _⟩ := frzS_ok (C := C) (β := β) (w := w) (nt := nt) (a := a) F s M hF hR hS
  exact ⟨M', m1, h1, h2⟩
theorem later_frz1 (id : Nat) {e : TypeId} {l : List AV} (hb : s.box id = some (.mut e l)) (hr : refsL l = []) : Later s { s with box := upd s.box id (some (.frz l)) } := by
  have h := later_frz (s := s) [id] (by refine ⟨?_, trivial⟩; rw [hb]; exact hr)
  simp only [frzS, hb] at h
  exact h
theorem later_res (id : Nat) {e : TypeId} {l : List AV} (hb : s.box id = some (.mut e l)) (l' : List AV) (hl : resDL s.box l = l') : Later s { s with box := upd s.box id (some (.mut e l')) } := by
  subst hl
  intro C M β w nt a hR hS
  have hlen := resDL_length s.box l
  refine ⟨M, MemLe.refl M, ⟨hR.mem, hR.le, hR.mnew, ?_, ?_, ?_, ?_, ?_, ?_, hR.os, hR.tape, hR.output, hR.size, hR.keep, hR.pin⟩, ⟨hS.dfr, hS.size, hS.slot, hS.refE⟩⟩
  · intro i e1 l1 hi j hj
    simp only [upd] at hi
    split at hi
    · rename_i he
      subst he
      cases hi
      rcases hR.mutb i e l hb with ⟨_, k2⟩ | ⟨b, cs, k1, k2, k3, k4, k5, k6⟩
      · subst k2; cases hj
      · exact (resDL_at hR l cs 0 k3 (hR.refB i e l hb)).2 j hj
    · exact hR.refB i e1 l1 hi j hj
  · intro i hi
    simp only [upd] at hi
    split at hi
    · rename_i he; subst he; exact hR.useB i (by rw [hb]; simp)
    · exact hR.useB i hi
  · intro i e1 l1 hi
    simp only [upd] at hi
    split at hi
    · rename_i he
      subst he
      cases hi
      rcases hR.mutb i e l hb with ⟨k1, k2⟩ | ⟨b, cs, k1, k2, k3, k4, k5, k6⟩
      · subst k2; exact .inl ⟨k1, rfl⟩
      · exact .inr ⟨b, cs, k1, k2, (resDL_at hR l cs 0 k3 (hR.refB i e l hb)).1, by rw [hlen]; exact k4, k5, k6⟩
    · exact hR.mutb i e1 l1 hi
  · intro i l1 hi
    simp only [upd] at hi
    split at hi
    · cases hi
    · exact hR.frzb i l1 hi
  · intro i l1 hi
    simp only [upd] at hi
    split at hi
    · cases hi
    · exact hR.frzr i l1 hi
  · intro i j e1 e2 l1 l2 b n n' hi hj
    have key : ∀ i e1 l1, upd s.box id (some (Box.mut e (resDL s.box l))) i = some (.mut e1 l1) → ∃ e2 l2, s.box i = some (.mut e2 l2) := by
      intro i e1 l1 h1
      simp only [upd] at h1
      split at h1
      · rename_i he; subst he; exact ⟨_, _, hb⟩
      · exact ⟨_, _, h1⟩
    obtain ⟨_, _, g1⟩ := key i e1 l1 hi
    obtain ⟨_, _, g2⟩ := key j e2 l2 hj
    exact hR.inj i j _ _ _ _ b n n' g1 g2
end
end Go.Fw

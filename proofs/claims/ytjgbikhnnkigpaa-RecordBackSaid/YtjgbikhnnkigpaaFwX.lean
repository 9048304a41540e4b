/- Calls by what they come to, in regions whose order is the text's. -/
import Derived.Test.YtjgbikhnnkigpaaFwW
set_option linter.unusedSimpArgs false
set_option linter.unusedVariables false
namespace Go.Fw
open Go Go.RowKit

section
variable {P : Program} {s : AS} {f : FuncId} {args caps : List AV} {K : Out → AS → Prop}

theorem CallG_plain {r : AV} (h : Eval P f (args ++ caps) (.ret r)) (hr : refsL (args ++ caps) = []) (hp : r.plainR = true) (hk : K (.ret r) s) : CallG P (.fn f caps) args s K := by
  have hid := fun box => resDL_id box _ hr
  refine CallV.pure 0 (out := .ret r) ?_ ?_ ?_ ?_
  · rw [hid]; exact h
  · rw [hr]; trivial
  · rw [hid]; exact hr
  · rw [hr]; exact adoptK_plain hp hk

theorem CallG_own {e z n : Nat} {l : List AV} (d : Nat) (h : Eval P f (args ++ caps) (.ret (.own e z n l))) (hr : refsL (args ++ caps) = []) (hd : ¬ s.used d)
    (hk : K (.ret (.bs d z 0 n)) ⟨s.env, upd s.box d (some (.mut e l)), fun j => j = d ∨ s.used j⟩) : CallG P (.fn f caps) args s K := by
  have hid := fun box => resDL_id box _ hr
  refine CallV.pure d (out := .ret (.own e z n l)) ?_ ?_ ?_ ?_
  · rw [hid]; exact h
  · rw [hr]; trivial
  · rw [hid]; exact hr
  · rw [hr]; exact ⟨hd, hk⟩

/-- With boxes among the arguments: they are written no more. -/
theorem CallG_frz {r : AV} (args' : List AV) (s' : AS) (hs : frzS (refsL (args ++ caps)) s = s') (ha : resDL s'.box (args ++ caps) = args') (h : Eval P f args' (.ret r)) (hf : frzOk (refsL (args ++ caps)) s) (hr : refsL args' = [])
    (hp : r.plainR = true) (hk : K (.ret r) s') : CallG P (.fn f caps) args s K := by
  subst hs
  refine CallV.pure 0 (out := .ret r) ?_ hf ?_ ?_
  · rw [ha]; exact h
  · rw [ha]; exact hr
  · exact adoptK_plain hp hk

theorem CallG_frz_own {e z n : Nat} {l : List AV} (d : Nat) (args' : List AV) (s' : AS) (hs : frzS (refsL (args ++ caps)) s = s') (ha : resDL s'.box (args ++ caps) = args') (h : Eval P f args' (.ret (.own e z n l))) (hf : frzOk (refsL (args ++ caps)) s) (hr : refsL args' = [])
    (hd : ¬ s'.used d) (hk : K (.ret (.bs d z 0 n)) ⟨s'.env, upd s'.box d (some (.mut e l)), fun j => j = d ∨ s'.used j⟩) : CallG P (.fn f caps) args s K := by
  subst hs
  refine CallV.pure d (out := .ret (.own e z n l)) ?_ hf ?_ ?_
  · rw [ha]; exact h
  · rw [ha]; exact hr
  · exact ⟨hd, hk⟩
end

section
variable {P : Program} {s : AS} {nt : Nat} {Q : Exit → AS → Prop}

theorem W_join_k {x y : Code} {X : Type} (env : X → List (Nat × AV)) (box : X → List (Nat × Box)) (I : X → Prop)
    (hx : ∀ K : Exit → AS → Prop, (∀ p s' ρ, I p → Wk s' (env p) (box p) ρ → K .normal s') → (∀ e s', e ≠ .normal → Q e s' → K e s') → W P nt x s K)
    (hy : ∀ p, I p → W P nt y (mkS (env p) (box p)) Q) : W P nt (.seq x y) s Q :=
  W_join env box I (hx _ (fun p s' ρ h1 h2 => ⟨p, h1, ρ, h2⟩) (fun e s' he h => by cases e <;> first | exact absurd rfl he | exact h)) hy

theorem W_loop_k {c : Code} {X : Type} (env : X → List (Nat × AV)) (box : X → List (Nat × Box)) (μ : X → Nat) (I : X → Prop) (x0 : X) (ρ0 : Nat → Nat) (h0 : I x0) (hs : Wk s (env x0) (box x0) ρ0)
    (round : ∀ x, I x → ∀ K : Exit → AS → Prop, (∀ x' s' ρ, μ x' < μ x → I x' → Wk s' (env x') (box x') ρ → K .normal s') → (∀ e s', e ≠ .normal → Q e s' → K e s') → W P nt c (mkS (env x) (box x)) K) : W P nt (.loop c) s Q :=
  W_loop env box μ I x0 ρ0 h0 hs fun x hx => round x hx _ (fun x' s' ρ h1 h2 h3 => ⟨x', h1, h2, ρ, h3⟩) (fun e s' he h => by cases e <;> first | exact absurd rfl he | exact h)
end

end Go.Fw

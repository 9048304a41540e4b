/- plane.Area: the walk. -/
import Derived.Test.YtmmkclefdpmjlaaRf1b
import Derived.Test.YtmmkclefdpmjlaaR1b
import Derived.Test.YtmmkclefdpmjlaaPtb
set_option linter.unusedSimpArgs false
set_option linter.unusedVariables false
-- VALS: zAV, zC, ratAV, ratC, ptAV, ptC
namespace Go.Fw
open Go Go.RowKit Go.Proofs Go.IntWalk
set_option linter.unusedSimpArgs false
set_option maxRecDepth 100000
set_option maxHeartbeats 4000000
section
variable {X : FX} {s : AS} {P : Program} {nt : NT} {Q : Exit → AS → Prop}
theorem WX.wk {c : Code} {env : List (Nat × AV)} {box : List (Nat × Box)} (hw : ∃ ρ, Wk s env box ρ) (h : WX X c (mkS env box)) : WX X c s := by
  intro M β a w hR hS
  obtain ⟨ρ, hw⟩ := hw
  obtain ⟨h1, h2⟩ := hR.wk hS hw
  exact h M _ a w h1 h2
theorem WX.seqW {x y : Code} {env : List (Nat × AV)} {box : List (Nat × Box)} (hx : X.C.ext = []) (h : W X.P (X.fn.ntmps : NT) x s (fun e s' => e = .normal ∧ ∃ ρ, Wk s' env box ρ)) (hy : WX X y (mkS env box)) : WX X (.seq x y) s :=
  WX.seq hx h (fun s' hq => WX.wk hq.2 hy) (fun s' hq => by cases hq.1) (fun e s' hq => .inl hq.1)
def frzEnd (id : Nat) (Q : Exit → AS → Prop) : Exit → AS → Prop := fun e s' => ∃ ty l, s'.box id = some (.mut ty l) ∧ refsL l = [] ∧ Q e { s' with box := upd s'.box id (some (.frz l)) }
theorem W_frzEnd {c : Code} (id : Nat) (h : W P nt c s (frzEnd id Q)) : W P nt c s Q := by
  intro C M β a w hR hS
  refine wpIn_mono (h C M β a w hR hS) ?_
  rintro e a' w' ⟨s', M', β', ⟨ty, l, h1, h2, h3⟩, h4, h5⟩
  obtain ⟨M2, k1, k2⟩ := h4.freeze h1 h2
  exact ⟨_, M2, β', h3, k2, h5.later k1 (fun _ _ => rfl) rfl (fun _ h => h)⟩
theorem frzEnd_i {id : Nat} {e : Exit} {s' : AS} (ty : TypeId) (l : List AV) (h1 : s'.box id = some (.mut ty l)) (h2 : refsL l = []) (h3 : Q e { s' with box := upd s'.box id (some (.frz l)) }) : frzEnd id Q e s' := ⟨ty, l, h1, h2, h3⟩
@[congr] theorem frzEnd_congr {id : Nat} {e : Exit} {s1 s2 : AS} (h : s1 = s2) : frzEnd id Q e s1 = frzEnd id Q e s2 := by rw [h]
end
def nilF : FP := ⟨FQ.zero, FQ.zero⟩
def areaS (l : List FP) (is : List Nat) : Rat := is.foldl (fun s i => s + (l.getD i nilF).x.q * (l.getD ((i + 1) % l.length) nilF).y.q - (l.getD i nilF).y.q * (l.getD ((i + 1) % l.length) nilF).x.q) 0
def areaQ (l : List FP) (is : List Nat) : FQ := if is = [] then FQ.zero else .of (areaS l is)
theorem HD.at {l : List FP} (h : ∀ p ∈ l, HD p) (i : Nat) : HD (l.getD i nilF) := by
  rw [List.getD_eq_getElem?_getD]
  by_cases hi : i < l.length
  · rw [List.getElem?_eq_getElem hi]; exact h _ (List.getElem_mem hi)
  · rw [List.getElem?_eq_none (by omega)]
    show HB 0 64 6 ∧ HB 0 64 6
    exact ⟨⟨by decide, by decide⟩, ⟨by decide, by decide⟩⟩
theorem cut8_pt {l : List FP} {i : Nat} (h : i < l.length) : cut8 (ptsC l) i = ptC (l.getD i nilF) := by
  obtain ⟨t, ht⟩ := ptsC_at l i h
  unfold cut8
  rw [ht, List.getD_eq_getElem?_getD, List.getElem?_eq_getElem h]
  exact List.take_left' rfl
def areaF (l : List FP) : FQ := .of (areaS l (List.range l.length) * Rat.divInt 1 2)
end Go.Fw

/- The laws' entry: rows of points by small numbers. -/
import Derived.Test.YtmmkclefdpmjlaaEnt
import Derived.Test.YtmmkclefdpmjlaaRaAb
set_option linter.unusedSimpArgs false
set_option linter.unusedVariables false
namespace Go.Proofs.Ytmmkclefdpmjlaa
open Go.ChangeShapes Go.WideShapes Go.ChangeAt Go.RowKit Go.Deep Go.Fw
open Go.ChangeMaps (open_string shut_string)
set_option linter.unusedVariables false
theorem cellsDots : Try.prog.cellsOf 22 = 1 := by kernel_rfl
set_option maxRecDepth 100000 in
theorem open_dots {H : Type} {enc : TypeId × Value → H} {w : World} {sp : Nat → Bool} {held : Bool} {n : Nat} {v : Value} {y : DataW H × List MemPlace} (h : DataW.trod enc Try.prog w 0 sp held n 22 [v] = some y) :
    ∃ l : List (Int × Int × Int), (∀ a ∈ l, inD a) ∧ Rep (allMem w) noLoc (.slc false 3 l.length (dtsC l)) v := by
  obtain ⟨l, hl⟩ := open_rows (X := { a : Int × Int × Int // inD a }) (fun a => dtC a.1) 3 (by omega) (fun _ => rfl) (fun _ => rfl) Try.underlying22 cellsDot (fun _ cs _ hy => by
    obtain ⟨a, ha, e⟩ := open_dot hy
    subst e
    exact ⟨⟨a, ha⟩, ⟨_, rfl, rfl, rfl, rfl⟩, ⟨_, rfl, rfl, rfl, rfl⟩, ⟨_, rfl, rfl, rfl, rfl⟩, trivial⟩) h
  refine ⟨l.map (·.1), ?_, ?_⟩
  · intro q hq
    obtain ⟨p, _, rfl⟩ := List.mem_map.1 hq
    exact p.2
  · have e : dtsC (l.map (·.1)) = l.flatMap (fun q => dtC q.1) := by unfold dtsC; rw [List.flatMap_map]
    rw [List.length_map, e]
    exact hl
end Go.Proofs.Ytmmkclefdpmjlaa

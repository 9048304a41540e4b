/- The laws' entry: rows of points by small numbers, rows of such rows. -/
import Derived.Test.YtnilkelofcblhaaEnt
import Derived.Test.YtnilkelofcblhaaG5
set_option linter.unusedSimpArgs false
set_option linter.unusedVariables false
namespace Go.Proofs.Ytnilkelofcblhaa
open Go.ChangeShapes Go.WideShapes Go.ChangeAt Go.RowKit Go.Deep Go.Fw
open Go.ChangeMaps (open_string shut_string)
set_option linter.unusedVariables false

theorem cellsDots : Try.prog.cellsOf 27 = 1 := by kernel_rfl
set_option maxRecDepth 100000 in
theorem open_dots {H : Type} {enc : TypeId × Value → H} {w : World} {sp : Nat → Bool} {held : Bool} {n : Nat} {v : Value} {y : DataW H × List MemPlace} (h : DataW.trod enc Try.prog w 0 sp held n 27 [v] = some y) :
    ∃ l : List (Int × Int × Int), (∀ a ∈ l, inD a) ∧ Rep (allMem w) noLoc (.slc false 3 l.length (dotsI l)) v := by
  obtain ⟨l, hl⟩ := open_rows (X := { a : Int × Int × Int // inD a }) (fun a => dotI a.1) 3 (by omega) (fun _ => rfl) (fun _ => rfl) Try.underlying27 cellsDot (fun _ cs _ hy => by
    obtain ⟨a, ha, e⟩ := open_dot hy
    subst e
    exact ⟨⟨a, ha⟩, ⟨_, rfl, rfl, rfl, rfl⟩, ⟨_, rfl, rfl, rfl, rfl⟩, ⟨_, rfl, rfl, rfl, rfl⟩, trivial⟩) h
  refine ⟨l.map (·.1), ?_, ?_⟩
  · intro q hq
    obtain ⟨p, _, rfl⟩ := List.mem_map.1 hq
    exact p.2
  · have e : dotsI (l.map (·.1)) = l.flatMap (fun q => dotI q.1) := by unfold dotsI; rw [List.flatMap_map]
    rw [List.length_map, e]
    exact hl
set_option maxRecDepth 100000 in
theorem open_dotrows {H : Type} {enc : TypeId × Value → H} {w : World} {sp : Nat → Bool} {held : Bool} {n : Nat} {v : Value} {y : DataW H × List MemPlace} (h : DataW.trod enc Try.prog w 0 sp held n 22 [v] = some y) :
    ∃ l : List (List (Int × Int × Int)), (∀ r ∈ l, ∀ a ∈ r, inD a) ∧ Rep (allMem w) noLoc (.slc false 1 l.length (l.map rowD)) v := by
  obtain ⟨l, hl⟩ := open_rows (X := { r : List (Int × Int × Int) // ∀ a ∈ r, inD a }) (fun r => [rowD r.1]) 1 (by omega) (fun _ => rfl) (fun _ => rfl) Try.underlying22 cellsDots (fun _ cs _ hy => by
    obtain ⟨c, rfl⟩ : ∃ c, cs = [c] := by
      rcases DataW.trod_slice Try.underlying27 hy with ⟨e, _⟩ | ⟨a, len, cap, _, _, _, _, e, _⟩
      · exact ⟨_, e⟩
      · exact ⟨_, e⟩
    obtain ⟨r, hr, e⟩ := open_dots hy
    exact ⟨⟨r, hr⟩, ⟨_, rfl, slc_cell e, e⟩, trivial⟩) h
  refine ⟨l.map (·.1), ?_, ?_⟩
  · intro q hq
    obtain ⟨p, _, rfl⟩ := List.mem_map.1 hq
    exact p.2
  · have e : (l.map (·.1)).map rowD = l.flatMap (fun q => [rowD q.1]) := by
      clear hl
      induction l with
      | nil => rfl
      | cons x t ih => rw [List.map_cons, List.map_cons, ih]; rfl
    rw [List.length_map, e]
    exact hl
end Go.Proofs.Ytnilkelofcblhaa

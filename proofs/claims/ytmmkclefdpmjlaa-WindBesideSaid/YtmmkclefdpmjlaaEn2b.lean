import Derived.Test.YtmmkclefdpmjlaaEnt
import Derived.Test.YtmmkclefdpmjlaaRg1b
set_option linter.unusedSimpArgs false
set_option linter.unusedVariables false
namespace Go.Proofs.Ytmmkclefdpmjlaa
open Go.ChangeShapes Go.WideShapes Go.ChangeAt Go.RowKit Go.Deep Go.Fw
open Go.ChangeMaps (open_string shut_string)
set_option linter.unusedVariables false
theorem cellsPt : Try.prog.cellsOf 65 = 2 := by kernel_rfl
set_option maxRecDepth 100000 in
theorem open_pt {H : Type} {enc : TypeId × Value → H} {w : World} {sp : Nat → Bool} {held : Bool} {n : Nat} {cs : List Value} {y : DataW H × List MemPlace} (h : DataW.trod enc Try.prog w 0 sp held n 65 cs = some y) :
    ∃ a : Int × Int, (inI a.1 ∧ inI a.2) ∧ cs = [.int .i64 a.1, .int .i64 a.2] := by
  obtain ⟨y0, y1, m, _, hl, h0, h1⟩ := trod_struct2 Try.underlying65 h
  rw [cellsPt] at hl
  match cs, hl with
  | [c0, c1], _ =>
    simp only [cellsInt, List.drop, List.take] at h0 h1
    obtain ⟨x0, e0, k0⟩ := open_int1 Try.underlying3 h0
    obtain ⟨x1, e1, k1⟩ := open_int1 Try.underlying3 h1
    simp only [List.cons.injEq, and_true] at e0 e1
    subst e0 e1
    exact ⟨(x0, x1), ⟨wf_inI k0, wf_inI k1⟩, rfl⟩
def ptVv (a : Int × Int) : Value := .agg #[.int .i64 a.1, .int .i64 a.2]
end Go.Proofs.Ytmmkclefdpmjlaa
namespace Go.Proofs.Ytmmkclefdpmjlaa
open Go.ChangeShapes Go.WideShapes Go.ChangeAt Go.RowKit Go.Deep Go.Fw
open Go.ChangeMaps (open_string shut_string)
set_option linter.unusedVariables false
set_option maxRecDepth 100000 in
theorem open_pts {H : Type} {enc : TypeId × Value → H} {w : World} {sp : Nat → Bool} {held : Bool} {n : Nat} {v : Value} {y : DataW H × List MemPlace} (h : DataW.trod enc Try.prog w 0 sp held n 58 [v] = some y) :
    ∃ l : List (Int × Int), (∀ a ∈ l, inP a) ∧ Rep (allMem w) noLoc (.slc false 2 l.length (ptsI l)) v := by
  obtain ⟨l, hl⟩ := open_rows (X := { a : Int × Int // inP a }) (fun a => ptI a.1) 2 (by omega) (fun _ => rfl) (fun _ => rfl) Try.underlying58 cellsPt (fun _ cs _ hy => by
    obtain ⟨a, ha, e⟩ := open_pt hy
    subst e
    exact ⟨⟨a, ha⟩, ⟨_, rfl, rfl, rfl, rfl⟩, ⟨_, rfl, rfl, rfl, rfl⟩, trivial⟩) h
  refine ⟨l.map (·.1), ?_, ?_⟩
  · intro q hq
    obtain ⟨p, _, rfl⟩ := List.mem_map.1 hq
    exact p.2
  · have e : ptsI (l.map (·.1)) = l.flatMap (fun q => ptI q.1) := by unfold ptsI; rw [List.flatMap_map]
    rw [List.length_map, e]
    exact hl
end Go.Proofs.Ytmmkclefdpmjlaa

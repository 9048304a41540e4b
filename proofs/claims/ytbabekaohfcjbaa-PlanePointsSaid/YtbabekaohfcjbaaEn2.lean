/- The laws' entry: points of the grid. -/
import Derived.Test.YtbabekaohfcjbaaEnt
set_option linter.unusedSimpArgs false
set_option linter.unusedVariables false
namespace Go.Proofs.Ytbabekaohfcjbaa
open Go.ChangeShapes Go.WideShapes Go.ChangeAt Go.RowKit Go.Deep Go.Fw
open Go.ChangeMaps (open_string shut_string)
set_option linter.unusedVariables false

theorem cellsPt : Try.prog.cellsOf 67 = 2 := by kernel_rfl
set_option maxRecDepth 100000 in
/-- A point of the grid, opened. -/
theorem open_pt {H : Type} {enc : TypeId × Value → H} {w : World} {sp : Nat → Bool} {held : Bool} {n : Nat} {cs : List Value} {y : DataW H × List MemPlace} (h : DataW.trod enc Try.prog w 0 sp held n 67 cs = some y) :
    ∃ a : Int × Int, (inI a.1 ∧ inI a.2) ∧ cs = [.int .i64 a.1, .int .i64 a.2] := by
  obtain ⟨y0, y1, m, _, hl, h0, h1⟩ := trod_struct2 Try.underlying67 h
  rw [cellsPt] at hl
  match cs, hl with
  | [c0, c1], _ =>
    simp only [cellsInt, List.drop, List.take] at h0 h1
    obtain ⟨x0, e0, k0⟩ := open_int1 Try.underlying3 h0
    obtain ⟨x1, e1, k1⟩ := open_int1 Try.underlying3 h1
    simp only [List.cons.injEq, and_true] at e0 e1
    subst e0 e1
    exact ⟨(x0, x1), ⟨wf_inI k0, wf_inI k1⟩, rfl⟩
theorem pt_arr {cs : Array Value} {a : Int × Int} (h : cs.toList = [.int .i64 a.1, .int .i64 a.2]) : cs = #[.int .i64 a.1, .int .i64 a.2] := by
  cases cs
  simpa using h
/-- A point as the call has it. -/
def ptVv (a : Int × Int) : Value := .agg #[.int .i64 a.1, .int .i64 a.2]
theorem rep_pt (w : World) (a : Int × Int) : Rep (allMem w) noLoc (.agg [i64V a.1, i64V a.2]) (ptVv a) := ⟨_, rfl, rfl, ⟨_, rfl, rfl, rfl, rfl⟩, ⟨_, rfl, rfl, rfl, rfl⟩, trivial⟩
end Go.Proofs.Ytbabekaohfcjbaa

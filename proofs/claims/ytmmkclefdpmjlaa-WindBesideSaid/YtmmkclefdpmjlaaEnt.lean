/- The laws' entry: points by small numbers, numbers. -/
import Derived.Test.YtmmkclefdpmjlaaPtb
import Derived.Test.YtmmkclefdpmjlaaOp
set_option linter.unusedSimpArgs false
set_option linter.unusedVariables false
namespace Go.Proofs.Ytmmkclefdpmjlaa
open Go.ChangeShapes Go.WideShapes Go.ChangeAt Go.RowKit Go.Deep Go.Fw
open Go.ChangeMaps (open_string shut_string)
set_option linter.unusedVariables false
theorem own : ownKnob Try.prog.godebug = none := by kernel_rfl
theorem laidOut : laidOutB Try.prog = true := by kernel_rfl
theorem cellsDot : Try.prog.cellsOf 36 = 3 := by kernel_rfl
theorem cellsInt : Try.prog.cellsOf 3 = 1 := by kernel_rfl
theorem wf_inI {m : Int} (h : (Lit.int .i64 m).wf = true) : inI m := by
  simp [Lit.wf, IntKind.min, IntKind.max, IntKind.signed, IntKind.bits] at h
  unfold inI
  omega
set_option maxRecDepth 100000 in
theorem open_dot {H : Type} {enc : TypeId × Value → H} {w : World} {sp : Nat → Bool} {held : Bool} {n : Nat} {cs : List Value} {y : DataW H × List MemPlace} (h : DataW.trod enc Try.prog w 0 sp held n 36 cs = some y) :
    ∃ a : Int × Int × Int, inD a ∧ cs = [.int .i64 a.1, .int .i64 a.2.1, .int .i64 a.2.2] := by
  obtain ⟨y0, y1, y2, m, _, hl, h0, h1, h2⟩ := trod_struct3 Try.underlying36 h
  rw [cellsDot] at hl
  match cs, hl with
  | [c0, c1, c2], _ =>
    simp only [cellsInt, List.drop, List.take] at h0 h1 h2
    obtain ⟨x0, e0, k0⟩ := open_int1 Try.underlying3 h0
    obtain ⟨x1, e1, k1⟩ := open_int1 Try.underlying3 h1
    obtain ⟨x2, e2, k2⟩ := open_int1 Try.underlying3 h2
    simp only [List.cons.injEq, and_true] at e0 e1 e2
    subst e0 e1 e2
    exact ⟨(x0, x1, x2), ⟨wf_inI k0, wf_inI k1⟩, rfl⟩
theorem dot_arr {cs : Array Value} {a : Int × Int × Int} (h : cs.toList = [.int .i64 a.1, .int .i64 a.2.1, .int .i64 a.2.2]) : cs = #[.int .i64 a.1, .int .i64 a.2.1, .int .i64 a.2.2] := by
  cases cs
  simpa using h
def dotV (a : Int × Int × Int) : Value := .agg #[.int .i64 a.1, .int .i64 a.2.1, .int .i64 a.2.2]
theorem rep_dot (w : World) (a : Int × Int × Int) : Rep (allMem w) noLoc (dotAV a) (dotV a) := ⟨_, rfl, rfl, ⟨_, rfl, rfl, rfl, rfl⟩, ⟨_, rfl, rfl, rfl, rfl⟩, ⟨_, rfl, rfl, rfl, rfl⟩, trivial⟩
end Go.Proofs.Ytmmkclefdpmjlaa

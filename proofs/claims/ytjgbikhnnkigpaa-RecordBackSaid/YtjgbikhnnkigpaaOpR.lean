/- The entry: records, opened. -/
import Derived.Test.YtjgbikhnnkigpaaTy
import Derived.Test.YtjgbikhnnkigpaaT3
import Derived.Test.YtjgbikhnnkigpaaOp
set_option linter.unusedSimpArgs false
set_option linter.unusedVariables false
namespace Go.Fw
open Go Go.ChangeShapes Go.WideShapes Go.ChangeAt Go.RowKit Go.Deep Go.Proofs
set_option linter.unusedVariables false

theorem cells24 : Try.prog.cellsOf 24 = 3 := by kernel_rfl
theorem cells22 : Try.prog.cellsOf 22 = 1 := by kernel_rfl
theorem cells5 : Try.prog.cellsOf 5 = 1 := by kernel_rfl

set_option maxRecDepth 100000 in
/-- A record's cells, opened. -/
theorem open_rec {H : Type} {enc : TypeId × Value → H} {w : World} {sp : Nat → Bool} {held : Bool} {n : Nat} {cs : List Value} {y : DataW H × List MemPlace} (h : DataW.trod enc Try.prog w 0 sp held n 24 cs = some y) :
    ∃ r : Rec, cs.length = 3 ∧ RepAt (allMem w) noLoc (recCells r) cs.toArray 0 := by
  obtain ⟨y0, y1, y2, m, _, hl, h0, h1, h2⟩ := trod_struct3 Try.underlying24 h
  rw [cells24] at hl
  match cs, hl with
  | [c0, c1, c2], _ =>
    simp only [cells5, cells22, List.drop, List.take] at h0 h1 h2
    obtain ⟨k, e0, hk⟩ := open_int1 Try.underlying5 h0
    obtain ⟨d, e1, hd⟩ := open_int1 Try.underlying5 h1
    simp only [List.cons.injEq, and_true] at e0 e1
    subst e0 e1
    obtain ⟨k, _, rfl⟩ := byte_of hk
    obtain ⟨d, _, rfl⟩ := byte_of hd
    obtain ⟨b, hb⟩ := open_bytes Try.underlying22 Try.underlying5 cells5 h2
    exact ⟨(k, d, b), rfl, ⟨_, rfl, rfl, rfl, rfl⟩, ⟨_, rfl, rfl, rfl, rfl⟩, ⟨_, rfl, slc_cell hb, hb⟩, trivial⟩

theorem open_recs {H : Type} {enc : TypeId × Value → H} {w : World} {sp : Nat → Bool} {held : Bool} {n : Nat} {v : Value} {y : DataW H × List MemPlace} (h : DataW.trod enc Try.prog w 0 sp held n 28 [v] = some y) :
    ∃ l : List Rec, Rep (allMem w) noLoc (.slc false 3 l.length (recsCells l)) v :=
  open_rows recCells 3 (by omega) (fun _ => rfl) (fun _ => rfl) Try.underlying28 cells24 (fun _ _ _ hy => by
    obtain ⟨r, _, hr⟩ := open_rec hy
    exact ⟨r, hr⟩) h
end Go.Fw

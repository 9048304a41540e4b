/- RecordRight: for every input the law returns true. -/
import Derived.Test.YtjgbikhnnkigpaaQ7
import Derived.Test.YtjgbikhnnkigpaaOp
set_option linter.unusedSimpArgs false
set_option linter.unusedVariables false
namespace Go.Proofs.Ytjgbikhnnkigpaa
open Go.ChangeShapes Go.WideShapes Go.ChangeAt Go.RowKit Go.Deep Go.Fw
open Go.ChangeMaps (open_string shut_string)
set_option linter.unusedVariables false

theorem own : ownKnob Try.prog.godebug = none := by kernel_rfl
theorem laidOut : laidOutB Try.prog = true := by kernel_rfl
theorem cells24 : Try.prog.cellsOf 24 = 3 := by kernel_rfl
theorem cells22 : Try.prog.cellsOf 22 = 1 := by kernel_rfl
theorem cells5 : Try.prog.cellsOf 5 = 1 := by kernel_rfl

set_option maxRecDepth 100000 in
/-- A record's cells, opened. -/
theorem open_rec {H : Type} {enc : TypeId × Value → H} {w : World} {sp : Nat → Bool} {held : Bool} {n : Nat} {cs : List Value} {y : DataW H × List MemPlace} (h : DataW.trod enc Try.prog w 0 sp held n 24 cs = some y) :
    ∃ r : Rec, cs.length = 3 ∧ RepAt (allMem w) noLoc (recCells r) cs.toArray 0 := by
  obtain ⟨y0, y1, y2, m, _, hl, h0, h1, h2⟩ := trod_struct3 Try.underlying24 h
  rw [cells24] at hl
  match cs, hl with
  | [c0, c1, c2], _ =>
    simp only [cells5, cells22, List.drop, List.take] at h0 h1 h2
    obtain ⟨k, e0, hk⟩ := open_int1 Try.underlying5 h0
    obtain ⟨d, e1, hd⟩ := open_int1 Try.underlying5 h1
    simp only [List.cons.injEq, and_true] at e0 e1
    subst e0 e1
    obtain ⟨k, _, rfl⟩ := byte_of hk
    obtain ⟨d, _, rfl⟩ := byte_of hd
    obtain ⟨b, hb⟩ := open_bytes Try.underlying22 Try.underlying5 cells5 h2
    exact ⟨(k, d, b), rfl, ⟨_, rfl, rfl, rfl, rfl⟩, ⟨_, rfl, rfl, rfl, rfl⟩, ⟨_, rfl, slc_cell hb, hb⟩, trivial⟩

theorem walkRight (cs : Array Value) (r : Rec) (w : World) (hs : cs.size = 3) (hr : RepAt (allMem w) noLoc (recCells r) cs 0) :
    Calls Try.prog 3 #[.agg cs] w fun e w' => e = .returned (.bool true) ∧ Below w.heap.size w w' :=
  law_calls Try.call3 (lawRight_ok r.1 r.2.1 r.2.2) w _ rfl ⟨⟨_, rfl, _, rfl, hs, hr⟩, trivial⟩

set_option maxRecDepth 100000 in
theorem liftedRight (os : Os) (started : os.Started) (H : Type) (enc : TypeId × Value → H) :
    ReturnsInHanded {} Try.checked os 3 .any (Rows.recordRightSpec.pre6 enc Try.prog Try.f3 Rows.recordRightRow.domain false) (Rows.recordRightSpec.post enc Try.prog Try.f3 false true false false) := by
  refine returnsInHanded_of_change (C := Try.checked) own started (by kernel_rfl) Try.func3
    (ChangeSpec.witness6 (enc := enc) (C := Try.checked) false ⟨#[], #[.agg #[.int .u8 0, .int .u8 0, .slice none 0 0]], []⟩ 8 (by kernel_rfl) (by kernel_rfl) (by kernel_rfl) (by kernel_rfl)) ?_
  intro W base args ds gs before hval0 hW hcnd _
  have hval : ∀ (j : Nat) t v, Try.f3.params[j]? = some t → args[j]? = some v → Value.okWide Try.prog W .any base t v := hval0
  have hW' := hW
  obtain ⟨p, q, hA0, hV, rfl, hfz, hnd⟩ := hW
  have hA : DataW.TrodAll enc Try.prog W 0 (fun _ => true) true Try.f3.params.toList args.toList ds p := hA0
  rw [Try.params3] at hA hval
  obtain ⟨v0, vs0, d0, ds0, p0, q0, hargs, rfl, rfl, h0, r0⟩ := trodAll_cons hA
  obtain ⟨rfl, rfl, rfl⟩ := trodAll_nil r0
  obtain rfl : args = #[v0] := by cases args; simp_all
  obtain ⟨rfl, rfl⟩ := trodVars_none hV
  obtain ⟨cs, rfl, hsz⟩ := okWide_struct Try.underlying24 (hval 0 24 v0 rfl rfl)
  have k0 := h0
  have lt0 : ∀ x ∈ p0, x.block < W.heap.size := by obtain ⟨m, hm⟩ := k0; exact DataW.trod_lt m _ _ _ hm
  obtain ⟨r, hr⟩ : ∃ r : Rec, RepAt (allMem W) noLoc (recCells r) cs 0 := by
    obtain ⟨fuel, hf⟩ := h0
    obtain ⟨r, _, hr⟩ := open_rec hf
    exact ⟨r, by simpa [Value.cells] using hr⟩
  rw [cells24] at hsz
  clear hA0 hval0
  refine (walkRight cs r W hsz hr).mono fun e W' ⟨he, bel⟩ => ?_
  subst he
  exact ⟨_, rfl, _, _, _, [], _, [], hW', trodAll_mk1 (shut_bool Try.underlying4 _), (trodAll_cons_mk (Below.trod laidOut (by kernel_rfl) (of_decide_eq_true (by kernel_rfl)) k0 bel lt0) trodAll_mk0), rfl, bel.frame _, fun h => by cases h⟩

theorem record_right : Rows.RecordRightSaid :=
  OpenClaim.holds_of_wide 3 Try.f3 rfl rfl rfl rfl rfl rfl rfl ⟨rfl, rfl, rfl, rfl, rfl⟩ rfl rfl rfl rfl rfl (by kernel_rfl) Try.func3 (by kernel_rfl)
    (of_decide_eq_true (by kernel_rfl)) (by unfold Func.isWrapper; first | (rw [if_pos (by decide +kernel)]; kernel_rfl) | (rw [if_neg (by decide +kernel)]; exact ⟨rfl, rfl⟩))
    (fun os started H enc _ => liftedRight os started H enc)

#print axioms record_right
end Go.Proofs.Ytjgbikhnnkigpaa

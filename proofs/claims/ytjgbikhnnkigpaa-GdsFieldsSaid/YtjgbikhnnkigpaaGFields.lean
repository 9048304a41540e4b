/- GdsFields: for every input the law returns true. -/
import Derived.Test.YtjgbikhnnkigpaaGp48
import Derived.Test.YtjgbikhnnkigpaaOpL
set_option linter.unusedSimpArgs false
set_option linter.unusedVariables false
namespace Go.Proofs.Ytjgbikhnnkigpaa
open Go.ChangeShapes Go.WideShapes Go.ChangeAt Go.RowKit Go.Deep Go.Fw
open Go.ChangeMaps (open_string shut_string)
set_option linter.unusedVariables false
theorem own : ownKnob Try.prog.godebug = none := by kernel_rfl
theorem laidOut : laidOutB Try.prog = true := by kernel_rfl
theorem walkGdsFields (cs : Array Value) (t : Cell) (k : UInt8) (w : World) (hs : cs.size = 2) (hr : RepAt (allMem w) noLoc [rowsAV t.1, itemsAV t.2] cs 0) (hf : CellFit t) :
    Calls Try.prog 14 #[.agg cs, .int .u8 k.toNat] w fun e w' => e = .returned (.bool true) ∧ Below w.heap.size w w' :=
  law_calls Try.call14 (lawFields_ok t hf k) w _ rfl ⟨⟨_, rfl, _, rfl, hs, hr⟩, ⟨_, rfl, rfl, rfl⟩, trivial⟩
set_option maxRecDepth 100000 in
theorem liftedGdsFields (os : Os) (started : os.Started) (H : Type) (enc : TypeId × Value → H) :
    ReturnsInHanded {} Try.checked os 14 .any (Rows.gdsFieldsSpec.pre6 enc Try.prog Try.f14 Rows.gdsFieldsRow.domain false) (Rows.gdsFieldsSpec.post enc Try.prog Try.f14 false true false false) := by
  refine returnsInHanded_of_change_sized (C := Try.checked) own started (by kernel_rfl) Try.func14
    (ChangeSpec.witness6 (enc := enc) (C := Try.checked) false ⟨#[], #[.agg #[.slice none 0 0, .slice none 0 0], .int .u8 0], []⟩ 8 (by kernel_rfl) (by kernel_rfl) (by kernel_rfl) (by kernel_rfl)) ?_
  intro W base args ds gs before hval0 hW hcnd hwgt _
  have hval : ∀ (j : Nat) t v, Try.f14.params[j]? = some t → args[j]? = some v → Value.okWide Try.prog W .any base t v := hval0
  have hwgt2 : (DataW.weightsEach Try.prog (Try.f14.params.toList ++ Rows.gdsFieldsSpec.plain.varTypes Try.prog) (ds ++ gs)).all (· ≤ reachBytes) = true := hwgt
  have hW' := hW
  obtain ⟨p, q, hA0, hV, rfl, hfz, hnd⟩ := hW
  have hA : DataW.TrodAll enc Try.prog W 0 (fun _ => true) true Try.f14.params.toList args.toList ds p := hA0
  rw [Try.params14] at hA hval hwgt2
  obtain ⟨v0, vs0, d0, ds0, p0, q0, hargs, rfl, rfl, h0, r0⟩ := trodAll_cons hA
  obtain ⟨v1, vs1, d1, ds1, p1, q1, rfl, rfl, rfl, h1, r1⟩ := trodAll_cons r0
  obtain ⟨rfl, rfl, rfl⟩ := trodAll_nil r1
  obtain rfl : args = #[v0, v1] := by cases args; simp_all
  obtain ⟨rfl, rfl⟩ := trodVars_none hV
  obtain ⟨cs, rfl, hsz⟩ := okWide_struct Try.underlying72 (hval 0 72 v0 rfl rfl)
  have k0 := h0
  have lt0 : ∀ x ∈ p0, x.block < W.heap.size := by obtain ⟨m, hm⟩ := k0; exact DataW.trod_lt m _ _ _ hm
  have hwk : WOk Try.prog 72 d0 := fun n hn => by
    have := List.all_eq_true.1 hwgt2 n (by simp [DataW.weightsEach, hn])
    simpa using this
  obtain ⟨t, hr, hf⟩ : ∃ t : Cell, RepAt (allMem W) noLoc [rowsAV t.1, itemsAV t.2] cs 0 ∧ CellFit t := by
    obtain ⟨fuel, hf⟩ := h0
    obtain ⟨t, hr, hf⟩ := open_cellZ hf hwk
    exact ⟨t, by simpa [Value.cells, cellCells] using hr, hf⟩
  rw [cellsZ72] at hsz
  obtain ⟨x, rfl⟩ := okWide_int Try.underlying5 (hval 1 5 v1 rfl rfl)
  have k1 := h1
  have lt1 : ∀ x ∈ p1, x.block < W.heap.size := by obtain ⟨m, hm⟩ := k1; exact DataW.trod_lt m _ _ _ hm
  obtain ⟨k, rfl⟩ : ∃ k : UInt8, x = k.toNat := by
    obtain ⟨fuel, hf⟩ := h1
    obtain ⟨m, e, hm⟩ := open_int1 Try.underlying5 hf
    obtain ⟨c, _, hc⟩ := byte_of hm
    simp only [Value.cells] at e
    simp at e
    exact ⟨c, e.trans hc⟩
  clear hA0 hval0
  refine (walkGdsFields cs t k W hsz hr hf).mono fun e W' ⟨he, bel⟩ => ?_
  subst he
  exact ⟨_, rfl, _, _, _, [], _, [], hW', trodAll_mk1 (shut_bool Try.underlying4 _), (trodAll_cons_mk (Below.trod laidOut (by kernel_rfl) (of_decide_eq_true (by kernel_rfl)) k0 bel lt0) (trodAll_cons_mk (Below.trod laidOut (by kernel_rfl) (of_decide_eq_true (by kernel_rfl)) k1 bel lt1) trodAll_mk0)), rfl, bel.frame _, fun h => by cases h⟩
theorem gds_fields : Rows.GdsFieldsSaid :=
  OpenClaim.holds_of_wide 14 Try.f14 rfl rfl rfl rfl rfl rfl rfl ⟨rfl, rfl, rfl, rfl, rfl⟩ rfl rfl rfl rfl rfl (by kernel_rfl) Try.func14 (by kernel_rfl)
    (of_decide_eq_true (by kernel_rfl)) (by unfold Func.isWrapper; first | (rw [if_pos (by decide +kernel)]; kernel_rfl) | (rw [if_neg (by decide +kernel)]; exact ⟨rfl, rfl⟩))
    (fun os started H enc _ => liftedGdsFields os started H enc)
#print axioms gds_fields
end Go.Proofs.Ytjgbikhnnkigpaa

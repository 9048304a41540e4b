/- PlaneAreas: every call of the law returns true. -/
import Derived.Test.YtmmkclefdpmjlaaRaAb
import Derived.Test.YtmmkclefdpmjlaaEn4
set_option linter.unusedSimpArgs false
set_option linter.unusedVariables false
namespace Go.Proofs.Ytmmkclefdpmjlaa
open Go.ChangeShapes Go.WideShapes Go.ChangeAt Go.RowKit Go.Deep Go.Fw
open Go.ChangeMaps (open_string shut_string)
set_option linter.unusedVariables false
theorem walkPas (v : Value) (l : List (Int × Int × Int)) (hl : ∀ a ∈ l, inD a) (w : World) (hr : Rep (allMem w) noLoc (.slc false 3 l.length (dtsC l)) v) :
    Calls Try.prog 3 #[v] w fun e w' => e = .returned (.bool true) ∧ Below w.heap.size w w' := by
  obtain ⟨a, c, hv, hr'⟩ := hr
  exact law_calls Try.call3 (lawAreas_ok false l hl) w _ rfl ⟨⟨_, rfl, _, _, hv, hr'⟩, trivial⟩
set_option maxRecDepth 100000 in
theorem liftedPas (os : Os) (started : os.Started) (H : Type) (enc : TypeId × Value → H) :
    ReturnsInHanded {} Try.checked os 3 .any (Rows.planeAreasSpec.pre6 enc Try.prog Try.f3 Rows.planeAreasRow.domain false) (Rows.planeAreasSpec.post enc Try.prog Try.f3 false true false false) := by
  refine returnsInHanded_of_change (C := Try.checked) own started (by kernel_rfl) Try.func3
    (ChangeSpec.witness6 (enc := enc) (C := Try.checked) false ⟨#[], #[.slice none 0 0], []⟩ 8 (by kernel_rfl) (by kernel_rfl) (by kernel_rfl) (by kernel_rfl)) ?_
  intro W base args ds gs before hval0 hW hcnd _
  have hW' := hW
  obtain ⟨p, q, hA0, hV, rfl, hfz, hnd⟩ := hW
  have hA : DataW.TrodAll enc Try.prog W 0 (fun _ => true) true Try.f3.params.toList args.toList ds p := hA0
  rw [Try.params3] at hA
  obtain ⟨v0, vs0, d0, ds0, p0, q0, hargs, rfl, rfl, h0, r0⟩ := trodAll_cons hA
  obtain ⟨rfl, rfl, rfl⟩ := trodAll_nil r0
  obtain rfl : args = #[v0] := by cases args; simp_all
  obtain ⟨rfl, rfl⟩ := trodVars_none hV
  obtain ⟨a0, len0, cap0, rfl⟩ := okWide_slice Try.underlying22 (hval0 0 22 v0 (by rw [Try.params3]; rfl) rfl)
  have k0 := h0
  have lt0 : ∀ x ∈ p0, x.block < W.heap.size := by obtain ⟨m, hm⟩ := k0; exact DataW.trod_lt m _ _ _ hm
  obtain ⟨l, hl, hr⟩ : ∃ l : List (Int × Int × Int), (∀ a ∈ l, inD a) ∧ Rep (allMem W) noLoc (.slc false 3 l.length (dtsC l)) (.slice a0 len0 cap0) := by
    obtain ⟨fuel, hf⟩ := h0
    exact open_dots (by simpa [Value.cells] using hf)
  clear hA0 hval0
  refine (walkPas _ l hl W hr).mono fun e W' ⟨he, bel⟩ => ?_
  subst he
  exact ⟨_, rfl, _, _, _, [], _, [], hW', trodAll_mk1 (shut_bool Try.underlying4 _), (trodAll_cons_mk (Below.trod laidOut (by kernel_rfl) (of_decide_eq_true (by kernel_rfl)) k0 bel lt0) trodAll_mk0), rfl, bel.frame _, fun h => by cases h⟩
theorem PasNamed : Try.checked.prog.funcNamed Rows.planeAreasRow.func = some 3 := by kernel_rfl
theorem PasJoined : joinedFacts Try.checked.prog 3 Try.f3 Rows.planeAreasSpec Rows.planeAreasRow = true := by kernel_rfl
theorem PasInst : Try.f3.isInstance Try.checked.prog Rows.planeAreasRow.origin Rows.planeAreasRow.targs := of_decide_eq_true (by kernel_rfl)
theorem PasWrap : Try.f3.isWrapper Try.checked.prog Rows.planeAreasRow.wrapper Rows.planeAreasRow.mainSum := by unfold Func.isWrapper; first | (rw [if_pos (by decide +kernel)]; kernel_rfl) | (rw [if_neg (by decide +kernel)]; exact ⟨rfl, rfl⟩)
theorem plane_areas_law : Rows.PlaneAreasSaid :=
  OpenClaim.holds_of_wide 3 Try.f3 rfl rfl rfl rfl rfl rfl rfl ⟨rfl, rfl, rfl, rfl, rfl⟩ rfl rfl rfl rfl rfl PasNamed Try.func3 PasJoined
    PasInst PasWrap
    (fun os started H enc _ => liftedPas os started H enc)
#print axioms plane_areas_law
end Go.Proofs.Ytmmkclefdpmjlaa

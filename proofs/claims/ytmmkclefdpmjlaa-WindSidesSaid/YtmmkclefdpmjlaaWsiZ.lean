/- WindSides: every call of the law returns true. Printed by a program (wip/gen/entry.py). -/
import Derived.Test.YtmmkclefdpmjlaaRh2
import Derived.Test.YtmmkclefdpmjlaaEn2b
set_option linter.unusedSimpArgs false
set_option linter.unusedVariables false
namespace Go.Proofs.Ytmmkclefdpmjlaa
open Go.ChangeShapes Go.WideShapes Go.ChangeAt Go.RowKit Go.Deep Go.Fw
open Go.ChangeMaps (open_string shut_string)
set_option linter.unusedVariables false
theorem walkWsi (x0 : List (Int × Int)) (x1 : Int) (hx0 : ∀ a ∈ x0, inP a) (y0 : Value) (w : World) (hr0 : Rep (allMem w) noLoc (.slc false 2 x0.length (ptsI x0)) y0) :
    Calls Try.prog 7 #[y0, .int .i64 x1] w fun e w' => e = .returned (.bool true) ∧ Below w.heap.size w w' :=
  law_calls Try.call7 (lawSides_ok x0 x1 hx0) w _ rfl ⟨⟨_, rfl, hr0⟩, ⟨_, rfl, rfl, rfl⟩, trivial⟩
set_option maxRecDepth 100000 in
theorem liftedWsi (os : Os) (started : os.Started) (H : Type) (enc : TypeId × Value → H) :
    ReturnsInHanded {} Try.checked os 7 .any (Rows.windSidesSpec.pre6 enc Try.prog Try.f7 Rows.windSidesRow.domain false) (Rows.windSidesSpec.post enc Try.prog Try.f7 false true false false) := by
  refine returnsInHanded_of_change (C := Try.checked) own started (by kernel_rfl) Try.func7
    (ChangeSpec.witness6 (enc := enc) (C := Try.checked) false ⟨#[], #[.slice none 0 0, .int .i64 0], []⟩ 8 (by kernel_rfl) (by kernel_rfl) (by kernel_rfl) (by kernel_rfl)) ?_
  intro W base args ds gs before hval0 hW hcnd _
  have hW' := hW
  obtain ⟨p, q, hA0, hV, rfl, hfz, hnd⟩ := hW
  have hA : DataW.TrodAll enc Try.prog W 0 (fun _ => true) true Try.f7.params.toList args.toList ds p := hA0
  have hval : ∀ (j : Nat) t v, Try.f7.params[j]? = some t → args[j]? = some v → Value.okWide Try.prog W .any base t v := hval0
  rw [Try.params7] at hA hval
  obtain ⟨v0, vs0, d0, ds0, p0, q0, hargs, rfl, rfl, h0, r0⟩ := trodAll_cons hA
  obtain ⟨v1, vs1, d1, ds1, p1, q1, rfl, rfl, rfl, h1, r1⟩ := trodAll_cons r0
  obtain ⟨rfl, rfl, rfl⟩ := trodAll_nil r1
  obtain rfl : args = #[v0, v1] := by cases args; simp_all
  obtain ⟨rfl, rfl⟩ := trodVars_none hV
  obtain ⟨a0, len0, cap0, rfl⟩ := okWide_slice Try.underlying58 (hval 0 58 v0 rfl rfl)
  obtain ⟨x1, rfl⟩ := okWide_int Try.underlying3 (hval 1 3 v1 rfl rfl)
  have k0 := h0
  have k1 := h1
  have lt0 : ∀ x ∈ p0, x.block < W.heap.size := by obtain ⟨m, hm⟩ := k0; exact DataW.trod_lt m _ _ _ hm
  have lt1 : ∀ x ∈ p1, x.block < W.heap.size := by obtain ⟨m, hm⟩ := k1; exact DataW.trod_lt m _ _ _ hm
  obtain ⟨x0, hx0, hr0⟩ : ∃ l : List (Int × Int), (∀ a ∈ l, inP a) ∧ Rep (allMem W) noLoc (.slc false 2 l.length (ptsI l)) (.slice a0 len0 cap0) := by
    obtain ⟨fuel, hf⟩ := h0
    exact open_pts (by simpa [Value.cells] using hf)
  clear hA0 hval0
  refine (walkWsi x0 x1 hx0 _ W hr0).mono fun e W' ⟨he, bel⟩ => ?_
  subst he
  exact ⟨_, rfl, _, _, _, [], _, [], hW', trodAll_mk1 (shut_bool Try.underlying4 _), (trodAll_cons_mk (Below.trod laidOut (by kernel_rfl) (of_decide_eq_true (by kernel_rfl)) k0 bel lt0) (trodAll_cons_mk (Below.trod laidOut (by kernel_rfl) (of_decide_eq_true (by kernel_rfl)) k1 bel lt1) trodAll_mk0)), rfl, bel.frame _, fun h => by cases h⟩
theorem wsiNamed : Try.checked.prog.funcNamed Rows.windSidesRow.func = some 7 := by kernel_rfl
theorem wsiJoined : joinedFacts Try.checked.prog 7 Try.f7 Rows.windSidesSpec Rows.windSidesRow = true := by kernel_rfl
theorem wsiInst : Try.f7.isInstance Try.checked.prog Rows.windSidesRow.origin Rows.windSidesRow.targs := of_decide_eq_true (by kernel_rfl)
theorem wsiWrap : Try.f7.isWrapper Try.checked.prog Rows.windSidesRow.wrapper Rows.windSidesRow.mainSum := by unfold Func.isWrapper; first | (rw [if_pos (by decide +kernel)]; kernel_rfl) | (rw [if_neg (by decide +kernel)]; exact ⟨rfl, rfl⟩)
theorem wind_sides_law : Rows.WindSidesSaid :=
  OpenClaim.holds_of_wide 7 Try.f7 rfl rfl rfl rfl rfl rfl rfl ⟨rfl, rfl, rfl, rfl, rfl⟩ rfl rfl rfl rfl rfl wsiNamed Try.func7 wsiJoined
    wsiInst wsiWrap
    (fun os started H enc _ => liftedWsi os started H enc)
#print axioms wind_sides_law
end Go.Proofs.Ytmmkclefdpmjlaa

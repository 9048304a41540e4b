/- WindBack: every call of the law returns true. Printed by a program (wip/gen/entry.py). -/
import Derived.Test.YtmmkclefdpmjlaaRg7
import Derived.Test.YtmmkclefdpmjlaaEn2b
set_option linter.unusedSimpArgs false
set_option linter.unusedVariables false
namespace Go.Proofs.Ytmmkclefdpmjlaa
open Go.ChangeShapes Go.WideShapes Go.ChangeAt Go.RowKit Go.Deep Go.Fw
open Go.ChangeMaps (open_string shut_string)
set_option linter.unusedVariables false
theorem walkWba (x0 : List (Int × Int)) (x1 : Int × Int × Int) (hx0 : ∀ a ∈ x0, inP a) (hx1 : inD x1) (y0 : Value) (w : World) (hr0 : Rep (allMem w) noLoc (.slc false 2 x0.length (ptsI x0)) y0) :
    Calls Try.prog 8 #[y0, dotV x1] w fun e w' => e = .returned (.bool true) ∧ Below w.heap.size w w' :=
  law_calls Try.call8 (lawBack_ok x0 x1 hx0 hx1) w _ rfl ⟨⟨_, rfl, hr0⟩, ⟨_, rfl, rep_dot w x1⟩, trivial⟩
set_option maxRecDepth 100000 in
theorem liftedWba (os : Os) (started : os.Started) (H : Type) (enc : TypeId × Value → H) :
    ReturnsInHanded {} Try.checked os 8 .any (Rows.windBackSpec.pre6 enc Try.prog Try.f8 Rows.windBackRow.domain false) (Rows.windBackSpec.post enc Try.prog Try.f8 false true false false) := by
  refine returnsInHanded_of_change (C := Try.checked) own started (by kernel_rfl) Try.func8
    (ChangeSpec.witness6 (enc := enc) (C := Try.checked) false ⟨#[], #[.slice none 0 0, .agg #[.int .i64 0, .int .i64 0, .int .i64 0]], []⟩ 8 (by kernel_rfl) (by kernel_rfl) (by kernel_rfl) (by kernel_rfl)) ?_
  intro W base args ds gs before hval0 hW hcnd _
  have hW' := hW
  obtain ⟨p, q, hA0, hV, rfl, hfz, hnd⟩ := hW
  have hA : DataW.TrodAll enc Try.prog W 0 (fun _ => true) true Try.f8.params.toList args.toList ds p := hA0
  have hval : ∀ (j : Nat) t v, Try.f8.params[j]? = some t → args[j]? = some v → Value.okWide Try.prog W .any base t v := hval0
  rw [Try.params8] at hA hval
  obtain ⟨v0, vs0, d0, ds0, p0, q0, hargs, rfl, rfl, h0, r0⟩ := trodAll_cons hA
  obtain ⟨v1, vs1, d1, ds1, p1, q1, rfl, rfl, rfl, h1, r1⟩ := trodAll_cons r0
  obtain ⟨rfl, rfl, rfl⟩ := trodAll_nil r1
  obtain rfl : args = #[v0, v1] := by cases args; simp_all
  obtain ⟨rfl, rfl⟩ := trodVars_none hV
  obtain ⟨a0, len0, cap0, rfl⟩ := okWide_slice Try.underlying58 (hval 0 58 v0 rfl rfl)
  obtain ⟨cs1, rfl, _⟩ := okWide_struct Try.underlying36 (hval 1 36 v1 rfl rfl)
  have k0 := h0
  have k1 := h1
  have lt0 : ∀ x ∈ p0, x.block < W.heap.size := by obtain ⟨m, hm⟩ := k0; exact DataW.trod_lt m _ _ _ hm
  have lt1 : ∀ x ∈ p1, x.block < W.heap.size := by obtain ⟨m, hm⟩ := k1; exact DataW.trod_lt m _ _ _ hm
  obtain ⟨x0, hx0, hr0⟩ : ∃ l : List (Int × Int), (∀ a ∈ l, inP a) ∧ Rep (allMem W) noLoc (.slc false 2 l.length (ptsI l)) (.slice a0 len0 cap0) := by
    obtain ⟨fuel, hf⟩ := h0
    exact open_pts (by simpa [Value.cells] using hf)
  obtain ⟨x1, hx1, e1⟩ : ∃ a : Int × Int × Int, inD a ∧ cs1.toList = [.int .i64 a.1, .int .i64 a.2.1, .int .i64 a.2.2] := by
    obtain ⟨fuel, hf⟩ := h1
    exact open_dot (by simpa [Value.cells] using hf)
  obtain rfl := dot_arr e1
  clear hA0 hval0
  refine (walkWba x0 x1 hx0 hx1 _ W hr0).mono fun e W' ⟨he, bel⟩ => ?_
  subst he
  exact ⟨_, rfl, _, _, _, [], _, [], hW', trodAll_mk1 (shut_bool Try.underlying4 _), (trodAll_cons_mk (Below.trod laidOut (by kernel_rfl) (of_decide_eq_true (by kernel_rfl)) k0 bel lt0) (trodAll_cons_mk (Below.trod laidOut (by kernel_rfl) (of_decide_eq_true (by kernel_rfl)) k1 bel lt1) trodAll_mk0)), rfl, bel.frame _, fun h => by cases h⟩
theorem wbaNamed : Try.checked.prog.funcNamed Rows.windBackRow.func = some 8 := by kernel_rfl
theorem wbaJoined : joinedFacts Try.checked.prog 8 Try.f8 Rows.windBackSpec Rows.windBackRow = true := by kernel_rfl
theorem wbaInst : Try.f8.isInstance Try.checked.prog Rows.windBackRow.origin Rows.windBackRow.targs := of_decide_eq_true (by kernel_rfl)
theorem wbaWrap : Try.f8.isWrapper Try.checked.prog Rows.windBackRow.wrapper Rows.windBackRow.mainSum := by unfold Func.isWrapper; first | (rw [if_pos (by decide +kernel)]; kernel_rfl) | (rw [if_neg (by decide +kernel)]; exact ⟨rfl, rfl⟩)
theorem wind_back_law : Rows.WindBackSaid :=
  OpenClaim.holds_of_wide 8 Try.f8 rfl rfl rfl rfl rfl rfl rfl ⟨rfl, rfl, rfl, rfl, rfl⟩ rfl rfl rfl rfl rfl wbaNamed Try.func8 wbaJoined
    wbaInst wbaWrap
    (fun os started H enc _ => liftedWba os started H enc)
#print axioms wind_back_law
end Go.Proofs.Ytmmkclefdpmjlaa

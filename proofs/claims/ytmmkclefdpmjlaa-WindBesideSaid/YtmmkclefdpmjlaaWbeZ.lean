/- WindBeside: every call of the law returns true. Printed by a program (wip/gen/entry.py). -/
import Derived.Test.YtmmkclefdpmjlaaRi4
import Derived.Test.YtmmkclefdpmjlaaEn2b
set_option linter.unusedSimpArgs false
set_option linter.unusedVariables false
namespace Go.Proofs.Ytmmkclefdpmjlaa
open Go.ChangeShapes Go.WideShapes Go.ChangeAt Go.RowKit Go.Deep Go.Fw
open Go.ChangeMaps (open_string shut_string)
set_option linter.unusedVariables false
theorem walkWbe (x0 : List (Int × Int)) (x1 : Int × Int × Int) (x2 : Int × Int × Int) (hx0 : ∀ a ∈ x0, inP a) (hx1 : inD x1) (hx2 : inD x2) (y0 : Value) (w : World) (hr0 : Rep (allMem w) noLoc (.slc false 2 x0.length (ptsI x0)) y0) :
    Calls Try.prog 6 #[y0, dotV x1, dotV x2] w fun e w' => e = .returned (.bool true) ∧ Below w.heap.size w w' :=
  law_calls Try.call6 (lawBeside_ok x0 x1 x2 hx0 hx1 hx2) w _ rfl ⟨⟨_, rfl, hr0⟩, ⟨_, rfl, rep_dot w x1⟩, ⟨_, rfl, rep_dot w x2⟩, trivial⟩
set_option maxRecDepth 100000 in
theorem liftedWbe (os : Os) (started : os.Started) (H : Type) (enc : TypeId × Value → H) :
    ReturnsInHanded {} Try.checked os 6 .any (Rows.windBesideSpec.pre6 enc Try.prog Try.f6 Rows.windBesideRow.domain false) (Rows.windBesideSpec.post enc Try.prog Try.f6 false true false false) := by
  refine returnsInHanded_of_change (C := Try.checked) own started (by kernel_rfl) Try.func6
    (ChangeSpec.witness6 (enc := enc) (C := Try.checked) false ⟨#[], #[.slice none 0 0, .agg #[.int .i64 0, .int .i64 0, .int .i64 0], .agg #[.int .i64 0, .int .i64 0, .int .i64 0]], []⟩ 8 (by kernel_rfl) (by kernel_rfl) (by kernel_rfl) (by kernel_rfl)) ?_
  intro W base args ds gs before hval0 hW hcnd _
  have hW' := hW
  obtain ⟨p, q, hA0, hV, rfl, hfz, hnd⟩ := hW
  have hA : DataW.TrodAll enc Try.prog W 0 (fun _ => true) true Try.f6.params.toList args.toList ds p := hA0
  have hval : ∀ (j : Nat) t v, Try.f6.params[j]? = some t → args[j]? = some v → Value.okWide Try.prog W .any base t v := hval0
  rw [Try.params6] at hA hval
  obtain ⟨v0, vs0, d0, ds0, p0, q0, hargs, rfl, rfl, h0, r0⟩ := trodAll_cons hA
  obtain ⟨v1, vs1, d1, ds1, p1, q1, rfl, rfl, rfl, h1, r1⟩ := trodAll_cons r0
  obtain ⟨v2, vs2, d2, ds2, p2, q2, rfl, rfl, rfl, h2, r2⟩ := trodAll_cons r1
  obtain ⟨rfl, rfl, rfl⟩ := trodAll_nil r2
  obtain rfl : args = #[v0, v1, v2] := by cases args; simp_all
  obtain ⟨rfl, rfl⟩ := trodVars_none hV
  obtain ⟨a0, len0, cap0, rfl⟩ := okWide_slice Try.underlying58 (hval 0 58 v0 rfl rfl)
  obtain ⟨cs1, rfl, _⟩ := okWide_struct Try.underlying36 (hval 1 36 v1 rfl rfl)
  obtain ⟨cs2, rfl, _⟩ := okWide_struct Try.underlying36 (hval 2 36 v2 rfl rfl)
  have k0 := h0
  have k1 := h1
  have k2 := h2
  have lt0 : ∀ x ∈ p0, x.block < W.heap.size := by obtain ⟨m, hm⟩ := k0; exact DataW.trod_lt m _ _ _ hm
  have lt1 : ∀ x ∈ p1, x.block < W.heap.size := by obtain ⟨m, hm⟩ := k1; exact DataW.trod_lt m _ _ _ hm
  have lt2 : ∀ x ∈ p2, x.block < W.heap.size := by obtain ⟨m, hm⟩ := k2; exact DataW.trod_lt m _ _ _ hm
  obtain ⟨x0, hx0, hr0⟩ : ∃ l : List (Int × Int), (∀ a ∈ l, inP a) ∧ Rep (allMem W) noLoc (.slc false 2 l.length (ptsI l)) (.slice a0 len0 cap0) := by
    obtain ⟨fuel, hf⟩ := h0
    exact open_pts (by simpa [Value.cells] using hf)
  obtain ⟨x1, hx1, e1⟩ : ∃ a : Int × Int × Int, inD a ∧ cs1.toList = [.int .i64 a.1, .int .i64 a.2.1, .int .i64 a.2.2] := by
    obtain ⟨fuel, hf⟩ := h1
    exact open_dot (by simpa [Value.cells] using hf)
  obtain ⟨x2, hx2, e2⟩ : ∃ a : Int × Int × Int, inD a ∧ cs2.toList = [.int .i64 a.1, .int .i64 a.2.1, .int .i64 a.2.2] := by
    obtain ⟨fuel, hf⟩ := h2
    exact open_dot (by simpa [Value.cells] using hf)
  obtain rfl := dot_arr e1
  obtain rfl := dot_arr e2
  clear hA0 hval0
  refine (walkWbe x0 x1 x2 hx0 hx1 hx2 _ W hr0).mono fun e W' ⟨he, bel⟩ => ?_
  subst he
  exact ⟨_, rfl, _, _, _, [], _, [], hW', trodAll_mk1 (shut_bool Try.underlying4 _), (trodAll_cons_mk (Below.trod laidOut (by kernel_rfl) (of_decide_eq_true (by kernel_rfl)) k0 bel lt0) (trodAll_cons_mk (Below.trod laidOut (by kernel_rfl) (of_decide_eq_true (by kernel_rfl)) k1 bel lt1) (trodAll_cons_mk (Below.trod laidOut (by kernel_rfl) (of_decide_eq_true (by kernel_rfl)) k2 bel lt2) trodAll_mk0))), rfl, bel.frame _, fun h => by cases h⟩
theorem wbeNamed : Try.checked.prog.funcNamed Rows.windBesideRow.func = some 6 := by kernel_rfl
theorem wbeJoined : joinedFacts Try.checked.prog 6 Try.f6 Rows.windBesideSpec Rows.windBesideRow = true := by kernel_rfl
theorem wbeInst : Try.f6.isInstance Try.checked.prog Rows.windBesideRow.origin Rows.windBesideRow.targs := of_decide_eq_true (by kernel_rfl)
theorem wbeWrap : Try.f6.isWrapper Try.checked.prog Rows.windBesideRow.wrapper Rows.windBesideRow.mainSum := by unfold Func.isWrapper; first | (rw [if_pos (by decide +kernel)]; kernel_rfl) | (rw [if_neg (by decide +kernel)]; exact ⟨rfl, rfl⟩)
theorem wind_beside_law : Rows.WindBesideSaid :=
  OpenClaim.holds_of_wide 6 Try.f6 rfl rfl rfl rfl rfl rfl rfl ⟨rfl, rfl, rfl, rfl, rfl⟩ rfl rfl rfl rfl rfl wbeNamed Try.func6 wbeJoined
    wbeInst wbeWrap
    (fun os started H enc _ => liftedWbe os started H enc)
#print axioms wind_beside_law
end Go.Proofs.Ytmmkclefdpmjlaa

/- ReachCloser: every call of the law returns true. Printed by a program (wip/gen/entry.py). -/
import Derived.Test.YtehmofcajiefiaaGreatY4
import Derived.Test.YtehmofcajiefiaaGreatEnt
set_option linter.unusedSimpArgs false
set_option linter.unusedVariables false
namespace Go.Proofs.YtehmofcajiefiaaGreat
open Go.ChangeShapes Go.WideShapes Go.ChangeAt Go.RowKit Go.Deep Go.Fw
open Go.ChangeMaps (open_string shut_string)
set_option linter.unusedVariables false
theorem walkRcl (x0 : Int × Int × Int) (x1 : Int × Int × Int) (x2 : Int × Int × Int) (x3 : Int × Int × Int) (x4 : Int) (hx0 : inD x0) (hx1 : inD x1) (hx2 : inD x2) (hx3 : inD x3) (hx4 : inI x4) (w : World) :
    Calls Tryz.prog 5 #[dotV x0, dotV x1, dotV x2, dotV x3, .int .i64 x4] w fun e w' => e = .returned (.bool true) ∧ Below w.heap.size w w' :=
  law_calls Tryz.call5 (lawReachCloser_ok x0 x1 x2 x3 x4 hx0 hx1 hx2 hx3 hx4) w _ rfl ⟨⟨_, rfl, rep_dot w x0⟩, ⟨_, rfl, rep_dot w x1⟩, ⟨_, rfl, rep_dot w x2⟩, ⟨_, rfl, rep_dot w x3⟩, ⟨_, rfl, rfl, rfl⟩, trivial⟩
set_option maxRecDepth 100000 in
theorem liftedRcl (os : Os) (started : os.Started) (H : Type) (enc : TypeId × Value → H) :
    ReturnsInHanded {} Tryz.checked os 5 .any (Rows.reachCloserSpec.pre6 enc Tryz.prog Tryz.f5 Rows.reachCloserRow.domain false) (Rows.reachCloserSpec.post enc Tryz.prog Tryz.f5 false true false false) := by
  refine returnsInHanded_of_change (C := Tryz.checked) own started (by kernel_rfl) Tryz.func5
    (ChangeSpec.witness6 (enc := enc) (C := Tryz.checked) false ⟨#[], #[.agg #[.int .i64 0, .int .i64 0, .int .i64 0], .agg #[.int .i64 0, .int .i64 0, .int .i64 0], .agg #[.int .i64 0, .int .i64 0, .int .i64 0], .agg #[.int .i64 0, .int .i64 0, .int .i64 0], .int .i64 0], []⟩ 8 (by kernel_rfl) (by kernel_rfl) (by kernel_rfl) (by kernel_rfl)) ?_
  intro W base args ds gs before hval0 hW hcnd _
  have hW' := hW
  obtain ⟨p, q, hA0, hV, rfl, hfz, hnd⟩ := hW
  have hA : DataW.TrodAll enc Tryz.prog W 0 (fun _ => true) true Tryz.f5.params.toList args.toList ds p := hA0
  have hval : ∀ (j : Nat) t v, Tryz.f5.params[j]? = some t → args[j]? = some v → Value.okWide Tryz.prog W .any base t v := hval0
  rw [Tryz.params5] at hA hval
  obtain ⟨v0, vs0, d0, ds0, p0, q0, hargs, rfl, rfl, h0, r0⟩ := trodAll_cons hA
  obtain ⟨v1, vs1, d1, ds1, p1, q1, rfl, rfl, rfl, h1, r1⟩ := trodAll_cons r0
  obtain ⟨v2, vs2, d2, ds2, p2, q2, rfl, rfl, rfl, h2, r2⟩ := trodAll_cons r1
  obtain ⟨v3, vs3, d3, ds3, p3, q3, rfl, rfl, rfl, h3, r3⟩ := trodAll_cons r2
  obtain ⟨v4, vs4, d4, ds4, p4, q4, rfl, rfl, rfl, h4, r4⟩ := trodAll_cons r3
  obtain ⟨rfl, rfl, rfl⟩ := trodAll_nil r4
  obtain rfl : args = #[v0, v1, v2, v3, v4] := by cases args; simp_all
  obtain ⟨rfl, rfl⟩ := trodVars_none hV
  obtain ⟨cs0, rfl, _⟩ := okWide_struct Tryz.underlying23 (hval 0 23 v0 rfl rfl)
  obtain ⟨cs1, rfl, _⟩ := okWide_struct Tryz.underlying23 (hval 1 23 v1 rfl rfl)
  obtain ⟨cs2, rfl, _⟩ := okWide_struct Tryz.underlying23 (hval 2 23 v2 rfl rfl)
  obtain ⟨cs3, rfl, _⟩ := okWide_struct Tryz.underlying23 (hval 3 23 v3 rfl rfl)
  obtain ⟨x4, rfl⟩ := okWide_int Tryz.underlying3 (hval 4 3 v4 rfl rfl)
  have k0 := h0
  have k1 := h1
  have k2 := h2
  have k3 := h3
  have k4 := h4
  have lt0 : ∀ x ∈ p0, x.block < W.heap.size := by obtain ⟨m, hm⟩ := k0; exact DataW.trod_lt m _ _ _ hm
  have lt1 : ∀ x ∈ p1, x.block < W.heap.size := by obtain ⟨m, hm⟩ := k1; exact DataW.trod_lt m _ _ _ hm
  have lt2 : ∀ x ∈ p2, x.block < W.heap.size := by obtain ⟨m, hm⟩ := k2; exact DataW.trod_lt m _ _ _ hm
  have lt3 : ∀ x ∈ p3, x.block < W.heap.size := by obtain ⟨m, hm⟩ := k3; exact DataW.trod_lt m _ _ _ hm
  have lt4 : ∀ x ∈ p4, x.block < W.heap.size := by obtain ⟨m, hm⟩ := k4; exact DataW.trod_lt m _ _ _ hm
  obtain ⟨x0, hx0, e0⟩ : ∃ a : Int × Int × Int, inD a ∧ cs0.toList = [.int .i64 a.1, .int .i64 a.2.1, .int .i64 a.2.2] := by
    obtain ⟨fuel, hf⟩ := h0
    exact open_dot (by simpa [Value.cells] using hf)
  obtain ⟨x1, hx1, e1⟩ : ∃ a : Int × Int × Int, inD a ∧ cs1.toList = [.int .i64 a.1, .int .i64 a.2.1, .int .i64 a.2.2] := by
    obtain ⟨fuel, hf⟩ := h1
    exact open_dot (by simpa [Value.cells] using hf)
  obtain ⟨x2, hx2, e2⟩ : ∃ a : Int × Int × Int, inD a ∧ cs2.toList = [.int .i64 a.1, .int .i64 a.2.1, .int .i64 a.2.2] := by
    obtain ⟨fuel, hf⟩ := h2
    exact open_dot (by simpa [Value.cells] using hf)
  obtain ⟨x3, hx3, e3⟩ : ∃ a : Int × Int × Int, inD a ∧ cs3.toList = [.int .i64 a.1, .int .i64 a.2.1, .int .i64 a.2.2] := by
    obtain ⟨fuel, hf⟩ := h3
    exact open_dot (by simpa [Value.cells] using hf)
  have hx4 : inI x4 := by
    obtain ⟨fuel, hf⟩ := h4
    exact open_inI (by simpa [Value.cells] using hf)
  obtain rfl := dot_arr e0
  obtain rfl := dot_arr e1
  obtain rfl := dot_arr e2
  obtain rfl := dot_arr e3
  clear hA0 hval0
  refine (walkRcl x0 x1 x2 x3 x4 hx0 hx1 hx2 hx3 hx4 W).mono fun e W' ⟨he, bel⟩ => ?_
  subst he
  exact ⟨_, rfl, _, _, _, [], _, [], hW', trodAll_mk1 (shut_bool Tryz.underlying4 _), (trodAll_cons_mk (Below.trod laidOut (by kernel_rfl) (of_decide_eq_true (by kernel_rfl)) k0 bel lt0) (trodAll_cons_mk (Below.trod laidOut (by kernel_rfl) (of_decide_eq_true (by kernel_rfl)) k1 bel lt1) (trodAll_cons_mk (Below.trod laidOut (by kernel_rfl) (of_decide_eq_true (by kernel_rfl)) k2 bel lt2) (trodAll_cons_mk (Below.trod laidOut (by kernel_rfl) (of_decide_eq_true (by kernel_rfl)) k3 bel lt3) (trodAll_cons_mk (Below.trod laidOut (by kernel_rfl) (of_decide_eq_true (by kernel_rfl)) k4 bel lt4) trodAll_mk0))))), rfl, bel.frame _, fun h => by cases h⟩
theorem rclNamed : Tryz.checked.prog.funcNamed Rows.reachCloserRow.func = some 5 := by kernel_rfl
theorem rclJoined : joinedFacts Tryz.checked.prog 5 Tryz.f5 Rows.reachCloserSpec Rows.reachCloserRow = true := by kernel_rfl
theorem rclInst : Tryz.f5.isInstance Tryz.checked.prog Rows.reachCloserRow.origin Rows.reachCloserRow.targs := of_decide_eq_true (by kernel_rfl)
theorem rclWrap : Tryz.f5.isWrapper Tryz.checked.prog Rows.reachCloserRow.wrapper Rows.reachCloserRow.mainSum := by unfold Func.isWrapper; first | (rw [if_pos (by decide +kernel)]; kernel_rfl) | (rw [if_neg (by decide +kernel)]; exact ⟨rfl, rfl⟩)
theorem reach_closer_law : Rows.ReachCloserSaid :=
  OpenClaim.holds_of_wide 5 Tryz.f5 rfl rfl rfl rfl rfl rfl rfl ⟨rfl, rfl, rfl, rfl, rfl⟩ rfl rfl rfl rfl rfl rclNamed Tryz.func5 rclJoined
    rclInst rclWrap
    (fun os started H enc _ => liftedRcl os started H enc)
#print axioms reach_closer_law
end Go.Proofs.YtehmofcajiefiaaGreat

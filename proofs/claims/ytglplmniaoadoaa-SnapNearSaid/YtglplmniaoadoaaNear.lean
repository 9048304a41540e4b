/- SnapNear: every call of the law returns true. -/
import Derived.Test.YtglplmniaoadoaaS8
import Derived.Test.YtglplmniaoadoaaOp
namespace Go.Proofs.Ytglplmniaoadoaa
open Go.ChangeShapes Go.WideShapes Go.ChangeAt Go.RowKit Go.Deep Go.Fw
open Go.ChangeMaps (open_string shut_string)
set_option linter.unusedVariables false

theorem own : ownKnob Try.prog.godebug = none := by kernel_rfl
theorem laidOut : laidOutB Try.prog = true := by kernel_rfl
theorem cells36 : Try.prog.cellsOf 36 = 3 := by kernel_rfl
theorem cells3 : Try.prog.cellsOf 3 = 1 := by kernel_rfl

theorem wf_inI {m : Int} (h : (Lit.int .i64 m).wf = true) : inI m := by
  simp [Lit.wf, IntKind.min, IntKind.max, IntKind.signed, IntKind.bits] at h
  unfold inI
  omega

set_option maxRecDepth 100000 in
/-- A point by small numbers, opened. -/
theorem open_dot {H : Type} {enc : TypeId × Value → H} {w : World} {sp : Nat → Bool} {held : Bool} {n : Nat} {cs : List Value} {y : DataW H × List MemPlace} (h : DataW.trod enc Try.prog w 0 sp held n 36 cs = some y) :
    ∃ a : D3, a.ok ∧ cs = [.int .i64 a.x, .int .i64 a.y, .int .i64 a.d] := by
  obtain ⟨y0, y1, y2, m, _, hl, h0, h1, h2⟩ := trod_struct3 Try.underlying36 h
  rw [cells36] at hl
  match cs, hl with
  | [c0, c1, c2], _ =>
    simp only [cells3, List.drop, List.take] at h0 h1 h2
    obtain ⟨x0, e0, k0⟩ := open_int1 Try.underlying3 h0
    obtain ⟨x1, e1, k1⟩ := open_int1 Try.underlying3 h1
    obtain ⟨x2, e2, k2⟩ := open_int1 Try.underlying3 h2
    simp only [List.cons.injEq, and_true] at e0 e1 e2
    subst e0 e1 e2
    exact ⟨⟨x0, x1, x2⟩, ⟨wf_inI k0, wf_inI k1⟩, rfl⟩
theorem dot_arr {cs : Array Value} {a : D3} (h : cs.toList = [.int .i64 a.x, .int .i64 a.y, .int .i64 a.d]) : cs = #[.int .i64 a.x, .int .i64 a.y, .int .i64 a.d] := by
  cases cs
  simpa using h

theorem walkNear (a b c : D3) (u v : Int) (ha : a.ok) (hb : b.ok) (hc : c.ok) (w : World) :
    Calls Try.prog 4 #[.agg #[.int .i64 a.x, .int .i64 a.y, .int .i64 a.d], .agg #[.int .i64 b.x, .int .i64 b.y, .int .i64 b.d], .agg #[.int .i64 c.x, .int .i64 c.y, .int .i64 c.d], .int .i64 u, .int .i64 v] w fun e w' => e = .returned (.bool true) ∧ Below w.heap.size w w' :=
  have key : ∀ a : D3, RepAt (allMem w) noLoc [i64V a.x, i64V a.y, i64V a.d] #[.int .i64 a.x, .int .i64 a.y, .int .i64 a.d] 0 := fun a => ⟨⟨_, rfl, rfl, rfl, rfl⟩, ⟨_, rfl, rfl, rfl, rfl⟩, ⟨_, rfl, rfl, rfl, rfl⟩, trivial⟩
  law_calls Try.call4 (lawNear_ok a b c u v ha hb hc) w _ rfl ⟨⟨_, rfl, _, rfl, rfl, key a⟩, ⟨_, rfl, _, rfl, rfl, key b⟩, ⟨_, rfl, _, rfl, rfl, key c⟩, ⟨_, rfl, rfl, rfl⟩, ⟨_, rfl, rfl, rfl⟩, trivial⟩

set_option maxRecDepth 100000 in
theorem liftedNear (os : Os) (started : os.Started) (H : Type) (enc : TypeId × Value → H) :
    ReturnsInHanded {} Try.checked os 4 .any (Rows.snapNearSpec.pre6 enc Try.prog Try.f4 Rows.snapNearRow.domain false) (Rows.snapNearSpec.post enc Try.prog Try.f4 false true false false) := by
  refine returnsInHanded_of_change (C := Try.checked) own started (by kernel_rfl) Try.func4
    (ChangeSpec.witness6 (enc := enc) (C := Try.checked) false ⟨#[], #[.agg #[.int .i64 0, .int .i64 0, .int .i64 0], .agg #[.int .i64 0, .int .i64 0, .int .i64 0], .agg #[.int .i64 0, .int .i64 0, .int .i64 0], .int .i64 0, .int .i64 0], []⟩ 8 (by kernel_rfl) (by kernel_rfl) (by kernel_rfl) (by kernel_rfl)) ?_
  intro W base args ds gs before hval0 hW hcnd _
  have hW' := hW
  obtain ⟨p, q, hA0, hV, rfl, hfz, hnd⟩ := hW
  have hA : DataW.TrodAll enc Try.prog W 0 (fun _ => true) true Try.f4.params.toList args.toList ds p := hA0
  have hval : ∀ (j : Nat) t v, Try.f4.params[j]? = some t → args[j]? = some v → Value.okWide Try.prog W .any base t v := hval0
  rw [Try.params4] at hA hval
  obtain ⟨v0, vs0, d0, ds0, p0, q0, hargs, rfl, rfl, h0, r0⟩ := trodAll_cons hA
  obtain ⟨v1, vs1, d1, ds1, p1, q1, rfl, rfl, rfl, h1, r1⟩ := trodAll_cons r0
  obtain ⟨v2, vs2, d2, ds2, p2, q2, rfl, rfl, rfl, h2, r2⟩ := trodAll_cons r1
  obtain ⟨v3, vs3, d3, ds3, p3, q3, rfl, rfl, rfl, h3, r3⟩ := trodAll_cons r2
  obtain ⟨v4, vs4, d4, ds4, p4, q4, rfl, rfl, rfl, h4, r4⟩ := trodAll_cons r3
  obtain ⟨rfl, rfl, rfl⟩ := trodAll_nil r4
  obtain rfl : args = #[v0, v1, v2, v3, v4] := by cases args; simp_all
  obtain ⟨rfl, rfl⟩ := trodVars_none hV
  obtain ⟨cs0, rfl, _⟩ := okWide_struct Try.underlying36 (hval 0 36 v0 rfl rfl)
  obtain ⟨cs1, rfl, _⟩ := okWide_struct Try.underlying36 (hval 1 36 v1 rfl rfl)
  obtain ⟨cs2, rfl, _⟩ := okWide_struct Try.underlying36 (hval 2 36 v2 rfl rfl)
  obtain ⟨u, rfl⟩ := okWide_int Try.underlying3 (hval 3 3 v3 rfl rfl)
  obtain ⟨v, rfl⟩ := okWide_int Try.underlying3 (hval 4 3 v4 rfl rfl)
  have k0 := h0
  have k1 := h1
  have k2 := h2
  have k3 := h3
  have k4 := h4
  have lt0 : ∀ x ∈ p0, x.block < W.heap.size := by obtain ⟨m, hm⟩ := k0; exact DataW.trod_lt m _ _ _ hm
  have lt1 : ∀ x ∈ p1, x.block < W.heap.size := by obtain ⟨m, hm⟩ := k1; exact DataW.trod_lt m _ _ _ hm
  have lt2 : ∀ x ∈ p2, x.block < W.heap.size := by obtain ⟨m, hm⟩ := k2; exact DataW.trod_lt m _ _ _ hm
  have lt3 : ∀ x ∈ p3, x.block < W.heap.size := by obtain ⟨m, hm⟩ := k3; exact DataW.trod_lt m _ _ _ hm
  have lt4 : ∀ x ∈ p4, x.block < W.heap.size := by obtain ⟨m, hm⟩ := k4; exact DataW.trod_lt m _ _ _ hm
  obtain ⟨a, ha, e0⟩ : ∃ a : D3, a.ok ∧ cs0.toList = [.int .i64 a.x, .int .i64 a.y, .int .i64 a.d] := by
    obtain ⟨fuel, hf⟩ := h0
    exact open_dot (by simpa [Value.cells] using hf)
  obtain ⟨b, hb, e1⟩ : ∃ a : D3, a.ok ∧ cs1.toList = [.int .i64 a.x, .int .i64 a.y, .int .i64 a.d] := by
    obtain ⟨fuel, hf⟩ := h1
    exact open_dot (by simpa [Value.cells] using hf)
  obtain ⟨c, hc, e2⟩ : ∃ a : D3, a.ok ∧ cs2.toList = [.int .i64 a.x, .int .i64 a.y, .int .i64 a.d] := by
    obtain ⟨fuel, hf⟩ := h2
    exact open_dot (by simpa [Value.cells] using hf)
  obtain rfl := dot_arr e0
  obtain rfl := dot_arr e1
  obtain rfl := dot_arr e2
  clear hA0 hval0
  refine (walkNear a b c u v ha hb hc W).mono fun e W' ⟨he, bel⟩ => ?_
  subst he
  exact ⟨_, rfl, _, _, _, [], _, [], hW', trodAll_mk1 (shut_bool Try.underlying4 _), (trodAll_cons_mk (Below.trod laidOut (by kernel_rfl) (of_decide_eq_true (by kernel_rfl)) k0 bel lt0) (trodAll_cons_mk (Below.trod laidOut (by kernel_rfl) (of_decide_eq_true (by kernel_rfl)) k1 bel lt1) (trodAll_cons_mk (Below.trod laidOut (by kernel_rfl) (of_decide_eq_true (by kernel_rfl)) k2 bel lt2) (trodAll_cons_mk (Below.trod laidOut (by kernel_rfl) (of_decide_eq_true (by kernel_rfl)) k3 bel lt3) (trodAll_cons_mk (Below.trod laidOut (by kernel_rfl) (of_decide_eq_true (by kernel_rfl)) k4 bel lt4) trodAll_mk0))))), rfl, bel.frame _, fun h => by cases h⟩

end Go.Proofs.Ytglplmniaoadoaa

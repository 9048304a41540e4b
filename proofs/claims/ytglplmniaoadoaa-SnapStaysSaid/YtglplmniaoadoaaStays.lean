/- SnapStays: every call of the law returns true. -/
import Derived.Test.YtglplmniaoadoaaS11
import Derived.Test.YtglplmniaoadoaaOp
namespace Go.Proofs.Ytglplmniaoadoaa
open Go.ChangeShapes Go.WideShapes Go.ChangeAt Go.RowKit Go.Deep Go.Fw
open Go.ChangeMaps (open_string shut_string)
set_option linter.unusedVariables false

theorem own : ownKnob Try.prog.godebug = none := by kernel_rfl
theorem laidOut : laidOutB Try.prog = true := by kernel_rfl
theorem cellsPt : Try.prog.cellsOf 48 = 2 := by kernel_rfl
theorem cells3 : Try.prog.cellsOf 3 = 1 := by kernel_rfl

theorem wf_inI {m : Int} (h : (Lit.int .i64 m).wf = true) : inI m := by
  simp [Lit.wf, IntKind.min, IntKind.max, IntKind.signed, IntKind.bits] at h
  unfold inI
  omega

set_option maxRecDepth 100000 in
/-- A point of the grid, opened. -/
theorem open_pt {H : Type} {enc : TypeId × Value → H} {w : World} {sp : Nat → Bool} {held : Bool} {n : Nat} {cs : List Value} {y : DataW H × List MemPlace} (h : DataW.trod enc Try.prog w 0 sp held n 48 cs = some y) :
    ∃ q : { q : Int × Int // inI q.1 ∧ inI q.2 }, RepAt (allMem w) noLoc (ptI q.1) cs.toArray 0 := by
  obtain ⟨y0, y1, m, _, hl, h0, h1⟩ := trod_struct2 Try.underlying48 h
  rw [cellsPt] at hl
  match cs, hl with
  | [c0, c1], _ =>
    simp only [cells3, List.drop, List.take] at h0 h1
    obtain ⟨x0, e0, k0⟩ := open_int1 Try.underlying3 h0
    obtain ⟨x1, e1, k1⟩ := open_int1 Try.underlying3 h1
    simp only [List.cons.injEq, and_true] at e0 e1
    subst e0 e1
    exact ⟨⟨(x0, x1), wf_inI k0, wf_inI k1⟩, ⟨_, rfl, rfl, rfl, rfl⟩, ⟨_, rfl, rfl, rfl, rfl⟩, trivial⟩
theorem open_pts {H : Type} {enc : TypeId × Value → H} {w : World} {sp : Nat → Bool} {held : Bool} {n : Nat} {v : Value} {y : DataW H × List MemPlace} (h : DataW.trod enc Try.prog w 0 sp held n 66 [v] = some y) :
    ∃ l : List (Int × Int), (∀ q ∈ l, inI q.1 ∧ inI q.2) ∧ Rep (allMem w) noLoc (.slc false 2 l.length (ptsI l)) v := by
  obtain ⟨l, hl⟩ := open_rows (X := { q : Int × Int // inI q.1 ∧ inI q.2 }) (fun q => ptI q.1) 2 (by omega) (fun _ => rfl) (fun _ => rfl) Try.underlying66 cellsPt (fun _ _ _ hy => open_pt hy) h
  refine ⟨l.map (·.1), ?_, ?_⟩
  · intro q hq
    obtain ⟨p, _, rfl⟩ := List.mem_map.1 hq
    exact p.2
  · have e : ptsI (l.map (·.1)) = l.flatMap (fun q => ptI q.1) := by unfold ptsI; rw [List.flatMap_map]
    rw [List.length_map, e]
    exact hl

theorem walkStays (v : Value) (l : List (Int × Int)) (hl : ∀ q ∈ l, inI q.1 ∧ inI q.2) (w : World) (hr : Rep (allMem w) noLoc (.slc false 2 l.length (ptsI l)) v) :
    Calls Try.prog 6 #[v] w fun e w' => e = .returned (.bool true) ∧ Below w.heap.size w w' := by
  obtain ⟨a, c, hv, hr'⟩ := hr
  exact law_calls Try.call6 (lawStays_ok false l hl) w _ rfl ⟨⟨_, rfl, _, _, hv, hr'⟩, trivial⟩

set_option maxRecDepth 100000 in
theorem liftedStays (os : Os) (started : os.Started) (H : Type) (enc : TypeId × Value → H) :
    ReturnsInHanded {} Try.checked os 6 .any (Rows.snapStaysSpec.pre6 enc Try.prog Try.f6 Rows.snapStaysRow.domain false) (Rows.snapStaysSpec.post enc Try.prog Try.f6 false true false false) := by
  refine returnsInHanded_of_change (C := Try.checked) own started (by kernel_rfl) Try.func6
    (ChangeSpec.witness6 (enc := enc) (C := Try.checked) false ⟨#[], #[.slice none 0 0], []⟩ 8 (by kernel_rfl) (by kernel_rfl) (by kernel_rfl) (by kernel_rfl)) ?_
  intro W base args ds gs before hval0 hW hcnd _
  have hW' := hW
  obtain ⟨p, q, hA0, hV, rfl, hfz, hnd⟩ := hW
  have hA : DataW.TrodAll enc Try.prog W 0 (fun _ => true) true Try.f6.params.toList args.toList ds p := hA0
  rw [Try.params6] at hA
  obtain ⟨v0, vs0, d0, ds0, p0, q0, hargs, rfl, rfl, h0, r0⟩ := trodAll_cons hA
  obtain ⟨rfl, rfl, rfl⟩ := trodAll_nil r0
  obtain rfl : args = #[v0] := by cases args; simp_all
  obtain ⟨rfl, rfl⟩ := trodVars_none hV
  obtain ⟨a0, len0, cap0, rfl⟩ := okWide_slice Try.underlying66 (hval0 0 66 v0 (by rw [Try.params6]; rfl) rfl)
  have k0 := h0
  have lt0 : ∀ x ∈ p0, x.block < W.heap.size := by obtain ⟨m, hm⟩ := k0; exact DataW.trod_lt m _ _ _ hm
  obtain ⟨l, hl, hr⟩ : ∃ l : List (Int × Int), (∀ q ∈ l, inI q.1 ∧ inI q.2) ∧ Rep (allMem W) noLoc (.slc false 2 l.length (ptsI l)) (.slice a0 len0 cap0) := by
    obtain ⟨fuel, hf⟩ := h0
    exact open_pts (by simpa [Value.cells] using hf)
  clear hA0 hval0
  refine (walkStays _ l hl W hr).mono fun e W' ⟨he, bel⟩ => ?_
  subst he
  exact ⟨_, rfl, _, _, _, [], _, [], hW', trodAll_mk1 (shut_bool Try.underlying4 _), (trodAll_cons_mk (Below.trod laidOut (by kernel_rfl) (of_decide_eq_true (by kernel_rfl)) k0 bel lt0) trodAll_mk0), rfl, bel.frame _, fun h => by cases h⟩
end Go.Proofs.Ytglplmniaoadoaa

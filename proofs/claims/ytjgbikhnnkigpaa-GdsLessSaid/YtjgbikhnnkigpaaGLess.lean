/- GdsLess: for every input the law returns true. -/
import Derived.Test.YtjgbikhnnkigpaaGp43
import Derived.Test.YtjgbikhnnkigpaaOpL
set_option linter.unusedSimpArgs false
set_option linter.unusedVariables false
namespace Go.Proofs.Ytjgbikhnnkigpaa
open Go.ChangeShapes Go.WideShapes Go.ChangeAt Go.RowKit Go.Deep Go.Fw
open Go.ChangeMaps (open_string shut_string)
set_option linter.unusedVariables false
theorem own : ownKnob Try.prog.godebug = none := by kernel_rfl
theorem laidOut : laidOutB Try.prog = true := by kernel_rfl
theorem walkGdsLess (cs : Array Value) (t : Lib) (x : Int) (tw : Bool) (w : World) (hs : cs.size = 2) (hr : RepAt (allMem w) noLoc [rowsAV t.1, cellsAV t.2] cs 0) (hf : LibFit t) :
  Calls Try.prog 13 #[.agg cs, .int .i64 x, .bool tw] w fun e w' => e = .returned (.bool true) ∧ Below w.heap.size w w' :=
 law_calls Try.call13 (lawLess_ok t hf x tw) w _ rfl ⟨⟨_, rfl, _, rfl, hs, hr⟩, ⟨_, rfl, rfl, rfl⟩, ⟨_, rfl, rfl, rfl⟩, trivial⟩
set_option maxRecDepth 100000 in
theorem liftedGdsLess (os : Os) (started : os.Started) (H : Type) (enc : TypeId × Value → H) :
  ReturnsInHanded {} Try.checked os 13 .any (Rows.gdsLessSpec.pre6 enc Try.prog Try.f13 Rows.gdsLessRow.domain false) (Rows.gdsLessSpec.post enc Try.prog Try.f13 false true false false) := by
 refine returnsInHanded_of_change_sized (C := Try.checked) own started (by kernel_rfl) Try.func13
  (ChangeSpec.witness6 (enc := enc) (C := Try.checked) false ⟨#[], #[.agg #[.slice none 0 0, .slice none 0 0], .int .i64 0, .bool false], []⟩ 8 (by kernel_rfl) (by kernel_rfl) (by kernel_rfl) (by kernel_rfl)) ?_
 intro W base args ds gs before hval0 hW hcnd hwgt _
 have hval : ∀ (j : Nat) t v, Try.f13.params[j]? = some t → args[j]? = some v → Value.okWide Try.prog W .any base t v := hval0
 have hwgt2 : (DataW.weightsEach Try.prog (Try.f13.params.toList ++ Rows.gdsLessSpec.plain.varTypes Try.prog) (ds ++ gs)).all (· ≤ reachBytes) = true := hwgt
 have hW' := hW
 obtain ⟨p, q, hA0, hV, rfl, hfz, hnd⟩ := hW
 have hA : DataW.TrodAll enc Try.prog W 0 (fun _ => true) true Try.f13.params.toList args.toList ds p := hA0
 rw [Try.params13] at hA hval hwgt2
 obtain ⟨v0, vs0, d0, ds0, p0, q0, hargs, rfl, rfl, h0, r0⟩ := trodAll_cons hA
 obtain ⟨v1, vs1, d1, ds1, p1, q1, rfl, rfl, rfl, h1, r1⟩ := trodAll_cons r0
 obtain ⟨v2, vs2, d2, ds2, p2, q2, rfl, rfl, rfl, h2, r2⟩ := trodAll_cons r1
 obtain ⟨rfl, rfl, rfl⟩ := trodAll_nil r2
 obtain rfl : args = #[v0, v1, v2] := by cases args; simp_all
 obtain ⟨rfl, rfl⟩ := trodVars_none hV
 obtain ⟨cs, rfl, hsz⟩ := okWide_struct Try.underlying58 (hval 0 58 v0 rfl rfl)
 have k0 := h0
 have lt0 : ∀ x ∈ p0, x.block < W.heap.size := by obtain ⟨m, hm⟩ := k0; exact DataW.trod_lt m _ _ _ hm
 have hwk : WOk Try.prog 58 d0 := fun n hn => by
  have := List.all_eq_true.1 hwgt2 n (by simp [DataW.weightsEach, hn])
  simpa using this
 obtain ⟨t, hr, hf⟩ : ∃ t : Lib, RepAt (allMem W) noLoc [rowsAV t.1, cellsAV t.2] cs 0 ∧ LibFit t := by
  obtain ⟨fuel, hf⟩ := h0
  obtain ⟨t, _, hr, hf⟩ := open_libZ hf hwk
  exact ⟨t, by simpa [Value.cells] using hr, hf⟩
 rw [cellsZ58] at hsz
 obtain ⟨x, rfl⟩ := okWide_int Try.underlying3 (hval 1 3 v1 rfl rfl)
 have k1 := h1
 have lt1 : ∀ x ∈ p1, x.block < W.heap.size := by obtain ⟨m, hm⟩ := k1; exact DataW.trod_lt m _ _ _ hm
 obtain ⟨tw, rfl⟩ := okWide_bool Try.underlying4 (hval 2 4 v2 rfl rfl)
 have k2 := h2
 have lt2 : ∀ x ∈ p2, x.block < W.heap.size := by obtain ⟨m, hm⟩ := k2; exact DataW.trod_lt m _ _ _ hm
 clear hA0 hval0
 refine (walkGdsLess cs t x tw W hsz hr hf).mono fun e W' ⟨he, bel⟩ => ?_
 subst he
 exact ⟨_, rfl, _, _, _, [], _, [], hW', trodAll_mk1 (shut_bool Try.underlying4 _), (trodAll_cons_mk (Below.trod laidOut (by kernel_rfl) (of_decide_eq_true (by kernel_rfl)) k0 bel lt0) (trodAll_cons_mk (Below.trod laidOut (by kernel_rfl) (of_decide_eq_true (by kernel_rfl)) k1 bel lt1) (trodAll_cons_mk (Below.trod laidOut (by kernel_rfl) (of_decide_eq_true (by kernel_rfl)) k2 bel lt2) trodAll_mk0))), rfl, bel.frame _, fun h => by cases h⟩
theorem gds_less : Rows.GdsLessSaid :=
 OpenClaim.holds_of_wide 13 Try.f13 rfl rfl rfl rfl rfl rfl rfl ⟨rfl, rfl, rfl, rfl, rfl⟩ rfl rfl rfl rfl rfl (by kernel_rfl) Try.func13 (by kernel_rfl)
  (of_decide_eq_true (by kernel_rfl)) (by unfold Func.isWrapper; first | (rw [if_pos (by decide +kernel)]; kernel_rfl) | (rw [if_neg (by decide +kernel)]; exact ⟨rfl, rfl⟩))
  (fun os started H enc _ => liftedGdsLess os started H enc)
#print axioms gds_less
end Go.Proofs.Ytjgbikhnnkigpaa

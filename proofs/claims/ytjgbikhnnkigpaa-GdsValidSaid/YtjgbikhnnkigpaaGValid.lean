/- GdsValid: for every input the law returns true. -/
import Derived.Test.YtjgbikhnnkigpaaGp42
import Derived.Test.YtjgbikhnnkigpaaOpL
set_option linter.unusedSimpArgs false
set_option linter.unusedVariables false
namespace Go.Proofs.Ytjgbikhnnkigpaa
open Go.ChangeShapes Go.WideShapes Go.ChangeAt Go.RowKit Go.Deep Go.Fw
open Go.ChangeMaps (open_string shut_string)
set_option linter.unusedVariables false
theorem own : ownKnob Try.prog.godebug = none := by kernel_rfl
theorem laidOut : laidOutB Try.prog = true := by kernel_rfl
theorem walkGdsValid (cs : Array Value) (t : Lib) (w : World) (hs : cs.size = 2) (hr : RepAt (allMem w) noLoc [rowsAV t.1, cellsAV t.2] cs 0) (hf : LibFit t) :
  Calls Try.prog 10 #[.agg cs] w fun e w' => e = .returned (.bool true) ∧ Below w.heap.size w w' :=
 law_calls Try.call10 (lawValid_ok t hf) w _ rfl ⟨⟨_, rfl, _, rfl, hs, hr⟩, trivial⟩
set_option maxRecDepth 100000 in
theorem liftedGdsValid (os : Os) (started : os.Started) (H : Type) (enc : TypeId × Value → H) :
  ReturnsInHanded {} Try.checked os 10 .any (Rows.gdsValidSpec.pre6 enc Try.prog Try.f10 Rows.gdsValidRow.domain false) (Rows.gdsValidSpec.post enc Try.prog Try.f10 false true false false) := by
 refine returnsInHanded_of_change_sized (C := Try.checked) own started (by kernel_rfl) Try.func10
  (ChangeSpec.witness6 (enc := enc) (C := Try.checked) false ⟨#[], #[.agg #[.slice none 0 0, .slice none 0 0]], []⟩ 8 (by kernel_rfl) (by kernel_rfl) (by kernel_rfl) (by kernel_rfl)) ?_
 intro W base args ds gs before hval0 hW hcnd hwgt _
 have hval : ∀ (j : Nat) t v, Try.f10.params[j]? = some t → args[j]? = some v → Value.okWide Try.prog W .any base t v := hval0
 have hwgt2 : (DataW.weightsEach Try.prog (Try.f10.params.toList ++ Rows.gdsValidSpec.plain.varTypes Try.prog) (ds ++ gs)).all (· ≤ reachBytes) = true := hwgt
 have hW' := hW
 obtain ⟨p, q, hA0, hV, rfl, hfz, hnd⟩ := hW
 have hA : DataW.TrodAll enc Try.prog W 0 (fun _ => true) true Try.f10.params.toList args.toList ds p := hA0
 rw [Try.params10] at hA hval hwgt2
 obtain ⟨v0, vs0, d0, ds0, p0, q0, hargs, rfl, rfl, h0, r0⟩ := trodAll_cons hA
 obtain ⟨rfl, rfl, rfl⟩ := trodAll_nil r0
 obtain rfl : args = #[v0] := by cases args; simp_all
 obtain ⟨rfl, rfl⟩ := trodVars_none hV
 obtain ⟨cs, rfl, hsz⟩ := okWide_struct Try.underlying58 (hval 0 58 v0 rfl rfl)
 have k0 := h0
 have lt0 : ∀ x ∈ p0, x.block < W.heap.size := by obtain ⟨m, hm⟩ := k0; exact DataW.trod_lt m _ _ _ hm
 have hwk : WOk Try.prog 58 d0 := fun n hn => by
  have := List.all_eq_true.1 hwgt2 n (by simp [DataW.weightsEach, hn])
  simpa using this
 obtain ⟨t, hr, hf⟩ : ∃ t : Lib, RepAt (allMem W) noLoc [rowsAV t.1, cellsAV t.2] cs 0 ∧ LibFit t := by
  obtain ⟨fuel, hf⟩ := h0
  obtain ⟨t, _, hr, hf⟩ := open_libZ hf hwk
  exact ⟨t, by simpa [Value.cells] using hr, hf⟩
 rw [cellsZ58] at hsz
 clear hA0 hval0
 refine (walkGdsValid cs t W hsz hr hf).mono fun e W' ⟨he, bel⟩ => ?_
 subst he
 exact ⟨_, rfl, _, _, _, [], _, [], hW', trodAll_mk1 (shut_bool Try.underlying4 _), (trodAll_cons_mk (Below.trod laidOut (by kernel_rfl) (of_decide_eq_true (by kernel_rfl)) k0 bel lt0) trodAll_mk0), rfl, bel.frame _, fun h => by cases h⟩
theorem gds_valid : Rows.GdsValidSaid :=
 OpenClaim.holds_of_wide 10 Try.f10 rfl rfl rfl rfl rfl rfl rfl ⟨rfl, rfl, rfl, rfl, rfl⟩ rfl rfl rfl rfl rfl (by kernel_rfl) Try.func10 (by kernel_rfl)
  (of_decide_eq_true (by kernel_rfl)) (by unfold Func.isWrapper; first | (rw [if_pos (by decide +kernel)]; kernel_rfl) | (rw [if_neg (by decide +kernel)]; exact ⟨rfl, rfl⟩))
  (fun os started H enc _ => liftedGdsValid os started H enc)
#print axioms gds_valid
end Go.Proofs.Ytjgbikhnnkigpaa

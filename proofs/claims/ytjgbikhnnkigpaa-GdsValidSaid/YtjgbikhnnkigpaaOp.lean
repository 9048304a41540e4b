/- The entry: slices of what has several cells, opened. -/
import Derived.Test.YtjgbikhnnkigpaaFw3
import Derived.Deep.Strs
import Derived.ChangeArms
set_option linter.unusedSimpArgs false
set_option linter.unusedVariables false
namespace Go.Fw
open Go Go.RowKit Go.Deep
theorem flat_get {X : Type} (f : X → List AV) (z : Nat) (hf : ∀ x, (f x).length = z) : ∀ (l : List X) (i j : Nat) (hi : i < l.length), j < z → (l.flatMap f)[i * z + j]? = (f l[i])[j]?
 | [], i, j, hi, _ => by simp at hi
 | x :: l, 0, j, _, hj => by
  simp only [List.flatMap_cons, Nat.zero_mul, Nat.zero_add, List.getElem_cons_zero]
  rw [List.getElem?_append_left (by rw [hf]; exact hj)]
 | x :: l, i + 1, j, hi, hj => by
  simp only [List.flatMap_cons, List.getElem_cons_succ]
  have e : (i + 1) * z + j = (f x).length + (i * z + j) := by rw [hf, Nat.succ_mul]; omega
  rw [e, List.getElem?_append_right (by omega), Nat.add_sub_cancel_left]
  exact flat_get f z hf l i j (by simpa using hi) hj
theorem flat_length {X : Type} (f : X → List AV) (z : Nat) (hf : ∀ x, (f x).length = z) : ∀ (l : List X), (l.flatMap f).length = l.length * z
 | [] => by simp
 | x :: l => by rw [List.flatMap_cons, List.length_append, hf, flat_length f z hf l, List.length_cons, Nat.succ_mul]; omega
theorem flat_refs {X : Type} (f : X → List AV) (hf : ∀ x, refsL (f x) = []) : ∀ (l : List X), refsL (l.flatMap f) = []
 | [] => rfl
 | x :: l => by rw [List.flatMap_cons, refsL_append, hf, flat_refs f hf l]; rfl
theorem choose_list {X : Type} {n : Nat} {Q : Nat → X → Prop} (h : ∀ i, i < n → ∃ x, Q i x) : ∃ l : List X, l.length = n ∧ ∀ i (hi : i < l.length), Q i l[i] := by
 induction n with
 | zero => exact ⟨[], rfl, fun i hi => by simp at hi⟩
 | succ n ih =>
  obtain ⟨l, h1, h2⟩ := ih fun i hi => h i (by omega)
  obtain ⟨x, hx⟩ := h n (by omega)
  refine ⟨l ++ [x], by simp [h1], fun i hi => ?_⟩
  rw [List.length_append, h1] at hi
  simp only [List.length_cons, List.length_nil] at hi
  rcases (by omega : i < n ∨ i = n) with h3 | h3
  · rw [List.getElem_append_left (by omega)]; exact h2 i (by omega)
  ·
   subst h3
   rw [List.getElem_append_right (by omega)]
   simpa [h1] using hx
variable {H : Type} {enc : TypeId × Value → H} {P : Program} {w : World} {sp : Nat → Bool} {held : Bool}
theorem open_int1 {k : IntKind} {t : TypeId} (ht : P.underlying t = some (.int k)) {n : Nat} {cs : List Value} {y : DataW H × List MemPlace} (h : DataW.trod enc P w 0 sp held n t cs = some y) :
  ∃ m : Int, cs = [.int k m] ∧ (Lit.int k m).wf = true := by
 obtain ⟨m, h1, _, h2⟩ := DataW.trod_int ht h
 exact ⟨m, h1, h2⟩
theorem byte_of {m : Int} (h : (Lit.int .u8 m).wf = true) : ∃ c : UInt8, AV.v (.int .u8 m) = byteV c ∧ m = c.toNat := by
 have hr : 0 ≤ m ∧ m < 256 := by
  simp [Lit.wf, IntKind.min, IntKind.max, IntKind.signed, IntKind.bits] at h
  omega
 refine ⟨UInt8.ofNat m.toNat, ?_, ?_⟩
 ·
  simp only [byteV, UInt8.toNat_ofNat']
  congr 2
  omega
 · simp only [UInt8.toNat_ofNat']; omega
theorem bytes_flat : ∀ (l : List UInt8), l.flatMap (fun c => [byteV c]) = l.map byteV
 | [] => rfl
 | a :: l => by rw [List.flatMap_cons, bytes_flat l]; rfl
theorem slc_cell {M : Mem} {β : Loc} {f : Bool} {z n : Nat} {l : List AV} {v : Value} (h : Rep M β (.slc f z n l) v) : v.oneCell' = true := by
 obtain ⟨a, cap, rfl, _⟩ := h
 rfl
end Go.Fw

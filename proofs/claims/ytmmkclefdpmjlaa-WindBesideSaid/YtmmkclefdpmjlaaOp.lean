/- The entry: slices of what has several cells, opened. -/
import Derived.Test.YtmmkclefdpmjlaaFw3
import Derived.Deep.Strs
import Derived.ChangeArms
set_option linter.unusedSimpArgs false
set_option linter.unusedVariables false
namespace Go.Fw
open Go Go.RowKit Go.Deep
theorem flat_get {X : Type} (f : X → List AV) (z : Nat) (hf : ∀ x, (f x).length = z) : ∀ (l : List X) (i j : Nat) (hi : i < l.length), j < z → (l.flatMap f)[i * z + j]? = (f l[i])[j]?
  | [], i, j, hi, _ => by simp at hi
  | x :: l, 0, j, _, hj => by
    simp only [List.flatMap_cons, Nat.zero_mul, Nat.zero_add, List.getElem_cons_zero]
    rw [List.getElem?_append_left (by rw [hf]; exact hj)]
  | x :: l, i + 1, j, hi, hj => by
    simp only [List.flatMap_cons, List.getElem_cons_succ]
    have e : (i + 1) * z + j = (f x).length + (i * z + j) := by rw [hf, Nat.succ_mul]; omega
    rw [e, List.getElem?_append_right (by omega), Nat.add_sub_cancel_left]
    exact flat_get f z hf l i j (by simpa using hi) hj
theorem flat_length {X : Type} (f : X → List AV) (z : Nat) (hf : ∀ x, (f x).length = z) : ∀ (l : List X), (l.flatMap f).length = l.length * z
  | [] => by simp
  | x :: l => by rw [List.flatMap_cons, List.length_append, hf, flat_length f z hf l, List.length_cons, Nat.succ_mul]; omega
theorem flat_refs {X : Type} (f : X → List AV) (hf : ∀ x, refsL (f x) = []) : ∀ (l : List X), refsL (l.flatMap f) = []
  | [] => rfl
  | x :: l => by rw [List.flatMap_cons, refsL_append, hf, flat_refs f hf l]; rfl
theorem choose_list {X : Type} {n : Nat} {Q : Nat → X → Prop} (h : ∀ i, i < n → ∃ x, Q i x) : ∃ l : List X, l.length = n ∧ ∀ i (hi : i < l.length), Q i l[i] := by
  induction n with
  | zero => exact ⟨[], rfl, fun i hi => by simp at hi⟩
  | succ n ih =>
    obtain ⟨l, h1, h2⟩ := ih fun i hi => h i (by omega)
    obtain ⟨x, hx⟩ := h n (by omega)
    refine ⟨l ++ [x], by simp [h1], fun i hi => ?_⟩
    rw [List.length_append, h1] at hi
    simp only [List.length_cons, List.length_nil] at hi
    rcases (by omega : i < n ∨ i = n) with h3 | h3
    · rw [List.getElem_append_left (by omega)]; exact h2 i (by omega)
    · subst h3
      rw [List.getElem_append_right (by omega)]
      simpa [h1] using hx
variable {H : Type} {enc : TypeId × Value → H} {P : Program} {w : World} {sp : Nat → Bool} {held : Bool}
theorem open_rows {X : Type} (f : X → List AV) (z : Nat) (hz0 : 0 < z) (hf : ∀ x, (f x).length = z) (hr : ∀ x, refsL (f x) = []) {t e : TypeId} (ht : P.underlying t = some (.slice e)) (hc : P.cellsOf e = z)
    (helem : ∀ n cs y, DataW.trod enc P w 0 sp held n e cs = some y → ∃ x : X, RepAt (allMem w) noLoc (f x) cs.toArray 0)
    {fuel : Nat} {v : Value} {y : DataW H × List MemPlace} (h : DataW.trod enc P w 0 sp held fuel t [v] = some y) : ∃ l : List X, Rep (allMem w) noLoc (.slc false z l.length (l.flatMap f)) v := by
  rcases DataW.trod_slice ht h with ⟨hcs, _⟩ | ⟨a, len, cap, elems, rest, n, _, hcs, _, _, hl, hm, hlen, hel, _⟩
  · simp only [List.cons.injEq, and_true] at hcs
    subst hcs
    exact ⟨[], none, 0, rfl, by simp, Nat.le_refl _, by simp [maxLen], (fun h => by cases h), rfl, (fun h => absurd h (by simp))⟩
  · simp only [List.cons.injEq, and_true] at hcs
    subst hcs
    have key : ∀ i, i < len → ∃ x : X, ∀ j, j < z → ∃ u, w.cell? ((a.add (i * z)).add j) = some u ∧ ∀ c, (f x)[j]? = some c → u.oneCell' = true ∧ Rep (allMem w) noLoc c u := by
      intro i hi
      have h1 := hel i hi
      rw [hc] at h1
      have hget : elems[i]? = some elems[i] := List.getElem?_eq_getElem (by omega)
      rw [hget, Option.bind_eq_some_iff] at h1
      obtain ⟨c1, hc1, hy1⟩ := h1
      obtain ⟨_, hl1, hcell⟩ := World.cells?_some hc1
      obtain ⟨x, hx⟩ := helem _ _ _ hy1
      refine ⟨x, fun j hj => ⟨c1[j]'(by omega), ?_, fun c hcj => ?_⟩⟩
      · rw [hcell j hj, List.getElem?_eq_getElem]
      · obtain ⟨u, hu, hu1, hu2⟩ := (RepAt.iff _ _ _).1 hx j c hcj
        simp only [Nat.zero_add, List.getElem?_toArray] at hu
        rw [List.getElem?_eq_getElem (by omega)] at hu
        cases hu
        exact ⟨hu1, hu2⟩
    obtain ⟨l, hll, hq⟩ := choose_list key
    refine ⟨l, ?_⟩
    rw [hll]
    refine ⟨some a, cap, rfl, by rw [flat_length f z hf, hll], hl, hm, (fun h => by cases h), flat_refs f hr l, fun hn => ?_⟩
    have addE : ∀ (x : Addr) (i : Nat), (x.add i).block = x.block ∧ (x.add i).off = x.off + i := by
      intro x i
      unfold Addr.add
      split
      · rename_i hi; simp [hi]
      · exact ⟨rfl, rfl⟩
    have cellE : ∀ i j, i < len → j < z → ∃ cs, allMem w a.block = some cs ∧ cs[a.off + (i * z + j)]? = w.cell? ((a.add (i * z)).add j) ∧ (w.cell? ((a.add (i * z)).add j)).isSome = true := by
      intro i j hi hj
      obtain ⟨u, hu, _⟩ := hq i (by omega) j hj
      obtain ⟨cs, h1, h2⟩ := cell_block hu
      rw [(addE _ _).1] at h1
      rw [(addE _ _).2, show a.off + i * z + j = a.off + (i * z + j) from by omega] at h2
      exact ⟨cs, h1, by rw [h2, hu], by rw [hu]; rfl⟩
    have hs : a.spot = none := by
      obtain ⟨u, hu, _⟩ := hq 0 (by omega) 0 hz0
      have := World.cell?_spot hu
      simpa [Addr.add] using this
    obtain ⟨cs, hcs, _, _⟩ := cellE 0 0 hn hz0
    obtain ⟨b, o, s⟩ := a
    simp only at hs hcs
    subst hs
    refine ⟨b, o, cs, rfl, hcs, (RepAt.iff _ _ _).2 fun p c hp => ?_⟩
    have hpl : p < l.length * z := by rw [← flat_length f z hf]; exact (List.getElem?_eq_some_iff.1 hp).1
    have hi : p / z < len := by rw [← hll]; exact (Nat.div_lt_iff_lt_mul hz0).2 hpl
    have hj : p % z < z := Nat.mod_lt _ hz0
    have hpe : p = p / z * z + p % z := by rw [Nat.mul_comm]; exact (Nat.div_add_mod p z).symm
    rw [hpe, flat_get f z hf l (p / z) (p % z) (by omega) hj] at hp
    obtain ⟨u, hu, hu2⟩ := hq (p / z) (by omega) (p % z) hj
    obtain ⟨cs', h1, h2, _⟩ := cellE (p / z) (p % z) hi hj
    simp only at h1 h2
    rw [hcs] at h1
    cases h1
    obtain ⟨k1, k2⟩ := hu2 c hp
    refine ⟨u, ?_, k1, k2⟩
    rw [hpe, h2, hu]
theorem open_int1 {k : IntKind} {t : TypeId} (ht : P.underlying t = some (.int k)) {n : Nat} {cs : List Value} {y : DataW H × List MemPlace} (h : DataW.trod enc P w 0 sp held n t cs = some y) :
    ∃ m : Int, cs = [.int k m] ∧ (Lit.int k m).wf = true := by
  obtain ⟨m, h1, _, h2⟩ := DataW.trod_int ht h
  exact ⟨m, h1, h2⟩
end Go.Fw

/- The entry: libraries, opened, with how much each slice can hold. -/
import Derived.Test.YtjgbikhnnkigpaaTy
import Derived.Test.YtjgbikhnnkigpaaGp40
import Derived.Test.YtjgbikhnnkigpaaOp
import Derived.SizedLaws
set_option linter.unusedSimpArgs false
set_option linter.unusedVariables false
namespace Go.Fw
open Go Go.ChangeShapes Go.WideShapes Go.ChangeAt Go.RowKit Go.Deep Go.Proofs
set_option linter.unusedVariables false
section
variable {H : Type} {enc : TypeId × Value → H} {P : Program} {w : World} {sp : Nat → Bool} {held : Bool}
def WOk (P : Program) (t : TypeId) (d : DataW H) : Prop := ∀ n ∈ d.weights P t, n ≤ reachBytes
theorem weightsAll_mem {e : TypeId} {d : DataW H} {n : Nat} (h : n ∈ d.weights P e) : ∀ (l : List (DataW H)), d ∈ l → n ∈ DataW.weightsAll P e l
 | [], hd => by cases hd
 | a :: l, hd => by
  rw [DataW.weightsAll, List.mem_append]
  rcases List.mem_cons.1 hd with rfl | hd
  · exact .inl h
  · exact .inr (weightsAll_mem h l hd)
theorem wok_slice {t e : TypeId} {elems spare : List (DataW H)} (ht : P.underlying t = some (.slice e)) (h : WOk P t (.slice elems spare)) : (elems.length + spare.length) * P.bytesOf e ≤ reachBytes ∧ ∀ d ∈ elems, WOk P e d := by
 have e1 : (DataW.slice elems spare).weights P t = (elems.length + spare.length) * P.bytesOf e :: (DataW.weightsAll P e elems ++ DataW.weightsAll P e spare) := by simp [DataW.weights, ht]
 unfold WOk at h
 rw [e1] at h
 exact ⟨h _ (by simp), fun d hd n hn => h n (by simp [weightsAll_mem hn elems hd])⟩
theorem wok_struct2 {t : TypeId} {f0 f1 : Field} {d0 d1 : DataW H} (ht : P.underlying t = some (.struct #[f0, f1])) (h : WOk P t (.agg [d0, d1])) : WOk P f0.type d0 ∧ WOk P f1.type d1 := by
 have e1 : (DataW.agg [d0, d1]).weights P t = d0.weights P f0.type ++ (d1.weights P f1.type ++ []) := by simp [DataW.weights, DataW.weightsEach, ht]
 unfold WOk at h
 rw [e1] at h
 exact ⟨fun n hn => h n (by simp [hn]), fun n hn => h n (by simp [hn])⟩
theorem wok_struct3 {t : TypeId} {f0 f1 f2 : Field} {d0 d1 d2 : DataW H} (ht : P.underlying t = some (.struct #[f0, f1, f2])) (h : WOk P t (.agg [d0, d1, d2])) : WOk P f2.type d2 := by
 have e1 : (DataW.agg [d0, d1, d2]).weights P t = d0.weights P f0.type ++ (d1.weights P f1.type ++ (d2.weights P f2.type ++ [])) := by simp [DataW.weights, DataW.weightsEach, ht]
 unfold WOk at h
 rw [e1] at h
 exact fun n hn => h n (by simp [hn])
theorem open_rowsZ {X : Type} (B : X → Prop) (f : X → List AV) (z : Nat) (hz0 : 0 < z) (hf : ∀ x, (f x).length = z) (hr : ∀ x, refsL (f x) = []) {t e : TypeId} (ht : P.underlying t = some (.slice e)) (hc : P.cellsOf e = z)
  (helem : ∀ n cs y, DataW.trod enc P w 0 sp held n e cs = some y → WOk P e y.1 → ∃ x : X, RepAt (allMem w) noLoc (f x) cs.toArray 0 ∧ B x)
  {fuel : Nat} {v : Value} {y : DataW H × List MemPlace} (h : DataW.trod enc P w 0 sp held fuel t [v] = some y) (hwk : WOk P t y.1) : ∃ l : List X, Rep (allMem w) noLoc (.slc false z l.length (l.flatMap f)) v ∧ l.length * P.bytesOf e ≤ reachBytes ∧ ∀ x ∈ l, B x := by
 rcases DataW.trod_slice ht h with ⟨hcs, _⟩ | ⟨a, len, cap, elems, rest, n, _, hcs, hye, _, hl, hm, hlen, hel, _⟩
 ·
  simp only [List.cons.injEq, and_true] at hcs
  subst hcs
  exact ⟨[], ⟨none, 0, rfl, by simp, Nat.le_refl _, by simp [maxLen], (fun h => by cases h), rfl, (fun h => absurd h (by simp))⟩, by simp, fun x hx => by cases hx⟩
 ·
  simp only [List.cons.injEq, and_true] at hcs
  subst hcs
  rw [hye] at hwk
  obtain ⟨hwl, hwe⟩ := wok_slice ht hwk
  have key : ∀ i, i < len → ∃ x : X, B x ∧ ∀ j, j < z → ∃ u, w.cell? ((a.add (i * z)).add j) = some u ∧ ∀ c, (f x)[j]? = some c → u.oneCell' = true ∧ Rep (allMem w) noLoc c u := by
   intro i hi
   have h1 := hel i hi
   rw [hc] at h1
   have hget : elems[i]? = some elems[i] := List.getElem?_eq_getElem (by omega)
   rw [hget, Option.bind_eq_some_iff] at h1
   obtain ⟨c1, hc1, hy1⟩ := h1
   obtain ⟨_, hl1, hcell⟩ := World.cells?_some hc1
   obtain ⟨x, hx, hBx⟩ := helem _ _ _ hy1 (hwe _ (List.mem_map_of_mem (List.getElem_mem _)))
   refine ⟨x, hBx, fun j hj => ⟨c1[j]'(by omega), ?_, fun c hcj => ?_⟩⟩
   · rw [hcell j hj, List.getElem?_eq_getElem]
   ·
    obtain ⟨u, hu, hu1, hu2⟩ := (RepAt.iff _ _ _).1 hx j c hcj
    simp only [Nat.zero_add, List.getElem?_toArray] at hu
    rw [List.getElem?_eq_getElem (by omega)] at hu
    cases hu
    exact ⟨hu1, hu2⟩
  obtain ⟨l, hll, hqq⟩ := choose_list key
  have hq : ∀ i (hi : i < l.length), ∀ j, j < z → ∃ u, w.cell? ((a.add (i * z)).add j) = some u ∧ ∀ c, (f l[i])[j]? = some c → u.oneCell' = true ∧ Rep (allMem w) noLoc c u := fun i hi => (hqq i hi).2
  refine ⟨l, ?_, ?_, fun x hx => ?_⟩
  rotate_left
  ·
   rw [hll]
   rw [List.length_map, List.length_map, hlen] at hwl
   exact Nat.le_trans (Nat.mul_le_mul_right _ (Nat.le_add_right _ _)) hwl
  ·
   obtain ⟨i, hi, rfl⟩ := List.mem_iff_getElem.1 hx
   exact (hqq i hi).1
  rw [hll]
  refine ⟨some a, cap, rfl, by rw [flat_length f z hf, hll], hl, hm, (fun h => by cases h), flat_refs f hr l, fun hn => ?_⟩
  have addE : ∀ (x : Addr) (i : Nat), (x.add i).block = x.block ∧ (x.add i).off = x.off + i := by
   intro x i
   unfold Addr.add
   split
   · rename_i hi; simp [hi]
   · exact ⟨rfl, rfl⟩
  have cellE : ∀ i j, i < len → j < z → ∃ cs, allMem w a.block = some cs ∧ cs[a.off + (i * z + j)]? = w.cell? ((a.add (i * z)).add j) ∧ (w.cell? ((a.add (i * z)).add j)).isSome = true := by
   intro i j hi hj
   obtain ⟨u, hu, _⟩ := hq i (by omega) j hj
   obtain ⟨cs, h1, h2⟩ := cell_block hu
   rw [(addE _ _).1] at h1
   rw [(addE _ _).2, show a.off + i * z + j = a.off + (i * z + j) from by omega] at h2
   exact ⟨cs, h1, by rw [h2, hu], by rw [hu]; rfl⟩
  have hs : a.spot = none := by
   obtain ⟨u, hu, _⟩ := hq 0 (by omega) 0 hz0
   have := World.cell?_spot hu
   simpa [Addr.add] using this
  obtain ⟨cs, hcs, _, _⟩ := cellE 0 0 hn hz0
  obtain ⟨b, o, s⟩ := a
  simp only at hs hcs
  subst hs
  refine ⟨b, o, cs, rfl, hcs, (RepAt.iff _ _ _).2 fun p c hp => ?_⟩
  have hpl : p < l.length * z := by rw [← flat_length f z hf]; exact (List.getElem?_eq_some_iff.1 hp).1
  have hi : p / z < len := by rw [← hll]; exact (Nat.div_lt_iff_lt_mul hz0).2 hpl
  have hj : p % z < z := Nat.mod_lt _ hz0
  have hpe : p = p / z * z + p % z := by rw [Nat.mul_comm]; exact (Nat.div_add_mod p z).symm
  rw [hpe, flat_get f z hf l (p / z) (p % z) (by omega) hj] at hp
  obtain ⟨u, hu, hu2⟩ := hq (p / z) (by omega) (p % z) hj
  obtain ⟨cs', h1, h2, _⟩ := cellE (p / z) (p % z) hi hj
  simp only at h1 h2
  rw [hcs] at h1
  cases h1
  obtain ⟨k1, k2⟩ := hu2 c hp
  refine ⟨u, ?_, k1, k2⟩
  rw [hpe, h2, hu]
end
theorem cellsZ24 : Try.prog.cellsOf 24 = 3 := by kernel_rfl
theorem cellsZ22 : Try.prog.cellsOf 22 = 1 := by kernel_rfl
theorem cellsZ5 : Try.prog.cellsOf 5 = 1 := by kernel_rfl
theorem cellsZ28 : Try.prog.cellsOf 28 = 1 := by kernel_rfl
theorem cellsZ70 : Try.prog.cellsOf 70 = 1 := by kernel_rfl
theorem cellsZ56 : Try.prog.cellsOf 56 = 1 := by kernel_rfl
theorem cellsZ77 : Try.prog.cellsOf 77 = 2 := by kernel_rfl
theorem cellsZ72 : Try.prog.cellsOf 72 = 2 := by kernel_rfl
theorem cellsZ58 : Try.prog.cellsOf 58 = 2 := by kernel_rfl
theorem bytesZ5 : Try.prog.bytesOf 5 = 1 := by kernel_rfl
theorem bytesZ24 : Try.prog.bytesOf 24 = 32 := by kernel_rfl
theorem bytesZ77 : Try.prog.bytesOf 77 = 48 := by kernel_rfl
theorem bytesZ72 : Try.prog.bytesOf 72 = 48 := by kernel_rfl
theorem reachZ : reachBytes = 140737488351232 := by kernel_rfl
section
variable {H : Type} {enc : TypeId × Value → H} {w : World} {sp : Nat → Bool} {held : Bool} {n : Nat}
set_option maxRecDepth 100000 in
theorem open_bytesZ {v : Value} {y : DataW H × List MemPlace} (h : DataW.trod enc Try.prog w 0 sp held n 22 [v] = some y) (hk : WOk Try.prog 22 y.1) :
  ∃ l : List UInt8, Rep (allMem w) noLoc (.slc false 1 l.length (l.map byteV)) v ∧ l.length ≤ 140737488355328 := by
 obtain ⟨l, hl, hz, _⟩ := open_rowsZ (X := UInt8) (fun _ => True) (fun c => [byteV c]) 1 (by omega) (fun _ => rfl) (fun _ => rfl) Try.underlying22 cellsZ5 (fun n cs y hy _ => by
  obtain ⟨m, rfl, hm⟩ := open_int1 Try.underlying5 hy
  obtain ⟨c, _, rfl⟩ := byte_of hm
  exact ⟨c, ⟨⟨_, rfl, rfl, rfl, rfl⟩, trivial⟩, trivial⟩) h hk
 rw [bytes_flat] at hl
 rw [bytesZ5, reachZ] at hz
 exact ⟨l, hl, by omega⟩
set_option maxRecDepth 100000 in
theorem open_recZ {cs : List Value} {y : DataW H × List MemPlace} (h : DataW.trod enc Try.prog w 0 sp held n 24 cs = some y) (hk : WOk Try.prog 24 y.1) :
  ∃ r : Rec, RepAt (allMem w) noLoc (recCells r) cs.toArray 0 ∧ r.2.2.length ≤ 140737488355328 := by
 obtain ⟨y0, y1, y2, m, rfl, hl, h0, h1, h2⟩ := trod_struct3 Try.underlying24 h
 have hk2 := wok_struct3 Try.underlying24 hk
 rw [cellsZ24] at hl
 match cs, hl with
 | [c0, c1, c2], _ =>
  simp only [cellsZ5, cellsZ22, List.drop, List.take] at h0 h1 h2
  obtain ⟨k, e0, hk⟩ := open_int1 Try.underlying5 h0
  obtain ⟨d, e1, hd⟩ := open_int1 Try.underlying5 h1
  simp only [List.cons.injEq, and_true] at e0 e1
  subst e0 e1
  obtain ⟨k, _, rfl⟩ := byte_of hk
  obtain ⟨d, _, rfl⟩ := byte_of hd
  obtain ⟨b, hb, hbl⟩ := open_bytesZ h2 hk2
  exact ⟨(k, d, b), ⟨⟨_, rfl, rfl, rfl, rfl⟩, ⟨_, rfl, rfl, rfl, rfl⟩, ⟨_, rfl, slc_cell hb, hb⟩, trivial⟩, hbl⟩
theorem open_recsZ {v : Value} {y : DataW H × List MemPlace} (h : DataW.trod enc Try.prog w 0 sp held n 28 [v] = some y) (hk : WOk Try.prog 28 y.1) :
  ∃ l : List Rec, Rep (allMem w) noLoc (rowsAV l) v ∧ RecsFit l := by
 obtain ⟨l, hl, hz, hB⟩ := open_rowsZ (fun r : Rec => r.2.2.length ≤ 140737488355328) recCells 3 (by omega) (fun _ => rfl) (fun _ => rfl) Try.underlying28 cellsZ24 (fun _ _ _ hy hw => open_recZ hy hw) h hk
 rw [bytesZ24, reachZ] at hz
 exact ⟨l, hl, by omega, hB⟩
set_option maxRecDepth 100000 in
theorem open_itemZ {cs : List Value} {y : DataW H × List MemPlace} (h : DataW.trod enc Try.prog w 0 sp held n 77 cs = some y) (hk : WOk Try.prog 77 y.1) :
  ∃ x : Item, RepAt (allMem w) noLoc (itemCells x) cs.toArray 0 ∧ ItemFit x := by
 obtain ⟨y0, y1, m, rfl, hl, h0, h1⟩ := trod_struct2 Try.underlying77 h
 obtain ⟨hk0, hk1⟩ := wok_struct2 Try.underlying77 hk
 rw [cellsZ77] at hl
 match cs, hl with
 | [c0, c1], _ =>
  simp only [cellsZ28, List.drop, List.take] at h0 h1
  obtain ⟨a, ha, hfa⟩ := open_recsZ h0 hk0
  obtain ⟨b, hb, hfb⟩ := open_recsZ h1 hk1
  exact ⟨(a, b), ⟨⟨_, rfl, slc_cell ha, ha⟩, ⟨_, rfl, slc_cell hb, hb⟩, trivial⟩, hfa, hfb⟩
theorem open_itemsZ {v : Value} {y : DataW H × List MemPlace} (h : DataW.trod enc Try.prog w 0 sp held n 70 [v] = some y) (hk : WOk Try.prog 70 y.1) :
  ∃ l : List Item, Rep (allMem w) noLoc (itemsAV l) v ∧ l.length ≤ 140737488355328 ∧ ∀ x ∈ l, ItemFit x := by
 obtain ⟨l, hl, hz, hB⟩ := open_rowsZ ItemFit itemCells 2 (by omega) (fun _ => rfl) (fun _ => rfl) Try.underlying70 cellsZ77 (fun _ _ _ hy hw => open_itemZ hy hw) h hk
 rw [bytesZ77, reachZ] at hz
 exact ⟨l, hl, by omega, hB⟩
set_option maxRecDepth 100000 in
theorem open_cellZ {cs : List Value} {y : DataW H × List MemPlace} (h : DataW.trod enc Try.prog w 0 sp held n 72 cs = some y) (hk : WOk Try.prog 72 y.1) :
  ∃ c : Cell, RepAt (allMem w) noLoc (cellCells c) cs.toArray 0 ∧ CellFit c := by
 obtain ⟨y0, y1, m, rfl, hl, h0, h1⟩ := trod_struct2 Try.underlying72 h
 obtain ⟨hk0, hk1⟩ := wok_struct2 Try.underlying72 hk
 rw [cellsZ72] at hl
 match cs, hl with
 | [c0, c1], _ =>
  simp only [cellsZ28, cellsZ70, List.drop, List.take] at h0 h1
  obtain ⟨a, ha, hfa⟩ := open_recsZ h0 hk0
  obtain ⟨b, hb, hfb⟩ := open_itemsZ h1 hk1
  exact ⟨(a, b), ⟨⟨_, rfl, slc_cell ha, ha⟩, ⟨_, rfl, slc_cell hb, hb⟩, trivial⟩, hfa, hfb⟩
theorem open_cellsZ {v : Value} {y : DataW H × List MemPlace} (h : DataW.trod enc Try.prog w 0 sp held n 56 [v] = some y) (hk : WOk Try.prog 56 y.1) :
  ∃ l : List Cell, Rep (allMem w) noLoc (cellsAV l) v ∧ l.length ≤ 140737488355328 ∧ ∀ x ∈ l, CellFit x := by
 obtain ⟨l, hl, hz, hB⟩ := open_rowsZ CellFit cellCells 2 (by omega) (fun _ => rfl) (fun _ => rfl) Try.underlying56 cellsZ72 (fun _ _ _ hy hw => open_cellZ hy hw) h hk
 rw [bytesZ72, reachZ] at hz
 exact ⟨l, hl, by omega, hB⟩
set_option maxRecDepth 100000 in
theorem open_libZ {cs : List Value} {y : DataW H × List MemPlace} (h : DataW.trod enc Try.prog w 0 sp held n 58 cs = some y) (hk : WOk Try.prog 58 y.1) :
  ∃ t : Lib, cs.length = 2 ∧ RepAt (allMem w) noLoc [rowsAV t.1, cellsAV t.2] cs.toArray 0 ∧ LibFit t := by
 obtain ⟨y0, y1, m, rfl, hl, h0, h1⟩ := trod_struct2 Try.underlying58 h
 obtain ⟨hk0, hk1⟩ := wok_struct2 Try.underlying58 hk
 rw [cellsZ58] at hl
 match cs, hl with
 | [c0, c1], _ =>
  simp only [cellsZ28, cellsZ56, List.drop, List.take] at h0 h1
  obtain ⟨a, ha, hfa⟩ := open_recsZ h0 hk0
  obtain ⟨b, hb, hfb⟩ := open_cellsZ h1 hk1
  exact ⟨(a, b), rfl, ⟨⟨_, rfl, slc_cell ha, ha⟩, ⟨_, rfl, slc_cell hb, hb⟩, trivial⟩, hfa, hfb⟩
end
end Go.Fw

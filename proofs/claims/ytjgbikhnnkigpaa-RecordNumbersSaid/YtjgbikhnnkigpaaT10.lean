import Derived.Test.YtjgbikhnnkigpaaT9
set_option linter.unusedSimpArgs false
set_option linter.unusedVariables false
namespace Go.Fw
open Go Go.Proofs Go.IntWalk

set_option linter.unusedSimpArgs false
set_option maxRecDepth 100000
set_option maxHeartbeats 4000000 in
/-- The law: numbers as bytes, and back. -/
theorem eval8 (f g : Bool) (b : List UInt8) (l : List Int) : Eval Try.prog 8 [.slc f 1 b.length (b.map byteV), .slc g 1 l.length (l.map intV)] (.ret (.v (.bool true))) := by
  refine Eval.intro Try.func8 rfl Try.call8 _ _ (Nat.le_of_ble_eq_true rfl) (by simp [AV.refs, refsL]) fun hs0 => ?_
  have hbs : b.length ≤ 9223372036854775807 := hs0.1.1
  have hls : l.length ≤ 9223372036854775807 := hs0.2.1.1
  refine W_seq_k fun K hK hE => W_region (by decide) ?_
  repeat (rw [vcn]; try simp [optK_some, optK_none, optK_ite, optK_map, optK_bind, gOn, stepK, isMem, evPure, evMem, evBin, evUn, evConv, evLen, evBuiltin, evMinMax, evSlice, evBuild, evAppend, evIndex, evIndexAddr, evField, evFieldAddr, intBin, strBin, appDest, AS.val, AS.mem, AS.elems, AS.put, AS.put', AS.eff, AV.cells?, AV.isCell, AV.refs, all_isByte, take_byteV, drop_byteV, strOf_map, -List.map_take, -List.map_drop, bndOk, bnd, partAV, ptrAdd, killBox, catA, inOrder, fillA, setAt, ofVal, entry, resB, upd, byteV, List.head?_take, List.head?_drop, List.getElem?_map])
  first | refine hK _ ?_ | refine ⟨by omega, hK _ ?_⟩ | refine ⟨by simp [strOf_map, byteV, AV.isByte]; try omega, hK _ ?_⟩ | trace_state
  clear hK hE K
  refine W_join_k (X := Nat × List UInt8) (fun x => [(0, .slc (x.1 == 1) 1 x.2.length (x.2.map byteV)), (1, .slc g 1 l.length (l.map intV))]) (fun _ => []) (fun x => x.2.length ≤ 4000) (fun J hJ _ => ?_) fun x hb => ?_
  · refine W_seq_k fun K hK hE => W_region (by decide) ?_
    repeat (rw [vcn]; try simp [optK_some, optK_none, optK_ite, optK_map, optK_bind, gOn, stepK, isMem, evPure, evMem, evBin, evUn, evConv, evLen, evBuiltin, evMinMax, evSlice, evBuild, evAppend, evIndex, evIndexAddr, evField, evFieldAddr, intBin, strBin, appDest, AS.val, AS.mem, AS.elems, AS.put, AS.put', AS.eff, AV.cells?, AV.isCell, AV.refs, all_isByte, take_byteV, drop_byteV, strOf_map, -List.map_take, -List.map_drop, bndOk, bnd, partAV, ptrAdd, killBox, catA, inOrder, fillA, setAt, ofVal, entry, resB, upd, byteV, List.head?_take, List.head?_drop, List.getElem?_map, lk, mkS])
    refine hK _ ?_
    clear hK hE K
    refine W_cond rfl (fun hc => ?_) (fun hc => ?_)
    · have hlt : 4000 < b.length := by simp at hc; omega
      have hle : 4000 ≤ b.length := by omega
      refine W_region (by decide) ?_
      repeat (rw [vcn]; try simp [optK_some, optK_none, optK_ite, optK_map, optK_bind, gOn, stepK, isMem, evPure, evMem, evBin, evUn, evConv, evLen, evBuiltin, evMinMax, evSlice, evBuild, evAppend, evIndex, evIndexAddr, evField, evFieldAddr, intBin, strBin, appDest, AS.val, AS.mem, AS.elems, AS.put, AS.put', AS.eff, AV.cells?, AV.isCell, AV.refs, all_isByte, take_byteV, drop_byteV, strOf_map, -List.map_take, -List.map_drop, bndOk, bnd, partAV, ptrAdd, killBox, catA, inOrder, fillA, setAt, ofVal, entry, resB, upd, byteV, List.head?_take, List.head?_drop, List.getElem?_map, hle, lk])
      refine hJ (0, b.take 4000) _ id (by simp; omega) ⟨?_, ?_, ?_, ?_, ?_, ?_⟩ <;> simp [upd, resB, ren, renL, renBox, AV.refs, refsL, Box.refs, lk, take_byteV, drop_byteV, refsL_bytes, -List.map_take, -List.map_drop, hle]
    · have hlt : b.length ≤ 4000 := by simp at hc; omega
      refine W_skip (hJ (if f then 1 else 0, b) _ id hlt ⟨?_, ?_, ?_, ?_, ?_, ?_⟩) <;> cases f <;> simp [upd, resB, ren, renL, renBox, AV.refs, refsL, Box.refs, lk, take_byteV, drop_byteV, refsL_bytes, -List.map_take, -List.map_drop]
  obtain ⟨fl, b⟩ := x
  obtain ⟨f, hf⟩ : ∃ f, f = (fl == 1) := ⟨_, rfl⟩
  simp only at hb
  rw [← hf]
  refine W_join_k (X := Nat × List Int) (fun x => [(0, .slc f 1 b.length (b.map byteV)), (1, .slc (x.1 == 1) 1 x.2.length (x.2.map intV))]) (fun _ => []) (fun x => x.2.length ≤ 500) (fun J hJ _ => ?_) fun x hl => ?_
  · refine W_seq_k fun K hK hE => W_region (by decide) ?_
    repeat (rw [vcn]; try simp [optK_some, optK_none, optK_ite, optK_map, optK_bind, gOn, stepK, isMem, evPure, evMem, evBin, evUn, evConv, evLen, evBuiltin, evMinMax, evSlice, evBuild, evAppend, evIndex, evIndexAddr, evField, evFieldAddr, intBin, strBin, appDest, AS.val, AS.mem, AS.elems, AS.put, AS.put', AS.eff, AV.cells?, AV.isCell, AV.refs, all_isByte, take_byteV, drop_byteV, strOf_map, -List.map_take, -List.map_drop, bndOk, bnd, partAV, ptrAdd, killBox, catA, inOrder, fillA, setAt, ofVal, entry, resB, upd, byteV, List.head?_take, List.head?_drop, List.getElem?_map, lk, mkS])
    refine hK _ ?_
    clear hK hE K
    refine W_cond rfl (fun hc => ?_) (fun hc => ?_)
    · have hlt : 500 < l.length := by simp at hc; omega
      have hle : 500 ≤ l.length := by omega
      refine W_region (by decide) ?_
      repeat (rw [vcn]; try simp [optK_some, optK_none, optK_ite, optK_map, optK_bind, gOn, stepK, isMem, evPure, evMem, evBin, evUn, evConv, evLen, evBuiltin, evMinMax, evSlice, evBuild, evAppend, evIndex, evIndexAddr, evField, evFieldAddr, intBin, strBin, appDest, AS.val, AS.mem, AS.elems, AS.put, AS.put', AS.eff, AV.cells?, AV.isCell, AV.refs, all_isByte, take_byteV, drop_byteV, strOf_map, -List.map_take, -List.map_drop, bndOk, bnd, partAV, ptrAdd, killBox, catA, inOrder, fillA, setAt, ofVal, entry, resB, upd, byteV, List.head?_take, List.head?_drop, List.getElem?_map, hle, lk, take_intV])
      refine hJ (0, l.take 500) _ id (by simp; omega) ⟨?_, ?_, ?_, ?_, ?_, ?_⟩ <;> simp [upd, resB, ren, renL, renBox, AV.refs, refsL, Box.refs, lk, take_byteV, drop_byteV, refsL_bytes, -List.map_take, -List.map_drop, hle, take_intV]
    · have hlt : l.length ≤ 500 := by simp at hc; omega
      refine W_skip (hJ (if g then 1 else 0, l) _ id hlt ⟨?_, ?_, ?_, ?_, ?_, ?_⟩) <;> cases g <;> simp [upd, resB, ren, renL, renBox, AV.refs, refsL, Box.refs, lk, take_byteV, drop_byteV, refsL_bytes, -List.map_take, -List.map_drop]
  obtain ⟨gl, l⟩ := x
  obtain ⟨g, hg⟩ : ∃ g, g = (gl == 1) := ⟨_, rfl⟩
  simp only at hl
  rw [← hg]
  have e28 := eval28 f b (by omega)
  have e292 := eval29 f b 2 (by omega) (by omega) (by omega)
  have e30 := eval30 f b (by omega)
  have e294 := eval29 f b 4 (by omega) (by omega) (by omega)
  rw [shortsAV_eq] at e28
  rw [longsAV_eq] at e30
  unfold numsAV at e28 e292 e30 e294
  have l2 : (numsL 2 b).length ≤ 4000 := by
    unfold numsL
    split
    · simp [numsOf]; omega
    · simp
  have l4 : (numsL 4 b).length ≤ 4000 := by
    unfold numsL
    split
    · simp [numsOf]; omega
    · simp
  generalize numsL 2 b = A2 at *
  generalize numsL 4 b = A4 at *
  generalize errL 2 b = E2 at *
  generalize errL 4 b = E4 at *
  refine W_seq_k fun K hK hE => W_region (by decide) ?_
  repeat (rw [vcn]; try simp [optK_some, optK_none, optK_ite, optK_map, optK_bind, gOn, stepK, isMem, evPure, evMem, evBin, evUn, evConv, evLen, evBuiltin, evMinMax, evSlice, evBuild, evAppend, evIndex, evIndexAddr, evField, evFieldAddr, intBin, strBin, appDest, AS.val, AS.mem, AS.elems, AS.put, AS.put', AS.eff, AV.cells?, AV.isCell, AV.refs, all_isByte, take_byteV, drop_byteV, strOf_map, -List.map_take, -List.map_drop, bndOk, bnd, partAV, ptrAdd, killBox, catA, inOrder, fillA, setAt, ofVal, entry, resB, upd, byteV, List.head?_take, List.head?_drop, List.getElem?_map, lk, mkS])
  refine CallG_plain e28 (by simp [AV.refs, refsL, intV]) rfl ?_
  dsimp only
  repeat (rw [vcn]; try simp [optK_some, optK_none, optK_ite, optK_map, optK_bind, gOn, stepK, isMem, evPure, evMem, evBin, evUn, evConv, evLen, evBuiltin, evMinMax, evSlice, evBuild, evAppend, evIndex, evIndexAddr, evField, evFieldAddr, intBin, strBin, appDest, AS.val, AS.mem, AS.elems, AS.put, AS.put', AS.eff, AV.cells?, AV.isCell, AV.refs, all_isByte, take_byteV, drop_byteV, strOf_map, -List.map_take, -List.map_drop, bndOk, bnd, partAV, ptrAdd, killBox, catA, inOrder, fillA, setAt, ofVal, entry, resB, upd, byteV, List.head?_take, List.head?_drop, List.getElem?_map, lk])
  refine hK _ ?_
  clear hK hE K
  refine W_seq_k fun K hK hE => W_region (by decide) ?_
  repeat (rw [vcn]; try simp [optK_some, optK_none, optK_ite, optK_map, optK_bind, gOn, stepK, isMem, evPure, evMem, evBin, evUn, evConv, evLen, evBuiltin, evMinMax, evSlice, evBuild, evAppend, evIndex, evIndexAddr, evField, evFieldAddr, intBin, strBin, appDest, AS.val, AS.mem, AS.elems, AS.put, AS.put', AS.eff, AV.cells?, AV.isCell, AV.refs, all_isByte, take_byteV, drop_byteV, strOf_map, -List.map_take, -List.map_drop, bndOk, bnd, partAV, ptrAdd, killBox, catA, inOrder, fillA, setAt, ofVal, entry, resB, upd, byteV, List.head?_take, List.head?_drop, List.getElem?_map, lk, mkS])
  refine CallG_plain e292 (by simp [AV.refs, refsL, intV]) rfl ?_
  dsimp only
  repeat (rw [vcn]; try simp [optK_some, optK_none, optK_ite, optK_map, optK_bind, gOn, stepK, isMem, evPure, evMem, evBin, evUn, evConv, evLen, evBuiltin, evMinMax, evSlice, evBuild, evAppend, evIndex, evIndexAddr, evField, evFieldAddr, intBin, strBin, appDest, AS.val, AS.mem, AS.elems, AS.put, AS.put', AS.eff, AV.cells?, AV.isCell, AV.refs, all_isByte, take_byteV, drop_byteV, strOf_map, -List.map_take, -List.map_drop, bndOk, bnd, partAV, ptrAdd, killBox, catA, inOrder, fillA, setAt, ofVal, entry, resB, upd, byteV, List.head?_take, List.head?_drop, List.getElem?_map, lk])
  refine hK _ ?_
  clear hK hE K
  refine W_seq_k fun K hK hE => W_region (by decide) ?_
  repeat (rw [vcn]; try simp [optK_some, optK_none, optK_ite, optK_map, optK_bind, gOn, stepK, isMem, evPure, evMem, evBin, evUn, evConv, evLen, evBuiltin, evMinMax, evSlice, evBuild, evAppend, evIndex, evIndexAddr, evField, evFieldAddr, intBin, strBin, appDest, AS.val, AS.mem, AS.elems, AS.put, AS.put', AS.eff, AV.cells?, AV.isCell, AV.refs, all_isByte, take_byteV, drop_byteV, strOf_map, -List.map_take, -List.map_drop, bndOk, bnd, partAV, ptrAdd, killBox, catA, inOrder, fillA, setAt, ofVal, entry, resB, upd, byteV, List.head?_take, List.head?_drop, List.getElem?_map, lk, mkS])
  refine CallG_plain e30 (by simp [AV.refs, refsL, intV]) rfl ?_
  dsimp only
  repeat (rw [vcn]; try simp [optK_some, optK_none, optK_ite, optK_map, optK_bind, gOn, stepK, isMem, evPure, evMem, evBin, evUn, evConv, evLen, evBuiltin, evMinMax, evSlice, evBuild, evAppend, evIndex, evIndexAddr, evField, evFieldAddr, intBin, strBin, appDest, AS.val, AS.mem, AS.elems, AS.put, AS.put', AS.eff, AV.cells?, AV.isCell, AV.refs, all_isByte, take_byteV, drop_byteV, strOf_map, -List.map_take, -List.map_drop, bndOk, bnd, partAV, ptrAdd, killBox, catA, inOrder, fillA, setAt, ofVal, entry, resB, upd, byteV, List.head?_take, List.head?_drop, List.getElem?_map, lk])
  refine hK _ ?_
  clear hK hE K
  refine W_seq_k fun K hK hE => W_region (by decide) ?_
  repeat (rw [vcn]; try simp [optK_some, optK_none, optK_ite, optK_map, optK_bind, gOn, stepK, isMem, evPure, evMem, evBin, evUn, evConv, evLen, evBuiltin, evMinMax, evSlice, evBuild, evAppend, evIndex, evIndexAddr, evField, evFieldAddr, intBin, strBin, appDest, AS.val, AS.mem, AS.elems, AS.put, AS.put', AS.eff, AV.cells?, AV.isCell, AV.refs, all_isByte, take_byteV, drop_byteV, strOf_map, -List.map_take, -List.map_drop, bndOk, bnd, partAV, ptrAdd, killBox, catA, inOrder, fillA, setAt, ofVal, entry, resB, upd, byteV, List.head?_take, List.head?_drop, List.getElem?_map, lk, mkS])
  refine CallG_plain e294 (by simp [AV.refs, refsL, intV]) rfl ?_
  dsimp only
  repeat (rw [vcn]; try simp [optK_some, optK_none, optK_ite, optK_map, optK_bind, gOn, stepK, isMem, evPure, evMem, evBin, evUn, evConv, evLen, evBuiltin, evMinMax, evSlice, evBuild, evAppend, evIndex, evIndexAddr, evField, evFieldAddr, intBin, strBin, appDest, AS.val, AS.mem, AS.elems, AS.put, AS.put', AS.eff, AV.cells?, AV.isCell, AV.refs, all_isByte, take_byteV, drop_byteV, strOf_map, -List.map_take, -List.map_drop, bndOk, bnd, partAV, ptrAdd, killBox, catA, inOrder, fillA, setAt, ofVal, entry, resB, upd, byteV, List.head?_take, List.head?_drop, List.getElem?_map, lk])
  refine hK _ ?_
  clear hK hE K
  refine W_wk [(1, .slc g 1 l.length (l.map intV)), (5, .slc false 1 A2.length (A2.map intV)), (6, intV E2), (7, .slc false 1 A2.length (A2.map intV)), (8, intV E2), (9, .slc false 1 A4.length (A4.map intV)), (10, intV E4), (11, .slc false 1 A4.length (A4.map intV)), (12, intV E4)] [] id ⟨?_, ?_, ?_, ?_, ?_, ?_⟩ ?_ <;> try (simp [upd, resB, ren, renL, renBox, AV.refs, refsL, Box.refs, lk, take_byteV, drop_byteV, refsL_bytes, -List.map_take, -List.map_drop, intV]; done)
  refine W_seq_k fun K hK hE => W_seq_k fun K1 hK1 hE1 => W_region (by decide) ?_
  repeat (rw [vcn]; try simp [optK_some, optK_none, optK_ite, optK_map, optK_bind, gOn, stepK, isMem, evPure, evMem, evBin, evUn, evConv, evLen, evBuiltin, evMinMax, evSlice, evBuild, evAppend, evIndex, evIndexAddr, evField, evFieldAddr, intBin, strBin, appDest, AS.val, AS.mem, AS.elems, AS.put, AS.put', AS.eff, AV.cells?, AV.isCell, AV.refs, all_isByte, take_byteV, drop_byteV, strOf_map, -List.map_take, -List.map_drop, bndOk, bnd, partAV, ptrAdd, killBox, catA, inOrder, fillA, setAt, ofVal, entry, resB, upd, byteV, List.head?_take, List.head?_drop, List.getElem?_map, lk, mkS])
  refine CallG_plain eval15 (by simp [AV.refs, refsL]) rfl ?_
  dsimp only
  repeat (rw [vcn]; try simp [optK_some, optK_none, optK_ite, optK_map, optK_bind, gOn, stepK, isMem, evPure, evMem, evBin, evUn, evConv, evLen, evBuiltin, evMinMax, evSlice, evBuild, evAppend, evIndex, evIndexAddr, evField, evFieldAddr, intBin, strBin, appDest, AS.val, AS.mem, AS.elems, AS.put, AS.put', AS.eff, AV.cells?, AV.isCell, AV.refs, all_isByte, take_byteV, drop_byteV, strOf_map, -List.map_take, -List.map_drop, bndOk, bnd, partAV, ptrAdd, killBox, catA, inOrder, fillA, setAt, ofVal, entry, resB, upd, byteV, List.head?_take, List.head?_drop, List.getElem?_map, lk, intV])
  refine hK1 _ (W_cond (b := false) (by simp [optK_some, optK_none, optK_ite, optK_map, optK_bind, gOn, stepK, isMem, evPure, evMem, evBin, evUn, evConv, evLen, evBuiltin, evMinMax, evSlice, evBuild, evAppend, evIndex, evIndexAddr, evField, evFieldAddr, intBin, strBin, appDest, AS.val, AS.mem, AS.elems, AS.put, AS.put', AS.eff, AV.cells?, AV.isCell, AV.refs, all_isByte, take_byteV, drop_byteV, strOf_map, -List.map_take, -List.map_drop, bndOk, bnd, partAV, ptrAdd, killBox, catA, inOrder, fillA, setAt, ofVal, entry, resB, upd, byteV, List.head?_take, List.head?_drop, List.getElem?_map]) (fun hc => by cases hc) (fun _ => W_skip (hK _ ?_)))
  clear hK1 hE1 K1 hK hE K
  refine W_seq_k fun K hK hE => W_seq_k fun K1 hK1 hE1 => W_region (by decide) ?_
  repeat (rw [vcn]; try simp [optK_some, optK_none, optK_ite, optK_map, optK_bind, gOn, stepK, isMem, evPure, evMem, evBin, evUn, evConv, evLen, evBuiltin, evMinMax, evSlice, evBuild, evAppend, evIndex, evIndexAddr, evField, evFieldAddr, intBin, strBin, appDest, AS.val, AS.mem, AS.elems, AS.put, AS.put', AS.eff, AV.cells?, AV.isCell, AV.refs, all_isByte, take_byteV, drop_byteV, strOf_map, -List.map_take, -List.map_drop, bndOk, bnd, partAV, ptrAdd, killBox, catA, inOrder, fillA, setAt, ofVal, entry, resB, upd, byteV, List.head?_take, List.head?_drop, List.getElem?_map, lk, mkS])
  refine hK1 _ (W_block_k fun J b1 b2 b3 b4 b5 => ?_)
  clear hK1 hE1 K1
  refine W_loop_k (X := Nat) (fun i => [(1, .slc g 1 l.length (l.map intV)), (5, .slc false 1 A2.length (A2.map intV)), (7, .slc false 1 A2.length (A2.map intV)), (9, .slc false 1 A4.length (A4.map intV)), (11, .slc false 1 A4.length (A4.map intV)), (13, intV i)]) (fun _ => [])
    (fun i => A2.length - i) (fun i => i ≤ A2.length) 0 id (Nat.zero_le _) ⟨?_, ?_, ?_, ?_, ?_, ?_⟩ fun i hi R hR hRE => ?_ <;> try (simp [upd, resB, ren, renL, renBox, AV.refs, refsL, Box.refs, lk, take_byteV, drop_byteV, refsL_bytes, -List.map_take, -List.map_drop, intV]; done)
  refine W_seq_k fun K3 hK3 hE3 => W_seq_k fun K2 hK2 hE2 => W_region (by decide) ?_
  repeat (rw [vcn]; try simp [optK_some, optK_none, optK_ite, optK_map, optK_bind, gOn, stepK, isMem, evPure, evMem, evBin, evUn, evConv, evLen, evBuiltin, evMinMax, evSlice, evBuild, evAppend, evIndex, evIndexAddr, evField, evFieldAddr, intBin, strBin, appDest, AS.val, AS.mem, AS.elems, AS.put, AS.put', AS.eff, AV.cells?, AV.isCell, AV.refs, all_isByte, take_byteV, drop_byteV, strOf_map, -List.map_take, -List.map_drop, bndOk, bnd, partAV, ptrAdd, killBox, catA, inOrder, fillA, setAt, ofVal, entry, resB, upd, byteV, List.head?_take, List.head?_drop, List.getElem?_map, lk, mkS, intV])
  refine hK2 _ (W_cond rfl (fun hc => ?_) (fun hc => ?_))
  · have hlt : i < A2.length := by simp at hc; omega
    have g0 : A2[i]? = some A2[i] := List.getElem?_eq_getElem hlt
    have hw3 : IntKind.i64.wrap ((i : Int) + 1) = (i : Int) + 1 := by rw [i64_in _ (by omega)]
    refine W_skip (hK3 _ (W_seq_k fun K4 hK4 hE4 => W_block_k fun K5 c1 c2 c3 c4 c5 => ?_))
    refine W_seq_k fun K6 hK6 hE6 => W_drawn mixed (by decide) (by kernel_rfl) ?_
    repeat (rw [vcnD]; try simp [optK_some, optK_none, optK_ite, optK_map, optK_bind, gOn, stepK, isMem, evPure, evMem, evBin, evUn, evConv, evLen, evBuiltin, evMinMax, evSlice, evBuild, evAppend, evIndex, evIndexAddr, evField, evFieldAddr, intBin, strBin, appDest, AS.val, AS.mem, AS.elems, AS.put, AS.put', AS.eff, AV.cells?, AV.isCell, AV.refs, all_isByte, take_byteV, drop_byteV, strOf_map, -List.map_take, -List.map_drop, bndOk, bnd, partAV, ptrAdd, killBox, catA, inOrder, fillA, setAt, ofVal, entry, resB, upd, byteV, List.head?_take, List.head?_drop, List.getElem?_map, stepD, lookIds, Oper.looksAt, Op.operands, Call.operands, St.ids, refsL, lk, g0, hlt, intV])
    repeat' apply And.intro
    all_goals try first | omega | kernel_rfl
    refine hK6 _ (W_cond (b := false) (by simp [optK_some, optK_none, optK_ite, optK_map, optK_bind, gOn, stepK, isMem, evPure, evMem, evBin, evUn, evConv, evLen, evBuiltin, evMinMax, evSlice, evBuild, evAppend, evIndex, evIndexAddr, evField, evFieldAddr, intBin, strBin, appDest, AS.val, AS.mem, AS.elems, AS.put, AS.put', AS.eff, AV.cells?, AV.isCell, AV.refs, all_isByte, take_byteV, drop_byteV, strOf_map, -List.map_take, -List.map_drop, bndOk, bnd, partAV, ptrAdd, killBox, catA, inOrder, fillA, setAt, ofVal, entry, resB, upd, byteV, List.head?_take, List.head?_drop, List.getElem?_map]) (fun hc => by cases hc) (fun _ => W_skip (c1 _ (hK4 _ (W_region (by decide) ?_)))))
    repeat (rw [vcn]; try simp [optK_some, optK_none, optK_ite, optK_map, optK_bind, gOn, stepK, isMem, evPure, evMem, evBin, evUn, evConv, evLen, evBuiltin, evMinMax, evSlice, evBuild, evAppend, evIndex, evIndexAddr, evField, evFieldAddr, intBin, strBin, appDest, AS.val, AS.mem, AS.elems, AS.put, AS.put', AS.eff, AV.cells?, AV.isCell, AV.refs, all_isByte, take_byteV, drop_byteV, strOf_map, -List.map_take, -List.map_drop, bndOk, bnd, partAV, ptrAdd, killBox, catA, inOrder, fillA, setAt, ofVal, entry, resB, upd, byteV, List.head?_take, List.head?_drop, List.getElem?_map, lk, hw3])
    refine hR (i + 1) _ id (by omega) (by omega) ⟨?_, ?_, ?_, ?_, ?_, ?_⟩ <;> simp [upd, resB, ren, renL, renBox, AV.refs, refsL, Box.refs, lk, take_byteV, drop_byteV, refsL_bytes, -List.map_take, -List.map_drop, intV]
  refine W_exit (hE3 _ _ (by simp) (hRE _ _ (by simp) (b2 _ (hK _ ?_))))
  clear hK3 hE3 K3 hK2 hE2 K2 hR hRE R b1 b2 b3 b4 b5 J hK hE K
  refine W_seq_k fun K hK hE => W_seq_k fun K1 hK1 hE1 => W_region (by decide) ?_
  repeat (rw [vcn]; try simp [optK_some, optK_none, optK_ite, optK_map, optK_bind, gOn, stepK, isMem, evPure, evMem, evBin, evUn, evConv, evLen, evBuiltin, evMinMax, evSlice, evBuild, evAppend, evIndex, evIndexAddr, evField, evFieldAddr, intBin, strBin, appDest, AS.val, AS.mem, AS.elems, AS.put, AS.put', AS.eff, AV.cells?, AV.isCell, AV.refs, all_isByte, take_byteV, drop_byteV, strOf_map, -List.map_take, -List.map_drop, bndOk, bnd, partAV, ptrAdd, killBox, catA, inOrder, fillA, setAt, ofVal, entry, resB, upd, byteV, List.head?_take, List.head?_drop, List.getElem?_map, lk, mkS])
  refine hK1 _ (W_block_k fun J b1 b2 b3 b4 b5 => ?_)
  clear hK1 hE1 K1
  refine W_loop_k (X := Nat) (fun i => [(1, .slc g 1 l.length (l.map intV)), (5, .slc false 1 A2.length (A2.map intV)), (7, .slc false 1 A2.length (A2.map intV)), (9, .slc false 1 A4.length (A4.map intV)), (11, .slc false 1 A4.length (A4.map intV)), (14, intV i)]) (fun _ => [])
    (fun i => A4.length - i) (fun i => i ≤ A4.length) 0 id (Nat.zero_le _) ⟨?_, ?_, ?_, ?_, ?_, ?_⟩ fun i hi R hR hRE => ?_ <;> try (simp [upd, resB, ren, renL, renBox, AV.refs, refsL, Box.refs, lk, take_byteV, drop_byteV, refsL_bytes, -List.map_take, -List.map_drop, intV]; done)
  refine W_seq_k fun K3 hK3 hE3 => W_seq_k fun K2 hK2 hE2 => W_region (by decide) ?_
  repeat (rw [vcn]; try simp [optK_some, optK_none, optK_ite, optK_map, optK_bind, gOn, stepK, isMem, evPure, evMem, evBin, evUn, evConv, evLen, evBuiltin, evMinMax, evSlice, evBuild, evAppend, evIndex, evIndexAddr, evField, evFieldAddr, intBin, strBin, appDest, AS.val, AS.mem, AS.elems, AS.put, AS.put', AS.eff, AV.cells?, AV.isCell, AV.refs, all_isByte, take_byteV, drop_byteV, strOf_map, -List.map_take, -List.map_drop, bndOk, bnd, partAV, ptrAdd, killBox, catA, inOrder, fillA, setAt, ofVal, entry, resB, upd, byteV, List.head?_take, List.head?_drop, List.getElem?_map, lk, mkS, intV])
  refine hK2 _ (W_cond rfl (fun hc => ?_) (fun hc => ?_))
  · have hlt : i < A4.length := by simp at hc; omega
    have g0 : A4[i]? = some A4[i] := List.getElem?_eq_getElem hlt
    have hw3 : IntKind.i64.wrap ((i : Int) + 1) = (i : Int) + 1 := by rw [i64_in _ (by omega)]
    refine W_skip (hK3 _ (W_seq_k fun K4 hK4 hE4 => W_block_k fun K5 c1 c2 c3 c4 c5 => ?_))
    refine W_seq_k fun K6 hK6 hE6 => W_drawn mixed (by decide) (by kernel_rfl) ?_
    repeat (rw [vcnD]; try simp [optK_some, optK_none, optK_ite, optK_map, optK_bind, gOn, stepK, isMem, evPure, evMem, evBin, evUn, evConv, evLen, evBuiltin, evMinMax, evSlice, evBuild, evAppend, evIndex, evIndexAddr, evField, evFieldAddr, intBin, strBin, appDest, AS.val, AS.mem, AS.elems, AS.put, AS.put', AS.eff, AV.cells?, AV.isCell, AV.refs, all_isByte, take_byteV, drop_byteV, strOf_map, -List.map_take, -List.map_drop, bndOk, bnd, partAV, ptrAdd, killBox, catA, inOrder, fillA, setAt, ofVal, entry, resB, upd, byteV, List.head?_take, List.head?_drop, List.getElem?_map, stepD, lookIds, Oper.looksAt, Op.operands, Call.operands, St.ids, refsL, lk, g0, hlt, intV])
    repeat' apply And.intro
    all_goals try first | omega | kernel_rfl
    refine hK6 _ (W_cond (b := false) (by simp [optK_some, optK_none, optK_ite, optK_map, optK_bind, gOn, stepK, isMem, evPure, evMem, evBin, evUn, evConv, evLen, evBuiltin, evMinMax, evSlice, evBuild, evAppend, evIndex, evIndexAddr, evField, evFieldAddr, intBin, strBin, appDest, AS.val, AS.mem, AS.elems, AS.put, AS.put', AS.eff, AV.cells?, AV.isCell, AV.refs, all_isByte, take_byteV, drop_byteV, strOf_map, -List.map_take, -List.map_drop, bndOk, bnd, partAV, ptrAdd, killBox, catA, inOrder, fillA, setAt, ofVal, entry, resB, upd, byteV, List.head?_take, List.head?_drop, List.getElem?_map]) (fun hc => by cases hc) (fun _ => W_skip (c1 _ (hK4 _ (W_region (by decide) ?_)))))
    repeat (rw [vcn]; try simp [optK_some, optK_none, optK_ite, optK_map, optK_bind, gOn, stepK, isMem, evPure, evMem, evBin, evUn, evConv, evLen, evBuiltin, evMinMax, evSlice, evBuild, evAppend, evIndex, evIndexAddr, evField, evFieldAddr, intBin, strBin, appDest, AS.val, AS.mem, AS.elems, AS.put, AS.put', AS.eff, AV.cells?, AV.isCell, AV.refs, all_isByte, take_byteV, drop_byteV, strOf_map, -List.map_take, -List.map_drop, bndOk, bnd, partAV, ptrAdd, killBox, catA, inOrder, fillA, setAt, ofVal, entry, resB, upd, byteV, List.head?_take, List.head?_drop, List.getElem?_map, lk, hw3])
    refine hR (i + 1) _ id (by omega) (by omega) ⟨?_, ?_, ?_, ?_, ?_, ?_⟩ <;> simp [upd, resB, ren, renL, renBox, AV.refs, refsL, Box.refs, lk, take_byteV, drop_byteV, refsL_bytes, -List.map_take, -List.map_drop, intV]
  refine W_exit (hE3 _ _ (by simp) (hRE _ _ (by simp) (b2 _ (hK _ ?_))))
  clear hK3 hE3 K3 hK2 hE2 K2 hR hRE R b1 b2 b3 b4 b5 J hK hE K
  refine W_seq_k fun K hK hE => W_region (by decide) ?_
  repeat (rw [vcn]; try simp [optK_some, optK_none, optK_ite, optK_map, optK_bind, gOn, stepK, isMem, evPure, evMem, evBin, evUn, evConv, evLen, evBuiltin, evMinMax, evSlice, evBuild, evAppend, evIndex, evIndexAddr, evField, evFieldAddr, intBin, strBin, appDest, AS.val, AS.mem, AS.elems, AS.put, AS.put', AS.eff, AV.cells?, AV.isCell, AV.refs, all_isByte, take_byteV, drop_byteV, strOf_map, -List.map_take, -List.map_drop, bndOk, bnd, partAV, ptrAdd, killBox, catA, inOrder, fillA, setAt, ofVal, entry, resB, upd, byteV, List.head?_take, List.head?_drop, List.getElem?_map])
  first | refine hK _ ?_ | refine ⟨by omega, hK _ ?_⟩ | refine ⟨by simp [strOf_map, byteV, AV.isByte]; try omega, hK _ ?_⟩ | trace_state
  clear hK hE K
  refine W_nil 15 501 5 1 rfl (by simp) (W_nil 16 502 5 1 rfl (by simp) ?_)
  refine W_seq_k fun K hK hE => W_seq_k fun K1 hK1 hE1 => W_region (by decide) ?_
  repeat (rw [vcn]; try simp [optK_some, optK_none, optK_ite, optK_map, optK_bind, gOn, stepK, isMem, evPure, evMem, evBin, evUn, evConv, evLen, evBuiltin, evMinMax, evSlice, evBuild, evAppend, evIndex, evIndexAddr, evField, evFieldAddr, intBin, strBin, appDest, AS.val, AS.mem, AS.elems, AS.put, AS.put', AS.eff, AV.cells?, AV.isCell, AV.refs, all_isByte, take_byteV, drop_byteV, strOf_map, -List.map_take, -List.map_drop, bndOk, bnd, partAV, ptrAdd, killBox, catA, inOrder, fillA, setAt, ofVal, entry, resB, upd, byteV, List.head?_take, List.head?_drop, List.getElem?_map, lk])
  refine hK1 _ (W_block_k fun J b1 b2 b3 b4 b5 => ?_)
  clear hK1 hE1 K1
  refine W_loop_k (X := Nat) (fun i => [(1, .slc g 1 l.length (l.map intV)), (15, .bs 501 1 0 (i * 2)), (16, .bs 502 1 0 (i * 4)), (17, intV i)]) (fun i => [(501, .mut 5 (((l.take i).flatMap shortB).map byteV)), (502, .mut 5 (((l.take i).flatMap longB).map byteV))])
    (fun i => l.length - i) (fun i => i ≤ l.length) 0 id (Nat.zero_le _) ⟨?_, ?_, ?_, ?_, ?_, ?_⟩ fun i hi R hR hRE => ?_ <;> try (simp [upd, resB, ren, renL, renBox, AV.refs, refsL, Box.refs, lk, take_byteV, drop_byteV, refsL_bytes, -List.map_take, -List.map_drop, intV]; done)
  have q2 : ((l.take i).flatMap shortB).length = i * 2 := by rw [flat_len _ 2 (fun _ => rfl), List.length_take]; congr 1; omega
  have q4 : ((l.take i).flatMap longB).length = i * 4 := by rw [flat_len _ 4 (fun _ => rfl), List.length_take]; congr 1; omega
  refine W_seq_k fun K3 hK3 hE3 => W_seq_k fun K2 hK2 hE2 => W_region (by decide) ?_
  repeat (rw [vcn]; try simp [optK_some, optK_none, optK_ite, optK_map, optK_bind, gOn, stepK, isMem, evPure, evMem, evBin, evUn, evConv, evLen, evBuiltin, evMinMax, evSlice, evBuild, evAppend, evIndex, evIndexAddr, evField, evFieldAddr, intBin, strBin, appDest, AS.val, AS.mem, AS.elems, AS.put, AS.put', AS.eff, AV.cells?, AV.isCell, AV.refs, all_isByte, take_byteV, drop_byteV, strOf_map, -List.map_take, -List.map_drop, bndOk, bnd, partAV, ptrAdd, killBox, catA, inOrder, fillA, setAt, ofVal, entry, resB, upd, byteV, List.head?_take, List.head?_drop, List.getElem?_map, lk, mkS, intV])
  refine hK2 _ (W_cond rfl (fun hc => ?_) (fun hc => ?_))
  · have hlt : i < l.length := by simp at hc; omega
    have g0 : l[i]? = some l[i] := List.getElem?_eq_getElem hlt
    have hw3 : IntKind.i64.wrap ((i : Int) + 1) = (i : Int) + 1 := by rw [i64_in _ (by omega)]
    have e2 := eval31 l[i] 2 (by omega)
    have e4 := eval31 l[i] 4 (by omega)
    rw [← shortB_eq] at e2
    rw [← longB_eq] at e4
    refine W_skip (hK3 _ (W_seq_k fun K4 hK4 hE4 => W_block_k fun K5 c1 c2 c3 c4 c5 => ?_))
    refine W_seq_k fun K6 hK6 hE6 => W_region (by decide) ?_
    repeat (rw [vcn]; try simp [optK_some, optK_none, optK_ite, optK_map, optK_bind, gOn, stepK, isMem, evPure, evMem, evBin, evUn, evConv, evLen, evBuiltin, evMinMax, evSlice, evBuild, evAppend, evIndex, evIndexAddr, evField, evFieldAddr, intBin, strBin, appDest, AS.val, AS.mem, AS.elems, AS.put, AS.put', AS.eff, AV.cells?, AV.isCell, AV.refs, all_isByte, take_byteV, drop_byteV, strOf_map, -List.map_take, -List.map_drop, bndOk, bnd, partAV, ptrAdd, killBox, catA, inOrder, fillA, setAt, ofVal, entry, resB, upd, byteV, List.head?_take, List.head?_drop, List.getElem?_map, lk, g0, hlt, intV])
    refine CallG_own 115 e2 (by simp [AV.refs, refsL]) (by simp) ?_
    dsimp only
    have s2 : (shortB l[i]).length = 2 := rfl
    have t2 : (shortB l[i]).take 2 = shortB l[i] := rfl
    have s4 : (longB l[i]).length = 4 := rfl
    have t4 : (longB l[i]).take 4 = longB l[i] := rfl
    repeat (rw [vcn]; try simp [optK_some, optK_none, optK_ite, optK_map, optK_bind, gOn, stepK, isMem, evPure, evMem, evBin, evUn, evConv, evLen, evBuiltin, evMinMax, evSlice, evBuild, evAppend, evIndex, evIndexAddr, evField, evFieldAddr, intBin, strBin, appDest, AS.val, AS.mem, AS.elems, AS.put, AS.put', AS.eff, AV.cells?, AV.isCell, AV.refs, all_isByte, take_byteV, drop_byteV, strOf_map, -List.map_take, -List.map_drop, bndOk, bnd, partAV, ptrAdd, killBox, catA, inOrder, fillA, setAt, ofVal, entry, resB, upd, byteV, List.head?_take, List.head?_drop, List.getElem?_map, lk, q2, s2, t2, -List.length_flatMap])
    refine ⟨by omega, hK6 _ ?_⟩
    refine W_region (by decide) ?_
    repeat (rw [vcn]; try simp [optK_some, optK_none, optK_ite, optK_map, optK_bind, gOn, stepK, isMem, evPure, evMem, evBin, evUn, evConv, evLen, evBuiltin, evMinMax, evSlice, evBuild, evAppend, evIndex, evIndexAddr, evField, evFieldAddr, intBin, strBin, appDest, AS.val, AS.mem, AS.elems, AS.put, AS.put', AS.eff, AV.cells?, AV.isCell, AV.refs, all_isByte, take_byteV, drop_byteV, strOf_map, -List.map_take, -List.map_drop, bndOk, bnd, partAV, ptrAdd, killBox, catA, inOrder, fillA, setAt, ofVal, entry, resB, upd, byteV, List.head?_take, List.head?_drop, List.getElem?_map, lk, g0, hlt, intV])
    refine CallG_own 122 e4 (by simp [AV.refs, refsL]) (by simp) ?_
    dsimp only
    repeat (rw [vcn]; try simp [optK_some, optK_none, optK_ite, optK_map, optK_bind, gOn, stepK, isMem, evPure, evMem, evBin, evUn, evConv, evLen, evBuiltin, evMinMax, evSlice, evBuild, evAppend, evIndex, evIndexAddr, evField, evFieldAddr, intBin, strBin, appDest, AS.val, AS.mem, AS.elems, AS.put, AS.put', AS.eff, AV.cells?, AV.isCell, AV.refs, all_isByte, take_byteV, drop_byteV, strOf_map, -List.map_take, -List.map_drop, bndOk, bnd, partAV, ptrAdd, killBox, catA, inOrder, fillA, setAt, ofVal, entry, resB, upd, byteV, List.head?_take, List.head?_drop, List.getElem?_map, lk, q4, s4, t4, -List.length_flatMap])
    refine ⟨by omega, c1 _ (hK4 _ (W_region (by decide) ?_))⟩
    repeat (rw [vcn]; try simp [optK_some, optK_none, optK_ite, optK_map, optK_bind, gOn, stepK, isMem, evPure, evMem, evBin, evUn, evConv, evLen, evBuiltin, evMinMax, evSlice, evBuild, evAppend, evIndex, evIndexAddr, evField, evFieldAddr, intBin, strBin, appDest, AS.val, AS.mem, AS.elems, AS.put, AS.put', AS.eff, AV.cells?, AV.isCell, AV.refs, all_isByte, take_byteV, drop_byteV, strOf_map, -List.map_take, -List.map_drop, bndOk, bnd, partAV, ptrAdd, killBox, catA, inOrder, fillA, setAt, ofVal, entry, resB, upd, byteV, List.head?_take, List.head?_drop, List.getElem?_map, lk, hw3])
    have hst : ∀ h : Int → List UInt8, (l.take (i + 1)).flatMap h = (l.take i).flatMap h ++ h l[i] := by
      intro h
      rw [List.take_add_one, g0, List.flatMap_append]
      simp only [Option.toList, List.flatMap_cons, List.flatMap_nil, List.append_nil]
    refine hR (i + 1) _ (fun j => if j = 501 then 116 else if j = 502 then 123 else j) (by omega) (by omega) ⟨?_, ?_, ?_, ?_, ?_, ?_⟩
    · simp [upd, resB, ren, renL, renBox, AV.refs, refsL, Box.refs, lk, take_byteV, drop_byteV, refsL_bytes, -List.map_take, -List.map_drop, intV]
      omega
    · simp [upd, resB, ren, renL, renBox, AV.refs, refsL, Box.refs, lk, take_byteV, drop_byteV, refsL_bytes, -List.map_take, -List.map_drop, hst]
    · simp
    · simp [upd, resB, ren, renL, renBox, AV.refs, refsL, Box.refs, lk, take_byteV, drop_byteV, refsL_bytes, -List.map_take, -List.map_drop, intV]
    · simp [upd, resB, ren, renL, renBox, AV.refs, refsL, Box.refs, lk, take_byteV, drop_byteV, refsL_bytes, -List.map_take, -List.map_drop]
    · intro j hj
      simp only [show j ≠ 501 from by omega, show j ≠ 502 from by omega, if_false]
  have hlt : i = l.length := by simp at hc; omega
  subst hlt
  rw [List.take_length] at q2 q4 ⊢
  refine W_exit (hE3 _ _ (by simp) (hRE _ _ (by simp) (b2 _ (hK _ ?_))))
  clear hK3 hE3 K3 hK2 hE2 K2 hR hRE R b1 b2 b3 b4 b5 J hK hE K
  have e32 := eval32 g l (by omega)
  have e33 := eval33 g l (by omega)
  refine W_seq_k fun K hK hE => W_drawn mixed (by decide) (by kernel_rfl) ?_
  repeat (rw [vcnD]; try simp [optK_some, optK_none, optK_ite, optK_map, optK_bind, gOn, stepK, isMem, evPure, evMem, evBin, evUn, evConv, evLen, evBuiltin, evMinMax, evSlice, evBuild, evAppend, evIndex, evIndexAddr, evField, evFieldAddr, intBin, strBin, appDest, AS.val, AS.mem, AS.elems, AS.put, AS.put', AS.eff, AV.cells?, AV.isCell, AV.refs, all_isByte, take_byteV, drop_byteV, strOf_map, -List.map_take, -List.map_drop, bndOk, bnd, partAV, ptrAdd, killBox, catA, inOrder, fillA, setAt, ofVal, entry, resB, upd, byteV, List.head?_take, List.head?_drop, List.getElem?_map, stepD, lookIds, Oper.looksAt, Op.operands, Call.operands, St.ids, refsL, lk])
  refine callD_own 125 (by simp [AV.refs, refsL]) e32 (by simp) ?_
  repeat (rw [vcnD]; try simp [optK_some, optK_none, optK_ite, optK_map, optK_bind, gOn, stepK, isMem, evPure, evMem, evBin, evUn, evConv, evLen, evBuiltin, evMinMax, evSlice, evBuild, evAppend, evIndex, evIndexAddr, evField, evFieldAddr, intBin, strBin, appDest, AS.val, AS.mem, AS.elems, AS.put, AS.put', AS.eff, AV.cells?, AV.isCell, AV.refs, all_isByte, take_byteV, drop_byteV, strOf_map, -List.map_take, -List.map_drop, bndOk, bnd, partAV, ptrAdd, killBox, catA, inOrder, fillA, setAt, ofVal, entry, resB, upd, byteV, List.head?_take, List.head?_drop, List.getElem?_map, stepD, lookIds, Oper.looksAt, Op.operands, Call.operands, St.ids, refsL, lk, q2, q4, strOf_map, -List.length_flatMap])
  refine callD_own 132 (by simp [AV.refs, refsL]) e33 (by simp) ?_
  repeat (rw [vcnD]; try simp [optK_some, optK_none, optK_ite, optK_map, optK_bind, gOn, stepK, isMem, evPure, evMem, evBin, evUn, evConv, evLen, evBuiltin, evMinMax, evSlice, evBuild, evAppend, evIndex, evIndexAddr, evField, evFieldAddr, intBin, strBin, appDest, AS.val, AS.mem, AS.elems, AS.put, AS.put', AS.eff, AV.cells?, AV.isCell, AV.refs, all_isByte, take_byteV, drop_byteV, strOf_map, -List.map_take, -List.map_drop, bndOk, bnd, partAV, ptrAdd, killBox, catA, inOrder, fillA, setAt, ofVal, entry, resB, upd, byteV, List.head?_take, List.head?_drop, List.getElem?_map, stepD, lookIds, Oper.looksAt, Op.operands, Call.operands, St.ids, refsL, lk, q2, q4, strOf_map, -List.length_flatMap])
  repeat' apply And.intro
  all_goals try first | omega | kernel_rfl
  refine hK _ (W_ret ?_)
  simp [post, resAV, resAll, resOne, closeV, closeC, closeL, resD, resDL, optK_some, optK_none, optK_ite, optK_map, optK_bind, gOn, stepK, isMem, evPure, evMem, evBin, evUn, evConv, evLen, evBuiltin, evMinMax, evSlice, evBuild, evAppend, evIndex, evIndexAddr, evField, evFieldAddr, intBin, strBin, appDest, AS.val, AS.mem, AS.elems, AS.put, AS.put', AS.eff, AV.cells?, AV.isCell, AV.refs, all_isByte, take_byteV, drop_byteV, strOf_map, -List.map_take, -List.map_drop, bndOk, bnd, partAV, ptrAdd, killBox, catA, inOrder, fillA, setAt, ofVal, entry, resB, upd, byteV, List.head?_take, List.head?_drop, List.getElem?_map]
end Go.Fw

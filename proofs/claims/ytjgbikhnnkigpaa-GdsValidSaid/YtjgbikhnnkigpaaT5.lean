import Derived.Test.YtjgbikhnnkigpaaT4
set_option linter.unusedSimpArgs false
set_option linter.unusedVariables false
namespace Go.Fw
open Go Go.Proofs Go.IntWalk
set_option linter.unusedSimpArgs false
set_option maxRecDepth 100000
theorem eval24 (f : Bool) (l : List UInt8) (n : Nat) (hn : l.length = n) : Eval Try.prog 24 [.slc f 1 n (l.map byteV)] (.ret (.v (.string ⟨(textOf l).toArray⟩))) := by
  refine Eval.intro Try.func24 rfl Try.call24 _ _ (Nat.le_of_ble_eq_true rfl) rfl fun hs0 => ?_
  have hs : n ≤ 9223372036854775807 := hs0.1.1
  refine W_seq_k fun K hK hE => W_region (by decide) ?_
  repeat (rw [vcn]; try simp [optK_some, optK_none, optK_ite, optK_map, optK_bind, gOn, stepK, isMem, evPure, evMem, evBin, evUn, evConv, evLen, evBuiltin, evMinMax, evSlice, evBuild, evAppend, evIndex, evIndexAddr, evField, evFieldAddr, intBin, strBin, appDest, AS.val, AS.mem, AS.elems, AS.put, AS.put', AS.eff, AV.cells?, AV.isCell, AV.refs, all_isByte, take_byteV, drop_byteV, strOf_map, -List.map_take, -List.map_drop, bndOk, bnd, partAV, ptrAdd, killBox, catA, inOrder, fillA, setAt, ofVal, entry, resB, upd, byteV, List.head?_take, List.head?_drop, List.getElem?_map])
  first | refine hK _ ?_ | refine ⟨by omega, hK _ ?_⟩ | refine ⟨by simp [strOf_map, byteV, AV.isByte]; try omega, hK _ ?_⟩ | trace_state
  clear hK hE K
  refine W_seq_k fun K hK hE => W_seq_k fun K1 hK1 hE1 => W_region (by decide) ?_
  rcases Nat.eq_zero_or_pos n with h0 | h0
  · subst h0
    have : l = [] := List.eq_nil_of_length_eq_zero hn
    subst this
    repeat (rw [vcn]; try simp [optK_some, optK_none, optK_ite, optK_map, optK_bind, gOn, stepK, isMem, evPure, evMem, evBin, evUn, evConv, evLen, evBuiltin, evMinMax, evSlice, evBuild, evAppend, evIndex, evIndexAddr, evField, evFieldAddr, intBin, strBin, appDest, AS.val, AS.mem, AS.elems, AS.put, AS.put', AS.eff, AV.cells?, AV.isCell, AV.refs, all_isByte, take_byteV, drop_byteV, strOf_map, -List.map_take, -List.map_drop, bndOk, bnd, partAV, ptrAdd, killBox, catA, inOrder, fillA, setAt, ofVal, entry, resB, upd, byteV, List.head?_take, List.head?_drop, List.getElem?_map])
    refine hK1 _ (W_cond rfl (fun hc => (by simp at hc)) (fun hc => W_skip (hK _ ?_)))
    clear hK hE K hK1 hE1 K1
    refine W_seq_k fun K hK hE => W_region (by decide) ?_
    repeat (rw [vcn]; try simp [optK_some, optK_none, optK_ite, optK_map, optK_bind, gOn, stepK, isMem, evPure, evMem, evBin, evUn, evConv, evLen, evBuiltin, evMinMax, evSlice, evBuild, evAppend, evIndex, evIndexAddr, evField, evFieldAddr, intBin, strBin, appDest, AS.val, AS.mem, AS.elems, AS.put, AS.put', AS.eff, AV.cells?, AV.isCell, AV.refs, all_isByte, take_byteV, drop_byteV, strOf_map, -List.map_take, -List.map_drop, bndOk, bnd, partAV, ptrAdd, killBox, catA, inOrder, fillA, setAt, ofVal, entry, resB, upd, byteV, List.head?_take, List.head?_drop, List.getElem?_map])
    first | refine hK _ ?_ | refine ⟨by omega, hK _ ?_⟩ | refine ⟨by simp [strOf_map, byteV, AV.isByte]; try omega, hK _ ?_⟩ | trace_state
    clear hK hE K
    refine W_ret ?_
    simp [post, resAV, resAll, resOne, closeV, closeC, closeL, resD, resDL, optK_some, optK_none, optK_ite, optK_map, optK_bind, gOn, stepK, isMem, evPure, evMem, evBin, evUn, evConv, evLen, evBuiltin, evMinMax, evSlice, evBuild, evAppend, evIndex, evIndexAddr, evField, evFieldAddr, intBin, strBin, appDest, AS.val, AS.mem, AS.elems, AS.put, AS.put', AS.eff, AV.cells?, AV.isCell, AV.refs, all_isByte, take_byteV, drop_byteV, strOf_map, -List.map_take, -List.map_drop, bndOk, bnd, partAV, ptrAdd, killBox, catA, inOrder, fillA, setAt, ofVal, entry, resB, upd, byteV, List.head?_take, List.head?_drop, List.getElem?_map, textOf, strOf]
  · have hw : IntKind.i64.wrap ((n : Int) - 1) = ((n - 1 : Nat) : Int) := by rw [i64_in _ (by omega)]; omega
    have hl : l[n - 1]? = some l[n - 1] := List.getElem?_eq_getElem (by omega)
    repeat (rw [vcn]; try simp [optK_some, optK_none, optK_ite, optK_map, optK_bind, gOn, stepK, isMem, evPure, evMem, evBin, evUn, evConv, evLen, evBuiltin, evMinMax, evSlice, evBuild, evAppend, evIndex, evIndexAddr, evField, evFieldAddr, intBin, strBin, appDest, AS.val, AS.mem, AS.elems, AS.put, AS.put', AS.eff, AV.cells?, AV.isCell, AV.refs, all_isByte, take_byteV, drop_byteV, strOf_map, -List.map_take, -List.map_drop, bndOk, bnd, partAV, ptrAdd, killBox, catA, inOrder, fillA, setAt, ofVal, entry, resB, upd, byteV, List.head?_take, List.head?_drop, List.getElem?_map, h0, hw, hl])
    refine ⟨by omega, ?_⟩
    repeat (rw [vcn]; try simp [optK_some, optK_none, optK_ite, optK_map, optK_bind, gOn, stepK, isMem, evPure, evMem, evBin, evUn, evConv, evLen, evBuiltin, evMinMax, evSlice, evBuild, evAppend, evIndex, evIndexAddr, evField, evFieldAddr, intBin, strBin, appDest, AS.val, AS.mem, AS.elems, AS.put, AS.put', AS.eff, AV.cells?, AV.isCell, AV.refs, all_isByte, take_byteV, drop_byteV, strOf_map, -List.map_take, -List.map_drop, bndOk, bnd, partAV, ptrAdd, killBox, catA, inOrder, fillA, setAt, ofVal, entry, resB, upd, byteV, List.head?_take, List.head?_drop, List.getElem?_map, h0, hw, hl])
    refine hK1 _ ?_
    clear hK1 hE1 K1
    refine W_cond rfl (fun hc => ?_) (fun hc => ?_)
    · refine W_seq_k fun K1 hK1 hE1 => W_region (by decide) ?_
      repeat (rw [vcn]; try simp [optK_some, optK_none, optK_ite, optK_map, optK_bind, gOn, stepK, isMem, evPure, evMem, evBin, evUn, evConv, evLen, evBuiltin, evMinMax, evSlice, evBuild, evAppend, evIndex, evIndexAddr, evField, evFieldAddr, intBin, strBin, appDest, AS.val, AS.mem, AS.elems, AS.put, AS.put', AS.eff, AV.cells?, AV.isCell, AV.refs, all_isByte, take_byteV, drop_byteV, strOf_map, -List.map_take, -List.map_drop, bndOk, bnd, partAV, ptrAdd, killBox, catA, inOrder, fillA, setAt, ofVal, entry, resB, upd, byteV, List.head?_take, List.head?_drop, List.getElem?_map, hw])
      refine hK1 _ (W_ret (hE _ _ (by simp) ?_))
      simp [post, resAV, resAll, resOne, closeV, closeC, closeL, resD, resDL, optK_some, optK_none, optK_ite, optK_map, optK_bind, gOn, stepK, isMem, evPure, evMem, evBin, evUn, evConv, evLen, evBuiltin, evMinMax, evSlice, evBuild, evAppend, evIndex, evIndexAddr, evField, evFieldAddr, intBin, strBin, appDest, AS.val, AS.mem, AS.elems, AS.put, AS.put', AS.eff, AV.cells?, AV.isCell, AV.refs, all_isByte, take_byteV, drop_byteV, strOf_map, -List.map_take, -List.map_drop, bndOk, bnd, partAV, ptrAdd, killBox, catA, inOrder, fillA, setAt, ofVal, entry, resB, upd, byteV, List.head?_take, List.head?_drop, List.getElem?_map]
      rw [u8_zero] at hc
      simp [textOf, hn, h0, hl, beq_iff_eq.1 hc]
    · first | refine hK _ ?_ | refine ⟨by omega, hK _ ?_⟩ | refine W_skip (hK _ ?_) | trace_state
      clear hK hE K
      refine W_seq_k fun K hK hE => W_region (by decide) ?_
      repeat (rw [vcn]; try simp [optK_some, optK_none, optK_ite, optK_map, optK_bind, gOn, stepK, isMem, evPure, evMem, evBin, evUn, evConv, evLen, evBuiltin, evMinMax, evSlice, evBuild, evAppend, evIndex, evIndexAddr, evField, evFieldAddr, intBin, strBin, appDest, AS.val, AS.mem, AS.elems, AS.put, AS.put', AS.eff, AV.cells?, AV.isCell, AV.refs, all_isByte, take_byteV, drop_byteV, strOf_map, -List.map_take, -List.map_drop, bndOk, bnd, partAV, ptrAdd, killBox, catA, inOrder, fillA, setAt, ofVal, entry, resB, upd, byteV, List.head?_take, List.head?_drop, List.getElem?_map])
      first | refine hK _ ?_ | refine ⟨by omega, hK _ ?_⟩ | refine ⟨by simp [strOf_map, byteV, AV.isByte]; try omega, hK _ ?_⟩ | trace_state
      clear hK hE K
      refine W_ret ?_
      simp [post, resAV, resAll, resOne, closeV, closeC, closeL, resD, resDL, optK_some, optK_none, optK_ite, optK_map, optK_bind, gOn, stepK, isMem, evPure, evMem, evBin, evUn, evConv, evLen, evBuiltin, evMinMax, evSlice, evBuild, evAppend, evIndex, evIndexAddr, evField, evFieldAddr, intBin, strBin, appDest, AS.val, AS.mem, AS.elems, AS.put, AS.put', AS.eff, AV.cells?, AV.isCell, AV.refs, all_isByte, take_byteV, drop_byteV, strOf_map, -List.map_take, -List.map_drop, bndOk, bnd, partAV, ptrAdd, killBox, catA, inOrder, fillA, setAt, ofVal, entry, resB, upd, byteV, List.head?_take, List.head?_drop, List.getElem?_map]
      rw [u8_zero] at hc
      have hc' : ¬ l[n - 1] = 0 := by simpa using hc
      simp [textOf, strOf_map, hn, h0, hl, hc']
set_option maxHeartbeats 4000000 in
theorem eval5 (s : ByteArray) (f : Bool) (b : List UInt8) : Eval Try.prog 5 [.v (.string s), .slc f 1 b.length (b.map byteV)] (.ret (.v (.bool true))) := by
  refine Eval.intro Try.func5 rfl Try.call5 _ _ (Nat.le_of_ble_eq_true rfl) (by simp [AV.refs]) fun hs0 => ?_
  have hbs : b.length ≤ 9223372036854775807 := hs0.2.1.1
  refine W_seq_k fun K hK hE => W_region (by decide) ?_
  repeat (rw [vcn]; try simp [optK_some, optK_none, optK_ite, optK_map, optK_bind, gOn, stepK, isMem, evPure, evMem, evBin, evUn, evConv, evLen, evBuiltin, evMinMax, evSlice, evBuild, evAppend, evIndex, evIndexAddr, evField, evFieldAddr, intBin, strBin, appDest, AS.val, AS.mem, AS.elems, AS.put, AS.put', AS.eff, AV.cells?, AV.isCell, AV.refs, all_isByte, take_byteV, drop_byteV, strOf_map, -List.map_take, -List.map_drop, bndOk, bnd, partAV, ptrAdd, killBox, catA, inOrder, fillA, setAt, ofVal, entry, resB, upd, byteV, List.head?_take, List.head?_drop, List.getElem?_map])
  first | refine hK _ ?_ | refine ⟨by omega, hK _ ?_⟩ | refine ⟨by simp [strOf_map, byteV, AV.isByte]; try omega, hK _ ?_⟩ | trace_state
  clear hK hE K
  -- the two are cut
  refine W_join_k (X := ByteArray) (fun x => [(0, .v (.string x)), (1, .slc f 1 b.length (b.map byteV))]) (fun _ => []) (fun x => x.size ≤ 4000) (fun J hJ _ => ?_) fun s hx => ?_
  · refine W_seq_k fun K hK hE => W_region (by decide) ?_
    repeat (rw [vcn]; try simp [optK_some, optK_none, optK_ite, optK_map, optK_bind, gOn, stepK, isMem, evPure, evMem, evBin, evUn, evConv, evLen, evBuiltin, evMinMax, evSlice, evBuild, evAppend, evIndex, evIndexAddr, evField, evFieldAddr, intBin, strBin, appDest, AS.val, AS.mem, AS.elems, AS.put, AS.put', AS.eff, AV.cells?, AV.isCell, AV.refs, all_isByte, take_byteV, drop_byteV, strOf_map, -List.map_take, -List.map_drop, bndOk, bnd, partAV, ptrAdd, killBox, catA, inOrder, fillA, setAt, ofVal, entry, resB, upd, byteV, List.head?_take, List.head?_drop, List.getElem?_map])
    refine hK _ ?_
    clear hK hE K
    refine W_cond rfl (fun hc => ?_) (fun hc => ?_)
    · have hlt : 4000 < s.size := by simp at hc; omega
      have hle : 4000 ≤ s.size := by omega
      refine W_region (by decide) ?_
      repeat (rw [vcn]; try simp [optK_some, optK_none, optK_ite, optK_map, optK_bind, gOn, stepK, isMem, evPure, evMem, evBin, evUn, evConv, evLen, evBuiltin, evMinMax, evSlice, evBuild, evAppend, evIndex, evIndexAddr, evField, evFieldAddr, intBin, strBin, appDest, AS.val, AS.mem, AS.elems, AS.put, AS.put', AS.eff, AV.cells?, AV.isCell, AV.refs, all_isByte, take_byteV, drop_byteV, strOf_map, -List.map_take, -List.map_drop, bndOk, bnd, partAV, ptrAdd, killBox, catA, inOrder, fillA, setAt, ofVal, entry, resB, upd, byteV, List.head?_take, List.head?_drop, List.getElem?_map, hle])
      refine hJ (s.extract 0 4000) _ id (by simp; omega) ⟨?_, ?_, ?_, ?_, ?_, ?_⟩ <;> simp [upd, resB, ren, renL, renBox, AV.refs, refsL, Box.refs, lk, take_byteV, drop_byteV, refsL_bytes, -List.map_take, -List.map_drop]
    · have hlt : s.size ≤ 4000 := by simp at hc; omega
      refine W_skip (hJ s _ id hlt ⟨?_, ?_, ?_, ?_, ?_, ?_⟩) <;> simp [upd, resB, ren, renL, renBox, AV.refs, refsL, Box.refs, lk, take_byteV, drop_byteV, refsL_bytes, -List.map_take, -List.map_drop]
  refine W_join_k (X := Nat × List UInt8) (fun x => [(0, .v (.string s)), (1, .slc (x.1 == 1) 1 x.2.length (x.2.map byteV))]) (fun _ => []) (fun x => x.2.length ≤ 4000) (fun J hJ _ => ?_) fun x hb => ?_
  · refine W_seq_k fun K hK hE => W_region (by decide) ?_
    repeat (rw [vcn]; try simp [optK_some, optK_none, optK_ite, optK_map, optK_bind, gOn, stepK, isMem, evPure, evMem, evBin, evUn, evConv, evLen, evBuiltin, evMinMax, evSlice, evBuild, evAppend, evIndex, evIndexAddr, evField, evFieldAddr, intBin, strBin, appDest, AS.val, AS.mem, AS.elems, AS.put, AS.put', AS.eff, AV.cells?, AV.isCell, AV.refs, all_isByte, take_byteV, drop_byteV, strOf_map, -List.map_take, -List.map_drop, bndOk, bnd, partAV, ptrAdd, killBox, catA, inOrder, fillA, setAt, ofVal, entry, resB, upd, byteV, List.head?_take, List.head?_drop, List.getElem?_map, lk, mkS])
    refine hK _ ?_
    clear hK hE K
    refine W_cond rfl (fun hc => ?_) (fun hc => ?_)
    · have hlt : 4000 < b.length := by simp at hc; omega
      have hle : 4000 ≤ b.length := by omega
      refine W_region (by decide) ?_
      repeat (rw [vcn]; try simp [optK_some, optK_none, optK_ite, optK_map, optK_bind, gOn, stepK, isMem, evPure, evMem, evBin, evUn, evConv, evLen, evBuiltin, evMinMax, evSlice, evBuild, evAppend, evIndex, evIndexAddr, evField, evFieldAddr, intBin, strBin, appDest, AS.val, AS.mem, AS.elems, AS.put, AS.put', AS.eff, AV.cells?, AV.isCell, AV.refs, all_isByte, take_byteV, drop_byteV, strOf_map, -List.map_take, -List.map_drop, bndOk, bnd, partAV, ptrAdd, killBox, catA, inOrder, fillA, setAt, ofVal, entry, resB, upd, byteV, List.head?_take, List.head?_drop, List.getElem?_map, hle, lk])
      refine hJ (0, b.take 4000) _ id (by simp; omega) ⟨?_, ?_, ?_, ?_, ?_, ?_⟩ <;> simp [upd, resB, ren, renL, renBox, AV.refs, refsL, Box.refs, lk, take_byteV, drop_byteV, refsL_bytes, -List.map_take, -List.map_drop, hle]
    · have hlt : b.length ≤ 4000 := by simp at hc; omega
      refine W_skip (hJ (if f then 1 else 0, b) _ id hlt ⟨?_, ?_, ?_, ?_, ?_, ?_⟩) <;> cases f <;> simp [upd, resB, ren, renL, renBox, AV.refs, refsL, Box.refs, lk, take_byteV, drop_byteV, refsL_bytes, -List.map_take, -List.map_drop]
  obtain ⟨fl, b⟩ := x
  obtain ⟨f, hf⟩ : ∃ f, f = (fl == 1) := ⟨_, rfl⟩
  simp only at hb
  rw [← hf]
  refine W_seq_k fun K hK hE => W_region (by decide) ?_
  repeat (rw [vcn]; try simp [optK_some, optK_none, optK_ite, optK_map, optK_bind, gOn, stepK, isMem, evPure, evMem, evBin, evUn, evConv, evLen, evBuiltin, evMinMax, evSlice, evBuild, evAppend, evIndex, evIndexAddr, evField, evFieldAddr, intBin, strBin, appDest, AS.val, AS.mem, AS.elems, AS.put, AS.put', AS.eff, AV.cells?, AV.isCell, AV.refs, all_isByte, take_byteV, drop_byteV, strOf_map, -List.map_take, -List.map_drop, bndOk, bnd, partAV, ptrAdd, killBox, catA, inOrder, fillA, setAt, ofVal, entry, resB, upd, byteV, List.head?_take, List.head?_drop, List.getElem?_map, lk, mkS])
  refine CallG_own 900 (eval22 s (by omega)) (by simp [AV.refs]) (by simp) ?_
  dsimp only
  repeat (rw [vcn]; try simp [optK_some, optK_none, optK_ite, optK_map, optK_bind, gOn, stepK, isMem, evPure, evMem, evBin, evUn, evConv, evLen, evBuiltin, evMinMax, evSlice, evBuild, evAppend, evIndex, evIndexAddr, evField, evFieldAddr, intBin, strBin, appDest, AS.val, AS.mem, AS.elems, AS.put, AS.put', AS.eff, AV.cells?, AV.isCell, AV.refs, all_isByte, take_byteV, drop_byteV, strOf_map, -List.map_take, -List.map_drop, bndOk, bnd, partAV, ptrAdd, killBox, catA, inOrder, fillA, setAt, ofVal, entry, resB, upd, byteV, List.head?_take, List.head?_drop, List.getElem?_map, lk])
  refine hK _ (W_frz 900 (e := 5) (l := (ofText s).map byteV) rfl (refsL_bytes _) ?_)
  clear hK hE K
  obtain ⟨c, hc⟩ : ∃ c, c = ofText s := ⟨_, rfl⟩
  rw [← hc]
  refine W_wk [(0, .v (.string s)), (1, .slc f 1 b.length (b.map byteV)), (5, .slc false 1 c.length (c.map byteV))] [] id ⟨?_, ?_, ?_, ?_, ?_, ?_⟩ ?_ <;> try (simp [upd, resB, ren, renL, renBox, AV.refs, refsL, Box.refs, lk, take_byteV, drop_byteV, refsL_bytes, -List.map_take, -List.map_drop]; done)
  have hL : s.data.toList.length = s.size := by simp
  refine W_join_k (X := Unit) (fun _ => [(0, .v (.string s)), (1, .slc f 1 b.length (b.map byteV)), (5, .slc false 1 c.length (c.map byteV)), (6, .v (.bool true))]) (fun _ => []) (fun _ => True) (fun J hJ _ => W_region (by decide) ?_) fun _ _ => ?_
  · rcases Nat.eq_zero_or_pos s.size with h0 | h0
    · have hnil : s.data.toList = [] := List.eq_nil_of_length_eq_zero (hL.trans h0)
      have hc0 : textOf c = s.data.toList := by rw [hc, ofText, h0]; simp [textOf, hnil]
      have hc1 : s.data = (textOf c).toArray := by rw [hc0]
      repeat (rw [vcn]; try simp [optK_some, optK_none, optK_ite, optK_map, optK_bind, gOn, stepK, isMem, evPure, evMem, evBin, evUn, evConv, evLen, evBuiltin, evMinMax, evSlice, evBuild, evAppend, evIndex, evIndexAddr, evField, evFieldAddr, intBin, strBin, appDest, AS.val, AS.mem, AS.elems, AS.put, AS.put', AS.eff, AV.cells?, AV.isCell, AV.refs, all_isByte, take_byteV, drop_byteV, strOf_map, -List.map_take, -List.map_drop, bndOk, bnd, partAV, ptrAdd, killBox, catA, inOrder, fillA, setAt, ofVal, entry, resB, upd, byteV, List.head?_take, List.head?_drop, List.getElem?_map, lk, mkS, h0])
      refine CallG_plain (eval23 false c c.length rfl) (by simp [AV.refs]) rfl ?_
      dsimp only
      repeat (rw [vcn]; try simp [optK_some, optK_none, optK_ite, optK_map, optK_bind, gOn, stepK, isMem, evPure, evMem, evBin, evUn, evConv, evLen, evBuiltin, evMinMax, evSlice, evBuild, evAppend, evIndex, evIndexAddr, evField, evFieldAddr, intBin, strBin, appDest, AS.val, AS.mem, AS.elems, AS.put, AS.put', AS.eff, AV.cells?, AV.isCell, AV.refs, all_isByte, take_byteV, drop_byteV, strOf_map, -List.map_take, -List.map_drop, bndOk, bnd, partAV, ptrAdd, killBox, catA, inOrder, fillA, setAt, ofVal, entry, resB, upd, byteV, List.head?_take, List.head?_drop, List.getElem?_map, lk, hc1])
      refine hJ () _ id trivial ⟨?_, ?_, ?_, ?_, ?_, ?_⟩ <;> simp [upd, resB, ren, renL, renBox, AV.refs, refsL, Box.refs, lk, take_byteV, drop_byteV, refsL_bytes, -List.map_take, -List.map_drop]
    · have h0' : (0 : Int) < (s.size : Int) := by omega
      have hw : IntKind.i64.wrap ((s.size : Int) - 1) = ((s.size - 1 : Nat) : Int) := by rw [i64_in _ (by omega)]; omega
      by_cases hz : (s.data.toList.getD (s.size - 1) 0).toNat = 0
      · repeat (rw [vcn]; try simp [optK_some, optK_none, optK_ite, optK_map, optK_bind, gOn, stepK, isMem, evPure, evMem, evBin, evUn, evConv, evLen, evBuiltin, evMinMax, evSlice, evBuild, evAppend, evIndex, evIndexAddr, evField, evFieldAddr, intBin, strBin, appDest, AS.val, AS.mem, AS.elems, AS.put, AS.put', AS.eff, AV.cells?, AV.isCell, AV.refs, all_isByte, take_byteV, drop_byteV, strOf_map, -List.map_take, -List.map_drop, bndOk, bnd, partAV, ptrAdd, killBox, catA, inOrder, fillA, setAt, ofVal, entry, resB, upd, byteV, List.head?_take, List.head?_drop, List.getElem?_map, lk, mkS, h0, h0', hw, -List.getD_eq_getElem?_getD, hz])
        refine ⟨by omega, ?_⟩
        refine hJ () _ id trivial ⟨?_, ?_, ?_, ?_, ?_, ?_⟩ <;> simp [upd, resB, ren, renL, renBox, AV.refs, refsL, Box.refs, lk, take_byteV, drop_byteV, refsL_bytes, -List.map_take, -List.map_drop]
      · have hlast : ¬ s.data.toList.getD (s.size - 1) 0 = 0 := fun h => hz (by rw [h]; rfl)
        have hc0 : textOf c = s.data.toList := by
          rw [hc, ofText]
          have hg : s.data.toList[s.size - 1]? = some (s.data.toList.getD (s.size - 1) 0) := by
            rw [List.getD_eq_getElem?_getD]
            have : s.size - 1 < s.data.toList.length := by omega
            rw [List.getElem?_eq_getElem this]
            rfl
          split
          · rw [textOf, if_neg]
            rintro ⟨_, h⟩
            rw [hL, hg] at h
            exact hlast (by simpa using h)
          · rw [textOf, if_pos]
            · simp
            · simp
        repeat (rw [vcn]; try simp [optK_some, optK_none, optK_ite, optK_map, optK_bind, gOn, stepK, isMem, evPure, evMem, evBin, evUn, evConv, evLen, evBuiltin, evMinMax, evSlice, evBuild, evAppend, evIndex, evIndexAddr, evField, evFieldAddr, intBin, strBin, appDest, AS.val, AS.mem, AS.elems, AS.put, AS.put', AS.eff, AV.cells?, AV.isCell, AV.refs, all_isByte, take_byteV, drop_byteV, strOf_map, -List.map_take, -List.map_drop, bndOk, bnd, partAV, ptrAdd, killBox, catA, inOrder, fillA, setAt, ofVal, entry, resB, upd, byteV, List.head?_take, List.head?_drop, List.getElem?_map, lk, mkS, h0, h0', hw, -List.getD_eq_getElem?_getD, hz])
        refine ⟨by omega, ?_⟩
        refine CallG_plain (eval23 false c c.length rfl) (by simp [AV.refs]) rfl ?_
        dsimp only
        repeat (rw [vcn]; try simp [optK_some, optK_none, optK_ite, optK_map, optK_bind, gOn, stepK, isMem, evPure, evMem, evBin, evUn, evConv, evLen, evBuiltin, evMinMax, evSlice, evBuild, evAppend, evIndex, evIndexAddr, evField, evFieldAddr, intBin, strBin, appDest, AS.val, AS.mem, AS.elems, AS.put, AS.put', AS.eff, AV.cells?, AV.isCell, AV.refs, all_isByte, take_byteV, drop_byteV, strOf_map, -List.map_take, -List.map_drop, bndOk, bnd, partAV, ptrAdd, killBox, catA, inOrder, fillA, setAt, ofVal, entry, resB, upd, byteV, List.head?_take, List.head?_drop, List.getElem?_map, lk, hc0, hz, -List.getD_eq_getElem?_getD])
        refine hJ () _ id trivial ⟨?_, ?_, ?_, ?_, ?_, ?_⟩ <;> simp [upd, resB, ren, renL, renBox, AV.refs, refsL, Box.refs, lk, take_byteV, drop_byteV, refsL_bytes, -List.map_take, -List.map_drop]
  -- the answer
  have hcl : c.length = s.size ∨ c.length = s.size + 1 := by
    rw [hc, ofText]
    split
    · exact .inl hL
    · right; simp
  have hc2 : c.length % 2 = 0 := by
    rw [hc, ofText]
    split
    · rename_i h; rw [hL]; exact h
    · rename_i h; simp; omega
  have hct : c.take s.size = s.data.toList := by
    rw [hc, ofText]
    split
    · rw [← hL, List.take_length]
    · rw [List.take_append_of_le_length (by omega), ← hL, List.take_length]
  have hmod : ((c.length : Int).tmod 2) = 0 := by rw [show (2 : Int) = ((2 : Nat) : Int) from rfl, ← Int.ofNat_tmod, hc2]; rfl
  have hw : IntKind.i64.wrap ((c.length : Int) - (s.size : Int)) = ((c.length - s.size : Nat) : Int) := by rw [i64_in _ (by omega)]; omega
  have hle : s.size ≤ c.length := by omega
  refine W_seq_k fun K hK hE => W_region (by decide) ?_
  repeat (rw [vcn]; try simp [optK_some, optK_none, optK_ite, optK_map, optK_bind, gOn, stepK, isMem, evPure, evMem, evBin, evUn, evConv, evLen, evBuiltin, evMinMax, evSlice, evBuild, evAppend, evIndex, evIndexAddr, evField, evFieldAddr, intBin, strBin, appDest, AS.val, AS.mem, AS.elems, AS.put, AS.put', AS.eff, AV.cells?, AV.isCell, AV.refs, all_isByte, take_byteV, drop_byteV, strOf_map, -List.map_take, -List.map_drop, bndOk, bnd, partAV, ptrAdd, killBox, catA, inOrder, fillA, setAt, ofVal, entry, resB, upd, byteV, List.head?_take, List.head?_drop, List.getElem?_map, lk, mkS])
  refine CallG_plain eval15 (by simp [AV.refs, refsL]) rfl ?_
  dsimp only
  have hd2 : ((c.length - s.size : Nat) : Int) < 2 := by omega
  have hct' : (c.take s.size == s.data.toList) = true := by rw [hct]; simp
  repeat (rw [vcn]; try simp [optK_some, optK_none, optK_ite, optK_map, optK_bind, gOn, stepK, isMem, evPure, evMem, evBin, evUn, evConv, evLen, evBuiltin, evMinMax, evSlice, evBuild, evAppend, evIndex, evIndexAddr, evField, evFieldAddr, intBin, strBin, appDest, AS.val, AS.mem, AS.elems, AS.put, AS.put', AS.eff, AV.cells?, AV.isCell, AV.refs, all_isByte, take_byteV, drop_byteV, strOf_map, -List.map_take, -List.map_drop, bndOk, bnd, partAV, ptrAdd, killBox, catA, inOrder, fillA, setAt, ofVal, entry, resB, upd, byteV, List.head?_take, List.head?_drop, List.getElem?_map, lk, hmod, hw, hle, hd2, hct'])
  refine CallG_plain (eval23 f b b.length rfl) (by simp [AV.refs, refsL]) rfl ?_
  dsimp only
  repeat (rw [vcn]; try simp [optK_some, optK_none, optK_ite, optK_map, optK_bind, gOn, stepK, isMem, evPure, evMem, evBin, evUn, evConv, evLen, evBuiltin, evMinMax, evSlice, evBuild, evAppend, evIndex, evIndexAddr, evField, evFieldAddr, intBin, strBin, appDest, AS.val, AS.mem, AS.elems, AS.put, AS.put', AS.eff, AV.cells?, AV.isCell, AV.refs, all_isByte, take_byteV, drop_byteV, strOf_map, -List.map_take, -List.map_drop, bndOk, bnd, partAV, ptrAdd, killBox, catA, inOrder, fillA, setAt, ofVal, entry, resB, upd, byteV, List.head?_take, List.head?_drop, List.getElem?_map, lk])
  refine CallG_plain (eval24 f b b.length rfl) (by simp [AV.refs, refsL]) rfl ?_
  dsimp only
  repeat (rw [vcn]; try simp [optK_some, optK_none, optK_ite, optK_map, optK_bind, gOn, stepK, isMem, evPure, evMem, evBin, evUn, evConv, evLen, evBuiltin, evMinMax, evSlice, evBuild, evAppend, evIndex, evIndexAddr, evField, evFieldAddr, intBin, strBin, appDest, AS.val, AS.mem, AS.elems, AS.put, AS.put', AS.eff, AV.cells?, AV.isCell, AV.refs, all_isByte, take_byteV, drop_byteV, strOf_map, -List.map_take, -List.map_drop, bndOk, bnd, partAV, ptrAdd, killBox, catA, inOrder, fillA, setAt, ofVal, entry, resB, upd, byteV, List.head?_take, List.head?_drop, List.getElem?_map, lk])
  refine hK _ (W_ret ?_)
  simp [post, resAV, resAll, resOne, closeV, closeC, closeL, resD, resDL, optK_some, optK_none, optK_ite, optK_map, optK_bind, gOn, stepK, isMem, evPure, evMem, evBin, evUn, evConv, evLen, evBuiltin, evMinMax, evSlice, evBuild, evAppend, evIndex, evIndexAddr, evField, evFieldAddr, intBin, strBin, appDest, AS.val, AS.mem, AS.elems, AS.put, AS.put', AS.eff, AV.cells?, AV.isCell, AV.refs, all_isByte, take_byteV, drop_byteV, strOf_map, -List.map_take, -List.map_drop, bndOk, bnd, partAV, ptrAdd, killBox, catA, inOrder, fillA, setAt, ofVal, entry, resB, upd, byteV, List.head?_take, List.head?_drop, List.getElem?_map]
end Go.Fw

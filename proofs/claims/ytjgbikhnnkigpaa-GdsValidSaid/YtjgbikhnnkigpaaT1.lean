import Derived.Test.YtjgbikhnnkigpaaNbb
set_option linter.unusedSimpArgs false
set_option linter.unusedVariables false
namespace Go.Fw
open Go Go.Proofs Go.IntWalk
def ofText (b : ByteArray) : List UInt8 := if b.size % 2 = 0 then b.data.toList else b.data.toList ++ [0]
set_option linter.unusedSimpArgs false
set_option maxRecDepth 100000
theorem eval22 (b : ByteArray) (h : b.size ≤ 1000000) : Eval Try.prog 22 [.v (.string b)] (.ret (.own 5 1 (ofText b).length ((ofText b).map byteV))) := by
  refine Eval.intro Try.func22 rfl Try.call22 _ _ (Nat.le_of_ble_eq_true rfl) rfl fun _ => ?_
  refine W_seq_k fun K hK hE => W_region (by decide) ?_
  repeat (rw [vcn]; try simp [optK_some, optK_none, optK_ite, optK_map, optK_bind, gOn, stepK, isMem, evPure, evMem, evBin, evUn, evConv, evLen, evBuiltin, evMinMax, evSlice, evBuild, evAppend, evIndex, evIndexAddr, evField, evFieldAddr, intBin, strBin, appDest, AS.val, AS.mem, AS.elems, AS.put, AS.put', AS.eff, AV.cells?, AV.isCell, AV.refs, all_isByte, take_byteV, drop_byteV, strOf_map, -List.map_take, -List.map_drop, bndOk, bnd, partAV, ptrAdd, killBox, catA, inOrder, fillA, setAt, ofVal, entry, resB, upd, byteV, List.head?_take, List.head?_drop, List.getElem?_map])
  first | refine hK _ ?_ | refine ⟨by omega, hK _ ?_⟩ | refine ⟨by simp [strOf_map, byteV, AV.isByte]; try omega, hK _ ?_⟩ | trace_state
  clear hK hE K
  refine W_seq_k fun K hK hE => W_region (by decide) ?_
  have h' : b.size ≤ 9223372036854775807 := by omega
  repeat (rw [vcn]; try simp [optK_some, optK_none, optK_ite, optK_map, optK_bind, gOn, stepK, isMem, evPure, evMem, evBin, evUn, evConv, evLen, evBuiltin, evMinMax, evSlice, evBuild, evAppend, evIndex, evIndexAddr, evField, evFieldAddr, intBin, strBin, appDest, AS.val, AS.mem, AS.elems, AS.put, AS.put', AS.eff, AV.cells?, AV.isCell, AV.refs, all_isByte, take_byteV, drop_byteV, strOf_map, -List.map_take, -List.map_drop, bndOk, bnd, partAV, ptrAdd, killBox, catA, inOrder, fillA, setAt, ofVal, entry, resB, upd, byteV, List.head?_take, List.head?_drop, List.getElem?_map, h'])
  refine hK _ ?_
  clear hK hE K
  refine W_seq_k fun K hK hE => ?_
  refine W_seq_k fun K hK hE => W_region (by decide) ?_
  repeat (rw [vcn]; try simp [optK_some, optK_none, optK_ite, optK_map, optK_bind, gOn, stepK, isMem, evPure, evMem, evBin, evUn, evConv, evLen, evBuiltin, evMinMax, evSlice, evBuild, evAppend, evIndex, evIndexAddr, evField, evFieldAddr, intBin, strBin, appDest, AS.val, AS.mem, AS.elems, AS.put, AS.put', AS.eff, AV.cells?, AV.isCell, AV.refs, all_isByte, take_byteV, drop_byteV, strOf_map, -List.map_take, -List.map_drop, bndOk, bnd, partAV, ptrAdd, killBox, catA, inOrder, fillA, setAt, ofVal, entry, resB, upd, byteV, List.head?_take, List.head?_drop, List.getElem?_map])
  first | refine hK _ ?_ | refine ⟨by omega, hK _ ?_⟩ | refine ⟨by simp [strOf_map, byteV, AV.isByte]; try omega, hK _ ?_⟩ | trace_state
  clear hK hE K
  have hm : ((b.size : Int).tmod 2) = ((b.size % 2 : Nat) : Int) := by rw [Int.ofNat_tmod]; rfl
  refine W_cond rfl (fun hc => ?_) (fun hc => ?_)
  · have h2 : b.size % 2 = 1 := by simp [hm] at hc; omega
    refine W_region (by decide) ?_
    repeat (rw [vcn]; try simp [optK_some, optK_none, optK_ite, optK_map, optK_bind, gOn, stepK, isMem, evPure, evMem, evBin, evUn, evConv, evLen, evBuiltin, evMinMax, evSlice, evBuild, evAppend, evIndex, evIndexAddr, evField, evFieldAddr, intBin, strBin, appDest, AS.val, AS.mem, AS.elems, AS.put, AS.put', AS.eff, AV.cells?, AV.isCell, AV.refs, all_isByte, take_byteV, drop_byteV, strOf_map, -List.map_take, -List.map_drop, bndOk, bnd, partAV, ptrAdd, killBox, catA, inOrder, fillA, setAt, ofVal, entry, resB, upd, byteV, List.head?_take, List.head?_drop, List.getElem?_map, h2])
    first | refine hK _ ?_ | refine ⟨by omega, hK _ ?_⟩ | refine W_skip (hK _ ?_) | trace_state
    clear hK hE K
    refine W_seq_k fun K hK hE => W_region (by decide) ?_
    repeat (rw [vcn]; try simp [optK_some, optK_none, optK_ite, optK_map, optK_bind, gOn, stepK, isMem, evPure, evMem, evBin, evUn, evConv, evLen, evBuiltin, evMinMax, evSlice, evBuild, evAppend, evIndex, evIndexAddr, evField, evFieldAddr, intBin, strBin, appDest, AS.val, AS.mem, AS.elems, AS.put, AS.put', AS.eff, AV.cells?, AV.isCell, AV.refs, all_isByte, take_byteV, drop_byteV, strOf_map, -List.map_take, -List.map_drop, bndOk, bnd, partAV, ptrAdd, killBox, catA, inOrder, fillA, setAt, ofVal, entry, resB, upd, byteV, List.head?_take, List.head?_drop, List.getElem?_map])
    first | refine hK _ ?_ | refine ⟨by omega, hK _ ?_⟩ | refine ⟨by simp [strOf_map, byteV, AV.isByte]; try omega, hK _ ?_⟩ | trace_state
    clear hK hE K
    refine W_ret ?_
    simp [post, resAV, resAll, resOne, closeV, closeC, closeL, resD, resDL, optK_some, optK_none, optK_ite, optK_map, optK_bind, gOn, stepK, isMem, evPure, evMem, evBin, evUn, evConv, evLen, evBuiltin, evMinMax, evSlice, evBuild, evAppend, evIndex, evIndexAddr, evField, evFieldAddr, intBin, strBin, appDest, AS.val, AS.mem, AS.elems, AS.put, AS.put', AS.eff, AV.cells?, AV.isCell, AV.refs, all_isByte, take_byteV, drop_byteV, strOf_map, -List.map_take, -List.map_drop, bndOk, bnd, partAV, ptrAdd, killBox, catA, inOrder, fillA, setAt, ofVal, entry, resB, upd, byteV, List.head?_take, List.head?_drop, List.getElem?_map, ofText, h2]
  · have h2 : b.size % 2 = 0 := by simp [hm] at hc; omega
    first | refine hK _ ?_ | refine ⟨by omega, hK _ ?_⟩ | refine W_skip (hK _ ?_) | trace_state
    clear hK hE K
    refine W_seq_k fun K hK hE => W_region (by decide) ?_
    repeat (rw [vcn]; try simp [optK_some, optK_none, optK_ite, optK_map, optK_bind, gOn, stepK, isMem, evPure, evMem, evBin, evUn, evConv, evLen, evBuiltin, evMinMax, evSlice, evBuild, evAppend, evIndex, evIndexAddr, evField, evFieldAddr, intBin, strBin, appDest, AS.val, AS.mem, AS.elems, AS.put, AS.put', AS.eff, AV.cells?, AV.isCell, AV.refs, all_isByte, take_byteV, drop_byteV, strOf_map, -List.map_take, -List.map_drop, bndOk, bnd, partAV, ptrAdd, killBox, catA, inOrder, fillA, setAt, ofVal, entry, resB, upd, byteV, List.head?_take, List.head?_drop, List.getElem?_map])
    first | refine hK _ ?_ | refine ⟨by omega, hK _ ?_⟩ | refine ⟨by simp [strOf_map, byteV, AV.isByte]; try omega, hK _ ?_⟩ | trace_state
    clear hK hE K
    refine W_ret ?_
    simp [post, resAV, resAll, resOne, closeV, closeC, closeL, resD, resDL, optK_some, optK_none, optK_ite, optK_map, optK_bind, gOn, stepK, isMem, evPure, evMem, evBin, evUn, evConv, evLen, evBuiltin, evMinMax, evSlice, evBuild, evAppend, evIndex, evIndexAddr, evField, evFieldAddr, intBin, strBin, appDest, AS.val, AS.mem, AS.elems, AS.put, AS.put', AS.eff, AV.cells?, AV.isCell, AV.refs, all_isByte, take_byteV, drop_byteV, strOf_map, -List.map_take, -List.map_drop, bndOk, bnd, partAV, ptrAdd, killBox, catA, inOrder, fillA, setAt, ofVal, entry, resB, upd, byteV, List.head?_take, List.head?_drop, List.getElem?_map, ofText, h2]
def textOf (l : List UInt8) : List UInt8 := if 0 < l.length ∧ l[l.length - 1]? = some 0 then l.take (l.length - 1) else l
theorem eval23 (f : Bool) (l : List UInt8) (n : Nat) (hn : l.length = n) : Eval Try.prog 23 [.slc f 1 n (l.map byteV)] (.ret (.v (.string ⟨(textOf l).toArray⟩))) := by
  refine Eval.intro Try.func23 rfl Try.call23 _ _ (Nat.le_of_ble_eq_true rfl) rfl fun hs0 => ?_
  have hs : n ≤ 9223372036854775807 := hs0.1.1
  refine W_seq_k fun K hK hE => W_region (by decide) ?_
  repeat (rw [vcn]; try simp [optK_some, optK_none, optK_ite, optK_map, optK_bind, gOn, stepK, isMem, evPure, evMem, evBin, evUn, evConv, evLen, evBuiltin, evMinMax, evSlice, evBuild, evAppend, evIndex, evIndexAddr, evField, evFieldAddr, intBin, strBin, appDest, AS.val, AS.mem, AS.elems, AS.put, AS.put', AS.eff, AV.cells?, AV.isCell, AV.refs, all_isByte, take_byteV, drop_byteV, strOf_map, -List.map_take, -List.map_drop, bndOk, bnd, partAV, ptrAdd, killBox, catA, inOrder, fillA, setAt, ofVal, entry, resB, upd, byteV, List.head?_take, List.head?_drop, List.getElem?_map])
  first | refine hK _ ?_ | refine ⟨by omega, hK _ ?_⟩ | refine ⟨by simp [strOf_map, byteV, AV.isByte]; try omega, hK _ ?_⟩ | trace_state
  clear hK hE K
  refine W_seq_k fun K hK hE => ?_
  refine W_seq_k fun K hK hE => W_region (by decide) ?_
  repeat (rw [vcn]; try simp [optK_some, optK_none, optK_ite, optK_map, optK_bind, gOn, stepK, isMem, evPure, evMem, evBin, evUn, evConv, evLen, evBuiltin, evMinMax, evSlice, evBuild, evAppend, evIndex, evIndexAddr, evField, evFieldAddr, intBin, strBin, appDest, AS.val, AS.mem, AS.elems, AS.put, AS.put', AS.eff, AV.cells?, AV.isCell, AV.refs, all_isByte, take_byteV, drop_byteV, strOf_map, -List.map_take, -List.map_drop, bndOk, bnd, partAV, ptrAdd, killBox, catA, inOrder, fillA, setAt, ofVal, entry, resB, upd, byteV, List.head?_take, List.head?_drop, List.getElem?_map])
  first | refine hK _ ?_ | refine ⟨by omega, hK _ ?_⟩ | refine ⟨by simp [strOf_map, byteV, AV.isByte]; try omega, hK _ ?_⟩ | trace_state
  clear hK hE K
  refine W_seq_k fun K1 hK1 hE1 => W_region (by decide) ?_
  rcases Nat.eq_zero_or_pos n with h0 | h0
  · subst h0
    have : l = [] := List.eq_nil_of_length_eq_zero hn
    subst this
    repeat (rw [vcn]; try simp [optK_some, optK_none, optK_ite, optK_map, optK_bind, gOn, stepK, isMem, evPure, evMem, evBin, evUn, evConv, evLen, evBuiltin, evMinMax, evSlice, evBuild, evAppend, evIndex, evIndexAddr, evField, evFieldAddr, intBin, strBin, appDest, AS.val, AS.mem, AS.elems, AS.put, AS.put', AS.eff, AV.cells?, AV.isCell, AV.refs, all_isByte, take_byteV, drop_byteV, strOf_map, -List.map_take, -List.map_drop, bndOk, bnd, partAV, ptrAdd, killBox, catA, inOrder, fillA, setAt, ofVal, entry, resB, upd, byteV, List.head?_take, List.head?_drop, List.getElem?_map])
    refine hK1 _ (W_cond rfl (fun hc => (by simp at hc)) (fun hc => W_skip (hK _ ?_)))
    clear hK hE K hK1 hE1 K1
    refine W_seq_k fun K hK hE => W_region (by decide) ?_
    repeat (rw [vcn]; try simp [optK_some, optK_none, optK_ite, optK_map, optK_bind, gOn, stepK, isMem, evPure, evMem, evBin, evUn, evConv, evLen, evBuiltin, evMinMax, evSlice, evBuild, evAppend, evIndex, evIndexAddr, evField, evFieldAddr, intBin, strBin, appDest, AS.val, AS.mem, AS.elems, AS.put, AS.put', AS.eff, AV.cells?, AV.isCell, AV.refs, all_isByte, take_byteV, drop_byteV, strOf_map, -List.map_take, -List.map_drop, bndOk, bnd, partAV, ptrAdd, killBox, catA, inOrder, fillA, setAt, ofVal, entry, resB, upd, byteV, List.head?_take, List.head?_drop, List.getElem?_map])
    first | refine hK _ ?_ | refine ⟨by omega, hK _ ?_⟩ | refine ⟨by simp [strOf_map, byteV, AV.isByte]; try omega, hK _ ?_⟩ | trace_state
    clear hK hE K
    refine W_ret ?_
    simp [post, resAV, resAll, resOne, closeV, closeC, closeL, resD, resDL, optK_some, optK_none, optK_ite, optK_map, optK_bind, gOn, stepK, isMem, evPure, evMem, evBin, evUn, evConv, evLen, evBuiltin, evMinMax, evSlice, evBuild, evAppend, evIndex, evIndexAddr, evField, evFieldAddr, intBin, strBin, appDest, AS.val, AS.mem, AS.elems, AS.put, AS.put', AS.eff, AV.cells?, AV.isCell, AV.refs, all_isByte, take_byteV, drop_byteV, strOf_map, -List.map_take, -List.map_drop, bndOk, bnd, partAV, ptrAdd, killBox, catA, inOrder, fillA, setAt, ofVal, entry, resB, upd, byteV, List.head?_take, List.head?_drop, List.getElem?_map, textOf, strOf]
  · have hw : IntKind.i64.wrap ((n : Int) - 1) = ((n - 1 : Nat) : Int) := by rw [i64_in _ (by omega)]; omega
    have hl : l[n - 1]? = some l[n - 1] := List.getElem?_eq_getElem (by omega)
    repeat (rw [vcn]; try simp [optK_some, optK_none, optK_ite, optK_map, optK_bind, gOn, stepK, isMem, evPure, evMem, evBin, evUn, evConv, evLen, evBuiltin, evMinMax, evSlice, evBuild, evAppend, evIndex, evIndexAddr, evField, evFieldAddr, intBin, strBin, appDest, AS.val, AS.mem, AS.elems, AS.put, AS.put', AS.eff, AV.cells?, AV.isCell, AV.refs, all_isByte, take_byteV, drop_byteV, strOf_map, -List.map_take, -List.map_drop, bndOk, bnd, partAV, ptrAdd, killBox, catA, inOrder, fillA, setAt, ofVal, entry, resB, upd, byteV, List.head?_take, List.head?_drop, List.getElem?_map, h0, hw, hl])
    refine ⟨by omega, ?_⟩
    repeat (rw [vcn]; try simp [optK_some, optK_none, optK_ite, optK_map, optK_bind, gOn, stepK, isMem, evPure, evMem, evBin, evUn, evConv, evLen, evBuiltin, evMinMax, evSlice, evBuild, evAppend, evIndex, evIndexAddr, evField, evFieldAddr, intBin, strBin, appDest, AS.val, AS.mem, AS.elems, AS.put, AS.put', AS.eff, AV.cells?, AV.isCell, AV.refs, all_isByte, take_byteV, drop_byteV, strOf_map, -List.map_take, -List.map_drop, bndOk, bnd, partAV, ptrAdd, killBox, catA, inOrder, fillA, setAt, ofVal, entry, resB, upd, byteV, List.head?_take, List.head?_drop, List.getElem?_map, h0, hw, hl])
    refine hK1 _ ?_
    clear hK1 hE1 K1
    refine W_cond rfl (fun hc => ?_) (fun hc => ?_)
    · refine W_region (by decide) ?_
      repeat (rw [vcn]; try simp [optK_some, optK_none, optK_ite, optK_map, optK_bind, gOn, stepK, isMem, evPure, evMem, evBin, evUn, evConv, evLen, evBuiltin, evMinMax, evSlice, evBuild, evAppend, evIndex, evIndexAddr, evField, evFieldAddr, intBin, strBin, appDest, AS.val, AS.mem, AS.elems, AS.put, AS.put', AS.eff, AV.cells?, AV.isCell, AV.refs, all_isByte, take_byteV, drop_byteV, strOf_map, -List.map_take, -List.map_drop, bndOk, bnd, partAV, ptrAdd, killBox, catA, inOrder, fillA, setAt, ofVal, entry, resB, upd, byteV, List.head?_take, List.head?_drop, List.getElem?_map, hw])
      first | refine hK _ ?_ | refine ⟨by omega, hK _ ?_⟩ | refine W_skip (hK _ ?_) | trace_state
      clear hK hE K
      refine W_seq_k fun K hK hE => W_region (by decide) ?_
      repeat (rw [vcn]; try simp [optK_some, optK_none, optK_ite, optK_map, optK_bind, gOn, stepK, isMem, evPure, evMem, evBin, evUn, evConv, evLen, evBuiltin, evMinMax, evSlice, evBuild, evAppend, evIndex, evIndexAddr, evField, evFieldAddr, intBin, strBin, appDest, AS.val, AS.mem, AS.elems, AS.put, AS.put', AS.eff, AV.cells?, AV.isCell, AV.refs, all_isByte, take_byteV, drop_byteV, strOf_map, -List.map_take, -List.map_drop, bndOk, bnd, partAV, ptrAdd, killBox, catA, inOrder, fillA, setAt, ofVal, entry, resB, upd, byteV, List.head?_take, List.head?_drop, List.getElem?_map])
      first | refine hK _ ?_ | refine ⟨by omega, hK _ ?_⟩ | refine ⟨by simp [strOf_map, byteV, AV.isByte]; try omega, hK _ ?_⟩ | trace_state
      clear hK hE K
      refine W_ret ?_
      simp [post, resAV, resAll, resOne, closeV, closeC, closeL, resD, resDL, optK_some, optK_none, optK_ite, optK_map, optK_bind, gOn, stepK, isMem, evPure, evMem, evBin, evUn, evConv, evLen, evBuiltin, evMinMax, evSlice, evBuild, evAppend, evIndex, evIndexAddr, evField, evFieldAddr, intBin, strBin, appDest, AS.val, AS.mem, AS.elems, AS.put, AS.put', AS.eff, AV.cells?, AV.isCell, AV.refs, all_isByte, take_byteV, drop_byteV, strOf_map, -List.map_take, -List.map_drop, bndOk, bnd, partAV, ptrAdd, killBox, catA, inOrder, fillA, setAt, ofVal, entry, resB, upd, byteV, List.head?_take, List.head?_drop, List.getElem?_map]
      rw [u8_zero] at hc
      simp [textOf, strOf_take, hn, h0, hl, beq_iff_eq.1 hc]
    · first | refine hK _ ?_ | refine ⟨by omega, hK _ ?_⟩ | refine W_skip (hK _ ?_) | trace_state
      clear hK hE K
      refine W_seq_k fun K hK hE => W_region (by decide) ?_
      repeat (rw [vcn]; try simp [optK_some, optK_none, optK_ite, optK_map, optK_bind, gOn, stepK, isMem, evPure, evMem, evBin, evUn, evConv, evLen, evBuiltin, evMinMax, evSlice, evBuild, evAppend, evIndex, evIndexAddr, evField, evFieldAddr, intBin, strBin, appDest, AS.val, AS.mem, AS.elems, AS.put, AS.put', AS.eff, AV.cells?, AV.isCell, AV.refs, all_isByte, take_byteV, drop_byteV, strOf_map, -List.map_take, -List.map_drop, bndOk, bnd, partAV, ptrAdd, killBox, catA, inOrder, fillA, setAt, ofVal, entry, resB, upd, byteV, List.head?_take, List.head?_drop, List.getElem?_map])
      first | refine hK _ ?_ | refine ⟨by omega, hK _ ?_⟩ | refine ⟨by simp [strOf_map, byteV, AV.isByte]; try omega, hK _ ?_⟩ | trace_state
      clear hK hE K
      refine W_ret ?_
      simp [post, resAV, resAll, resOne, closeV, closeC, closeL, resD, resDL, optK_some, optK_none, optK_ite, optK_map, optK_bind, gOn, stepK, isMem, evPure, evMem, evBin, evUn, evConv, evLen, evBuiltin, evMinMax, evSlice, evBuild, evAppend, evIndex, evIndexAddr, evField, evFieldAddr, intBin, strBin, appDest, AS.val, AS.mem, AS.elems, AS.put, AS.put', AS.eff, AV.cells?, AV.isCell, AV.refs, all_isByte, take_byteV, drop_byteV, strOf_map, -List.map_take, -List.map_drop, bndOk, bnd, partAV, ptrAdd, killBox, catA, inOrder, fillA, setAt, ofVal, entry, resB, upd, byteV, List.head?_take, List.head?_drop, List.getElem?_map]
      rw [u8_zero] at hc
      have hc' : ¬ l[n - 1] = 0 := by simpa using hc
      simp [textOf, strOf_map, hn, h0, hl, hc']
end Go.Fw

import Derived.Test.YtjgbikhnnkigpaaT7
set_option linter.unusedSimpArgs false
set_option linter.unusedVariables false
namespace Go.Fw
open Go Go.Proofs Go.IntWalk

def valB (l : List UInt8) : Nat := l.foldl (fun n x => 256 * n + x.toNat) 0
theorem valB_step (l : List UInt8) (i : Nat) (x : UInt8) (h : l[i]? = some x) : valB (l.take (i + 1)) = 256 * valB (l.take i) + x.toNat := by
  rw [List.take_add_one, h]
  simp [valB]
theorem valB_lt (l : List UInt8) : ∀ i, i ≤ l.length → valB (l.take i) < 256 ^ i
  | 0, _ => by simp [valB]
  | i + 1, h => by
    rw [valB_step l i l[i] (List.getElem?_eq_getElem (by omega)), Nat.pow_succ]
    have h1 := valB_lt l i (by omega)
    have h2 : l[i].toNat < 256 := l[i].toNat_lt
    omega
theorem pow_le4 (i : Nat) (h : i ≤ 4) : 256 ^ i ≤ 4294967296 := by
  have : i = 0 ∨ i = 1 ∨ i = 2 ∨ i = 3 ∨ i = 4 := by omega
  rcases this with rfl | rfl | rfl | rfl | rfl <;> decide
def numI (l : List UInt8) : Int := if 256 ^ l.length / 2 ≤ valB l then (valB l : Int) - ((256 ^ l.length : Nat) : Int) else valB l

set_option linter.unusedSimpArgs false
set_option maxRecDepth 100000
set_option maxHeartbeats 1000000 in
theorem eval58 (f : Bool) (l : List UInt8) (hs : l.length ≤ 4) : Eval Try.prog 58 [.slc f 1 l.length (l.map byteV)] (.ret (intV (numI l))) := by
  refine Eval.intro Try.func58 rfl Try.call58 _ _ (Nat.le_of_ble_eq_true rfl) (by simp [AV.refs]) fun hs0 => ?_
  refine W_seq_k fun K hK hE => W_region (by decide) ?_
  repeat (rw [vcn]; try simp [optK_some, optK_none, optK_ite, optK_map, optK_bind, gOn, stepK, isMem, evPure, evMem, evBin, evUn, evConv, evLen, evBuiltin, evMinMax, evSlice, evBuild, evAppend, evIndex, evIndexAddr, evField, evFieldAddr, intBin, strBin, appDest, AS.val, AS.mem, AS.elems, AS.put, AS.put', AS.eff, AV.cells?, AV.isCell, AV.refs, all_isByte, take_byteV, drop_byteV, strOf_map, -List.map_take, -List.map_drop, bndOk, bnd, partAV, ptrAdd, killBox, catA, inOrder, fillA, setAt, ofVal, entry, resB, upd, byteV, List.head?_take, List.head?_drop, List.getElem?_map])
  first | refine hK _ ?_ | refine ⟨by omega, hK _ ?_⟩ | refine ⟨by simp [strOf_map, byteV, AV.isByte]; try omega, hK _ ?_⟩ | trace_state
  clear hK hE K
  refine W_seq_k fun K hK hE => W_region (by decide) ?_
  repeat (rw [vcn]; try simp [optK_some, optK_none, optK_ite, optK_map, optK_bind, gOn, stepK, isMem, evPure, evMem, evBin, evUn, evConv, evLen, evBuiltin, evMinMax, evSlice, evBuild, evAppend, evIndex, evIndexAddr, evField, evFieldAddr, intBin, strBin, appDest, AS.val, AS.mem, AS.elems, AS.put, AS.put', AS.eff, AV.cells?, AV.isCell, AV.refs, all_isByte, take_byteV, drop_byteV, strOf_map, -List.map_take, -List.map_drop, bndOk, bnd, partAV, ptrAdd, killBox, catA, inOrder, fillA, setAt, ofVal, entry, resB, upd, byteV, List.head?_take, List.head?_drop, List.getElem?_map])
  first | refine hK _ ?_ | refine ⟨by omega, hK _ ?_⟩ | refine ⟨by simp [strOf_map, byteV, AV.isByte]; try omega, hK _ ?_⟩ | trace_state
  clear hK hE K
  refine W_seq_k fun K hK hE => W_seq_k fun K1 hK1 hE1 => W_region (by decide) ?_
  repeat (rw [vcn]; try simp [optK_some, optK_none, optK_ite, optK_map, optK_bind, gOn, stepK, isMem, evPure, evMem, evBin, evUn, evConv, evLen, evBuiltin, evMinMax, evSlice, evBuild, evAppend, evIndex, evIndexAddr, evField, evFieldAddr, intBin, strBin, appDest, AS.val, AS.mem, AS.elems, AS.put, AS.put', AS.eff, AV.cells?, AV.isCell, AV.refs, all_isByte, take_byteV, drop_byteV, strOf_map, -List.map_take, -List.map_drop, bndOk, bnd, partAV, ptrAdd, killBox, catA, inOrder, fillA, setAt, ofVal, entry, resB, upd, byteV, List.head?_take, List.head?_drop, List.getElem?_map])
  refine hK1 _ (W_block_k fun J b1 b2 b3 b4 b5 => ?_)
  clear hK1 hE1 K1
  refine W_loop_k (X := Nat) (fun i => [(0, .slc f 1 l.length (l.map byteV)), (3, intV (valB (l.take i))), (4, intV i)]) (fun _ => [])
    (fun i => l.length - i) (fun i => i ≤ l.length) 0 id (Nat.zero_le _) ⟨?_, ?_, ?_, ?_, ?_, ?_⟩ fun i hi R hR hRE => ?_
  · simp [upd, resB, ren, renL, renBox, AV.refs, refsL, Box.refs, lk, take_byteV, drop_byteV, refsL_bytes, -List.map_take, -List.map_drop, intV, valB]
  · simp
  · simp
  · simp [upd, resB, ren, renL, renBox, AV.refs, refsL, Box.refs, lk, take_byteV, drop_byteV, refsL_bytes, -List.map_take, -List.map_drop, intV]
  · simp
  · simp
  have hv := valB_lt l i hi
  have hp := pow_le4 i (by omega)
  refine W_seq_k fun K3 hK3 hE3 => W_seq_k fun K2 hK2 hE2 => W_region (by decide) ?_
  repeat (rw [vcn]; try simp [optK_some, optK_none, optK_ite, optK_map, optK_bind, gOn, stepK, isMem, evPure, evMem, evBin, evUn, evConv, evLen, evBuiltin, evMinMax, evSlice, evBuild, evAppend, evIndex, evIndexAddr, evField, evFieldAddr, intBin, strBin, appDest, AS.val, AS.mem, AS.elems, AS.put, AS.put', AS.eff, AV.cells?, AV.isCell, AV.refs, all_isByte, take_byteV, drop_byteV, strOf_map, -List.map_take, -List.map_drop, bndOk, bnd, partAV, ptrAdd, killBox, catA, inOrder, fillA, setAt, ofVal, entry, resB, upd, byteV, List.head?_take, List.head?_drop, List.getElem?_map, lk, mkS, intV])
  refine hK2 _ (W_cond rfl (fun hc => ?_) (fun hc => ?_))
  · have hlt : i < l.length := by simp at hc; omega
    have g0 : l[i]? = some l[i] := List.getElem?_eq_getElem hlt
    have hx : l[i].toNat < 256 := l[i].toNat_lt
    have hw1 : IntKind.i64.wrap (256 * (valB (l.take i) : Int)) = 256 * (valB (l.take i) : Int) := by rw [i64_in _ (by omega)]
    have hw2 : IntKind.i64.wrap (256 * (valB (l.take i) : Int) + (l[i].toNat : Int)) = 256 * (valB (l.take i) : Int) + (l[i].toNat : Int) := by rw [i64_in _ (by omega)]
    have hw3 : IntKind.i64.wrap ((i : Int) + 1) = (i : Int) + 1 := by rw [i64_in _ (by omega)]
    refine W_skip (hK3 _ (W_seq_k fun K4 hK4 hE4 => W_block_k fun K5 c1 c2 c3 c4 c5 => ?_))
    refine W_region (by decide) ?_
    repeat (rw [vcn]; try simp [optK_some, optK_none, optK_ite, optK_map, optK_bind, gOn, stepK, isMem, evPure, evMem, evBin, evUn, evConv, evLen, evBuiltin, evMinMax, evSlice, evBuild, evAppend, evIndex, evIndexAddr, evField, evFieldAddr, intBin, strBin, appDest, AS.val, AS.mem, AS.elems, AS.put, AS.put', AS.eff, AV.cells?, AV.isCell, AV.refs, all_isByte, take_byteV, drop_byteV, strOf_map, -List.map_take, -List.map_drop, bndOk, bnd, partAV, ptrAdd, killBox, catA, inOrder, fillA, setAt, ofVal, entry, resB, upd, byteV, List.head?_take, List.head?_drop, List.getElem?_map, lk, g0, hlt, hw1, hw2, u8_i64])
    refine c1 _ (hK4 _ (W_region (by decide) ?_))
    repeat (rw [vcn]; try simp [optK_some, optK_none, optK_ite, optK_map, optK_bind, gOn, stepK, isMem, evPure, evMem, evBin, evUn, evConv, evLen, evBuiltin, evMinMax, evSlice, evBuild, evAppend, evIndex, evIndexAddr, evField, evFieldAddr, intBin, strBin, appDest, AS.val, AS.mem, AS.elems, AS.put, AS.put', AS.eff, AV.cells?, AV.isCell, AV.refs, all_isByte, take_byteV, drop_byteV, strOf_map, -List.map_take, -List.map_drop, bndOk, bnd, partAV, ptrAdd, killBox, catA, inOrder, fillA, setAt, ofVal, entry, resB, upd, byteV, List.head?_take, List.head?_drop, List.getElem?_map, lk, hw3])
    refine hR (i + 1) _ id (by omega) (by omega) ⟨?_, ?_, ?_, ?_, ?_, ?_⟩
    · simp [upd, resB, ren, renL, renBox, AV.refs, refsL, Box.refs, lk, take_byteV, drop_byteV, refsL_bytes, -List.map_take, -List.map_drop, intV, valB_step l i _ g0]
    · simp
    · simp
    · simp [upd, resB, ren, renL, renBox, AV.refs, refsL, Box.refs, lk, take_byteV, drop_byteV, refsL_bytes, -List.map_take, -List.map_drop, intV]
    · simp
    · simp
  · have hlt : i = l.length := by simp at hc; omega
    subst hlt
    rw [List.take_length] at hv ⊢
    refine W_exit (hE3 _ _ (by simp) (hRE _ _ (by simp) (b2 _ (hK _ ?_))))
    clear hK3 hE3 K3 hK2 hE2 K2 hR hRE R b1 b2 b3 b4 b5 J hK hE K
    refine W_seq_k fun K hK hE => W_region (by decide) ?_
    repeat (rw [vcn]; try simp [optK_some, optK_none, optK_ite, optK_map, optK_bind, gOn, stepK, isMem, evPure, evMem, evBin, evUn, evConv, evLen, evBuiltin, evMinMax, evSlice, evBuild, evAppend, evIndex, evIndexAddr, evField, evFieldAddr, intBin, strBin, appDest, AS.val, AS.mem, AS.elems, AS.put, AS.put', AS.eff, AV.cells?, AV.isCell, AV.refs, all_isByte, take_byteV, drop_byteV, strOf_map, -List.map_take, -List.map_drop, bndOk, bnd, partAV, ptrAdd, killBox, catA, inOrder, fillA, setAt, ofVal, entry, resB, upd, byteV, List.head?_take, List.head?_drop, List.getElem?_map])
    first | refine hK _ ?_ | refine ⟨by omega, hK _ ?_⟩ | refine ⟨by simp [strOf_map, byteV, AV.isByte]; try omega, hK _ ?_⟩ | trace_state
    clear hK hE K
    refine W_seq_k fun K hK hE => W_seq_k fun K1 hK1 hE1 => W_region (by decide) ?_
    repeat (rw [vcn]; try simp [optK_some, optK_none, optK_ite, optK_map, optK_bind, gOn, stepK, isMem, evPure, evMem, evBin, evUn, evConv, evLen, evBuiltin, evMinMax, evSlice, evBuild, evAppend, evIndex, evIndexAddr, evField, evFieldAddr, intBin, strBin, appDest, AS.val, AS.mem, AS.elems, AS.put, AS.put', AS.eff, AV.cells?, AV.isCell, AV.refs, all_isByte, take_byteV, drop_byteV, strOf_map, -List.map_take, -List.map_drop, bndOk, bnd, partAV, ptrAdd, killBox, catA, inOrder, fillA, setAt, ofVal, entry, resB, upd, byteV, List.head?_take, List.head?_drop, List.getElem?_map])
    refine hK1 _ (W_block_k fun J b1 b2 b3 b4 b5 => ?_)
    clear hK1 hE1 K1
    refine W_loop_k (X := Nat) (fun i => [(0, .slc f 1 l.length (l.map byteV)), (3, intV (valB l)), (5, intV ((256 ^ i : Nat) : Int)), (6, intV i)]) (fun _ => [])
      (fun i => l.length - i) (fun i => i ≤ l.length) 0 id (Nat.zero_le _) ⟨?_, ?_, ?_, ?_, ?_, ?_⟩ fun i hi R hR hRE => ?_
    · simp [upd, resB, ren, renL, renBox, AV.refs, refsL, Box.refs, lk, take_byteV, drop_byteV, refsL_bytes, -List.map_take, -List.map_drop, intV]
    · simp
    · simp
    · simp [upd, resB, ren, renL, renBox, AV.refs, refsL, Box.refs, lk, take_byteV, drop_byteV, refsL_bytes, -List.map_take, -List.map_drop, intV]
    · simp
    · simp
    have hp := pow_le4 i (by omega)
    obtain ⟨q, hq⟩ : ∃ q : Nat, q = 256 ^ i := ⟨_, rfl⟩
    rw [← hq] at hp ⊢
    refine W_seq_k fun K3 hK3 hE3 => W_seq_k fun K2 hK2 hE2 => W_region (by decide) ?_
    repeat (rw [vcn]; try simp [optK_some, optK_none, optK_ite, optK_map, optK_bind, gOn, stepK, isMem, evPure, evMem, evBin, evUn, evConv, evLen, evBuiltin, evMinMax, evSlice, evBuild, evAppend, evIndex, evIndexAddr, evField, evFieldAddr, intBin, strBin, appDest, AS.val, AS.mem, AS.elems, AS.put, AS.put', AS.eff, AV.cells?, AV.isCell, AV.refs, all_isByte, take_byteV, drop_byteV, strOf_map, -List.map_take, -List.map_drop, bndOk, bnd, partAV, ptrAdd, killBox, catA, inOrder, fillA, setAt, ofVal, entry, resB, upd, byteV, List.head?_take, List.head?_drop, List.getElem?_map, lk, mkS, intV])
    refine hK2 _ (W_cond rfl (fun hc => ?_) (fun hc => ?_))
    · have hlt : i < l.length := by simp at hc; omega
      have hw1 : IntKind.i64.wrap ((q : Int) * 256) = (q : Int) * 256 := by rw [i64_in _ (by omega)]
      have hw3 : IntKind.i64.wrap ((i : Int) + 1) = (i : Int) + 1 := by rw [i64_in _ (by omega)]
      refine W_skip (hK3 _ (W_seq_k fun K4 hK4 hE4 => W_block_k fun K5 c1 c2 c3 c4 c5 => ?_))
      refine W_region (by decide) ?_
      repeat (rw [vcn]; try simp [optK_some, optK_none, optK_ite, optK_map, optK_bind, gOn, stepK, isMem, evPure, evMem, evBin, evUn, evConv, evLen, evBuiltin, evMinMax, evSlice, evBuild, evAppend, evIndex, evIndexAddr, evField, evFieldAddr, intBin, strBin, appDest, AS.val, AS.mem, AS.elems, AS.put, AS.put', AS.eff, AV.cells?, AV.isCell, AV.refs, all_isByte, take_byteV, drop_byteV, strOf_map, -List.map_take, -List.map_drop, bndOk, bnd, partAV, ptrAdd, killBox, catA, inOrder, fillA, setAt, ofVal, entry, resB, upd, byteV, List.head?_take, List.head?_drop, List.getElem?_map, lk, hw1])
      refine c1 _ (hK4 _ (W_region (by decide) ?_))
      repeat (rw [vcn]; try simp [optK_some, optK_none, optK_ite, optK_map, optK_bind, gOn, stepK, isMem, evPure, evMem, evBin, evUn, evConv, evLen, evBuiltin, evMinMax, evSlice, evBuild, evAppend, evIndex, evIndexAddr, evField, evFieldAddr, intBin, strBin, appDest, AS.val, AS.mem, AS.elems, AS.put, AS.put', AS.eff, AV.cells?, AV.isCell, AV.refs, all_isByte, take_byteV, drop_byteV, strOf_map, -List.map_take, -List.map_drop, bndOk, bnd, partAV, ptrAdd, killBox, catA, inOrder, fillA, setAt, ofVal, entry, resB, upd, byteV, List.head?_take, List.head?_drop, List.getElem?_map, lk, hw3])
      refine hR (i + 1) _ id (by omega) (by omega) ⟨?_, ?_, ?_, ?_, ?_, ?_⟩
      · simp [upd, resB, ren, renL, renBox, AV.refs, refsL, Box.refs, lk, take_byteV, drop_byteV, refsL_bytes, -List.map_take, -List.map_drop, intV, hq, Int.pow_succ]
      · simp
      · simp
      · simp [upd, resB, ren, renL, renBox, AV.refs, refsL, Box.refs, lk, take_byteV, drop_byteV, refsL_bytes, -List.map_take, -List.map_drop, intV]
      · simp
      · simp
    · have hlt : i = l.length := by simp at hc; omega
      subst hlt
      refine W_exit (hE3 _ _ (by simp) (hRE _ _ (by simp) (b2 _ (hK _ ?_))))
      clear hK3 hE3 K3 hK2 hE2 K2 hR hRE R b1 b2 b3 b4 b5 J hK hE K
      have hd : (q : Int).tdiv 2 = ((q / 2 : Nat) : Int) := by rw [Int.ofNat_tdiv]; rfl
      have hwd : IntKind.i64.wrap ((q : Int) / 2) = (q : Int) / 2 := by rw [i64_in _ (by omega)]
      have hws : IntKind.i64.wrap ((valB l : Int) - (q : Int)) = (valB l : Int) - (q : Int) := by rw [i64_in _ (by omega)]
      refine W_seq_k fun K hK hE => ?_
      refine W_seq_k fun K hK hE => W_region (by decide) ?_
      repeat (rw [vcn]; try simp [optK_some, optK_none, optK_ite, optK_map, optK_bind, gOn, stepK, isMem, evPure, evMem, evBin, evUn, evConv, evLen, evBuiltin, evMinMax, evSlice, evBuild, evAppend, evIndex, evIndexAddr, evField, evFieldAddr, intBin, strBin, appDest, AS.val, AS.mem, AS.elems, AS.put, AS.put', AS.eff, AV.cells?, AV.isCell, AV.refs, all_isByte, take_byteV, drop_byteV, strOf_map, -List.map_take, -List.map_drop, bndOk, bnd, partAV, ptrAdd, killBox, catA, inOrder, fillA, setAt, ofVal, entry, resB, upd, byteV, List.head?_take, List.head?_drop, List.getElem?_map, hd, hwd])
      first | refine hK _ ?_ | refine ⟨by omega, hK _ ?_⟩ | refine ⟨by simp [strOf_map, byteV, AV.isByte]; try omega, hK _ ?_⟩ | trace_state
      clear hK hE K
      refine W_cond rfl (fun hc => ?_) (fun hc => ?_)
      · have hge : 256 ^ l.length / 2 ≤ valB l := by rw [← hq]; simp at hc; omega
        refine W_region (by decide) ?_
        repeat (rw [vcn]; try simp [optK_some, optK_none, optK_ite, optK_map, optK_bind, gOn, stepK, isMem, evPure, evMem, evBin, evUn, evConv, evLen, evBuiltin, evMinMax, evSlice, evBuild, evAppend, evIndex, evIndexAddr, evField, evFieldAddr, intBin, strBin, appDest, AS.val, AS.mem, AS.elems, AS.put, AS.put', AS.eff, AV.cells?, AV.isCell, AV.refs, all_isByte, take_byteV, drop_byteV, strOf_map, -List.map_take, -List.map_drop, bndOk, bnd, partAV, ptrAdd, killBox, catA, inOrder, fillA, setAt, ofVal, entry, resB, upd, byteV, List.head?_take, List.head?_drop, List.getElem?_map, hws])
        first | refine hK _ ?_ | refine ⟨by omega, hK _ ?_⟩ | refine W_skip (hK _ ?_) | trace_state
        clear hK hE K
        refine W_seq_k fun K hK hE => W_region (by decide) ?_
        repeat (rw [vcn]; try simp [optK_some, optK_none, optK_ite, optK_map, optK_bind, gOn, stepK, isMem, evPure, evMem, evBin, evUn, evConv, evLen, evBuiltin, evMinMax, evSlice, evBuild, evAppend, evIndex, evIndexAddr, evField, evFieldAddr, intBin, strBin, appDest, AS.val, AS.mem, AS.elems, AS.put, AS.put', AS.eff, AV.cells?, AV.isCell, AV.refs, all_isByte, take_byteV, drop_byteV, strOf_map, -List.map_take, -List.map_drop, bndOk, bnd, partAV, ptrAdd, killBox, catA, inOrder, fillA, setAt, ofVal, entry, resB, upd, byteV, List.head?_take, List.head?_drop, List.getElem?_map])
        first | refine hK _ ?_ | refine ⟨by omega, hK _ ?_⟩ | refine ⟨by simp [strOf_map, byteV, AV.isByte]; try omega, hK _ ?_⟩ | trace_state
        clear hK hE K
        refine W_ret ?_
        simp [post, resAV, resAll, resOne, closeV, closeC, closeL, resD, resDL, optK_some, optK_none, optK_ite, optK_map, optK_bind, gOn, stepK, isMem, evPure, evMem, evBin, evUn, evConv, evLen, evBuiltin, evMinMax, evSlice, evBuild, evAppend, evIndex, evIndexAddr, evField, evFieldAddr, intBin, strBin, appDest, AS.val, AS.mem, AS.elems, AS.put, AS.put', AS.eff, AV.cells?, AV.isCell, AV.refs, all_isByte, take_byteV, drop_byteV, strOf_map, -List.map_take, -List.map_drop, bndOk, bnd, partAV, ptrAdd, killBox, catA, inOrder, fillA, setAt, ofVal, entry, resB, upd, byteV, List.head?_take, List.head?_drop, List.getElem?_map, intV, numI, hge]
        rw [hq]
        simp
      · have hge : ¬ 256 ^ l.length / 2 ≤ valB l := by rw [← hq]; simp at hc; omega
        first | refine hK _ ?_ | refine ⟨by omega, hK _ ?_⟩ | refine W_skip (hK _ ?_) | trace_state
        clear hK hE K
        refine W_seq_k fun K hK hE => W_region (by decide) ?_
        repeat (rw [vcn]; try simp [optK_some, optK_none, optK_ite, optK_map, optK_bind, gOn, stepK, isMem, evPure, evMem, evBin, evUn, evConv, evLen, evBuiltin, evMinMax, evSlice, evBuild, evAppend, evIndex, evIndexAddr, evField, evFieldAddr, intBin, strBin, appDest, AS.val, AS.mem, AS.elems, AS.put, AS.put', AS.eff, AV.cells?, AV.isCell, AV.refs, all_isByte, take_byteV, drop_byteV, strOf_map, -List.map_take, -List.map_drop, bndOk, bnd, partAV, ptrAdd, killBox, catA, inOrder, fillA, setAt, ofVal, entry, resB, upd, byteV, List.head?_take, List.head?_drop, List.getElem?_map])
        first | refine hK _ ?_ | refine ⟨by omega, hK _ ?_⟩ | refine ⟨by simp [strOf_map, byteV, AV.isByte]; try omega, hK _ ?_⟩ | trace_state
        clear hK hE K
        refine W_ret ?_
        simp [post, resAV, resAll, resOne, closeV, closeC, closeL, resD, resDL, optK_some, optK_none, optK_ite, optK_map, optK_bind, gOn, stepK, isMem, evPure, evMem, evBin, evUn, evConv, evLen, evBuiltin, evMinMax, evSlice, evBuild, evAppend, evIndex, evIndexAddr, evField, evFieldAddr, intBin, strBin, appDest, AS.val, AS.mem, AS.elems, AS.put, AS.put', AS.eff, AV.cells?, AV.isCell, AV.refs, all_isByte, take_byteV, drop_byteV, strOf_map, -List.map_take, -List.map_drop, bndOk, bnd, partAV, ptrAdd, killBox, catA, inOrder, fillA, setAt, ofVal, entry, resB, upd, byteV, List.head?_take, List.head?_drop, List.getElem?_map, intV, numI, hge]

def numsOf (s n : Nat) (l : List UInt8) : List Int := (List.range n).map fun i => numI ((l.drop (s * i)).take s)
def numsL (s : Nat) (l : List UInt8) : List Int := if l.length % s = 0 then numsOf s (l.length / s) l else []
def numsAV (s : Nat) (l : List UInt8) : AV := .tup [.slc false 1 (numsL s l).length ((numsL s l).map intV), intV (errL s l)]

set_option maxHeartbeats 1000000 in
theorem eval29 (f : Bool) (l : List UInt8) (s : Nat) (h1 : 1 ≤ s) (h4 : s ≤ 4) (hs : l.length ≤ 1000000) : Eval Try.prog 29 [.slc f 1 l.length (l.map byteV), intV s] (.ret (numsAV s l)) := by
  refine Eval.intro Try.func29 rfl Try.call29 _ _ (Nat.le_of_ble_eq_true rfl) (by simp [AV.refs, refsL, intV]) fun hs0 => ?_
  have hm : ((l.length : Int).tmod (s : Int)) = ((l.length % s : Nat) : Int) := by rw [Int.ofNat_tmod]
  have hs00 : ¬ s = 0 := by omega
  have hmm0 : ((l.length : Int) % (s : Int)) = ((l.length % s : Nat) : Int) := by omega
  refine W_seq_k fun K hK hE => W_region (by decide) ?_
  repeat (rw [vcn]; try simp [optK_some, optK_none, optK_ite, optK_map, optK_bind, gOn, stepK, isMem, evPure, evMem, evBin, evUn, evConv, evLen, evBuiltin, evMinMax, evSlice, evBuild, evAppend, evIndex, evIndexAddr, evField, evFieldAddr, intBin, strBin, appDest, AS.val, AS.mem, AS.elems, AS.put, AS.put', AS.eff, AV.cells?, AV.isCell, AV.refs, all_isByte, take_byteV, drop_byteV, strOf_map, -List.map_take, -List.map_drop, bndOk, bnd, partAV, ptrAdd, killBox, catA, inOrder, fillA, setAt, ofVal, entry, resB, upd, byteV, List.head?_take, List.head?_drop, List.getElem?_map, intV])
  first | refine hK _ ?_ | refine ⟨by omega, hK _ ?_⟩ | refine ⟨by simp [strOf_map, byteV, AV.isByte]; try omega, hK _ ?_⟩ | trace_state
  clear hK hE K
  refine W_seq_k fun K hK hE => ?_
  refine W_seq_k fun K hK hE => W_region (by decide) ?_
  repeat (rw [vcn]; try simp [optK_some, optK_none, optK_ite, optK_map, optK_bind, gOn, stepK, isMem, evPure, evMem, evBin, evUn, evConv, evLen, evBuiltin, evMinMax, evSlice, evBuild, evAppend, evIndex, evIndexAddr, evField, evFieldAddr, intBin, strBin, appDest, AS.val, AS.mem, AS.elems, AS.put, AS.put', AS.eff, AV.cells?, AV.isCell, AV.refs, all_isByte, take_byteV, drop_byteV, strOf_map, -List.map_take, -List.map_drop, bndOk, bnd, partAV, ptrAdd, killBox, catA, inOrder, fillA, setAt, ofVal, entry, resB, upd, byteV, List.head?_take, List.head?_drop, List.getElem?_map, hm, intV, hs00])
  first | refine hK _ ?_ | refine ⟨by omega, hK _ ?_⟩ | refine ⟨by simp [strOf_map, byteV, AV.isByte]; try omega, hK _ ?_⟩ | trace_state
  clear hK hE K
  refine W_cond rfl (fun hc => ?_) (fun hc => ?_)
  · have h2 : ¬ l.length % s = 0 := by rw [hmm0] at hc; simp at hc; omega
    refine W_seq_k fun K1 hK1 _ => W_region (by decide) ?_
    repeat (rw [vcn]; try simp [optK_some, optK_none, optK_ite, optK_map, optK_bind, gOn, stepK, isMem, evPure, evMem, evBin, evUn, evConv, evLen, evBuiltin, evMinMax, evSlice, evBuild, evAppend, evIndex, evIndexAddr, evField, evFieldAddr, intBin, strBin, appDest, AS.val, AS.mem, AS.elems, AS.put, AS.put', AS.eff, AV.cells?, AV.isCell, AV.refs, all_isByte, take_byteV, drop_byteV, strOf_map, -List.map_take, -List.map_drop, bndOk, bnd, partAV, ptrAdd, killBox, catA, inOrder, fillA, setAt, ofVal, entry, resB, upd, byteV, List.head?_take, List.head?_drop, List.getElem?_map])
    refine hK1 _ (W_nil 4 700 3 1 rfl (by simp) (W_frz 700 (e := 3) (l := []) rfl rfl (W_ret (hE _ _ (by simp) ?_))))
    simp [post, resAV, resAll, resOne, closeV, closeC, closeL, resD, resDL, optK_some, optK_none, optK_ite, optK_map, optK_bind, gOn, stepK, isMem, evPure, evMem, evBin, evUn, evConv, evLen, evBuiltin, evMinMax, evSlice, evBuild, evAppend, evIndex, evIndexAddr, evField, evFieldAddr, intBin, strBin, appDest, AS.val, AS.mem, AS.elems, AS.put, AS.put', AS.eff, AV.cells?, AV.isCell, AV.refs, all_isByte, take_byteV, drop_byteV, strOf_map, -List.map_take, -List.map_drop, bndOk, bnd, partAV, ptrAdd, killBox, catA, inOrder, fillA, setAt, ofVal, entry, resB, upd, byteV, List.head?_take, List.head?_drop, List.getElem?_map, numsAV, numsL, errL, h2, intV, refsL]
  have h2 : l.length % s = 0 := by rw [hmm0] at hc; simp at hc; omega
  first | refine hK _ ?_ | refine ⟨by omega, hK _ ?_⟩ | refine W_skip (hK _ ?_) | trace_state
  clear hK hE K
  refine W_seq_k fun K hK hE => W_region (by decide) ?_
  repeat (rw [vcn]; try simp [optK_some, optK_none, optK_ite, optK_map, optK_bind, gOn, stepK, isMem, evPure, evMem, evBin, evUn, evConv, evLen, evBuiltin, evMinMax, evSlice, evBuild, evAppend, evIndex, evIndexAddr, evField, evFieldAddr, intBin, strBin, appDest, AS.val, AS.mem, AS.elems, AS.put, AS.put', AS.eff, AV.cells?, AV.isCell, AV.refs, all_isByte, take_byteV, drop_byteV, strOf_map, -List.map_take, -List.map_drop, bndOk, bnd, partAV, ptrAdd, killBox, catA, inOrder, fillA, setAt, ofVal, entry, resB, upd, byteV, List.head?_take, List.head?_drop, List.getElem?_map])
  first | refine hK _ ?_ | refine ⟨by omega, hK _ ?_⟩ | refine ⟨by simp [strOf_map, byteV, AV.isByte]; try omega, hK _ ?_⟩ | trace_state
  clear hK hE K
  refine W_nil 6 500 3 1 rfl (by simp) ?_
  refine W_seq_k fun K hK hE => W_seq_k fun K1 hK1 hE1 => W_region (by decide) ?_
  repeat (rw [vcn]; try simp [optK_some, optK_none, optK_ite, optK_map, optK_bind, gOn, stepK, isMem, evPure, evMem, evBin, evUn, evConv, evLen, evBuiltin, evMinMax, evSlice, evBuild, evAppend, evIndex, evIndexAddr, evField, evFieldAddr, intBin, strBin, appDest, AS.val, AS.mem, AS.elems, AS.put, AS.put', AS.eff, AV.cells?, AV.isCell, AV.refs, all_isByte, take_byteV, drop_byteV, strOf_map, -List.map_take, -List.map_drop, bndOk, bnd, partAV, ptrAdd, killBox, catA, inOrder, fillA, setAt, ofVal, entry, resB, upd, byteV, List.head?_take, List.head?_drop, List.getElem?_map])
  refine hK1 _ (W_block_k fun J b1 b2 b3 b4 b5 => ?_)
  clear hK1 hE1 K1
  refine W_loop_k (X := Nat) (fun i => [(0, .slc f 1 l.length (l.map byteV)), (1, intV s), (5, intV 0), (6, .bs 500 1 0 i), (7, intV ((s * i : Nat) : Int))]) (fun i => [(500, .mut 3 ((numsOf s i l).map intV))])
    (fun i => l.length - s * i) (fun i => s * i ≤ l.length) 0 id (Nat.zero_le _) ⟨?_, ?_, ?_, ?_, ?_, ?_⟩ fun i hi R hR hRE => ?_
  · simp [upd, resB, ren, renL, renBox, AV.refs, refsL, Box.refs, lk, take_byteV, drop_byteV, refsL_bytes, -List.map_take, -List.map_drop, intV]
  · simp [upd, resB, ren, renL, renBox, AV.refs, refsL, Box.refs, lk, take_byteV, drop_byteV, refsL_bytes, -List.map_take, -List.map_drop, numsOf]
  · simp
  · simp [upd, resB, ren, renL, renBox, AV.refs, refsL, Box.refs, lk, take_byteV, drop_byteV, refsL_bytes, -List.map_take, -List.map_drop, intV]
  · simp [upd, resB, ren, renL, renBox, AV.refs, refsL, Box.refs, lk, take_byteV, drop_byteV, refsL_bytes, -List.map_take, -List.map_drop]
  · simp
  have hlen : (numsOf s i l).length = i := by simp [numsOf]
  obtain ⟨m, hmm⟩ : ∃ m, m = s * i := ⟨_, rfl⟩
  have him : i ≤ m := by rw [hmm]; exact Nat.le_mul_of_pos_left i h1
  rw [← hmm] at hi ⊢
  refine W_seq_k fun K3 hK3 hE3 => W_seq_k fun K2 hK2 hE2 => W_region (by decide) ?_
  repeat (rw [vcn]; try simp [optK_some, optK_none, optK_ite, optK_map, optK_bind, gOn, stepK, isMem, evPure, evMem, evBin, evUn, evConv, evLen, evBuiltin, evMinMax, evSlice, evBuild, evAppend, evIndex, evIndexAddr, evField, evFieldAddr, intBin, strBin, appDest, AS.val, AS.mem, AS.elems, AS.put, AS.put', AS.eff, AV.cells?, AV.isCell, AV.refs, all_isByte, take_byteV, drop_byteV, strOf_map, -List.map_take, -List.map_drop, bndOk, bnd, partAV, ptrAdd, killBox, catA, inOrder, fillA, setAt, ofVal, entry, resB, upd, byteV, List.head?_take, List.head?_drop, List.getElem?_map, lk, mkS, intV])
  refine hK2 _ (W_cond rfl (fun hc => ?_) (fun hc => ?_))
  · have hlt : m < l.length := by simp at hc; omega
    have hms : m + s ≤ l.length := by
      have e1 : l.length = s * (l.length / s) := by have := Nat.div_add_mod l.length s; omega
      have e2 : i + 1 ≤ l.length / s := by
        rcases Nat.lt_or_ge i (l.length / s) with h | h
        · exact h
        · exfalso
          have := Nat.mul_le_mul_left s h
          omega
      have := Nat.mul_le_mul_left s e2
      rw [Nat.mul_add, Nat.mul_one] at this
      omega
    have hw1 : IntKind.i64.wrap ((m : Int) + (s : Int)) = ((m + s : Nat) : Int) := by rw [i64_in _ (by omega)]; omega
    have n1 : ((m : Int) + (s : Int)).toNat = m + s := by omega
    have n2 : (0 : Int) ≤ (m : Int) + (s : Int) := by omega
    have hch : ((l.drop m).take s).length = s := by rw [List.length_take, List.length_drop]; omega
    refine W_skip (hK3 _ (W_seq_k fun K4 hK4 hE4 => W_block_k fun K5 c1 c2 c3 c4 c5 => ?_))
    refine W_region (by decide) ?_
    repeat (rw [vcn]; try simp [optK_some, optK_none, optK_ite, optK_map, optK_bind, gOn, stepK, isMem, evPure, evMem, evBin, evUn, evConv, evLen, evBuiltin, evMinMax, evSlice, evBuild, evAppend, evIndex, evIndexAddr, evField, evFieldAddr, intBin, strBin, appDest, AS.val, AS.mem, AS.elems, AS.put, AS.put', AS.eff, AV.cells?, AV.isCell, AV.refs, all_isByte, take_byteV, drop_byteV, strOf_map, -List.map_take, -List.map_drop, bndOk, bnd, partAV, ptrAdd, killBox, catA, inOrder, fillA, setAt, ofVal, entry, resB, upd, byteV, List.head?_take, List.head?_drop, List.getElem?_map, lk, hlen, n1, n2, hw1, hms])
    have e58 := eval58 false ((l.drop m).take s) (by omega)
    rw [hch] at e58
    refine CallG_plain e58 (by simp [AV.refs, refsL]) rfl ?_
    dsimp only
    repeat (rw [vcn]; try simp [optK_some, optK_none, optK_ite, optK_map, optK_bind, gOn, stepK, isMem, evPure, evMem, evBin, evUn, evConv, evLen, evBuiltin, evMinMax, evSlice, evBuild, evAppend, evIndex, evIndexAddr, evField, evFieldAddr, intBin, strBin, appDest, AS.val, AS.mem, AS.elems, AS.put, AS.put', AS.eff, AV.cells?, AV.isCell, AV.refs, all_isByte, take_byteV, drop_byteV, strOf_map, -List.map_take, -List.map_drop, bndOk, bnd, partAV, ptrAdd, killBox, catA, inOrder, fillA, setAt, ofVal, entry, resB, upd, byteV, List.head?_take, List.head?_drop, List.getElem?_map, lk, intV, hlen])
    refine ⟨by omega, c1 _ (hK4 _ (W_region (by decide) ?_))⟩
    repeat (rw [vcn]; try simp [optK_some, optK_none, optK_ite, optK_map, optK_bind, gOn, stepK, isMem, evPure, evMem, evBin, evUn, evConv, evLen, evBuiltin, evMinMax, evSlice, evBuild, evAppend, evIndex, evIndexAddr, evField, evFieldAddr, intBin, strBin, appDest, AS.val, AS.mem, AS.elems, AS.put, AS.put', AS.eff, AV.cells?, AV.isCell, AV.refs, all_isByte, take_byteV, drop_byteV, strOf_map, -List.map_take, -List.map_drop, bndOk, bnd, partAV, ptrAdd, killBox, catA, inOrder, fillA, setAt, ofVal, entry, resB, upd, byteV, List.head?_take, List.head?_drop, List.getElem?_map, lk, hw1])
    have hms1 : s * (i + 1) = m + s := by rw [Nat.mul_add, Nat.mul_one, hmm]
    have hstep : numsOf s (i + 1) l = numsOf s i l ++ [numI ((l.drop m).take s)] := by
      unfold numsOf
      rw [List.range_succ, List.map_append, hmm]
      rfl
    refine hR (i + 1) _ (fun j => if j = 500 then 29 else j) (by rw [hms1]; omega) (by rw [hms1]; omega) ⟨?_, ?_, ?_, ?_, ?_, ?_⟩
    · simp only [hms1]
      simp [upd, resB, ren, renL, renBox, AV.refs, refsL, Box.refs, lk, take_byteV, drop_byteV, refsL_bytes, -List.map_take, -List.map_drop, intV]
    · simp [upd, resB, ren, renL, renBox, AV.refs, refsL, Box.refs, lk, take_byteV, drop_byteV, refsL_bytes, -List.map_take, -List.map_drop, hstep, intV, ren]
    · simp
    · simp [upd, resB, ren, renL, renBox, AV.refs, refsL, Box.refs, lk, take_byteV, drop_byteV, refsL_bytes, -List.map_take, -List.map_drop, intV]
    · simp [upd, resB, ren, renL, renBox, AV.refs, refsL, Box.refs, lk, take_byteV, drop_byteV, refsL_bytes, -List.map_take, -List.map_drop]
    · intro j hj
      simp
      omega
  · have hlt : m = l.length := by simp at hc; omega
    have hdiv : l.length / s = i := by rw [← hlt, hmm]; exact Nat.mul_div_cancel_left i h1
    refine W_exit (hE3 _ _ (by simp) (hRE _ _ (by simp) (b2 _ (hK _ ?_))))
    refine W_seq_k fun K hK hE => W_region (by decide) ?_
    repeat (rw [vcn]; try simp [optK_some, optK_none, optK_ite, optK_map, optK_bind, gOn, stepK, isMem, evPure, evMem, evBin, evUn, evConv, evLen, evBuiltin, evMinMax, evSlice, evBuild, evAppend, evIndex, evIndexAddr, evField, evFieldAddr, intBin, strBin, appDest, AS.val, AS.mem, AS.elems, AS.put, AS.put', AS.eff, AV.cells?, AV.isCell, AV.refs, all_isByte, take_byteV, drop_byteV, strOf_map, -List.map_take, -List.map_drop, bndOk, bnd, partAV, ptrAdd, killBox, catA, inOrder, fillA, setAt, ofVal, entry, resB, upd, byteV, List.head?_take, List.head?_drop, List.getElem?_map])
    first | refine hK _ ?_ | refine ⟨by omega, hK _ ?_⟩ | refine ⟨by simp [strOf_map, byteV, AV.isByte]; try omega, hK _ ?_⟩ | trace_state
    clear hK hE K
    refine W_frz 500 (e := 3) (l := (numsOf s i l).map intV) rfl (refsL_intV _) (W_ret ?_)
    simp [post, resAV, resAll, resOne, closeV, closeC, closeL, resD, resDL, optK_some, optK_none, optK_ite, optK_map, optK_bind, gOn, stepK, isMem, evPure, evMem, evBin, evUn, evConv, evLen, evBuiltin, evMinMax, evSlice, evBuild, evAppend, evIndex, evIndexAddr, evField, evFieldAddr, intBin, strBin, appDest, AS.val, AS.mem, AS.elems, AS.put, AS.put', AS.eff, AV.cells?, AV.isCell, AV.refs, all_isByte, take_byteV, drop_byteV, strOf_map, -List.map_take, -List.map_drop, bndOk, bnd, partAV, ptrAdd, killBox, catA, inOrder, fillA, setAt, ofVal, entry, resB, upd, byteV, List.head?_take, List.head?_drop, List.getElem?_map, numsAV, numsL, errL, h2, intV, refsL, hdiv, hlen, take_intV]
    try rw [List.take_of_length_le (by omega)]
end Go.Fw

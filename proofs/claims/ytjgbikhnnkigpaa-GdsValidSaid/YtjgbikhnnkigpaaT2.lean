import Derived.Test.YtjgbikhnnkigpaaT1
set_option linter.unusedSimpArgs false
set_option linter.unusedVariables false
namespace Go.Fw
open Go Go.Proofs Go.IntWalk
set_option linter.unusedSimpArgs false
set_option maxRecDepth 100000
theorem eval57 (f : Bool) (l : List UInt8) (n : Nat) (hn : l.length = n) (hs : n ≤ 1000000000) : Eval Try.prog 57 [.slc f 1 n (l.map byteV)] (.ret (.own 5 1 n (l.map byteV))) := by
  refine Eval.intro Try.func57 rfl Try.call57 _ _ (Nat.le_of_ble_eq_true rfl) (by simp [AV.refs]) fun hs0 => ?_
  refine W_seq_k fun K hK hE => W_region (by decide) ?_
  repeat (rw [vcn]; try simp [optK_some, optK_none, optK_ite, optK_map, optK_bind, gOn, stepK, isMem, evPure, evMem, evBin, evUn, evConv, evLen, evBuiltin, evMinMax, evSlice, evBuild, evAppend, evIndex, evIndexAddr, evField, evFieldAddr, intBin, strBin, appDest, AS.val, AS.mem, AS.elems, AS.put, AS.put', AS.eff, AV.cells?, AV.isCell, AV.refs, all_isByte, take_byteV, drop_byteV, strOf_map, -List.map_take, -List.map_drop, bndOk, bnd, partAV, ptrAdd, killBox, catA, inOrder, fillA, setAt, ofVal, entry, resB, upd, byteV, List.head?_take, List.head?_drop, List.getElem?_map])
  first | refine hK _ ?_ | refine ⟨by omega, hK _ ?_⟩ | refine ⟨by simp [strOf_map, byteV, AV.isByte]; try omega, hK _ ?_⟩ | trace_state
  clear hK hE K
  refine W_seq_k fun K hK hE => ?_
  rcases Nat.eq_zero_or_pos n with h0 | h0
  · have hl : l = [] := List.eq_nil_of_length_eq_zero (hn.trans h0)
    subst hl h0
    refine W_seq_k fun K hK hE => W_region (by decide) ?_
    repeat (rw [vcn]; try simp [optK_some, optK_none, optK_ite, optK_map, optK_bind, gOn, stepK, isMem, evPure, evMem, evBin, evUn, evConv, evLen, evBuiltin, evMinMax, evSlice, evBuild, evAppend, evIndex, evIndexAddr, evField, evFieldAddr, intBin, strBin, appDest, AS.val, AS.mem, AS.elems, AS.put, AS.put', AS.eff, AV.cells?, AV.isCell, AV.refs, all_isByte, take_byteV, drop_byteV, strOf_map, -List.map_take, -List.map_drop, bndOk, bnd, partAV, ptrAdd, killBox, catA, inOrder, fillA, setAt, ofVal, entry, resB, upd, byteV, List.head?_take, List.head?_drop, List.getElem?_map])
    first | refine hK _ ?_ | refine ⟨by omega, hK _ ?_⟩ | refine ⟨by simp [strOf_map, byteV, AV.isByte]; try omega, hK _ ?_⟩ | trace_state
    clear hK hE K
    refine W_cond_unk rfl ?_ (W_skip (hK _ ?_))
    · refine W_seq_k fun K1 hK1 _ => W_region (by decide) ?_
      repeat (rw [vcn]; try simp [optK_some, optK_none, optK_ite, optK_map, optK_bind, gOn, stepK, isMem, evPure, evMem, evBin, evUn, evConv, evLen, evBuiltin, evMinMax, evSlice, evBuild, evAppend, evIndex, evIndexAddr, evField, evFieldAddr, intBin, strBin, appDest, AS.val, AS.mem, AS.elems, AS.put, AS.put', AS.eff, AV.cells?, AV.isCell, AV.refs, all_isByte, take_byteV, drop_byteV, strOf_map, -List.map_take, -List.map_drop, bndOk, bnd, partAV, ptrAdd, killBox, catA, inOrder, fillA, setAt, ofVal, entry, resB, upd, byteV, List.head?_take, List.head?_drop, List.getElem?_map])
      refine hK1 _ ?_
      refine W_nil 2 7 5 1 rfl (by simp) ?_
      refine W_ret (hE _ _ (by simp) ?_)
      simp [post, resAV, resAll, resOne, closeV, closeC, closeL, resD, resDL, optK_some, optK_none, optK_ite, optK_map, optK_bind, gOn, stepK, isMem, evPure, evMem, evBin, evUn, evConv, evLen, evBuiltin, evMinMax, evSlice, evBuild, evAppend, evIndex, evIndexAddr, evField, evFieldAddr, intBin, strBin, appDest, AS.val, AS.mem, AS.elems, AS.put, AS.put', AS.eff, AV.cells?, AV.isCell, AV.refs, all_isByte, take_byteV, drop_byteV, strOf_map, -List.map_take, -List.map_drop, bndOk, bnd, partAV, ptrAdd, killBox, catA, inOrder, fillA, setAt, ofVal, entry, resB, upd, byteV, List.head?_take, List.head?_drop, List.getElem?_map]
    · clear hK hE K
      refine W_seq_k fun K hK hE => W_region (by decide) ?_
      repeat (rw [vcn]; try simp [optK_some, optK_none, optK_ite, optK_map, optK_bind, gOn, stepK, isMem, evPure, evMem, evBin, evUn, evConv, evLen, evBuiltin, evMinMax, evSlice, evBuild, evAppend, evIndex, evIndexAddr, evField, evFieldAddr, intBin, strBin, appDest, AS.val, AS.mem, AS.elems, AS.put, AS.put', AS.eff, AV.cells?, AV.isCell, AV.refs, all_isByte, take_byteV, drop_byteV, strOf_map, -List.map_take, -List.map_drop, bndOk, bnd, partAV, ptrAdd, killBox, catA, inOrder, fillA, setAt, ofVal, entry, resB, upd, byteV, List.head?_take, List.head?_drop, List.getElem?_map])
      first | refine hK _ ?_ | refine ⟨by omega, hK _ ?_⟩ | refine ⟨by simp [strOf_map, byteV, AV.isByte]; try omega, hK _ ?_⟩ | trace_state
      clear hK hE K
      refine W_ret ?_
      simp [post, resAV, resAll, resOne, closeV, closeC, closeL, resD, resDL, optK_some, optK_none, optK_ite, optK_map, optK_bind, gOn, stepK, isMem, evPure, evMem, evBin, evUn, evConv, evLen, evBuiltin, evMinMax, evSlice, evBuild, evAppend, evIndex, evIndexAddr, evField, evFieldAddr, intBin, strBin, appDest, AS.val, AS.mem, AS.elems, AS.put, AS.put', AS.eff, AV.cells?, AV.isCell, AV.refs, all_isByte, take_byteV, drop_byteV, strOf_map, -List.map_take, -List.map_drop, bndOk, bnd, partAV, ptrAdd, killBox, catA, inOrder, fillA, setAt, ofVal, entry, resB, upd, byteV, List.head?_take, List.head?_drop, List.getElem?_map]
  · refine W_seq_k fun K hK hE => W_region (by decide) ?_
    repeat (rw [vcn]; try simp [optK_some, optK_none, optK_ite, optK_map, optK_bind, gOn, stepK, isMem, evPure, evMem, evBin, evUn, evConv, evLen, evBuiltin, evMinMax, evSlice, evBuild, evAppend, evIndex, evIndexAddr, evField, evFieldAddr, intBin, strBin, appDest, AS.val, AS.mem, AS.elems, AS.put, AS.put', AS.eff, AV.cells?, AV.isCell, AV.refs, all_isByte, take_byteV, drop_byteV, strOf_map, -List.map_take, -List.map_drop, bndOk, bnd, partAV, ptrAdd, killBox, catA, inOrder, fillA, setAt, ofVal, entry, resB, upd, byteV, List.head?_take, List.head?_drop, List.getElem?_map, h0])
    first | refine hK _ ?_ | refine ⟨by omega, hK _ ?_⟩ | refine ⟨by simp [strOf_map, byteV, AV.isByte]; try omega, hK _ ?_⟩ | trace_state
    clear hK hE K
    refine W_cond rfl (fun hc => ?_) (fun hc => ?_)
    · simp at hc
    · first | refine hK _ ?_ | refine ⟨by omega, hK _ ?_⟩ | refine W_skip (hK _ ?_) | trace_state
      clear hK hE K
      refine W_seq_k fun K hK hE => W_region (by decide) ?_
      repeat (rw [vcn]; try simp [optK_some, optK_none, optK_ite, optK_map, optK_bind, gOn, stepK, isMem, evPure, evMem, evBin, evUn, evConv, evLen, evBuiltin, evMinMax, evSlice, evBuild, evAppend, evIndex, evIndexAddr, evField, evFieldAddr, intBin, strBin, appDest, AS.val, AS.mem, AS.elems, AS.put, AS.put', AS.eff, AV.cells?, AV.isCell, AV.refs, all_isByte, take_byteV, drop_byteV, strOf_map, -List.map_take, -List.map_drop, bndOk, bnd, partAV, ptrAdd, killBox, catA, inOrder, fillA, setAt, ofVal, entry, resB, upd, byteV, List.head?_take, List.head?_drop, List.getElem?_map, hs, hn])
      first | refine hK _ ?_ | refine ⟨by omega, hK _ ?_⟩ | refine ⟨by simp [strOf_map, byteV, AV.isByte]; try omega, hK _ ?_⟩ | trace_state
      clear hK hE K
      refine W_ret ?_
      simp [post, resAV, resAll, resOne, closeV, closeC, closeL, resD, resDL, optK_some, optK_none, optK_ite, optK_map, optK_bind, gOn, stepK, isMem, evPure, evMem, evBin, evUn, evConv, evLen, evBuiltin, evMinMax, evSlice, evBuild, evAppend, evIndex, evIndexAddr, evField, evFieldAddr, intBin, strBin, appDest, AS.val, AS.mem, AS.elems, AS.put, AS.put', AS.eff, AV.cells?, AV.isCell, AV.refs, all_isByte, take_byteV, drop_byteV, strOf_map, -List.map_take, -List.map_drop, bndOk, bnd, partAV, ptrAdd, killBox, catA, inOrder, fillA, setAt, ofVal, entry, resB, upd, byteV, List.head?_take, List.head?_drop, List.getElem?_map]
      exact hn.symm
def nextRec (r : List UInt8) : Except Int (UInt8 × UInt8 × List UInt8 × Nat) :=
  if r.length < 2 then .error 7 else
  let n := (r.getD 0 0).toNat * 256 + (r.getD 1 0).toNat
  if n < 4 ∨ n % 2 = 1 then .error 3 else
  if r.length < n then .error 7 else .ok (r.getD 2 0, r.getD 3 0, (r.take n).drop 4, n)
def recAV (k d : UInt8) (b : List UInt8) : AV := .agg [byteV k, byteV d, .slc false 1 b.length (b.map byteV)]
def noRec : AV := .agg [byteV 0, byteV 0, .v (.slice none 0 0)]
theorem u8_i64 (x : UInt8) : IntKind.i64.wrap (x.toNat : Int) = x.toNat := by
  have hx : x.toNat < 256 := x.toNat_lt
  rw [i64_in _ (by omega)]
theorem or_bytes (x y : UInt8) : bOr .i64 (shlI .i64 (x.toNat : Int) 8) (y.toNat : Int) = ((x.toNat * 256 + y.toNat : Nat) : Int) := by
  have hx : x.toNat < 256 := x.toNat_lt
  have hy : y.toNat < 256 := y.toNat_lt
  have h1 : shlI .i64 (x.toNat : Int) 8 = ((x.toNat * 256 : Nat) : Int) := by
    unfold shlI
    rw [show (2 : Int) ^ (min (8 : Int).toNat IntKind.i64.bits) = 256 from rfl, i64_in _ (by omega)]; omega
  have h2 : (BitVec.ofInt IntKind.i64.bits ((x.toNat * 256 : Nat) : Int) ||| BitVec.ofInt IntKind.i64.bits (y.toNat : Int)).toNat = x.toNat * 256 + y.toNat := by
    rw [BitVec.toNat_or, BitVec.ofInt_natCast, BitVec.ofInt_natCast, BitVec.toNat_ofNat, BitVec.toNat_ofNat]
    rw [Nat.mod_eq_of_lt (by simp only [IntKind.bits]; omega), Nat.mod_eq_of_lt (by simp only [IntKind.bits]; omega)]
    have := Nat.two_pow_add_eq_or_of_lt (i := 8) hy x.toNat
    rw [Nat.mul_comm x.toNat 256]
    exact this.symm
  unfold bOr
  rw [h1, h2, i64_in _ (by omega)]
theorem wb56 (f : Bool) (bs : List UInt8) (at_ : Nat) (hs : bs.length ≤ 100000000) (ha : at_ ≤ bs.length) :
    WB Try.prog 56 [.ip [.slc f 1 bs.length (bs.map byteV)], .bp 1000000 0] [(1000000, .mut 3 [i64V at_])] (fun out s' =>
      match nextRec (bs.drop at_) with
      | .error e => out = .ret (.tup [noRec, i64V e]) ∧ s'.box 1000000 = some (.mut 3 [i64V at_])
      | .ok (k, d, b, n) => out = .ret (.tup [recAV k d b, i64V 0]) ∧ s'.box 1000000 = some (.mut 3 [i64V ((at_ + n : Nat) : Int)])) := by
  refine ⟨Try.f56, _, Try.func56, rfl, Try.call56, Nat.le_of_ble_eq_true rfl, ?_⟩
  obtain ⟨r, hr⟩ : ∃ r, r = bs.drop at_ := ⟨_, rfl⟩
  have hrl : r.length = bs.length - at_ := by rw [hr, List.length_drop]
  rw [← hr]
  refine W_seq_k fun K hK hE => W_region (by decide) ?_
  repeat (rw [vcn]; try simp [optK_some, optK_none, optK_ite, optK_map, optK_bind, gOn, stepK, isMem, evPure, evMem, evBin, evUn, evConv, evLen, evBuiltin, evMinMax, evSlice, evBuild, evAppend, evIndex, evIndexAddr, evField, evFieldAddr, intBin, strBin, appDest, AS.val, AS.mem, AS.elems, AS.put, AS.put', AS.eff, AV.cells?, AV.isCell, AV.refs, all_isByte, take_byteV, drop_byteV, strOf_map, -List.map_take, -List.map_drop, bndOk, bnd, partAV, ptrAdd, killBox, catA, inOrder, fillA, setAt, ofVal, entry, resB, upd, byteV, List.head?_take, List.head?_drop, List.getElem?_map, entryB, lk, i64V, ha])
  first | refine hK _ ?_ | refine ⟨by omega, hK _ ?_⟩ | refine ⟨by simp [strOf_map, byteV, AV.isByte]; try omega, hK _ ?_⟩ | trace_state
  clear hK hE K
  refine W_seq_k fun K hK hE => W_region (by decide) ?_
  repeat (rw [vcn]; try simp [optK_some, optK_none, optK_ite, optK_map, optK_bind, gOn, stepK, isMem, evPure, evMem, evBin, evUn, evConv, evLen, evBuiltin, evMinMax, evSlice, evBuild, evAppend, evIndex, evIndexAddr, evField, evFieldAddr, intBin, strBin, appDest, AS.val, AS.mem, AS.elems, AS.put, AS.put', AS.eff, AV.cells?, AV.isCell, AV.refs, all_isByte, take_byteV, drop_byteV, strOf_map, -List.map_take, -List.map_drop, bndOk, bnd, partAV, ptrAdd, killBox, catA, inOrder, fillA, setAt, ofVal, entry, resB, upd, byteV, List.head?_take, List.head?_drop, List.getElem?_map, entryB, lk, i64V, ha])
  first | refine hK _ ?_ | refine ⟨by omega, hK _ ?_⟩ | refine ⟨by simp [strOf_map, byteV, AV.isByte]; try omega, hK _ ?_⟩ | trace_state
  clear hK hE K
  refine W_wk [(1, .bp 1000000 0), (2, .bp 2 0), (3, i64V 0), (4, .slc false 1 r.length (r.map byteV))] [(1000000, .mut 3 [i64V at_]), (2, .mut 24 [byteV 0, byteV 0, .v (.slice none 0 0)])] id ⟨?_, ?_, ?_, ?_, ?_, ?_⟩ ?_
  · simp [upd, resB, lk, ren, i64V, hrl]
    rw [hr, ← hrl, List.map_drop, hr, List.length_drop, List.take_of_length_le (by simp)]
  · simp [upd, lk, renBox, renL, ren, i64V, byteV]
  · simp
  · simp [AV.refs, i64V, byteV]
  · simp [AV.refs, Box.refs, i64V, byteV]
  · simp
  refine W_seq_k fun K hK hE => ?_
  refine W_seq_k fun K hK hE => W_region (by decide) ?_
  repeat (rw [vcn]; try simp [optK_some, optK_none, optK_ite, optK_map, optK_bind, gOn, stepK, isMem, evPure, evMem, evBin, evUn, evConv, evLen, evBuiltin, evMinMax, evSlice, evBuild, evAppend, evIndex, evIndexAddr, evField, evFieldAddr, intBin, strBin, appDest, AS.val, AS.mem, AS.elems, AS.put, AS.put', AS.eff, AV.cells?, AV.isCell, AV.refs, all_isByte, take_byteV, drop_byteV, strOf_map, -List.map_take, -List.map_drop, bndOk, bnd, partAV, ptrAdd, killBox, catA, inOrder, fillA, setAt, ofVal, entry, resB, upd, byteV, List.head?_take, List.head?_drop, List.getElem?_map, mkS, lk])
  first | refine hK _ ?_ | refine ⟨by omega, hK _ ?_⟩ | refine ⟨by simp [strOf_map, byteV, AV.isByte]; try omega, hK _ ?_⟩ | trace_state
  clear hK hE K
  refine W_cond rfl (fun hc => ?_) (fun hc => ?_)
  · have h2 : r.length < 2 := by simp at hc; omega
    refine W_seq_k fun K1 hK1 _ => W_region (by decide) ?_
    repeat (rw [vcn]; try simp [optK_some, optK_none, optK_ite, optK_map, optK_bind, gOn, stepK, isMem, evPure, evMem, evBin, evUn, evConv, evLen, evBuiltin, evMinMax, evSlice, evBuild, evAppend, evIndex, evIndexAddr, evField, evFieldAddr, intBin, strBin, appDest, AS.val, AS.mem, AS.elems, AS.put, AS.put', AS.eff, AV.cells?, AV.isCell, AV.refs, all_isByte, take_byteV, drop_byteV, strOf_map, -List.map_take, -List.map_drop, bndOk, bnd, partAV, ptrAdd, killBox, catA, inOrder, fillA, setAt, ofVal, entry, resB, upd, byteV, List.head?_take, List.head?_drop, List.getElem?_map, lk])
    refine hK1 _ (W_ret (hE _ _ (by simp) ?_))
    simp [postB, resAV, resAll, resOne, resD, resDL, optK_some, optK_none, optK_ite, optK_map, optK_bind, gOn, stepK, isMem, evPure, evMem, evBin, evUn, evConv, evLen, evBuiltin, evMinMax, evSlice, evBuild, evAppend, evIndex, evIndexAddr, evField, evFieldAddr, intBin, strBin, appDest, AS.val, AS.mem, AS.elems, AS.put, AS.put', AS.eff, AV.cells?, AV.isCell, AV.refs, all_isByte, take_byteV, drop_byteV, strOf_map, -List.map_take, -List.map_drop, bndOk, bnd, partAV, ptrAdd, killBox, catA, inOrder, fillA, setAt, ofVal, entry, resB, upd, byteV, List.head?_take, List.head?_drop, List.getElem?_map, lk, nextRec, h2, noRec, i64V]
  have h2 : ¬ r.length < 2 := by simp at hc; omega
  first | refine hK _ ?_ | refine ⟨by omega, hK _ ?_⟩ | refine W_skip (hK _ ?_) | trace_state
  clear hK hE K
  obtain ⟨x, y, t, rfl⟩ : ∃ x y t, r = x :: y :: t := by
    match r, h2 with
    | x :: y :: t, _ => exact ⟨x, y, t, rfl⟩
    | [], h => simp at h
    | [x], h => simp at h
  refine W_seq_k fun K hK hE => W_drawn mixed (by decide) (by kernel_rfl) ?_
  repeat (rw [vcnD]; try simp [optK_some, optK_none, optK_ite, optK_map, optK_bind, gOn, stepK, isMem, evPure, evMem, evBin, evUn, evConv, evLen, evBuiltin, evMinMax, evSlice, evBuild, evAppend, evIndex, evIndexAddr, evField, evFieldAddr, intBin, strBin, appDest, AS.val, AS.mem, AS.elems, AS.put, AS.put', AS.eff, AV.cells?, AV.isCell, AV.refs, all_isByte, take_byteV, drop_byteV, strOf_map, -List.map_take, -List.map_drop, bndOk, bnd, partAV, ptrAdd, killBox, catA, inOrder, fillA, setAt, ofVal, resB, upd, byteV, List.head?_take, List.head?_drop, List.getElem?_map, mkS_env, mkS_box, mkS_used, entry_env, entry_box, entry_used, lk, stepD, lookIds, Oper.looksAt, Op.operands, Call.operands, St.ids, refsL, lk, u8_i64, or_bytes])
  repeat' apply And.intro
  all_goals try first | omega | kernel_rfl
  refine hK _ ?_
  clear hK hE K
  obtain ⟨n, hn⟩ : ∃ n, n = x.toNat * 256 + y.toNat := ⟨_, rfl⟩
  have hx : x.toNat < 256 := x.toNat_lt
  have hy : y.toNat < 256 := y.toNat_lt
  refine W_wk [(1, .bp 1000000 0), (2, .bp 2 0), (3, i64V 0), (4, .slc false 1 (t.length + 2) ((x :: y :: t).map byteV)), (5, i64V n)] [(1000000, .mut 3 [i64V at_]), (2, .mut 24 [byteV 0, byteV 0, .v (.slice none 0 0)])] id ⟨?_, ?_, ?_, ?_, ?_, ?_⟩ ?_
  · simp [upd, resB, lk, ren, i64V, byteV, hn]
  · simp [upd, lk, renBox, renL, ren, i64V, byteV]
  · simp
  · simp [AV.refs, i64V, byteV]
  · simp [AV.refs, Box.refs, i64V, byteV]
  · simp
  have hmod : ((n : Int).tmod 2) = ((n % 2 : Nat) : Int) := by rw [Int.ofNat_tmod]; rfl
  have h2' : ¬ (x :: y :: t).length < 2 := by simp
  have g0 : (x :: y :: t).getD 0 0 = x := rfl
  have g1 : (x :: y :: t).getD 1 0 = y := rfl
  refine W_seq_k fun K hK hE => W_block_k fun K1 b1 b2 b3 b4 b5 => W_seq_k fun K2 hK2 hE2 => W_region (by decide) ?_
  by_cases hbad : n < 4 ∨ n % 2 = 1
  · have fin : ∀ s', s'.env 23 = .v (.bool true) → s'.box = (mkS [(1, AV.bp 1000000 0)] [(1000000, .mut 3 [i64V at_]), (2, .mut 24 [byteV 0, byteV 0, .v (.slice none 0 0)])]).box → s'.env 2 = .bp 2 0 → K2 .normal s' := by
      intro s' h1 h2 h3
      refine hK2 _ (W_cond (b := true) (by simp [AS.val, h1, resB]) (fun _ => ?_) (fun hc => by cases hc))
      refine W_seq_k fun K3 hK3 hE3 => W_region (by decide) ?_
      repeat (rw [vcn]; try simp [optK_some, optK_none, optK_ite, optK_map, optK_bind, gOn, stepK, isMem, evPure, evMem, evBin, evUn, evConv, evLen, evBuiltin, evMinMax, evSlice, evBuild, evAppend, evIndex, evIndexAddr, evField, evFieldAddr, intBin, strBin, appDest, AS.val, AS.mem, AS.elems, AS.put, AS.put', AS.eff, AV.cells?, AV.isCell, AV.refs, all_isByte, take_byteV, drop_byteV, strOf_map, -List.map_take, -List.map_drop, bndOk, bnd, partAV, ptrAdd, killBox, catA, inOrder, fillA, setAt, ofVal, entry, resB, upd, byteV, List.head?_take, List.head?_drop, List.getElem?_map, lk, h2, h3, mkS])
      refine hK3 _ (W_ret (b4 _ (hE _ _ (by simp) ?_)))
      have hnx : nextRec (x :: y :: t) = .error 3 := by
        have hbad' := hbad
        rw [hn] at hbad'
        simp only [nextRec, g0, g1]
        rw [if_neg h2', if_pos hbad']
      simp [postB, resAV, resAll, resOne, resD, resDL, optK_some, optK_none, optK_ite, optK_map, optK_bind, gOn, stepK, isMem, evPure, evMem, evBin, evUn, evConv, evLen, evBuiltin, evMinMax, evSlice, evBuild, evAppend, evIndex, evIndexAddr, evField, evFieldAddr, intBin, strBin, appDest, AS.val, AS.mem, AS.elems, AS.put, AS.put', AS.eff, AV.cells?, AV.isCell, AV.refs, all_isByte, take_byteV, drop_byteV, strOf_map, -List.map_take, -List.map_drop, bndOk, bnd, partAV, ptrAdd, killBox, catA, inOrder, fillA, setAt, ofVal, entry, resB, upd, byteV, List.head?_take, List.head?_drop, List.getElem?_map, lk, hnx, noRec, i64V, h3]
    by_cases h4 : n < 4
    · have h4' : (n : Int) < 4 := by omega
      repeat (rw [vcn]; try simp [optK_some, optK_none, optK_ite, optK_map, optK_bind, gOn, stepK, isMem, evPure, evMem, evBin, evUn, evConv, evLen, evBuiltin, evMinMax, evSlice, evBuild, evAppend, evIndex, evIndexAddr, evField, evFieldAddr, intBin, strBin, appDest, AS.val, AS.mem, AS.elems, AS.put, AS.put', AS.eff, AV.cells?, AV.isCell, AV.refs, all_isByte, take_byteV, drop_byteV, strOf_map, -List.map_take, -List.map_drop, bndOk, bnd, partAV, ptrAdd, killBox, catA, inOrder, fillA, setAt, ofVal, entry, resB, upd, byteV, List.head?_take, List.head?_drop, List.getElem?_map, lk, mkS, i64V, h4'])
      exact fin _ rfl rfl rfl
    · have h4' : ¬ (n : Int) < 4 := by omega
      have h5 : n % 2 = 1 := by omega
      repeat (rw [vcn]; try simp [optK_some, optK_none, optK_ite, optK_map, optK_bind, gOn, stepK, isMem, evPure, evMem, evBin, evUn, evConv, evLen, evBuiltin, evMinMax, evSlice, evBuild, evAppend, evIndex, evIndexAddr, evField, evFieldAddr, intBin, strBin, appDest, AS.val, AS.mem, AS.elems, AS.put, AS.put', AS.eff, AV.cells?, AV.isCell, AV.refs, all_isByte, take_byteV, drop_byteV, strOf_map, -List.map_take, -List.map_drop, bndOk, bnd, partAV, ptrAdd, killBox, catA, inOrder, fillA, setAt, ofVal, entry, resB, upd, byteV, List.head?_take, List.head?_drop, List.getElem?_map, lk, mkS, i64V, h4', hmod, h5])
      exact fin _ rfl rfl rfl
  · have h4' : ¬ (n : Int) < 4 := by omega
    have h5 : n % 2 = 0 := by omega
    repeat (rw [vcn]; try simp [optK_some, optK_none, optK_ite, optK_map, optK_bind, gOn, stepK, isMem, evPure, evMem, evBin, evUn, evConv, evLen, evBuiltin, evMinMax, evSlice, evBuild, evAppend, evIndex, evIndexAddr, evField, evFieldAddr, intBin, strBin, appDest, AS.val, AS.mem, AS.elems, AS.put, AS.put', AS.eff, AV.cells?, AV.isCell, AV.refs, all_isByte, take_byteV, drop_byteV, strOf_map, -List.map_take, -List.map_drop, bndOk, bnd, partAV, ptrAdd, killBox, catA, inOrder, fillA, setAt, ofVal, entry, resB, upd, byteV, List.head?_take, List.head?_drop, List.getElem?_map, lk, mkS, i64V, h4', hmod, h5])
    refine hK2 _ (W_cond (b := false) rfl (fun hc => by cases hc) (fun _ => ?_))
    clear hK2 hE2 K2
    refine W_seq_k fun K2 hK2 hE2 => W_region (by decide) ?_
    repeat (rw [vcn]; try simp [optK_some, optK_none, optK_ite, optK_map, optK_bind, gOn, stepK, isMem, evPure, evMem, evBin, evUn, evConv, evLen, evBuiltin, evMinMax, evSlice, evBuild, evAppend, evIndex, evIndexAddr, evField, evFieldAddr, intBin, strBin, appDest, AS.val, AS.mem, AS.elems, AS.put, AS.put', AS.eff, AV.cells?, AV.isCell, AV.refs, all_isByte, take_byteV, drop_byteV, strOf_map, -List.map_take, -List.map_drop, bndOk, bnd, partAV, ptrAdd, killBox, catA, inOrder, fillA, setAt, ofVal, entry, resB, upd, byteV, List.head?_take, List.head?_drop, List.getElem?_map, lk, i64V])
    refine hK2 _ (W_cond rfl (fun hc => ?_) (fun hc => ?_))
    · have hlen : t.length + 2 < n := by simp at hc; omega
      refine W_seq_k fun K3 hK3 hE3 => W_region (by decide) ?_
      repeat (rw [vcn]; try simp [optK_some, optK_none, optK_ite, optK_map, optK_bind, gOn, stepK, isMem, evPure, evMem, evBin, evUn, evConv, evLen, evBuiltin, evMinMax, evSlice, evBuild, evAppend, evIndex, evIndexAddr, evField, evFieldAddr, intBin, strBin, appDest, AS.val, AS.mem, AS.elems, AS.put, AS.put', AS.eff, AV.cells?, AV.isCell, AV.refs, all_isByte, take_byteV, drop_byteV, strOf_map, -List.map_take, -List.map_drop, bndOk, bnd, partAV, ptrAdd, killBox, catA, inOrder, fillA, setAt, ofVal, entry, resB, upd, byteV, List.head?_take, List.head?_drop, List.getElem?_map, lk])
      refine hK3 _ (W_ret (b4 _ (hE _ _ (by simp) ?_)))
      have hnx : nextRec (x :: y :: t) = .error 7 := by
        have hbad' := hbad
        rw [hn] at hbad' hlen
        simp only [nextRec, g0, g1]
        rw [if_neg h2', if_neg hbad', if_pos (by simp; omega)]
      simp [postB, resAV, resAll, resOne, resD, resDL, optK_some, optK_none, optK_ite, optK_map, optK_bind, gOn, stepK, isMem, evPure, evMem, evBin, evUn, evConv, evLen, evBuiltin, evMinMax, evSlice, evBuild, evAppend, evIndex, evIndexAddr, evField, evFieldAddr, intBin, strBin, appDest, AS.val, AS.mem, AS.elems, AS.put, AS.put', AS.eff, AV.cells?, AV.isCell, AV.refs, all_isByte, take_byteV, drop_byteV, strOf_map, -List.map_take, -List.map_drop, bndOk, bnd, partAV, ptrAdd, killBox, catA, inOrder, fillA, setAt, ofVal, entry, resB, upd, byteV, List.head?_take, List.head?_drop, List.getElem?_map, lk, hnx, noRec, i64V]
    have hlen : ¬ t.length + 2 < n := by simp at hc; omega
    refine W_skip (b1 _ (hK _ ?_))
    clear hK2 hE2 K2 b1 b2 b3 b4 b5 K1 hK hE K
    obtain ⟨k, d, t, rfl⟩ : ∃ k d t', t = k :: d :: t' := by
      match t, hlen with
      | k :: d :: t', _ => exact ⟨k, d, t', rfl⟩
      | [], h => simp at h; omega
      | [_], h => simp at h; omega
    have hnx : nextRec (x :: y :: k :: d :: t) = .ok (k, d, t.take (n - 4), n) := by
      have hbad' := hbad
      have hlen' := hlen
      obtain ⟨m, hm⟩ : ∃ m, n = m + 4 := ⟨n - 4, by omega⟩
      simp only [nextRec, g0, g1, ← hn]
      rw [if_neg h2', if_neg hbad', if_neg (by simp at hlen' ⊢; omega), hm]
      simp
    simp only [List.length_cons] at hlen hrl
    have hw : IntKind.i64.wrap ((at_ : Int) + (n : Int)) = ((at_ + n : Nat) : Int) := by rw [i64_in _ (by omega)]; omega
    refine W_seq_k fun K hK hE => W_region (by decide) ?_
    repeat (rw [vcn]; try simp [optK_some, optK_none, optK_ite, optK_map, optK_bind, gOn, stepK, isMem, evPure, evMem, evBin, evUn, evConv, evLen, evBuiltin, evMinMax, evSlice, evBuild, evAppend, evIndex, evIndexAddr, evField, evFieldAddr, intBin, strBin, appDest, AS.val, AS.mem, AS.elems, AS.put, AS.put', AS.eff, AV.cells?, AV.isCell, AV.refs, all_isByte, take_byteV, drop_byteV, strOf_map, -List.map_take, -List.map_drop, bndOk, bnd, partAV, ptrAdd, killBox, catA, inOrder, fillA, setAt, ofVal, entry, resB, upd, byteV, List.head?_take, List.head?_drop, List.getElem?_map, lk, hw])
    first | refine hK _ ?_ | refine ⟨by omega, hK _ ?_⟩ | refine ⟨by simp [strOf_map, byteV, AV.isByte]; try omega, hK _ ?_⟩ | trace_state
    clear hK hE K
    refine W_seq_k fun K hK hE => W_drawn mixed (by decide) (by kernel_rfl) ?_
    repeat (rw [vcnD]; try simp [optK_some, optK_none, optK_ite, optK_map, optK_bind, gOn, stepK, isMem, evPure, evMem, evBin, evUn, evConv, evLen, evBuiltin, evMinMax, evSlice, evBuild, evAppend, evIndex, evIndexAddr, evField, evFieldAddr, intBin, strBin, appDest, AS.val, AS.mem, AS.elems, AS.put, AS.put', AS.eff, AV.cells?, AV.isCell, AV.refs, all_isByte, take_byteV, drop_byteV, strOf_map, -List.map_take, -List.map_drop, bndOk, bnd, partAV, ptrAdd, killBox, catA, inOrder, fillA, setAt, ofVal, resB, upd, byteV, List.head?_take, List.head?_drop, List.getElem?_map, mkS_env, mkS_box, mkS_used, entry_env, entry_box, entry_used, lk, stepD, lookIds, Oper.looksAt, Op.operands, Call.operands, St.ids, refsL, lk])
    have hbl : (t.take (n - 4)).length = n - 4 := by rw [List.length_take]; omega
    refine ⟨by omega, by omega, by omega, ?_⟩
    refine callD_own 50 (by simp [AV.refs]) (eval57 false _ _ hbl (by omega)) (by simp) ?_
    repeat (rw [vcnD]; try simp [optK_some, optK_none, optK_ite, optK_map, optK_bind, gOn, stepK, isMem, evPure, evMem, evBin, evUn, evConv, evLen, evBuiltin, evMinMax, evSlice, evBuild, evAppend, evIndex, evIndexAddr, evField, evFieldAddr, intBin, strBin, appDest, AS.val, AS.mem, AS.elems, AS.put, AS.put', AS.eff, AV.cells?, AV.isCell, AV.refs, all_isByte, take_byteV, drop_byteV, strOf_map, -List.map_take, -List.map_drop, bndOk, bnd, partAV, ptrAdd, killBox, catA, inOrder, fillA, setAt, ofVal, resB, upd, byteV, List.head?_take, List.head?_drop, List.getElem?_map, mkS_env, mkS_box, mkS_used, entry_env, entry_box, entry_used, lk, stepD, lookIds, Oper.looksAt, Op.operands, Call.operands, St.ids, refsL, lk])
    repeat' apply And.intro
    all_goals try first | omega | kernel_rfl
    have hmin : min (n - 4) t.length = n - 4 := by omega
    refine hK _ (W_frz 50 (e := 5) (l := (t.take (n - 4)).map byteV) rfl (refsL_bytes _) (W_ret ?_))
    simp [postB, resAV, resAll, resOne, resD, resDL, optK_some, optK_none, optK_ite, optK_map, optK_bind, gOn, stepK, isMem, evPure, evMem, evBin, evUn, evConv, evLen, evBuiltin, evMinMax, evSlice, evBuild, evAppend, evIndex, evIndexAddr, evField, evFieldAddr, intBin, strBin, appDest, AS.val, AS.mem, AS.elems, AS.put, AS.put', AS.eff, AV.cells?, AV.isCell, AV.refs, all_isByte, take_byteV, drop_byteV, strOf_map, -List.map_take, -List.map_drop, bndOk, bnd, partAV, ptrAdd, killBox, catA, inOrder, fillA, setAt, ofVal, entry, resB, upd, byteV, List.head?_take, List.head?_drop, List.getElem?_map, lk, hnx, recAV, i64V, hmin]
    rw [List.take_take, Nat.min_self]
end Go.Fw

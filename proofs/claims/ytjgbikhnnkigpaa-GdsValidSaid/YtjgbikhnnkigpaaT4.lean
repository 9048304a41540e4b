import Derived.Test.YtjgbikhnnkigpaaT3
set_option linter.unusedSimpArgs false
set_option linter.unusedVariables false
namespace Go.Fw
open Go Go.Proofs Go.IntWalk
set_option linter.unusedSimpArgs false
set_option maxRecDepth 100000
theorem eval51 (k : UInt8) (p l e : Int) : Eval Try.prog 51 [.agg [byteV k, i64V p, i64V l, i64V e]] (.ret (i64V (if p < 1 then 1 else p))) := by
  refine Eval.intro Try.func51 rfl Try.call51 _ _ (Nat.le_of_ble_eq_true rfl) (by simp [AV.refs, refsL, byteV, i64V]) fun hs0 => ?_
  refine W_seq_k fun K hK hE => W_region (by decide) ?_
  repeat (rw [vcn]; try simp [optK_some, optK_none, optK_ite, optK_map, optK_bind, gOn, stepK, isMem, evPure, evMem, evBin, evUn, evConv, evLen, evBuiltin, evMinMax, evSlice, evBuild, evAppend, evIndex, evIndexAddr, evField, evFieldAddr, intBin, strBin, appDest, AS.val, AS.mem, AS.elems, AS.put, AS.put', AS.eff, AV.cells?, AV.isCell, AV.refs, all_isByte, take_byteV, drop_byteV, strOf_map, -List.map_take, -List.map_drop, bndOk, bnd, partAV, ptrAdd, killBox, catA, inOrder, fillA, setAt, ofVal, entry, resB, upd, byteV, List.head?_take, List.head?_drop, List.getElem?_map, i64V])
  first | refine hK _ ?_ | refine ⟨by omega, hK _ ?_⟩ | refine ⟨by simp [strOf_map, byteV, AV.isByte]; try omega, hK _ ?_⟩ | trace_state
  clear hK hE K
  refine W_seq_k fun K hK hE => W_region (by decide) ?_
  repeat (rw [vcn]; try simp [optK_some, optK_none, optK_ite, optK_map, optK_bind, gOn, stepK, isMem, evPure, evMem, evBin, evUn, evConv, evLen, evBuiltin, evMinMax, evSlice, evBuild, evAppend, evIndex, evIndexAddr, evField, evFieldAddr, intBin, strBin, appDest, AS.val, AS.mem, AS.elems, AS.put, AS.put', AS.eff, AV.cells?, AV.isCell, AV.refs, all_isByte, take_byteV, drop_byteV, strOf_map, -List.map_take, -List.map_drop, bndOk, bnd, partAV, ptrAdd, killBox, catA, inOrder, fillA, setAt, ofVal, entry, resB, upd, byteV, List.head?_take, List.head?_drop, List.getElem?_map, i64V])
  first | refine hK _ ?_ | refine ⟨by omega, hK _ ?_⟩ | refine ⟨by simp [strOf_map, byteV, AV.isByte]; try omega, hK _ ?_⟩ | trace_state
  clear hK hE K
  refine W_ret ?_
  simp [post, resAV, resAll, resOne, closeV, closeC, closeL, resD, resDL, optK_some, optK_none, optK_ite, optK_map, optK_bind, gOn, stepK, isMem, evPure, evMem, evBin, evUn, evConv, evLen, evBuiltin, evMinMax, evSlice, evBuild, evAppend, evIndex, evIndexAddr, evField, evFieldAddr, intBin, strBin, appDest, AS.val, AS.mem, AS.elems, AS.put, AS.put', AS.eff, AV.cells?, AV.isCell, AV.refs, all_isByte, take_byteV, drop_byteV, strOf_map, -List.map_take, -List.map_drop, bndOk, bnd, partAV, ptrAdd, killBox, catA, inOrder, fillA, setAt, ofVal, entry, resB, upd, byteV, List.head?_take, List.head?_drop, List.getElem?_map, i64V]
def shapeAV (k : UInt8) (p l e : Int) (ok : Bool) : AV := .tup [.agg [byteV k, i64V p, i64V l, i64V e], .v (.bool ok)]
theorem eval50_0 : Eval Try.prog 50 [byteV 0] (.ret (shapeAV 2 2 1 1 true)) := by
  refine Eval.intro Try.func50 rfl Try.call50 _ _ (Nat.le_of_ble_eq_true rfl) (by simp [AV.refs, refsL, byteV, i64V]) fun hs0 => ?_
  repeat' (first
    | refine W_seq ?_
    | (refine W_region (by decide) ?_; repeat (rw [vcn]; try simp [optK_some, optK_none, optK_ite, optK_map, optK_bind, gOn, stepK, isMem, evPure, evMem, evBin, evUn, evConv, evLen, evBuiltin, evMinMax, evSlice, evBuild, evAppend, evIndex, evIndexAddr, evField, evFieldAddr, intBin, strBin, appDest, AS.val, AS.mem, AS.elems, AS.put, AS.put', AS.eff, AV.cells?, AV.isCell, AV.refs, all_isByte, take_byteV, drop_byteV, strOf_map, -List.map_take, -List.map_drop, bndOk, bnd, partAV, ptrAdd, killBox, catA, inOrder, fillA, setAt, ofVal, entry, resB, upd, byteV, List.head?_take, List.head?_drop, List.getElem?_map, i64V]); (try simp only [thenW, blockW]))
    | (refine W_cond rfl (fun hc => ?_) (fun hc => ?_) <;> (first | (simp at hc; done) | skip))
    | (refine W_skip ?_; (try simp only [thenW, blockW]))
    | (refine W_exit ?_; (try simp only [thenW, blockW]))
    | (refine W_ret ?_; (try simp only [thenW, blockW]))
    | refine W_block ?_)
  all_goals simp [post, resAV, resAll, resOne, closeV, closeC, closeL, resD, resDL, optK_some, optK_none, optK_ite, optK_map, optK_bind, gOn, stepK, isMem, evPure, evMem, evBin, evUn, evConv, evLen, evBuiltin, evMinMax, evSlice, evBuild, evAppend, evIndex, evIndexAddr, evField, evFieldAddr, intBin, strBin, appDest, AS.val, AS.mem, AS.elems, AS.put, AS.put', AS.eff, AV.cells?, AV.isCell, AV.refs, all_isByte, take_byteV, drop_byteV, strOf_map, -List.map_take, -List.map_drop, bndOk, bnd, partAV, ptrAdd, killBox, catA, inOrder, fillA, setAt, ofVal, entry, resB, upd, byteV, List.head?_take, List.head?_drop, List.getElem?_map, shapeAV, i64V, refsL]
theorem eval50_4 : Eval Try.prog 50 [byteV 4] (.ret (shapeAV 0 1 0 0 true)) := by
  refine Eval.intro Try.func50 rfl Try.call50 _ _ (Nat.le_of_ble_eq_true rfl) (by simp [AV.refs, refsL, byteV, i64V]) fun hs0 => ?_
  repeat' (first
    | refine W_seq ?_
    | (refine W_region (by decide) ?_; repeat (rw [vcn]; try simp [optK_some, optK_none, optK_ite, optK_map, optK_bind, gOn, stepK, isMem, evPure, evMem, evBin, evUn, evConv, evLen, evBuiltin, evMinMax, evSlice, evBuild, evAppend, evIndex, evIndexAddr, evField, evFieldAddr, intBin, strBin, appDest, AS.val, AS.mem, AS.elems, AS.put, AS.put', AS.eff, AV.cells?, AV.isCell, AV.refs, all_isByte, take_byteV, drop_byteV, strOf_map, -List.map_take, -List.map_drop, bndOk, bnd, partAV, ptrAdd, killBox, catA, inOrder, fillA, setAt, ofVal, entry, resB, upd, byteV, List.head?_take, List.head?_drop, List.getElem?_map, i64V]); (try simp only [thenW, blockW]))
    | (refine W_cond rfl (fun hc => ?_) (fun hc => ?_) <;> (first | (simp at hc; done) | skip))
    | (refine W_skip ?_; (try simp only [thenW, blockW]))
    | (refine W_exit ?_; (try simp only [thenW, blockW]))
    | (refine W_ret ?_; (try simp only [thenW, blockW]))
    | refine W_block ?_)
  all_goals simp [post, resAV, resAll, resOne, closeV, closeC, closeL, resD, resDL, optK_some, optK_none, optK_ite, optK_map, optK_bind, gOn, stepK, isMem, evPure, evMem, evBin, evUn, evConv, evLen, evBuiltin, evMinMax, evSlice, evBuild, evAppend, evIndex, evIndexAddr, evField, evFieldAddr, intBin, strBin, appDest, AS.val, AS.mem, AS.elems, AS.put, AS.put', AS.eff, AV.cells?, AV.isCell, AV.refs, all_isByte, take_byteV, drop_byteV, strOf_map, -List.map_take, -List.map_drop, bndOk, bnd, partAV, ptrAdd, killBox, catA, inOrder, fillA, setAt, ofVal, entry, resB, upd, byteV, List.head?_take, List.head?_drop, List.getElem?_map, shapeAV, i64V, refsL]
theorem w1 : IntKind.i64.wrap 1 = 1 := by decide
theorem w0 : IntKind.i64.wrap 0 = 0 := by decide
theorem eval17_0 : Eval Try.prog 17 [recAV 0 2 [2, 88]] (.ret (.v (.bool true))) := by
  refine Eval.intro Try.func17 rfl Try.call17 _ _ (Nat.le_of_ble_eq_true rfl) (by simp [AV.refs, refsL, recAV, byteV, i64V]) fun hs0 => ?_
  refine W_seq_k fun K hK hE => W_region (by decide) ?_
  repeat (rw [vcn]; try simp [optK_some, optK_none, optK_ite, optK_map, optK_bind, gOn, stepK, isMem, evPure, evMem, evBin, evUn, evConv, evLen, evBuiltin, evMinMax, evSlice, evBuild, evAppend, evIndex, evIndexAddr, evField, evFieldAddr, intBin, strBin, appDest, AS.val, AS.mem, AS.elems, AS.put, AS.put', AS.eff, AV.cells?, AV.isCell, AV.refs, all_isByte, take_byteV, drop_byteV, strOf_map, -List.map_take, -List.map_drop, bndOk, bnd, partAV, ptrAdd, killBox, catA, inOrder, fillA, setAt, ofVal, entry, resB, upd, byteV, List.head?_take, List.head?_drop, List.getElem?_map, recAV])
  first | refine hK _ ?_ | refine ⟨by omega, hK _ ?_⟩ | refine ⟨by simp [strOf_map, byteV, AV.isByte]; try omega, hK _ ?_⟩ | trace_state
  clear hK hE K
  refine W_seq_k fun K hK hE => W_region (by decide) ?_
  repeat (rw [vcn]; try simp [optK_some, optK_none, optK_ite, optK_map, optK_bind, gOn, stepK, isMem, evPure, evMem, evBin, evUn, evConv, evLen, evBuiltin, evMinMax, evSlice, evBuild, evAppend, evIndex, evIndexAddr, evField, evFieldAddr, intBin, strBin, appDest, AS.val, AS.mem, AS.elems, AS.put, AS.put', AS.eff, AV.cells?, AV.isCell, AV.refs, all_isByte, take_byteV, drop_byteV, strOf_map, -List.map_take, -List.map_drop, bndOk, bnd, partAV, ptrAdd, killBox, catA, inOrder, fillA, setAt, ofVal, entry, resB, upd, byteV, List.head?_take, List.head?_drop, List.getElem?_map, recAV])
  refine CallG_plain eval50_0 (by simp [AV.refs, refsL]) rfl ?_
  dsimp only
  repeat (rw [vcn]; try simp [optK_some, optK_none, optK_ite, optK_map, optK_bind, gOn, stepK, isMem, evPure, evMem, evBin, evUn, evConv, evLen, evBuiltin, evMinMax, evSlice, evBuild, evAppend, evIndex, evIndexAddr, evField, evFieldAddr, intBin, strBin, appDest, AS.val, AS.mem, AS.elems, AS.put, AS.put', AS.eff, AV.cells?, AV.isCell, AV.refs, all_isByte, take_byteV, drop_byteV, strOf_map, -List.map_take, -List.map_drop, bndOk, bnd, partAV, ptrAdd, killBox, catA, inOrder, fillA, setAt, ofVal, entry, resB, upd, byteV, List.head?_take, List.head?_drop, List.getElem?_map, shapeAV, i64V])
  refine hK _ ?_
  clear hK hE K
  refine W_seq_k fun K hK hE => W_drawn mixed (by decide) (by kernel_rfl) ?_
  repeat (rw [vcnD]; try simp [optK_some, optK_none, optK_ite, optK_map, optK_bind, gOn, stepK, isMem, evPure, evMem, evBin, evUn, evConv, evLen, evBuiltin, evMinMax, evSlice, evBuild, evAppend, evIndex, evIndexAddr, evField, evFieldAddr, intBin, strBin, appDest, AS.val, AS.mem, AS.elems, AS.put, AS.put', AS.eff, AV.cells?, AV.isCell, AV.refs, all_isByte, take_byteV, drop_byteV, strOf_map, -List.map_take, -List.map_drop, bndOk, bnd, partAV, ptrAdd, killBox, catA, inOrder, fillA, setAt, ofVal, resB, upd, byteV, List.head?_take, List.head?_drop, List.getElem?_map, mkS_env, mkS_box, mkS_used, entry_env, entry_box, entry_used, lk, stepD, lookIds, Oper.looksAt, Op.operands, Call.operands, St.ids, refsL, i64V])
  refine callD_plain (by simp [AV.refs, refsL]) (eval51 2 2 1 1) rfl ?_
  repeat (rw [vcnD]; try simp [optK_some, optK_none, optK_ite, optK_map, optK_bind, gOn, stepK, isMem, evPure, evMem, evBin, evUn, evConv, evLen, evBuiltin, evMinMax, evSlice, evBuild, evAppend, evIndex, evIndexAddr, evField, evFieldAddr, intBin, strBin, appDest, AS.val, AS.mem, AS.elems, AS.put, AS.put', AS.eff, AV.cells?, AV.isCell, AV.refs, all_isByte, take_byteV, drop_byteV, strOf_map, -List.map_take, -List.map_drop, bndOk, bnd, partAV, ptrAdd, killBox, catA, inOrder, fillA, setAt, ofVal, resB, upd, byteV, List.head?_take, List.head?_drop, List.getElem?_map, mkS_env, mkS_box, mkS_used, entry_env, entry_box, entry_used, lk, stepD, lookIds, Oper.looksAt, Op.operands, Call.operands, St.ids, refsL, i64V, w1])
  repeat' apply And.intro
  all_goals try first | omega | kernel_rfl
  refine hK _ ?_
  clear hK hE K
  refine W_seq_k fun K hK hE => W_seq_k fun K1 hK1 hE1 => W_drawn mixed (by decide) (by kernel_rfl) ?_
  repeat (rw [vcnD]; try simp [optK_some, optK_none, optK_ite, optK_map, optK_bind, gOn, stepK, isMem, evPure, evMem, evBin, evUn, evConv, evLen, evBuiltin, evMinMax, evSlice, evBuild, evAppend, evIndex, evIndexAddr, evField, evFieldAddr, intBin, strBin, appDest, AS.val, AS.mem, AS.elems, AS.put, AS.put', AS.eff, AV.cells?, AV.isCell, AV.refs, all_isByte, take_byteV, drop_byteV, strOf_map, -List.map_take, -List.map_drop, bndOk, bnd, partAV, ptrAdd, killBox, catA, inOrder, fillA, setAt, ofVal, resB, upd, byteV, List.head?_take, List.head?_drop, List.getElem?_map, mkS_env, mkS_box, mkS_used, entry_env, entry_box, entry_used, lk, stepD, lookIds, Oper.looksAt, Op.operands, Call.operands, St.ids, refsL, i64V, w1])
  refine callD_plain (by simp [AV.refs, refsL]) (eval51 2 2 1 1) rfl ?_
  repeat (rw [vcnD]; try simp [optK_some, optK_none, optK_ite, optK_map, optK_bind, gOn, stepK, isMem, evPure, evMem, evBin, evUn, evConv, evLen, evBuiltin, evMinMax, evSlice, evBuild, evAppend, evIndex, evIndexAddr, evField, evFieldAddr, intBin, strBin, appDest, AS.val, AS.mem, AS.elems, AS.put, AS.put', AS.eff, AV.cells?, AV.isCell, AV.refs, all_isByte, take_byteV, drop_byteV, strOf_map, -List.map_take, -List.map_drop, bndOk, bnd, partAV, ptrAdd, killBox, catA, inOrder, fillA, setAt, ofVal, resB, upd, byteV, List.head?_take, List.head?_drop, List.getElem?_map, mkS_env, mkS_box, mkS_used, entry_env, entry_box, entry_used, lk, stepD, lookIds, Oper.looksAt, Op.operands, Call.operands, St.ids, refsL, i64V, w1])
  repeat' apply And.intro
  all_goals try first | omega | kernel_rfl
  refine hK1 _ (W_cond rfl (fun hc => by cases hc) (fun _ => W_skip (hK _ ?_)))
  clear hK1 hE1 K1 hK hE K
  repeat' (first
    | refine W_seq ?_
    | (refine W_region (by decide) ?_; repeat (rw [vcn]; try simp [optK_some, optK_none, optK_ite, optK_map, optK_bind, gOn, stepK, isMem, evPure, evMem, evBin, evUn, evConv, evLen, evBuiltin, evMinMax, evSlice, evBuild, evAppend, evIndex, evIndexAddr, evField, evFieldAddr, intBin, strBin, appDest, AS.val, AS.mem, AS.elems, AS.put, AS.put', AS.eff, AV.cells?, AV.isCell, AV.refs, all_isByte, take_byteV, drop_byteV, strOf_map, -List.map_take, -List.map_drop, bndOk, bnd, partAV, ptrAdd, killBox, catA, inOrder, fillA, setAt, ofVal, entry, resB, upd, byteV, List.head?_take, List.head?_drop, List.getElem?_map, i64V]); (try simp only [thenW, blockW]))
    | (refine W_cond rfl (fun hc => ?_) (fun hc => ?_) <;> (first | (simp at hc; done) | skip))
    | (refine W_skip ?_; (try simp only [thenW, blockW]))
    | (refine W_exit ?_; (try simp only [thenW, blockW]))
    | (refine W_ret ?_; (try simp only [thenW, blockW]))
    | refine W_block ?_)
  all_goals simp [post, resAV, resAll, resOne, closeV, closeC, closeL, resD, resDL, optK_some, optK_none, optK_ite, optK_map, optK_bind, gOn, stepK, isMem, evPure, evMem, evBin, evUn, evConv, evLen, evBuiltin, evMinMax, evSlice, evBuild, evAppend, evIndex, evIndexAddr, evField, evFieldAddr, intBin, strBin, appDest, AS.val, AS.mem, AS.elems, AS.put, AS.put', AS.eff, AV.cells?, AV.isCell, AV.refs, all_isByte, take_byteV, drop_byteV, strOf_map, -List.map_take, -List.map_drop, bndOk, bnd, partAV, ptrAdd, killBox, catA, inOrder, fillA, setAt, ofVal, entry, resB, upd, byteV, List.head?_take, List.head?_drop, List.getElem?_map, refsL]
theorem eval17_4 : Eval Try.prog 17 [recAV 4 0 []] (.ret (.v (.bool true))) := by
  refine Eval.intro Try.func17 rfl Try.call17 _ _ (Nat.le_of_ble_eq_true rfl) (by simp [AV.refs, refsL, recAV, byteV, i64V]) fun hs0 => ?_
  refine W_seq_k fun K hK hE => W_region (by decide) ?_
  repeat (rw [vcn]; try simp [optK_some, optK_none, optK_ite, optK_map, optK_bind, gOn, stepK, isMem, evPure, evMem, evBin, evUn, evConv, evLen, evBuiltin, evMinMax, evSlice, evBuild, evAppend, evIndex, evIndexAddr, evField, evFieldAddr, intBin, strBin, appDest, AS.val, AS.mem, AS.elems, AS.put, AS.put', AS.eff, AV.cells?, AV.isCell, AV.refs, all_isByte, take_byteV, drop_byteV, strOf_map, -List.map_take, -List.map_drop, bndOk, bnd, partAV, ptrAdd, killBox, catA, inOrder, fillA, setAt, ofVal, entry, resB, upd, byteV, List.head?_take, List.head?_drop, List.getElem?_map, recAV])
  first | refine hK _ ?_ | refine ⟨by omega, hK _ ?_⟩ | refine ⟨by simp [strOf_map, byteV, AV.isByte]; try omega, hK _ ?_⟩ | trace_state
  clear hK hE K
  refine W_seq_k fun K hK hE => W_region (by decide) ?_
  repeat (rw [vcn]; try simp [optK_some, optK_none, optK_ite, optK_map, optK_bind, gOn, stepK, isMem, evPure, evMem, evBin, evUn, evConv, evLen, evBuiltin, evMinMax, evSlice, evBuild, evAppend, evIndex, evIndexAddr, evField, evFieldAddr, intBin, strBin, appDest, AS.val, AS.mem, AS.elems, AS.put, AS.put', AS.eff, AV.cells?, AV.isCell, AV.refs, all_isByte, take_byteV, drop_byteV, strOf_map, -List.map_take, -List.map_drop, bndOk, bnd, partAV, ptrAdd, killBox, catA, inOrder, fillA, setAt, ofVal, entry, resB, upd, byteV, List.head?_take, List.head?_drop, List.getElem?_map, recAV])
  refine CallG_plain eval50_4 (by simp [AV.refs, refsL]) rfl ?_
  dsimp only
  repeat (rw [vcn]; try simp [optK_some, optK_none, optK_ite, optK_map, optK_bind, gOn, stepK, isMem, evPure, evMem, evBin, evUn, evConv, evLen, evBuiltin, evMinMax, evSlice, evBuild, evAppend, evIndex, evIndexAddr, evField, evFieldAddr, intBin, strBin, appDest, AS.val, AS.mem, AS.elems, AS.put, AS.put', AS.eff, AV.cells?, AV.isCell, AV.refs, all_isByte, take_byteV, drop_byteV, strOf_map, -List.map_take, -List.map_drop, bndOk, bnd, partAV, ptrAdd, killBox, catA, inOrder, fillA, setAt, ofVal, entry, resB, upd, byteV, List.head?_take, List.head?_drop, List.getElem?_map, shapeAV, i64V])
  refine hK _ ?_
  clear hK hE K
  refine W_seq_k fun K hK hE => W_drawn mixed (by decide) (by kernel_rfl) ?_
  repeat (rw [vcnD]; try simp [optK_some, optK_none, optK_ite, optK_map, optK_bind, gOn, stepK, isMem, evPure, evMem, evBin, evUn, evConv, evLen, evBuiltin, evMinMax, evSlice, evBuild, evAppend, evIndex, evIndexAddr, evField, evFieldAddr, intBin, strBin, appDest, AS.val, AS.mem, AS.elems, AS.put, AS.put', AS.eff, AV.cells?, AV.isCell, AV.refs, all_isByte, take_byteV, drop_byteV, strOf_map, -List.map_take, -List.map_drop, bndOk, bnd, partAV, ptrAdd, killBox, catA, inOrder, fillA, setAt, ofVal, resB, upd, byteV, List.head?_take, List.head?_drop, List.getElem?_map, mkS_env, mkS_box, mkS_used, entry_env, entry_box, entry_used, lk, stepD, lookIds, Oper.looksAt, Op.operands, Call.operands, St.ids, refsL, i64V])
  refine callD_plain (by simp [AV.refs, refsL]) (eval51 0 1 0 0) rfl ?_
  repeat (rw [vcnD]; try simp [optK_some, optK_none, optK_ite, optK_map, optK_bind, gOn, stepK, isMem, evPure, evMem, evBin, evUn, evConv, evLen, evBuiltin, evMinMax, evSlice, evBuild, evAppend, evIndex, evIndexAddr, evField, evFieldAddr, intBin, strBin, appDest, AS.val, AS.mem, AS.elems, AS.put, AS.put', AS.eff, AV.cells?, AV.isCell, AV.refs, all_isByte, take_byteV, drop_byteV, strOf_map, -List.map_take, -List.map_drop, bndOk, bnd, partAV, ptrAdd, killBox, catA, inOrder, fillA, setAt, ofVal, resB, upd, byteV, List.head?_take, List.head?_drop, List.getElem?_map, mkS_env, mkS_box, mkS_used, entry_env, entry_box, entry_used, lk, stepD, lookIds, Oper.looksAt, Op.operands, Call.operands, St.ids, refsL, i64V, w1, w0])
  repeat' apply And.intro
  all_goals try first | omega | kernel_rfl
  refine hK _ ?_
  clear hK hE K
  refine W_seq_k fun K hK hE => W_seq_k fun K1 hK1 hE1 => W_drawn mixed (by decide) (by kernel_rfl) ?_
  repeat (rw [vcnD]; try simp [optK_some, optK_none, optK_ite, optK_map, optK_bind, gOn, stepK, isMem, evPure, evMem, evBin, evUn, evConv, evLen, evBuiltin, evMinMax, evSlice, evBuild, evAppend, evIndex, evIndexAddr, evField, evFieldAddr, intBin, strBin, appDest, AS.val, AS.mem, AS.elems, AS.put, AS.put', AS.eff, AV.cells?, AV.isCell, AV.refs, all_isByte, take_byteV, drop_byteV, strOf_map, -List.map_take, -List.map_drop, bndOk, bnd, partAV, ptrAdd, killBox, catA, inOrder, fillA, setAt, ofVal, resB, upd, byteV, List.head?_take, List.head?_drop, List.getElem?_map, mkS_env, mkS_box, mkS_used, entry_env, entry_box, entry_used, lk, stepD, lookIds, Oper.looksAt, Op.operands, Call.operands, St.ids, refsL, i64V, w1, w0])
  refine callD_plain (by simp [AV.refs, refsL]) (eval51 0 1 0 0) rfl ?_
  repeat (rw [vcnD]; try simp [optK_some, optK_none, optK_ite, optK_map, optK_bind, gOn, stepK, isMem, evPure, evMem, evBin, evUn, evConv, evLen, evBuiltin, evMinMax, evSlice, evBuild, evAppend, evIndex, evIndexAddr, evField, evFieldAddr, intBin, strBin, appDest, AS.val, AS.mem, AS.elems, AS.put, AS.put', AS.eff, AV.cells?, AV.isCell, AV.refs, all_isByte, take_byteV, drop_byteV, strOf_map, -List.map_take, -List.map_drop, bndOk, bnd, partAV, ptrAdd, killBox, catA, inOrder, fillA, setAt, ofVal, resB, upd, byteV, List.head?_take, List.head?_drop, List.getElem?_map, mkS_env, mkS_box, mkS_used, entry_env, entry_box, entry_used, lk, stepD, lookIds, Oper.looksAt, Op.operands, Call.operands, St.ids, refsL, i64V, w1, w0])
  repeat' apply And.intro
  all_goals try first | omega | kernel_rfl
  refine hK1 _ (W_cond rfl (fun hc => by cases hc) (fun _ => W_skip (hK _ ?_)))
  clear hK1 hE1 K1 hK hE K
  repeat' (first
    | refine W_seq ?_
    | (refine W_region (by decide) ?_; repeat (rw [vcn]; try simp [optK_some, optK_none, optK_ite, optK_map, optK_bind, gOn, stepK, isMem, evPure, evMem, evBin, evUn, evConv, evLen, evBuiltin, evMinMax, evSlice, evBuild, evAppend, evIndex, evIndexAddr, evField, evFieldAddr, intBin, strBin, appDest, AS.val, AS.mem, AS.elems, AS.put, AS.put', AS.eff, AV.cells?, AV.isCell, AV.refs, all_isByte, take_byteV, drop_byteV, strOf_map, -List.map_take, -List.map_drop, bndOk, bnd, partAV, ptrAdd, killBox, catA, inOrder, fillA, setAt, ofVal, entry, resB, upd, byteV, List.head?_take, List.head?_drop, List.getElem?_map, i64V]); (try simp only [thenW, blockW]))
    | (refine W_cond rfl (fun hc => ?_) (fun hc => ?_) <;> (first | (simp at hc; done) | skip))
    | (refine W_skip ?_; (try simp only [thenW, blockW]))
    | (refine W_exit ?_; (try simp only [thenW, blockW]))
    | (refine W_ret ?_; (try simp only [thenW, blockW]))
    | refine W_block ?_)
  all_goals simp [post, resAV, resAll, resOne, closeV, closeC, closeL, resD, resDL, optK_some, optK_none, optK_ite, optK_map, optK_bind, gOn, stepK, isMem, evPure, evMem, evBin, evUn, evConv, evLen, evBuiltin, evMinMax, evSlice, evBuild, evAppend, evIndex, evIndexAddr, evField, evFieldAddr, intBin, strBin, appDest, AS.val, AS.mem, AS.elems, AS.put, AS.put', AS.eff, AV.cells?, AV.isCell, AV.refs, all_isByte, take_byteV, drop_byteV, strOf_map, -List.map_take, -List.map_drop, bndOk, bnd, partAV, ptrAdd, killBox, catA, inOrder, fillA, setAt, ofVal, entry, resB, upd, byteV, List.head?_take, List.head?_drop, List.getElem?_map, refsL]
theorem split1 : splitAV [0, 6, 0, 2, 2, 0x58, 0, 4, 4, 0, 0, 0] = .tup [.slc false 3 2 (recsCells [(0, 2, [2, 88]), (4, 0, [])]), i64V 10, i64V 0] := by
  have : splitSpec [0, 6, 0, 2, 2, 0x58, 0, 4, 4, 0, 0, 0] = .ok ([(0, 2, [2, 88]), (4, 0, [])], 10) := by rfl
  rw [splitAV, this]
  rfl
theorem split2 : splitAV [0, 6, 0, 2, 2, 0x58] = .tup [.v (.slice none 0 0), i64V 0, i64V 7] := by
  have : splitSpec [0, 6, 0, 2, 2, 0x58] = .error 7 := by rfl
  rw [splitAV, this]
theorem split3 : splitAV [0, 5, 0, 2, 2, 0] = .tup [.v (.slice none 0 0), i64V 0, i64V 3] := by
  have : splitSpec [0, 5, 0, 2, 2, 0] = .error 3 := by rfl
  rw [splitAV, this]
theorem eval15 : Eval Try.prog 15 [] (.ret (.v (.bool true))) := by
  refine Eval.intro Try.func15 rfl Try.call15 _ _ (Nat.le_of_ble_eq_true rfl) rfl fun hs0 => ?_
  refine W_seq_k fun K hK hE => W_region (by decide) ?_
  repeat (rw [vcn]; try simp [optK_some, optK_none, optK_ite, optK_map, optK_bind, gOn, stepK, isMem, evPure, evMem, evBin, evUn, evConv, evLen, evBuiltin, evMinMax, evSlice, evBuild, evAppend, evIndex, evIndexAddr, evField, evFieldAddr, intBin, strBin, appDest, AS.val, AS.mem, AS.elems, AS.put, AS.put', AS.eff, AV.cells?, AV.isCell, AV.refs, all_isByte, take_byteV, drop_byteV, strOf_map, -List.map_take, -List.map_drop, bndOk, bnd, partAV, ptrAdd, killBox, catA, inOrder, fillA, setAt, ofVal, entry, resB, upd, byteV, List.head?_take, List.head?_drop, List.getElem?_map])
  first | refine hK _ ?_ | refine ⟨by omega, hK _ ?_⟩ | refine ⟨by simp [strOf_map, byteV, AV.isByte]; try omega, hK _ ?_⟩ | trace_state
  clear hK hE K
  refine W_seq_k fun K hK hE => W_region (by decide) ?_
  repeat (rw [vcn]; try simp [optK_some, optK_none, optK_ite, optK_map, optK_bind, gOn, stepK, isMem, evPure, evMem, evBin, evUn, evConv, evLen, evBuiltin, evMinMax, evSlice, evBuild, evAppend, evIndex, evIndexAddr, evField, evFieldAddr, intBin, strBin, appDest, AS.val, AS.mem, AS.elems, AS.put, AS.put', AS.eff, AV.cells?, AV.isCell, AV.refs, all_isByte, take_byteV, drop_byteV, strOf_map, -List.map_take, -List.map_drop, bndOk, bnd, partAV, ptrAdd, killBox, catA, inOrder, fillA, setAt, ofVal, entry, resB, upd, byteV, List.head?_take, List.head?_drop, List.getElem?_map])
  first | refine hK _ ?_ | refine ⟨by omega, hK _ ?_⟩ | refine ⟨by simp [strOf_map, byteV, AV.isByte]; try omega, hK _ ?_⟩ | trace_state
  clear hK hE K
  refine W_frz 11 rfl (by simp [AV.refs, refsL]) ?_
  have e1 := eval19 false [0, 6, 0, 2, 2, 0x58, 0, 4, 4, 0, 0, 0] (by decide)
  have e2 := eval19 false [0, 6, 0, 2, 2, 0x58] (by decide)
  have e3 := eval19 false [0, 5, 0, 2, 2, 0] (by decide)
  rw [split1] at e1
  rw [split2] at e2
  rw [split3] at e3
  refine W_seq_k fun K hK hE => W_region (by decide) ?_
  repeat (rw [vcn]; try simp [optK_some, optK_none, optK_ite, optK_map, optK_bind, gOn, stepK, isMem, evPure, evMem, evBin, evUn, evConv, evLen, evBuiltin, evMinMax, evSlice, evBuild, evAppend, evIndex, evIndexAddr, evField, evFieldAddr, intBin, strBin, appDest, AS.val, AS.mem, AS.elems, AS.put, AS.put', AS.eff, AV.cells?, AV.isCell, AV.refs, all_isByte, take_byteV, drop_byteV, strOf_map, -List.map_take, -List.map_drop, bndOk, bnd, partAV, ptrAdd, killBox, catA, inOrder, fillA, setAt, ofVal, entry, resB, upd, byteV, List.head?_take, List.head?_drop, List.getElem?_map])
  refine CallG_plain e1 (by simp [AV.refs, refsL]) rfl ?_
  dsimp only
  repeat (rw [vcn]; try simp [optK_some, optK_none, optK_ite, optK_map, optK_bind, gOn, stepK, isMem, evPure, evMem, evBin, evUn, evConv, evLen, evBuiltin, evMinMax, evSlice, evBuild, evAppend, evIndex, evIndexAddr, evField, evFieldAddr, intBin, strBin, appDest, AS.val, AS.mem, AS.elems, AS.put, AS.put', AS.eff, AV.cells?, AV.isCell, AV.refs, all_isByte, take_byteV, drop_byteV, strOf_map, -List.map_take, -List.map_drop, bndOk, bnd, partAV, ptrAdd, killBox, catA, inOrder, fillA, setAt, ofVal, entry, resB, upd, byteV, List.head?_take, List.head?_drop, List.getElem?_map, recsCells, recCells, i64V])
  refine hK _ ?_
  clear hK hE K
  refine W_seq_k fun K hK hE => W_region (by decide) ?_
  repeat (rw [vcn]; try simp [optK_some, optK_none, optK_ite, optK_map, optK_bind, gOn, stepK, isMem, evPure, evMem, evBin, evUn, evConv, evLen, evBuiltin, evMinMax, evSlice, evBuild, evAppend, evIndex, evIndexAddr, evField, evFieldAddr, intBin, strBin, appDest, AS.val, AS.mem, AS.elems, AS.put, AS.put', AS.eff, AV.cells?, AV.isCell, AV.refs, all_isByte, take_byteV, drop_byteV, strOf_map, -List.map_take, -List.map_drop, bndOk, bnd, partAV, ptrAdd, killBox, catA, inOrder, fillA, setAt, ofVal, entry, resB, upd, byteV, List.head?_take, List.head?_drop, List.getElem?_map])
  refine CallG_plain e2 (by simp [AV.refs, refsL]) rfl ?_
  dsimp only
  repeat (rw [vcn]; try simp [optK_some, optK_none, optK_ite, optK_map, optK_bind, gOn, stepK, isMem, evPure, evMem, evBin, evUn, evConv, evLen, evBuiltin, evMinMax, evSlice, evBuild, evAppend, evIndex, evIndexAddr, evField, evFieldAddr, intBin, strBin, appDest, AS.val, AS.mem, AS.elems, AS.put, AS.put', AS.eff, AV.cells?, AV.isCell, AV.refs, all_isByte, take_byteV, drop_byteV, strOf_map, -List.map_take, -List.map_drop, bndOk, bnd, partAV, ptrAdd, killBox, catA, inOrder, fillA, setAt, ofVal, entry, resB, upd, byteV, List.head?_take, List.head?_drop, List.getElem?_map, recsCells, recCells, i64V])
  refine hK _ ?_
  clear hK hE K
  refine W_seq_k fun K hK hE => W_region (by decide) ?_
  repeat (rw [vcn]; try simp [optK_some, optK_none, optK_ite, optK_map, optK_bind, gOn, stepK, isMem, evPure, evMem, evBin, evUn, evConv, evLen, evBuiltin, evMinMax, evSlice, evBuild, evAppend, evIndex, evIndexAddr, evField, evFieldAddr, intBin, strBin, appDest, AS.val, AS.mem, AS.elems, AS.put, AS.put', AS.eff, AV.cells?, AV.isCell, AV.refs, all_isByte, take_byteV, drop_byteV, strOf_map, -List.map_take, -List.map_drop, bndOk, bnd, partAV, ptrAdd, killBox, catA, inOrder, fillA, setAt, ofVal, entry, resB, upd, byteV, List.head?_take, List.head?_drop, List.getElem?_map])
  refine CallG_frz [.slc false 1 6 [byteV 0, byteV 5, byteV 0, byteV 2, byteV 2, byteV 0]] _ rfl ?_ e3 ?_ rfl rfl ?_
  · simp [refsL, AV.refs, frzS, resDL, resD, resB, upd, byteV]
  · simp [refsL, AV.refs, frzOk, upd]
  simp only [refsL, AV.refs, frzS, List.append_nil]
  repeat (rw [vcn]; try simp [optK_some, optK_none, optK_ite, optK_map, optK_bind, gOn, stepK, isMem, evPure, evMem, evBin, evUn, evConv, evLen, evBuiltin, evMinMax, evSlice, evBuild, evAppend, evIndex, evIndexAddr, evField, evFieldAddr, intBin, strBin, appDest, AS.val, AS.mem, AS.elems, AS.put, AS.put', AS.eff, AV.cells?, AV.isCell, AV.refs, all_isByte, take_byteV, drop_byteV, strOf_map, -List.map_take, -List.map_drop, bndOk, bnd, partAV, ptrAdd, killBox, catA, inOrder, fillA, setAt, ofVal, entry, resB, upd, byteV, List.head?_take, List.head?_drop, List.getElem?_map, recsCells, recCells, i64V])
  refine hK _ ?_
  clear hK hE K
  refine W_seq_k fun K hK hE => W_region (by decide) ?_
  repeat (rw [vcn]; try simp [optK_some, optK_none, optK_ite, optK_map, optK_bind, gOn, stepK, isMem, evPure, evMem, evBin, evUn, evConv, evLen, evBuiltin, evMinMax, evSlice, evBuild, evAppend, evIndex, evIndexAddr, evField, evFieldAddr, intBin, strBin, appDest, AS.val, AS.mem, AS.elems, AS.put, AS.put', AS.eff, AV.cells?, AV.isCell, AV.refs, all_isByte, take_byteV, drop_byteV, strOf_map, -List.map_take, -List.map_drop, bndOk, bnd, partAV, ptrAdd, killBox, catA, inOrder, fillA, setAt, ofVal, entry, resB, upd, byteV, List.head?_take, List.head?_drop, List.getElem?_map])
  refine CallG_plain eval17_0 (by simp [AV.refs, refsL]) rfl ?_
  dsimp only
  repeat (rw [vcn]; try simp [optK_some, optK_none, optK_ite, optK_map, optK_bind, gOn, stepK, isMem, evPure, evMem, evBin, evUn, evConv, evLen, evBuiltin, evMinMax, evSlice, evBuild, evAppend, evIndex, evIndexAddr, evField, evFieldAddr, intBin, strBin, appDest, AS.val, AS.mem, AS.elems, AS.put, AS.put', AS.eff, AV.cells?, AV.isCell, AV.refs, all_isByte, take_byteV, drop_byteV, strOf_map, -List.map_take, -List.map_drop, bndOk, bnd, partAV, ptrAdd, killBox, catA, inOrder, fillA, setAt, ofVal, entry, resB, upd, byteV, List.head?_take, List.head?_drop, List.getElem?_map])
  refine CallG_plain eval17_4 (by simp [AV.refs, refsL]) rfl ?_
  dsimp only
  repeat (rw [vcn]; try simp [optK_some, optK_none, optK_ite, optK_map, optK_bind, gOn, stepK, isMem, evPure, evMem, evBin, evUn, evConv, evLen, evBuiltin, evMinMax, evSlice, evBuild, evAppend, evIndex, evIndexAddr, evField, evFieldAddr, intBin, strBin, appDest, AS.val, AS.mem, AS.elems, AS.put, AS.put', AS.eff, AV.cells?, AV.isCell, AV.refs, all_isByte, take_byteV, drop_byteV, strOf_map, -List.map_take, -List.map_drop, bndOk, bnd, partAV, ptrAdd, killBox, catA, inOrder, fillA, setAt, ofVal, entry, resB, upd, byteV, List.head?_take, List.head?_drop, List.getElem?_map])
  refine hK _ ?_
  clear hK hE K
  refine W_ret ?_
  simp [post, resAV, resAll, resOne, closeV, closeC, closeL, resD, resDL, optK_some, optK_none, optK_ite, optK_map, optK_bind, gOn, stepK, isMem, evPure, evMem, evBin, evUn, evConv, evLen, evBuiltin, evMinMax, evSlice, evBuild, evAppend, evIndex, evIndexAddr, evField, evFieldAddr, intBin, strBin, appDest, AS.val, AS.mem, AS.elems, AS.put, AS.put', AS.eff, AV.cells?, AV.isCell, AV.refs, all_isByte, take_byteV, drop_byteV, strOf_map, -List.map_take, -List.map_drop, bndOk, bnd, partAV, ptrAdd, killBox, catA, inOrder, fillA, setAt, ofVal, entry, resB, upd, byteV, List.head?_take, List.head?_drop, List.getElem?_map]
end Go.Fw

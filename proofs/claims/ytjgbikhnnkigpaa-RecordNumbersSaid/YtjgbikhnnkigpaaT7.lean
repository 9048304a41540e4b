import Derived.Test.YtjgbikhnnkigpaaT6
set_option linter.unusedSimpArgs false
set_option linter.unusedVariables false
namespace Go.Fw
open Go Go.Proofs Go.IntWalk

/-- The short of two bytes, as Shorts reckons it. -/
def shortI (x y : UInt8) : Int := IntKind.i64.wrap (IntKind.i16.wrap (bOr .u16 (shlI .u16 (IntKind.u16.wrap x.toNat) 8) (IntKind.u16.wrap y.toNat)))
def shortsOf : List UInt8 → List Int
  | x :: y :: t => shortI x y :: shortsOf t
  | _ => []
theorem shortsOf_len : ∀ (n : Nat) (l : List UInt8), l.length = 2 * n → (shortsOf l).length = n
  | 0, [], _ => rfl
  | n + 1, x :: y :: t, h => by simp only [shortsOf, List.length_cons]; rw [shortsOf_len n t (by simp at h; omega)]
  | n + 1, [x], h => by simp at h; omega
  | n + 1, [], h => by simp at h
  | 0, x :: t, h => by simp at h
theorem shortsOf_step : ∀ (n : Nat) (l : List UInt8) (x y : UInt8), l[2 * n]? = some x → l[2 * n + 1]? = some y → shortsOf (l.take (2 * (n + 1))) = shortsOf (l.take (2 * n)) ++ [shortI x y]
  | 0, a :: b :: t, x, y, h1, h2 => by
    simp at h1 h2
    subst h1 h2
    simp [shortsOf]
  | n + 1, a :: b :: t, x, y, h1, h2 => by
    have e1 : 2 * (n + 1 + 1) = 2 * (n + 1) + 1 + 1 := by omega
    have e2 : 2 * (n + 1) = 2 * n + 1 + 1 := by omega
    rw [e1, List.take_succ_cons, List.take_succ_cons]
    conv => rhs; rw [e2, List.take_succ_cons, List.take_succ_cons]
    simp only [shortsOf]
    rw [shortsOf_step n t x y (by rw [e2] at h1; simpa using h1) (by rw [e2] at h2; simpa using h2)]
    rfl
  | n + 1, [a], x, y, h1, h2 => by simp at h1
  | n + 1, [], x, y, h1, h2 => by simp at h1
  | 0, [a], x, y, h1, h2 => by simp at h2
  | 0, [], x, y, h1, h2 => by simp at h1

def shortsL (l : List UInt8) : List Int := if l.length % 2 = 0 then shortsOf l else []
def errL (s : Nat) (l : List UInt8) : Int := if l.length % s = 0 then 0 else 3
def shortsAV (l : List UInt8) : AV := .tup [.slc false 1 (shortsL l).length ((shortsL l).map intV), intV (errL 2 l)]

set_option linter.unusedSimpArgs false
set_option maxRecDepth 100000
theorem eval28 (f : Bool) (l : List UInt8) (hs : l.length ≤ 1000000) : Eval Try.prog 28 [.slc f 1 l.length (l.map byteV)] (.ret (shortsAV l)) := by
  refine Eval.intro Try.func28 rfl Try.call28 _ _ (Nat.le_of_ble_eq_true rfl) (by simp [AV.refs]) fun hs0 => ?_
  have hm : ((l.length : Int).tmod 2) = ((l.length % 2 : Nat) : Int) := by rw [Int.ofNat_tmod]; rfl
  refine W_seq_k fun K hK hE => W_region (by decide) ?_
  repeat (rw [vcn]; try simp [optK_some, optK_none, optK_ite, optK_map, optK_bind, gOn, stepK, isMem, evPure, evMem, evBin, evUn, evConv, evLen, evBuiltin, evMinMax, evSlice, evBuild, evAppend, evIndex, evIndexAddr, evField, evFieldAddr, intBin, strBin, appDest, AS.val, AS.mem, AS.elems, AS.put, AS.put', AS.eff, AV.cells?, AV.isCell, AV.refs, all_isByte, take_byteV, drop_byteV, strOf_map, -List.map_take, -List.map_drop, bndOk, bnd, partAV, ptrAdd, killBox, catA, inOrder, fillA, setAt, ofVal, entry, resB, upd, byteV, List.head?_take, List.head?_drop, List.getElem?_map])
  first | refine hK _ ?_ | refine ⟨by omega, hK _ ?_⟩ | refine ⟨by simp [strOf_map, byteV, AV.isByte]; try omega, hK _ ?_⟩ | trace_state
  clear hK hE K
  refine W_seq_k fun K hK hE => ?_
  refine W_seq_k fun K hK hE => W_region (by decide) ?_
  repeat (rw [vcn]; try simp [optK_some, optK_none, optK_ite, optK_map, optK_bind, gOn, stepK, isMem, evPure, evMem, evBin, evUn, evConv, evLen, evBuiltin, evMinMax, evSlice, evBuild, evAppend, evIndex, evIndexAddr, evField, evFieldAddr, intBin, strBin, appDest, AS.val, AS.mem, AS.elems, AS.put, AS.put', AS.eff, AV.cells?, AV.isCell, AV.refs, all_isByte, take_byteV, drop_byteV, strOf_map, -List.map_take, -List.map_drop, bndOk, bnd, partAV, ptrAdd, killBox, catA, inOrder, fillA, setAt, ofVal, entry, resB, upd, byteV, List.head?_take, List.head?_drop, List.getElem?_map, hm])
  first | refine hK _ ?_ | refine ⟨by omega, hK _ ?_⟩ | refine ⟨by simp [strOf_map, byteV, AV.isByte]; try omega, hK _ ?_⟩ | trace_state
  clear hK hE K
  refine W_cond rfl (fun hc => ?_) (fun hc => ?_)
  · have h2 : ¬ l.length % 2 = 0 := by simp at hc; omega
    refine W_seq_k fun K1 hK1 _ => W_region (by decide) ?_
    repeat (rw [vcn]; try simp [optK_some, optK_none, optK_ite, optK_map, optK_bind, gOn, stepK, isMem, evPure, evMem, evBin, evUn, evConv, evLen, evBuiltin, evMinMax, evSlice, evBuild, evAppend, evIndex, evIndexAddr, evField, evFieldAddr, intBin, strBin, appDest, AS.val, AS.mem, AS.elems, AS.put, AS.put', AS.eff, AV.cells?, AV.isCell, AV.refs, all_isByte, take_byteV, drop_byteV, strOf_map, -List.map_take, -List.map_drop, bndOk, bnd, partAV, ptrAdd, killBox, catA, inOrder, fillA, setAt, ofVal, entry, resB, upd, byteV, List.head?_take, List.head?_drop, List.getElem?_map])
    refine hK1 _ (W_nil 2 700 3 1 rfl (by simp) (W_frz 700 (e := 3) (l := []) rfl rfl (W_ret (hE _ _ (by simp) ?_))))
    simp [post, resAV, resAll, resOne, closeV, closeC, closeL, resD, resDL, optK_some, optK_none, optK_ite, optK_map, optK_bind, gOn, stepK, isMem, evPure, evMem, evBin, evUn, evConv, evLen, evBuiltin, evMinMax, evSlice, evBuild, evAppend, evIndex, evIndexAddr, evField, evFieldAddr, intBin, strBin, appDest, AS.val, AS.mem, AS.elems, AS.put, AS.put', AS.eff, AV.cells?, AV.isCell, AV.refs, all_isByte, take_byteV, drop_byteV, strOf_map, -List.map_take, -List.map_drop, bndOk, bnd, partAV, ptrAdd, killBox, catA, inOrder, fillA, setAt, ofVal, entry, resB, upd, byteV, List.head?_take, List.head?_drop, List.getElem?_map, shortsAV, shortsL, errL, h2, intV, refsL]
  have h2 : l.length % 2 = 0 := by simp at hc; omega
  first | refine hK _ ?_ | refine ⟨by omega, hK _ ?_⟩ | refine W_skip (hK _ ?_) | trace_state
  clear hK hE K
  refine W_seq_k fun K hK hE => W_region (by decide) ?_
  repeat (rw [vcn]; try simp [optK_some, optK_none, optK_ite, optK_map, optK_bind, gOn, stepK, isMem, evPure, evMem, evBin, evUn, evConv, evLen, evBuiltin, evMinMax, evSlice, evBuild, evAppend, evIndex, evIndexAddr, evField, evFieldAddr, intBin, strBin, appDest, AS.val, AS.mem, AS.elems, AS.put, AS.put', AS.eff, AV.cells?, AV.isCell, AV.refs, all_isByte, take_byteV, drop_byteV, strOf_map, -List.map_take, -List.map_drop, bndOk, bnd, partAV, ptrAdd, killBox, catA, inOrder, fillA, setAt, ofVal, entry, resB, upd, byteV, List.head?_take, List.head?_drop, List.getElem?_map])
  first | refine hK _ ?_ | refine ⟨by omega, hK _ ?_⟩ | refine ⟨by simp [strOf_map, byteV, AV.isByte]; try omega, hK _ ?_⟩ | trace_state
  clear hK hE K
  refine W_nil 4 500 3 1 rfl (by simp) ?_
  refine W_seq_k fun K hK hE => W_seq_k fun K1 hK1 hE1 => W_region (by decide) ?_
  repeat (rw [vcn]; try simp [optK_some, optK_none, optK_ite, optK_map, optK_bind, gOn, stepK, isMem, evPure, evMem, evBin, evUn, evConv, evLen, evBuiltin, evMinMax, evSlice, evBuild, evAppend, evIndex, evIndexAddr, evField, evFieldAddr, intBin, strBin, appDest, AS.val, AS.mem, AS.elems, AS.put, AS.put', AS.eff, AV.cells?, AV.isCell, AV.refs, all_isByte, take_byteV, drop_byteV, strOf_map, -List.map_take, -List.map_drop, bndOk, bnd, partAV, ptrAdd, killBox, catA, inOrder, fillA, setAt, ofVal, entry, resB, upd, byteV, List.head?_take, List.head?_drop, List.getElem?_map])
  refine hK1 _ (W_block_k fun J b1 b2 b3 b4 b5 => ?_)
  clear hK1 hE1 K1
  refine W_loop_k (X := Nat) (fun i => [(0, .slc f 1 l.length (l.map byteV)), (3, intV 0), (4, .bs 500 1 0 i), (5, intV ((2 * i : Nat) : Int))]) (fun i => [(500, .mut 3 ((shortsOf (l.take (2 * i))).map intV))])
    (fun i => l.length - 2 * i) (fun i => 2 * i ≤ l.length) 0 id (Nat.zero_le _) ⟨?_, ?_, ?_, ?_, ?_, ?_⟩ fun i hi R hR hRE => ?_
  · simp [upd, resB, ren, renL, renBox, AV.refs, refsL, Box.refs, lk, take_byteV, drop_byteV, refsL_bytes, -List.map_take, -List.map_drop, intV]
  · simp [upd, resB, ren, renL, renBox, AV.refs, refsL, Box.refs, lk, take_byteV, drop_byteV, refsL_bytes, -List.map_take, -List.map_drop, shortsOf]
  · simp
  · simp [upd, resB, ren, renL, renBox, AV.refs, refsL, Box.refs, lk, take_byteV, drop_byteV, refsL_bytes, -List.map_take, -List.map_drop, intV]
  · simp [upd, resB, ren, renL, renBox, AV.refs, refsL, Box.refs, lk, take_byteV, drop_byteV, refsL_bytes, -List.map_take, -List.map_drop]
  · simp
  have hlen : (shortsOf (l.take (2 * i))).length = i := shortsOf_len i _ (by rw [List.length_take]; omega)
  refine W_seq_k fun K3 hK3 hE3 => W_seq_k fun K2 hK2 hE2 => W_region (by decide) ?_
  repeat (rw [vcn]; try simp [optK_some, optK_none, optK_ite, optK_map, optK_bind, gOn, stepK, isMem, evPure, evMem, evBin, evUn, evConv, evLen, evBuiltin, evMinMax, evSlice, evBuild, evAppend, evIndex, evIndexAddr, evField, evFieldAddr, intBin, strBin, appDest, AS.val, AS.mem, AS.elems, AS.put, AS.put', AS.eff, AV.cells?, AV.isCell, AV.refs, all_isByte, take_byteV, drop_byteV, strOf_map, -List.map_take, -List.map_drop, bndOk, bnd, partAV, ptrAdd, killBox, catA, inOrder, fillA, setAt, ofVal, entry, resB, upd, byteV, List.head?_take, List.head?_drop, List.getElem?_map, lk, mkS, intV])
  refine hK2 _ (W_cond rfl (fun hc => ?_) (fun hc => ?_))
  · have hlt : 2 * i < l.length := by simp at hc; omega
    have g0 : l[2 * i]? = some l[2 * i] := List.getElem?_eq_getElem hlt
    have hlt1 : 2 * i + 1 < l.length := by omega
    have g1 : l[2 * i + 1]? = some l[2 * i + 1] := List.getElem?_eq_getElem hlt1
    have hw1 : IntKind.i64.wrap (2 * (i : Int) + 1) = 2 * (i : Int) + 1 := by rw [i64_in _ (by omega)]
    have n4 : (2 * (i : Int) + 1).toNat = 2 * i + 1 := by omega
    have n5 : (0 : Int) ≤ 2 * (i : Int) + 1 := by omega
    have n6 : 2 * (i : Int) + 1 < (l.length : Int) := by omega
    have hw2 : IntKind.i64.wrap (2 * (i : Int) + 2) = 2 * (i : Int) + 2 := by rw [i64_in _ (by omega)]
    have n1 : (2 * (i : Int)).toNat = 2 * i := by omega
    have n2 : (0 : Int) ≤ 2 * (i : Int) := by omega
    have n3 : 2 * (i : Int) < (l.length : Int) := by omega
    refine W_skip (hK3 _ (W_seq_k fun K4 hK4 hE4 => W_block_k fun K5 c1 c2 c3 c4 c5 => ?_))
    refine W_drawn mixed (by decide) (by kernel_rfl) ?_
    repeat (rw [vcnD]; try simp [optK_some, optK_none, optK_ite, optK_map, optK_bind, gOn, stepK, isMem, evPure, evMem, evBin, evUn, evConv, evLen, evBuiltin, evMinMax, evSlice, evBuild, evAppend, evIndex, evIndexAddr, evField, evFieldAddr, intBin, strBin, appDest, AS.val, AS.mem, AS.elems, AS.put, AS.put', AS.eff, AV.cells?, AV.isCell, AV.refs, all_isByte, take_byteV, drop_byteV, strOf_map, -List.map_take, -List.map_drop, bndOk, bnd, partAV, ptrAdd, killBox, catA, inOrder, fillA, setAt, ofVal, entry, resB, upd, byteV, List.head?_take, List.head?_drop, List.getElem?_map, stepD, lookIds, Oper.looksAt, Op.operands, Call.operands, St.ids, refsL, lk, hlen, n1, n2, n3, n4, n5, n6, g0, g1, hw1, hlt, hlt1])
    repeat' apply And.intro
    all_goals try first | omega | kernel_rfl
    refine c1 _ (hK4 _ (W_region (by decide) ?_))
    repeat (rw [vcn]; try simp [optK_some, optK_none, optK_ite, optK_map, optK_bind, gOn, stepK, isMem, evPure, evMem, evBin, evUn, evConv, evLen, evBuiltin, evMinMax, evSlice, evBuild, evAppend, evIndex, evIndexAddr, evField, evFieldAddr, intBin, strBin, appDest, AS.val, AS.mem, AS.elems, AS.put, AS.put', AS.eff, AV.cells?, AV.isCell, AV.refs, all_isByte, take_byteV, drop_byteV, strOf_map, -List.map_take, -List.map_drop, bndOk, bnd, partAV, ptrAdd, killBox, catA, inOrder, fillA, setAt, ofVal, entry, resB, upd, byteV, List.head?_take, List.head?_drop, List.getElem?_map, lk, hw2])
    refine hR (i + 1) _ (fun j => if j = 500 then 33 else j) (by omega) (by omega) ⟨?_, ?_, ?_, ?_, ?_, ?_⟩
    · simp [upd, resB, ren, renL, renBox, AV.refs, refsL, Box.refs, lk, take_byteV, drop_byteV, refsL_bytes, -List.map_take, -List.map_drop, intV]
      omega
    · simp [upd, resB, ren, renL, renBox, AV.refs, refsL, Box.refs, lk, take_byteV, drop_byteV, refsL_bytes, -List.map_take, -List.map_drop, shortsOf_step i l _ _ g0 g1, intV, ren, shortI]
    · simp
    · simp [upd, resB, ren, renL, renBox, AV.refs, refsL, Box.refs, lk, take_byteV, drop_byteV, refsL_bytes, -List.map_take, -List.map_drop, intV]
    · simp [upd, resB, ren, renL, renBox, AV.refs, refsL, Box.refs, lk, take_byteV, drop_byteV, refsL_bytes, -List.map_take, -List.map_drop]
    · intro j hj
      simp
      omega
  · have hlt : l.length = 2 * i := by simp at hc; omega
    have hdiv : l.length / 2 = i := by omega
    rw [← hlt, List.take_length] at hlen
    refine W_exit (hE3 _ _ (by simp) (hRE _ _ (by simp) (b2 _ (hK _ ?_))))
    rw [← hlt, List.take_length]
    refine W_seq_k fun K hK hE => W_region (by decide) ?_
    repeat (rw [vcn]; try simp [optK_some, optK_none, optK_ite, optK_map, optK_bind, gOn, stepK, isMem, evPure, evMem, evBin, evUn, evConv, evLen, evBuiltin, evMinMax, evSlice, evBuild, evAppend, evIndex, evIndexAddr, evField, evFieldAddr, intBin, strBin, appDest, AS.val, AS.mem, AS.elems, AS.put, AS.put', AS.eff, AV.cells?, AV.isCell, AV.refs, all_isByte, take_byteV, drop_byteV, strOf_map, -List.map_take, -List.map_drop, bndOk, bnd, partAV, ptrAdd, killBox, catA, inOrder, fillA, setAt, ofVal, entry, resB, upd, byteV, List.head?_take, List.head?_drop, List.getElem?_map])
    first | refine hK _ ?_ | refine ⟨by omega, hK _ ?_⟩ | refine ⟨by simp [strOf_map, byteV, AV.isByte]; try omega, hK _ ?_⟩ | trace_state
    clear hK hE K
    refine W_frz 500 (e := 3) (l := (shortsOf l).map intV) rfl (refsL_intV _) (W_ret ?_)
    simp [post, resAV, resAll, resOne, closeV, closeC, closeL, resD, resDL, optK_some, optK_none, optK_ite, optK_map, optK_bind, gOn, stepK, isMem, evPure, evMem, evBin, evUn, evConv, evLen, evBuiltin, evMinMax, evSlice, evBuild, evAppend, evIndex, evIndexAddr, evField, evFieldAddr, intBin, strBin, appDest, AS.val, AS.mem, AS.elems, AS.put, AS.put', AS.eff, AV.cells?, AV.isCell, AV.refs, all_isByte, take_byteV, drop_byteV, strOf_map, -List.map_take, -List.map_drop, bndOk, bnd, partAV, ptrAdd, killBox, catA, inOrder, fillA, setAt, ofVal, entry, resB, upd, byteV, List.head?_take, List.head?_drop, List.getElem?_map, shortsAV, shortsL, errL, h2, intV, refsL, hdiv, hlen, take_intV]
    try rw [List.take_of_length_le (by omega)]

/-- The long of four bytes, as Longs reckons it. -/
def longI (x y z u : UInt8) : Int := IntKind.i64.wrap (IntKind.i32.wrap (bOr .u32 (bOr .u32 (bOr .u32 (shlI .u32 (IntKind.u32.wrap x.toNat) 24) (shlI .u32 (IntKind.u32.wrap y.toNat) 16)) (shlI .u32 (IntKind.u32.wrap z.toNat) 8)) (IntKind.u32.wrap u.toNat)))
def longsOf : List UInt8 → List Int
  | x :: y :: z :: u :: t => longI x y z u :: longsOf t
  | _ => []
theorem longsOf_len : ∀ (n : Nat) (l : List UInt8), l.length = 4 * n → (longsOf l).length = n
  | 0, [], _ => rfl
  | n + 1, x :: y :: z :: u :: t, h => by simp only [longsOf, List.length_cons]; rw [longsOf_len n t (by simp at h; omega)]
  | n + 1, [_, _, _], h => by simp at h; omega
  | n + 1, [_, _], h => by simp at h; omega
  | n + 1, [_], h => by simp at h; omega
  | n + 1, [], h => by simp at h
  | 0, x :: t, h => by simp at h
theorem longsOf_step : ∀ (n : Nat) (l : List UInt8) (x y z u : UInt8), l[4 * n]? = some x → l[4 * n + 1]? = some y → l[4 * n + 2]? = some z → l[4 * n + 3]? = some u → longsOf (l.take (4 * (n + 1))) = longsOf (l.take (4 * n)) ++ [longI x y z u]
  | 0, a :: b :: c :: d :: t, x, y, z, u, h1, h2, h3, h4 => by
    simp at h1 h2 h3 h4
    subst h1 h2 h3 h4
    simp [longsOf]
  | n + 1, a :: b :: c :: d :: t, x, y, z, u, h1, h2, h3, h4 => by
    have e1 : 4 * (n + 1 + 1) = 4 * (n + 1) + 1 + 1 + 1 + 1 := by omega
    have e2 : 4 * (n + 1) = 4 * n + 1 + 1 + 1 + 1 := by omega
    rw [e1, List.take_succ_cons, List.take_succ_cons, List.take_succ_cons, List.take_succ_cons]
    conv => rhs; rw [e2, List.take_succ_cons, List.take_succ_cons, List.take_succ_cons, List.take_succ_cons]
    simp only [longsOf]
    rw [longsOf_step n t x y z u (by rw [e2] at h1; simpa using h1) (by rw [e2] at h2; simpa using h2) (by rw [e2] at h3; simpa using h3) (by rw [e2] at h4; simpa using h4)]
    rfl
  | n, [], x, y, z, u, h1, h2, h3, h4 => by simp at h1
  | n, [_], x, y, z, u, h1, h2, h3, h4 => by simp at h2
  | n, [_, _], x, y, z, u, h1, h2, h3, h4 => by simp at h3
  | n, [_, _, _], x, y, z, u, h1, h2, h3, h4 => by simp at h4

def longsL (l : List UInt8) : List Int := if l.length % 4 = 0 then longsOf l else []
def longsAV (l : List UInt8) : AV := .tup [.slc false 1 (longsL l).length ((longsL l).map intV), intV (errL 4 l)]

theorem eval30 (f : Bool) (l : List UInt8) (hs : l.length ≤ 1000000) : Eval Try.prog 30 [.slc f 1 l.length (l.map byteV)] (.ret (longsAV l)) := by
  refine Eval.intro Try.func30 rfl Try.call30 _ _ (Nat.le_of_ble_eq_true rfl) (by simp [AV.refs]) fun hs0 => ?_
  have hm : ((l.length : Int).tmod 4) = ((l.length % 4 : Nat) : Int) := by rw [Int.ofNat_tmod]; rfl
  refine W_seq_k fun K hK hE => W_region (by decide) ?_
  repeat (rw [vcn]; try simp [optK_some, optK_none, optK_ite, optK_map, optK_bind, gOn, stepK, isMem, evPure, evMem, evBin, evUn, evConv, evLen, evBuiltin, evMinMax, evSlice, evBuild, evAppend, evIndex, evIndexAddr, evField, evFieldAddr, intBin, strBin, appDest, AS.val, AS.mem, AS.elems, AS.put, AS.put', AS.eff, AV.cells?, AV.isCell, AV.refs, all_isByte, take_byteV, drop_byteV, strOf_map, -List.map_take, -List.map_drop, bndOk, bnd, partAV, ptrAdd, killBox, catA, inOrder, fillA, setAt, ofVal, entry, resB, upd, byteV, List.head?_take, List.head?_drop, List.getElem?_map])
  first | refine hK _ ?_ | refine ⟨by omega, hK _ ?_⟩ | refine ⟨by simp [strOf_map, byteV, AV.isByte]; try omega, hK _ ?_⟩ | trace_state
  clear hK hE K
  refine W_seq_k fun K hK hE => ?_
  refine W_seq_k fun K hK hE => W_region (by decide) ?_
  repeat (rw [vcn]; try simp [optK_some, optK_none, optK_ite, optK_map, optK_bind, gOn, stepK, isMem, evPure, evMem, evBin, evUn, evConv, evLen, evBuiltin, evMinMax, evSlice, evBuild, evAppend, evIndex, evIndexAddr, evField, evFieldAddr, intBin, strBin, appDest, AS.val, AS.mem, AS.elems, AS.put, AS.put', AS.eff, AV.cells?, AV.isCell, AV.refs, all_isByte, take_byteV, drop_byteV, strOf_map, -List.map_take, -List.map_drop, bndOk, bnd, partAV, ptrAdd, killBox, catA, inOrder, fillA, setAt, ofVal, entry, resB, upd, byteV, List.head?_take, List.head?_drop, List.getElem?_map, hm])
  first | refine hK _ ?_ | refine ⟨by omega, hK _ ?_⟩ | refine ⟨by simp [strOf_map, byteV, AV.isByte]; try omega, hK _ ?_⟩ | trace_state
  clear hK hE K
  refine W_cond rfl (fun hc => ?_) (fun hc => ?_)
  · have h2 : ¬ l.length % 4 = 0 := by simp at hc; omega
    refine W_seq_k fun K1 hK1 _ => W_region (by decide) ?_
    repeat (rw [vcn]; try simp [optK_some, optK_none, optK_ite, optK_map, optK_bind, gOn, stepK, isMem, evPure, evMem, evBin, evUn, evConv, evLen, evBuiltin, evMinMax, evSlice, evBuild, evAppend, evIndex, evIndexAddr, evField, evFieldAddr, intBin, strBin, appDest, AS.val, AS.mem, AS.elems, AS.put, AS.put', AS.eff, AV.cells?, AV.isCell, AV.refs, all_isByte, take_byteV, drop_byteV, strOf_map, -List.map_take, -List.map_drop, bndOk, bnd, partAV, ptrAdd, killBox, catA, inOrder, fillA, setAt, ofVal, entry, resB, upd, byteV, List.head?_take, List.head?_drop, List.getElem?_map])
    refine hK1 _ (W_nil 2 700 3 1 rfl (by simp) (W_frz 700 (e := 3) (l := []) rfl rfl (W_ret (hE _ _ (by simp) ?_))))
    simp [post, resAV, resAll, resOne, closeV, closeC, closeL, resD, resDL, optK_some, optK_none, optK_ite, optK_map, optK_bind, gOn, stepK, isMem, evPure, evMem, evBin, evUn, evConv, evLen, evBuiltin, evMinMax, evSlice, evBuild, evAppend, evIndex, evIndexAddr, evField, evFieldAddr, intBin, strBin, appDest, AS.val, AS.mem, AS.elems, AS.put, AS.put', AS.eff, AV.cells?, AV.isCell, AV.refs, all_isByte, take_byteV, drop_byteV, strOf_map, -List.map_take, -List.map_drop, bndOk, bnd, partAV, ptrAdd, killBox, catA, inOrder, fillA, setAt, ofVal, entry, resB, upd, byteV, List.head?_take, List.head?_drop, List.getElem?_map, longsAV, longsL, errL, h2, intV, refsL]
  have h2 : l.length % 4 = 0 := by simp at hc; omega
  first | refine hK _ ?_ | refine ⟨by omega, hK _ ?_⟩ | refine W_skip (hK _ ?_) | trace_state
  clear hK hE K
  refine W_seq_k fun K hK hE => W_region (by decide) ?_
  repeat (rw [vcn]; try simp [optK_some, optK_none, optK_ite, optK_map, optK_bind, gOn, stepK, isMem, evPure, evMem, evBin, evUn, evConv, evLen, evBuiltin, evMinMax, evSlice, evBuild, evAppend, evIndex, evIndexAddr, evField, evFieldAddr, intBin, strBin, appDest, AS.val, AS.mem, AS.elems, AS.put, AS.put', AS.eff, AV.cells?, AV.isCell, AV.refs, all_isByte, take_byteV, drop_byteV, strOf_map, -List.map_take, -List.map_drop, bndOk, bnd, partAV, ptrAdd, killBox, catA, inOrder, fillA, setAt, ofVal, entry, resB, upd, byteV, List.head?_take, List.head?_drop, List.getElem?_map])
  first | refine hK _ ?_ | refine ⟨by omega, hK _ ?_⟩ | refine ⟨by simp [strOf_map, byteV, AV.isByte]; try omega, hK _ ?_⟩ | trace_state
  clear hK hE K
  refine W_nil 4 500 3 1 rfl (by simp) ?_
  refine W_seq_k fun K hK hE => W_seq_k fun K1 hK1 hE1 => W_region (by decide) ?_
  repeat (rw [vcn]; try simp [optK_some, optK_none, optK_ite, optK_map, optK_bind, gOn, stepK, isMem, evPure, evMem, evBin, evUn, evConv, evLen, evBuiltin, evMinMax, evSlice, evBuild, evAppend, evIndex, evIndexAddr, evField, evFieldAddr, intBin, strBin, appDest, AS.val, AS.mem, AS.elems, AS.put, AS.put', AS.eff, AV.cells?, AV.isCell, AV.refs, all_isByte, take_byteV, drop_byteV, strOf_map, -List.map_take, -List.map_drop, bndOk, bnd, partAV, ptrAdd, killBox, catA, inOrder, fillA, setAt, ofVal, entry, resB, upd, byteV, List.head?_take, List.head?_drop, List.getElem?_map])
  refine hK1 _ (W_block_k fun J b1 b2 b3 b4 b5 => ?_)
  clear hK1 hE1 K1
  refine W_loop_k (X := Nat) (fun i => [(0, .slc f 1 l.length (l.map byteV)), (3, intV 0), (4, .bs 500 1 0 i), (5, intV ((4 * i : Nat) : Int))]) (fun i => [(500, .mut 3 ((longsOf (l.take (4 * i))).map intV))])
    (fun i => l.length - 4 * i) (fun i => 4 * i ≤ l.length) 0 id (Nat.zero_le _) ⟨?_, ?_, ?_, ?_, ?_, ?_⟩ fun i hi R hR hRE => ?_
  · simp [upd, resB, ren, renL, renBox, AV.refs, refsL, Box.refs, lk, take_byteV, drop_byteV, refsL_bytes, -List.map_take, -List.map_drop, intV]
  · simp [upd, resB, ren, renL, renBox, AV.refs, refsL, Box.refs, lk, take_byteV, drop_byteV, refsL_bytes, -List.map_take, -List.map_drop, longsOf]
  · simp
  · simp [upd, resB, ren, renL, renBox, AV.refs, refsL, Box.refs, lk, take_byteV, drop_byteV, refsL_bytes, -List.map_take, -List.map_drop, intV]
  · simp [upd, resB, ren, renL, renBox, AV.refs, refsL, Box.refs, lk, take_byteV, drop_byteV, refsL_bytes, -List.map_take, -List.map_drop]
  · simp
  have hlen : (longsOf (l.take (4 * i))).length = i := longsOf_len i _ (by rw [List.length_take]; omega)
  refine W_seq_k fun K3 hK3 hE3 => W_seq_k fun K2 hK2 hE2 => W_region (by decide) ?_
  repeat (rw [vcn]; try simp [optK_some, optK_none, optK_ite, optK_map, optK_bind, gOn, stepK, isMem, evPure, evMem, evBin, evUn, evConv, evLen, evBuiltin, evMinMax, evSlice, evBuild, evAppend, evIndex, evIndexAddr, evField, evFieldAddr, intBin, strBin, appDest, AS.val, AS.mem, AS.elems, AS.put, AS.put', AS.eff, AV.cells?, AV.isCell, AV.refs, all_isByte, take_byteV, drop_byteV, strOf_map, -List.map_take, -List.map_drop, bndOk, bnd, partAV, ptrAdd, killBox, catA, inOrder, fillA, setAt, ofVal, entry, resB, upd, byteV, List.head?_take, List.head?_drop, List.getElem?_map, lk, mkS, intV])
  refine hK2 _ (W_cond rfl (fun hc => ?_) (fun hc => ?_))
  · have hlt : 4 * i < l.length := by simp at hc; omega
    have g0 : l[4 * i]? = some l[4 * i] := List.getElem?_eq_getElem hlt
    have hlt1 : 4 * i + 1 < l.length := by omega
    have g1 : l[4 * i + 1]? = some l[4 * i + 1] := List.getElem?_eq_getElem hlt1
    have hw1 : IntKind.i64.wrap (4 * (i : Int) + 1) = 4 * (i : Int) + 1 := by rw [i64_in _ (by omega)]
    have n4 : (4 * (i : Int) + 1).toNat = 4 * i + 1 := by omega
    have n5 : (0 : Int) ≤ 4 * (i : Int) + 1 := by omega
    have n6 : 4 * (i : Int) + 1 < (l.length : Int) := by omega
    have hw2 : IntKind.i64.wrap (4 * (i : Int) + 4) = 4 * (i : Int) + 4 := by rw [i64_in _ (by omega)]
    have hlt2 : 4 * i + 2 < l.length := by omega
    have hlt3 : 4 * i + 3 < l.length := by omega
    have g2 : l[4 * i + 2]? = some l[4 * i + 2] := List.getElem?_eq_getElem hlt2
    have g3 : l[4 * i + 3]? = some l[4 * i + 3] := List.getElem?_eq_getElem hlt3
    have hw3 : IntKind.i64.wrap (4 * (i : Int) + 2) = 4 * (i : Int) + 2 := by rw [i64_in _ (by omega)]
    have hw4 : IntKind.i64.wrap (4 * (i : Int) + 3) = 4 * (i : Int) + 3 := by rw [i64_in _ (by omega)]
    have m1 : (4 * (i : Int) + 2).toNat = 4 * i + 2 := by omega
    have m2 : (0 : Int) ≤ 4 * (i : Int) + 2 := by omega
    have m3 : 4 * (i : Int) + 2 < (l.length : Int) := by omega
    have m4 : (4 * (i : Int) + 3).toNat = 4 * i + 3 := by omega
    have m5 : (0 : Int) ≤ 4 * (i : Int) + 3 := by omega
    have m6 : 4 * (i : Int) + 3 < (l.length : Int) := by omega
    have n1 : (4 * (i : Int)).toNat = 4 * i := by omega
    have n2 : (0 : Int) ≤ 4 * (i : Int) := by omega
    have n3 : 4 * (i : Int) < (l.length : Int) := by omega
    refine W_skip (hK3 _ (W_seq_k fun K4 hK4 hE4 => W_block_k fun K5 c1 c2 c3 c4 c5 => ?_))
    refine W_drawn mixed (by decide) (by kernel_rfl) ?_
    repeat (rw [vcnD]; try simp [optK_some, optK_none, optK_ite, optK_map, optK_bind, gOn, stepK, isMem, evPure, evMem, evBin, evUn, evConv, evLen, evBuiltin, evMinMax, evSlice, evBuild, evAppend, evIndex, evIndexAddr, evField, evFieldAddr, intBin, strBin, appDest, AS.val, AS.mem, AS.elems, AS.put, AS.put', AS.eff, AV.cells?, AV.isCell, AV.refs, all_isByte, take_byteV, drop_byteV, strOf_map, -List.map_take, -List.map_drop, bndOk, bnd, partAV, ptrAdd, killBox, catA, inOrder, fillA, setAt, ofVal, entry, resB, upd, byteV, List.head?_take, List.head?_drop, List.getElem?_map, stepD, lookIds, Oper.looksAt, Op.operands, Call.operands, St.ids, refsL, lk, hlen, n1, n2, n3, n4, n5, n6, m1, m2, m3, m4, m5, m6, g0, g1, g2, g3, hw1, hw3, hw4, hlt, hlt1])
    repeat' apply And.intro
    all_goals try first | omega | kernel_rfl
    refine c1 _ (hK4 _ (W_region (by decide) ?_))
    repeat (rw [vcn]; try simp [optK_some, optK_none, optK_ite, optK_map, optK_bind, gOn, stepK, isMem, evPure, evMem, evBin, evUn, evConv, evLen, evBuiltin, evMinMax, evSlice, evBuild, evAppend, evIndex, evIndexAddr, evField, evFieldAddr, intBin, strBin, appDest, AS.val, AS.mem, AS.elems, AS.put, AS.put', AS.eff, AV.cells?, AV.isCell, AV.refs, all_isByte, take_byteV, drop_byteV, strOf_map, -List.map_take, -List.map_drop, bndOk, bnd, partAV, ptrAdd, killBox, catA, inOrder, fillA, setAt, ofVal, entry, resB, upd, byteV, List.head?_take, List.head?_drop, List.getElem?_map, lk, hw2])
    refine hR (i + 1) _ (fun j => if j = 500 then 49 else j) (by omega) (by omega) ⟨?_, ?_, ?_, ?_, ?_, ?_⟩
    · simp [upd, resB, ren, renL, renBox, AV.refs, refsL, Box.refs, lk, take_byteV, drop_byteV, refsL_bytes, -List.map_take, -List.map_drop, intV]
      omega
    · simp [upd, resB, ren, renL, renBox, AV.refs, refsL, Box.refs, lk, take_byteV, drop_byteV, refsL_bytes, -List.map_take, -List.map_drop, longsOf_step i l _ _ _ _ g0 g1 g2 g3, intV, ren, longI]
    · simp
    · simp [upd, resB, ren, renL, renBox, AV.refs, refsL, Box.refs, lk, take_byteV, drop_byteV, refsL_bytes, -List.map_take, -List.map_drop, intV]
    · simp [upd, resB, ren, renL, renBox, AV.refs, refsL, Box.refs, lk, take_byteV, drop_byteV, refsL_bytes, -List.map_take, -List.map_drop]
    · intro j hj
      simp
      omega
  · have hlt : l.length = 4 * i := by simp at hc; omega
    have hdiv : l.length / 4 = i := by omega
    rw [← hlt, List.take_length] at hlen
    refine W_exit (hE3 _ _ (by simp) (hRE _ _ (by simp) (b2 _ (hK _ ?_))))
    rw [← hlt, List.take_length]
    refine W_seq_k fun K hK hE => W_region (by decide) ?_
    repeat (rw [vcn]; try simp [optK_some, optK_none, optK_ite, optK_map, optK_bind, gOn, stepK, isMem, evPure, evMem, evBin, evUn, evConv, evLen, evBuiltin, evMinMax, evSlice, evBuild, evAppend, evIndex, evIndexAddr, evField, evFieldAddr, intBin, strBin, appDest, AS.val, AS.mem, AS.elems, AS.put, AS.put', AS.eff, AV.cells?, AV.isCell, AV.refs, all_isByte, take_byteV, drop_byteV, strOf_map, -List.map_take, -List.map_drop, bndOk, bnd, partAV, ptrAdd, killBox, catA, inOrder, fillA, setAt, ofVal, entry, resB, upd, byteV, List.head?_take, List.head?_drop, List.getElem?_map])
    first | refine hK _ ?_ | refine ⟨by omega, hK _ ?_⟩ | refine ⟨by simp [strOf_map, byteV, AV.isByte]; try omega, hK _ ?_⟩ | trace_state
    clear hK hE K
    refine W_frz 500 (e := 3) (l := (longsOf l).map intV) rfl (refsL_intV _) (W_ret ?_)
    simp [post, resAV, resAll, resOne, closeV, closeC, closeL, resD, resDL, optK_some, optK_none, optK_ite, optK_map, optK_bind, gOn, stepK, isMem, evPure, evMem, evBin, evUn, evConv, evLen, evBuiltin, evMinMax, evSlice, evBuild, evAppend, evIndex, evIndexAddr, evField, evFieldAddr, intBin, strBin, appDest, AS.val, AS.mem, AS.elems, AS.put, AS.put', AS.eff, AV.cells?, AV.isCell, AV.refs, all_isByte, take_byteV, drop_byteV, strOf_map, -List.map_take, -List.map_drop, bndOk, bnd, partAV, ptrAdd, killBox, catA, inOrder, fillA, setAt, ofVal, entry, resB, upd, byteV, List.head?_take, List.head?_drop, List.getElem?_map, longsAV, longsL, errL, h2, intV, refsL, hdiv, hlen, take_intV]
    try rw [List.take_of_length_le (by omega)]
end Go.Fw

import Derived.Test.YtjgbikhnnkigpaaT5
set_option linter.unusedSimpArgs false
set_option linter.unusedVariables false
namespace Go.Fw
open Go Go.Proofs Go.IntWalk
@[simp] theorem renL_bytes (ρ : Nat → Nat) (l : List UInt8) : renL ρ (l.map byteV) = l.map byteV := by
  induction l with
  | nil => rfl
  | cons a l ih => simp only [List.map_cons, renL, ih]; rfl
def intV (n : Int) : AV := .v (.int .i64 n)
@[simp] theorem renL_intV (ρ : Nat → Nat) (l : List Int) : renL ρ (l.map intV) = l.map intV := by
  induction l with
  | nil => rfl
  | cons a l ih => simp only [List.map_cons, renL, ih]; rfl
@[simp] theorem refsL_intV (l : List Int) : refsL (l.map intV) = [] := by
  induction l with
  | nil => rfl
  | cons a l ih => simpa [refsL, AV.refs, intV] using ih
theorem take_intV (l : List Int) (m : Nat) : (l.map intV).take m = (l.take m).map intV := by rw [List.map_take]
@[simp] theorem renL_append' (ρ : Nat → Nat) (l l' : List AV) : renL ρ (l ++ l') = renL ρ l ++ renL ρ l' := renL_append ρ l l'
@[simp] theorem ren_byteV (ρ : Nat → Nat) (c : UInt8) : ren ρ (byteV c) = byteV c := rfl
def lowB (n : Int) : UInt8 := UInt8.ofNat (n % 256).toNat
theorem wrap_u8 (n : Int) : AV.v (.int .u8 (IntKind.u8.wrap n)) = byteV (lowB n) := by
  unfold byteV lowB
  rw [IntKind.wrap_u8, UInt8.toNat_ofNat']
  congr 2
  omega
def shortB (n : Int) : List UInt8 := [lowB (shrI .i64 n 8), lowB n]
def longB (n : Int) : List UInt8 := [lowB (shrI .i64 n 24), lowB (shrI .i64 n 16), lowB (shrI .i64 n 8), lowB n]
theorem flat_len (g : Int → List UInt8) (k : Nat) (hg : ∀ n, (g n).length = k) (l : List Int) : (l.flatMap g).length = l.length * k := by
  induction l with
  | nil => simp
  | cons a l ih => simp only [List.flatMap_cons, List.length_append, ih, hg, List.length_cons]; rw [Nat.add_mul]; omega
set_option linter.unusedSimpArgs false
set_option maxRecDepth 100000
theorem eval32 (f : Bool) (l : List Int) (hs : l.length ≤ 1000000) : Eval Try.prog 32 [.slc f 1 l.length (l.map intV)] (.ret (.own 5 1 (l.length * 2) ((l.flatMap shortB).map byteV))) := by
  refine Eval.intro Try.func32 rfl Try.call32 _ _ (Nat.le_of_ble_eq_true rfl) (by simp [AV.refs]) fun hs0 => ?_
  refine W_seq_k fun K hK hE => W_region (by decide) ?_
  repeat (rw [vcn]; try simp [optK_some, optK_none, optK_ite, optK_map, optK_bind, gOn, stepK, isMem, evPure, evMem, evBin, evUn, evConv, evLen, evBuiltin, evMinMax, evSlice, evBuild, evAppend, evIndex, evIndexAddr, evField, evFieldAddr, intBin, strBin, appDest, AS.val, AS.mem, AS.elems, AS.put, AS.put', AS.eff, AV.cells?, AV.isCell, AV.refs, all_isByte, take_byteV, drop_byteV, strOf_map, -List.map_take, -List.map_drop, bndOk, bnd, partAV, ptrAdd, killBox, catA, inOrder, fillA, setAt, ofVal, entry, resB, upd, byteV, List.head?_take, List.head?_drop, List.getElem?_map])
  first | refine hK _ ?_ | refine ⟨by omega, hK _ ?_⟩ | refine ⟨by simp [strOf_map, byteV, AV.isByte]; try omega, hK _ ?_⟩ | trace_state
  clear hK hE K
  refine W_seq_k fun K hK hE => W_region (by decide) ?_
  repeat (rw [vcn]; try simp [optK_some, optK_none, optK_ite, optK_map, optK_bind, gOn, stepK, isMem, evPure, evMem, evBin, evUn, evConv, evLen, evBuiltin, evMinMax, evSlice, evBuild, evAppend, evIndex, evIndexAddr, evField, evFieldAddr, intBin, strBin, appDest, AS.val, AS.mem, AS.elems, AS.put, AS.put', AS.eff, AV.cells?, AV.isCell, AV.refs, all_isByte, take_byteV, drop_byteV, strOf_map, -List.map_take, -List.map_drop, bndOk, bnd, partAV, ptrAdd, killBox, catA, inOrder, fillA, setAt, ofVal, entry, resB, upd, byteV, List.head?_take, List.head?_drop, List.getElem?_map])
  first | refine hK _ ?_ | refine ⟨by omega, hK _ ?_⟩ | refine ⟨by simp [strOf_map, byteV, AV.isByte]; try omega, hK _ ?_⟩ | trace_state
  clear hK hE K
  refine W_nil 3 500 5 1 rfl (by simp) ?_
  refine W_seq_k fun K hK hE => W_seq_k fun K1 hK1 hE1 => W_region (by decide) ?_
  repeat (rw [vcn]; try simp [optK_some, optK_none, optK_ite, optK_map, optK_bind, gOn, stepK, isMem, evPure, evMem, evBin, evUn, evConv, evLen, evBuiltin, evMinMax, evSlice, evBuild, evAppend, evIndex, evIndexAddr, evField, evFieldAddr, intBin, strBin, appDest, AS.val, AS.mem, AS.elems, AS.put, AS.put', AS.eff, AV.cells?, AV.isCell, AV.refs, all_isByte, take_byteV, drop_byteV, strOf_map, -List.map_take, -List.map_drop, bndOk, bnd, partAV, ptrAdd, killBox, catA, inOrder, fillA, setAt, ofVal, entry, resB, upd, byteV, List.head?_take, List.head?_drop, List.getElem?_map])
  refine hK1 _ (W_block_k fun J b1 b2 b3 b4 b5 => ?_)
  clear hK1 hE1 K1
  refine W_loop_k (X := Nat) (fun i => [(3, .bs 500 1 0 (i * 2)), (6, .slc f 1 l.length (l.map intV)), (7, intV l.length), (8, intV i)]) (fun i => [(500, .mut 5 (((l.take i).flatMap shortB).map byteV))])
    (fun i => l.length - i) (fun i => i ≤ l.length) 0 id (Nat.zero_le _) ⟨?_, ?_, ?_, ?_, ?_, ?_⟩ fun i hi R hR hRE => ?_
  · simp [upd, resB, ren, renL, renBox, AV.refs, refsL, Box.refs, lk, take_byteV, drop_byteV, refsL_bytes, -List.map_take, -List.map_drop, intV]
  · simp [upd, resB, ren, renL, renBox, AV.refs, refsL, Box.refs, lk, take_byteV, drop_byteV, refsL_bytes, -List.map_take, -List.map_drop]
  · simp
  · simp [upd, resB, ren, renL, renBox, AV.refs, refsL, Box.refs, lk, take_byteV, drop_byteV, refsL_bytes, -List.map_take, -List.map_drop, intV]
  · simp [upd, resB, ren, renL, renBox, AV.refs, refsL, Box.refs, lk, take_byteV, drop_byteV, refsL_bytes, -List.map_take, -List.map_drop]
  · simp
  have hlen : (((l.take i).flatMap shortB)).length = i * 2 := by rw [flat_len _ 2 (fun _ => rfl), List.length_take]; congr 1; omega
  refine W_seq_k fun K2 hK2 hE2 => W_region (by decide) ?_
  repeat (rw [vcn]; try simp [optK_some, optK_none, optK_ite, optK_map, optK_bind, gOn, stepK, isMem, evPure, evMem, evBin, evUn, evConv, evLen, evBuiltin, evMinMax, evSlice, evBuild, evAppend, evIndex, evIndexAddr, evField, evFieldAddr, intBin, strBin, appDest, AS.val, AS.mem, AS.elems, AS.put, AS.put', AS.eff, AV.cells?, AV.isCell, AV.refs, all_isByte, take_byteV, drop_byteV, strOf_map, -List.map_take, -List.map_drop, bndOk, bnd, partAV, ptrAdd, killBox, catA, inOrder, fillA, setAt, ofVal, entry, resB, upd, byteV, List.head?_take, List.head?_drop, List.getElem?_map, lk, mkS, intV])
  refine hK2 _ (W_seq_k fun K3 hK3 hE3 => W_cond rfl (fun hc => ?_) (fun hc => ?_))
  · have hlt : i < l.length := by simp at hc; omega
    have hgi : l[i]? = some l[i] := List.getElem?_eq_getElem hlt
    refine W_skip (hK3 _ (W_seq_k fun K4 hK4 hE4 => W_block_k fun K5 c1 c2 c3 c4 c5 => ?_))
    refine W_seq_k fun K6 hK6 hE6 => W_region (by decide) ?_
    repeat (rw [vcn]; try simp [optK_some, optK_none, optK_ite, optK_map, optK_bind, gOn, stepK, isMem, evPure, evMem, evBin, evUn, evConv, evLen, evBuiltin, evMinMax, evSlice, evBuild, evAppend, evIndex, evIndexAddr, evField, evFieldAddr, intBin, strBin, appDest, AS.val, AS.mem, AS.elems, AS.put, AS.put', AS.eff, AV.cells?, AV.isCell, AV.refs, all_isByte, take_byteV, drop_byteV, strOf_map, -List.map_take, -List.map_drop, bndOk, bnd, partAV, ptrAdd, killBox, catA, inOrder, fillA, setAt, ofVal, entry, resB, upd, byteV, List.head?_take, List.head?_drop, List.getElem?_map, lk, hlt, hgi, intV])
    refine hK6 _ (W_region (by decide) ?_)
    repeat (rw [vcn]; try simp [optK_some, optK_none, optK_ite, optK_map, optK_bind, gOn, stepK, isMem, evPure, evMem, evBin, evUn, evConv, evLen, evBuiltin, evMinMax, evSlice, evBuild, evAppend, evIndex, evIndexAddr, evField, evFieldAddr, intBin, strBin, appDest, AS.val, AS.mem, AS.elems, AS.put, AS.put', AS.eff, AV.cells?, AV.isCell, AV.refs, all_isByte, take_byteV, drop_byteV, strOf_map, -List.map_take, -List.map_drop, bndOk, bnd, partAV, ptrAdd, killBox, catA, inOrder, fillA, setAt, ofVal, entry, resB, upd, byteV, List.head?_take, List.head?_drop, List.getElem?_map, lk, hlen])
    have hwi : IntKind.i64.wrap ((i : Int) + 1) = ((i + 1 : Nat) : Int) := by rw [i64_in _ (by omega)]; omega
    have hstep : (l.take (i + 1)).flatMap shortB = (l.take i).flatMap shortB ++ shortB l[i] := by
      rw [List.take_add_one, hgi, List.flatMap_append]
      simp only [Option.toList, List.flatMap_cons, List.flatMap_nil, List.append_nil]
    refine ⟨by omega, c1 _ (hK4 _ (W_region (by decide) ?_))⟩
    repeat (rw [vcn]; try simp [optK_some, optK_none, optK_ite, optK_map, optK_bind, gOn, stepK, isMem, evPure, evMem, evBin, evUn, evConv, evLen, evBuiltin, evMinMax, evSlice, evBuild, evAppend, evIndex, evIndexAddr, evField, evFieldAddr, intBin, strBin, appDest, AS.val, AS.mem, AS.elems, AS.put, AS.put', AS.eff, AV.cells?, AV.isCell, AV.refs, all_isByte, take_byteV, drop_byteV, strOf_map, -List.map_take, -List.map_drop, bndOk, bnd, partAV, ptrAdd, killBox, catA, inOrder, fillA, setAt, ofVal, entry, resB, upd, byteV, List.head?_take, List.head?_drop, List.getElem?_map, lk, hwi])
    refine hR (i + 1) _ (fun j => if j = 500 then 19 else j) (by omega) (by omega) ⟨?_, ?_, ?_, ?_, ?_, ?_⟩
    · simp [upd, resB, ren, renL, renBox, AV.refs, refsL, Box.refs, lk, take_byteV, drop_byteV, refsL_bytes, -List.map_take, -List.map_drop, intV]
      omega
    · simp [upd, resB, ren, renL, renBox, AV.refs, refsL, Box.refs, lk, take_byteV, drop_byteV, refsL_bytes, -List.map_take, -List.map_drop, hstep, shortB, wrap_u8]
    · simp
    · simp [upd, resB, ren, renL, renBox, AV.refs, refsL, Box.refs, lk, take_byteV, drop_byteV, refsL_bytes, -List.map_take, -List.map_drop, intV]
    · simp [upd, resB, ren, renL, renBox, AV.refs, refsL, Box.refs, lk, take_byteV, drop_byteV, refsL_bytes, -List.map_take, -List.map_drop]
    · intro j hj
      simp
      omega
  · have hlt : i = l.length := by simp at hc; omega
    subst hlt
    rw [List.take_length] at hlen
    refine W_exit (hE3 _ _ (by simp) (hRE _ _ (by simp) (b2 _ (hK _ ?_))))
    refine W_seq_k fun K hK hE => W_region (by decide) ?_
    repeat (rw [vcn]; try simp [optK_some, optK_none, optK_ite, optK_map, optK_bind, gOn, stepK, isMem, evPure, evMem, evBin, evUn, evConv, evLen, evBuiltin, evMinMax, evSlice, evBuild, evAppend, evIndex, evIndexAddr, evField, evFieldAddr, intBin, strBin, appDest, AS.val, AS.mem, AS.elems, AS.put, AS.put', AS.eff, AV.cells?, AV.isCell, AV.refs, all_isByte, take_byteV, drop_byteV, strOf_map, -List.map_take, -List.map_drop, bndOk, bnd, partAV, ptrAdd, killBox, catA, inOrder, fillA, setAt, ofVal, entry, resB, upd, byteV, List.head?_take, List.head?_drop, List.getElem?_map])
    first | refine hK _ ?_ | refine ⟨by omega, hK _ ?_⟩ | refine ⟨by simp [strOf_map, byteV, AV.isByte]; try omega, hK _ ?_⟩ | trace_state
    clear hK hE K
    refine W_ret ?_
    simp [post, resAV, resAll, resOne, closeV, closeC, closeL, resD, resDL, optK_some, optK_none, optK_ite, optK_map, optK_bind, gOn, stepK, isMem, evPure, evMem, evBin, evUn, evConv, evLen, evBuiltin, evMinMax, evSlice, evBuild, evAppend, evIndex, evIndexAddr, evField, evFieldAddr, intBin, strBin, appDest, AS.val, AS.mem, AS.elems, AS.put, AS.put', AS.eff, AV.cells?, AV.isCell, AV.refs, all_isByte, take_byteV, drop_byteV, strOf_map, -List.map_take, -List.map_drop, bndOk, bnd, partAV, ptrAdd, killBox, catA, inOrder, fillA, setAt, ofVal, entry, resB, upd, byteV, List.head?_take, List.head?_drop, List.getElem?_map, hlen, -List.length_flatMap]
theorem wrap_u64' (n : Int) : IntKind.u64.wrap n = n % 18446744073709551616 := by simp [IntKind.wrap, IntKind.bits, IntKind.signed]
def refB (n : Int) (size j : Nat) : List UInt8 := (List.range' j (size - j)).reverse.map fun (i : Nat) => lowB (shrI .u64 (IntKind.u64.wrap n) (8 * (i : Int)))
end Go.Fw

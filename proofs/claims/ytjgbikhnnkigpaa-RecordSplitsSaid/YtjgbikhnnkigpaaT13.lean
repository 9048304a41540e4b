import Derived.Test.YtjgbikhnnkigpaaT11
set_option linter.unusedSimpArgs false
set_option linter.unusedVariables false
namespace Go.Fw
open Go Go.Proofs Go.IntWalk Go.RowKit
set_option linter.unusedSimpArgs false
set_option maxRecDepth 100000
def letterB (c : UInt8) : Bool := (65 ≤ c.toNat && c.toNat ≤ 90) || (97 ≤ c.toNat && c.toNat ≤ 122) || (48 ≤ c.toNat && c.toNat ≤ 57) || c.toNat == 95 || c.toNat == 63 || c.toNat == 36
theorem idx3 (c : UInt8) : decide ((0 : Int) ≤ firstIdx ⟨#[95, 63, 36]⟩ c) = (c.toNat == 95 || c.toNat == 63 || c.toNat == 36) := by
  have e : firstIdx ⟨#[95, 63, 36]⟩ c = if (95 : UInt8) == c then 0 else if (63 : UInt8) == c then 1 else if (36 : UInt8) == c then 2 else -1 := by
    unfold firstIdx
    rw [show (ByteArray.mk #[95, 63, 36]).size = 3 from rfl, show List.range 3 = [0, 1, 2] from rfl]
    simp only [List.find?_cons, List.find?_nil]
    rw [show (ByteArray.mk #[95, 63, 36])[0]! = 95 from rfl, show (ByteArray.mk #[95, 63, 36])[1]! = 63 from rfl, show (ByteArray.mk #[95, 63, 36])[2]! = 36 from rfl]
    cases h1 : ((95 : UInt8) == c) <;> cases h2 : ((63 : UInt8) == c) <;> cases h3 : ((36 : UInt8) == c) <;> rfl
  have key : ∀ d : UInt8, (d == c) = (c.toNat == d.toNat) := by
    intro d
    by_cases h : d = c
    · rw [h]; simp
    · have h1 : c.toNat ≠ d.toNat := fun e => h (UInt8.toNat_inj.1 e.symm)
      rw [beq_eq_false_iff_ne.2 h, beq_eq_false_iff_ne.2 h1]
  rw [e, key, key, key]
  simp only [show (95 : UInt8).toNat = 95 from rfl, show (63 : UInt8).toNat = 63 from rfl, show (36 : UInt8).toNat = 36 from rfl]
  split
  · rename_i h; simp [h]
  · rename_i h
    split
    · rename_i h2; simp [h2]
    · rename_i h2
      split
      · rename_i h3; simp [h3]
      · rename_i h3; simp_all
theorem eval53 (c : UInt8) : Eval Try.prog 53 [byteV c] (.ret (.v (.bool (letterB c)))) := by
  refine Eval.intro Try.func53 rfl Try.call53 _ _ (Nat.le_of_ble_eq_true rfl) (by simp [AV.refs, refsL, byteV]) fun hs0 => ?_
  have hc : c.toNat < 256 := c.toNat_lt
  have hi := idx3 c
  refine W_seq_k fun K hK hE => W_region (by decide) ?_
  repeat (rw [vcn]; try simp [optK_some, optK_none, optK_ite, optK_map, optK_bind, gOn, stepK, isMem, evPure, evMem, evBin, evUn, evConv, evLen, evBuiltin, evMinMax, evSlice, evBuild, evAppend, evIndex, evIndexAddr, evField, evFieldAddr, intBin, strBin, appDest, AS.val, AS.mem, AS.elems, AS.put, AS.put', AS.eff, AV.cells?, AV.isCell, AV.refs, all_isByte, take_byteV, drop_byteV, strOf_map, -List.map_take, -List.map_drop, bndOk, bnd, partAV, ptrAdd, killBox, catA, inOrder, fillA, setAt, ofVal, entry, resB, upd, byteV, List.head?_take, List.head?_drop, List.getElem?_map])
  first | refine hK _ ?_ | refine ⟨by omega, hK _ ?_⟩ | refine ⟨by simp [strOf_map, byteV, AV.isByte]; try omega, hK _ ?_⟩ | trace_state
  clear hK hE K
  refine W_seq_k fun K hK hE => W_region (by decide) ?_
  have hcase : c.toNat < 48 ∨ (48 ≤ c.toNat ∧ c.toNat ≤ 57) ∨ (58 ≤ c.toNat ∧ c.toNat ≤ 64) ∨ (65 ≤ c.toNat ∧ c.toNat ≤ 90) ∨ (91 ≤ c.toNat ∧ c.toNat ≤ 96) ∨ (97 ≤ c.toNat ∧ c.toNat ≤ 122) ∨ 123 ≤ c.toNat := by omega
  have tail : ∀ s', s'.env 2 = .v (.bool (letterB c)) → W Try.prog Try.f53.ntmps Code.ret s' (post Try.prog Try.f53 (.ret (.v (.bool (letterB c))))) := by
    intro s' h
    refine W_ret ?_
    simp [post, resAV, resAll, resOne, closeV, closeC, closeL, resD, resDL, optK_some, optK_none, optK_ite, optK_map, optK_bind, gOn, stepK, isMem, evPure, evMem, evBin, evUn, evConv, evLen, evBuiltin, evMinMax, evSlice, evBuild, evAppend, evIndex, evIndexAddr, evField, evFieldAddr, intBin, strBin, appDest, AS.val, AS.mem, AS.elems, AS.put, AS.put', AS.eff, AV.cells?, AV.isCell, AV.refs, all_isByte, take_byteV, drop_byteV, strOf_map, -List.map_take, -List.map_drop, bndOk, bnd, partAV, ptrAdd, killBox, catA, inOrder, fillA, setAt, ofVal, entry, resB, upd, byteV, List.head?_take, List.head?_drop, List.getElem?_map, h]
  rcases hcase with h | h | h | h | h | h | h
  · have a0 : ¬ (48 ≤ (c.toNat : Int)) := by omega
    have a1 : ((c.toNat : Int) ≤ 57) := by omega
    have a2 : ¬ (65 ≤ (c.toNat : Int)) := by omega
    have a3 : ((c.toNat : Int) ≤ 90) := by omega
    have a4 : ¬ (97 ≤ (c.toNat : Int)) := by omega
    have a5 : ((c.toNat : Int) ≤ 122) := by omega
    repeat (rw [vcn]; try simp [optK_some, optK_none, optK_ite, optK_map, optK_bind, gOn, stepK, isMem, evPure, evMem, evBin, evUn, evConv, evLen, evBuiltin, evMinMax, evSlice, evBuild, evAppend, evIndex, evIndexAddr, evField, evFieldAddr, intBin, strBin, appDest, AS.val, AS.mem, AS.elems, AS.put, AS.put', AS.eff, AV.cells?, AV.isCell, AV.refs, all_isByte, take_byteV, drop_byteV, strOf_map, -List.map_take, -List.map_drop, bndOk, bnd, partAV, ptrAdd, killBox, catA, inOrder, fillA, setAt, ofVal, entry, resB, upd, byteV, List.head?_take, List.head?_drop, List.getElem?_map, a0, a1, a2, a3, a4, a5])
    refine CallG_plain (eval67 ⟨#[95, 63, 36]⟩ c) (by simp [AV.refs, refsL]) rfl ?_
    dsimp only
    repeat (rw [vcn]; try simp [optK_some, optK_none, optK_ite, optK_map, optK_bind, gOn, stepK, isMem, evPure, evMem, evBin, evUn, evConv, evLen, evBuiltin, evMinMax, evSlice, evBuild, evAppend, evIndex, evIndexAddr, evField, evFieldAddr, intBin, strBin, appDest, AS.val, AS.mem, AS.elems, AS.put, AS.put', AS.eff, AV.cells?, AV.isCell, AV.refs, all_isByte, take_byteV, drop_byteV, strOf_map, -List.map_take, -List.map_drop, bndOk, bnd, partAV, ptrAdd, killBox, catA, inOrder, fillA, setAt, ofVal, entry, resB, upd, byteV, List.head?_take, List.head?_drop, List.getElem?_map, i64V])
    refine hK _ (tail _ ?_)
    simp [upd, letterB]
    first
      | omega
      | (rw [hi, Bool.eq_iff_iff]; simp; omega)
  · have a0 : (48 ≤ (c.toNat : Int)) := by omega
    have a1 : ((c.toNat : Int) ≤ 57) := by omega
    have a2 : ¬ (65 ≤ (c.toNat : Int)) := by omega
    have a3 : ((c.toNat : Int) ≤ 90) := by omega
    have a4 : ¬ (97 ≤ (c.toNat : Int)) := by omega
    have a5 : ((c.toNat : Int) ≤ 122) := by omega
    repeat (rw [vcn]; try simp [optK_some, optK_none, optK_ite, optK_map, optK_bind, gOn, stepK, isMem, evPure, evMem, evBin, evUn, evConv, evLen, evBuiltin, evMinMax, evSlice, evBuild, evAppend, evIndex, evIndexAddr, evField, evFieldAddr, intBin, strBin, appDest, AS.val, AS.mem, AS.elems, AS.put, AS.put', AS.eff, AV.cells?, AV.isCell, AV.refs, all_isByte, take_byteV, drop_byteV, strOf_map, -List.map_take, -List.map_drop, bndOk, bnd, partAV, ptrAdd, killBox, catA, inOrder, fillA, setAt, ofVal, entry, resB, upd, byteV, List.head?_take, List.head?_drop, List.getElem?_map, a0, a1, a2, a3, a4, a5])
    refine hK _ (tail _ ?_)
    simp [upd, letterB]
    first
      | omega
      | (rw [hi, Bool.eq_iff_iff]; simp; omega)
  · have a0 : (48 ≤ (c.toNat : Int)) := by omega
    have a1 : ¬ ((c.toNat : Int) ≤ 57) := by omega
    have a2 : ¬ (65 ≤ (c.toNat : Int)) := by omega
    have a3 : ((c.toNat : Int) ≤ 90) := by omega
    have a4 : ¬ (97 ≤ (c.toNat : Int)) := by omega
    have a5 : ((c.toNat : Int) ≤ 122) := by omega
    repeat (rw [vcn]; try simp [optK_some, optK_none, optK_ite, optK_map, optK_bind, gOn, stepK, isMem, evPure, evMem, evBin, evUn, evConv, evLen, evBuiltin, evMinMax, evSlice, evBuild, evAppend, evIndex, evIndexAddr, evField, evFieldAddr, intBin, strBin, appDest, AS.val, AS.mem, AS.elems, AS.put, AS.put', AS.eff, AV.cells?, AV.isCell, AV.refs, all_isByte, take_byteV, drop_byteV, strOf_map, -List.map_take, -List.map_drop, bndOk, bnd, partAV, ptrAdd, killBox, catA, inOrder, fillA, setAt, ofVal, entry, resB, upd, byteV, List.head?_take, List.head?_drop, List.getElem?_map, a0, a1, a2, a3, a4, a5])
    refine CallG_plain (eval67 ⟨#[95, 63, 36]⟩ c) (by simp [AV.refs, refsL]) rfl ?_
    dsimp only
    repeat (rw [vcn]; try simp [optK_some, optK_none, optK_ite, optK_map, optK_bind, gOn, stepK, isMem, evPure, evMem, evBin, evUn, evConv, evLen, evBuiltin, evMinMax, evSlice, evBuild, evAppend, evIndex, evIndexAddr, evField, evFieldAddr, intBin, strBin, appDest, AS.val, AS.mem, AS.elems, AS.put, AS.put', AS.eff, AV.cells?, AV.isCell, AV.refs, all_isByte, take_byteV, drop_byteV, strOf_map, -List.map_take, -List.map_drop, bndOk, bnd, partAV, ptrAdd, killBox, catA, inOrder, fillA, setAt, ofVal, entry, resB, upd, byteV, List.head?_take, List.head?_drop, List.getElem?_map, i64V])
    refine hK _ (tail _ ?_)
    simp [upd, letterB]
    first
      | omega
      | (rw [hi, Bool.eq_iff_iff]; simp; omega)
  · have a0 : (48 ≤ (c.toNat : Int)) := by omega
    have a1 : ¬ ((c.toNat : Int) ≤ 57) := by omega
    have a2 : (65 ≤ (c.toNat : Int)) := by omega
    have a3 : ((c.toNat : Int) ≤ 90) := by omega
    have a4 : ¬ (97 ≤ (c.toNat : Int)) := by omega
    have a5 : ((c.toNat : Int) ≤ 122) := by omega
    repeat (rw [vcn]; try simp [optK_some, optK_none, optK_ite, optK_map, optK_bind, gOn, stepK, isMem, evPure, evMem, evBin, evUn, evConv, evLen, evBuiltin, evMinMax, evSlice, evBuild, evAppend, evIndex, evIndexAddr, evField, evFieldAddr, intBin, strBin, appDest, AS.val, AS.mem, AS.elems, AS.put, AS.put', AS.eff, AV.cells?, AV.isCell, AV.refs, all_isByte, take_byteV, drop_byteV, strOf_map, -List.map_take, -List.map_drop, bndOk, bnd, partAV, ptrAdd, killBox, catA, inOrder, fillA, setAt, ofVal, entry, resB, upd, byteV, List.head?_take, List.head?_drop, List.getElem?_map, a0, a1, a2, a3, a4, a5])
    refine hK _ (tail _ ?_)
    simp [upd, letterB]
    first
      | omega
      | (rw [hi, Bool.eq_iff_iff]; simp; omega)
  · have a0 : (48 ≤ (c.toNat : Int)) := by omega
    have a1 : ¬ ((c.toNat : Int) ≤ 57) := by omega
    have a2 : (65 ≤ (c.toNat : Int)) := by omega
    have a3 : ¬ ((c.toNat : Int) ≤ 90) := by omega
    have a4 : ¬ (97 ≤ (c.toNat : Int)) := by omega
    have a5 : ((c.toNat : Int) ≤ 122) := by omega
    repeat (rw [vcn]; try simp [optK_some, optK_none, optK_ite, optK_map, optK_bind, gOn, stepK, isMem, evPure, evMem, evBin, evUn, evConv, evLen, evBuiltin, evMinMax, evSlice, evBuild, evAppend, evIndex, evIndexAddr, evField, evFieldAddr, intBin, strBin, appDest, AS.val, AS.mem, AS.elems, AS.put, AS.put', AS.eff, AV.cells?, AV.isCell, AV.refs, all_isByte, take_byteV, drop_byteV, strOf_map, -List.map_take, -List.map_drop, bndOk, bnd, partAV, ptrAdd, killBox, catA, inOrder, fillA, setAt, ofVal, entry, resB, upd, byteV, List.head?_take, List.head?_drop, List.getElem?_map, a0, a1, a2, a3, a4, a5])
    refine CallG_plain (eval67 ⟨#[95, 63, 36]⟩ c) (by simp [AV.refs, refsL]) rfl ?_
    dsimp only
    repeat (rw [vcn]; try simp [optK_some, optK_none, optK_ite, optK_map, optK_bind, gOn, stepK, isMem, evPure, evMem, evBin, evUn, evConv, evLen, evBuiltin, evMinMax, evSlice, evBuild, evAppend, evIndex, evIndexAddr, evField, evFieldAddr, intBin, strBin, appDest, AS.val, AS.mem, AS.elems, AS.put, AS.put', AS.eff, AV.cells?, AV.isCell, AV.refs, all_isByte, take_byteV, drop_byteV, strOf_map, -List.map_take, -List.map_drop, bndOk, bnd, partAV, ptrAdd, killBox, catA, inOrder, fillA, setAt, ofVal, entry, resB, upd, byteV, List.head?_take, List.head?_drop, List.getElem?_map, i64V])
    refine hK _ (tail _ ?_)
    simp [upd, letterB]
    first
      | omega
      | (rw [hi, Bool.eq_iff_iff]; simp; omega)
  · have a0 : (48 ≤ (c.toNat : Int)) := by omega
    have a1 : ¬ ((c.toNat : Int) ≤ 57) := by omega
    have a2 : (65 ≤ (c.toNat : Int)) := by omega
    have a3 : ¬ ((c.toNat : Int) ≤ 90) := by omega
    have a4 : (97 ≤ (c.toNat : Int)) := by omega
    have a5 : ((c.toNat : Int) ≤ 122) := by omega
    repeat (rw [vcn]; try simp [optK_some, optK_none, optK_ite, optK_map, optK_bind, gOn, stepK, isMem, evPure, evMem, evBin, evUn, evConv, evLen, evBuiltin, evMinMax, evSlice, evBuild, evAppend, evIndex, evIndexAddr, evField, evFieldAddr, intBin, strBin, appDest, AS.val, AS.mem, AS.elems, AS.put, AS.put', AS.eff, AV.cells?, AV.isCell, AV.refs, all_isByte, take_byteV, drop_byteV, strOf_map, -List.map_take, -List.map_drop, bndOk, bnd, partAV, ptrAdd, killBox, catA, inOrder, fillA, setAt, ofVal, entry, resB, upd, byteV, List.head?_take, List.head?_drop, List.getElem?_map, a0, a1, a2, a3, a4, a5])
    refine hK _ (tail _ ?_)
    simp [upd, letterB]
    first
      | omega
      | (rw [hi, Bool.eq_iff_iff]; simp; omega)
  · have a0 : (48 ≤ (c.toNat : Int)) := by omega
    have a1 : ¬ ((c.toNat : Int) ≤ 57) := by omega
    have a2 : (65 ≤ (c.toNat : Int)) := by omega
    have a3 : ¬ ((c.toNat : Int) ≤ 90) := by omega
    have a4 : (97 ≤ (c.toNat : Int)) := by omega
    have a5 : ¬ ((c.toNat : Int) ≤ 122) := by omega
    repeat (rw [vcn]; try simp [optK_some, optK_none, optK_ite, optK_map, optK_bind, gOn, stepK, isMem, evPure, evMem, evBin, evUn, evConv, evLen, evBuiltin, evMinMax, evSlice, evBuild, evAppend, evIndex, evIndexAddr, evField, evFieldAddr, intBin, strBin, appDest, AS.val, AS.mem, AS.elems, AS.put, AS.put', AS.eff, AV.cells?, AV.isCell, AV.refs, all_isByte, take_byteV, drop_byteV, strOf_map, -List.map_take, -List.map_drop, bndOk, bnd, partAV, ptrAdd, killBox, catA, inOrder, fillA, setAt, ofVal, entry, resB, upd, byteV, List.head?_take, List.head?_drop, List.getElem?_map, a0, a1, a2, a3, a4, a5])
    refine CallG_plain (eval67 ⟨#[95, 63, 36]⟩ c) (by simp [AV.refs, refsL]) rfl ?_
    dsimp only
    repeat (rw [vcn]; try simp [optK_some, optK_none, optK_ite, optK_map, optK_bind, gOn, stepK, isMem, evPure, evMem, evBin, evUn, evConv, evLen, evBuiltin, evMinMax, evSlice, evBuild, evAppend, evIndex, evIndexAddr, evField, evFieldAddr, intBin, strBin, appDest, AS.val, AS.mem, AS.elems, AS.put, AS.put', AS.eff, AV.cells?, AV.isCell, AV.refs, all_isByte, take_byteV, drop_byteV, strOf_map, -List.map_take, -List.map_drop, bndOk, bnd, partAV, ptrAdd, killBox, catA, inOrder, fillA, setAt, ofVal, entry, resB, upd, byteV, List.head?_take, List.head?_drop, List.getElem?_map, i64V])
    refine hK _ (tail _ ?_)
    simp [upd, letterB]
    first
      | omega
      | (rw [hi, Bool.eq_iff_iff]; simp; omega)
end Go.Fw

import Derived.Test.YtjgbikhnnkigpaaT11
set_option linter.unusedSimpArgs false
set_option linter.unusedVariables false
namespace Go.Fw
open Go Go.Proofs Go.IntWalk Go.RowKit
set_option linter.unusedSimpArgs false
set_option maxRecDepth 100000
def letterB (c : UInt8) : Bool := (65 ≤ c.toNat && c.toNat ≤ 90) || (97 ≤ c.toNat && c.toNat ≤ 122) || (48 ≤ c.toNat && c.toNat ≤ 57) || c.toNat == 95 || c.toNat == 63 || c.toNat == 36
theorem idx3 (c : UInt8) : decide ((0 : Int) ≤ firstIdx ⟨#[95, 63, 36]⟩ c) = (c.toNat == 95 || c.toNat == 63 || c.toNat == 36) := by
  have e : firstIdx ⟨#[95, 63, 36]⟩ c = if (95 : UInt8) == c then 0 else if (63 : UInt8) == c then 1 else if (36 : UInt8) == c then 2 else -1 := by
    unfold firstIdx
    rw [show (ByteArray.mk #[95, 63, 36]).size = 3 from rfl, show List.range 3 = [0, 1, 2] from rfl]
    simp only [List.find?_cons, List.find?_nil]
    rw [show (ByteArray.mk #[95, 63, 36])[0]! = 95 from rfl, show (ByteArray.mk #[95, 63, 36])[1]! = 63 from rfl, show (ByteArray.mk #[95, 63, 36])[2]! = 36 from rfl]
    cases h1 : ((95 : UInt8) == c) <;> cases h2 : ((63 : UInt8) == c) <;> cases h3 : ((36 : UInt8) == c) <;> rfl
  have key : ∀ d : UInt8, (d == c) = (c.toNat == d.toNat) := by
    intro d
    by_cases h : d = c
    · rw [h]; simp
    · have h1 : c.toNat ≠ d.toNat := fun e => h (UInt8.toNat_inj.1 e.symm)
      rw [beq_eq_false_iff_ne.2 h, beq_eq_false_iff_ne.2 h1]
  rw [e, key, key, key]
  simp only [show (95 : UInt8).toNat = 95 from rfl, show (63 : UInt8).toNat = 63 from rfl, show (36 : UInt8).toNat = 36 from rfl]
  split
  · rename_i h; simp [h]
  · rename_i h
    split
    · rename_i h2; simp [h2]
    · rename_i h2
      split
      · rename_i h3; simp [h3]
      · rename_i h3; simp_all
theorem eval53 (c : UInt8) : Eval Try.prog 53 [byteV c] (.ret (.v (.bool (letterB c)))) := by
  refine Eval.intro Try.func53 rfl Try.call53 _ _ (Nat.le_of_ble_eq_true rfl) (by simp [AV.refs, refsL, byteV]) fun hs0 => ?_
  have hc : c.toNat < 256 := c.toNat_lt
  have hi := idx3 c
  refine W_seq_k fun K hK hE => W_region (by decide) ?_
  repeat (rw [vcn]; try simp [optK_some, optK_none, optK_ite, optK_map, optK_bind, gOn, stepK, isMem, evPure, evMem, evBin, evUn, evConv, evLen, evBuiltin, evMinMax, evSlice, evBuild, evAppend, evIndex, evIndexAddr, evField, evFieldAddr, intBin, strBin, appDest, AS.val, AS.mem, AS.elems, AS.put, AS.put', AS.eff, AV.cells?, AV.isCell, AV.refs, all_isByte, take_byteV, drop_byteV, strOf_map, -List.map_take, -List.map_drop, bndOk, bnd, partAV, ptrAdd, killBox, catA, inOrder, fillA, setAt, ofVal, entry, resB, upd, byteV, List.head?_take, List.head?_drop, List.getElem?_map])
  first | refine hK _ ?_ | refine ⟨by omega, hK _ ?_⟩ | refine ⟨by simp [strOf_map, byteV, AV.isByte]; try omega, hK _ ?_⟩ | trace_state
  clear hK hE K
  refine W_seq_k fun K hK hE => W_region (by decide) ?_
  have hcase : c.toNat < 48 ∨ (48 ≤ c.toNat ∧ c.toNat ≤ 57) ∨ (58 ≤ c.toNat ∧ c.toNat ≤ 64) ∨ (65 ≤ c.toNat ∧ c.toNat ≤ 90) ∨ (91 ≤ c.toNat ∧ c.toNat ≤ 96) ∨ (97 ≤ c.toNat ∧ c.toNat ≤ 122) ∨ 123 ≤ c.toNat := by omega
  have tail : ∀ s', s'.env 2 = .v (.bool (letterB c)) → W Try.prog Try.f53.ntmps Code.ret s' (post Try.prog Try.f53 (.ret (.v (.bool (letterB c))))) := by
    intro s' h
    refine W_ret ?_
    simp [post, resAV, resAll, resOne, closeV, closeC, closeL, resD, resDL, optK_some, optK_none, optK_ite, optK_map, optK_bind, gOn, stepK, isMem, evPure, evMem, evBin, evUn, evConv, evLen, evBuiltin, evMinMax, evSlice, evBuild, evAppend, evIndex, evIndexAddr, evField, evFieldAddr, intBin, strBin, appDest, AS.val, AS.mem, AS.elems, AS.put, AS.put', AS.eff, AV.cells?, AV.isCell, AV.refs, all_isByte, take_byteV, drop_byteV, strOf_map, -List.map_take, -List.map_drop, bndOk, bnd, partAV, ptrAdd, killBox, catA, inOrder, fillA, setAt, ofVal, entry, resB, upd, byteV, List.head?_take, List.head?_drop, List.getElem?_map, h]
  rcases hcase with h | h | h | h | h | h | h
  · have a0 : ¬ (48 ≤ (c.toNat : Int)) := by omega
    have a1 : ((c.toNat : Int) ≤ 57) := by omega
    have a2 : ¬ (65 ≤ (c.toNat : Int)) := by omega
    have a3 : ((c.toNat : Int) ≤ 90) := by omega
    have a4 : ¬ (97 ≤ (c.toNat : Int)) := by omega
    have a5 : ((c.toNat : Int) ≤ 122) := by omega
    repeat (rw [vcn]; try simp [optK_some, optK_none, optK_ite, optK_map, optK_bind, gOn, stepK, isMem, evPure, evMem, evBin, evUn, evConv, evLen, evBuiltin, evMinMax, evSlice, evBuild, evAppend, evIndex, evIndexAddr, evField, evFieldAddr, intBin, strBin, appDest, AS.val, AS.mem, AS.elems, AS.put, AS.put', AS.eff, AV.cells?, AV.isCell, AV.refs, all_isByte, take_byteV, drop_byteV, strOf_map, -List.map_take, -List.map_drop, bndOk, bnd, partAV, ptrAdd, killBox, catA, inOrder, fillA, setAt, ofVal, entry, resB, upd, byteV, List.head?_take, List.head?_drop, List.getElem?_map, a0, a1, a2, a3, a4, a5])
    refine CallG_plain (eval67 ⟨#[95, 63, 36]⟩ c) (by simp [AV.refs, refsL]) rfl ?_
    dsimp only
    repeat (rw [vcn]; try simp [optK_some, optK_none, optK_ite, optK_map, optK_bind, gOn, stepK, isMem, evPure, evMem, evBin, evUn, evConv, evLen, evBuiltin, evMinMax, evSlice, evBuild, evAppend, evIndex, evIndexAddr, evField, evFieldAddr, intBin, strBin, appDest, AS.val, AS.mem, AS.elems, AS.put, AS.put', AS.eff, AV.cells?, AV.isCell, AV.refs, all_isByte, take_byteV, drop_byteV, strOf_map, -List.map_take, -List.map_drop, bndOk, bnd, partAV, ptrAdd, killBox, catA, inOrder, fillA, setAt, ofVal, entry, resB, upd, byteV, List.head?_take, List.head?_drop, List.getElem?_map, i64V])
    refine hK _ (tail _ ?_)
    simp [upd, letterB]
    first
      | omega
      | (rw [hi, Bool.eq_iff_iff]; simp; omega)
  · have a0 : (48 ≤ (c.toNat : Int)) := by omega
    have a1 : ((c.toNat : Int) ≤ 57) := by omega
    have a2 : ¬ (65 ≤ (c.toNat : Int)) := by omega
    have a3 : ((c.toNat : Int) ≤ 90) := by omega
    have a4 : ¬ (97 ≤ (c.toNat : Int)) := by omega
    have a5 : ((c.toNat : Int) ≤ 122) := by omega
    repeat (rw [vcn]; try simp [optK_some, optK_none, optK_ite, optK_map, optK_bind, gOn, stepK, isMem, evPure, evMem, evBin, evUn, evConv, evLen, evBuiltin, evMinMax, evSlice, evBuild, evAppend, evIndex, evIndexAddr, evField, evFieldAddr, intBin, strBin, appDest, AS.val, AS.mem, AS.elems, AS.put, AS.put', AS.eff, AV.cells?, AV.isCell, AV.refs, all_isByte, take_byteV, drop_byteV, strOf_map, -List.map_take, -List.map_drop, bndOk, bnd, partAV, ptrAdd, killBox, catA, inOrder, fillA, setAt, ofVal, entry, resB, upd, byteV, List.head?_take, List.head?_drop, List.getElem?_map, a0, a1, a2, a3, a4, a5])
    refine hK _ (tail _ ?_)
    simp [upd, letterB]
    first
      | omega
      | (rw [hi, Bool.eq_iff_iff]; simp; omega)
  · have a0 : (48 ≤ (c.toNat : Int)) := by omega
    have a1 : ¬ ((c.toNat : Int) ≤ 57) := by omega
    have a2 : ¬ (65 ≤ (c.toNat : Int)) := by omega
    have a3 : ((c.toNat : Int) ≤ 90) := by omega
    have a4 : ¬ (97 ≤ (c.toNat : Int)) := by omega
    have a5 : ((c.toNat : Int) ≤ 122) := by omega
    repeat (rw [vcn]; try simp [optK_some, optK_none, optK_ite, optK_map, optK_bind, gOn, stepK, isMem, evPure, evMem, evBin, evUn, evConv, evLen, evBuiltin, evMinMax, evSlice, evBuild, evAppend, evIndex, evIndexAddr, evField, evFieldAddr, intBin, strBin, appDest, AS.val, AS.mem, AS.elems, AS.put, AS.put', AS.eff, AV.cells?, AV.isCell, AV.refs, all_isByte, take_byteV, drop_byteV, strOf_map, -List.map_take, -List.map_drop, bndOk, bnd, partAV, ptrAdd, killBox, catA, inOrder, fillA, setAt, ofVal, entry, resB, upd, byteV, List.head?_take, List.head?_drop, List.getElem?_map, a0, a1, a2, a3, a4, a5])
    refine CallG_plain (eval67 ⟨#[95, 63, 36]⟩ c) (by simp [AV.refs, refsL]) rfl ?_
    dsimp only
    repeat (rw [vcn]; try simp [optK_some, optK_none, optK_ite, optK_map, optK_bind, gOn, stepK, isMem, evPure, evMem, evBin, evUn, evConv, evLen, evBuiltin, evMinMax, evSlice, evBuild, evAppend, evIndex, evIndexAddr, evField, evFieldAddr, intBin, strBin, appDest, AS.val, AS.mem, AS.elems, AS.put, AS.put', AS.eff, AV.cells?, AV.isCell, AV.refs, all_isByte, take_byteV, drop_byteV, strOf_map, -List.map_take, -List.map_drop, bndOk, bnd, partAV, ptrAdd, killBox, catA, inOrder, fillA, setAt, ofVal, entry, resB, upd, byteV, List.head?_take, List.head?_drop, List.getElem?_map, i64V])
    refine hK _ (tail _ ?_)
    simp [upd, letterB]
    first
      | omega
      | (rw [hi, Bool.eq_iff_iff]; simp; omega)
  · have a0 : (48 ≤ (c.toNat : Int)) := by omega
    have a1 : ¬ ((c.toNat : Int) ≤ 57) := by omega
    have a2 : (65 ≤ (c.toNat : Int)) := by omega
    have a3 : ((c.toNat : Int) ≤ 90) := by omega
    have a4 : ¬ (97 ≤ (c.toNat : Int)) := by omega
    have a5 : ((c.toNat : Int) ≤ 122) := by omega
    repeat (rw [vcn]; try simp [optK_some, optK_none, optK_ite, optK_map, optK_bind, gOn, stepK, isMem, evPure, evMem, evBin, evUn, evConv, evLen, evBuiltin, evMinMax, evSlice, evBuild, evAppend, evIndex, evIndexAddr, evField, evFieldAddr, intBin, strBin, appDest, AS.val, AS.mem, AS.elems, AS.put, AS.put', AS.eff, AV.cells?, AV.isCell, AV.refs, all_isByte, take_byteV, drop_byteV, strOf_map, -List.map_take, -List.map_drop, bndOk, bnd, partAV, ptrAdd, killBox, catA, inOrder, fillA, setAt, ofVal, entry, resB, upd, byteV, List.head?_take, List.head?_drop, List.getElem?_map, a0, a1, a2, a3, a4, a5])
    refine hK _ (tail _ ?_)
    simp [upd, letterB]
    first
      | omega
      | (rw [hi, Bool.eq_iff_iff]; simp; omega)
  · have a0 : (48 ≤ (c.toNat : Int)) := by omega
    have a1 : ¬ ((c.toNat : Int) ≤ 57) := by omega
    have a2 : (65 ≤ (c.toNat : Int)) := by omega
    have a3 : ¬ ((c.toNat : Int) ≤ 90) := by omega
    have a4 : ¬ (97 ≤ (c.toNat : Int)) := by omega
    have a5 : ((c.toNat : Int) ≤ 122) := by omega
    repeat (rw [vcn]; try simp [optK_some, optK_none, optK_ite, optK_map, optK_bind, gOn, stepK, isMem, evPure, evMem, evBin, evUn, evConv, evLen, evBuiltin, evMinMax, evSlice, evBuild, evAppend, evIndex, evIndexAddr, evField, evFieldAddr, intBin, strBin, appDest, AS.val, AS.mem, AS.elems, AS.put, AS.put', AS.eff, AV.cells?, AV.isCell, AV.refs, all_isByte, take_byteV, drop_byteV, strOf_map, -List.map_take, -List.map_drop, bndOk, bnd, partAV, ptrAdd, killBox, catA, inOrder, fillA, setAt, ofVal, entry, resB, upd, byteV, List.head?_take, List.head?_drop, List.getElem?_map, a0, a1, a2, a3, a4, a5])
    refine CallG_plain (eval67 ⟨#[95, 63, 36]⟩ c) (by simp [AV.refs, refsL]) rfl ?_
    dsimp only
    repeat (rw [vcn]; try simp [optK_some, optK_none, optK_ite, optK_map, optK_bind, gOn, stepK, isMem, evPure, evMem, evBin, evUn, evConv, evLen, evBuiltin, evMinMax, evSlice, evBuild, evAppend, evIndex, evIndexAddr, evField, evFieldAddr, intBin, strBin, appDest, AS.val, AS.mem, AS.elems, AS.put, AS.put', AS.eff, AV.cells?, AV.isCell, AV.refs, all_isByte, take_byteV, drop_byteV, strOf_map, -List.map_take, -List.map_drop, bndOk, bnd, partAV, ptrAdd, killBox, catA, inOrder, fillA, setAt, ofVal, entry, resB, upd, byteV, List.head?_take, List.head?_drop, List.getElem?_map, i64V])
    refine hK _ (tail _ ?_)
    simp [upd, letterB]
    first
      | omega
      | (rw [hi, Bool.eq_iff_iff]; simp; omega)
  · have a0 : (48 ≤ (c.toNat : Int)) := by omega
    have a1 : ¬ ((c.toNat : Int) ≤ 57) := by omega
    have a2 : (65 ≤ (c.toNat : Int)) := by omega
    have a3 : ¬ ((c.toNat : Int) ≤ 90) := by omega
    have a4 : (97 ≤ (c.toNat : Int)) := by omega
    have a5 : ((c.toNat : Int) ≤ 122) := by omega
    repeat (rw [vcn]; try simp [optK_some, optK_none, optK_ite, optK_map, optK_bind, gOn, stepK, isMem, evPure, evMem, evBin, evUn, evConv, evLen, evBuiltin, evMinMax, evSlice, evBuild, evAppend, evIndex, evIndexAddr, evField, evFieldAddr, intBin, strBin, appDest, AS.val, AS.mem, AS.elems, AS.put, AS.put', AS.eff, AV.cells?, AV.isCell, AV.refs, all_isByte, take_byteV, drop_byteV, strOf_map, -List.map_take, -List.map_drop, bndOk, bnd, partAV, ptrAdd, killBox, catA, inOrder, fillA, setAt, ofVal, entry, resB, upd, byteV, List.head?_take, List.head?_drop, List.getElem?_map, a0, a1, a2, a3, a4, a5])
    refine hK _ (tail _ ?_)
    simp [upd, letterB]
    first
      | omega
      | (rw [hi, Bool.eq_iff_iff]; simp; omega)
  · have a0 : (48 ≤ (c.toNat : Int)) := by omega
    have a1 : ¬ ((c.toNat : Int) ≤ 57) := by omega
    have a2 : (65 ≤ (c.toNat : Int)) := by omega
    have a3 : ¬ ((c.toNat : Int) ≤ 90) := by omega
    have a4 : (97 ≤ (c.toNat : Int)) := by omega
    have a5 : ¬ ((c.toNat : Int) ≤ 122) := by omega
    repeat (rw [vcn]; try simp [optK_some, optK_none, optK_ite, optK_map, optK_bind, gOn, stepK, isMem, evPure, evMem, evBin, evUn, evConv, evLen, evBuiltin, evMinMax, evSlice, evBuild, evAppend, evIndex, evIndexAddr, evField, evFieldAddr, intBin, strBin, appDest, AS.val, AS.mem, AS.elems, AS.put, AS.put', AS.eff, AV.cells?, AV.isCell, AV.refs, all_isByte, take_byteV, drop_byteV, strOf_map, -List.map_take, -List.map_drop, bndOk, bnd, partAV, ptrAdd, killBox, catA, inOrder, fillA, setAt, ofVal, entry, resB, upd, byteV, List.head?_take, List.head?_drop, List.getElem?_map, a0, a1, a2, a3, a4, a5])
    refine CallG_plain (eval67 ⟨#[95, 63, 36]⟩ c) (by simp [AV.refs, refsL]) rfl ?_
    dsimp only
    repeat (rw [vcn]; try simp [optK_some, optK_none, optK_ite, optK_map, optK_bind, gOn, stepK, isMem, evPure, evMem, evBin, evUn, evConv, evLen, evBuiltin, evMinMax, evSlice, evBuild, evAppend, evIndex, evIndexAddr, evField, evFieldAddr, intBin, strBin, appDest, AS.val, AS.mem, AS.elems, AS.put, AS.put', AS.eff, AV.cells?, AV.isCell, AV.refs, all_isByte, take_byteV, drop_byteV, strOf_map, -List.map_take, -List.map_drop, bndOk, bnd, partAV, ptrAdd, killBox, catA, inOrder, fillA, setAt, ofVal, entry, resB, upd, byteV, List.head?_take, List.head?_drop, List.getElem?_map, i64V])
    refine hK _ (tail _ ?_)
    simp [upd, letterB]
    first
      | omega
      | (rw [hi, Bool.eq_iff_iff]; simp; omega)
end Go.Fw
namespace Go.Fw
open Go Go.Proofs Go.IntWalk Go.RowKit
theorem loadBytes_run {P : Program} {w : World} (b o : Nat) : ∀ (l : List UInt8) (k : Nat) (acc : ByteArray), (∀ (i : Nat) (c : UInt8), l[i]? = some c → w.cell? ⟨b, o + k + i, none⟩ = some (.int .u8 c.toNat)) →
    (Extern.Bytes.loadBytes ⟨b, o + k, none⟩ l.length acc).run P w = .ok ⟨acc.data ++ l.toArray⟩ w
  | [], k, acc, _ => by simp [Extern.Bytes.loadBytes]
  | c :: l, k, acc, h => by
    have h0 := h 0 c (by simp)
    simp only [Nat.add_zero] at h0
    simp only [List.length_cons, Extern.Bytes.loadBytes, Sem.run_bind, run_load, h0, Result.andThen_ok]
    have e : (Addr.add ⟨b, o + k, none⟩ 1) = ⟨b, o + (k + 1), none⟩ := by simp [Addr.add]; omega
    rw [e, loadBytes_run b o l (k + 1) _ (fun i d hd => by
      have := h (i + 1) d (by simpa using hd)
      rwa [show o + (k + 1) + i = o + k + (i + 1) from by omega])]
    congr 1
    have hc : (c.toNat : Int).toNat.toUInt8 = c := by simp
    rw [hc]
    simp [ByteArray.push]
def firstIn (l : List UInt8) (c : UInt8) : Int := firstIdx ⟨l.toArray⟩ c
theorem eval66 (f : Bool) (l : List UInt8) (n : Nat) (hn : l.length = n) (c : UInt8) : Eval Try.prog 66 [.slc f 1 n (l.map byteV), byteV c] (.ret (i64V (firstIn l c))) := by
  subst hn
  intro M w vs hM hvs hrep
  obtain ⟨⟨x, hx, hx1⟩, ⟨y, hy, hy1⟩, _⟩ := hrep
  obtain ⟨a, cap, rfl, _, _, _, _, _, hcell⟩ := hx1
  obtain ⟨rfl, _⟩ := hy1
  have hvs2 : vs = #[.slice a l.length cap, .int .u8 c.toNat] := by
    obtain ⟨l'⟩ := vs
    match l', hvs with
    | [p, q], _ =>
      simp at hx hy
      rw [hx, hy]
  subst hvs2
  have hb : (Extern.Bytes.bytesOf (.slice a l.length cap)).run Try.prog w = .ok ⟨l.toArray⟩ w := by
    cases a with
    | none =>
      have : l = [] := by
        cases l with
        | nil => rfl
        | cons d l => obtain ⟨_, _, _, h, _⟩ := hcell (by simp); cases h
      subst this
      rfl
    | some ad =>
      rcases Nat.eq_zero_or_pos l.length with h0 | h0
      · have : l = [] := List.eq_nil_of_length_eq_zero h0
        subst this
        rfl
      · obtain ⟨b, o, cs, h1, h2, h3⟩ := hcell h0
        cases h1
        obtain ⟨ty, fz, hh⟩ := hM b cs h2
        have := loadBytes_run (P := Try.prog) (w := w) b o l 0 .empty (fun i d hd => by
          obtain ⟨z, hz, _, hz2⟩ := (RepAt.iff _ _ _).1 h3 i (byteV d) (by simp [hd])
          obtain ⟨rfl, _⟩ := hz2
          simp only [World.cell?, hh, Nat.add_zero]
          simpa using hz)
        simp only [Nat.add_zero] at this
        unfold Extern.Bytes.bytesOf
        rw [this]
        show Result.ok (ByteArray.mk (#[] ++ l.toArray)) w = _
        simp
  refine .inr ⟨.int .i64 (firstIn l c), ?_, M, MemLe.refl M, hM, fun _ _ => rfl, Below.refl _ _, [], ⟨⟨rfl, rfl⟩, rfl, rfl⟩, List.nodup_nil, fun b hb => by cases hb⟩
  rw [run_callFunc_indexByte Try.func66 (by kernel_rfl) (by kernel_rfl) (by kernel_rfl) rfl]
  have hx : (Extern.BytealgIndexByte.indexByte #[.slice a l.length cap, .int .u8 c.toNat]).run Try.prog w = .ok (.int .i64 (firstIn l c)) w := by
    change Sem.run Try.prog (do
      let b ← Extern.Bytes.bytesOf (.slice a l.length cap)
      let c' ← Extern.Bytes.asByte (.int .u8 (c.toNat : Int))
      match (List.range b.size).find? fun i => b[i]! == c' with
      | some i => pure (goInt i)
      | none => pure (goInt (-1))) w = _
    simp only [Sem.run_bind, hb, Result.andThen_ok, Extern.Bytes.asByte, Sem.run_pure, firstIn, firstIdx]
    have hc : (c.toNat : Int).toNat.toUInt8 = c := by simp
    rw [hc]
    generalize (List.range (ByteArray.mk l.toArray).size).find? _ = q
    cases q <;> rfl
  rw [hx]
  rfl
set_option linter.unusedSimpArgs false
set_option maxRecDepth 100000
theorem eval52 (f : Bool) (l : List UInt8) (n : Nat) (hn : l.length = n) (c : UInt8) : Eval Try.prog 52 [.slc f 1 n (l.map byteV), byteV c] (.ret (i64V (firstIn l c))) := by
  refine Eval.intro Try.func52 rfl Try.call52 _ _ (Nat.le_of_ble_eq_true rfl) (by simp [AV.refs, refsL]) fun hs0 => ?_
  refine W_seq_k fun K hK hE => W_region (by decide) ?_
  repeat (rw [vcn]; try simp [optK_some, optK_none, optK_ite, optK_map, optK_bind, gOn, stepK, isMem, evPure, evMem, evBin, evUn, evConv, evLen, evBuiltin, evMinMax, evSlice, evBuild, evAppend, evIndex, evIndexAddr, evField, evFieldAddr, intBin, strBin, appDest, AS.val, AS.mem, AS.elems, AS.put, AS.put', AS.eff, AV.cells?, AV.isCell, AV.refs, all_isByte, take_byteV, drop_byteV, strOf_map, -List.map_take, -List.map_drop, bndOk, bnd, partAV, ptrAdd, killBox, catA, inOrder, fillA, setAt, ofVal, entry, resB, upd, byteV, List.head?_take, List.head?_drop, List.getElem?_map])
  first | refine hK _ ?_ | refine ⟨by omega, hK _ ?_⟩ | refine ⟨by simp [strOf_map, byteV, AV.isByte]; try omega, hK _ ?_⟩ | trace_state
  clear hK hE K
  refine W_seq_k fun K hK hE => W_region (by decide) ?_
  repeat (rw [vcn]; try simp [optK_some, optK_none, optK_ite, optK_map, optK_bind, gOn, stepK, isMem, evPure, evMem, evBin, evUn, evConv, evLen, evBuiltin, evMinMax, evSlice, evBuild, evAppend, evIndex, evIndexAddr, evField, evFieldAddr, intBin, strBin, appDest, AS.val, AS.mem, AS.elems, AS.put, AS.put', AS.eff, AV.cells?, AV.isCell, AV.refs, all_isByte, take_byteV, drop_byteV, strOf_map, -List.map_take, -List.map_drop, bndOk, bnd, partAV, ptrAdd, killBox, catA, inOrder, fillA, setAt, ofVal, entry, resB, upd, byteV, List.head?_take, List.head?_drop, List.getElem?_map])
  refine CallG_plain (eval66 f l n hn c) (by simp [AV.refs, refsL]) rfl ?_
  dsimp only
  repeat (rw [vcn]; try simp [optK_some, optK_none, optK_ite, optK_map, optK_bind, gOn, stepK, isMem, evPure, evMem, evBin, evUn, evConv, evLen, evBuiltin, evMinMax, evSlice, evBuild, evAppend, evIndex, evIndexAddr, evField, evFieldAddr, intBin, strBin, appDest, AS.val, AS.mem, AS.elems, AS.put, AS.put', AS.eff, AV.cells?, AV.isCell, AV.refs, all_isByte, take_byteV, drop_byteV, strOf_map, -List.map_take, -List.map_drop, bndOk, bnd, partAV, ptrAdd, killBox, catA, inOrder, fillA, setAt, ofVal, entry, resB, upd, byteV, List.head?_take, List.head?_drop, List.getElem?_map, i64V])
  refine hK _ ?_
  refine W_ret ?_
  simp [post, resAV, resAll, resOne, closeV, closeC, closeL, resD, resDL, optK_some, optK_none, optK_ite, optK_map, optK_bind, gOn, stepK, isMem, evPure, evMem, evBin, evUn, evConv, evLen, evBuiltin, evMinMax, evSlice, evBuild, evAppend, evIndex, evIndexAddr, evField, evFieldAddr, intBin, strBin, appDest, AS.val, AS.mem, AS.elems, AS.put, AS.put', AS.eff, AV.cells?, AV.isCell, AV.refs, all_isByte, take_byteV, drop_byteV, strOf_map, -List.map_take, -List.map_drop, bndOk, bnd, partAV, ptrAdd, killBox, catA, inOrder, fillA, setAt, ofVal, entry, resB, upd, byteV, List.head?_take, List.head?_drop, List.getElem?_map, i64V]
end Go.Fw

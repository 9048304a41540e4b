/- The records of a stream, their bodies memory of one's own. -/
import Derived.Test.YtjgbikhnnkigpaaSp1
set_option linter.unusedSimpArgs false
set_option linter.unusedVariables false
namespace Go.Fw
open Go Go.Proofs Go.IntWalk
set_option linter.unusedSimpArgs false
set_option maxRecDepth 100000
theorem bodB_wk {box : Nat → Option Box} {ρ : Nat → Nat} {k : Nat} {l : List Rec} (h : ∀ i r, l[i]? = some r → box (k + i) = some (.mut 5 (r.2.2.map byteV))) (hρ : ∀ i, k ≤ i → i < k + l.length → ρ i = i) :
    ∀ p ∈ bodB k l, box (ρ p.1) = some (renBox ρ p.2) := by
  intro p hp
  obtain ⟨h1, h2, r, h3, h4⟩ := bodB_mem hp
  rw [hρ _ h1 h2, h4, show p.1 = k + (p.1 - k) from by omega, h _ r h3]
  simp only [renBox]
  rw [renL_id _ _ (refsL_bytes _)]
theorem lk_bod (k : Nat) (l : List Rec) (i : Nat) (r : Rec) (h : l[i]? = some r) : lk (bodB k l) (k + i) = some (.mut 5 (r.2.2.map byteV)) := by
  rw [lk_bodB, if_pos (by omega), Nat.add_sub_cancel_left, h]
  rfl
theorem bod_refs (pre : List (Nat × Box)) (A : List Rec) (hpre : ∀ p ∈ pre, p.2.refs = []) :
    ∀ p ∈ pre ++ (500, .mut 24 (rowB 2000 A)) :: bodB 2000 A, ∀ i ∈ p.2.refs, i ∈ (pre ++ (500, .mut 24 (rowB 2000 A)) :: bodB 2000 A).map (·.1) := by
  intro p hp i hi
  simp only [List.mem_append, List.mem_cons] at hp
  simp only [List.map_append, List.map_cons, List.mem_append, List.mem_cons]
  rcases hp with hp | rfl | hp
  · rw [hpre p hp] at hi; cases hi
  · simp only [Box.refs, rowB_refs] at hi
    exact .inr (.inr ((bodB_keys 2000 A i).2 hi))
  · obtain ⟨_, _, r, _, h4⟩ := bodB_mem hp
    rw [h4] at hi
    simp [Box.refs, refsL_bytes] at hi
theorem bod_id {box : Nat → Option Box} {A : List Rec} (h : ∀ i, 2000 ≤ i → box i = lk (bodB 2000 A) i) : ∀ p ∈ bodB 2000 A, box (id p.1) = some (renBox id p.2) :=
  bodB_wk (fun i r hi => by rw [h _ (by omega)]; exact lk_bod 2000 A i r hi) (fun _ _ _ => rfl)
theorem rowB_id (A : List Rec) : renL id (rowB 2000 A) = rowB 2000 A := rowB_ren id _ _ fun _ _ _ => rfl
def splitQ (bs : List UInt8) (out : Out) (s' : AS) : Prop := match splitSpec bs with
  | .error e => out = .ret (.tup [.v (.slice none 0 0), i64V 0, i64V e])
  | .ok (l, n) => out = .ret (.tup [.bs 500 3 0 l.length, i64V n, i64V 0]) ∧ s'.box 500 = some (.mut 24 (rowB 2000 l)) ∧ ∀ i r, l[i]? = some r → s'.box (2000 + i) = some (.mut 5 (r.2.2.map byteV))
theorem split19m (f : Bool) (bs : List UInt8) (hs : bs.length ≤ 400000) : WB Try.prog 19 [.slc f 1 bs.length (bs.map byteV)] [] (splitQ bs) := by
  refine ⟨_, _, Try.func19, rfl, Try.call19, Nat.le_of_ble_eq_true rfl, ?_⟩
  refine W_seq_k fun K hK hE => W_region (by decide) ?_
  repeat (rw [vcn]; try simp [optK_some, optK_none, optK_ite, optK_map, optK_bind, gOn, stepK, isMem, evPure, evMem, evBin, evUn, evConv, evLen, evBuiltin, evMinMax, evSlice, evBuild, evAppend, evIndex, evIndexAddr, evField, evFieldAddr, intBin, strBin, appDest, AS.val, AS.mem, AS.elems, AS.put, AS.put', AS.eff, AV.cells?, AV.isCell, AV.refs, all_isByte, take_byteV, drop_byteV, strOf_map, -List.map_take, -List.map_drop, bndOk, bnd, partAV, ptrAdd, killBox, catA, inOrder, fillA, setAt, ofVal, entry, resB, upd, byteV, List.head?_take, List.head?_drop, List.getElem?_map, entryB, lk])
  first | refine hK _ ?_ | refine ⟨by omega, hK _ ?_⟩ | refine ⟨by simp [strOf_map, byteV, AV.isByte]; try omega, hK _ ?_⟩ | trace_state
  clear hK hE K
  refine W_frz 1 (e := 22) (l := [AV.slc f 1 bs.length (bs.map byteV)]) rfl (by simp [AV.refs, refsL]) ?_
  refine W_seq_k fun K hK hE => ?_
  refine W_seq_k fun K hK hE => W_region (by decide) ?_
  repeat (rw [vcn]; try simp [optK_some, optK_none, optK_ite, optK_map, optK_bind, gOn, stepK, isMem, evPure, evMem, evBin, evUn, evConv, evLen, evBuiltin, evMinMax, evSlice, evBuild, evAppend, evIndex, evIndexAddr, evField, evFieldAddr, intBin, strBin, appDest, AS.val, AS.mem, AS.elems, AS.put, AS.put', AS.eff, AV.cells?, AV.isCell, AV.refs, all_isByte, take_byteV, drop_byteV, strOf_map, -List.map_take, -List.map_drop, bndOk, bnd, partAV, ptrAdd, killBox, catA, inOrder, fillA, setAt, ofVal, entry, resB, upd, byteV, List.head?_take, List.head?_drop, List.getElem?_map, lk])
  first | refine hK _ ?_ | refine ⟨by omega, hK _ ?_⟩ | refine ⟨by simp [strOf_map, byteV, AV.isByte]; try omega, hK _ ?_⟩ | trace_state
  clear hK hE K
  refine W_cond rfl (fun hc => ?_) (fun hc => ?_)
  · simp at hc
    omega
  have h1 : ¬ 16777216 < bs.length := by simp at hc; omega
  first | refine hK _ ?_ | refine ⟨by omega, hK _ ?_⟩ | refine W_skip (hK _ ?_) | trace_state
  clear hK hE K
  refine W_seq_k fun K hK hE => W_region (by decide) ?_
  repeat (rw [vcn]; try simp [optK_some, optK_none, optK_ite, optK_map, optK_bind, gOn, stepK, isMem, evPure, evMem, evBin, evUn, evConv, evLen, evBuiltin, evMinMax, evSlice, evBuild, evAppend, evIndex, evIndexAddr, evField, evFieldAddr, intBin, strBin, appDest, AS.val, AS.mem, AS.elems, AS.put, AS.put', AS.eff, AV.cells?, AV.isCell, AV.refs, all_isByte, take_byteV, drop_byteV, strOf_map, -List.map_take, -List.map_drop, bndOk, bnd, partAV, ptrAdd, killBox, catA, inOrder, fillA, setAt, ofVal, entry, resB, upd, byteV, List.head?_take, List.head?_drop, List.getElem?_map, lk])
  first | refine hK _ ?_ | refine ⟨by omega, hK _ ?_⟩ | refine ⟨by simp [strOf_map, byteV, AV.isByte]; try omega, hK _ ?_⟩ | trace_state
  clear hK hE K
  refine W_seq_k fun K hK hE => W_region (by decide) ?_
  repeat (rw [vcn]; try simp [optK_some, optK_none, optK_ite, optK_map, optK_bind, gOn, stepK, isMem, evPure, evMem, evBin, evUn, evConv, evLen, evBuiltin, evMinMax, evSlice, evBuild, evAppend, evIndex, evIndexAddr, evField, evFieldAddr, intBin, strBin, appDest, AS.val, AS.mem, AS.elems, AS.put, AS.put', AS.eff, AV.cells?, AV.isCell, AV.refs, all_isByte, take_byteV, drop_byteV, strOf_map, -List.map_take, -List.map_drop, bndOk, bnd, partAV, ptrAdd, killBox, catA, inOrder, fillA, setAt, ofVal, entry, resB, upd, byteV, List.head?_take, List.head?_drop, List.getElem?_map, lk])
  first | refine hK _ ?_ | refine ⟨by omega, hK _ ?_⟩ | refine ⟨by simp [strOf_map, byteV, AV.isByte]; try omega, hK _ ?_⟩ | trace_state
  clear hK hE K
  refine W_seq_k fun K hK hE => W_region (by decide) ?_
  repeat (rw [vcn]; try simp [optK_some, optK_none, optK_ite, optK_map, optK_bind, gOn, stepK, isMem, evPure, evMem, evBin, evUn, evConv, evLen, evBuiltin, evMinMax, evSlice, evBuild, evAppend, evIndex, evIndexAddr, evField, evFieldAddr, intBin, strBin, appDest, AS.val, AS.mem, AS.elems, AS.put, AS.put', AS.eff, AV.cells?, AV.isCell, AV.refs, all_isByte, take_byteV, drop_byteV, strOf_map, -List.map_take, -List.map_drop, bndOk, bnd, partAV, ptrAdd, killBox, catA, inOrder, fillA, setAt, ofVal, entry, resB, upd, byteV, List.head?_take, List.head?_drop, List.getElem?_map, lk])
  first | refine hK _ ?_ | refine ⟨by omega, hK _ ?_⟩ | refine ⟨by simp [strOf_map, byteV, AV.isByte]; try omega, hK _ ?_⟩ | trace_state
  clear hK hE K
  obtain ⟨B, hB⟩ : ∃ B, B = AV.slc f 1 bs.length (bs.map byteV) := ⟨_, rfl⟩
  have hBr : B.refs = [] := by rw [hB]; rfl
  rw [← hB]
  refine W_seq_k fun K hK hE => W_block_k fun K1 b1 b2 b3 b4 b5 => ?_
  refine W_nil 5 500 24 3 rfl (by simp) ?_
  refine W_loop (X := List Rec × Nat) (fun x => [(1, .ip [B]), (2, .v (.slice none 0 0)), (3, i64V 0), (5, .bs 500 3 0 x.1.length), (6, .bp 6 0), (7, .fn 56 [.ip [B], .bp 6 0])]) (fun x => (6, .mut 3 [i64V x.2]) :: (500, .mut 24 (rowB 2000 x.1)) :: bodB 2000 x.1)
    (fun x => bs.length - x.2) (fun x => x.2 ≤ bs.length ∧ x.1.length * 4 ≤ x.2 ∧ recs bs = preR x.1 (recs (bs.drop x.2))) ([], 0) id ⟨by simp, by simp, ?_⟩ ⟨?_, ?_, ?_, ?_, ?_, ?_⟩ fun x hx => ?_
  · simp only [List.drop_zero]
    cases recs bs with
    | error e => rfl
    | ok p => rfl
  · simp [upd, resB, ren, renL, i64V, lk]
  · simp [upd, lk, renBox, renL, ren, i64V, rowB, bodB]
  · simp [bodB]
  · simp [AV.refs, refsL, i64V, hBr]
  · simp [AV.refs, Box.refs, refsL, i64V, rowB, bodB]
  · simp
  obtain ⟨acc, at_⟩ := x
  obtain ⟨ha, hal, hI⟩ := hx
  simp only at ha hal hI
  obtain ⟨m, hm⟩ : ∃ m, m = 2000 + acc.length := ⟨_, rfl⟩
  have m6 : (m = 6) = False := eq_false (by omega)
  have m6' : (6 = m) = False := eq_false (by omega)
  have m8 : (m = 8) = False := eq_false (by omega)
  have m8' : (8 = m) = False := eq_false (by omega)
  have m27 : (m = 27) = False := eq_false (by omega)
  have m27' : (27 = m) = False := eq_false (by omega)
  have m5 : (m = 500) = False := eq_false (by omega)
  have m5' : (500 = m) = False := eq_false (by omega)
  have m26 : (m = 26) = False := eq_false (by omega)
  have m26' : (26 = m) = False := eq_false (by omega)
  have mb : (1000000 ≤ m) = False := eq_false (by omega)
  have nin : ∀ i, ¬ (2000 ≤ i ∧ i < m) → ∀ x, ((i, x) ∈ bodB 2000 acc) = False := fun i hi x => eq_false fun h => by
    have := bodB_mem h
    simp only at this
    exact hi ⟨this.1, by omega⟩
  have n8 := nin 8 (by omega)
  have n27 := nin 27 (by omega)
  have n26 := nin 26 (by omega)
  have nm := nin m (by omega)
  have hlk : ∀ i r, acc[i]? = some r → lk (bodB 2000 acc) (2000 + i) = some (.mut 5 (r.2.2.map byteV)) := lk_bod 2000 acc
  have hacc := rowB_len 2000 acc
  refine W_block_k fun K2 c1 c2 c3 c4 c5 => W_seq_k fun K3 hK3 hE3 => W_region (by decide) ?_
  repeat (rw [vcn]; try simp [optK_some, optK_none, optK_ite, optK_map, optK_bind, gOn, stepK, isMem, evPure, evMem, evBin, evUn, evConv, evLen, evBuiltin, evMinMax, evSlice, evBuild, evAppend, evIndex, evIndexAddr, evField, evFieldAddr, intBin, strBin, appDest, AS.val, AS.mem, AS.elems, AS.put, AS.put', AS.eff, AV.cells?, AV.isCell, AV.refs, all_isByte, take_byteV, drop_byteV, strOf_map, -List.map_take, -List.map_drop, bndOk, bnd, partAV, ptrAdd, killBox, catA, inOrder, fillA, setAt, ofVal, entry, resB, upd, byteV, List.head?_take, List.head?_drop, List.getElem?_map, lk, mkS])
  show CallV Try.prog 56 ([] ++ [AV.ip [B], AV.bp 6 0]) _ _
  have hwb := wb56m f bs at_ (by omega) ha
  rw [← hB] at hwb
  refine CallV.boxes [.ip [B], .bp 1000000 0] [(1000000, .mut 3 [i64V at_])] (fun i => if i = 1000000 then 6 else i) (by simp [ren, renL]) (by simp [renBox, ren, renL, i64V]) (by simp) (by simp [AV.refs]) (by simp [Box.refs, AV.refs, i64V]) hwb ?_
  intro out s' hq
  cases hn : nextRec (bs.drop at_) with
  | error e =>
    rw [hn] at hq
    obtain ⟨rfl, hq⟩ := hq
    refine ⟨[(6, .mut 3 [i64V at_])], fun i => if i = 6 then 1000000 else i, by simp [renBox, ren, renL, i64V, hq], by simp, by simp [Box.refs, AV.refs, i64V], by simp, .tup [noRec, i64V e], by simp [ren, renL, noRec, i64V, byteV], by simp [AV.refs, refsL, noRec, i64V, byteV], ?_⟩
    dsimp only
    repeat (rw [vcn]; try simp [optK_some, optK_none, optK_ite, optK_map, optK_bind, gOn, stepK, isMem, evPure, evMem, evBin, evUn, evConv, evLen, evBuiltin, evMinMax, evSlice, evBuild, evAppend, evIndex, evIndexAddr, evField, evFieldAddr, intBin, strBin, appDest, AS.val, AS.mem, AS.elems, AS.put, AS.put', AS.eff, AV.cells?, AV.isCell, AV.refs, all_isByte, take_byteV, drop_byteV, strOf_map, -List.map_take, -List.map_drop, bndOk, bnd, partAV, ptrAdd, killBox, catA, inOrder, fillA, setAt, ofVal, entry, resB, upd, byteV, List.head?_take, List.head?_drop, List.getElem?_map, lk, back, noRec, i64V, n8, n27, n26, nm])
    have he := nextRec_err hn
    have hspec : splitSpec bs = .error e := by
      have : recs (bs.drop at_) = .error e := by rw [recs_eq, hn]
      rw [splitSpec, if_neg h1, hI, this]
      rfl
    refine hK3 _ (W_seq_k fun K4 hK4 hE4 => W_seq_k fun K5 hK5 hE5 => W_region (by decide) ?_)
    repeat (rw [vcn]; try simp [optK_some, optK_none, optK_ite, optK_map, optK_bind, gOn, stepK, isMem, evPure, evMem, evBin, evUn, evConv, evLen, evBuiltin, evMinMax, evSlice, evBuild, evAppend, evIndex, evIndexAddr, evField, evFieldAddr, intBin, strBin, appDest, AS.val, AS.mem, AS.elems, AS.put, AS.put', AS.eff, AV.cells?, AV.isCell, AV.refs, all_isByte, take_byteV, drop_byteV, strOf_map, -List.map_take, -List.map_drop, bndOk, bnd, partAV, ptrAdd, killBox, catA, inOrder, fillA, setAt, ofVal, entry, resB, upd, byteV, List.head?_take, List.head?_drop, List.getElem?_map, lk])
    refine hK5 _ (W_cond (b := true) (by simp [optK_some, optK_none, optK_ite, optK_map, optK_bind, gOn, stepK, isMem, evPure, evMem, evBin, evUn, evConv, evLen, evBuiltin, evMinMax, evSlice, evBuild, evAppend, evIndex, evIndexAddr, evField, evFieldAddr, intBin, strBin, appDest, AS.val, AS.mem, AS.elems, AS.put, AS.put', AS.eff, AV.cells?, AV.isCell, AV.refs, all_isByte, take_byteV, drop_byteV, strOf_map, -List.map_take, -List.map_drop, bndOk, bnd, partAV, ptrAdd, killBox, catA, inOrder, fillA, setAt, ofVal, entry, resB, upd, byteV, List.head?_take, List.head?_drop, List.getElem?_map, he]) (fun _ => ?_) (fun hc => by cases hc))
    refine W_seq_k fun K6 hK6 hE6 => W_region (by decide) ?_
    repeat (rw [vcn]; try simp [optK_some, optK_none, optK_ite, optK_map, optK_bind, gOn, stepK, isMem, evPure, evMem, evBin, evUn, evConv, evLen, evBuiltin, evMinMax, evSlice, evBuild, evAppend, evIndex, evIndexAddr, evField, evFieldAddr, intBin, strBin, appDest, AS.val, AS.mem, AS.elems, AS.put, AS.put', AS.eff, AV.cells?, AV.isCell, AV.refs, all_isByte, take_byteV, drop_byteV, strOf_map, -List.map_take, -List.map_drop, bndOk, bnd, partAV, ptrAdd, killBox, catA, inOrder, fillA, setAt, ofVal, entry, resB, upd, byteV, List.head?_take, List.head?_drop, List.getElem?_map, lk])
    refine hK6 _ (W_ret (hE4 _ _ (by simp) (c4 _ (b4 _ (hE _ _ (by simp) ?_)))))
    simp [postB, resAV, resAll, resOne, resD, resDL, optK_some, optK_none, optK_ite, optK_map, optK_bind, gOn, stepK, isMem, evPure, evMem, evBin, evUn, evConv, evLen, evBuiltin, evMinMax, evSlice, evBuild, evAppend, evIndex, evIndexAddr, evField, evFieldAddr, intBin, strBin, appDest, AS.val, AS.mem, AS.elems, AS.put, AS.put', AS.eff, AV.cells?, AV.isCell, AV.refs, all_isByte, take_byteV, drop_byteV, strOf_map, -List.map_take, -List.map_drop, bndOk, bnd, partAV, ptrAdd, killBox, catA, inOrder, fillA, setAt, ofVal, entry, resB, upd, byteV, List.head?_take, List.head?_drop, List.getElem?_map, splitQ, hspec, i64V, refsL]
  | ok p =>
    obtain ⟨k, d, b, n⟩ := p
    rw [hn] at hq
    obtain ⟨rfl, hq, hq2⟩ := hq
    refine ⟨[(6, .mut 3 [i64V ((at_ + n : Nat) : Int)]), (m, .mut 5 (b.map byteV))], fun i => if i = 6 then 1000000 else if i = m then 50 else i, ?_, ?_, ?_, ?_, .tup [.agg [byteV k, byteV d, .bs m 1 0 b.length], i64V 0], ?_, ?_, ?_⟩
    · simp [renBox, ren, renL, i64V, hq, hq2, m6, renL_id _ _ (refsL_bytes b)]
    · simp [m6, m6']
    · simp [Box.refs, AV.refs, i64V, refsL_bytes]
    · simp [m6, m6', n8, n27, n26, nm, mb, m5]
    · simp [ren, renL, i64V, byteV, m6]
    · simp [AV.refs, refsL, i64V, byteV]
    dsimp only
    repeat (rw [vcn]; try simp [optK_some, optK_none, optK_ite, optK_map, optK_bind, gOn, stepK, isMem, evPure, evMem, evBin, evUn, evConv, evLen, evBuiltin, evMinMax, evSlice, evBuild, evAppend, evIndex, evIndexAddr, evField, evFieldAddr, intBin, strBin, appDest, AS.val, AS.mem, AS.elems, AS.put, AS.put', AS.eff, AV.cells?, AV.isCell, AV.refs, all_isByte, take_byteV, drop_byteV, strOf_map, -List.map_take, -List.map_drop, bndOk, bnd, partAV, ptrAdd, killBox, catA, inOrder, fillA, setAt, ofVal, entry, resB, upd, byteV, List.head?_take, List.head?_drop, List.getElem?_map, lk, back, i64V, n8, n27, n26, nm, m6, m6', m8, m8', m27, m27', m5, m5', m26, m26', mb])
    refine hK3 _ (W_seq_k fun K4 hK4 hE4 => W_seq_k fun K5 hK5 hE5 => W_region (by decide) ?_)
    repeat (rw [vcn]; try simp [optK_some, optK_none, optK_ite, optK_map, optK_bind, gOn, stepK, isMem, evPure, evMem, evBin, evUn, evConv, evLen, evBuiltin, evMinMax, evSlice, evBuild, evAppend, evIndex, evIndexAddr, evField, evFieldAddr, intBin, strBin, appDest, AS.val, AS.mem, AS.elems, AS.put, AS.put', AS.eff, AV.cells?, AV.isCell, AV.refs, all_isByte, take_byteV, drop_byteV, strOf_map, -List.map_take, -List.map_drop, bndOk, bnd, partAV, ptrAdd, killBox, catA, inOrder, fillA, setAt, ofVal, entry, resB, upd, byteV, List.head?_take, List.head?_drop, List.getElem?_map, lk])
    refine hK5 _ (W_cond (b := false) (by simp [optK_some, optK_none, optK_ite, optK_map, optK_bind, gOn, stepK, isMem, evPure, evMem, evBin, evUn, evConv, evLen, evBuiltin, evMinMax, evSlice, evBuild, evAppend, evIndex, evIndexAddr, evField, evFieldAddr, intBin, strBin, appDest, AS.val, AS.mem, AS.elems, AS.put, AS.put', AS.eff, AV.cells?, AV.isCell, AV.refs, all_isByte, take_byteV, drop_byteV, strOf_map, -List.map_take, -List.map_drop, bndOk, bnd, partAV, ptrAdd, killBox, catA, inOrder, fillA, setAt, ofVal, entry, resB, upd, byteV, List.head?_take, List.head?_drop, List.getElem?_map]) (fun hc => by cases hc) (fun _ => W_skip (hK4 _ ?_)))
    refine W_seq_k fun K6 hK6 hE6 => W_region (by decide) ?_
    repeat (rw [vcn]; try simp [optK_some, optK_none, optK_ite, optK_map, optK_bind, gOn, stepK, isMem, evPure, evMem, evBin, evUn, evConv, evLen, evBuiltin, evMinMax, evSlice, evBuild, evAppend, evIndex, evIndexAddr, evField, evFieldAddr, intBin, strBin, appDest, AS.val, AS.mem, AS.elems, AS.put, AS.put', AS.eff, AV.cells?, AV.isCell, AV.refs, all_isByte, take_byteV, drop_byteV, strOf_map, -List.map_take, -List.map_drop, bndOk, bnd, partAV, ptrAdd, killBox, catA, inOrder, fillA, setAt, ofVal, entry, resB, upd, byteV, List.head?_take, List.head?_drop, List.getElem?_map, lk, hacc, n8, n27, n26, nm, m6, m6', m8, m8', m27, m27', m5, m5', m26, m26', mb])
    refine ⟨by omega, hK6 _ ?_⟩
    have hnl := nextRec_ok hn
    obtain ⟨n4, n5, -⟩ := hnl
    rw [List.length_drop] at n5
    have hb1 : bodB 2000 (acc ++ [(k, d, b)]) = bodB 2000 acc ++ [(m, .mut 5 (b.map byteV))] := by rw [bodB_app, hm]; rfl
    have hr1 : rowB 2000 (acc ++ [(k, d, b)]) = rowB 2000 acc ++ [byteV k, byteV d, .bs m 1 0 b.length] := by rw [rowB_app, hm]; rfl
    have hrn : ∀ ρ : Nat → Nat, (∀ i, 2000 ≤ i → ρ i = i) → ∀ l, renL ρ (rowB 2000 l) = rowB 2000 l := fun ρ h l => rowB_ren ρ _ _ fun i h1 _ => h i h1
    have hρ : ∀ i, 2000 ≤ i → (if i = 500 then 27 else i) = i := fun i hi => by rw [if_neg (by omega)]
    have hkeys : ∀ (p : Nat × Box), p ∈ bodB 2000 acc → 2000 ≤ p.1 ∧ p.1 < m := fun p hp => by
      have := bodB_mem hp
      exact ⟨this.1, by omega⟩
    refine W_wk [(1, .ip [B]), (2, .v (.slice none 0 0)), (3, i64V 0), (5, .bs 500 3 0 (acc.length + 1)), (6, .bp 6 0), (7, .fn 56 [.ip [B], .bp 6 0]), (8, .bp 8 0)]
      ((8, .mut 24 [byteV k, byteV d, .bs m 1 0 b.length]) :: (6, .mut 3 [i64V ((at_ + n : Nat) : Int)]) :: (500, .mut 24 (rowB 2000 (acc ++ [(k, d, b)]))) :: bodB 2000 (acc ++ [(k, d, b)])) (fun i => if i = 500 then 27 else i) ⟨?_, ?_, ?_, ?_, ?_, ?_⟩ ?_
    · simp [upd, resB, ren, renL, i64V]
    · rw [hb1]
      intro p hp
      simp only [List.mem_cons, List.mem_append] at hp
      rcases hp with rfl | rfl | rfl | hp | rfl | hp
      · simp [upd, renBox, renL, ren, byteV, m5]
      · simp [upd, renBox, renL, ren, i64V, m6, m6']
      · have h5 := hrn _ hρ (acc ++ [(k, d, b)])
        simp only [renBox]
        rw [h5, hr1]
        simp [upd, byteV]
      · obtain ⟨h2, h3⟩ := hkeys p hp
        refine bodB_wk (k := 2000) (l := acc) (ρ := fun i => if i = 500 then 27 else i) ?_ (fun i h1 _ => hρ i h1) p hp
        intro i r hi
        have hil := (List.getElem?_eq_some_iff.1 hi).1
        have e1 : (2000 + i = 27) = False := eq_false (by omega)
        have e2 : (2000 + i = 8) = False := eq_false (by omega)
        have e3 : (6 = 2000 + i) = False := eq_false (by omega)
        have e4 : (2000 + i = 6) = False := eq_false (by omega)
        have e5 : (m = 2000 + i) = False := eq_false (by omega)
        have e6 : (500 = 2000 + i) = False := eq_false (by omega)
        have e7 : (2000 + i = 500) = False := eq_false (by omega)
        have e8 : (2000 + i = 26) = False := eq_false (by omega)
        simp [upd, e1, e2, e3, e4, e5, e6, e7, e8, hlk i r hi]
      · simp [upd, renBox, m5, m27, m8, m6', renL_id _ _ (refsL_bytes b), m26, m5]
      · cases hp
    · rw [hb1]
      intro p hp q hq h
      simp only [List.mem_cons, List.mem_append] at hp hq
      have ran : ∀ p : Nat × Box, (p = (8, .mut 24 [byteV k, byteV d, .bs m 1 0 b.length]) ∨ p = (6, .mut 3 [i64V ((at_ + n : Nat) : Int)]) ∨ p = (500, .mut 24 (rowB 2000 (acc ++ [(k, d, b)]))) ∨ p ∈ bodB 2000 acc ∨ p = (m, Box.mut 5 (b.map byteV)) ∨ p ∈ ([] : List (Nat × Box))) → p.1 = 8 ∨ p.1 = 6 ∨ p.1 = 500 ∨ 2000 ≤ p.1 := by
        rintro p (rfl | rfl | rfl | hp | rfl | hp)
        · exact .inl rfl
        · exact .inr (.inl rfl)
        · exact .inr (.inr (.inl rfl))
        · exact .inr (.inr (.inr (hkeys p hp).1))
        · exact .inr (.inr (.inr (by simp only; omega)))
        · cases hp
      have r1 := ran p hp
      have r2 := ran q hq
      simp only at h
      split at h <;> split at h <;> omega
    · simp [AV.refs, refsL, i64V, hBr]
    · rw [hb1]
      intro p hp i hi
      simp only [List.mem_cons, List.mem_append] at hp
      simp only [List.map_cons, List.map_append, List.mem_cons, List.mem_append]
      rcases hp with rfl | rfl | rfl | hp | rfl | hp
      · simp [Box.refs, refsL, AV.refs, byteV] at hi
        subst hi
        exact .inr (.inr (.inr (.inr (.inl rfl))))
      · simp [Box.refs, refsL, AV.refs, i64V] at hi
      · simp only [Box.refs, hr1, refsL_append, List.mem_append, rowB_refs] at hi
        rcases hi with hi | hi
        · exact .inr (.inr (.inr (.inl ((bodB_keys 2000 acc i).2 (by omega)))))
        · simp [refsL, AV.refs, byteV] at hi
          subst hi
          exact .inr (.inr (.inr (.inr (.inl rfl))))
      · obtain ⟨_, _, r, _, h4⟩ := bodB_mem hp
        rw [h4] at hi
        simp [Box.refs, refsL_bytes] at hi
      · simp [Box.refs, refsL_bytes] at hi
      · cases hp
    · intro i hi
      simp
      omega
    obtain ⟨A, hA⟩ : ∃ A, A = acc ++ [(k, d, b)] := ⟨_, rfl⟩
    have hAl : A.length = acc.length + 1 := by rw [hA]; simp
    rw [← hA, ← hAl]
    refine W_seq_k fun K7 hK7 hE7 => W_region (by decide) ?_
    repeat (rw [vcn]; try simp [optK_some, optK_none, optK_ite, optK_map, optK_bind, gOn, stepK, isMem, evPure, evMem, evBin, evUn, evConv, evLen, evBuiltin, evMinMax, evSlice, evBuild, evAppend, evIndex, evIndexAddr, evField, evFieldAddr, intBin, strBin, appDest, AS.val, AS.mem, AS.elems, AS.put, AS.put', AS.eff, AV.cells?, AV.isCell, AV.refs, all_isByte, take_byteV, drop_byteV, strOf_map, -List.map_take, -List.map_drop, bndOk, bnd, partAV, ptrAdd, killBox, catA, inOrder, fillA, setAt, ofVal, entry, resB, upd, byteV, List.head?_take, List.head?_drop, List.getElem?_map, lk, mkS])
    refine hK7 _ (W_cond rfl (fun hc => ?_) (fun hc => ?_))
    · have hk : k = 4 := by
        have : (k.toNat : Int) = 4 := by simpa using hc
        exact UInt8.toNat_inj.1 (by simpa using (by omega : k.toNat = 4))
      subst hk
      have hrec : recs bs = .ok (A, bs.drop (at_ + n)) := by
        rw [hI, recs_eq, hn, hA]
        simp [preR, List.drop_drop]
      refine W_exit (c3 0 _ (by decide) (b2 _ (hK _ ?_)))
      clear hK7 hE7 K7 hK6 hE6 K6 hK5 hE5 K5 hK4 hE4 K4 hK3 hE3 K3 c1 c2 c3 c4 c5 K2 b1 b2 b3 b4 b5 K1 hK hE K
      refine W_wk [(1, .ip [B]), (5, .bs 500 3 0 A.length), (6, .bp 6 0)] ((6, .mut 3 [i64V ((at_ + n : Nat) : Int)]) :: (500, .mut 24 (rowB 2000 A)) :: bodB 2000 A) id ⟨?_, ?_, ?_, ?_, ?_, ?_⟩ ?_
      · simp [upd, resB, ren, renL, i64V, lk]
      · intro p hp
        simp only [List.mem_cons] at hp
        rcases hp with rfl | rfl | hp
        · simp [upd, renBox, renL, ren, i64V]
        · simp [upd, renBox, rowB_id]
        · refine bod_id (fun i hi => ?_) p hp
          have e1 : (8 = i) = False := eq_false (by omega)
          have e2 : (6 = i) = False := eq_false (by omega)
          have e3 : (500 = i) = False := eq_false (by omega)
          simp [e1, e2, e3]
      · exact fun p _ q _ h => h
      · simp [AV.refs, refsL, i64V, hBr]
      · exact bod_refs [(6, .mut 3 [i64V ((at_ + n : Nat) : Int)])] A (by simp [Box.refs, refsL, AV.refs, i64V])
      · exact fun _ _ => rfl
      subst hB
      refine W_seq_k fun K hK hE => W_seq_k fun K1 hK1 hE1 => W_region (by decide) ?_
      obtain ⟨q, hq⟩ : ∃ q, q = bs.drop (at_ + n) := ⟨_, rfl⟩
      have hql : q.length = bs.length - (at_ + n) := by rw [hq, List.length_drop]
      have hal' : at_ + n ≤ bs.length := by omega
      have hcast : ((at_ : Int) + (n : Int)).toNat = at_ + n := by omega
      have h0 : (0 : Int) ≤ (at_ : Int) + (n : Int) := by omega
      repeat (rw [vcn]; try simp [optK_some, optK_none, optK_ite, optK_map, optK_bind, gOn, stepK, isMem, evPure, evMem, evBin, evUn, evConv, evLen, evBuiltin, evMinMax, evSlice, evBuild, evAppend, evIndex, evIndexAddr, evField, evFieldAddr, intBin, strBin, appDest, AS.val, AS.mem, AS.elems, AS.put, AS.put', AS.eff, AV.cells?, AV.isCell, AV.refs, all_isByte, take_byteV, drop_byteV, strOf_map, -List.map_take, -List.map_drop, bndOk, bnd, partAV, ptrAdd, killBox, catA, inOrder, fillA, setAt, ofVal, entry, resB, upd, byteV, List.head?_take, List.head?_drop, List.getElem?_map, lk, mkS, hal', i64V, hcast, h0])
      refine hK1 _ ?_
      clear hK1 hE1 K1
      have htk : List.take (bs.length - (at_ + n)) (List.drop (at_ + n) (bs.map byteV)) = q.map byteV := by
        rw [drop_byteV, ← hq, ← hql, List.take_of_length_le (by simp)]
      refine W_block_k fun K1 b1 b2 b3 b4 b5 => ?_
      refine W_loop (X := Nat) (fun i => [(5, .bs 500 3 0 A.length), (6, .bp 6 0), (33, .slc false 1 q.length (q.map byteV)), (34, i64V q.length), (35, i64V i)])
        (fun _ => (6, .mut 3 [i64V ((at_ + n : Nat) : Int)]) :: (500, .mut 24 (rowB 2000 A)) :: bodB 2000 A)
        (fun i => q.length - i) (fun i => i ≤ q.length ∧ (q.take i).all (· = 0) = true) 0 id ⟨by simp, by simp⟩ ⟨?_, ?_, ?_, ?_, ?_, ?_⟩ fun i hi => ?_
      · simp [upd, resB, ren, renL, i64V, lk, htk, hql]
      · intro p hp
        simp only [List.mem_cons] at hp
        rcases hp with rfl | rfl | hp
        · simp [upd, renBox, renL, ren, i64V]
        · simp [upd, renBox, rowB_id]
        · refine bod_id (fun i hi => ?_) p hp
          have e2 : (6 = i) = False := eq_false (by omega)
          have e3 : (500 = i) = False := eq_false (by omega)
          simp [e2, e3]
      · exact fun p _ q _ h => h
      · simp [AV.refs, refsL, i64V]
      · exact bod_refs [(6, .mut 3 [i64V ((at_ + n : Nat) : Int)])] A (by simp [Box.refs, refsL, AV.refs, i64V])
      · exact fun _ _ => rfl
      obtain ⟨hi1, hi2⟩ := hi
      refine W_seq_k fun K2 hK2 hE2 => W_region (by decide) ?_
      repeat (rw [vcn]; try simp [optK_some, optK_none, optK_ite, optK_map, optK_bind, gOn, stepK, isMem, evPure, evMem, evBin, evUn, evConv, evLen, evBuiltin, evMinMax, evSlice, evBuild, evAppend, evIndex, evIndexAddr, evField, evFieldAddr, intBin, strBin, appDest, AS.val, AS.mem, AS.elems, AS.put, AS.put', AS.eff, AV.cells?, AV.isCell, AV.refs, all_isByte, take_byteV, drop_byteV, strOf_map, -List.map_take, -List.map_drop, bndOk, bnd, partAV, ptrAdd, killBox, catA, inOrder, fillA, setAt, ofVal, entry, resB, upd, byteV, List.head?_take, List.head?_drop, List.getElem?_map, lk, mkS, i64V])
      refine hK2 _ (W_seq_k fun K3 hK3 hE3 => W_cond rfl (fun hc => ?_) (fun hc => ?_))
      · have hlt : i < q.length := by simp at hc; omega
        refine W_skip (hK3 _ (W_seq_k fun K4 hK4 hE4 => W_block_k fun K5 c1 c2 c3 c4 c5 => ?_))
        have hgi : q[i]? = some q[i] := List.getElem?_eq_getElem hlt
        refine W_seq_k fun K6 hK6 hE6 => W_region (by decide) ?_
        repeat (rw [vcn]; try simp [optK_some, optK_none, optK_ite, optK_map, optK_bind, gOn, stepK, isMem, evPure, evMem, evBin, evUn, evConv, evLen, evBuiltin, evMinMax, evSlice, evBuild, evAppend, evIndex, evIndexAddr, evField, evFieldAddr, intBin, strBin, appDest, AS.val, AS.mem, AS.elems, AS.put, AS.put', AS.eff, AV.cells?, AV.isCell, AV.refs, all_isByte, take_byteV, drop_byteV, strOf_map, -List.map_take, -List.map_drop, bndOk, bnd, partAV, ptrAdd, killBox, catA, inOrder, fillA, setAt, ofVal, entry, resB, upd, byteV, List.head?_take, List.head?_drop, List.getElem?_map, lk, hlt, hgi])
        refine hK6 _ (W_seq_k fun K7 hK7 hE7 => W_region (by decide) ?_)
        repeat (rw [vcn]; try simp [optK_some, optK_none, optK_ite, optK_map, optK_bind, gOn, stepK, isMem, evPure, evMem, evBin, evUn, evConv, evLen, evBuiltin, evMinMax, evSlice, evBuild, evAppend, evIndex, evIndexAddr, evField, evFieldAddr, intBin, strBin, appDest, AS.val, AS.mem, AS.elems, AS.put, AS.put', AS.eff, AV.cells?, AV.isCell, AV.refs, all_isByte, take_byteV, drop_byteV, strOf_map, -List.map_take, -List.map_drop, bndOk, bnd, partAV, ptrAdd, killBox, catA, inOrder, fillA, setAt, ofVal, entry, resB, upd, byteV, List.head?_take, List.head?_drop, List.getElem?_map, lk])
        refine hK7 _ (W_cond rfl (fun hc2 => ?_) (fun hc2 => ?_))
        · have hne : ¬ q[i] = 0 := by
            intro he
            rw [he] at hc2
            simp at hc2
          refine W_seq_k fun K8 hK8 hE8 => W_region (by decide) ?_
          repeat (rw [vcn]; try simp [optK_some, optK_none, optK_ite, optK_map, optK_bind, gOn, stepK, isMem, evPure, evMem, evBin, evUn, evConv, evLen, evBuiltin, evMinMax, evSlice, evBuild, evAppend, evIndex, evIndexAddr, evField, evFieldAddr, intBin, strBin, appDest, AS.val, AS.mem, AS.elems, AS.put, AS.put', AS.eff, AV.cells?, AV.isCell, AV.refs, all_isByte, take_byteV, drop_byteV, strOf_map, -List.map_take, -List.map_drop, bndOk, bnd, partAV, ptrAdd, killBox, catA, inOrder, fillA, setAt, ofVal, entry, resB, upd, byteV, List.head?_take, List.head?_drop, List.getElem?_map, lk])
          have hsp : splitSpec bs = .error 4 := by
            rw [splitSpec, if_neg h1, hrec]
            simp only [← hq]
            rw [if_neg]
            intro hall
            rw [List.all_eq_true] at hall
            have := hall q[i] (List.getElem_mem _)
            exact hne (by simpa using this)
          refine hK8 _ (W_ret (c4 _ (hE4 _ _ (by simp) (b4 _ (hE _ _ (by simp) ?_)))))
          simp [postB, resAV, resAll, resOne, resD, resDL, optK_some, optK_none, optK_ite, optK_map, optK_bind, gOn, stepK, isMem, evPure, evMem, evBin, evUn, evConv, evLen, evBuiltin, evMinMax, evSlice, evBuild, evAppend, evIndex, evIndexAddr, evField, evFieldAddr, intBin, strBin, appDest, AS.val, AS.mem, AS.elems, AS.put, AS.put', AS.eff, AV.cells?, AV.isCell, AV.refs, all_isByte, take_byteV, drop_byteV, strOf_map, -List.map_take, -List.map_drop, bndOk, bnd, partAV, ptrAdd, killBox, catA, inOrder, fillA, setAt, ofVal, entry, resB, upd, byteV, List.head?_take, List.head?_drop, List.getElem?_map, splitQ, hsp, i64V, refsL]
        · have hze : q[i] = 0 := by
            have : (q[i].toNat : Int) = 0 := by simpa using hc2
            exact UInt8.toNat_inj.1 (by simpa using (by omega : q[i].toNat = 0))
          refine W_skip (c1 _ (hK4 _ (W_region (by decide) ?_)))
          have hw : IntKind.i64.wrap ((i : Int) + 1) = ((i + 1 : Nat) : Int) := by rw [i64_in _ (by omega)]; omega
          repeat (rw [vcn]; try simp [optK_some, optK_none, optK_ite, optK_map, optK_bind, gOn, stepK, isMem, evPure, evMem, evBin, evUn, evConv, evLen, evBuiltin, evMinMax, evSlice, evBuild, evAppend, evIndex, evIndexAddr, evField, evFieldAddr, intBin, strBin, appDest, AS.val, AS.mem, AS.elems, AS.put, AS.put', AS.eff, AV.cells?, AV.isCell, AV.refs, all_isByte, take_byteV, drop_byteV, strOf_map, -List.map_take, -List.map_drop, bndOk, bnd, partAV, ptrAdd, killBox, catA, inOrder, fillA, setAt, ofVal, entry, resB, upd, byteV, List.head?_take, List.head?_drop, List.getElem?_map, lk, hw])
          refine ⟨i + 1, by omega, ⟨by omega, ?_⟩, id, ?_, ?_, ?_, ?_, ?_, ?_⟩
          · have hi3 : ∀ x ∈ q.take i, x = 0 := by simpa [List.all_eq_true] using hi2
            have hi4 : ∀ x ∈ q.take (i + 1), x = 0 := by
              intro x hx
              rw [List.take_add_one, hgi] at hx
              simp only [Option.toList, List.mem_append, List.mem_singleton] at hx
              rcases hx with hx | hx
              · exact hi3 x hx
              · rw [hx]; exact hze
            simpa [List.all_eq_true] using hi4
          · simp [upd, resB, ren, renL, i64V, lk]
          · intro p hp
            simp only [List.mem_cons] at hp
            rcases hp with rfl | rfl | hp
            · simp [upd, renBox, renL, ren, i64V]
            · simp [upd, renBox, rowB_id]
            · refine bod_id (fun i hi => ?_) p hp
              have e2 : (6 = i) = False := eq_false (by omega)
              have e3 : (500 = i) = False := eq_false (by omega)
              simp [e2, e3]
          · exact fun p _ q _ h => h
          · simp [AV.refs, refsL, i64V]
          · exact bod_refs [(6, .mut 3 [i64V ((at_ + n : Nat) : Int)])] A (by simp [Box.refs, refsL, AV.refs, i64V])
          · exact fun _ _ => rfl
      · have hlt : i = q.length := by simp at hc; omega
        subst hlt
        have hsp : splitSpec bs = .ok (A, at_ + n) := by
          rw [splitSpec, if_neg h1, hrec]
          simp only [← hq]
          rw [List.take_length] at hi2
          rw [if_pos hi2, hql]
          congr 2
          omega
        refine W_exit (hE3 _ _ (by simp) (b2 _ (hK _ ?_)))
        clear hK3 hE3 K3 hK2 hE2 K2 b1 b2 b3 b4 b5 K1 hK hE K
        refine W_seq_k fun K hK hE => W_drawn mixed (by decide) (by kernel_rfl) ?_
        repeat (rw [vcnD]; try simp [optK_some, optK_none, optK_ite, optK_map, optK_bind, gOn, stepK, isMem, evPure, evMem, evBin, evUn, evConv, evLen, evBuiltin, evMinMax, evSlice, evBuild, evAppend, evIndex, evIndexAddr, evField, evFieldAddr, intBin, strBin, appDest, AS.val, AS.mem, AS.elems, AS.put, AS.put', AS.eff, AV.cells?, AV.isCell, AV.refs, all_isByte, take_byteV, drop_byteV, strOf_map, -List.map_take, -List.map_drop, bndOk, bnd, partAV, ptrAdd, killBox, catA, inOrder, fillA, setAt, ofVal, resB, upd, byteV, List.head?_take, List.head?_drop, List.getElem?_map, mkS_env, mkS_box, mkS_used, entry_env, entry_box, entry_used, lk, stepD, lookIds, Oper.looksAt, Op.operands, Call.operands, St.ids, refsL, lk])
        repeat' apply And.intro
        all_goals try first | omega | kernel_rfl
        refine hK _ (W_ret ?_)
        have hbA : ∀ i r, A[i]? = some r → lk (bodB 2000 A) (2000 + i) = some (.mut 5 (r.2.2.map byteV)) := lk_bod 2000 A
        simp [postB, resAV, resAll, resOne, resD, resDL, optK_some, optK_none, optK_ite, optK_map, optK_bind, gOn, stepK, isMem, evPure, evMem, evBin, evUn, evConv, evLen, evBuiltin, evMinMax, evSlice, evBuild, evAppend, evIndex, evIndexAddr, evField, evFieldAddr, intBin, strBin, appDest, AS.val, AS.mem, AS.elems, AS.put, AS.put', AS.eff, AV.cells?, AV.isCell, AV.refs, all_isByte, take_byteV, drop_byteV, strOf_map, -List.map_take, -List.map_drop, bndOk, bnd, partAV, ptrAdd, killBox, catA, inOrder, fillA, setAt, ofVal, entry, resB, upd, byteV, List.head?_take, List.head?_drop, List.getElem?_map, splitQ, hsp, i64V, refsL]
        intro i r1 r2 r3 hi
        have e2 : (6 = 2000 + i) = False := eq_false (by omega)
        have e3 : (500 = 2000 + i) = False := eq_false (by omega)
        simp [e2, e3, hbA i (r1, r2, r3) hi]
    · have hk : k ≠ 4 := by
        rintro rfl
        simp at hc
      refine W_skip (c1 _ ⟨(A, at_ + n), by simp; omega, ⟨by simp; omega, by simp; omega, ?_⟩, id, ?_, ?_, ?_, ?_, ?_, ?_⟩)
      · rw [hI, recs_eq, hn, hA]
        simp only [if_neg hk, List.drop_drop]
        cases recs (bs.drop (at_ + n)) with
        | error e => rfl
        | ok p => simp [preR]
      · simp [upd, resB, ren, renL, i64V, lk]
      · intro p hp
        simp only [List.mem_cons] at hp
        rcases hp with rfl | rfl | hp
        · simp [upd, renBox, renL, ren, i64V]
        · simp [upd, renBox, rowB_id]
        · refine bod_id (fun i hi => ?_) p hp
          have e1 : (8 = i) = False := eq_false (by omega)
          have e2 : (6 = i) = False := eq_false (by omega)
          have e3 : (500 = i) = False := eq_false (by omega)
          simp [e1, e2, e3]
      · exact fun p _ q _ h => h
      · simp [AV.refs, refsL, i64V, hBr]
      · exact bod_refs [(6, .mut 3 [i64V ((at_ + n : Nat) : Int)])] A (by simp [Box.refs, refsL, AV.refs, i64V])
      · exact fun _ _ => rfl
end Go.Fw

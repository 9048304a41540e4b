import Derived.Test.YtjgbikhnnkigpaaT2
set_option linter.unusedSimpArgs false
set_option linter.unusedVariables false
namespace Go.Fw
open Go Go.Proofs Go.IntWalk
abbrev Rec := UInt8 × UInt8 × List UInt8
theorem nextRec_ok {r : List UInt8} {k d : UInt8} {b : List UInt8} {n : Nat} (h : nextRec r = .ok (k, d, b, n)) : 4 ≤ n ∧ n ≤ r.length ∧ n % 2 = 0 ∧ b = (r.take n).drop 4 ∧ k = r.getD 2 0 ∧ d = r.getD 3 0 := by
  unfold nextRec at h
  split at h
  · cases h
  · simp only at h
    split at h
    · cases h
    · split at h
      · cases h
      · cases h
        refine ⟨by omega, by omega, by omega, rfl, rfl, rfl⟩
theorem nextRec_err {r : List UInt8} {e : Int} (h : nextRec r = .error e) : e ≠ 0 := by
  unfold nextRec at h
  split at h
  · cases h; decide
  · simp only at h
    split at h
    · cases h; decide
    · split at h
      · cases h; decide
      · cases h
def recsF : Nat → List UInt8 → Except Int (List Rec × List UInt8)
  | 0, _ => .error 7
  | f + 1, r => match nextRec r with
    | .error e => .error e
    | .ok (k, d, b, n) => if k = 4 then .ok ([(k, d, b)], r.drop n) else match recsF f (r.drop n) with
      | .ok (l, q) => .ok ((k, d, b) :: l, q)
      | .error e => .error e
theorem recsF_fuel : ∀ (f g : Nat) (r : List UInt8), r.length ≤ f → r.length ≤ g → recsF f r = recsF g r
  | 0, 0, _, _, _ => rfl
  | 0, g + 1, r, h, _ => by
    have : r = [] := List.eq_nil_of_length_eq_zero (by omega)
    subst this
    rfl
  | f + 1, 0, r, _, h => by
    have : r = [] := List.eq_nil_of_length_eq_zero (by omega)
    subst this
    rfl
  | f + 1, g + 1, r, h, h' => by
    simp only [recsF]
    cases hn : nextRec r with
    | error e => rfl
    | ok p =>
      obtain ⟨k, d, b, n⟩ := p
      obtain ⟨h1, h2, _⟩ := nextRec_ok hn
      simp only
      rw [recsF_fuel f g (r.drop n) (by rw [List.length_drop]; omega) (by rw [List.length_drop]; omega)]
def recs (r : List UInt8) : Except Int (List Rec × List UInt8) := recsF r.length r
theorem recs_eq (r : List UInt8) : recs r = match nextRec r with
    | .error e => .error e
    | .ok (k, d, b, n) => if k = 4 then .ok ([(k, d, b)], r.drop n) else match recs (r.drop n) with
      | .ok (l, q) => .ok ((k, d, b) :: l, q)
      | .error e => .error e := by
  unfold recs
  rw [recsF_fuel r.length (r.length + 1) r (Nat.le_refl _) (Nat.le_succ _)]
  simp only [recsF]
  cases hn : nextRec r with
  | error e => rfl
  | ok p =>
    obtain ⟨k, d, b, n⟩ := p
    obtain ⟨h1, h2, _⟩ := nextRec_ok hn
    simp only
    rw [recsF_fuel r.length (r.drop n).length (r.drop n) (by rw [List.length_drop]; omega) (Nat.le_refl _)]
def splitSpec (bs : List UInt8) : Except Int (List Rec × Nat) :=
  if 16777216 < bs.length then .error 2 else match recs bs with
    | .error e => .error e
    | .ok (l, q) => if q.all (· = 0) = true then .ok (l, bs.length - q.length) else .error 4
def recCells (r : Rec) : List AV := [byteV r.1, byteV r.2.1, .slc false 1 r.2.2.length (r.2.2.map byteV)]
def recsCells (l : List Rec) : List AV := l.flatMap recCells
def splitAV (bs : List UInt8) : AV := match splitSpec bs with
  | .error e => .tup [.v (.slice none 0 0), i64V 0, i64V e]
  | .ok (l, n) => .tup [.slc false 3 l.length (recsCells l), i64V n, i64V 0]
theorem recsCells_len (l : List Rec) : (recsCells l).length = l.length * 3 := by
  induction l with
  | nil => rfl
  | cons a l ih => simp only [recsCells, List.flatMap_cons, List.length_append] at ih ⊢; rw [ih]; simp [recCells]; omega
theorem recsCells_refs (l : List Rec) : refsL (recsCells l) = [] := by
  induction l with
  | nil => rfl
  | cons a l ih => simp only [recsCells, List.flatMap_cons] at ih ⊢; rw [refsL_append, ih]; rfl
def preR (a : List Rec) : Except Int (List Rec × List UInt8) → Except Int (List Rec × List UInt8)
  | .ok (l, q) => .ok (a ++ l, q)
  | .error e => .error e
set_option linter.unusedSimpArgs false
set_option maxRecDepth 100000
theorem eval19 (f : Bool) (bs : List UInt8) (hs : bs.length ≤ 50000000) : Eval Try.prog 19 [.slc f 1 bs.length (bs.map byteV)] (.ret (splitAV bs)) := by
  refine Eval.intro Try.func19 rfl Try.call19 _ _ (Nat.le_of_ble_eq_true rfl) (by simp [AV.refs]) fun hs0 => ?_
  refine W_seq_k fun K hK hE => W_region (by decide) ?_
  repeat (rw [vcn]; try simp [optK_some, optK_none, optK_ite, optK_map, optK_bind, gOn, stepK, isMem, evPure, evMem, evBin, evUn, evConv, evLen, evBuiltin, evMinMax, evSlice, evBuild, evAppend, evIndex, evIndexAddr, evField, evFieldAddr, intBin, strBin, appDest, AS.val, AS.mem, AS.elems, AS.put, AS.put', AS.eff, AV.cells?, AV.isCell, AV.refs, all_isByte, take_byteV, drop_byteV, strOf_map, -List.map_take, -List.map_drop, bndOk, bnd, partAV, ptrAdd, killBox, catA, inOrder, fillA, setAt, ofVal, entry, resB, upd, byteV, List.head?_take, List.head?_drop, List.getElem?_map, lk])
  first | refine hK _ ?_ | refine ⟨by omega, hK _ ?_⟩ | refine ⟨by simp [strOf_map, byteV, AV.isByte]; try omega, hK _ ?_⟩ | trace_state
  clear hK hE K
  refine W_frz 1 rfl (by simp [AV.refs]) ?_
  refine W_seq_k fun K hK hE => ?_
  refine W_seq_k fun K hK hE => W_region (by decide) ?_
  repeat (rw [vcn]; try simp [optK_some, optK_none, optK_ite, optK_map, optK_bind, gOn, stepK, isMem, evPure, evMem, evBin, evUn, evConv, evLen, evBuiltin, evMinMax, evSlice, evBuild, evAppend, evIndex, evIndexAddr, evField, evFieldAddr, intBin, strBin, appDest, AS.val, AS.mem, AS.elems, AS.put, AS.put', AS.eff, AV.cells?, AV.isCell, AV.refs, all_isByte, take_byteV, drop_byteV, strOf_map, -List.map_take, -List.map_drop, bndOk, bnd, partAV, ptrAdd, killBox, catA, inOrder, fillA, setAt, ofVal, entry, resB, upd, byteV, List.head?_take, List.head?_drop, List.getElem?_map, lk])
  first | refine hK _ ?_ | refine ⟨by omega, hK _ ?_⟩ | refine ⟨by simp [strOf_map, byteV, AV.isByte]; try omega, hK _ ?_⟩ | trace_state
  clear hK hE K
  refine W_cond rfl (fun hc => ?_) (fun hc => ?_)
  · refine W_seq_k fun K1 hK1 _ => W_region (by decide) ?_
    repeat (rw [vcn]; try simp [optK_some, optK_none, optK_ite, optK_map, optK_bind, gOn, stepK, isMem, evPure, evMem, evBin, evUn, evConv, evLen, evBuiltin, evMinMax, evSlice, evBuild, evAppend, evIndex, evIndexAddr, evField, evFieldAddr, intBin, strBin, appDest, AS.val, AS.mem, AS.elems, AS.put, AS.put', AS.eff, AV.cells?, AV.isCell, AV.refs, all_isByte, take_byteV, drop_byteV, strOf_map, -List.map_take, -List.map_drop, bndOk, bnd, partAV, ptrAdd, killBox, catA, inOrder, fillA, setAt, ofVal, entry, resB, upd, byteV, List.head?_take, List.head?_drop, List.getElem?_map, lk])
    refine hK1 _ (W_ret (hE _ _ (by simp) ?_))
    have h1 : 16777216 < bs.length := by simp at hc; omega
    simp [post, resAV, resAll, resOne, closeV, closeC, closeL, resD, resDL, optK_some, optK_none, optK_ite, optK_map, optK_bind, gOn, stepK, isMem, evPure, evMem, evBin, evUn, evConv, evLen, evBuiltin, evMinMax, evSlice, evBuild, evAppend, evIndex, evIndexAddr, evField, evFieldAddr, intBin, strBin, appDest, AS.val, AS.mem, AS.elems, AS.put, AS.put', AS.eff, AV.cells?, AV.isCell, AV.refs, all_isByte, take_byteV, drop_byteV, strOf_map, -List.map_take, -List.map_drop, bndOk, bnd, partAV, ptrAdd, killBox, catA, inOrder, fillA, setAt, ofVal, entry, resB, upd, byteV, List.head?_take, List.head?_drop, List.getElem?_map, splitAV, splitSpec, h1, i64V, refsL]
  have h1 : ¬ 16777216 < bs.length := by simp at hc; omega
  first | refine hK _ ?_ | refine ⟨by omega, hK _ ?_⟩ | refine W_skip (hK _ ?_) | trace_state
  clear hK hE K
  refine W_seq_k fun K hK hE => W_region (by decide) ?_
  repeat (rw [vcn]; try simp [optK_some, optK_none, optK_ite, optK_map, optK_bind, gOn, stepK, isMem, evPure, evMem, evBin, evUn, evConv, evLen, evBuiltin, evMinMax, evSlice, evBuild, evAppend, evIndex, evIndexAddr, evField, evFieldAddr, intBin, strBin, appDest, AS.val, AS.mem, AS.elems, AS.put, AS.put', AS.eff, AV.cells?, AV.isCell, AV.refs, all_isByte, take_byteV, drop_byteV, strOf_map, -List.map_take, -List.map_drop, bndOk, bnd, partAV, ptrAdd, killBox, catA, inOrder, fillA, setAt, ofVal, entry, resB, upd, byteV, List.head?_take, List.head?_drop, List.getElem?_map, lk])
  first | refine hK _ ?_ | refine ⟨by omega, hK _ ?_⟩ | refine ⟨by simp [strOf_map, byteV, AV.isByte]; try omega, hK _ ?_⟩ | trace_state
  clear hK hE K
  refine W_seq_k fun K hK hE => W_region (by decide) ?_
  repeat (rw [vcn]; try simp [optK_some, optK_none, optK_ite, optK_map, optK_bind, gOn, stepK, isMem, evPure, evMem, evBin, evUn, evConv, evLen, evBuiltin, evMinMax, evSlice, evBuild, evAppend, evIndex, evIndexAddr, evField, evFieldAddr, intBin, strBin, appDest, AS.val, AS.mem, AS.elems, AS.put, AS.put', AS.eff, AV.cells?, AV.isCell, AV.refs, all_isByte, take_byteV, drop_byteV, strOf_map, -List.map_take, -List.map_drop, bndOk, bnd, partAV, ptrAdd, killBox, catA, inOrder, fillA, setAt, ofVal, entry, resB, upd, byteV, List.head?_take, List.head?_drop, List.getElem?_map, lk])
  first | refine hK _ ?_ | refine ⟨by omega, hK _ ?_⟩ | refine ⟨by simp [strOf_map, byteV, AV.isByte]; try omega, hK _ ?_⟩ | trace_state
  clear hK hE K
  refine W_seq_k fun K hK hE => W_region (by decide) ?_
  repeat (rw [vcn]; try simp [optK_some, optK_none, optK_ite, optK_map, optK_bind, gOn, stepK, isMem, evPure, evMem, evBin, evUn, evConv, evLen, evBuiltin, evMinMax, evSlice, evBuild, evAppend, evIndex, evIndexAddr, evField, evFieldAddr, intBin, strBin, appDest, AS.val, AS.mem, AS.elems, AS.put, AS.put', AS.eff, AV.cells?, AV.isCell, AV.refs, all_isByte, take_byteV, drop_byteV, strOf_map, -List.map_take, -List.map_drop, bndOk, bnd, partAV, ptrAdd, killBox, catA, inOrder, fillA, setAt, ofVal, entry, resB, upd, byteV, List.head?_take, List.head?_drop, List.getElem?_map, lk])
  first | refine hK _ ?_ | refine ⟨by omega, hK _ ?_⟩ | refine ⟨by simp [strOf_map, byteV, AV.isByte]; try omega, hK _ ?_⟩ | trace_state
  clear hK hE K
  obtain ⟨B, hB⟩ : ∃ B, B = AV.slc f 1 bs.length (bs.map byteV) := ⟨_, rfl⟩
  have hBr : B.refs = [] := by rw [hB]; rfl
  rw [← hB]
  refine W_seq_k fun K hK hE => W_block_k fun K1 b1 b2 b3 b4 b5 => ?_
  refine W_nil 5 500 24 3 rfl (by simp) ?_
  refine W_loop (X := List Rec × Nat) (fun x => [(1, .ip [B]), (2, .v (.slice none 0 0)), (3, i64V 0), (5, .bs 500 3 0 x.1.length), (6, .bp 6 0), (7, .fn 56 [.ip [B], .bp 6 0])]) (fun x => [(6, .mut 3 [i64V x.2]), (500, .mut 24 (recsCells x.1))])
    (fun x => bs.length - x.2) (fun x => x.2 ≤ bs.length ∧ x.1.length * 4 ≤ x.2 ∧ recs bs = preR x.1 (recs (bs.drop x.2))) ([], 0) id ⟨by simp, by simp, ?_⟩ ⟨?_, ?_, ?_, ?_, ?_, ?_⟩ fun x hx => ?_
  · simp only [List.drop_zero]
    cases recs bs with
    | error e => rfl
    | ok p => rfl
  · simp [upd, resB, ren, renL, i64V]
  · simp [upd, lk, renBox, renL, ren, i64V, recsCells]
  · simp
  · simp [AV.refs, refsL, i64V, hBr]
  · simp [AV.refs, Box.refs, refsL, i64V, recsCells]
  · simp
  obtain ⟨acc, at_⟩ := x
  obtain ⟨ha, hal, hI⟩ := hx
  simp only at ha hal hI
  refine W_block_k fun K2 c1 c2 c3 c4 c5 => W_seq_k fun K3 hK3 hE3 => W_region (by decide) ?_
  repeat (rw [vcn]; try simp [optK_some, optK_none, optK_ite, optK_map, optK_bind, gOn, stepK, isMem, evPure, evMem, evBin, evUn, evConv, evLen, evBuiltin, evMinMax, evSlice, evBuild, evAppend, evIndex, evIndexAddr, evField, evFieldAddr, intBin, strBin, appDest, AS.val, AS.mem, AS.elems, AS.put, AS.put', AS.eff, AV.cells?, AV.isCell, AV.refs, all_isByte, take_byteV, drop_byteV, strOf_map, -List.map_take, -List.map_drop, bndOk, bnd, partAV, ptrAdd, killBox, catA, inOrder, fillA, setAt, ofVal, entry, resB, upd, byteV, List.head?_take, List.head?_drop, List.getElem?_map, lk, mkS])
  show CallV Try.prog 56 ([] ++ [AV.ip [B], AV.bp 6 0]) _ _
  have hwb := wb56 f bs at_ (by omega) ha
  rw [← hB] at hwb
  refine CallV.boxes [.ip [B], .bp 1000000 0] [(1000000, .mut 3 [i64V at_])] (fun i => if i = 1000000 then 6 else i) (by simp [ren, renL]) (by simp [renBox, ren, renL, i64V]) (by simp) (by simp [AV.refs]) (by simp [Box.refs, AV.refs, i64V]) hwb ?_
  intro out s' hq
  cases hn : nextRec (bs.drop at_) with
  | error e =>
    rw [hn] at hq
    obtain ⟨rfl, hq⟩ := hq
    refine ⟨[(6, .mut 3 [i64V at_])], fun i => if i = 6 then 1000000 else i, by simp [renBox, ren, renL, i64V, hq], by simp, by simp [Box.refs, AV.refs, i64V], by simp, .tup [noRec, i64V e], by simp [ren, renL, noRec, i64V, byteV], by simp [AV.refs, refsL, noRec, i64V, byteV], ?_⟩
    dsimp only
    repeat (rw [vcn]; try simp [optK_some, optK_none, optK_ite, optK_map, optK_bind, gOn, stepK, isMem, evPure, evMem, evBin, evUn, evConv, evLen, evBuiltin, evMinMax, evSlice, evBuild, evAppend, evIndex, evIndexAddr, evField, evFieldAddr, intBin, strBin, appDest, AS.val, AS.mem, AS.elems, AS.put, AS.put', AS.eff, AV.cells?, AV.isCell, AV.refs, all_isByte, take_byteV, drop_byteV, strOf_map, -List.map_take, -List.map_drop, bndOk, bnd, partAV, ptrAdd, killBox, catA, inOrder, fillA, setAt, ofVal, entry, resB, upd, byteV, List.head?_take, List.head?_drop, List.getElem?_map, lk, back, noRec, i64V])
    have he := nextRec_err hn
    have hspec : splitSpec bs = .error e := by
      have : recs (bs.drop at_) = .error e := by rw [recs_eq, hn]
      rw [splitSpec, if_neg h1, hI, this]
      rfl
    refine hK3 _ (W_seq_k fun K4 hK4 hE4 => W_seq_k fun K5 hK5 hE5 => W_region (by decide) ?_)
    repeat (rw [vcn]; try simp [optK_some, optK_none, optK_ite, optK_map, optK_bind, gOn, stepK, isMem, evPure, evMem, evBin, evUn, evConv, evLen, evBuiltin, evMinMax, evSlice, evBuild, evAppend, evIndex, evIndexAddr, evField, evFieldAddr, intBin, strBin, appDest, AS.val, AS.mem, AS.elems, AS.put, AS.put', AS.eff, AV.cells?, AV.isCell, AV.refs, all_isByte, take_byteV, drop_byteV, strOf_map, -List.map_take, -List.map_drop, bndOk, bnd, partAV, ptrAdd, killBox, catA, inOrder, fillA, setAt, ofVal, entry, resB, upd, byteV, List.head?_take, List.head?_drop, List.getElem?_map, lk])
    refine hK5 _ (W_cond (b := true) (by simp [optK_some, optK_none, optK_ite, optK_map, optK_bind, gOn, stepK, isMem, evPure, evMem, evBin, evUn, evConv, evLen, evBuiltin, evMinMax, evSlice, evBuild, evAppend, evIndex, evIndexAddr, evField, evFieldAddr, intBin, strBin, appDest, AS.val, AS.mem, AS.elems, AS.put, AS.put', AS.eff, AV.cells?, AV.isCell, AV.refs, all_isByte, take_byteV, drop_byteV, strOf_map, -List.map_take, -List.map_drop, bndOk, bnd, partAV, ptrAdd, killBox, catA, inOrder, fillA, setAt, ofVal, entry, resB, upd, byteV, List.head?_take, List.head?_drop, List.getElem?_map, he]) (fun _ => ?_) (fun hc => by cases hc))
    refine W_seq_k fun K6 hK6 hE6 => W_region (by decide) ?_
    repeat (rw [vcn]; try simp [optK_some, optK_none, optK_ite, optK_map, optK_bind, gOn, stepK, isMem, evPure, evMem, evBin, evUn, evConv, evLen, evBuiltin, evMinMax, evSlice, evBuild, evAppend, evIndex, evIndexAddr, evField, evFieldAddr, intBin, strBin, appDest, AS.val, AS.mem, AS.elems, AS.put, AS.put', AS.eff, AV.cells?, AV.isCell, AV.refs, all_isByte, take_byteV, drop_byteV, strOf_map, -List.map_take, -List.map_drop, bndOk, bnd, partAV, ptrAdd, killBox, catA, inOrder, fillA, setAt, ofVal, entry, resB, upd, byteV, List.head?_take, List.head?_drop, List.getElem?_map, lk])
    refine hK6 _ (W_ret (hE4 _ _ (by simp) (c4 _ (b4 _ (hE _ _ (by simp) ?_)))))
    simp [post, resAV, resAll, resOne, closeV, closeC, closeL, resD, resDL, optK_some, optK_none, optK_ite, optK_map, optK_bind, gOn, stepK, isMem, evPure, evMem, evBin, evUn, evConv, evLen, evBuiltin, evMinMax, evSlice, evBuild, evAppend, evIndex, evIndexAddr, evField, evFieldAddr, intBin, strBin, appDest, AS.val, AS.mem, AS.elems, AS.put, AS.put', AS.eff, AV.cells?, AV.isCell, AV.refs, all_isByte, take_byteV, drop_byteV, strOf_map, -List.map_take, -List.map_drop, bndOk, bnd, partAV, ptrAdd, killBox, catA, inOrder, fillA, setAt, ofVal, entry, resB, upd, byteV, List.head?_take, List.head?_drop, List.getElem?_map, splitAV, hspec, i64V, refsL]
  | ok p =>
    obtain ⟨k, d, b, n⟩ := p
    rw [hn] at hq
    obtain ⟨rfl, hq⟩ := hq
    refine ⟨[(6, .mut 3 [i64V ((at_ + n : Nat) : Int)])], fun i => if i = 6 then 1000000 else i, by simp [renBox, ren, renL, i64V, hq], by simp, by simp [Box.refs, AV.refs, i64V], by simp, .tup [recAV k d b, i64V 0], by simp [ren, renL, recAV, i64V, byteV], by simp [AV.refs, refsL, recAV, i64V, byteV], ?_⟩
    dsimp only
    repeat (rw [vcn]; try simp [optK_some, optK_none, optK_ite, optK_map, optK_bind, gOn, stepK, isMem, evPure, evMem, evBin, evUn, evConv, evLen, evBuiltin, evMinMax, evSlice, evBuild, evAppend, evIndex, evIndexAddr, evField, evFieldAddr, intBin, strBin, appDest, AS.val, AS.mem, AS.elems, AS.put, AS.put', AS.eff, AV.cells?, AV.isCell, AV.refs, all_isByte, take_byteV, drop_byteV, strOf_map, -List.map_take, -List.map_drop, bndOk, bnd, partAV, ptrAdd, killBox, catA, inOrder, fillA, setAt, ofVal, entry, resB, upd, byteV, List.head?_take, List.head?_drop, List.getElem?_map, lk, back, recAV, i64V])
    refine hK3 _ (W_seq_k fun K4 hK4 hE4 => W_seq_k fun K5 hK5 hE5 => W_region (by decide) ?_)
    repeat (rw [vcn]; try simp [optK_some, optK_none, optK_ite, optK_map, optK_bind, gOn, stepK, isMem, evPure, evMem, evBin, evUn, evConv, evLen, evBuiltin, evMinMax, evSlice, evBuild, evAppend, evIndex, evIndexAddr, evField, evFieldAddr, intBin, strBin, appDest, AS.val, AS.mem, AS.elems, AS.put, AS.put', AS.eff, AV.cells?, AV.isCell, AV.refs, all_isByte, take_byteV, drop_byteV, strOf_map, -List.map_take, -List.map_drop, bndOk, bnd, partAV, ptrAdd, killBox, catA, inOrder, fillA, setAt, ofVal, entry, resB, upd, byteV, List.head?_take, List.head?_drop, List.getElem?_map, lk])
    refine hK5 _ (W_cond (b := false) (by simp [optK_some, optK_none, optK_ite, optK_map, optK_bind, gOn, stepK, isMem, evPure, evMem, evBin, evUn, evConv, evLen, evBuiltin, evMinMax, evSlice, evBuild, evAppend, evIndex, evIndexAddr, evField, evFieldAddr, intBin, strBin, appDest, AS.val, AS.mem, AS.elems, AS.put, AS.put', AS.eff, AV.cells?, AV.isCell, AV.refs, all_isByte, take_byteV, drop_byteV, strOf_map, -List.map_take, -List.map_drop, bndOk, bnd, partAV, ptrAdd, killBox, catA, inOrder, fillA, setAt, ofVal, entry, resB, upd, byteV, List.head?_take, List.head?_drop, List.getElem?_map]) (fun hc => by cases hc) (fun _ => W_skip (hK4 _ ?_)))
    refine W_seq_k fun K6 hK6 hE6 => W_region (by decide) ?_
    repeat (rw [vcn]; try simp [optK_some, optK_none, optK_ite, optK_map, optK_bind, gOn, stepK, isMem, evPure, evMem, evBin, evUn, evConv, evLen, evBuiltin, evMinMax, evSlice, evBuild, evAppend, evIndex, evIndexAddr, evField, evFieldAddr, intBin, strBin, appDest, AS.val, AS.mem, AS.elems, AS.put, AS.put', AS.eff, AV.cells?, AV.isCell, AV.refs, all_isByte, take_byteV, drop_byteV, strOf_map, -List.map_take, -List.map_drop, bndOk, bnd, partAV, ptrAdd, killBox, catA, inOrder, fillA, setAt, ofVal, entry, resB, upd, byteV, List.head?_take, List.head?_drop, List.getElem?_map, lk, recsCells_len])
    refine ⟨by omega, hK6 _ ?_⟩
    have hnl := nextRec_ok hn
    obtain ⟨n4, n5, -⟩ := hnl
    rw [List.length_drop] at n5
    have hcells : recsCells acc ++ recCells (k, d, b) = recsCells (acc ++ [(k, d, b)]) := by simp [recsCells]
    refine W_wk [(1, .ip [B]), (2, .v (.slice none 0 0)), (3, i64V 0), (5, .bs 500 3 0 (acc.length + 1)), (6, .bp 6 0), (7, .fn 56 [.ip [B], .bp 6 0]), (8, .bp 8 0)]
      [(6, .mut 3 [i64V ((at_ + n : Nat) : Int)]), (500, .mut 24 (recsCells (acc ++ [(k, d, b)]))), (8, .mut 24 (recCells (k, d, b)))] (fun i => if i = 500 then 27 else i) ⟨?_, ?_, ?_, ?_, ?_, ?_⟩ ?_
    · simp [upd, resB, ren, renL, i64V]
    · have hren : ∀ l : List Rec, renL (fun i => if i = 500 then 27 else i) (recsCells l) = recsCells l := by
        intro l
        induction l with
        | nil => rfl
        | cons a l ih => simp only [recsCells, List.flatMap_cons] at ih ⊢; simp [recCells, renL, ren, byteV, ih]
      simp [upd, renBox, hren]
      simp [renL, ren, i64V, recCells, byteV, ← hcells]
    · simp
    · simp [AV.refs, refsL, i64V, hBr]
    · simp [Box.refs, AV.refs, refsL, i64V, recsCells_refs, recCells, byteV]
    · intro i hi
      simp
      omega
    refine W_seq_k fun K7 hK7 hE7 => W_region (by decide) ?_
    repeat (rw [vcn]; try simp [optK_some, optK_none, optK_ite, optK_map, optK_bind, gOn, stepK, isMem, evPure, evMem, evBin, evUn, evConv, evLen, evBuiltin, evMinMax, evSlice, evBuild, evAppend, evIndex, evIndexAddr, evField, evFieldAddr, intBin, strBin, appDest, AS.val, AS.mem, AS.elems, AS.put, AS.put', AS.eff, AV.cells?, AV.isCell, AV.refs, all_isByte, take_byteV, drop_byteV, strOf_map, -List.map_take, -List.map_drop, bndOk, bnd, partAV, ptrAdd, killBox, catA, inOrder, fillA, setAt, ofVal, entry, resB, upd, byteV, List.head?_take, List.head?_drop, List.getElem?_map, lk, mkS, recCells])
    refine hK7 _ (W_cond rfl (fun hc => ?_) (fun hc => ?_))
    · have hk : k = 4 := by
        have : (k.toNat : Int) = 4 := by simpa using hc
        exact UInt8.toNat_inj.1 (by simpa using (by omega : k.toNat = 4))
      subst hk
      have hrec : recs bs = .ok (acc ++ [(4, d, b)], bs.drop (at_ + n)) := by
        rw [hI, recs_eq, hn]
        simp [preR, List.drop_drop]
      refine W_exit (c3 0 _ (by decide) (b2 _ (hK _ ?_)))
      clear hK7 hE7 K7 hK6 hE6 K6 hK5 hE5 K5 hK4 hE4 K4 hK3 hE3 K3 c1 c2 c3 c4 c5 K2 b1 b2 b3 b4 b5 K1 hK hE K
      refine W_wk [(1, .ip [B]), (5, .bs 500 3 0 (acc.length + 1)), (6, .bp 6 0)] [(6, .mut 3 [i64V ((at_ + n : Nat) : Int)]), (500, .mut 24 (recsCells (acc ++ [(4, d, b)])))] id ⟨?_, ?_, ?_, ?_, ?_, ?_⟩ ?_
      · simp [upd, resB, ren, renL, i64V, lk]
      · have hren : ∀ l : List Rec, renL id (recsCells l) = recsCells l := by
          intro l
          induction l with
          | nil => rfl
          | cons a l ih => simp only [recsCells, List.flatMap_cons] at ih ⊢; simp [recCells, renL, ren, byteV, ih]
        simp [upd, renBox, hren, lk]
        simp [renL, ren, i64V]
      · simp
      · simp [AV.refs, refsL, i64V, hBr]
      · simp [Box.refs, AV.refs, refsL, i64V, recsCells_refs]
      · simp
      subst hB
      refine W_seq_k fun K hK hE => W_seq_k fun K1 hK1 hE1 => W_region (by decide) ?_
      obtain ⟨q, hq⟩ : ∃ q, q = bs.drop (at_ + n) := ⟨_, rfl⟩
      have hql : q.length = bs.length - (at_ + n) := by rw [hq, List.length_drop]
      have hal' : at_ + n ≤ bs.length := by omega
      have hcast : ((at_ : Int) + (n : Int)).toNat = at_ + n := by omega
      have h0 : (0 : Int) ≤ (at_ : Int) + (n : Int) := by omega
      repeat (rw [vcn]; try simp [optK_some, optK_none, optK_ite, optK_map, optK_bind, gOn, stepK, isMem, evPure, evMem, evBin, evUn, evConv, evLen, evBuiltin, evMinMax, evSlice, evBuild, evAppend, evIndex, evIndexAddr, evField, evFieldAddr, intBin, strBin, appDest, AS.val, AS.mem, AS.elems, AS.put, AS.put', AS.eff, AV.cells?, AV.isCell, AV.refs, all_isByte, take_byteV, drop_byteV, strOf_map, -List.map_take, -List.map_drop, bndOk, bnd, partAV, ptrAdd, killBox, catA, inOrder, fillA, setAt, ofVal, entry, resB, upd, byteV, List.head?_take, List.head?_drop, List.getElem?_map, lk, mkS, hal', i64V, hcast, h0])
      refine hK1 _ ?_
      clear hK1 hE1 K1
      have htk : List.take (bs.length - (at_ + n)) (List.drop (at_ + n) (bs.map byteV)) = q.map byteV := by
        rw [drop_byteV, ← hq, ← hql, List.take_of_length_le (by simp)]
      refine W_block_k fun K1 b1 b2 b3 b4 b5 => ?_
      refine W_loop (X := Nat) (fun i => [(5, .bs 500 3 0 (acc.length + 1)), (6, .bp 6 0), (33, .slc false 1 q.length (q.map byteV)), (34, i64V q.length), (35, i64V i)])
        (fun _ => [(6, .mut 3 [i64V ((at_ + n : Nat) : Int)]), (500, .mut 24 (recsCells (acc ++ [(4, d, b)])))])
        (fun i => q.length - i) (fun i => i ≤ q.length ∧ (q.take i).all (· = 0) = true) 0 id ⟨by simp, by simp⟩ ⟨?_, ?_, ?_, ?_, ?_, ?_⟩ fun i hi => ?_
      · simp [upd, resB, ren, renL, i64V, lk, htk, hql]
        trace_state
      · have hren : ∀ l : List Rec, renL id (recsCells l) = recsCells l := by
          intro l
          induction l with
          | nil => rfl
          | cons a l ih => simp only [recsCells, List.flatMap_cons] at ih ⊢; simp [recCells, renL, ren, byteV, ih]
        simp [upd, renBox, hren, lk]
        simp [renL, ren, i64V]
      · simp
      · simp [AV.refs, refsL, i64V]
      · simp [Box.refs, AV.refs, refsL, i64V, recsCells_refs]
      · simp
      obtain ⟨hi1, hi2⟩ := hi
      refine W_seq_k fun K2 hK2 hE2 => W_region (by decide) ?_
      repeat (rw [vcn]; try simp [optK_some, optK_none, optK_ite, optK_map, optK_bind, gOn, stepK, isMem, evPure, evMem, evBin, evUn, evConv, evLen, evBuiltin, evMinMax, evSlice, evBuild, evAppend, evIndex, evIndexAddr, evField, evFieldAddr, intBin, strBin, appDest, AS.val, AS.mem, AS.elems, AS.put, AS.put', AS.eff, AV.cells?, AV.isCell, AV.refs, all_isByte, take_byteV, drop_byteV, strOf_map, -List.map_take, -List.map_drop, bndOk, bnd, partAV, ptrAdd, killBox, catA, inOrder, fillA, setAt, ofVal, entry, resB, upd, byteV, List.head?_take, List.head?_drop, List.getElem?_map, lk, mkS, i64V])
      refine hK2 _ (W_seq_k fun K3 hK3 hE3 => W_cond rfl (fun hc => ?_) (fun hc => ?_))
      · have hlt : i < q.length := by simp at hc; omega
        refine W_skip (hK3 _ (W_seq_k fun K4 hK4 hE4 => W_block_k fun K5 c1 c2 c3 c4 c5 => ?_))
        have hgi : q[i]? = some q[i] := List.getElem?_eq_getElem hlt
        refine W_seq_k fun K6 hK6 hE6 => W_region (by decide) ?_
        repeat (rw [vcn]; try simp [optK_some, optK_none, optK_ite, optK_map, optK_bind, gOn, stepK, isMem, evPure, evMem, evBin, evUn, evConv, evLen, evBuiltin, evMinMax, evSlice, evBuild, evAppend, evIndex, evIndexAddr, evField, evFieldAddr, intBin, strBin, appDest, AS.val, AS.mem, AS.elems, AS.put, AS.put', AS.eff, AV.cells?, AV.isCell, AV.refs, all_isByte, take_byteV, drop_byteV, strOf_map, -List.map_take, -List.map_drop, bndOk, bnd, partAV, ptrAdd, killBox, catA, inOrder, fillA, setAt, ofVal, entry, resB, upd, byteV, List.head?_take, List.head?_drop, List.getElem?_map, lk, hlt, hgi])
        refine hK6 _ (W_seq_k fun K7 hK7 hE7 => W_region (by decide) ?_)
        repeat (rw [vcn]; try simp [optK_some, optK_none, optK_ite, optK_map, optK_bind, gOn, stepK, isMem, evPure, evMem, evBin, evUn, evConv, evLen, evBuiltin, evMinMax, evSlice, evBuild, evAppend, evIndex, evIndexAddr, evField, evFieldAddr, intBin, strBin, appDest, AS.val, AS.mem, AS.elems, AS.put, AS.put', AS.eff, AV.cells?, AV.isCell, AV.refs, all_isByte, take_byteV, drop_byteV, strOf_map, -List.map_take, -List.map_drop, bndOk, bnd, partAV, ptrAdd, killBox, catA, inOrder, fillA, setAt, ofVal, entry, resB, upd, byteV, List.head?_take, List.head?_drop, List.getElem?_map, lk])
        refine hK7 _ (W_cond rfl (fun hc2 => ?_) (fun hc2 => ?_))
        · have hne : ¬ q[i] = 0 := by
            intro he
            rw [he] at hc2
            simp at hc2
          refine W_seq_k fun K8 hK8 hE8 => W_region (by decide) ?_
          repeat (rw [vcn]; try simp [optK_some, optK_none, optK_ite, optK_map, optK_bind, gOn, stepK, isMem, evPure, evMem, evBin, evUn, evConv, evLen, evBuiltin, evMinMax, evSlice, evBuild, evAppend, evIndex, evIndexAddr, evField, evFieldAddr, intBin, strBin, appDest, AS.val, AS.mem, AS.elems, AS.put, AS.put', AS.eff, AV.cells?, AV.isCell, AV.refs, all_isByte, take_byteV, drop_byteV, strOf_map, -List.map_take, -List.map_drop, bndOk, bnd, partAV, ptrAdd, killBox, catA, inOrder, fillA, setAt, ofVal, entry, resB, upd, byteV, List.head?_take, List.head?_drop, List.getElem?_map, lk])
          have hsp : splitSpec bs = .error 4 := by
            rw [splitSpec, if_neg h1, hrec]
            simp only [← hq]
            rw [if_neg]
            intro hall
            rw [List.all_eq_true] at hall
            have := hall q[i] (List.getElem_mem _)
            exact hne (by simpa using this)
          refine hK8 _ (W_ret (c4 _ (hE4 _ _ (by simp) (b4 _ (hE _ _ (by simp) ?_)))))
          simp [post, resAV, resAll, resOne, closeV, closeC, closeL, resD, resDL, optK_some, optK_none, optK_ite, optK_map, optK_bind, gOn, stepK, isMem, evPure, evMem, evBin, evUn, evConv, evLen, evBuiltin, evMinMax, evSlice, evBuild, evAppend, evIndex, evIndexAddr, evField, evFieldAddr, intBin, strBin, appDest, AS.val, AS.mem, AS.elems, AS.put, AS.put', AS.eff, AV.cells?, AV.isCell, AV.refs, all_isByte, take_byteV, drop_byteV, strOf_map, -List.map_take, -List.map_drop, bndOk, bnd, partAV, ptrAdd, killBox, catA, inOrder, fillA, setAt, ofVal, entry, resB, upd, byteV, List.head?_take, List.head?_drop, List.getElem?_map, splitAV, hsp, i64V, refsL]
        · have hze : q[i] = 0 := by
            have : (q[i].toNat : Int) = 0 := by simpa using hc2
            exact UInt8.toNat_inj.1 (by simpa using (by omega : q[i].toNat = 0))
          refine W_skip (c1 _ (hK4 _ (W_region (by decide) ?_)))
          have hw : IntKind.i64.wrap ((i : Int) + 1) = ((i + 1 : Nat) : Int) := by rw [i64_in _ (by omega)]; omega
          repeat (rw [vcn]; try simp [optK_some, optK_none, optK_ite, optK_map, optK_bind, gOn, stepK, isMem, evPure, evMem, evBin, evUn, evConv, evLen, evBuiltin, evMinMax, evSlice, evBuild, evAppend, evIndex, evIndexAddr, evField, evFieldAddr, intBin, strBin, appDest, AS.val, AS.mem, AS.elems, AS.put, AS.put', AS.eff, AV.cells?, AV.isCell, AV.refs, all_isByte, take_byteV, drop_byteV, strOf_map, -List.map_take, -List.map_drop, bndOk, bnd, partAV, ptrAdd, killBox, catA, inOrder, fillA, setAt, ofVal, entry, resB, upd, byteV, List.head?_take, List.head?_drop, List.getElem?_map, lk, hw])
          refine ⟨i + 1, by omega, ⟨by omega, ?_⟩, id, ?_, ?_, ?_, ?_, ?_, ?_⟩
          · have hi3 : ∀ x ∈ q.take i, x = 0 := by simpa [List.all_eq_true] using hi2
            have hi4 : ∀ x ∈ q.take (i + 1), x = 0 := by
              intro x hx
              rw [List.take_add_one, hgi] at hx
              simp only [Option.toList, List.mem_append, List.mem_singleton] at hx
              rcases hx with hx | hx
              · exact hi3 x hx
              · rw [hx]; exact hze
            simpa [List.all_eq_true] using hi4
          · simp [upd, resB, ren, renL, i64V, lk]
          · have hren : ∀ l : List Rec, renL id (recsCells l) = recsCells l := by
              intro l
              induction l with
              | nil => rfl
              | cons a l ih => simp only [recsCells, List.flatMap_cons] at ih ⊢; simp [recCells, renL, ren, byteV, ih]
            simp [upd, renBox, hren, lk]
            simp [renL, ren, i64V]
          · simp
          · simp [AV.refs, refsL, i64V]
          · simp [Box.refs, AV.refs, refsL, i64V, recsCells_refs]
          · simp
      · have hlt : i = q.length := by simp at hc; omega
        subst hlt
        have hsp : splitSpec bs = .ok (acc ++ [(4, d, b)], at_ + n) := by
          rw [splitSpec, if_neg h1, hrec]
          simp only [← hq]
          rw [List.take_length] at hi2
          rw [if_pos hi2, hql]
          congr 2
          omega
        refine W_exit (hE3 _ _ (by simp) (b2 _ (hK _ ?_)))
        clear hK3 hE3 K3 hK2 hE2 K2 b1 b2 b3 b4 b5 K1 hK hE K
        refine W_seq_k fun K hK hE => W_drawn mixed (by decide) (by kernel_rfl) ?_
        repeat (rw [vcnD]; try simp [optK_some, optK_none, optK_ite, optK_map, optK_bind, gOn, stepK, isMem, evPure, evMem, evBin, evUn, evConv, evLen, evBuiltin, evMinMax, evSlice, evBuild, evAppend, evIndex, evIndexAddr, evField, evFieldAddr, intBin, strBin, appDest, AS.val, AS.mem, AS.elems, AS.put, AS.put', AS.eff, AV.cells?, AV.isCell, AV.refs, all_isByte, take_byteV, drop_byteV, strOf_map, -List.map_take, -List.map_drop, bndOk, bnd, partAV, ptrAdd, killBox, catA, inOrder, fillA, setAt, ofVal, resB, upd, byteV, List.head?_take, List.head?_drop, List.getElem?_map, mkS_env, mkS_box, mkS_used, entry_env, entry_box, entry_used, lk, stepD, lookIds, Oper.looksAt, Op.operands, Call.operands, St.ids, refsL, lk])
        repeat' apply And.intro
        all_goals try first | omega | kernel_rfl
        refine hK _ (W_frz 500 (e := 24) (l := recsCells (acc ++ [(4, d, b)])) rfl (recsCells_refs _) (W_ret ?_))
        simp [post, resAV, resAll, resOne, closeV, closeC, closeL, resD, resDL, optK_some, optK_none, optK_ite, optK_map, optK_bind, gOn, stepK, isMem, evPure, evMem, evBin, evUn, evConv, evLen, evBuiltin, evMinMax, evSlice, evBuild, evAppend, evIndex, evIndexAddr, evField, evFieldAddr, intBin, strBin, appDest, AS.val, AS.mem, AS.elems, AS.put, AS.put', AS.eff, AV.cells?, AV.isCell, AV.refs, all_isByte, take_byteV, drop_byteV, strOf_map, -List.map_take, -List.map_drop, bndOk, bnd, partAV, ptrAdd, killBox, catA, inOrder, fillA, setAt, ofVal, entry, resB, upd, byteV, List.head?_take, List.head?_drop, List.getElem?_map, splitAV, hsp, i64V, refsL, recsCells_len]
        rw [List.take_of_length_le (by rw [recsCells_len]; simp)]
    · have hk : k ≠ 4 := by
        rintro rfl
        simp at hc
      refine W_skip (c1 _ ⟨(acc ++ [(k, d, b)], at_ + n), by simp; omega, ⟨by simp; omega, by simp; omega, ?_⟩, id, ?_, ?_, ?_, ?_, ?_, ?_⟩)
      · rw [hI, recs_eq, hn]
        simp only [if_neg hk, List.drop_drop]
        cases recs (bs.drop (at_ + n)) with
        | error e => rfl
        | ok p => simp [preR]
      · simp [upd, resB, ren, renL, i64V, lk]
      · have hren : ∀ l : List Rec, renL id (recsCells l) = recsCells l := by
          intro l
          induction l with
          | nil => rfl
          | cons a l ih => simp only [recsCells, List.flatMap_cons] at ih ⊢; simp [recCells, renL, ren, byteV, ih]
        simp [upd, renBox, hren, lk]
        simp [renL, ren, i64V]
      · simp
      · simp [AV.refs, refsL, i64V, hBr]
      · simp [Box.refs, AV.refs, refsL, i64V, recsCells_refs]
      · simp
end Go.Fw

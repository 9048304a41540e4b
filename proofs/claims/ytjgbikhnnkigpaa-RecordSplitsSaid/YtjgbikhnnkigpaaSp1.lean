/- Boxes lent to a call that tells a plain value; the records of a stream with bodies that may be written. -/
import Derived.Test.YtjgbikhnnkigpaaT3
import Derived.Test.YtjgbikhnnkigpaaNd
set_option linter.unusedSimpArgs false
set_option linter.unusedVariables false
namespace Go.Fw
open Go Go.Proofs Go.IntWalk
set_option linter.unusedSimpArgs false
set_option maxRecDepth 100000
def fullM (w : World) : Mem := fun b => match w.heap[b]? with
  | some (.cells cs _ _) => some cs
  | _ => none
theorem fullM_ok (w : World) : MemOk (fullM w) w := by
  intro b cs h
  unfold fullM at h
  split at h
  · rename_i cs' ty fz hb
    cases h
    exact ⟨ty, fz, hb⟩
  · cases h
section
variable {P : Program} {C : Ctx} {M : Mem} {β : Loc} {s : AS} {w : World} {nt : Nat} {a : Act} {Q : Exit → AS → Prop}
theorem fullM_le (h : Rel C M β s w) : MemLe M (fullM w) := by
  intro b cs hb
  obtain ⟨ty, fz, hh⟩ := h.mem b cs hb
  simp [fullM, hh]
theorem rep_full (h : Rel C M β s w) {v : AV} {x : Value} (hv : Rep M β v x) (hr : v.refs = []) : Rep (fullM w) noLoc v x :=
  Rep.mono (fullM_le h) v x (fun id hid => by rw [hr] at hid; cases hid) hv
theorem repAt_full (h : Rel C M β s w) {l : List AV} {cs : Array Value} {o : Nat} (hv : RepAt M β l cs o) (hr : refsL l = []) : RepAt (fullM w) noLoc l cs o :=
  RepAt.mono (fullM_le h) l cs o (fun id hid => by rw [hr] at hid; cases hid) hv
def Lend (s : AS) (args args' : List AV) : Prop :=
  args.length = args'.length ∧ ∀ (C : Ctx) (M : Mem) (β : Loc) (w : World) (vs : Array Value), Rel C M β s w → vs.size = args.length → RepT M β args vs 0 → RepT (fullM w) noLoc args' vs 0
theorem CallG_lend {f : FuncId} {caps args args' : List AV} {x : Value} {K : Out → AS → Prop} (hl : Lend s (args ++ caps) args') (h : Eval P f args' (.ret (.v x))) (hk : K (.ret (.v x)) s) :
    CallG P (.fn f caps) args s K := by
  intro C nt M β a w vs hR hS hvs hrep
  obtain ⟨hlen, hl⟩ := hl
  refine (h (fullM w) w vs (fullM_ok w) (by rw [hvs, hlen]) (hl C M β w vs hR hvs hrep)).mono ?_
  rintro e w' ⟨M', _, _, _, hbel, hend⟩
  cases e with
  | panicked l => exact hend.elim
  | returned y =>
    obtain ⟨bl, ⟨⟨hy, hone⟩, _, _⟩, _, _⟩ := hend
    have hmem : MemOk M w' := by
      intro b cs hb
      obtain ⟨ty, fz, hh⟩ := hR.mem b cs hb
      refine ⟨ty, fz, ?_⟩
      rw [hbel.block b (heap_lt hh)]
      exact hh
    refine ⟨.ret (.v x), s, M, β, hk, hR.call (MemLe.refl M) hmem (fun _ _ => rfl) hbel, hS, ?_⟩
    exact ⟨⟨hy, hone⟩, by simp [AV.refs]⟩
  | _ => exact hend.elim
theorem slc_full (h : Rel C M β s w) {id z off n : Nat} {e : TypeId} {l l' : List AV} {x : Value} (hb : s.box id = some (.mut e l)) (hx : Rep M β (.bs id z off n) x) (hlen : l'.length = n * z) (hr : refsL l' = [])
    (hl : ∀ cs, RepAt M β l cs 0 → RepAt (fullM w) noLoc l' cs off) : Rep (fullM w) noLoc (.slc false z n l') x := by
  obtain ⟨ad, cap, rfl, h1, h2, h3⟩ := hx
  refine ⟨ad, cap, rfl, hlen, h1, h2, (fun hf => by cases hf), hr, fun hn => ?_⟩
  obtain ⟨b, sz, k1, rfl, _⟩ := h3 (by omega)
  rcases h.mutb id e l hb with ⟨q, _⟩ | ⟨b', cs, q1, ⟨fz, q2, _⟩, q3, _⟩
  · rw [q] at k1; cases k1
  · rw [q1] at k1; cases k1
    exact ⟨_, off, cs, rfl, by simp [fullM, q2], hl cs q3⟩
end
def bodB : Nat → List Rec → List (Nat × Box)
  | _, [] => []
  | k, r :: l => (k, .mut 5 (r.2.2.map byteV)) :: bodB (k + 1) l
def rowB : Nat → List Rec → List AV
  | _, [] => []
  | k, r :: l => byteV r.1 :: byteV r.2.1 :: .bs k 1 0 r.2.2.length :: rowB (k + 1) l
theorem bodB_app (k : Nat) (a b : List Rec) : bodB k (a ++ b) = bodB k a ++ bodB (k + a.length) b := by
  induction a generalizing k with
  | nil => rfl
  | cons r a ih => simp [bodB, ih, Nat.add_comm, Nat.add_left_comm]
theorem rowB_app (k : Nat) (a b : List Rec) : rowB k (a ++ b) = rowB k a ++ rowB (k + a.length) b := by
  induction a generalizing k with
  | nil => rfl
  | cons r a ih => simp [rowB, ih, Nat.add_comm, Nat.add_left_comm]
theorem rowB_len (k : Nat) (a : List Rec) : (rowB k a).length = a.length * 3 := by
  induction a generalizing k with
  | nil => rfl
  | cons r a ih => simp [rowB, ih]; omega
theorem bodB_keys (k : Nat) (l : List Rec) (i : Nat) : i ∈ (bodB k l).map (·.1) ↔ k ≤ i ∧ i < k + l.length := by
  induction l generalizing k with
  | nil => simp [bodB]
  | cons r l ih =>
    have := ih (k + 1)
    simp only [bodB, List.map_cons, List.mem_cons, this, List.length_cons]
    omega
theorem bodB_mem {k : Nat} {l : List Rec} {p : Nat × Box} (h : p ∈ bodB k l) : k ≤ p.1 ∧ p.1 < k + l.length ∧ ∃ r, l[p.1 - k]? = some r ∧ p.2 = .mut 5 (r.2.2.map byteV) := by
  induction l generalizing k with
  | nil => cases h
  | cons r l ih =>
    rw [bodB, List.mem_cons] at h
    rcases h with rfl | h
    · exact ⟨Nat.le_refl _, by simp, r, by simp, rfl⟩
    · obtain ⟨h1, h2, q, h3, h4⟩ := ih h
      refine ⟨by omega, by simp only [List.length_cons]; omega, q, ?_, h4⟩
      rw [show p.1 - k = (p.1 - (k + 1)) + 1 from by omega, List.getElem?_cons_succ]
      exact h3
theorem lk_bodB (k : Nat) (l : List Rec) (i : Nat) : lk (bodB k l) i = if k ≤ i then (l[i - k]?).map (fun r => Box.mut 5 (r.2.2.map byteV)) else none := by
  induction l generalizing k with
  | nil => simp [bodB, lk]
  | cons r l ih =>
    simp only [bodB, lk, ih]
    by_cases h : k = i
    · subst h; simp
    · rw [if_neg h]
      by_cases h2 : k + 1 ≤ i
      · rw [if_pos h2, if_pos (by omega), show i - k = (i - (k + 1)) + 1 from by omega, List.getElem?_cons_succ]
      · rw [if_neg h2, if_neg (by omega)]
theorem rowB_refs (k : Nat) (l : List Rec) (i : Nat) : i ∈ refsL (rowB k l) ↔ k ≤ i ∧ i < k + l.length := by
  induction l generalizing k with
  | nil => simp [rowB, refsL]
  | cons r l ih =>
    have := ih (k + 1)
    simp only [rowB, refsL, AV.refs, byteV, List.nil_append, List.cons_append, List.mem_cons, this, List.length_cons]
    omega
theorem rowB_ren (ρ : Nat → Nat) (k : Nat) (l : List Rec) (h : ∀ i, k ≤ i → i < k + l.length → ρ i = i) : renL ρ (rowB k l) = rowB k l := by
  induction l generalizing k with
  | nil => rfl
  | cons r l ih =>
    simp only [rowB, renL, ren, byteV]
    rw [h k (Nat.le_refl _) (by simp), ih (k + 1) (fun i h1 h2 => h i (by omega) (by simp only [List.length_cons]; omega))]
theorem row_full {C : Ctx} {M : Mem} {β : Loc} {s : AS} {w : World} (h : Rel C M β s w) : ∀ (l : List Rec) (k : Nat) (cs : Array Value) (o : Nat), (∀ i r, l[i]? = some r → s.box (k + i) = some (.mut 5 (r.2.2.map byteV))) →
    RepAt M β (rowB k l) cs o → RepAt (fullM w) noLoc (recsCells l) cs o
  | [], _, _, _, _, _ => trivial
  | r :: l, k, cs, o, hb, ⟨⟨y1, a1, b1, c1⟩, ⟨y2, a2, b2, c2⟩, ⟨y3, a3, b3, c3⟩, t⟩ => by
    refine ⟨⟨y1, a1, b1, rep_full h c1 rfl⟩, ⟨y2, a2, b2, rep_full h c2 rfl⟩, ⟨y3, a3, b3, ?_⟩, ?_⟩
    · exact slc_full h (hb 0 r rfl) c3 (by simp) (refsL_bytes _) fun cs h' => repAt_full h h' (refsL_bytes _)
    · exact row_full h l (k + 1) cs (o + 1 + 1 + 1) (fun i r' hi => by
        have := hb (i + 1) r' (by simpa using hi)
        rwa [show k + (i + 1) = k + 1 + i from by omega] at this) t
theorem wb56m (f : Bool) (bs : List UInt8) (at_ : Nat) (hs : bs.length ≤ 100000000) (ha : at_ ≤ bs.length) :
    WB Try.prog 56 [.ip [.slc f 1 bs.length (bs.map byteV)], .bp 1000000 0] [(1000000, .mut 3 [i64V at_])] (fun out s' =>
      match nextRec (bs.drop at_) with
      | .error e => out = .ret (.tup [noRec, i64V e]) ∧ s'.box 1000000 = some (.mut 3 [i64V at_])
      | .ok (k, d, b, n) => out = .ret (.tup [.agg [byteV k, byteV d, .bs 50 1 0 b.length], i64V 0]) ∧ s'.box 1000000 = some (.mut 3 [i64V ((at_ + n : Nat) : Int)]) ∧ s'.box 50 = some (.mut 5 (b.map byteV))) := by
  refine ⟨Try.f56, _, Try.func56, rfl, Try.call56, Nat.le_of_ble_eq_true rfl, ?_⟩
  obtain ⟨r, hr⟩ : ∃ r, r = bs.drop at_ := ⟨_, rfl⟩
  have hrl : r.length = bs.length - at_ := by rw [hr, List.length_drop]
  rw [← hr]
  refine W_seq_k fun K hK hE => W_region (by decide) ?_
  repeat (rw [vcn]; try simp [optK_some, optK_none, optK_ite, optK_map, optK_bind, gOn, stepK, isMem, evPure, evMem, evBin, evUn, evConv, evLen, evBuiltin, evMinMax, evSlice, evBuild, evAppend, evIndex, evIndexAddr, evField, evFieldAddr, intBin, strBin, appDest, AS.val, AS.mem, AS.elems, AS.put, AS.put', AS.eff, AV.cells?, AV.isCell, AV.refs, all_isByte, take_byteV, drop_byteV, strOf_map, -List.map_take, -List.map_drop, bndOk, bnd, partAV, ptrAdd, killBox, catA, inOrder, fillA, setAt, ofVal, entry, resB, upd, byteV, List.head?_take, List.head?_drop, List.getElem?_map, entryB, lk, i64V, ha])
  first | refine hK _ ?_ | refine ⟨by omega, hK _ ?_⟩ | refine ⟨by simp [strOf_map, byteV, AV.isByte]; try omega, hK _ ?_⟩ | trace_state
  clear hK hE K
  refine W_seq_k fun K hK hE => W_region (by decide) ?_
  repeat (rw [vcn]; try simp [optK_some, optK_none, optK_ite, optK_map, optK_bind, gOn, stepK, isMem, evPure, evMem, evBin, evUn, evConv, evLen, evBuiltin, evMinMax, evSlice, evBuild, evAppend, evIndex, evIndexAddr, evField, evFieldAddr, intBin, strBin, appDest, AS.val, AS.mem, AS.elems, AS.put, AS.put', AS.eff, AV.cells?, AV.isCell, AV.refs, all_isByte, take_byteV, drop_byteV, strOf_map, -List.map_take, -List.map_drop, bndOk, bnd, partAV, ptrAdd, killBox, catA, inOrder, fillA, setAt, ofVal, entry, resB, upd, byteV, List.head?_take, List.head?_drop, List.getElem?_map, entryB, lk, i64V, ha])
  first | refine hK _ ?_ | refine ⟨by omega, hK _ ?_⟩ | refine ⟨by simp [strOf_map, byteV, AV.isByte]; try omega, hK _ ?_⟩ | trace_state
  clear hK hE K
  refine W_wk [(1, .bp 1000000 0), (2, .bp 2 0), (3, i64V 0), (4, .slc false 1 r.length (r.map byteV))] [(1000000, .mut 3 [i64V at_]), (2, .mut 24 [byteV 0, byteV 0, .v (.slice none 0 0)])] id ⟨?_, ?_, ?_, ?_, ?_, ?_⟩ ?_
  · simp [upd, resB, lk, ren, i64V, hrl]
    rw [hr, ← hrl, List.map_drop, hr, List.length_drop, List.take_of_length_le (by simp)]
  · simp [upd, lk, renBox, renL, ren, i64V, byteV]
  · simp
  · simp [AV.refs, i64V, byteV]
  · simp [AV.refs, Box.refs, i64V, byteV]
  · simp
  refine W_seq_k fun K hK hE => ?_
  refine W_seq_k fun K hK hE => W_region (by decide) ?_
  repeat (rw [vcn]; try simp [optK_some, optK_none, optK_ite, optK_map, optK_bind, gOn, stepK, isMem, evPure, evMem, evBin, evUn, evConv, evLen, evBuiltin, evMinMax, evSlice, evBuild, evAppend, evIndex, evIndexAddr, evField, evFieldAddr, intBin, strBin, appDest, AS.val, AS.mem, AS.elems, AS.put, AS.put', AS.eff, AV.cells?, AV.isCell, AV.refs, all_isByte, take_byteV, drop_byteV, strOf_map, -List.map_take, -List.map_drop, bndOk, bnd, partAV, ptrAdd, killBox, catA, inOrder, fillA, setAt, ofVal, entry, resB, upd, byteV, List.head?_take, List.head?_drop, List.getElem?_map, mkS, lk])
  first | refine hK _ ?_ | refine ⟨by omega, hK _ ?_⟩ | refine ⟨by simp [strOf_map, byteV, AV.isByte]; try omega, hK _ ?_⟩ | trace_state
  clear hK hE K
  refine W_cond rfl (fun hc => ?_) (fun hc => ?_)
  · have h2 : r.length < 2 := by simp at hc; omega
    refine W_seq_k fun K1 hK1 _ => W_region (by decide) ?_
    repeat (rw [vcn]; try simp [optK_some, optK_none, optK_ite, optK_map, optK_bind, gOn, stepK, isMem, evPure, evMem, evBin, evUn, evConv, evLen, evBuiltin, evMinMax, evSlice, evBuild, evAppend, evIndex, evIndexAddr, evField, evFieldAddr, intBin, strBin, appDest, AS.val, AS.mem, AS.elems, AS.put, AS.put', AS.eff, AV.cells?, AV.isCell, AV.refs, all_isByte, take_byteV, drop_byteV, strOf_map, -List.map_take, -List.map_drop, bndOk, bnd, partAV, ptrAdd, killBox, catA, inOrder, fillA, setAt, ofVal, entry, resB, upd, byteV, List.head?_take, List.head?_drop, List.getElem?_map, lk])
    refine hK1 _ (W_ret (hE _ _ (by simp) ?_))
    simp [postB, resAV, resAll, resOne, resD, resDL, optK_some, optK_none, optK_ite, optK_map, optK_bind, gOn, stepK, isMem, evPure, evMem, evBin, evUn, evConv, evLen, evBuiltin, evMinMax, evSlice, evBuild, evAppend, evIndex, evIndexAddr, evField, evFieldAddr, intBin, strBin, appDest, AS.val, AS.mem, AS.elems, AS.put, AS.put', AS.eff, AV.cells?, AV.isCell, AV.refs, all_isByte, take_byteV, drop_byteV, strOf_map, -List.map_take, -List.map_drop, bndOk, bnd, partAV, ptrAdd, killBox, catA, inOrder, fillA, setAt, ofVal, entry, resB, upd, byteV, List.head?_take, List.head?_drop, List.getElem?_map, lk, nextRec, h2, noRec, i64V]
  have h2 : ¬ r.length < 2 := by simp at hc; omega
  first | refine hK _ ?_ | refine ⟨by omega, hK _ ?_⟩ | refine W_skip (hK _ ?_) | trace_state
  clear hK hE K
  obtain ⟨x, y, t, rfl⟩ : ∃ x y t, r = x :: y :: t := by
    match r, h2 with
    | x :: y :: t, _ => exact ⟨x, y, t, rfl⟩
    | [], h => simp at h
    | [x], h => simp at h
  refine W_seq_k fun K hK hE => W_drawn mixed (by decide) (by kernel_rfl) ?_
  repeat (rw [vcnD]; try simp [optK_some, optK_none, optK_ite, optK_map, optK_bind, gOn, stepK, isMem, evPure, evMem, evBin, evUn, evConv, evLen, evBuiltin, evMinMax, evSlice, evBuild, evAppend, evIndex, evIndexAddr, evField, evFieldAddr, intBin, strBin, appDest, AS.val, AS.mem, AS.elems, AS.put, AS.put', AS.eff, AV.cells?, AV.isCell, AV.refs, all_isByte, take_byteV, drop_byteV, strOf_map, -List.map_take, -List.map_drop, bndOk, bnd, partAV, ptrAdd, killBox, catA, inOrder, fillA, setAt, ofVal, resB, upd, byteV, List.head?_take, List.head?_drop, List.getElem?_map, mkS_env, mkS_box, mkS_used, entry_env, entry_box, entry_used, lk, stepD, lookIds, Oper.looksAt, Op.operands, Call.operands, St.ids, refsL, lk, u8_i64, or_bytes])
  repeat' apply And.intro
  all_goals try first | omega | kernel_rfl
  refine hK _ ?_
  clear hK hE K
  obtain ⟨n, hn⟩ : ∃ n, n = x.toNat * 256 + y.toNat := ⟨_, rfl⟩
  have hx : x.toNat < 256 := x.toNat_lt
  have hy : y.toNat < 256 := y.toNat_lt
  refine W_wk [(1, .bp 1000000 0), (2, .bp 2 0), (3, i64V 0), (4, .slc false 1 (t.length + 2) ((x :: y :: t).map byteV)), (5, i64V n)] [(1000000, .mut 3 [i64V at_]), (2, .mut 24 [byteV 0, byteV 0, .v (.slice none 0 0)])] id ⟨?_, ?_, ?_, ?_, ?_, ?_⟩ ?_
  · simp [upd, resB, lk, ren, i64V, byteV, hn]
  · simp [upd, lk, renBox, renL, ren, i64V, byteV]
  · simp
  · simp [AV.refs, i64V, byteV]
  · simp [AV.refs, Box.refs, i64V, byteV]
  · simp
  have hmod : ((n : Int).tmod 2) = ((n % 2 : Nat) : Int) := by rw [Int.ofNat_tmod]; rfl
  have h2' : ¬ (x :: y :: t).length < 2 := by simp
  have g0 : (x :: y :: t).getD 0 0 = x := rfl
  have g1 : (x :: y :: t).getD 1 0 = y := rfl
  refine W_seq_k fun K hK hE => W_block_k fun K1 b1 b2 b3 b4 b5 => W_seq_k fun K2 hK2 hE2 => W_region (by decide) ?_
  by_cases hbad : n < 4 ∨ n % 2 = 1
  · have fin : ∀ s', s'.env 23 = .v (.bool true) → s'.box = (mkS [(1, AV.bp 1000000 0)] [(1000000, .mut 3 [i64V at_]), (2, .mut 24 [byteV 0, byteV 0, .v (.slice none 0 0)])]).box → s'.env 2 = .bp 2 0 → K2 .normal s' := by
      intro s' h1 h2 h3
      refine hK2 _ (W_cond (b := true) (by simp [AS.val, h1, resB]) (fun _ => ?_) (fun hc => by cases hc))
      refine W_seq_k fun K3 hK3 hE3 => W_region (by decide) ?_
      repeat (rw [vcn]; try simp [optK_some, optK_none, optK_ite, optK_map, optK_bind, gOn, stepK, isMem, evPure, evMem, evBin, evUn, evConv, evLen, evBuiltin, evMinMax, evSlice, evBuild, evAppend, evIndex, evIndexAddr, evField, evFieldAddr, intBin, strBin, appDest, AS.val, AS.mem, AS.elems, AS.put, AS.put', AS.eff, AV.cells?, AV.isCell, AV.refs, all_isByte, take_byteV, drop_byteV, strOf_map, -List.map_take, -List.map_drop, bndOk, bnd, partAV, ptrAdd, killBox, catA, inOrder, fillA, setAt, ofVal, entry, resB, upd, byteV, List.head?_take, List.head?_drop, List.getElem?_map, lk, h2, h3, mkS])
      refine hK3 _ (W_ret (b4 _ (hE _ _ (by simp) ?_)))
      have hnx : nextRec (x :: y :: t) = .error 3 := by
        have hbad' := hbad
        rw [hn] at hbad'
        simp only [nextRec, g0, g1]
        rw [if_neg h2', if_pos hbad']
      simp [postB, resAV, resAll, resOne, resD, resDL, optK_some, optK_none, optK_ite, optK_map, optK_bind, gOn, stepK, isMem, evPure, evMem, evBin, evUn, evConv, evLen, evBuiltin, evMinMax, evSlice, evBuild, evAppend, evIndex, evIndexAddr, evField, evFieldAddr, intBin, strBin, appDest, AS.val, AS.mem, AS.elems, AS.put, AS.put', AS.eff, AV.cells?, AV.isCell, AV.refs, all_isByte, take_byteV, drop_byteV, strOf_map, -List.map_take, -List.map_drop, bndOk, bnd, partAV, ptrAdd, killBox, catA, inOrder, fillA, setAt, ofVal, entry, resB, upd, byteV, List.head?_take, List.head?_drop, List.getElem?_map, lk, hnx, noRec, i64V, h3]
    by_cases h4 : n < 4
    · have h4' : (n : Int) < 4 := by omega
      repeat (rw [vcn]; try simp [optK_some, optK_none, optK_ite, optK_map, optK_bind, gOn, stepK, isMem, evPure, evMem, evBin, evUn, evConv, evLen, evBuiltin, evMinMax, evSlice, evBuild, evAppend, evIndex, evIndexAddr, evField, evFieldAddr, intBin, strBin, appDest, AS.val, AS.mem, AS.elems, AS.put, AS.put', AS.eff, AV.cells?, AV.isCell, AV.refs, all_isByte, take_byteV, drop_byteV, strOf_map, -List.map_take, -List.map_drop, bndOk, bnd, partAV, ptrAdd, killBox, catA, inOrder, fillA, setAt, ofVal, entry, resB, upd, byteV, List.head?_take, List.head?_drop, List.getElem?_map, lk, mkS, i64V, h4'])
      exact fin _ rfl rfl rfl
    · have h4' : ¬ (n : Int) < 4 := by omega
      have h5 : n % 2 = 1 := by omega
      repeat (rw [vcn]; try simp [optK_some, optK_none, optK_ite, optK_map, optK_bind, gOn, stepK, isMem, evPure, evMem, evBin, evUn, evConv, evLen, evBuiltin, evMinMax, evSlice, evBuild, evAppend, evIndex, evIndexAddr, evField, evFieldAddr, intBin, strBin, appDest, AS.val, AS.mem, AS.elems, AS.put, AS.put', AS.eff, AV.cells?, AV.isCell, AV.refs, all_isByte, take_byteV, drop_byteV, strOf_map, -List.map_take, -List.map_drop, bndOk, bnd, partAV, ptrAdd, killBox, catA, inOrder, fillA, setAt, ofVal, entry, resB, upd, byteV, List.head?_take, List.head?_drop, List.getElem?_map, lk, mkS, i64V, h4', hmod, h5])
      exact fin _ rfl rfl rfl
  · have h4' : ¬ (n : Int) < 4 := by omega
    have h5 : n % 2 = 0 := by omega
    repeat (rw [vcn]; try simp [optK_some, optK_none, optK_ite, optK_map, optK_bind, gOn, stepK, isMem, evPure, evMem, evBin, evUn, evConv, evLen, evBuiltin, evMinMax, evSlice, evBuild, evAppend, evIndex, evIndexAddr, evField, evFieldAddr, intBin, strBin, appDest, AS.val, AS.mem, AS.elems, AS.put, AS.put', AS.eff, AV.cells?, AV.isCell, AV.refs, all_isByte, take_byteV, drop_byteV, strOf_map, -List.map_take, -List.map_drop, bndOk, bnd, partAV, ptrAdd, killBox, catA, inOrder, fillA, setAt, ofVal, entry, resB, upd, byteV, List.head?_take, List.head?_drop, List.getElem?_map, lk, mkS, i64V, h4', hmod, h5])
    refine hK2 _ (W_cond (b := false) rfl (fun hc => by cases hc) (fun _ => ?_))
    clear hK2 hE2 K2
    refine W_seq_k fun K2 hK2 hE2 => W_region (by decide) ?_
    repeat (rw [vcn]; try simp [optK_some, optK_none, optK_ite, optK_map, optK_bind, gOn, stepK, isMem, evPure, evMem, evBin, evUn, evConv, evLen, evBuiltin, evMinMax, evSlice, evBuild, evAppend, evIndex, evIndexAddr, evField, evFieldAddr, intBin, strBin, appDest, AS.val, AS.mem, AS.elems, AS.put, AS.put', AS.eff, AV.cells?, AV.isCell, AV.refs, all_isByte, take_byteV, drop_byteV, strOf_map, -List.map_take, -List.map_drop, bndOk, bnd, partAV, ptrAdd, killBox, catA, inOrder, fillA, setAt, ofVal, entry, resB, upd, byteV, List.head?_take, List.head?_drop, List.getElem?_map, lk, i64V])
    refine hK2 _ (W_cond rfl (fun hc => ?_) (fun hc => ?_))
    · have hlen : t.length + 2 < n := by simp at hc; omega
      refine W_seq_k fun K3 hK3 hE3 => W_region (by decide) ?_
      repeat (rw [vcn]; try simp [optK_some, optK_none, optK_ite, optK_map, optK_bind, gOn, stepK, isMem, evPure, evMem, evBin, evUn, evConv, evLen, evBuiltin, evMinMax, evSlice, evBuild, evAppend, evIndex, evIndexAddr, evField, evFieldAddr, intBin, strBin, appDest, AS.val, AS.mem, AS.elems, AS.put, AS.put', AS.eff, AV.cells?, AV.isCell, AV.refs, all_isByte, take_byteV, drop_byteV, strOf_map, -List.map_take, -List.map_drop, bndOk, bnd, partAV, ptrAdd, killBox, catA, inOrder, fillA, setAt, ofVal, entry, resB, upd, byteV, List.head?_take, List.head?_drop, List.getElem?_map, lk])
      refine hK3 _ (W_ret (b4 _ (hE _ _ (by simp) ?_)))
      have hnx : nextRec (x :: y :: t) = .error 7 := by
        have hbad' := hbad
        rw [hn] at hbad' hlen
        simp only [nextRec, g0, g1]
        rw [if_neg h2', if_neg hbad', if_pos (by simp; omega)]
      simp [postB, resAV, resAll, resOne, resD, resDL, optK_some, optK_none, optK_ite, optK_map, optK_bind, gOn, stepK, isMem, evPure, evMem, evBin, evUn, evConv, evLen, evBuiltin, evMinMax, evSlice, evBuild, evAppend, evIndex, evIndexAddr, evField, evFieldAddr, intBin, strBin, appDest, AS.val, AS.mem, AS.elems, AS.put, AS.put', AS.eff, AV.cells?, AV.isCell, AV.refs, all_isByte, take_byteV, drop_byteV, strOf_map, -List.map_take, -List.map_drop, bndOk, bnd, partAV, ptrAdd, killBox, catA, inOrder, fillA, setAt, ofVal, entry, resB, upd, byteV, List.head?_take, List.head?_drop, List.getElem?_map, lk, hnx, noRec, i64V]
    have hlen : ¬ t.length + 2 < n := by simp at hc; omega
    refine W_skip (b1 _ (hK _ ?_))
    clear hK2 hE2 K2 b1 b2 b3 b4 b5 K1 hK hE K
    obtain ⟨k, d, t, rfl⟩ : ∃ k d t', t = k :: d :: t' := by
      match t, hlen with
      | k :: d :: t', _ => exact ⟨k, d, t', rfl⟩
      | [], h => simp at h; omega
      | [_], h => simp at h; omega
    have hnx : nextRec (x :: y :: k :: d :: t) = .ok (k, d, t.take (n - 4), n) := by
      have hbad' := hbad
      have hlen' := hlen
      obtain ⟨m, hm⟩ : ∃ m, n = m + 4 := ⟨n - 4, by omega⟩
      simp only [nextRec, g0, g1, ← hn]
      rw [if_neg h2', if_neg hbad', if_neg (by simp at hlen' ⊢; omega), hm]
      simp
    simp only [List.length_cons] at hlen hrl
    have hw : IntKind.i64.wrap ((at_ : Int) + (n : Int)) = ((at_ + n : Nat) : Int) := by rw [i64_in _ (by omega)]; omega
    refine W_seq_k fun K hK hE => W_region (by decide) ?_
    repeat (rw [vcn]; try simp [optK_some, optK_none, optK_ite, optK_map, optK_bind, gOn, stepK, isMem, evPure, evMem, evBin, evUn, evConv, evLen, evBuiltin, evMinMax, evSlice, evBuild, evAppend, evIndex, evIndexAddr, evField, evFieldAddr, intBin, strBin, appDest, AS.val, AS.mem, AS.elems, AS.put, AS.put', AS.eff, AV.cells?, AV.isCell, AV.refs, all_isByte, take_byteV, drop_byteV, strOf_map, -List.map_take, -List.map_drop, bndOk, bnd, partAV, ptrAdd, killBox, catA, inOrder, fillA, setAt, ofVal, entry, resB, upd, byteV, List.head?_take, List.head?_drop, List.getElem?_map, lk, hw])
    first | refine hK _ ?_ | refine ⟨by omega, hK _ ?_⟩ | refine ⟨by simp [strOf_map, byteV, AV.isByte]; try omega, hK _ ?_⟩ | trace_state
    clear hK hE K
    refine W_seq_k fun K hK hE => W_drawn mixed (by decide) (by kernel_rfl) ?_
    repeat (rw [vcnD]; try simp [optK_some, optK_none, optK_ite, optK_map, optK_bind, gOn, stepK, isMem, evPure, evMem, evBin, evUn, evConv, evLen, evBuiltin, evMinMax, evSlice, evBuild, evAppend, evIndex, evIndexAddr, evField, evFieldAddr, intBin, strBin, appDest, AS.val, AS.mem, AS.elems, AS.put, AS.put', AS.eff, AV.cells?, AV.isCell, AV.refs, all_isByte, take_byteV, drop_byteV, strOf_map, -List.map_take, -List.map_drop, bndOk, bnd, partAV, ptrAdd, killBox, catA, inOrder, fillA, setAt, ofVal, resB, upd, byteV, List.head?_take, List.head?_drop, List.getElem?_map, mkS_env, mkS_box, mkS_used, entry_env, entry_box, entry_used, lk, stepD, lookIds, Oper.looksAt, Op.operands, Call.operands, St.ids, refsL, lk])
    have hbl : (t.take (n - 4)).length = n - 4 := by rw [List.length_take]; omega
    refine ⟨by omega, by omega, by omega, ?_⟩
    refine callD_own 50 (by simp [AV.refs]) (eval57 false _ _ hbl (by omega)) (by simp) ?_
    repeat (rw [vcnD]; try simp [optK_some, optK_none, optK_ite, optK_map, optK_bind, gOn, stepK, isMem, evPure, evMem, evBin, evUn, evConv, evLen, evBuiltin, evMinMax, evSlice, evBuild, evAppend, evIndex, evIndexAddr, evField, evFieldAddr, intBin, strBin, appDest, AS.val, AS.mem, AS.elems, AS.put, AS.put', AS.eff, AV.cells?, AV.isCell, AV.refs, all_isByte, take_byteV, drop_byteV, strOf_map, -List.map_take, -List.map_drop, bndOk, bnd, partAV, ptrAdd, killBox, catA, inOrder, fillA, setAt, ofVal, resB, upd, byteV, List.head?_take, List.head?_drop, List.getElem?_map, mkS_env, mkS_box, mkS_used, entry_env, entry_box, entry_used, lk, stepD, lookIds, Oper.looksAt, Op.operands, Call.operands, St.ids, refsL, lk])
    repeat' apply And.intro
    all_goals try first | omega | kernel_rfl
    have hmin : min (n - 4) t.length = n - 4 := by omega
    refine hK _ (W_ret ?_)
    simp [postB, resAV, resAll, resOne, resD, resDL, optK_some, optK_none, optK_ite, optK_map, optK_bind, gOn, stepK, isMem, evPure, evMem, evBin, evUn, evConv, evLen, evBuiltin, evMinMax, evSlice, evBuild, evAppend, evIndex, evIndexAddr, evField, evFieldAddr, intBin, strBin, appDest, AS.val, AS.mem, AS.elems, AS.put, AS.put', AS.eff, AV.cells?, AV.isCell, AV.refs, all_isByte, take_byteV, drop_byteV, strOf_map, -List.map_take, -List.map_drop, bndOk, bnd, partAV, ptrAdd, killBox, catA, inOrder, fillA, setAt, ofVal, entry, resB, upd, byteV, List.head?_take, List.head?_drop, List.getElem?_map, lk, hnx, i64V, hmin]
end Go.Fw

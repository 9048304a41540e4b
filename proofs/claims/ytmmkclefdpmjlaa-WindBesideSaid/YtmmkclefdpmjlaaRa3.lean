/- wind.sides: what it yields. -/
import Derived.Test.YtmmkclefdpmjlaaRf1b
set_option linter.unusedSimpArgs false
set_option linter.unusedVariables false
-- VALS: yv
namespace Go.Fw
open Go Go.RowKit Go.Proofs Go.IntWalk
set_option linter.unusedSimpArgs false
set_option maxRecDepth 100000
set_option maxHeartbeats 4000000
theorem sides_seq (f : Bool) (n : Nat) (L : List AV) (hL : L.length = n * 8) (hn : n ≤ 100000) :
    SeqA Try.prog 99 (.ip [.slc f 8 n L]) n (fun i => [.agg (cut8 L i ++ cut8 L ((i + 1) % n))]) := by
  intro M w lb hM hlb hrep
  obtain ⟨⟨x, hx, hx1, b, o, cs, rfl, hb, _, hcs⟩, _⟩ := hrep
  obtain ⟨⟨v, hv, hv1, hv2⟩, _⟩ := hcs
  obtain ⟨us, u1, u2, u3⟩ := conc_slc hv2
  obtain ⟨U, hU⟩ : ∃ U, U = us.map AV.v := ⟨_, rfl⟩
  have hUr : refsL U = [] := by rw [hU]; exact vmap_refs us
  have hUl : U.length = n * 8 := by rw [hU, List.length_map, u1]
  rw [← hU] at u2
  have hcap : RepT M noLoc [.ip [.slc f 8 n U]] lb 0 := ⟨⟨_, hx, b, o, cs, rfl, hb, by simp [refsL, AV.refs], ⟨⟨v, hv, hv1, u2⟩, trivial⟩⟩, trivial⟩
  have hcr : (AV.ip [.slc f 8 n U]).refs = [] := rfl
  refine ⟨fun i => #[.agg (cut8 us i ++ cut8 us ((i + 1) % n)).toArray], fun i hi => ⟨rfl, ⟨_, rfl, cut16_rep u3 (by rw [u1, hL]) _ _⟩, trivial⟩, fun E hE => ?_⟩
  have hcut : ∀ k, cut8 U k = (cut8 us k).map AV.v := fun k => by rw [hU]; unfold cut8; rw [List.map_take, List.map_drop]
  have hat : ∀ k, k < n → ∃ a b c d e f g h : Value, cut8 U k = [.v a, .v b, .v c, .v d, .v e, .v f, .v g, .v h] ∧ ∃ t, U.drop (k * 8) = .v a :: .v b :: .v c :: .v d :: .v e :: .v f :: .v g :: .v h :: t := fun k hk => by
    obtain ⟨a, b, c, d, e, f, g, h, h1, t, h2⟩ := cut8_at u1 hk
    refine ⟨a, b, c, d, e, f, g, h, ?_, t.map .v, ?_⟩
    · rw [hcut, h1]; rfl
    · rw [hU, ← List.map_drop, h2]; rfl
  refine iter_stops' (P := Try.prog) (M := M) (encs := fun i => #[.agg (cut8 us i ++ cut8 us ((i + 1) % n)).toArray]) (c8 := 8) (c23 := 24) (m := 11) (N := n) (cf := 12) (dy := 23) (cap := .ip [.slc f 8 n U]) Try.func99 rfl rfl rfl rfl rfl rfl rfl rfl rfl (no_results rfl) (by decide) mixed
    (by decide) (by decide) (by decide) (by decide) (by decide) (by decide) (by decide) (by decide) hM hE hlb hcap hcr
    (fun l k => [(0, yv l), (1, .ip [.slc f 8 n U]), (5, .slc f 8 n U), (6, i64V n), (7, i64V k)])
    (fun l k => [(0, yv l), (1, .ip [.slc f 8 n U]), (5, .slc f 8 n U), (6, i64V n), (7, i64V k), (8, boolV (decide (k < n)))])
    (fun l k => [(0, yv l), (1, .ip [.slc f 8 n U]), (5, .slc f 8 n U), (6, i64V n), (7, i64V k), (12, yv l), (22, .agg (cut8 U k ++ cut8 U ((k + 1) % n)))])
    (fun l k => [(0, yv l), (1, .ip [.slc f 8 n U]), (5, .slc f 8 n U), (6, i64V n), (7, i64V k), (24, boolV false)])
    ?_ ?_ ?_ ?_ ?_ ?_ ?_ ?_ ?_ ?_
  · intro l
    repeat' (first
      | with_reducible refine thenW_n ?_
      | with_reducible refine thenW_ret ?_
      | with_reducible refine thenW_exit ?_
      | with_reducible refine thenW_panic ?_
      | with_reducible refine blockW_n ?_
      | with_reducible refine blockW_same ?_
      | with_reducible refine blockW_ret ?_
      | with_reducible refine blockW_panic ?_
      | with_reducible refine loopW_ret ?_
      | with_reducible refine loopW_exit ?_
      | with_reducible refine loopW_panic ?_
      | with_reducible refine joinW_ret ?_
      | with_reducible refine joinW_exit ?_
      | with_reducible refine joinW_panic ?_
      | with_reducible refine W_seq ?_
      | with_reducible refine W_block ?_
      | with_reducible refine W_skip ?_
      | with_reducible refine W_ret ?_
      | with_reducible refine W_exit ?_
      | with_reducible refine W_label ?_
      | with_reducible refine blockW_other (by decide) ?_
      | with_reducible refine W_rg ?_
      | (rw [vcn]; (try simp [optK_some, optK_none, optK_ite, optK_map, optK_bind, gOn, stepK, isMem, evPure, evMem, evBin, evUn, evConv, evLen, evBuiltin, evMinMax, evSlice, evBuild, evAppend, evIndex, evIndexAddr, evField, evFieldAddr, intBin, strBin, appDest, AS.val, AS.mem, AS.elems, AS.put, AS.put', AS.eff, AV.cells?, AV.isCell, AV.refs, all_isByte, take_byteV, drop_byteV, strOf_map, -List.map_take, -List.map_drop, bndOk, bnd, partAV, ptrAdd, killBox, catA, inOrder, fillA, setAt, ofVal, resB, upd, byteV, List.head?_take, List.head?_drop, List.getElem?_map, mkS_env, mkS_box, mkS_used, entry_env, entry_box, entry_used, lk, iV, i64V, boolV, byteV, dV_getElem, dV_app, dV_cons, toNat_add2, toNat_add1, ↓numC_refs, ↓numC_isCell, ↓numC_cells, ↓numC_resB, ↓numC_resD, ↓numC_ren, ↓numC_closeC, ↓numC_isOwn, yv]); try simp (disch := omega) only [i64_in, u64_in, shr64i])
      | with_reducible refine W_drawn mixed (by decide) (by kernel_rfl) ?_
      | (rw [vcnD]; (try simp [optK_some, optK_none, optK_ite, optK_map, optK_bind, gOn, stepK, isMem, evPure, evMem, evBin, evUn, evConv, evLen, evBuiltin, evMinMax, evSlice, evBuild, evAppend, evIndex, evIndexAddr, evField, evFieldAddr, intBin, strBin, appDest, AS.val, AS.mem, AS.elems, AS.put, AS.put', AS.eff, AV.cells?, AV.isCell, AV.refs, all_isByte, take_byteV, drop_byteV, strOf_map, -List.map_take, -List.map_drop, bndOk, bnd, partAV, ptrAdd, killBox, catA, inOrder, fillA, setAt, ofVal, resB, upd, byteV, List.head?_take, List.head?_drop, List.getElem?_map, mkS_env, mkS_box, mkS_used, entry_env, entry_box, entry_used, lk, stepD, lookIds, Oper.looksAt, Op.operands, Call.operands, St.ids, refsL, iV, i64V, boolV, byteV, dV_getElem, dV_app, dV_cons, toNat_add2, toNat_add1, ↓numC_refs, ↓numC_isCell, ↓numC_cells, ↓numC_resB, ↓numC_resD, ↓numC_ren, ↓numC_closeC, ↓numC_isOwn, yv]); try simp (disch := omega) only [i64_in, u64_in, shr64i])
      | (with_reducible refine W_condW ?_; (try simp [AS.val, upd, resB, mkS_env, mkS_box, lk, entry_env, condW_true, condW_false, yv]))
      | with_reducible refine optK_dV (by first | omega | (simp; omega)) ?_
      | with_reducible refine optK_dVh (by omega) ?_
      | refine And.intro (by first | omega | kernel_rfl) ?_
      | (with_reducible refine condW_b (fun hc => ?_) (fun hc => ?_) <;> (try simp [Int.ofNat_inj] at hc) <;> try contradiction)
      | fail)
    refine ⟨id, ⟨?_, ?_, ?_, ?_, ?_, ?_⟩⟩
    all_goals first | (with_reducible refine W_id ?_) | (simp [renL_append, dV_take, dV_drop, mkS_env, mkS_box, entry_env, entry_box, upd, resB, ren, renL, renBox, AV.refs, refsL, Box.refs, lk, iV, i64V, boolV, byteV, dV_getElem, dV_app, dV_cons, toNat_add2, toNat_add1, ↓numC_refs, ↓numC_isCell, ↓numC_cells, ↓numC_resB, ↓numC_resD, ↓numC_ren, ↓numC_closeC, ↓numC_isOwn, hUr, yv]; done) | (simp [renL_append, dV_take, dV_drop, mkS_env, mkS_box, entry_env, entry_box, upd, resB, ren, renL, renBox, AV.refs, refsL, Box.refs, lk, iV, i64V, boolV, byteV, dV_getElem, dV_app, dV_cons, toNat_add2, toNat_add1, ↓numC_refs, ↓numC_isCell, ↓numC_cells, ↓numC_resB, ↓numC_resD, ↓numC_ren, ↓numC_closeC, ↓numC_isOwn, hUr, yv]; omega) | (intro i hi; simp; omega) | (intro i hi; dsimp only; (repeat' split) <;> omega) | (simp [renL_append, dV_take, dV_drop, mkS_env, mkS_box, entry_env, entry_box, upd, resB, ren, renL, renBox, AV.refs, refsL, Box.refs, lk, iV, i64V, boolV, byteV, dV_getElem, dV_app, dV_cons, toNat_add2, toNat_add1, ↓numC_refs, ↓numC_isCell, ↓numC_cells, ↓numC_resB, ↓numC_resD, ↓numC_ren, ↓numC_closeC, ↓numC_isOwn, hUr, yv]; fail_if_success done)
  · intro l k hk
    by_cases c1 : k < n
    · have y1 : (k < n) = True := eq_true c1
      have y2 : ((k : Int) < (n : Int)) = True := eq_true (by omega)
      repeat' (first
        | with_reducible refine thenW_n ?_
        | with_reducible refine thenW_ret ?_
        | with_reducible refine thenW_exit ?_
        | with_reducible refine thenW_panic ?_
        | with_reducible refine blockW_n ?_
        | with_reducible refine blockW_same ?_
        | with_reducible refine blockW_ret ?_
        | with_reducible refine blockW_panic ?_
        | with_reducible refine loopW_ret ?_
        | with_reducible refine loopW_exit ?_
        | with_reducible refine loopW_panic ?_
        | with_reducible refine joinW_ret ?_
        | with_reducible refine joinW_exit ?_
        | with_reducible refine joinW_panic ?_
        | with_reducible refine W_seq ?_
        | with_reducible refine W_block ?_
        | with_reducible refine W_skip ?_
        | with_reducible refine W_ret ?_
        | with_reducible refine W_exit ?_
        | with_reducible refine W_label ?_
        | with_reducible refine blockW_other (by decide) ?_
        | with_reducible refine W_rg ?_
        | (rw [vcn]; (try simp [optK_some, optK_none, optK_ite, optK_map, optK_bind, gOn, stepK, isMem, evPure, evMem, evBin, evUn, evConv, evLen, evBuiltin, evMinMax, evSlice, evBuild, evAppend, evIndex, evIndexAddr, evField, evFieldAddr, intBin, strBin, appDest, AS.val, AS.mem, AS.elems, AS.put, AS.put', AS.eff, AV.cells?, AV.isCell, AV.refs, all_isByte, take_byteV, drop_byteV, strOf_map, -List.map_take, -List.map_drop, bndOk, bnd, partAV, ptrAdd, killBox, catA, inOrder, fillA, setAt, ofVal, resB, upd, byteV, List.head?_take, List.head?_drop, List.getElem?_map, mkS_env, mkS_box, mkS_used, entry_env, entry_box, entry_used, lk, iV, i64V, boolV, byteV, dV_getElem, dV_app, dV_cons, toNat_add2, toNat_add1, ↓numC_refs, ↓numC_isCell, ↓numC_cells, ↓numC_resB, ↓numC_resD, ↓numC_ren, ↓numC_closeC, ↓numC_isOwn, y1, y2, yv]); try simp (disch := omega) only [i64_in, u64_in, shr64i])
        | with_reducible refine W_drawn mixed (by decide) (by kernel_rfl) ?_
        | (rw [vcnD]; (try simp [optK_some, optK_none, optK_ite, optK_map, optK_bind, gOn, stepK, isMem, evPure, evMem, evBin, evUn, evConv, evLen, evBuiltin, evMinMax, evSlice, evBuild, evAppend, evIndex, evIndexAddr, evField, evFieldAddr, intBin, strBin, appDest, AS.val, AS.mem, AS.elems, AS.put, AS.put', AS.eff, AV.cells?, AV.isCell, AV.refs, all_isByte, take_byteV, drop_byteV, strOf_map, -List.map_take, -List.map_drop, bndOk, bnd, partAV, ptrAdd, killBox, catA, inOrder, fillA, setAt, ofVal, resB, upd, byteV, List.head?_take, List.head?_drop, List.getElem?_map, mkS_env, mkS_box, mkS_used, entry_env, entry_box, entry_used, lk, stepD, lookIds, Oper.looksAt, Op.operands, Call.operands, St.ids, refsL, iV, i64V, boolV, byteV, dV_getElem, dV_app, dV_cons, toNat_add2, toNat_add1, ↓numC_refs, ↓numC_isCell, ↓numC_cells, ↓numC_resB, ↓numC_resD, ↓numC_ren, ↓numC_closeC, ↓numC_isOwn, y1, y2, yv]); try simp (disch := omega) only [i64_in, u64_in, shr64i])
        | (with_reducible refine W_condW ?_; (try simp [AS.val, upd, resB, mkS_env, mkS_box, lk, entry_env, condW_true, condW_false, y1, y2, yv]))
        | with_reducible refine optK_dV (by first | omega | (simp; omega)) ?_
        | with_reducible refine optK_dVh (by omega) ?_
        | refine And.intro (by first | omega | kernel_rfl) ?_
        | (with_reducible refine condW_b (fun hc => ?_) (fun hc => ?_) <;> (try simp [Int.ofNat_inj] at hc) <;> try contradiction)
        | fail)
      refine ⟨id, ⟨?_, ?_, ?_, ?_, ?_, ?_⟩⟩
      all_goals first | (with_reducible refine W_id ?_) | (simp [renL_append, dV_take, dV_drop, mkS_env, mkS_box, entry_env, entry_box, upd, resB, ren, renL, renBox, AV.refs, refsL, Box.refs, lk, iV, i64V, boolV, byteV, dV_getElem, dV_app, dV_cons, toNat_add2, toNat_add1, ↓numC_refs, ↓numC_isCell, ↓numC_cells, ↓numC_resB, ↓numC_resD, ↓numC_ren, ↓numC_closeC, ↓numC_isOwn, hUr, y1, y2, yv]; done) | (simp [renL_append, dV_take, dV_drop, mkS_env, mkS_box, entry_env, entry_box, upd, resB, ren, renL, renBox, AV.refs, refsL, Box.refs, lk, iV, i64V, boolV, byteV, dV_getElem, dV_app, dV_cons, toNat_add2, toNat_add1, ↓numC_refs, ↓numC_isCell, ↓numC_cells, ↓numC_resB, ↓numC_resD, ↓numC_ren, ↓numC_closeC, ↓numC_isOwn, hUr, y1, y2, yv]; omega) | (intro i hi; simp; omega) | (intro i hi; dsimp only; (repeat' split) <;> omega) | (simp [renL_append, dV_take, dV_drop, mkS_env, mkS_box, entry_env, entry_box, upd, resB, ren, renL, renBox, AV.refs, refsL, Box.refs, lk, iV, i64V, boolV, byteV, dV_getElem, dV_app, dV_cons, toNat_add2, toNat_add1, ↓numC_refs, ↓numC_isCell, ↓numC_cells, ↓numC_resB, ↓numC_resD, ↓numC_ren, ↓numC_closeC, ↓numC_isOwn, hUr, y1, y2, yv]; fail_if_success done)
    · have y1 : (k < n) = False := eq_false c1
      have y2 : ((k : Int) < (n : Int)) = False := eq_false (by omega)
      repeat' (first
        | with_reducible refine thenW_n ?_
        | with_reducible refine thenW_ret ?_
        | with_reducible refine thenW_exit ?_
        | with_reducible refine thenW_panic ?_
        | with_reducible refine blockW_n ?_
        | with_reducible refine blockW_same ?_
        | with_reducible refine blockW_ret ?_
        | with_reducible refine blockW_panic ?_
        | with_reducible refine loopW_ret ?_
        | with_reducible refine loopW_exit ?_
        | with_reducible refine loopW_panic ?_
        | with_reducible refine joinW_ret ?_
        | with_reducible refine joinW_exit ?_
        | with_reducible refine joinW_panic ?_
        | with_reducible refine W_seq ?_
        | with_reducible refine W_block ?_
        | with_reducible refine W_skip ?_
        | with_reducible refine W_ret ?_
        | with_reducible refine W_exit ?_
        | with_reducible refine W_label ?_
        | with_reducible refine blockW_other (by decide) ?_
        | with_reducible refine W_rg ?_
        | (rw [vcn]; (try simp [optK_some, optK_none, optK_ite, optK_map, optK_bind, gOn, stepK, isMem, evPure, evMem, evBin, evUn, evConv, evLen, evBuiltin, evMinMax, evSlice, evBuild, evAppend, evIndex, evIndexAddr, evField, evFieldAddr, intBin, strBin, appDest, AS.val, AS.mem, AS.elems, AS.put, AS.put', AS.eff, AV.cells?, AV.isCell, AV.refs, all_isByte, take_byteV, drop_byteV, strOf_map, -List.map_take, -List.map_drop, bndOk, bnd, partAV, ptrAdd, killBox, catA, inOrder, fillA, setAt, ofVal, resB, upd, byteV, List.head?_take, List.head?_drop, List.getElem?_map, mkS_env, mkS_box, mkS_used, entry_env, entry_box, entry_used, lk, iV, i64V, boolV, byteV, dV_getElem, dV_app, dV_cons, toNat_add2, toNat_add1, ↓numC_refs, ↓numC_isCell, ↓numC_cells, ↓numC_resB, ↓numC_resD, ↓numC_ren, ↓numC_closeC, ↓numC_isOwn, y1, y2, yv]); try simp (disch := omega) only [i64_in, u64_in, shr64i])
        | with_reducible refine W_drawn mixed (by decide) (by kernel_rfl) ?_
        | (rw [vcnD]; (try simp [optK_some, optK_none, optK_ite, optK_map, optK_bind, gOn, stepK, isMem, evPure, evMem, evBin, evUn, evConv, evLen, evBuiltin, evMinMax, evSlice, evBuild, evAppend, evIndex, evIndexAddr, evField, evFieldAddr, intBin, strBin, appDest, AS.val, AS.mem, AS.elems, AS.put, AS.put', AS.eff, AV.cells?, AV.isCell, AV.refs, all_isByte, take_byteV, drop_byteV, strOf_map, -List.map_take, -List.map_drop, bndOk, bnd, partAV, ptrAdd, killBox, catA, inOrder, fillA, setAt, ofVal, resB, upd, byteV, List.head?_take, List.head?_drop, List.getElem?_map, mkS_env, mkS_box, mkS_used, entry_env, entry_box, entry_used, lk, stepD, lookIds, Oper.looksAt, Op.operands, Call.operands, St.ids, refsL, iV, i64V, boolV, byteV, dV_getElem, dV_app, dV_cons, toNat_add2, toNat_add1, ↓numC_refs, ↓numC_isCell, ↓numC_cells, ↓numC_resB, ↓numC_resD, ↓numC_ren, ↓numC_closeC, ↓numC_isOwn, y1, y2, yv]); try simp (disch := omega) only [i64_in, u64_in, shr64i])
        | (with_reducible refine W_condW ?_; (try simp [AS.val, upd, resB, mkS_env, mkS_box, lk, entry_env, condW_true, condW_false, y1, y2, yv]))
        | with_reducible refine optK_dV (by first | omega | (simp; omega)) ?_
        | with_reducible refine optK_dVh (by omega) ?_
        | refine And.intro (by first | omega | kernel_rfl) ?_
        | (with_reducible refine condW_b (fun hc => ?_) (fun hc => ?_) <;> (try simp [Int.ofNat_inj] at hc) <;> try contradiction)
        | fail)
      refine ⟨id, ⟨?_, ?_, ?_, ?_, ?_, ?_⟩⟩
      all_goals first | (with_reducible refine W_id ?_) | (simp [renL_append, dV_take, dV_drop, mkS_env, mkS_box, entry_env, entry_box, upd, resB, ren, renL, renBox, AV.refs, refsL, Box.refs, lk, iV, i64V, boolV, byteV, dV_getElem, dV_app, dV_cons, toNat_add2, toNat_add1, ↓numC_refs, ↓numC_isCell, ↓numC_cells, ↓numC_resB, ↓numC_resD, ↓numC_ren, ↓numC_closeC, ↓numC_isOwn, hUr, y1, y2, yv]; done) | (simp [renL_append, dV_take, dV_drop, mkS_env, mkS_box, entry_env, entry_box, upd, resB, ren, renL, renBox, AV.refs, refsL, Box.refs, lk, iV, i64V, boolV, byteV, dV_getElem, dV_app, dV_cons, toNat_add2, toNat_add1, ↓numC_refs, ↓numC_isCell, ↓numC_cells, ↓numC_resB, ↓numC_resD, ↓numC_ren, ↓numC_closeC, ↓numC_isOwn, hUr, y1, y2, yv]; omega) | (intro i hi; simp; omega) | (intro i hi; dsimp only; (repeat' split) <;> omega) | (simp [renL_append, dV_take, dV_drop, mkS_env, mkS_box, entry_env, entry_box, upd, resB, ren, renL, renBox, AV.refs, refsL, Box.refs, lk, iV, i64V, boolV, byteV, dV_getElem, dV_app, dV_cons, toNat_add2, toNat_add1, ↓numC_refs, ↓numC_isCell, ↓numC_cells, ↓numC_resB, ↓numC_resD, ↓numC_ren, ↓numC_closeC, ↓numC_isOwn, hUr, y1, y2, yv]; fail_if_success done)
  · intro l k hk
    rfl
  · intro l k hk
    simp only [List.take_succ_cons, List.take_zero]
    obtain ⟨c0, c1, c2, c3, c4, c5, c6, c7, h1, t1, h2⟩ := hat k hk
    have hj : (k + 1) % n < n := Nat.mod_lt _ (by omega)
    have hrem : ((k : Int) + 1).tmod (n : Int) = (((k + 1) % n : Nat) : Int) := by rw [Int.tmod_eq_emod_of_nonneg (by omega)]; rfl
    obtain ⟨j, hj2⟩ : ∃ j, j = (k + 1) % n := ⟨_, rfl⟩
    rw [← hj2] at hj hrem ⊢
    obtain ⟨d0, d1, d2, d3, d4, d5, d6, d7, h3, t3, h4⟩ := hat j hj
    have n0 : (n = 0) = False := eq_false (by omega)
    have n1 : ((n : Int) = 0) = False := eq_false (by omega)
    clear hj2 hat hcut u3 u2
    repeat' (first
      | with_reducible refine thenW_n ?_
      | with_reducible refine thenW_ret ?_
      | with_reducible refine thenW_exit ?_
      | with_reducible refine thenW_panic ?_
      | with_reducible refine blockW_n ?_
      | with_reducible refine blockW_same ?_
      | with_reducible refine blockW_ret ?_
      | with_reducible refine blockW_panic ?_
      | with_reducible refine loopW_ret ?_
      | with_reducible refine loopW_exit ?_
      | with_reducible refine loopW_panic ?_
      | with_reducible refine joinW_ret ?_
      | with_reducible refine joinW_exit ?_
      | with_reducible refine joinW_panic ?_
      | with_reducible refine W_seq ?_
      | with_reducible refine W_block ?_
      | with_reducible refine W_skip ?_
      | with_reducible refine W_ret ?_
      | with_reducible refine W_exit ?_
      | with_reducible refine W_label ?_
      | with_reducible refine blockW_other (by decide) ?_
      | with_reducible refine W_rg ?_
      | (rw [vcn]; (try simp [optK_some, optK_none, optK_ite, optK_map, optK_bind, gOn, stepK, isMem, evPure, evMem, evBin, evUn, evConv, evLen, evBuiltin, evMinMax, evSlice, evBuild, evAppend, evIndex, evIndexAddr, evField, evFieldAddr, intBin, strBin, appDest, AS.val, AS.mem, AS.elems, AS.put, AS.put', AS.eff, AV.cells?, AV.isCell, AV.refs, all_isByte, take_byteV, drop_byteV, strOf_map, -List.map_take, -List.map_drop, bndOk, bnd, partAV, ptrAdd, killBox, catA, inOrder, fillA, setAt, ofVal, resB, upd, byteV, List.head?_take, List.head?_drop, List.getElem?_map, mkS_env, mkS_box, mkS_used, entry_env, entry_box, entry_used, lk, iV, i64V, boolV, byteV, dV_getElem, dV_app, dV_cons, toNat_add2, toNat_add1, ↓numC_refs, ↓numC_isCell, ↓numC_cells, ↓numC_resB, ↓numC_resD, ↓numC_ren, ↓numC_closeC, ↓numC_isOwn, h2, h4, hUl, hk, hj, hrem, n0, n1, yv]); try simp (disch := omega) only [i64_in, u64_in, shr64i])
      | with_reducible refine W_drawn mixed (by decide) (by kernel_rfl) ?_
      | (rw [vcnD]; (try simp [optK_some, optK_none, optK_ite, optK_map, optK_bind, gOn, stepK, isMem, evPure, evMem, evBin, evUn, evConv, evLen, evBuiltin, evMinMax, evSlice, evBuild, evAppend, evIndex, evIndexAddr, evField, evFieldAddr, intBin, strBin, appDest, AS.val, AS.mem, AS.elems, AS.put, AS.put', AS.eff, AV.cells?, AV.isCell, AV.refs, all_isByte, take_byteV, drop_byteV, strOf_map, -List.map_take, -List.map_drop, bndOk, bnd, partAV, ptrAdd, killBox, catA, inOrder, fillA, setAt, ofVal, resB, upd, byteV, List.head?_take, List.head?_drop, List.getElem?_map, mkS_env, mkS_box, mkS_used, entry_env, entry_box, entry_used, lk, stepD, lookIds, Oper.looksAt, Op.operands, Call.operands, St.ids, refsL, iV, i64V, boolV, byteV, dV_getElem, dV_app, dV_cons, toNat_add2, toNat_add1, ↓numC_refs, ↓numC_isCell, ↓numC_cells, ↓numC_resB, ↓numC_resD, ↓numC_ren, ↓numC_closeC, ↓numC_isOwn, h2, h4, hUl, hk, hj, hrem, n0, n1, yv]); try simp (disch := omega) only [i64_in, u64_in, shr64i])
      | (with_reducible refine W_condW ?_; (try simp [AS.val, upd, resB, mkS_env, mkS_box, lk, entry_env, condW_true, condW_false, h2, h4, hUl, hk, hj, hrem, n0, n1, yv]))
      | with_reducible refine optK_dV (by first | omega | (simp; omega)) ?_
      | with_reducible refine optK_dVh (by omega) ?_
      | refine And.intro (by first | omega | kernel_rfl) ?_
      | (with_reducible refine condW_b (fun hc => ?_) (fun hc => ?_) <;> (try simp [Int.ofNat_inj] at hc) <;> try contradiction)
      | fail)
    refine ⟨id, ⟨?_, ?_, ?_, ?_, ?_, ?_⟩⟩
    all_goals first | (with_reducible refine W_id ?_) | (simp [renL_append, dV_take, dV_drop, mkS_env, mkS_box, entry_env, entry_box, upd, resB, ren, renL, renBox, AV.refs, refsL, Box.refs, lk, iV, i64V, boolV, byteV, dV_getElem, dV_app, dV_cons, toNat_add2, toNat_add1, ↓numC_refs, ↓numC_isCell, ↓numC_cells, ↓numC_resB, ↓numC_resD, ↓numC_ren, ↓numC_closeC, ↓numC_isOwn, hUr, h1, h3, yv]; done) | (simp [renL_append, dV_take, dV_drop, mkS_env, mkS_box, entry_env, entry_box, upd, resB, ren, renL, renBox, AV.refs, refsL, Box.refs, lk, iV, i64V, boolV, byteV, dV_getElem, dV_app, dV_cons, toNat_add2, toNat_add1, ↓numC_refs, ↓numC_isCell, ↓numC_cells, ↓numC_resB, ↓numC_resD, ↓numC_ren, ↓numC_closeC, ↓numC_isOwn, hUr, h1, h3, yv]; omega) | (intro i hi; simp; omega) | (intro i hi; dsimp only; (repeat' split) <;> omega) | (simp [renL_append, dV_take, dV_drop, mkS_env, mkS_box, entry_env, entry_box, upd, resB, ren, renL, renBox, AV.refs, refsL, Box.refs, lk, iV, i64V, boolV, byteV, dV_getElem, dV_app, dV_cons, toNat_add2, toNat_add1, ↓numC_refs, ↓numC_isCell, ↓numC_cells, ↓numC_resB, ↓numC_resD, ↓numC_ren, ↓numC_closeC, ↓numC_isOwn, hUr, h1, h3, yv]; fail_if_success done)
  · intro l k hk
    rfl
  · intro l k hk M a w hM hS
    have e1 := agg_eval (us := cut8 us k ++ cut8 us ((k + 1) % n)) hM hS (t := 22) (by rw [List.map_append, ← hcut, ← hcut]; rfl)
    simp only [List.map_toArray, List.map_cons, List.map_nil]
    rw [e1]
  · intro l k hk
    repeat' (first
      | with_reducible refine thenW_n ?_
      | with_reducible refine thenW_ret ?_
      | with_reducible refine thenW_exit ?_
      | with_reducible refine thenW_panic ?_
      | with_reducible refine blockW_n ?_
      | with_reducible refine blockW_same ?_
      | with_reducible refine blockW_ret ?_
      | with_reducible refine blockW_panic ?_
      | with_reducible refine loopW_ret ?_
      | with_reducible refine loopW_exit ?_
      | with_reducible refine loopW_panic ?_
      | with_reducible refine joinW_ret ?_
      | with_reducible refine joinW_exit ?_
      | with_reducible refine joinW_panic ?_
      | with_reducible refine W_seq ?_
      | with_reducible refine W_block ?_
      | with_reducible refine W_skip ?_
      | with_reducible refine W_ret ?_
      | with_reducible refine W_exit ?_
      | with_reducible refine W_label ?_
      | with_reducible refine blockW_other (by decide) ?_
      | with_reducible refine W_rg ?_
      | (rw [vcn]; (try simp [optK_some, optK_none, optK_ite, optK_map, optK_bind, gOn, stepK, isMem, evPure, evMem, evBin, evUn, evConv, evLen, evBuiltin, evMinMax, evSlice, evBuild, evAppend, evIndex, evIndexAddr, evField, evFieldAddr, intBin, strBin, appDest, AS.val, AS.mem, AS.elems, AS.put, AS.put', AS.eff, AV.cells?, AV.isCell, AV.refs, all_isByte, take_byteV, drop_byteV, strOf_map, -List.map_take, -List.map_drop, bndOk, bnd, partAV, ptrAdd, killBox, catA, inOrder, fillA, setAt, ofVal, resB, upd, byteV, List.head?_take, List.head?_drop, List.getElem?_map, mkS_env, mkS_box, mkS_used, entry_env, entry_box, entry_used, lk, iV, i64V, boolV, byteV, dV_getElem, dV_app, dV_cons, toNat_add2, toNat_add1, ↓numC_refs, ↓numC_isCell, ↓numC_cells, ↓numC_resB, ↓numC_resD, ↓numC_ren, ↓numC_closeC, ↓numC_isOwn, yv]); try simp (disch := omega) only [i64_in, u64_in, shr64i])
      | with_reducible refine W_drawn mixed (by decide) (by kernel_rfl) ?_
      | (rw [vcnD]; (try simp [optK_some, optK_none, optK_ite, optK_map, optK_bind, gOn, stepK, isMem, evPure, evMem, evBin, evUn, evConv, evLen, evBuiltin, evMinMax, evSlice, evBuild, evAppend, evIndex, evIndexAddr, evField, evFieldAddr, intBin, strBin, appDest, AS.val, AS.mem, AS.elems, AS.put, AS.put', AS.eff, AV.cells?, AV.isCell, AV.refs, all_isByte, take_byteV, drop_byteV, strOf_map, -List.map_take, -List.map_drop, bndOk, bnd, partAV, ptrAdd, killBox, catA, inOrder, fillA, setAt, ofVal, resB, upd, byteV, List.head?_take, List.head?_drop, List.getElem?_map, mkS_env, mkS_box, mkS_used, entry_env, entry_box, entry_used, lk, stepD, lookIds, Oper.looksAt, Op.operands, Call.operands, St.ids, refsL, iV, i64V, boolV, byteV, dV_getElem, dV_app, dV_cons, toNat_add2, toNat_add1, ↓numC_refs, ↓numC_isCell, ↓numC_cells, ↓numC_resB, ↓numC_resD, ↓numC_ren, ↓numC_closeC, ↓numC_isOwn, yv]); try simp (disch := omega) only [i64_in, u64_in, shr64i])
      | (with_reducible refine W_condW ?_; (try simp [AS.val, upd, resB, mkS_env, mkS_box, lk, entry_env, condW_true, condW_false, yv]))
      | with_reducible refine optK_dV (by first | omega | (simp; omega)) ?_
      | with_reducible refine optK_dVh (by omega) ?_
      | refine And.intro (by first | omega | kernel_rfl) ?_
      | (with_reducible refine condW_b (fun hc => ?_) (fun hc => ?_) <;> (try simp [Int.ofNat_inj] at hc) <;> try contradiction)
      | fail)
    refine ⟨id, ⟨?_, ?_, ?_, ?_, ?_, ?_⟩⟩
    all_goals first | (with_reducible refine W_id ?_) | (simp [renL_append, dV_take, dV_drop, mkS_env, mkS_box, entry_env, entry_box, upd, resB, ren, renL, renBox, AV.refs, refsL, Box.refs, lk, iV, i64V, boolV, byteV, dV_getElem, dV_app, dV_cons, toNat_add2, toNat_add1, ↓numC_refs, ↓numC_isCell, ↓numC_cells, ↓numC_resB, ↓numC_resD, ↓numC_ren, ↓numC_closeC, ↓numC_isOwn, hUr, yv]; done) | (simp [renL_append, dV_take, dV_drop, mkS_env, mkS_box, entry_env, entry_box, upd, resB, ren, renL, renBox, AV.refs, refsL, Box.refs, lk, iV, i64V, boolV, byteV, dV_getElem, dV_app, dV_cons, toNat_add2, toNat_add1, ↓numC_refs, ↓numC_isCell, ↓numC_cells, ↓numC_resB, ↓numC_resD, ↓numC_ren, ↓numC_closeC, ↓numC_isOwn, hUr, yv]; omega) | (intro i hi; simp; omega) | (intro i hi; dsimp only; (repeat' split) <;> omega) | (simp [renL_append, dV_take, dV_drop, mkS_env, mkS_box, entry_env, entry_box, upd, resB, ren, renL, renBox, AV.refs, refsL, Box.refs, lk, iV, i64V, boolV, byteV, dV_getElem, dV_app, dV_cons, toNat_add2, toNat_add1, ↓numC_refs, ↓numC_isCell, ↓numC_cells, ↓numC_resB, ↓numC_resD, ↓numC_ren, ↓numC_closeC, ↓numC_isOwn, hUr, yv]; fail_if_success done)
  · repeat' (first
      | with_reducible refine thenW_n ?_
      | with_reducible refine thenW_ret ?_
      | with_reducible refine thenW_exit ?_
      | with_reducible refine thenW_panic ?_
      | with_reducible refine blockW_n ?_
      | with_reducible refine blockW_same ?_
      | with_reducible refine blockW_ret ?_
      | with_reducible refine blockW_panic ?_
      | with_reducible refine loopW_ret ?_
      | with_reducible refine loopW_exit ?_
      | with_reducible refine loopW_panic ?_
      | with_reducible refine joinW_ret ?_
      | with_reducible refine joinW_exit ?_
      | with_reducible refine joinW_panic ?_
      | with_reducible refine W_seq ?_
      | with_reducible refine W_block ?_
      | with_reducible refine W_skip ?_
      | with_reducible refine W_ret ?_
      | with_reducible refine W_exit ?_
      | with_reducible refine W_label ?_
      | with_reducible refine blockW_other (by decide) ?_
      | with_reducible refine W_rg ?_
      | (rw [vcn]; (try simp [optK_some, optK_none, optK_ite, optK_map, optK_bind, gOn, stepK, isMem, evPure, evMem, evBin, evUn, evConv, evLen, evBuiltin, evMinMax, evSlice, evBuild, evAppend, evIndex, evIndexAddr, evField, evFieldAddr, intBin, strBin, appDest, AS.val, AS.mem, AS.elems, AS.put, AS.put', AS.eff, AV.cells?, AV.isCell, AV.refs, all_isByte, take_byteV, drop_byteV, strOf_map, -List.map_take, -List.map_drop, bndOk, bnd, partAV, ptrAdd, killBox, catA, inOrder, fillA, setAt, ofVal, resB, upd, byteV, List.head?_take, List.head?_drop, List.getElem?_map, mkS_env, mkS_box, mkS_used, entry_env, entry_box, entry_used, lk, iV, i64V, boolV, byteV, dV_getElem, dV_app, dV_cons, toNat_add2, toNat_add1, ↓numC_refs, ↓numC_isCell, ↓numC_cells, ↓numC_resB, ↓numC_resD, ↓numC_ren, ↓numC_closeC, ↓numC_isOwn, yv]); try simp (disch := omega) only [i64_in, u64_in, shr64i])
      | with_reducible refine W_drawn mixed (by decide) (by kernel_rfl) ?_
      | (rw [vcnD]; (try simp [optK_some, optK_none, optK_ite, optK_map, optK_bind, gOn, stepK, isMem, evPure, evMem, evBin, evUn, evConv, evLen, evBuiltin, evMinMax, evSlice, evBuild, evAppend, evIndex, evIndexAddr, evField, evFieldAddr, intBin, strBin, appDest, AS.val, AS.mem, AS.elems, AS.put, AS.put', AS.eff, AV.cells?, AV.isCell, AV.refs, all_isByte, take_byteV, drop_byteV, strOf_map, -List.map_take, -List.map_drop, bndOk, bnd, partAV, ptrAdd, killBox, catA, inOrder, fillA, setAt, ofVal, resB, upd, byteV, List.head?_take, List.head?_drop, List.getElem?_map, mkS_env, mkS_box, mkS_used, entry_env, entry_box, entry_used, lk, stepD, lookIds, Oper.looksAt, Op.operands, Call.operands, St.ids, refsL, iV, i64V, boolV, byteV, dV_getElem, dV_app, dV_cons, toNat_add2, toNat_add1, ↓numC_refs, ↓numC_isCell, ↓numC_cells, ↓numC_resB, ↓numC_resD, ↓numC_ren, ↓numC_closeC, ↓numC_isOwn, yv]); try simp (disch := omega) only [i64_in, u64_in, shr64i])
      | (with_reducible refine W_condW ?_; (try simp [AS.val, upd, resB, mkS_env, mkS_box, lk, entry_env, condW_true, condW_false, yv]))
      | with_reducible refine optK_dV (by first | omega | (simp; omega)) ?_
      | with_reducible refine optK_dVh (by omega) ?_
      | refine And.intro (by first | omega | kernel_rfl) ?_
      | (with_reducible refine condW_b (fun hc => ?_) (fun hc => ?_) <;> (try simp [Int.ofNat_inj] at hc) <;> try contradiction)
      | fail)
    refine ⟨id, ⟨?_, ?_, ?_, ?_, ?_, ?_⟩⟩
    all_goals first | (with_reducible refine W_id ?_) | (simp [renL_append, dV_take, dV_drop, mkS_env, mkS_box, entry_env, entry_box, upd, resB, ren, renL, renBox, AV.refs, refsL, Box.refs, lk, iV, i64V, boolV, byteV, dV_getElem, dV_app, dV_cons, toNat_add2, toNat_add1, ↓numC_refs, ↓numC_isCell, ↓numC_cells, ↓numC_resB, ↓numC_resD, ↓numC_ren, ↓numC_closeC, ↓numC_isOwn, hUr, yv]; done) | (simp [renL_append, dV_take, dV_drop, mkS_env, mkS_box, entry_env, entry_box, upd, resB, ren, renL, renBox, AV.refs, refsL, Box.refs, lk, iV, i64V, boolV, byteV, dV_getElem, dV_app, dV_cons, toNat_add2, toNat_add1, ↓numC_refs, ↓numC_isCell, ↓numC_cells, ↓numC_resB, ↓numC_resD, ↓numC_ren, ↓numC_closeC, ↓numC_isOwn, hUr, yv]; omega) | (intro i hi; simp; omega) | (intro i hi; dsimp only; (repeat' split) <;> omega) | (simp [renL_append, dV_take, dV_drop, mkS_env, mkS_box, entry_env, entry_box, upd, resB, ren, renL, renBox, AV.refs, refsL, Box.refs, lk, iV, i64V, boolV, byteV, dV_getElem, dV_app, dV_cons, toNat_add2, toNat_add1, ↓numC_refs, ↓numC_isCell, ↓numC_cells, ↓numC_resB, ↓numC_resD, ↓numC_ren, ↓numC_closeC, ↓numC_isOwn, hUr, yv]; fail_if_success done)
  · intro l k hk
    rfl
  · intro l k hk
    repeat' (first
      | with_reducible refine thenW_n ?_
      | with_reducible refine thenW_ret ?_
      | with_reducible refine thenW_exit ?_
      | with_reducible refine thenW_panic ?_
      | with_reducible refine blockW_n ?_
      | with_reducible refine blockW_same ?_
      | with_reducible refine blockW_ret ?_
      | with_reducible refine blockW_panic ?_
      | with_reducible refine loopW_ret ?_
      | with_reducible refine loopW_exit ?_
      | with_reducible refine loopW_panic ?_
      | with_reducible refine joinW_ret ?_
      | with_reducible refine joinW_exit ?_
      | with_reducible refine joinW_panic ?_
      | with_reducible refine W_seq ?_
      | with_reducible refine W_block ?_
      | with_reducible refine W_skip ?_
      | with_reducible refine W_ret ?_
      | with_reducible refine W_exit ?_
      | with_reducible refine W_label ?_
      | with_reducible refine blockW_other (by decide) ?_
      | with_reducible refine W_rg ?_
      | (rw [vcn]; (try simp [optK_some, optK_none, optK_ite, optK_map, optK_bind, gOn, stepK, isMem, evPure, evMem, evBin, evUn, evConv, evLen, evBuiltin, evMinMax, evSlice, evBuild, evAppend, evIndex, evIndexAddr, evField, evFieldAddr, intBin, strBin, appDest, AS.val, AS.mem, AS.elems, AS.put, AS.put', AS.eff, AV.cells?, AV.isCell, AV.refs, all_isByte, take_byteV, drop_byteV, strOf_map, -List.map_take, -List.map_drop, bndOk, bnd, partAV, ptrAdd, killBox, catA, inOrder, fillA, setAt, ofVal, resB, upd, byteV, List.head?_take, List.head?_drop, List.getElem?_map, mkS_env, mkS_box, mkS_used, entry_env, entry_box, entry_used, lk, iV, i64V, boolV, byteV, dV_getElem, dV_app, dV_cons, toNat_add2, toNat_add1, ↓numC_refs, ↓numC_isCell, ↓numC_cells, ↓numC_resB, ↓numC_resD, ↓numC_ren, ↓numC_closeC, ↓numC_isOwn, yv]); try simp (disch := omega) only [i64_in, u64_in, shr64i])
      | with_reducible refine W_drawn mixed (by decide) (by kernel_rfl) ?_
      | (rw [vcnD]; (try simp [optK_some, optK_none, optK_ite, optK_map, optK_bind, gOn, stepK, isMem, evPure, evMem, evBin, evUn, evConv, evLen, evBuiltin, evMinMax, evSlice, evBuild, evAppend, evIndex, evIndexAddr, evField, evFieldAddr, intBin, strBin, appDest, AS.val, AS.mem, AS.elems, AS.put, AS.put', AS.eff, AV.cells?, AV.isCell, AV.refs, all_isByte, take_byteV, drop_byteV, strOf_map, -List.map_take, -List.map_drop, bndOk, bnd, partAV, ptrAdd, killBox, catA, inOrder, fillA, setAt, ofVal, resB, upd, byteV, List.head?_take, List.head?_drop, List.getElem?_map, mkS_env, mkS_box, mkS_used, entry_env, entry_box, entry_used, lk, stepD, lookIds, Oper.looksAt, Op.operands, Call.operands, St.ids, refsL, iV, i64V, boolV, byteV, dV_getElem, dV_app, dV_cons, toNat_add2, toNat_add1, ↓numC_refs, ↓numC_isCell, ↓numC_cells, ↓numC_resB, ↓numC_resD, ↓numC_ren, ↓numC_closeC, ↓numC_isOwn, yv]); try simp (disch := omega) only [i64_in, u64_in, shr64i])
      | (with_reducible refine W_condW ?_; (try simp [AS.val, upd, resB, mkS_env, mkS_box, lk, entry_env, condW_true, condW_false, yv]))
      | with_reducible refine optK_dV (by first | omega | (simp; omega)) ?_
      | with_reducible refine optK_dVh (by omega) ?_
      | refine And.intro (by first | omega | kernel_rfl) ?_
      | (with_reducible refine condW_b (fun hc => ?_) (fun hc => ?_) <;> (try simp [Int.ofNat_inj] at hc) <;> try contradiction)
      | fail)
    refine ⟨id, ⟨?_, ?_, ?_, ?_, ?_, ?_⟩⟩
    all_goals first | (with_reducible refine W_id ?_) | (simp [renL_append, dV_take, dV_drop, mkS_env, mkS_box, entry_env, entry_box, upd, resB, ren, renL, renBox, AV.refs, refsL, Box.refs, lk, iV, i64V, boolV, byteV, dV_getElem, dV_app, dV_cons, toNat_add2, toNat_add1, ↓numC_refs, ↓numC_isCell, ↓numC_cells, ↓numC_resB, ↓numC_resD, ↓numC_ren, ↓numC_closeC, ↓numC_isOwn, hUr, yv]; done) | (simp [renL_append, dV_take, dV_drop, mkS_env, mkS_box, entry_env, entry_box, upd, resB, ren, renL, renBox, AV.refs, refsL, Box.refs, lk, iV, i64V, boolV, byteV, dV_getElem, dV_app, dV_cons, toNat_add2, toNat_add1, ↓numC_refs, ↓numC_isCell, ↓numC_cells, ↓numC_resB, ↓numC_resD, ↓numC_ren, ↓numC_closeC, ↓numC_isOwn, hUr, yv]; omega) | (intro i hi; simp; omega) | (intro i hi; dsimp only; (repeat' split) <;> omega) | (simp [renL_append, dV_take, dV_drop, mkS_env, mkS_box, entry_env, entry_box, upd, resB, ren, renL, renBox, AV.refs, refsL, Box.refs, lk, iV, i64V, boolV, byteV, dV_getElem, dV_app, dV_cons, toNat_add2, toNat_add1, ↓numC_refs, ↓numC_isCell, ↓numC_cells, ↓numC_resB, ↓numC_resD, ↓numC_ren, ↓numC_closeC, ↓numC_isOwn, hUr, yv]; fail_if_success done)
end Go.Fw

/- gds: the law GdsFields. -/
import Derived.Test.YtjgbikhnnkigpaaGp46b
import Derived.Test.YtjgbikhnnkigpaaGp36
import Derived.Test.YtjgbikhnnkigpaaGp40
import Derived.Test.YtjgbikhnnkigpaaQ4b
set_option linter.unusedSimpArgs false
set_option linter.unusedVariables false
-- VALS: recAV
namespace Go.Fw
open Go Go.Proofs Go.IntWalk
set_option linter.unusedSimpArgs false
set_option maxRecDepth 100000
set_option maxHeartbeats 4000000
open List (map_take map_drop)
attribute [local push_cast] optK_some optK_none optK_ite optK_map optK_bind gOn stepK isMem evPure evMem evBin evUn evConv evLen evBuiltin evMinMax evSlice evBuild evAppend evIndex evIndexAddr evField evFieldAddr intBin strBin appDest AS.val AS.mem AS.elems AS.put AS.put' AS.eff AV.cells? AV.isCell AV.refs all_isByte take_byteV drop_byteV strOf_map bndOk bnd partAV ptrAdd killBox catA inOrder fillA setAt ofVal resB upd byteV List.head?_take List.head?_drop List.getElem?_map mkS_env mkS_box mkS_used entry_env entry_box entry_used lk stepD lookIds Oper.looksAt Op.operands Call.operands St.ids refsL renL_append dV_take dV_drop ren renL renBox Box.refs iV i64V boolV dV_getElem dV_app dV_cons toNat_add2 toNat_add1
theorem lend_rec {s : AS} {id n : Nat} {B : List AV} {a b : AV} {v2 : AV} (hb : s.box id = some (.mut 5 B)) (hBl : B.length = n) (hBr : refsL B = []) (ha : a.refs = []) (hbb : b.refs = []) (h2 : v2.refs = []) :
    Lend s [.agg [a, b, .bs id 1 0 n], v2] [.agg [a, b, .slc false 1 n B], v2] := by
  refine ⟨rfl, ?_⟩
  rintro C M β w vs hR hvs ⟨⟨y, a1, b1⟩, ⟨y2, a2, b2⟩, _⟩
  obtain ⟨vs1, rfl, hz, ⟨u0, c0, d0, e0⟩, ⟨u1, c1, d1, e1⟩, ⟨u2, c2, d2, e2⟩, _⟩ := b1
  refine ⟨⟨_, a1, vs1, rfl, hz, ⟨u0, c0, d0, rep_full hR e0 ha⟩, ⟨u1, c1, d1, rep_full hR e1 hbb⟩, ⟨u2, c2, d2, ?_⟩, trivial⟩, ⟨y2, a2, rep_full hR b2 h2⟩, trivial⟩
  exact slc_full hR hb e2 (by rw [hBl, Nat.mul_one]) hBr fun cs h => repAt_full hR h hBr
theorem firstK_mem {k : UInt8} {l : List Rec} {r : Rec} (h : firstK k l = some r) : r ∈ l := List.mem_of_find?_eq_some h
theorem lawFields_ok (c : Cell) (hfit : CellFit c) (k : UInt8) : Eval Try.prog 14 [.agg [rowsAV c.1, itemsAV c.2], byteV k] (.ret (.v (.bool true))) := by
  obtain ⟨h, its⟩ := c
  have hk := known_ok
  have hfw0 := few7_ok ([], [(h, its)]) ⟨⟨by simp [-map_take,-map_drop], fun r hr => by cases hr⟩, by simp [-map_take,-map_drop], fun c hc => by rw [List.mem_singleton.1 hc]; exact hfit⟩
  obtain ⟨fw, hfwe⟩ : ∃ b, b = fewS ([], [(h, its)]) := ⟨_, rfl⟩
  rw [← hfwe] at hfw0
  have hfw : Eval Try.prog 39 [.agg [nilV, .slc false 2 1 [rowsAV h, itemsAV its]]] (.ret (.v (.bool fw))) :=
    Eval.arg hfw0 (SubL.cons (Sub.agg (SubL.cons (Sub.nil false 3) (SubL.cons (Sub.refl _) SubL.nil))) SubL.nil)
  obtain ⟨⟨hhl, hhb⟩, hil, hif⟩ := hfit
  simp only at hhl hhb hil hif
  have hn1 := gdsName_ok h its hhl
  have hn2 := refName_ok h its hhl
  obtain ⟨nm, hnm⟩ : ∃ b : ByteArray, b = ⟨(nameS h).toArray⟩ := ⟨_, rfl⟩
  rw [← hnm] at hn1 hn2
  clear hfw0 hfwe hnm
  have hIat := itemsCells_at its
  have hIl := itemsCells_len its
  obtain ⟨C, hC⟩ : ∃ C, C = recsCells h := ⟨_, rfl⟩
  obtain ⟨I, hI⟩ : ∃ C, C = itemsCells its := ⟨_, rfl⟩
  have hCr : refsL C = [] := by rw [hC]; exact recsCells_refs _
  have hIr : refsL I = [] := by rw [hI]; exact itemsCells_refs _
  obtain ⟨lh, hlh⟩ : ∃ n, n = h.length := ⟨_, rfl⟩
  obtain ⟨li, hli⟩ : ∃ n, n = its.length := ⟨_, rfl⟩
  simp only [rowsAV, itemsAV, ← hC, ← hI, ← hlh, ← hli] at hfw hn1 hn2 hIat hIl hil ⊢
  simp only [nilV] at hfw
  refine Eval.intro Try.func14 rfl Try.call14 _ _ (Nat.le_of_ble_eq_true rfl) (by simp [-map_take,-map_drop, natAV, recAV, push_cast]) fun hs0 => ?_
  clear hs0 hC hI hlh
  refine W_seq ?_
  refine W_joinQ (X := Unit) (fun _ => [(1, byteV k), (2, .bp 2 0)]) (fun _ => [(2, .mut 72 [.slc false 3 lh C, .slc false 2 li I])]) (fun _ => True) ?_ fun _ _ => ?_
  · repeat' (first
      | with_reducible refine W_rg ?_
      | (rw [vcn]; (try simp [-map_take,-map_drop, push_cast]))
      | fail)
    refine joinW_n () id trivial ⟨?_, ?_, ?_, ?_, ?_, ?_⟩
    all_goals first | (simp [-map_take,-map_drop, push_cast, hCr, hIr]; done)
  cases fw with
  | false =>
    repeat' (first
      | with_reducible apply W_seq
      | with_reducible refine W_drawn mixed (by decide) (by kernel_rfl) ?_
      | (rw [vcnD]; (try simp [-map_take,-map_drop, push_cast]))
      | fail)
    refine callD_frz 14 900 _ (by simp [-map_take,-map_drop, push_cast]) rfl (by simp [-map_take,-map_drop, push_cast, nilV]) ?_ (hfw) (by simp [-map_take,-map_drop, natAV, recAV, push_cast]) rfl (by simp [-map_take,-map_drop, mkS_used, entry_used]) ?_
    · first | rfl | (simp [-map_take,-map_drop, resDL, resD, push_cast, nilV]; done) | (simp [-map_take,-map_drop, resDL, resD, push_cast, nilV]; rw [List.take_of_length_le (by simp [-map_take,-map_drop])]; done) | (simp [-map_take,-map_drop, resDL, resD, push_cast, nilV]; fail_if_success done)
    try dsimp only
    repeat' (first
      | with_reducible first | apply thenW_n | apply W_seq
      | with_reducible refine W_drawn mixed (by decide) (by kernel_rfl) ?_
      | (rw [vcnD]; (try simp [-map_take,-map_drop, push_cast]))
      | (with_reducible refine W_condW ?_; (try simp [-map_take,-map_drop, AS.val, upd, resB, mkS_env, mkS_box, lk, entry_env, condW_true, condW_false]))
      | refine And.intro (by first | omega | kernel_rfl) ?_
      | fail)
    refine callD_of (hk) rfl rfl rfl ?_
    try dsimp only
    repeat' (first
      | (rw [vcnD]; (try simp [-map_take,-map_drop, push_cast]))
      | fail)
    refine callD_of (hn1) rfl rfl rfl ?_
    try dsimp only
    repeat' (first
      | (rw [vcnD]; (try simp [-map_take,-map_drop, push_cast]))
      | fail)
    refine callD_of (hn2) rfl rfl rfl ?_
    try dsimp only
    repeat' (first
      | with_reducible first | apply thenW_n | apply thenW_ret | apply W_ret
      | (rw [vcnD]; (try simp [-map_take,-map_drop, push_cast]))
      | refine And.intro (by first | omega | kernel_rfl) ?_
      | fail)
    simp [-map_take,-map_drop, post, resAV, resAll, resOne, closeV, closeC, closeL, resD, resDL, push_cast]
  | true =>
  refine W_seq ?_
  refine W_joinQ (X := Unit) (fun _ => [(1, byteV k), (2, .bp 2 0)]) (fun _ => [(2, .mut 72 [.slc false 3 lh C, .slc false 2 li I])]) (fun _ => True) ?_ fun _ _ => ?_
  · repeat' (first
      | with_reducible apply W_seq
      | with_reducible refine W_drawn mixed (by decide) (by kernel_rfl) ?_
      | (rw [vcnD]; (try simp [-map_take,-map_drop, push_cast]))
      | fail)
    refine callD_frz 14 900 _ (by simp [-map_take,-map_drop, push_cast]) rfl (by simp [-map_take,-map_drop, push_cast, nilV]) ?_ (hfw) (by simp [-map_take,-map_drop, natAV, recAV, push_cast]) rfl (by simp [-map_take,-map_drop, mkS_used, entry_used]) ?_
    · first | rfl | (simp [-map_take,-map_drop, resDL, resD, push_cast, nilV]; done) | (simp [-map_take,-map_drop, resDL, resD, push_cast, nilV]; rw [List.take_of_length_le (by simp [-map_take,-map_drop])]; done) | (simp [-map_take,-map_drop, resDL, resD, push_cast, nilV]; fail_if_success done)
    try dsimp only
    repeat' (first
      | (rw [vcnD]; (try simp [-map_take,-map_drop, push_cast]))
      | fail)
    refine callD_of (hn1) rfl rfl rfl ?_
    try dsimp only
    repeat' (first
      | (rw [vcnD]; (try simp [-map_take,-map_drop, push_cast]))
      | fail)
    refine callD_of (hn2) rfl rfl rfl ?_
    try dsimp only
    repeat' (first
      | with_reducible first | apply thenW_n | apply W_skip
      | (rw [vcnD]; (try simp [-map_take,-map_drop, push_cast]))
      | (with_reducible refine W_condW ?_; (try simp [-map_take,-map_drop, AS.val, upd, resB, mkS_env, mkS_box, lk, entry_env, condW_true, condW_false]))
      | refine And.intro (by first | omega | kernel_rfl) ?_
      | fail)
    refine joinW_n () id trivial ⟨?_, ?_, ?_, ?_, ?_, ?_⟩
    all_goals first | (simp [-map_take,-map_drop, push_cast, hCr, hIr]; done)
  clear hfw hn1 hn2
  refine W_seq ?_
  refine W_joinQ (X := Unit) (fun _ => []) (fun _ => []) (fun _ => True) ?_ fun _ _ => ?_
  rotate_left
  · repeat' (first
      | with_reducible apply W_seq
      | with_reducible refine W_rg ?_
      | (rw [vcn]; (try simp [-map_take,-map_drop, push_cast]))
      | fail)
    refine CallG_of (hk) rfl rfl rfl ?_
    try dsimp only
    repeat' (first
      | with_reducible first | apply thenW_n | apply W_ret
      | (rw [vcn]; (try simp [-map_take,-map_drop, push_cast]))
      | fail)
    simp [-map_take,-map_drop, post, resAV, resAll, resOne, closeV, closeC, closeL, resD, resDL, push_cast]
  refine W_seq ?_
  refine W_joinQ (X := Unit) (fun _ => [(1, byteV k), (2, .bp 2 0), (5, i64V 0)]) (fun _ => [(2, .mut 72 [.slc false 3 lh C, .slc false 2 li I])]) (fun _ => True) ?_ fun _ _ => ?_
  · repeat' (first
      | with_reducible refine W_rg ?_
      | (rw [vcn]; (try simp [-map_take,-map_drop, push_cast]))
      | fail)
    refine joinW_n () id trivial ⟨?_, ?_, ?_, ?_, ?_, ?_⟩
    all_goals first | (simp [-map_take,-map_drop, push_cast, hCr, hIr]; done)
  refine W_block ?_
  refine W_loopW (X := Nat) (fun i => [(1, byteV k), (2, .bp 2 0), (5, i64V (i : Int))]) (fun _ => [(2, .mut 72 [.slc false 3 lh C, .slc false 2 li I])]) (fun i => li - i) (fun i => i ≤ li) 0 id (Nat.zero_le _) ⟨?_, ?_, ?_, ?_, ?_, ?_⟩ fun i hi => ?_
  all_goals first | (with_reducible refine W_id ?_) | (simp [-map_take,-map_drop, push_cast, hCr, hIr]; done)
  by_cases hlt : ¬ i < li
  · have g1 : (i < li) = False := eq_false hlt
    have g1' : ((i : Int) < (li : Int)) = False := eq_false (by omega)
    repeat' (first
      | with_reducible first | apply thenW_n | apply thenW_exit | apply blockW_same | apply loopW_exit | apply W_seq | apply W_exit
      | with_reducible refine W_rg ?_
      | (rw [vcn]; (try simp [-map_take,-map_drop, push_cast, g1, g1']))
      | (with_reducible refine W_condW ?_; (try simp [-map_take,-map_drop, AS.val, upd, resB, mkS_env, mkS_box, lk, entry_env, condW_true, condW_false, g1, g1']))
      | fail)
    refine joinW_n () id trivial ⟨?_, ?_, ?_, ?_, ?_, ?_⟩
    all_goals first | (simp [-map_take,-map_drop, push_cast]; done)
  have hlt : i < li := by omega
  have g1 : (i < li) = True := eq_true hlt
  have g1' : ((i : Int) < (li : Int)) = True := eq_true (by omega)
  obtain ⟨t, ht⟩ := hIat i (by omega)
  have hfi := hif its[i] (List.getElem_mem _)
  obtain ⟨⟨f, p⟩, hit⟩ : ∃ c, c = its[i]'(by omega) := ⟨_, rfl⟩
  rw [← hit] at ht hfi
  obtain ⟨⟨hfl, hfb⟩, _⟩ := hfi
  simp only at ht hfl hfb
  have hrf := refField_ok f p k hfl
  have hcS := fun s K (r : Rec) hr hd => CallG_fieldS (s := s) (K := K) 900 f p k hfl hfb (r := r) hr hd
  have hcN := fun s K hr => CallG_fieldN (s := s) (K := K) f p k hfl hfb hr
  rw [fieldAV] at hrf
  obtain ⟨F, hF⟩ : ∃ C, C = recsCells f := ⟨_, rfl⟩
  obtain ⟨G, hG⟩ : ∃ C, C = recsCells p := ⟨_, rfl⟩
  have hFr : refsL F = [] := by rw [hF]; exact recsCells_refs _
  have hGr : refsL G = [] := by rw [hG]; exact recsCells_refs _
  obtain ⟨lf, hlf⟩ : ∃ n, n = f.length := ⟨_, rfl⟩
  obtain ⟨lp, hlp⟩ : ∃ n, n = p.length := ⟨_, rfl⟩
  simp only [itemAV, rowsAV, ← hF, ← hG, ← hlf, ← hlp] at ht hrf hcS hcN
  have htl := congrArg List.length ht
  rw [List.length_drop, hIl] at htl
  simp only [List.length_cons] at htl
  have hwi : IntKind.i64.wrap ((i : Int) + 1) = ((i + 1 : Nat) : Int) := by rw [i64_in _ (by omega)]; omega
  obtain ⟨i', hi'⟩ : ∃ q, q = i + 1 := ⟨_, rfl⟩
  rw [← hi'] at hwi
  have hfb2 := hfb
  clear hF hG hlf hlp hit hfl hfb
  repeat' (first
    | with_reducible first | apply thenW_n | apply W_seq | apply W_skip
    | with_reducible refine W_rg ?_
    | (rw [vcn]; (try simp [-map_take,-map_drop, push_cast, g1, g1']))
    | (with_reducible refine W_condW ?_; (try simp [-map_take,-map_drop, AS.val, upd, resB, mkS_env, mkS_box, lk, entry_env, condW_true, condW_false, g1, g1']))
    | fail)
  refine W_joinQ (X := Unit) (fun _ => [(1, byteV k), (2, .bp 2 0), (5, i64V (i : Int))]) (fun _ => [(2, .mut 72 [.slc false 3 lh C, .slc false 2 li I])]) (fun _ => True) ?_ fun _ _ => ?_
  rotate_left
  · repeat' (first
      | with_reducible refine W_rg ?_
      | (rw [vcn]; (try simp [-map_take,-map_drop, push_cast, hwi]))
      | fail)
    refine loopW_n i' id (by omega) (by omega) ⟨?_, ?_, ?_, ?_, ?_, ?_⟩
    all_goals first | (simp [-map_take,-map_drop, push_cast, hCr, hIr]; done)
  refine W_block (W_seq ?_)
  cases hr : firstK k f with
  | none =>
    rw [hr] at hrf
    have hcN := fun s K => hcN s K hr
    simp only [nilV] at hrf hcN
    have hsN : Eval Try.prog 49 [.agg [byteV 0, byteV 0, .v (.slice none 0 0)], .agg [byteV 0, byteV 0, .v (.slice none 0 0)]] (.ret (.v (.bool true))) := by
      have h0 := same1_ok 0 0 0 0 [] []
      have e : sameR (0, 0, []) (0, 0, []) = true := by decide
      rw [e] at h0
      have s : Sub (.agg [byteV 0, byteV 0, .v (.slice none 0 0)]) (recAV 0 0 []) := Sub.agg (SubL.cons (Sub.refl _) (SubL.cons (Sub.refl _) (SubL.cons (Sub.nil false 1) SubL.nil)))
      exact Eval.arg h0 (SubL.cons s (SubL.cons s SubL.nil))
    refine W_joinQ (X := Unit) (fun _ => [(1, byteV k), (2, .bp 2 0), (5, i64V (i : Int)), (6, .bp 6 0), (7, .v (.bool false))]) (fun _ => [(2, .mut 72 [.slc false 3 lh C, .slc false 2 li I]), (6, .mut 24 [byteV 0, byteV 0, nilV])]) (fun _ => True) ?_ fun _ _ => ?_
    · repeat' (first
        | with_reducible refine W_rg ?_
        | (rw [vcn]; (try simp [-map_take,-map_drop, push_cast, ht, hIl, hlt]))
        | fail)
      refine hcN _ _ ?_
      dsimp only
      repeat' (first
        | (rw [vcn]; (try simp [-map_take,-map_drop, push_cast, nilV]))
        | fail)
      refine joinW_n () id trivial ⟨?_, ?_, ?_, ?_, ?_, ?_⟩
      all_goals first | (simp [-map_take,-map_drop, push_cast, hCr, hIr, nilV]; done)
    refine W_seq ?_
    refine W_joinQ (X := Unit) (fun _ => [(1, byteV k), (2, .bp 2 0), (5, i64V (i : Int)), (6, .bp 6 0), (7, .v (.bool false)), (8, .bp 8 0), (9, .v (.bool false))]) (fun _ => [(2, .mut 72 [.slc false 3 lh C, .slc false 2 li I]), (6, .mut 24 [byteV 0, byteV 0, nilV]), (8, .mut 24 [byteV 0, byteV 0, nilV])]) (fun _ => True) ?_ fun _ _ => ?_
    · repeat' (first
        | with_reducible refine W_rg ?_
        | (rw [vcn]; (try simp [-map_take,-map_drop, push_cast, ht, hIl, hlt, nilV]))
        | fail)
      refine CallG_of (hrf) rfl rfl rfl ?_
      try dsimp only
      repeat' (first
        | (rw [vcn]; (try simp [-map_take,-map_drop, push_cast, nilV]))
        | fail)
      refine joinW_n () id trivial ⟨?_, ?_, ?_, ?_, ?_, ?_⟩
      all_goals first | (simp [-map_take,-map_drop, push_cast, hCr, hIr, nilV]; done)
    repeat' (first
      | with_reducible apply W_seq
      | with_reducible refine W_rg ?_
      | (rw [vcn]; (try simp [-map_take,-map_drop, push_cast, nilV]))
      | fail)
    refine CallG_of (hsN) rfl rfl rfl ?_
    try dsimp only
    repeat' (first
      | with_reducible first | apply thenW_n | apply W_seq | apply W_block | apply W_skip
      | with_reducible refine W_rg ?_
      | (rw [vcn]; (try simp [-map_take,-map_drop, push_cast, nilV]))
      | (with_reducible refine W_condW ?_; (try simp [-map_take,-map_drop, AS.val, upd, resB, mkS_env, mkS_box, lk, entry_env, condW_true, condW_false, nilV]))
      | fail)
    refine W_loopW (X := Unit) (fun _ => [(1, byteV k), (2, .bp 2 0), (5, i64V (i : Int)), (6, .bp 6 0), (8, .bp 8 0), (10, i64V 0)]) (fun _ => [(2, .mut 72 [.slc false 3 lh C, .slc false 2 li I]), (6, .mut 24 [byteV 0, byteV 0, nilV]), (8, .mut 24 [byteV 0, byteV 0, nilV])]) (fun _ => 0) (fun _ => True) () id trivial ⟨?_, ?_, ?_, ?_, ?_, ?_⟩ fun _ _ => ?_
    all_goals first | (with_reducible refine W_id ?_) | (simp [-map_take,-map_drop, push_cast, hCr, hIr, nilV]; done)
    repeat' (first
      | with_reducible first | apply thenW_n | apply thenW_exit | apply blockW_same | apply loopW_exit | apply W_seq | apply W_exit
      | with_reducible refine W_rg ?_
      | (rw [vcn]; (try simp [-map_take,-map_drop, push_cast, nilV, ht, hIl, hlt]))
      | (with_reducible refine W_condW ?_; (try simp [-map_take,-map_drop, AS.val, upd, resB, mkS_env, mkS_box, lk, entry_env, condW_true, condW_false, nilV, ht, hIl, hlt]))
      | fail)
    refine hcN _ _ ?_
    dsimp only
    repeat' (first
      | with_reducible first | apply thenW_n | apply W_seq
      | with_reducible refine W_rg ?_
      | (rw [vcn]; (try simp [-map_take,-map_drop, push_cast, nilV]))
      | fail)
    refine CallG_of (hsN) rfl rfl rfl ?_
    try dsimp only
    repeat' (first
      | with_reducible first | apply thenW_n | apply blockW_n | apply W_skip
      | (rw [vcn]; (try simp [-map_take,-map_drop, push_cast, nilV]))
      | (with_reducible refine W_condW ?_; (try simp [-map_take,-map_drop, AS.val, upd, resB, mkS_env, mkS_box, lk, entry_env, condW_true, condW_false, nilV]))
      | fail)
    refine joinW_n () id trivial ⟨?_, ?_, ?_, ?_, ?_, ?_⟩
    all_goals first | (simp [-map_take,-map_drop, push_cast, hCr, hIr, nilV]; done)
  | some r =>
    obtain ⟨rk, rd, rb⟩ := r
    rw [hr] at hrf
    have hcS := fun s K hd => hcS s K _ hr hd
    have hs0 := same1_ok rk rd rk rd rb rb
    have e : sameR (rk, rd, rb) (rk, rd, rb) = true := (sameR_iff _ _).2 rfl
    rw [e] at hs0
    simp only [recAV] at hrf hcS hs0
    obtain ⟨z, hz⟩ : ∃ n, n = rb.length := ⟨_, rfl⟩
    have hzm : z ≤ 140737488355328 := by rw [hz]; exact hfb2 (rk, rd, rb) (firstK_mem hr)
    obtain ⟨B, hB⟩ : ∃ B, B = rb.map byteV := ⟨_, rfl⟩
    have hBr : refsL B = [] := by rw [hB]; exact refsL_bytes _
    have hBn : ∀ ρ, renL ρ B = B := fun ρ => renL_id ρ _ hBr
    have hBl : B.length = z := by rw [hB, hz]; simp [-map_take,-map_drop]
    rw [← hz, ← hB] at hrf hs0
    simp only [← hz, ← hB] at hcS
    refine W_joinQ (X := Unit) (fun _ => [(1, byteV k), (2, .bp 2 0), (5, i64V (i : Int)), (6, .bp 6 0), (7, .v (.bool true))]) (fun _ => [(2, .mut 72 [.slc false 3 lh C, .slc false 2 li I]), (6, .mut 24 [byteV rk, byteV rd, .bs 900 1 0 z]), (900, .mut 5 B)]) (fun _ => True) ?_ fun _ _ => ?_
    · repeat' (first
        | with_reducible refine W_rg ?_
        | (rw [vcn]; (try simp [-map_take,-map_drop, push_cast, ht, hIl, hlt]))
        | fail)
      refine hcS _ _ (by simp [-map_take,-map_drop, mkS_used]) ?_
      dsimp only
      repeat' (first
        | (rw [vcn]; (try simp [-map_take,-map_drop, push_cast]))
        | fail)
      refine joinW_n () id trivial ⟨?_, ?_, ?_, ?_, ?_, ?_⟩
      all_goals first | (simp [-map_take,-map_drop, push_cast, hCr, hIr, hBr, hBn]; done)
    refine W_seq ?_
    refine W_joinQ (X := Unit) (fun _ => [(1, byteV k), (2, .bp 2 0), (5, i64V (i : Int)), (6, .bp 6 0), (7, .v (.bool true)), (8, .bp 8 0), (9, .v (.bool true))]) (fun _ => [(2, .mut 72 [.slc false 3 lh C, .slc false 2 li I]), (6, .mut 24 [byteV rk, byteV rd, .bs 900 1 0 z]), (900, .mut 5 B), (8, .mut 24 [byteV rk, byteV rd, .slc false 1 z B])]) (fun _ => True) ?_ fun _ _ => ?_
    · repeat' (first
        | with_reducible refine W_rg ?_
        | (rw [vcn]; (try simp [-map_take,-map_drop, push_cast, ht, hIl, hlt]))
        | fail)
      refine CallG_of (hrf) rfl rfl rfl ?_
      try dsimp only
      repeat' (first
        | (rw [vcn]; (try simp [-map_take,-map_drop, push_cast]))
        | fail)
      refine joinW_n () id trivial ⟨?_, ?_, ?_, ?_, ?_, ?_⟩
      all_goals first | (simp [-map_take,-map_drop, push_cast, hCr, hIr, hBr, hBn]; done)
    refine W_seq ?_
    refine W_joinQ (X := Unit) (fun _ => [(1, byteV k), (2, .bp 2 0), (5, i64V (i : Int)), (6, .bp 6 0), (8, .bp 8 0)]) (fun _ => [(2, .mut 72 [.slc false 3 lh C, .slc false 2 li I]), (6, .mut 24 [byteV rk, byteV rd, .bs 900 1 0 z]), (900, .mut 5 B), (8, .mut 24 [byteV rk, byteV rd, .slc false 1 z B])]) (fun _ => True) ?_ fun _ _ => ?_
    · repeat' (first
        | with_reducible apply W_seq
        | with_reducible refine W_rg ?_
        | (rw [vcn]; (try simp [-map_take,-map_drop, push_cast]))
        | fail)
      refine CallG_lend (lend_rec (B := B) (by simp [-map_take,-map_drop, mkS_box, lk]) hBl hBr rfl rfl rfl) hs0 ?_
      dsimp only
      repeat' (first
        | with_reducible first | apply thenW_n | apply W_skip
        | (rw [vcn]; (try simp [-map_take,-map_drop, push_cast]))
        | (with_reducible refine W_condW ?_; (try simp [-map_take,-map_drop, AS.val, upd, resB, mkS_env, mkS_box, lk, entry_env, condW_true, condW_false]))
        | fail)
      refine joinW_n () id trivial ⟨?_, ?_, ?_, ?_, ?_, ?_⟩
      all_goals first | (simp [-map_take,-map_drop, push_cast, hCr, hIr, hBr, hBn]; done)
    refine W_seq ?_
    refine W_joinQ (X := Unit) (fun _ => [(1, byteV k), (2, .bp 2 0), (5, i64V (i : Int)), (8, .bp 8 0)]) (fun _ => [(2, .mut 72 [.slc false 3 lh C, .slc false 2 li I]), (8, .mut 24 [byteV rk, byteV rd, .slc false 1 z B])]) (fun _ => True) ?_ fun _ _ => ?_
    · refine W_seq ?_
      refine W_joinQ (X := Unit) (fun _ => [(1, byteV k), (2, .bp 2 0), (5, i64V (i : Int)), (6, .bp 6 0), (8, .bp 8 0), (10, i64V 0)]) (fun _ => [(2, .mut 72 [.slc false 3 lh C, .slc false 2 li I]), (6, .mut 24 [byteV rk, byteV rd, .bs 900 1 0 z]), (900, .mut 5 B), (8, .mut 24 [byteV rk, byteV rd, .slc false 1 z B])]) (fun _ => True) ?_ fun _ _ => ?_
      · repeat' (first
          | with_reducible refine W_rg ?_
          | (rw [vcn]; (try simp [-map_take,-map_drop, push_cast]))
          | fail)
        refine joinW_n () id trivial ⟨?_, ?_, ?_, ?_, ?_, ?_⟩
        all_goals first | (simp [-map_take,-map_drop, push_cast, hCr, hIr, hBr, hBn]; done)
      rw [hB]
      refine W_block ?_
      refine W_loopW (X := List UInt8 × Nat) (fun x => [(1, byteV k), (2, .bp 2 0), (5, i64V (i : Int)), (6, .bp 6 0), (8, .bp 8 0), (10, i64V (x.2 : Int))]) (fun x => [(2, .mut 72 [.slc false 3 lh C, .slc false 2 li I]), (6, .mut 24 [byteV rk, byteV rd, .bs 900 1 0 z]), (900, .mut 5 (x.1.map byteV)), (8, .mut 24 [byteV rk, byteV rd, .slc false 1 z (rb.map byteV)])])
        (fun x => z - x.2) (fun x => x.2 ≤ z ∧ x.1.length = z) (rb, 0) id ⟨Nat.zero_le _, hz.symm⟩ ⟨?_, ?_, ?_, ?_, ?_, ?_⟩ fun x hx => ?_
      all_goals first | (with_reducible refine W_id ?_) | (simp [-map_take,-map_drop, push_cast, hCr, hIr, refsL_bytes]; done)
      obtain ⟨xs, j⟩ := x
      obtain ⟨hj, hxl⟩ := hx
      simp only at hj hxl
      simp only
      rw [← hB]
      by_cases hjl : j < z
      · have g2 : (j < z) = True := eq_true hjl
        have g2' : ((j : Int) < (z : Int)) = True := eq_true (by omega)
        obtain ⟨x, hx⟩ : ∃ x, xs[j]? = some x := ⟨_, List.getElem?_eq_getElem (by omega)⟩
        have hjb : j < xs.length := by omega
        obtain ⟨y, hy⟩ := bXor_byte (xs[j].toNat : Int) 255
        have w2 : IntKind.i64.wrap ((j : Int) + 1) = ((j + 1 : Nat) : Int) := by rw [i64_in _ (by omega)]; omega
        obtain ⟨j', hj'⟩ : ∃ q, q = j + 1 := ⟨_, rfl⟩
        rw [← hj'] at w2
        repeat' (first
          | with_reducible first | apply thenW_n | apply blockW_n | apply W_seq | apply W_block | apply W_skip
          | with_reducible refine W_rg ?_
          | (rw [vcn]; (try simp [-map_take,-map_drop, push_cast, g2, g2', hx, hy, w2, hxl]))
          | (with_reducible refine W_condW ?_; (try simp [-map_take,-map_drop, AS.val, upd, resB, mkS_env, mkS_box, lk, entry_env, condW_true, condW_false, g2, g2', hx, hy, w2, hxl]))
          | refine And.intro (by first | omega | kernel_rfl) ?_
          | fail)
        refine loopW_n (xs.take j ++ y :: xs.drop (j + 1), j') id (by simp only; omega) ⟨by simp only; omega, by simp [-map_take,-map_drop]; omega⟩ ⟨?_, ?_, ?_, ?_, ?_, ?_⟩
        all_goals first | (simp [-map_take,-map_drop, push_cast, hCr, hIr, hBr, hBn, refsL_bytes]; done)
      · have g2 : (j < z) = False := eq_false hjl
        have g2' : ((j : Int) < (z : Int)) = False := eq_false (by omega)
        repeat' (first
          | with_reducible first | apply thenW_n | apply thenW_exit | apply blockW_same | apply loopW_exit | apply W_seq | apply W_exit
          | with_reducible refine W_rg ?_
          | (rw [vcn]; (try simp [-map_take,-map_drop, push_cast, g2, g2']))
          | (with_reducible refine W_condW ?_; (try simp [-map_take,-map_drop, AS.val, upd, resB, mkS_env, mkS_box, lk, entry_env, condW_true, condW_false, g2, g2']))
          | fail)
        refine joinW_n () id trivial ⟨?_, ?_, ?_, ?_, ?_, ?_⟩
        all_goals first | (simp [-map_take,-map_drop, push_cast, hCr, hIr, hBr, hBn]; done)
    refine W_seq ?_
    refine W_joinQ (X := Unit) (fun _ => [(1, byteV k), (2, .bp 2 0), (5, i64V (i : Int)), (8, .bp 8 0), (11, .bp 11 0)]) (fun _ => [(2, .mut 72 [.slc false 3 lh C, .slc false 2 li I]), (8, .mut 24 [byteV rk, byteV rd, .slc false 1 z B]), (11, .mut 24 [byteV rk, byteV rd, .bs 900 1 0 z]), (900, .mut 5 B)]) (fun _ => True) ?_ fun _ _ => ?_
    · repeat' (first
        | with_reducible refine W_rg ?_
        | (rw [vcn]; (try simp [-map_take,-map_drop, push_cast, ht, hIl, hlt]))
        | fail)
      refine hcS _ _ (by simp [-map_take,-map_drop, mkS_used]) ?_
      dsimp only
      repeat' (first
        | (rw [vcn]; (try simp [-map_take,-map_drop, push_cast]))
        | fail)
      refine joinW_n () id trivial ⟨?_, ?_, ?_, ?_, ?_, ?_⟩
      all_goals first | (simp [-map_take,-map_drop, push_cast, hCr, hIr, hBr, hBn]; done)
    repeat' (first
      | with_reducible apply W_seq
      | with_reducible refine W_rg ?_
      | (rw [vcn]; (try simp [-map_take,-map_drop, push_cast]))
      | fail)
    refine CallG_lend (lend_rec (B := B) (by simp [-map_take,-map_drop, mkS_box, lk]) hBl hBr rfl rfl rfl) hs0 ?_
    dsimp only
    repeat' (first
      | with_reducible first | apply thenW_n | apply blockW_n | apply W_skip
      | (rw [vcn]; (try simp [-map_take,-map_drop, push_cast]))
      | (with_reducible refine W_condW ?_; (try simp [-map_take,-map_drop, AS.val, upd, resB, mkS_env, mkS_box, lk, entry_env, condW_true, condW_false]))
      | fail)
    refine joinW_n () id trivial ⟨?_, ?_, ?_, ?_, ?_, ?_⟩
    all_goals first | (simp [-map_take,-map_drop, push_cast, hCr, hIr, hBr, hBn]; done)
end Go.Fw

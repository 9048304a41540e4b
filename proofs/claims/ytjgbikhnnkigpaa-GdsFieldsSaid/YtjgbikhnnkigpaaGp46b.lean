import Derived.Test.YtjgbikhnnkigpaaGp12b
set_option linter.unusedSimpArgs false
set_option linter.unusedVariables false
-- VALS: recAV
namespace Go.Fw
open Go Go.Proofs Go.IntWalk
set_option linter.unusedSimpArgs false
set_option maxRecDepth 100000
set_option maxHeartbeats 4000000
open List (map_take map_drop)
attribute [local push_cast] optK_some optK_none optK_ite optK_map optK_bind gOn stepK isMem evPure evMem evBin evUn evConv evLen evBuiltin evMinMax evSlice evBuild evAppend evIndex evIndexAddr evField evFieldAddr intBin strBin appDest AS.val AS.mem AS.elems AS.put AS.put' AS.eff AV.cells? AV.isCell AV.refs all_isByte take_byteV drop_byteV strOf_map bndOk bnd partAV ptrAdd killBox catA inOrder fillA setAt ofVal resB upd byteV List.head?_take List.head?_drop List.getElem?_map mkS_env mkS_box mkS_used entry_env entry_box entry_used lk stepD lookIds Oper.looksAt Op.operands Call.operands St.ids refsL renL_append dV_take dV_drop ren renL renBox Box.refs iV i64V boolV dV_getElem dV_app dV_cons toNat_add2 toNat_add1
def firstK (k : UInt8) (l : List Rec) : Option Rec := l.find? fun r => decide (r.1 = k)
theorem firstK_step (k : UInt8) (l : List Rec) (i : Nat) (h : i < l.length) : firstK k (l.drop i) = if l[i].1 = k then some l[i] else firstK k (l.drop (i + 1)) := by
  rw [List.drop_eq_getElem_cons h, firstK, List.find?_cons]
  by_cases hk : l[i].1 = k
  · simp [-map_take,-map_drop, hk]
  · simp [-map_take,-map_drop, hk, firstK]
def nameS (l : List Rec) : List UInt8 := match firstK 6 l with
  | none => []
  | some r => textOf r.2.2
def fieldAV (l : List Rec) (k : UInt8) : AV := match firstK k l with
  | none => .tup [.agg [byteV 0, byteV 0, nilV], .v (.bool false)]
  | some r => .tup [recAV r.1 r.2.1 r.2.2, .v (.bool true)]
theorem refName_ok (h : List Rec) (its : List Item) (hl : h.length ≤ 140737488355328) : Eval Try.prog 46 [.agg [rowsAV h, itemsAV its]] (.ret (.v (.string ⟨(nameS h).toArray⟩))) := by
  have hlen := recsCells_len h
  have hat := recsCells_at h
  have hstep := firstK_step 6 h
  obtain ⟨out, hout⟩ : ∃ o : ByteArray, o = ⟨(nameS h).toArray⟩ := ⟨_, rfl⟩
  rw [← hout]
  rw [nameS] at hout
  obtain ⟨n, hn⟩ : ∃ n, n = h.length := ⟨_, rfl⟩
  obtain ⟨C, hC⟩ : ∃ C, C = recsCells h := ⟨_, rfl⟩
  obtain ⟨li, hli⟩ : ∃ n, n = its.length := ⟨_, rfl⟩
  obtain ⟨I, hI⟩ : ∃ C, C = itemsCells its := ⟨_, rfl⟩
  have hCr : refsL C = [] := by rw [hC]; exact recsCells_refs _
  have hIr : refsL I = [] := by rw [hI]; exact itemsCells_refs _
  simp only [rowsAV, itemsAV, ← hn, ← hC, ← hli, ← hI] at hlen hat hl ⊢
  clear hC hI hli
  refine Eval.intro Try.func46 rfl Try.call46 _ _ (Nat.le_of_ble_eq_true rfl) (by simp [-map_take,-map_drop, natAV, recAV, push_cast]) fun hs0 => ?_
  clear hs0
  refine W_seq ?_
  refine W_joinQ (X := Unit) (fun _ => [(1, .bp 1 0)]) (fun _ => [(1, .mut 72 [.slc false 3 n C, .slc false 2 li I])]) (fun _ => True) ?_ fun _ _ => ?_
  · repeat' (first
      | with_reducible refine W_rg ?_
      | (rw [vcn]; (try simp [-map_take,-map_drop, push_cast]))
      | fail)
    refine joinW_n () id trivial ⟨?_, ?_, ?_, ?_, ?_, ?_⟩
    all_goals first | (simp [-map_take,-map_drop, push_cast, hCr, hIr]; done)
  refine W_seq ?_
  refine W_joinQ (X := Unit) (fun _ => []) (fun _ => []) (fun _ => firstK 6 h = none) ?_ fun _ hx => ?_
  · refine W_seq ?_
    refine W_joinQ (X := Unit) (fun _ => [(1, .bp 1 0), (3, i64V 0)]) (fun _ => [(1, .mut 72 [.slc false 3 n C, .slc false 2 li I])]) (fun _ => True) ?_ fun _ _ => ?_
    · repeat' (first
        | with_reducible refine W_rg ?_
        | (rw [vcn]; (try simp [-map_take,-map_drop, push_cast]))
        | fail)
      refine joinW_n () id trivial ⟨?_, ?_, ?_, ?_, ?_, ?_⟩
      all_goals first | (simp [-map_take,-map_drop, push_cast, hCr, hIr]; done)
    refine W_block ?_
    refine W_loopW (X := Nat) (fun i => [(1, .bp 1 0), (3, i64V (i : Int))]) (fun _ => [(1, .mut 72 [.slc false 3 n C, .slc false 2 li I])]) (fun i => n - i) (fun i => i ≤ n ∧ firstK 6 h = firstK 6 (h.drop i)) 0 id ⟨Nat.zero_le _, rfl⟩ ⟨?_, ?_, ?_, ?_, ?_, ?_⟩ fun i hx => ?_
    all_goals first | (with_reducible refine W_id ?_) | (simp [-map_take,-map_drop, push_cast, hCr, hIr]; done)
    obtain ⟨hi, hf⟩ := hx
    by_cases hlt : i < n
    · have g1 : (i < n) = True := eq_true hlt
      have g1' : ((i : Int) < (n : Int)) = True := eq_true (by omega)
      obtain ⟨t, ht⟩ := hat i hlt
      have hs := hstep i (by omega)
      obtain ⟨r, hr⟩ : ∃ r, r = h[i]'(by omega) := ⟨_, rfl⟩
      rw [← hr] at ht hs
      obtain ⟨rk, rd, rb⟩ := r
      simp only at ht hs
      have htl := congrArg List.length ht
      rw [List.length_drop, hlen] at htl
      simp only [List.length_cons] at htl
      by_cases hk : rk = 6
      · rw [if_pos hk] at hs
        subst hk
        rw [hf, hs] at hout
        simp only at hout
        have hc := eval24 false rb rb.length rfl
        rw [← hout] at hc
        obtain ⟨z, hz⟩ : ∃ z, z = rb.length := ⟨_, rfl⟩
        obtain ⟨B, hB⟩ : ∃ B, B = rb.map byteV := ⟨_, rfl⟩
        have hBr : refsL B = [] := by rw [hB]; exact refsL_bytes _
        rw [← hz, ← hB] at ht hc
        repeat' (first
          | with_reducible first | apply thenW_n | apply W_seq | apply W_block | apply W_skip
          | with_reducible refine W_rg ?_
          | (rw [vcn]; (try simp [-map_take,-map_drop, push_cast, g1, g1', ht, hlen, hlt]))
          | (with_reducible refine W_condW ?_; (try simp [-map_take,-map_drop, AS.val, upd, resB, mkS_env, mkS_box, lk, entry_env, condW_true, condW_false, g1, g1', ht, hlen, hlt]))
          | fail)
        refine CallG_of (hc) rfl rfl rfl ?_
        try dsimp only
        repeat' (first
          | with_reducible first | apply thenW_n | apply thenW_ret | apply blockW_ret | apply loopW_ret | apply joinW_ret | apply W_ret
          | (rw [vcn]; (try simp [-map_take,-map_drop, push_cast]))
          | fail)
        simp [-map_take,-map_drop, post, resAV, resAll, resOne, closeV, closeC, closeL, resD, resDL, push_cast]
      · rw [if_neg hk] at hs
        have g3' : ((rk.toNat : Int) = 6) = False := eq_false fun e => hk (UInt8.toNat_inj.1 (by rw [show (6 : UInt8).toNat = 6 from rfl]; omega))
        have g3 : ((rk.toNat : Int) == 6) = false := by rw [beq_eq_false_iff_ne]; intro e; rw [g3'] at e; exact e
        have hwi : IntKind.i64.wrap ((i : Int) + 1) = ((i + 1 : Nat) : Int) := by rw [i64_in _ (by omega)]; omega
        obtain ⟨i', hi'⟩ : ∃ q, q = i + 1 := ⟨_, rfl⟩
        rw [← hi'] at hwi hs
        repeat' (first
          | with_reducible first | apply thenW_n | apply blockW_n | apply W_seq | apply W_block | apply W_skip
          | with_reducible refine W_rg ?_
          | (rw [vcn]; (try simp [-map_take,-map_drop, push_cast, g1, g1', ht, hlen, hlt, g3, g3', hwi]))
          | (with_reducible refine W_condW ?_; (try simp [-map_take,-map_drop, AS.val, upd, resB, mkS_env, mkS_box, lk, entry_env, condW_true, condW_false, g1, g1', ht, hlen, hlt, g3, g3', hwi]))
          | fail)
        refine loopW_n i' id (by omega) ⟨by omega, hf.trans hs⟩ ⟨?_, ?_, ?_, ?_, ?_, ?_⟩
        all_goals first | (simp [-map_take,-map_drop, push_cast, hCr, hIr]; done)
    · have g1 : (i < n) = False := eq_false hlt
      have g1' : ((i : Int) < (n : Int)) = False := eq_false (by omega)
      rw [List.drop_of_length_le (by omega)] at hf
      repeat' (first
        | with_reducible first | apply thenW_n | apply thenW_exit | apply blockW_same | apply loopW_exit | apply W_seq | apply W_exit
        | with_reducible refine W_rg ?_
        | (rw [vcn]; (try simp [-map_take,-map_drop, push_cast, g1, g1']))
        | (with_reducible refine W_condW ?_; (try simp [-map_take,-map_drop, AS.val, upd, resB, mkS_env, mkS_box, lk, entry_env, condW_true, condW_false, g1, g1']))
        | fail)
      refine joinW_n () id hf ⟨?_, ?_, ?_, ?_, ?_, ?_⟩
      all_goals first | (simp [-map_take,-map_drop, push_cast, hCr, hIr]; done)
  rw [hx] at hout
  rw [hout]
  repeat' (first
    | with_reducible first | apply thenW_n | apply W_seq | apply W_ret
    | with_reducible refine W_rg ?_
    | (rw [vcn]; (try simp [-map_take,-map_drop, push_cast]))
    | fail)
  simp [-map_take,-map_drop, post, resAV, resAll, resOne, closeV, closeC, closeL, resD, resDL, push_cast]
theorem gdsName_ok (h : List Rec) (its : List Item) (hl : h.length ≤ 140737488355328) : Eval Try.prog 45 [.agg [rowsAV h, itemsAV its]] (.ret (.v (.string ⟨(nameS h).toArray⟩))) := by
  have hlen := recsCells_len h
  have hat := recsCells_at h
  have hstep := firstK_step 6 h
  obtain ⟨out, hout⟩ : ∃ o : ByteArray, o = ⟨(nameS h).toArray⟩ := ⟨_, rfl⟩
  rw [← hout]
  rw [nameS] at hout
  obtain ⟨n, hn⟩ : ∃ n, n = h.length := ⟨_, rfl⟩
  obtain ⟨C, hC⟩ : ∃ C, C = recsCells h := ⟨_, rfl⟩
  obtain ⟨li, hli⟩ : ∃ n, n = its.length := ⟨_, rfl⟩
  obtain ⟨I, hI⟩ : ∃ C, C = itemsCells its := ⟨_, rfl⟩
  have hCr : refsL C = [] := by rw [hC]; exact recsCells_refs _
  have hIr : refsL I = [] := by rw [hI]; exact itemsCells_refs _
  simp only [rowsAV, itemsAV, ← hn, ← hC, ← hli, ← hI] at hlen hat hl ⊢
  clear hC hI hli
  refine Eval.intro Try.func45 rfl Try.call45 _ _ (Nat.le_of_ble_eq_true rfl) (by simp [-map_take,-map_drop, natAV, recAV, push_cast]) fun hs0 => ?_
  clear hs0
  refine W_seq ?_
  refine W_joinQ (X := Unit) (fun _ => [(1, .bp 1 0)]) (fun _ => [(1, .mut 72 [.slc false 3 n C, .slc false 2 li I])]) (fun _ => True) ?_ fun _ _ => ?_
  · repeat' (first
      | with_reducible refine W_rg ?_
      | (rw [vcn]; (try simp [-map_take,-map_drop, push_cast]))
      | fail)
    refine joinW_n () id trivial ⟨?_, ?_, ?_, ?_, ?_, ?_⟩
    all_goals first | (simp [-map_take,-map_drop, push_cast, hCr, hIr]; done)
  refine W_seq ?_
  refine W_joinQ (X := Unit) (fun _ => []) (fun _ => []) (fun _ => firstK 6 h = none) ?_ fun _ hx => ?_
  · refine W_seq ?_
    refine W_joinQ (X := Unit) (fun _ => [(1, .bp 1 0), (6, .slc false 3 n C), (7, i64V (n : Int)), (8, i64V 0)]) (fun _ => [(1, .mut 72 [.slc false 3 n C, .slc false 2 li I])]) (fun _ => True) ?_ fun _ _ => ?_
    · repeat' (first
        | with_reducible refine W_rg ?_
        | (rw [vcn]; (try simp [-map_take,-map_drop, push_cast]))
        | fail)
      refine joinW_n () id trivial ⟨?_, ?_, ?_, ?_, ?_, ?_⟩
      all_goals first | (simp [-map_take,-map_drop, push_cast, hCr, hIr]; done)
    refine W_block ?_
    refine W_loopW (X := Nat) (fun i => [(6, .slc false 3 n C), (7, i64V (n : Int)), (8, i64V (i : Int))]) (fun _ => []) (fun i => n - i) (fun i => i ≤ n ∧ firstK 6 h = firstK 6 (h.drop i)) 0 id ⟨Nat.zero_le _, rfl⟩ ⟨?_, ?_, ?_, ?_, ?_, ?_⟩ fun i hx => ?_
    all_goals first | (with_reducible refine W_id ?_) | (simp [-map_take,-map_drop, push_cast, hCr, hIr]; done)
    obtain ⟨hi, hf⟩ := hx
    by_cases hlt : i < n
    · have g1 : (i < n) = True := eq_true hlt
      have g1' : ((i : Int) < (n : Int)) = True := eq_true (by omega)
      obtain ⟨t, ht⟩ := hat i hlt
      have hs := hstep i (by omega)
      obtain ⟨r, hr⟩ : ∃ r, r = h[i]'(by omega) := ⟨_, rfl⟩
      rw [← hr] at ht hs
      obtain ⟨rk, rd, rb⟩ := r
      simp only at ht hs
      have htl := congrArg List.length ht
      rw [List.length_drop, hlen] at htl
      simp only [List.length_cons] at htl
      by_cases hk : rk = 6
      · rw [if_pos hk] at hs
        subst hk
        rw [hf, hs] at hout
        simp only at hout
        have hc := eval23 false rb rb.length rfl
        rw [← hout] at hc
        obtain ⟨z, hz⟩ : ∃ z, z = rb.length := ⟨_, rfl⟩
        obtain ⟨B, hB⟩ : ∃ B, B = rb.map byteV := ⟨_, rfl⟩
        have hBr : refsL B = [] := by rw [hB]; exact refsL_bytes _
        rw [← hz, ← hB] at ht hc
        repeat' (first
          | with_reducible first | apply thenW_n | apply W_seq | apply W_block | apply W_skip
          | with_reducible refine W_rg ?_
          | (rw [vcn]; (try simp [-map_take,-map_drop, push_cast, g1, g1', ht, hlen, hlt]))
          | (with_reducible refine W_condW ?_; (try simp [-map_take,-map_drop, AS.val, upd, resB, mkS_env, mkS_box, lk, entry_env, condW_true, condW_false, g1, g1', ht, hlen, hlt]))
          | fail)
        refine CallG_of (hc) rfl rfl rfl ?_
        try dsimp only
        repeat' (first
          | with_reducible first | apply thenW_n | apply thenW_ret | apply blockW_ret | apply loopW_ret | apply joinW_ret | apply W_ret
          | (rw [vcn]; (try simp [-map_take,-map_drop, push_cast]))
          | fail)
        simp [-map_take,-map_drop, post, resAV, resAll, resOne, closeV, closeC, closeL, resD, resDL, push_cast]
      · rw [if_neg hk] at hs
        have g3' : ((rk.toNat : Int) = 6) = False := eq_false fun e => hk (UInt8.toNat_inj.1 (by rw [show (6 : UInt8).toNat = 6 from rfl]; omega))
        have g3 : ((rk.toNat : Int) == 6) = false := by rw [beq_eq_false_iff_ne]; intro e; rw [g3'] at e; exact e
        have hwi : IntKind.i64.wrap ((i : Int) + 1) = ((i + 1 : Nat) : Int) := by rw [i64_in _ (by omega)]; omega
        obtain ⟨i', hi'⟩ : ∃ q, q = i + 1 := ⟨_, rfl⟩
        rw [← hi'] at hwi hs
        repeat' (first
          | with_reducible first | apply thenW_n | apply blockW_n | apply W_seq | apply W_block | apply W_skip
          | with_reducible refine W_rg ?_
          | (rw [vcn]; (try simp [-map_take,-map_drop, push_cast, g1, g1', ht, hlen, hlt, g3, g3', hwi]))
          | (with_reducible refine W_condW ?_; (try simp [-map_take,-map_drop, AS.val, upd, resB, mkS_env, mkS_box, lk, entry_env, condW_true, condW_false, g1, g1', ht, hlen, hlt, g3, g3', hwi]))
          | fail)
        refine loopW_n i' id (by omega) ⟨by omega, hf.trans hs⟩ ⟨?_, ?_, ?_, ?_, ?_, ?_⟩
        all_goals first | (simp [-map_take,-map_drop, push_cast, hCr, hIr]; done)
    · have g1 : (i < n) = False := eq_false hlt
      have g1' : ((i : Int) < (n : Int)) = False := eq_false (by omega)
      rw [List.drop_of_length_le (by omega)] at hf
      repeat' (first
        | with_reducible first | apply thenW_n | apply thenW_exit | apply blockW_same | apply loopW_exit | apply W_seq | apply W_exit
        | with_reducible refine W_rg ?_
        | (rw [vcn]; (try simp [-map_take,-map_drop, push_cast, g1, g1']))
        | (with_reducible refine W_condW ?_; (try simp [-map_take,-map_drop, AS.val, upd, resB, mkS_env, mkS_box, lk, entry_env, condW_true, condW_false, g1, g1']))
        | fail)
      refine joinW_n () id hf ⟨?_, ?_, ?_, ?_, ?_, ?_⟩
      all_goals first | (simp [-map_take,-map_drop, push_cast, hCr, hIr]; done)
  rw [hx] at hout
  rw [hout]
  repeat' (first
    | with_reducible first | apply thenW_n | apply W_seq | apply W_ret
    | with_reducible refine W_rg ?_
    | (rw [vcn]; (try simp [-map_take,-map_drop, push_cast]))
    | fail)
  simp [-map_take,-map_drop, post, resAV, resAll, resOne, closeV, closeC, closeL, resD, resDL, push_cast]
theorem refField_ok (F : List Rec) (P : List Rec) (k : UInt8) (hl : F.length ≤ 140737488355328) : Eval Try.prog 48 [itemAV (F, P), byteV k] (.ret (fieldAV F k)) := by
  have hlen := recsCells_len F
  have hat := recsCells_at F
  have hstep := firstK_step k F
  obtain ⟨out, hout⟩ : ∃ o, o = fieldAV F k := ⟨_, rfl⟩
  rw [← hout]
  rw [fieldAV] at hout
  obtain ⟨n, hn⟩ : ∃ n, n = F.length := ⟨_, rfl⟩
  obtain ⟨C, hC⟩ : ∃ C, C = recsCells F := ⟨_, rfl⟩
  obtain ⟨li, hli⟩ : ∃ n, n = P.length := ⟨_, rfl⟩
  obtain ⟨I, hI⟩ : ∃ C, C = recsCells P := ⟨_, rfl⟩
  have hCr : refsL C = [] := by rw [hC]; exact recsCells_refs _
  have hIr : refsL I = [] := by rw [hI]; exact recsCells_refs _
  simp only [itemAV, rowsAV, ← hn, ← hC, ← hli, ← hI] at hlen hat hl ⊢
  clear hC hI hli
  refine Eval.intro Try.func48 rfl Try.call48 _ _ (Nat.le_of_ble_eq_true rfl) (by simp [-map_take,-map_drop, natAV, recAV, push_cast]) fun hs0 => ?_
  clear hs0
  refine W_seq ?_
  refine W_joinQ (X := Unit) (fun _ => [(1, byteV k), (2, .bp 2 0), (4, .bp 4 0)]) (fun _ => [(2, .mut 77 [.slc false 3 n C, .slc false 3 li I]), (4, .mut 24 [byteV 0, byteV 0, nilV])]) (fun _ => True) ?_ fun _ _ => ?_
  · repeat' (first
      | with_reducible refine W_rg ?_
      | (rw [vcn]; (try simp [-map_take,-map_drop, push_cast]))
      | fail)
    refine joinW_n () id trivial ⟨?_, ?_, ?_, ?_, ?_, ?_⟩
    all_goals first | (simp [-map_take,-map_drop, push_cast, hCr, hIr, nilV]; done)
  refine W_seq ?_
  refine W_joinQ (X := Unit) (fun _ => [(4, .bp 4 0)]) (fun _ => [(4, .mut 24 [byteV 0, byteV 0, nilV])]) (fun _ => firstK k F = none) ?_ fun _ hx => ?_
  · refine W_seq ?_
    refine W_joinQ (X := Unit) (fun _ => [(1, byteV k), (2, .bp 2 0), (4, .bp 4 0), (6, i64V 0)]) (fun _ => [(2, .mut 77 [.slc false 3 n C, .slc false 3 li I]), (4, .mut 24 [byteV 0, byteV 0, nilV])]) (fun _ => True) ?_ fun _ _ => ?_
    · repeat' (first
        | with_reducible refine W_rg ?_
        | (rw [vcn]; (try simp [-map_take,-map_drop, push_cast, nilV]))
        | fail)
      refine joinW_n () id trivial ⟨?_, ?_, ?_, ?_, ?_, ?_⟩
      all_goals first | (simp [-map_take,-map_drop, push_cast, hCr, hIr, nilV]; done)
    refine W_block ?_
    refine W_loopW (X := Nat) (fun i => [(1, byteV k), (2, .bp 2 0), (4, .bp 4 0), (6, i64V (i : Int))]) (fun _ => [(2, .mut 77 [.slc false 3 n C, .slc false 3 li I]), (4, .mut 24 [byteV 0, byteV 0, nilV])]) (fun i => n - i) (fun i => i ≤ n ∧ firstK k F = firstK k (F.drop i)) 0 id ⟨Nat.zero_le _, rfl⟩ ⟨?_, ?_, ?_, ?_, ?_, ?_⟩ fun i hx => ?_
    all_goals first | (with_reducible refine W_id ?_) | (simp [-map_take,-map_drop, push_cast, hCr, hIr, nilV]; done)
    obtain ⟨hi, hf⟩ := hx
    by_cases hlt : i < n
    · have g1 : (i < n) = True := eq_true hlt
      have g1' : ((i : Int) < (n : Int)) = True := eq_true (by omega)
      obtain ⟨t, ht⟩ := hat i hlt
      have hs := hstep i (by omega)
      obtain ⟨r, hr⟩ : ∃ r, r = F[i]'(by omega) := ⟨_, rfl⟩
      rw [← hr] at ht hs
      obtain ⟨rk, rd, rb⟩ := r
      simp only at ht hs
      have htl := congrArg List.length ht
      rw [List.length_drop, hlen] at htl
      simp only [List.length_cons] at htl
      by_cases hk : rk = k
      · rw [if_pos hk] at hs
        subst hk
        rw [hf, hs] at hout
        simp only [recAV] at hout
        obtain ⟨z, hz⟩ : ∃ z, z = rb.length := ⟨_, rfl⟩
        obtain ⟨B, hB⟩ : ∃ B, B = rb.map byteV := ⟨_, rfl⟩
        have hBr : refsL B = [] := by rw [hB]; exact refsL_bytes _
        rw [← hz, ← hB] at ht hout
        rw [hout]
        repeat' (first
          | with_reducible first | apply thenW_n | apply thenW_ret | apply blockW_ret | apply loopW_ret | apply joinW_ret | apply W_seq | apply W_block | apply W_skip | apply W_ret
          | with_reducible refine W_rg ?_
          | (rw [vcn]; (try simp [-map_take,-map_drop, push_cast, g1, g1', ht, hlen, hlt, nilV]))
          | (with_reducible refine W_condW ?_; (try simp [-map_take,-map_drop, AS.val, upd, resB, mkS_env, mkS_box, lk, entry_env, condW_true, condW_false, g1, g1', ht, hlen, hlt, nilV]))
          | fail)
        simp [-map_take,-map_drop, post, resAV, resAll, resOne, closeV, closeC, closeL, resD, resDL, push_cast, hBr]
      · rw [if_neg hk] at hs
        have g3' : ((rk.toNat : Int) = (k.toNat : Int)) = False := eq_false fun e => hk (UInt8.toNat_inj.1 (by omega))
        have g3'' : (rk.toNat = k.toNat) = False := eq_false fun e => hk (UInt8.toNat_inj.1 e)
        have g3 : ((rk.toNat : Int) == (k.toNat : Int)) = false := by rw [beq_eq_false_iff_ne]; intro e; rw [g3'] at e; exact e
        have hwi : IntKind.i64.wrap ((i : Int) + 1) = ((i + 1 : Nat) : Int) := by rw [i64_in _ (by omega)]; omega
        obtain ⟨i', hi'⟩ : ∃ q, q = i + 1 := ⟨_, rfl⟩
        rw [← hi'] at hwi hs
        repeat' (first
          | with_reducible first | apply thenW_n | apply blockW_n | apply W_seq | apply W_block | apply W_skip
          | with_reducible refine W_rg ?_
          | (rw [vcn]; (try simp [-map_take,-map_drop, push_cast, g1, g1', ht, hlen, hlt, g3, g3', g3'', hwi, nilV]))
          | (with_reducible refine W_condW ?_; (try simp [-map_take,-map_drop, AS.val, upd, resB, mkS_env, mkS_box, lk, entry_env, condW_true, condW_false, g1, g1', ht, hlen, hlt, g3, g3', g3'', hwi, nilV]))
          | fail)
        refine loopW_n i' id (by omega) ⟨by omega, hf.trans hs⟩ ⟨?_, ?_, ?_, ?_, ?_, ?_⟩
        all_goals first | (simp [-map_take,-map_drop, push_cast, hCr, hIr, nilV]; done)
    · have g1 : (i < n) = False := eq_false hlt
      have g1' : ((i : Int) < (n : Int)) = False := eq_false (by omega)
      rw [List.drop_of_length_le (by omega)] at hf
      repeat' (first
        | with_reducible first | apply thenW_n | apply thenW_exit | apply blockW_same | apply loopW_exit | apply W_seq | apply W_exit
        | with_reducible refine W_rg ?_
        | (rw [vcn]; (try simp [-map_take,-map_drop, push_cast, g1, g1', nilV]))
        | (with_reducible refine W_condW ?_; (try simp [-map_take,-map_drop, AS.val, upd, resB, mkS_env, mkS_box, lk, entry_env, condW_true, condW_false, g1, g1', nilV]))
        | fail)
      refine joinW_n () id hf ⟨?_, ?_, ?_, ?_, ?_, ?_⟩
      all_goals first | (simp [-map_take,-map_drop, push_cast, hCr, hIr, nilV]; done)
  rw [hx] at hout
  rw [hout]
  repeat' (first
    | with_reducible first | apply thenW_n | apply W_seq | apply W_ret
    | with_reducible refine W_rg ?_
    | (rw [vcn]; (try simp [-map_take,-map_drop, push_cast, nilV]))
    | fail)
  simp [-map_take,-map_drop, post, resAV, resAll, resOne, closeV, closeC, closeL, resD, resDL, push_cast, nilV]
end Go.Fw
-- VALS: recAV
namespace Go.Fw
open Go Go.Proofs Go.IntWalk
set_option linter.unusedSimpArgs false
set_option maxRecDepth 100000
set_option maxHeartbeats 4000000
open List (map_take map_drop)
attribute [local push_cast] optK_some optK_none optK_ite optK_map optK_bind gOn stepK isMem evPure evMem evBin evUn evConv evLen evBuiltin evMinMax evSlice evBuild evAppend evIndex evIndexAddr evField evFieldAddr intBin strBin appDest AS.val AS.mem AS.elems AS.put AS.put' AS.eff AV.cells? AV.isCell AV.refs all_isByte take_byteV drop_byteV strOf_map bndOk bnd partAV ptrAdd killBox catA inOrder fillA setAt ofVal resB upd byteV List.head?_take List.head?_drop List.getElem?_map mkS_env mkS_box mkS_used entry_env entry_box entry_used lk stepD lookIds Oper.looksAt Op.operands Call.operands St.ids refsL renL_append dV_take dV_drop ren renL renBox Box.refs iV i64V boolV dV_getElem dV_app dV_cons toNat_add2 toNat_add1
theorem cloneB0_ok (f : Bool) : Eval Try.prog 57 [.slc f 1 0 []] (.ret (.own 5 1 0 [])) := eval57 f [] 0 rfl (by decide)
theorem cloneB_ok (f : Bool) (n : Nat) (B : List AV) (hB : B.length = n) (hBr : refsL B = []) (h : n ≤ 140737488355328) (h0 : 0 < n) : Eval Try.prog 57 [.slc f 1 n B] (.ret (.own 5 1 n B)) := by
  refine Eval.intro Try.func57 rfl Try.call57 _ _ (Nat.le_of_ble_eq_true rfl) (by simp [-map_take,-map_drop, natAV, recAV, push_cast]) fun hs0 => ?_
  clear hs0
  have g0 : (0 < n) = True := eq_true h0
  have g1 : ((n : Int) = 0) = False := eq_false (by omega)
  have g2 : (n = 0) = False := eq_false (by omega)
  repeat' (first
    | with_reducible first | apply thenW_n | apply W_seq | apply W_skip | apply W_ret
    | with_reducible refine W_rg ?_
    | (rw [vcn]; (try simp [-map_take,-map_drop, push_cast, g0, g1, g2, hB]))
    | (with_reducible refine W_condW ?_; (try simp [-map_take,-map_drop, AS.val, upd, resB, mkS_env, mkS_box, lk, entry_env, condW_true, condW_false, g0, g1, g2, hB]))
    | refine And.intro (by first | omega | kernel_rfl) ?_
    | fail)
  simp [-map_take,-map_drop, post, resAV, resAll, resOne, closeV, closeC, closeL, resD, resDL, push_cast, hB, hBr]
def fieldQ (l : List Rec) (k : UInt8) (out : Out) (s' : AS) : Prop := match firstK k l with
  | none => out = .ret (.tup [.agg [byteV 0, byteV 0, nilV], .v (.bool false)])
  | some r => out = .ret (.tup [.agg [byteV r.1, byteV r.2.1, .bs 900 1 0 r.2.2.length], .v (.bool true)]) ∧ s'.box 900 = some (.mut 5 (r.2.2.map byteV))
theorem gdsField_wb (F : List Rec) (P : List Rec) (k : UInt8) (hl : F.length ≤ 140737488355328) (hb : ∀ r ∈ F, r.2.2.length ≤ 140737488355328) : WB Try.prog 47 [itemAV (F, P), byteV k] [] (fieldQ F k) := by
  have hlen := recsCells_len F
  have hat := recsCells_at F
  have hstep := firstK_step k F
  obtain ⟨n, hn⟩ : ∃ n, n = F.length := ⟨_, rfl⟩
  obtain ⟨C, hC⟩ : ∃ C, C = recsCells F := ⟨_, rfl⟩
  obtain ⟨li, hli⟩ : ∃ n, n = P.length := ⟨_, rfl⟩
  obtain ⟨I, hI⟩ : ∃ C, C = recsCells P := ⟨_, rfl⟩
  have hCr : refsL C = [] := by rw [hC]; exact recsCells_refs _
  have hIr : refsL I = [] := by rw [hI]; exact recsCells_refs _
  simp only [itemAV, rowsAV, ← hn, ← hC, ← hli, ← hI] at hlen hat hl ⊢
  clear hC hI hli
  refine ⟨_, _, Try.func47, rfl, Try.call47, Nat.le_of_ble_eq_true rfl, ?_⟩
  refine W_seq ?_
  refine W_joinQ (X := Unit) (fun _ => [(1, byteV k), (2, .bp 2 0), (4, .bp 4 0)]) (fun _ => [(2, .mut 77 [.slc false 3 n C, .slc false 3 li I]), (4, .mut 24 [byteV 0, byteV 0, nilV])]) (fun _ => True) ?_ fun _ _ => ?_
  · repeat' (first
      | with_reducible refine W_rg ?_
      | (rw [vcn]; (try simp [-map_take,-map_drop, push_cast, entryB_env, entryB_box, entryB_used]))
      | fail)
    refine joinW_n () id trivial ⟨?_, ?_, ?_, ?_, ?_, ?_⟩
    all_goals first | (simp [-map_take,-map_drop, push_cast, hCr, hIr, nilV, entryB_env, entryB_box, entryB_used]; done)
  refine W_seq ?_
  refine W_joinQ (X := Unit) (fun _ => [(4, .bp 4 0)]) (fun _ => [(4, .mut 24 [byteV 0, byteV 0, nilV])]) (fun _ => firstK k F = none) ?_ fun _ hx => ?_
  · refine W_seq ?_
    refine W_joinQ (X := Unit) (fun _ => [(1, byteV k), (4, .bp 4 0), (9, .slc false 3 n C), (10, i64V (n : Int)), (11, i64V 0)]) (fun _ => [(4, .mut 24 [byteV 0, byteV 0, nilV])]) (fun _ => True) ?_ fun _ _ => ?_
    · repeat' (first
        | with_reducible refine W_rg ?_
        | (rw [vcn]; (try simp [-map_take,-map_drop, push_cast, nilV]))
        | fail)
      refine joinW_n () id trivial ⟨?_, ?_, ?_, ?_, ?_, ?_⟩
      all_goals first | (simp [-map_take,-map_drop, push_cast, hCr, hIr, nilV]; done)
    refine W_block ?_
    refine W_loopW (X := Nat) (fun i => [(1, byteV k), (4, .bp 4 0), (9, .slc false 3 n C), (10, i64V (n : Int)), (11, i64V (i : Int))]) (fun _ => [(4, .mut 24 [byteV 0, byteV 0, nilV])]) (fun i => n - i) (fun i => i ≤ n ∧ firstK k F = firstK k (F.drop i)) 0 id ⟨Nat.zero_le _, rfl⟩ ⟨?_, ?_, ?_, ?_, ?_, ?_⟩ fun i hx => ?_
    all_goals first | (with_reducible refine W_id ?_) | (simp [-map_take,-map_drop, push_cast, hCr, hIr, nilV]; done)
    obtain ⟨hi, hf⟩ := hx
    by_cases hlt : i < n
    · have g1 : (i < n) = True := eq_true hlt
      have g1' : ((i : Int) < (n : Int)) = True := eq_true (by omega)
      obtain ⟨t, ht⟩ := hat i hlt
      have hs := hstep i (by omega)
      have hbi := hb (F[i]'(by omega)) (List.getElem_mem _)
      obtain ⟨r, hr⟩ : ∃ r, r = F[i]'(by omega) := ⟨_, rfl⟩
      rw [← hr] at ht hs hbi
      obtain ⟨rk, rd, rb⟩ := r
      simp only at ht hs hbi
      have htl := congrArg List.length ht
      rw [List.length_drop, hlen] at htl
      simp only [List.length_cons] at htl
      by_cases hk : rk = k
      · rw [if_pos hk] at hs
        subst hk
        have hfin : fieldQ F rk = fun out s' => out = .ret (.tup [.agg [byteV rk, byteV rd, .bs 900 1 0 rb.length], .v (.bool true)]) ∧ s'.box 900 = some (.mut 5 (rb.map byteV)) := by
          funext out s'
          rw [fieldQ, hf, hs]
        rw [hfin]
        obtain ⟨z, hz⟩ : ∃ z, z = rb.length := ⟨_, rfl⟩
        obtain ⟨B, hB⟩ : ∃ B, B = rb.map byteV := ⟨_, rfl⟩
        have hBr : refsL B = [] := by rw [hB]; exact refsL_bytes _
        have hBl : B.length = z := by rw [hB, hz]; simp [-map_take,-map_drop]
        rw [← hz, ← hB] at ht ⊢
        rw [← hz] at hbi
        have hc : Eval Try.prog 57 [.slc false 1 z B] (.ret (.own 5 1 z B)) := by
          rcases Nat.eq_zero_or_pos z with h0 | h0
          · have : B = [] := List.eq_nil_of_length_eq_zero (hBl.trans h0)
            rw [this, h0]
            exact cloneB0_ok false
          · exact cloneB_ok false z B hBl hBr hbi h0
        repeat' (first
          | with_reducible first | apply thenW_n | apply W_seq | apply W_block | apply W_skip
          | with_reducible refine W_rg ?_
          | (rw [vcn]; (try simp [-map_take,-map_drop, push_cast, g1, g1', ht, hlen, hlt, nilV]))
          | (with_reducible refine W_condW ?_; (try simp [-map_take,-map_drop, AS.val, upd, resB, mkS_env, mkS_box, lk, entry_env, condW_true, condW_false, g1, g1', ht, hlen, hlt, nilV]))
          | fail)
        refine CallG_ofOwn 900 (hc) (by first | rfl | (simp [-map_take,-map_drop, natAV, numC, ← limbs.eq_1, push_cast]; done)) (by simp [-map_take,-map_drop, natAV, push_cast]) (by simp [-map_take,-map_drop, mkS_used, entry_used]) ?_
        try dsimp only
        repeat' (first
          | with_reducible first | apply thenW_n | apply thenW_ret | apply blockW_ret | apply loopW_ret | apply joinW_ret | apply W_seq | apply W_ret
          | with_reducible refine W_rg ?_
          | (rw [vcn]; (try simp [-map_take,-map_drop, push_cast, nilV]))
          | fail)
        simp [-map_take,-map_drop, postB, resAV, resAll, resOne, resD, resDL, push_cast, hBr]
      · rw [if_neg hk] at hs
        have g3' : ((rk.toNat : Int) = (k.toNat : Int)) = False := eq_false fun e => hk (UInt8.toNat_inj.1 (by omega))
        have g3'' : (rk.toNat = k.toNat) = False := eq_false fun e => hk (UInt8.toNat_inj.1 e)
        have g3 : ((rk.toNat : Int) == (k.toNat : Int)) = false := by rw [beq_eq_false_iff_ne]; intro e; rw [g3'] at e; exact e
        have hwi : IntKind.i64.wrap ((i : Int) + 1) = ((i + 1 : Nat) : Int) := by rw [i64_in _ (by omega)]; omega
        obtain ⟨i', hi'⟩ : ∃ q, q = i + 1 := ⟨_, rfl⟩
        rw [← hi'] at hwi hs
        repeat' (first
          | with_reducible first | apply thenW_n | apply blockW_n | apply W_seq | apply W_block | apply W_skip
          | with_reducible refine W_rg ?_
          | (rw [vcn]; (try simp [-map_take,-map_drop, push_cast, g1, g1', ht, hlen, hlt, g3, g3', g3'', hwi, nilV]))
          | (with_reducible refine W_condW ?_; (try simp [-map_take,-map_drop, AS.val, upd, resB, mkS_env, mkS_box, lk, entry_env, condW_true, condW_false, g1, g1', ht, hlen, hlt, g3, g3', g3'', hwi, nilV]))
          | fail)
        refine loopW_n i' id (by omega) ⟨by omega, hf.trans hs⟩ ⟨?_, ?_, ?_, ?_, ?_, ?_⟩
        all_goals first | (simp [-map_take,-map_drop, push_cast, hCr, hIr, nilV]; done)
    · have g1 : (i < n) = False := eq_false hlt
      have g1' : ((i : Int) < (n : Int)) = False := eq_false (by omega)
      rw [List.drop_of_length_le (by omega)] at hf
      repeat' (first
        | with_reducible first | apply thenW_n | apply thenW_exit | apply blockW_same | apply loopW_exit | apply W_seq | apply W_exit
        | with_reducible refine W_rg ?_
        | (rw [vcn]; (try simp [-map_take,-map_drop, push_cast, g1, g1', nilV]))
        | (with_reducible refine W_condW ?_; (try simp [-map_take,-map_drop, AS.val, upd, resB, mkS_env, mkS_box, lk, entry_env, condW_true, condW_false, g1, g1', nilV]))
        | fail)
      refine joinW_n () id hf ⟨?_, ?_, ?_, ?_, ?_, ?_⟩
      all_goals first | (simp [-map_take,-map_drop, push_cast, hCr, hIr, nilV]; done)
  have hfin : fieldQ F k = fun out s' => out = .ret (.tup [.agg [byteV 0, byteV 0, nilV], .v (.bool false)]) := by
    funext out s'
    rw [fieldQ, hx]
  rw [hfin]
  repeat' (first
    | with_reducible first | apply thenW_n | apply W_seq | apply W_ret
    | with_reducible refine W_rg ?_
    | (rw [vcn]; (try simp [-map_take,-map_drop, push_cast, nilV]))
    | fail)
  simp [-map_take,-map_drop, postB, resAV, resAll, resOne, resD, resDL, push_cast, nilV]
theorem CallG_fieldS {s : AS} {K : Out → AS → Prop} (d : Nat) (F P : List Rec) (k : UInt8) (hl : F.length ≤ 140737488355328) (hb : ∀ r ∈ F, r.2.2.length ≤ 140737488355328) {r : Rec} (hr : firstK k F = some r) (hd : ¬ s.used d)
    (hk : K (.ret (.tup [.agg [byteV r.1, byteV r.2.1, .bs d 1 0 r.2.2.length], .v (.bool true)])) ⟨s.env, upd s.box d (some (.mut 5 (r.2.2.map byteV))), fun i => i = d ∨ s.used i⟩) : CallG Try.prog (.fn 47 []) [itemAV (F, P), byteV k] s K := by
  have hir : (itemAV (F, P)).refs = [] := by simp [-map_take,-map_drop, itemAV, rowsAV, AV.refs, refsL]
  refine CallV.boxes [itemAV (F, P), byteV k] [] id (by rw [List.append_nil, renL_id _ _ (by simp [-map_take,-map_drop, refsL, hir, byteV, AV.refs])]) ?_ ?_ ?_ ?_ (gdsField_wb F P k hl hb) ?_
  · intro p hp
    cases hp
  · intro p hp
    cases hp
  · intro i hi
    simp [-map_take,-map_drop, refsL, hir, byteV, AV.refs] at hi
  · intro p hp
    cases hp
  · intro out s' hq
    rw [fieldQ, hr] at hq
    obtain ⟨rfl, hs'⟩ := hq
    refine ⟨[(d, .mut 5 (r.2.2.map byteV))], fun i => if i = d then 900 else i, ?_, ?_, ?_, ?_, .tup [.agg [byteV r.1, byteV r.2.1, .bs d 1 0 r.2.2.length], .v (.bool true)], by simp [-map_take,-map_drop, ren, renL, byteV], by simp [-map_take,-map_drop, AV.refs, refsL, byteV], ?_⟩
    · intro p hp
      simp [-map_take,-map_drop] at hp
      subst hp
      simp only [if_true, renBox]
      rw [hs', renL_id _ _ (refsL_bytes _)]
    · intro p hp q hq _
      simp [-map_take,-map_drop] at hp hq
      rw [hp, hq]
    · intro p hp i hi
      simp [-map_take,-map_drop] at hp
      subst hp
      simp [-map_take,-map_drop, Box.refs, refsL_bytes] at hi
    · intro p hp hu
      simp [-map_take,-map_drop] at hp
      subst hp
      exact absurd hu hd
    · have e1 : back s ([].map fun p : Nat × Box => id p.1) [(d, .mut 5 (r.2.2.map byteV))] = ⟨s.env, upd s.box d (some (.mut 5 (r.2.2.map byteV))), fun i => i = d ∨ s.used i⟩ := by
        unfold back
        congr 1
        · funext i
          by_cases h : i = d
          · subst h; simp [-map_take,-map_drop, lk, upd]
          · have h' : ¬ d = i := fun k => h k.symm
            simp [-map_take,-map_drop, lk, upd, h, h']
        · funext i
          simp [-map_take,-map_drop]
      rw [e1]
      exact hk
theorem CallG_fieldN {s : AS} {K : Out → AS → Prop} (F P : List Rec) (k : UInt8) (hl : F.length ≤ 140737488355328) (hb : ∀ r ∈ F, r.2.2.length ≤ 140737488355328) (hr : firstK k F = none)
    (hk : K (.ret (.tup [.agg [byteV 0, byteV 0, nilV], .v (.bool false)])) s) : CallG Try.prog (.fn 47 []) [itemAV (F, P), byteV k] s K := by
  have hir : (itemAV (F, P)).refs = [] := by simp [-map_take,-map_drop, itemAV, rowsAV, AV.refs, refsL]
  refine CallV.boxes [itemAV (F, P), byteV k] [] id (by rw [List.append_nil, renL_id _ _ (by simp [-map_take,-map_drop, refsL, hir, byteV, AV.refs])]) ?_ ?_ ?_ ?_ (gdsField_wb F P k hl hb) ?_
  · intro p hp
    cases hp
  · intro p hp
    cases hp
  · intro i hi
    simp [-map_take,-map_drop, refsL, hir, byteV, AV.refs] at hi
  · intro p hp
    cases hp
  · intro out s' hq
    rw [fieldQ, hr] at hq
    subst hq
    refine ⟨[], id, ?_, ?_, ?_, ?_, .tup [.agg [byteV 0, byteV 0, nilV], .v (.bool false)], by simp [-map_take,-map_drop, ren, renL, byteV, nilV], by simp [-map_take,-map_drop, AV.refs, refsL, byteV, nilV], ?_⟩
    · intro p hp
      cases hp
    · intro p hp
      cases hp
    · intro p hp
      cases hp
    · intro p hp
      cases hp
    · have e1 : back s ([].map fun p : Nat × Box => id p.1) [] = s := by
        unfold back
        simp [-map_take,-map_drop, lk]
      rw [e1]
      exact hk
end Go.Fw

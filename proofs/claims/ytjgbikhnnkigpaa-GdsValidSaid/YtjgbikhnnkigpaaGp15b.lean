import Derived.Test.YtjgbikhnnkigpaaGp12b
set_option linter.unusedSimpArgs false
set_option linter.unusedVariables false
-- VALS: recAV
namespace Go.Fw
open Go Go.Proofs Go.IntWalk
set_option linter.unusedSimpArgs false
set_option maxRecDepth 100000
set_option maxHeartbeats 4000000
open List (map_take map_drop)
attribute [local push_cast] optK_some optK_none optK_ite optK_map optK_bind gOn stepK isMem evPure evMem evBin evUn evConv evLen evBuiltin evMinMax evSlice evBuild evAppend evIndex evIndexAddr evField evFieldAddr intBin strBin appDest AS.val AS.mem AS.elems AS.put AS.put' AS.eff AV.cells? AV.isCell AV.refs all_isByte take_byteV drop_byteV strOf_map bndOk bnd partAV ptrAdd killBox catA inOrder fillA setAt ofVal resB upd byteV List.head?_take List.head?_drop List.getElem?_map mkS_env mkS_box mkS_used entry_env entry_box entry_used lk stepD lookIds Oper.looksAt Op.operands Call.operands St.ids refsL renL_append dV_take dV_drop ren renL renBox Box.refs iV i64V boolV dV_getElem dV_app dV_cons toNat_add2 toNat_add1
theorem take_snoc (l : List Rec) (i : Nat) (h : i < l.length) : recsCells (l.take (i + 1)) = recsCells (l.take i) ++ [byteV l[i].1, byteV l[i].2.1, .slc false 1 l[i].2.2.length (l[i].2.2.map byteV)] := by
 rw [List.take_succ_eq_append_getElem h, ← recsCells_cat]
 rfl
theorem copied_ok (f : Bool) (l : List Rec) (hl : l.length ≤ 1000000000) (hb : ∀ r ∈ l, r.2.2.length ≤ 140737488355328) : Eval Try.prog 65 [.slc f 3 l.length (recsCells l)] (.ret (.own 24 3 l.length (recsCells l))) := by
 have hlen := recsCells_len l
 have hat := recsCells_at l
 have hLr := recsCells_refs l
 have hsn := take_snoc l
 have hall : recsCells (l.take l.length) = recsCells l := by rw [List.take_length]
 obtain ⟨n, hn⟩ : ∃ n, n = l.length := ⟨_, rfl⟩
 obtain ⟨L, hL⟩ : ∃ L, L = recsCells l := ⟨_, rfl⟩
 rw [← hL] at hlen hLr hall ⊢
 rw [← hn] at hlen hl hall ⊢
 obtain ⟨T, hT⟩ : ∃ T : Nat → List AV, T = fun i => recsCells (l.take i) := ⟨_, rfl⟩
 have hTi : ∀ i, recsCells (l.take i) = T i := fun i => by rw [hT]
 have hTr : ∀ i, refsL (T i) = [] := fun i => by rw [hT]; exact recsCells_refs _
 have hTn : ∀ ρ i, renL ρ (T i) = T i := fun ρ i => renL_id ρ _ (hTr i)
 have hTl : ∀ i, i ≤ n → (T i).length = i * 3 := fun i hi => by rw [hT, recsCells_len, List.length_take, ← hn]; congr 1; omega
 have hT0 : T 0 = [] := by rw [hT]; rfl
 have step : ∀ i, i < n → ∃ (k d : UInt8) (b : List UInt8) (t : List AV), b.length ≤ 140737488355328 ∧ L.drop (i * 3) = byteV k :: byteV d :: .slc false 1 b.length (b.map byteV) :: t ∧ T (i + 1) = T i ++ [byteV k, byteV d, .slc false 1 b.length (b.map byteV)] := fun i hi => by
  obtain ⟨t, ht⟩ := hat i (by omega)
  refine ⟨l[i].1, l[i].2.1, l[i].2.2, t, hb _ (List.getElem_mem _), by rw [hL, ht], ?_⟩
  rw [← hTi, ← hTi, hsn i (by omega)]
 rw [hTi] at hall
 clear hT hTi hat hsn hL hb
 refine Eval.intro Try.func65 rfl Try.call65 _ _ (Nat.le_of_ble_eq_true rfl) (by simp [natAV, recAV, push_cast]) fun hs0 => ?_
 repeat' (first
  | with_reducible first | apply thenW_n | apply W_seq
  | with_reducible refine W_rg ?_
  | (rw [vcn]; (try simp [push_cast]))
  | fail)
 refine W_nil 3 500 24 3 (by simp [upd, mkS_env, entry_env, lk]) (by simp [mkS_used, entry_used]) ?_
 repeat' (first
  | with_reducible first | apply thenW_n | apply thenW_ret | apply thenW_exit | apply thenW_panic | apply blockW_n | apply blockW_same | apply blockW_ret | apply blockW_panic | apply loopW_ret | apply loopW_exit | apply loopW_panic | apply joinW_ret | apply joinW_exit | apply joinW_panic | apply W_seq | apply W_skip | apply W_ret | apply W_exit | apply W_label
  | with_reducible refine blockW_other (by decide) ?_
  | with_reducible refine W_rg ?_
  | (rw [vcn]; (try simp [push_cast]); try simp (disch := omega) only [i64_in, u64_in, shr64i])
  | with_reducible refine W_drawn mixed (by decide) (by kernel_rfl) ?_
  | (rw [vcnD]; (try simp [push_cast]); try simp (disch := omega) only [i64_in, u64_in, shr64i])
  | (with_reducible refine W_condW ?_; (try simp [AS.val, upd, resB, mkS_env, mkS_box, lk, entry_env, condW_true, condW_false]))
  | (with_reducible refine optK_dV (by first | omega | (simp; omega)) ?_)
  | with_reducible refine optK_dVh (by omega) ?_
  | refine And.intro (by first | omega | kernel_rfl) ?_
  | ((with_reducible refine condW_b (fun hc => ?_) (fun hc => ?_) <;> (try simp [Int.ofNat_inj] at hc) <;> (try contradiction)))
  | fail)
 refine W_block ?_
 refine W_loopW (X := Nat) (fun i => [(0, .slc f 3 n L), (3, .bs 500 3 0 i), (4, i64V i)]) (fun i => [(500, .mut 24 (T i))]) (fun i => n - i)
  (fun i => i ≤ n) 0 id (Nat.zero_le _) ⟨?_, ?_, ?_, ?_, ?_, ?_⟩ fun i hi => ?_
 all_goals first | (with_reducible refine W_id ?_) | (simp [push_cast, hLr, hTr, hTn, hT0]; done)
 by_cases hlt : i < n
 ·
  have g1 : (i < n) = True := eq_true hlt
  have g1' : ((i : Int) < (n : Int)) = True := eq_true (by omega)
  obtain ⟨k, d, b, t, hbl, ht, hs⟩ := step i hlt
  have htl := congrArg List.length ht
  rw [List.length_drop, hlen] at htl
  simp only [List.length_cons] at htl
  have hTil := hTl i hi
  obtain ⟨z, hz⟩ : ∃ z, z = b.length := ⟨_, rfl⟩
  obtain ⟨B, hB⟩ : ∃ B, B = b.map byteV := ⟨_, rfl⟩
  have hBr : refsL B = [] := by rw [hB]; exact refsL_bytes _
  have hBn : ∀ ρ, renL ρ B = B := fun ρ => renL_id ρ _ hBr
  have hBl : B.length = z := by rw [hB, hz]; simp
  rw [← hz] at hbl ht hs
  rw [← hB] at ht hs
  repeat' (first
   | with_reducible first | apply thenW_n | apply W_seq | apply W_skip
   | with_reducible refine W_rg ?_
   | (rw [vcn]; (try simp [push_cast, g1, g1']))
   | (with_reducible refine W_condW ?_; (try simp [AS.val, upd, resB, mkS_env, mkS_box, lk, entry_env, condW_true, condW_false, g1, g1']))
   | fail)
  refine W_joinQ (X := Unit) (fun _ => [(0, .slc f 3 n L), (3, .bs 500 3 0 (i + 1)), (4, i64V i)]) (fun _ => [(500, .mut 24 (T i ++ [byteV k, byteV d, .bs 501 1 0 z])), (501, .mut 5 B)]) (fun _ => True) ?_ fun _ _ => ?_
  ·
   repeat' (first
    | with_reducible first | apply blockW_n | apply W_block
    | with_reducible refine W_drawn mixed (by decide) (by kernel_rfl) ?_
    | (rw [vcnD]; (try simp [push_cast, ht, hlt, hTil, hlen]))
    | refine And.intro (by first | omega | kernel_rfl) ?_
    | fail)
   refine joinW_n () (fun i => if i = 500 then 31 else if i = 501 then 28 else i) trivial ⟨?_, ?_, ?_, ?_, ?_, ?_⟩
   all_goals first | (simp [push_cast, hLr, hTr, hTn, hBr, hBn]; done) | (intro i hi; dsimp only; (repeat' split) <;> omega)
  refine W_frz 501 (e := 5) (l := B) (by simp [mkS_box, lk]) hBr ?_
  refine W_later (later_res 500 (e := 24) (l := T i ++ [byteV k, byteV d, .bs 501 1 0 z]) (by simp [mkS_box, lk, upd]) (T (i + 1)) ?_) ?_
  ·
   rw [hs, resDL_eq, List.map_append]
   congr 1
   · rw [← resDL_eq, resDL_id _ _ (hTr i)]
   ·
    simp [resD, resB, upd, byteV, mkS_box, lk]
    rw [if_pos (by omega), List.take_of_length_le (by omega)]
  obtain ⟨T1, hT1⟩ : ∃ X, X = T (i + 1) := ⟨_, rfl⟩
  have hT1r : refsL T1 = [] := by rw [hT1]; exact hTr _
  have hT1n : ∀ ρ, renL ρ T1 = T1 := fun ρ => renL_id ρ _ hT1r
  rw [← hT1]
  repeat' (first
   | with_reducible refine W_rg ?_
   | (rw [vcn]; (try simp [push_cast]); try simp (disch := omega) only [i64_in, u64_in, shr64i])
   | fail)
  refine loopW_n (i + 1) id (by omega) (by omega) ⟨?_, ?_, ?_, ?_, ?_, ?_⟩
  all_goals first | (simp [push_cast, hLr, hTr, hTn, hT1r, hT1n, ← hT1]; done)
 ·
  have g1 : (i < n) = False := eq_false hlt
  have g1' : ((i : Int) < (n : Int)) = False := eq_false (by omega)
  have hi2 : i = n := by omega
  subst hi2
  repeat' (first
   | with_reducible first | apply thenW_n | apply thenW_exit | apply blockW_same | apply loopW_exit | apply W_seq | apply W_ret | apply W_exit
   | with_reducible refine W_rg ?_
   | (rw [vcn]; (try simp [push_cast, g1, g1']))
   | (with_reducible refine W_condW ?_; (try simp [AS.val, upd, resB, mkS_env, mkS_box, lk, entry_env, condW_true, condW_false, g1, g1']))
   | fail)
  simp [post, resAV, resAll, resOne, closeV, closeC, closeL, resD, resDL, push_cast, hall, hLr, hlen]
end Go.Fw
-- VALS: recAV, libAV, rowsAV, cellsAV
namespace Go.Fw
open Go Go.Proofs Go.IntWalk
set_option linter.unusedSimpArgs false
set_option maxRecDepth 100000
set_option maxHeartbeats 4000000
open List (map_take map_drop)
attribute [local push_cast] optK_some optK_none optK_ite optK_map optK_bind gOn stepK isMem evPure evMem evBin evUn evConv evLen evBuiltin evMinMax evSlice evBuild evAppend evIndex evIndexAddr evField evFieldAddr intBin strBin appDest AS.val AS.mem AS.elems AS.put AS.put' AS.eff AV.cells? AV.isCell AV.refs all_isByte take_byteV drop_byteV strOf_map bndOk bnd partAV ptrAdd killBox catA inOrder fillA setAt ofVal resB upd byteV List.head?_take List.head?_drop List.getElem?_map mkS_env mkS_box mkS_used entry_env entry_box entry_used lk stepD lookIds Oper.looksAt Op.operands Call.operands St.ids refsL renL_append dV_take dV_drop ren renL renBox Box.refs iV i64V boolV dV_getElem dV_app dV_cons toNat_add2 toNat_add1
theorem records_ok (H : List Rec) (cs : List Cell) (hb : (flatS (H, cs)).length ≤ 100000000) (hbody : ∀ r ∈ flatS (H, cs), r.2.2.length ≤ 140737488355328) : Eval Try.prog 44 [libAV (H, cs)] (.ret (rowsAV (flatS (H, cs)))) := by
 refine Eval.intro Try.func44 rfl Try.call44 _ _ (Nat.le_of_ble_eq_true rfl) (by simp [natAV, recAV, libAV, rowsAV, cellsAV, push_cast]) fun hs0 => ?_
 have hre : ∀ l, refsL (recsCells l) = [] := recsCells_refs
 have hrn : ∀ ρ l, renL ρ (recsCells l) = recsCells l := fun ρ l => renL_id ρ _ (recsCells_refs l)
 have hrl : ∀ l, (recsCells l).length = l.length * 3 := recsCells_len
 have hH : H.length ≤ (flatS (H, cs)).length := by simp [flatS]
 have hbH : ∀ r ∈ H, r.2.2.length ≤ 140737488355328 := fun r hr => hbody r (by simp [flatS, hr])
 have hbC : ∀ c ∈ cs, ∀ r ∈ cellF c, r.2.2.length ≤ 140737488355328 := fun c hc r hr => hbody r (by
  simp only [flatS, cellsF, List.mem_append, List.mem_flatMap]
  exact .inl (.inr ⟨c, hc, hr⟩))
 have hc := copied_ok false H (by omega) hbH
 have hbl : (flatS (H, cs)).length = H.length + (cellsF cs).length + 1 := by simp [flatS]; omega
 have hpre : ∀ i, (cellsF (cs.take i)).length ≤ (cellsF cs).length := fun i => by
  conv => rhs; rw [← List.take_append_drop i cs]
  simp only [cellsF, List.flatMap_append, List.length_append]
  omega
 have hcsl : cs.length ≤ (cellsF cs).length := by
  clear hb hbl hpre hs0 hH hc hbody hbC
  induction cs with
  | nil => simp
  | cons c cs ih => simp only [cellsF, cellF, List.flatMap_cons, List.length_append, List.length_cons, List.length_nil] at ih ⊢; omega
 have hcF0 : cellsF [] = [] := rfl
 have hiF0 : itemsF [] = [] := rfl
 have hcsl2 := cellsCells_len cs
 have hKr := cellsCells_refs cs
 have hat := cellsCells_at cs
 obtain ⟨A, hA⟩ : ∃ A, A = recsCells H := ⟨_, rfl⟩
 have hAr : refsL A = [] := by rw [hA]; exact hre _
 have hAn : ∀ ρ, renL ρ A = A := fun ρ => renL_id ρ _ hAr
 obtain ⟨K, hK⟩ : ∃ K, K = cellsCells cs := ⟨_, rfl⟩
 obtain ⟨N, hN⟩ : ∃ N, N = cs.length := ⟨_, rfl⟩
 obtain ⟨m, hm⟩ : ∃ m, m = H.length := ⟨_, rfl⟩
 simp only [libAV, rowsAV, cellsAV, ← hA, ← hK, ← hN, ← hm] at hc hcsl hcsl2 hKr ⊢
 refine W_seq ?_
 refine W_joinQ (X := Unit) (fun _ => [(1, .bp 1 0)]) (fun _ => [(1, .mut 58 [.slc false 3 m A, .slc false 2 N K])]) (fun _ => True) ?_ fun _ _ => ?_
 ·
  repeat' (first
   | with_reducible refine W_rg ?_
   | (rw [vcn]; (try simp [push_cast]))
   | fail)
  refine joinW_n () id trivial ⟨?_, ?_, ?_, ?_, ?_, ?_⟩
  all_goals first | (simp [push_cast, hAr, hKr]; done)
 refine W_seq ?_
 refine W_joinQ (X := Unit) (fun _ => [(1, .bp 1 0), (3, .bs 900 3 0 H.length)]) (fun _ => [(1, .mut 58 [.slc false 3 m A, .slc false 2 N K]), (900, .mut 24 (recsCells H))]) (fun _ => True) ?_ fun _ _ => ?_
 ·
  repeat' (first
   | with_reducible refine W_rg ?_
   | (rw [vcn]; (try simp [push_cast]))
   | fail)
  refine CallG_ofOwn 900 (hc) (by first | rfl | (simp [natAV, numC, ← limbs.eq_1, push_cast]; done)) (by simp [natAV, push_cast]) (by simp [mkS_used, entry_used]) ?_
  try dsimp only
  repeat' (first
   | (rw [vcn]; (try simp [push_cast]))
   | fail)
  refine joinW_n () id trivial ⟨?_, ?_, ?_, ?_, ?_, ?_⟩
  all_goals first | (simp [push_cast, hAr, hKr, hAn, ← hA, ← hm]; done)
 refine W_seq ?_
 refine W_joinQ (X := Unit) (fun _ => [(3, .bs 900 3 0 (H ++ cellsF cs).length)]) (fun _ => [(900, .mut 24 (recsCells (H ++ cellsF cs)))]) (fun _ => True) ?_ fun _ _ => ?_
 ·
  refine W_seq ?_
  refine W_joinQ (X := Unit) (fun _ => [(1, .bp 1 0), (3, .bs 900 3 0 H.length), (4, i64V 0)]) (fun _ => [(1, .mut 58 [.slc false 3 m A, .slc false 2 N K]), (900, .mut 24 (recsCells H))]) (fun _ => True) ?_ fun _ _ => ?_
  ·
   repeat' (first
    | with_reducible refine W_rg ?_
    | (rw [vcn]; (try simp [push_cast]))
    | fail)
   refine joinW_n () id trivial ⟨?_, ?_, ?_, ?_, ?_, ?_⟩
   all_goals first | (simp [push_cast, hAr, hKr, hre, hrn]; done)
  refine W_block ?_
  refine W_loopW (X := Nat) (fun i => [(1, .bp 1 0), (3, .bs 900 3 0 (H ++ cellsF (cs.take i)).length), (4, i64V (i : Int))]) (fun i => [(1, .mut 58 [.slc false 3 m A, .slc false 2 N K]), (900, .mut 24 (recsCells (H ++ cellsF (cs.take i))))])
   (fun i => N - i) (fun i => i ≤ N) 0 id (Nat.zero_le _) ⟨?_, ?_, ?_, ?_, ?_, ?_⟩ fun i hi => ?_
  all_goals first | (with_reducible refine W_id ?_) | (simp [push_cast, hAr, hKr, hre, hrn, hcF0, List.append_nil]; done)
  by_cases hlt : i < N
  ·
   have g1 : (i < N) = True := eq_true hlt
   have g1' : ((i : Int) < (N : Int)) = True := eq_true (by omega)
   have hlc : i < cs.length := by omega
   obtain ⟨t, ht⟩ := hat i hlc
   have hsn := cellsF_snoc cs i hlc
   have hpi := hpre (i + 1)
   have hbc := hbC cs[i] (List.getElem_mem _)
   obtain ⟨⟨h, its⟩, hcell⟩ : ∃ c, c = cs[i] := ⟨_, rfl⟩
   rw [← hcell] at ht hsn hbc
   rw [← hK] at ht
   rw [hsn] at hpi
   obtain ⟨p, hp⟩ : ∃ p, p = H ++ cellsF (cs.take i) := ⟨_, rfl⟩
   have hpl : p.length = H.length + (cellsF (cs.take i)).length := by rw [hp]; simp
   have hbnd : p.length + h.length + (itemsF its).length + 1 ≤ 100000000 := by
    simp only [cellF, List.length_append, List.length_cons, List.length_nil] at hpi
    omega
   have hitl : its.length ≤ (itemsF its).length := itemsF_le its
   have hnext : H ++ cellsF (cs.take (i + 1)) = p ++ h ++ itemsF its ++ [(7, 0, [])] := by rw [hsn, hp]; simp [cellF]
   have hpl2 : (p ++ h ++ itemsF its ++ [((7 : UInt8), (0 : UInt8), ([] : List UInt8))]).length = p.length + h.length + (itemsF its).length + 1 := by simp; omega
   have hpl3 : H.length + (cellsF (cs.take (i + 1))).length = p.length + h.length + (itemsF its).length + 1 := by
    have := congrArg List.length hnext
    rw [hpl2, List.length_append] at this
    exact this
   have hbh : ∀ r ∈ h, r.2.2.length ≤ 140737488355328 := fun r hr => hbc r (by simp [cellF, hr])
   have hbi : ∀ r ∈ itemsF its, r.2.2.length ≤ 140737488355328 := fun r hr => hbc r (by simp [cellF, hr])
   have hch := (copied_ok false h (by omega) hbh).frz1
   simp only [← hp]
   have hpr := hrl p
   have hhr := hrl h
   have hil2 := itemsCells_len its
   have hIr := itemsCells_refs its
   have hat2 := itemsCells_at its
   have htl := congrArg List.length ht
   rw [List.length_drop, hcsl2] at htl
   simp only [List.length_cons] at htl
   simp only [rowsAV, itemsAV] at ht
   obtain ⟨I, hI⟩ : ∃ I, I = itemsCells its := ⟨_, rfl⟩
   obtain ⟨ni, hni⟩ : ∃ n, n = its.length := ⟨_, rfl⟩
   simp only [← hI, ← hni] at ht hil2 hIr hitl
   repeat' (first
    | with_reducible first | apply thenW_n | apply W_seq | apply W_skip
    | with_reducible refine W_rg ?_
    | (rw [vcn]; (try simp [push_cast, g1, g1']))
    | (with_reducible refine W_condW ?_; (try simp [AS.val, upd, resB, mkS_env, mkS_box, lk, entry_env, condW_true, condW_false, g1, g1']))
    | fail)
   refine W_joinQ (X := Unit) (fun _ => [(1, .bp 1 0), (3, .bs 900 3 0 (p.length + h.length + (itemsF its).length + 1)), (4, i64V (i : Int))]) (fun _ => [(1, .mut 58 [.slc false 3 m A, .slc false 2 N K]), (900, .mut 24 (recsCells (p ++ h ++ itemsF its) ++ [byteV 7, byteV 0, .v (.slice none 0 0)]))]) (fun _ => True) ?_ fun _ _ => ?_
   rotate_left
   ·
    refine W_subBox 900 (e := 24) (l' := recsCells (p ++ h ++ itemsF its ++ [(7, 0, [])])) (by simp [mkS_box, lk]) (end_sub _ 7) ?_
    repeat' (first
     | with_reducible refine W_rg ?_
     | (rw [vcn]; (try simp [push_cast]); try simp (disch := omega) only [i64_in, u64_in, shr64i])
     | fail)
    refine loopW_n (i + 1) id (by omega) (by omega) ⟨?_, ?_, ?_, ?_, ?_, ?_⟩
    all_goals first | (simp [push_cast, hAr, hre, hrn, hKr, hnext, hpl2, hpl3]; done)
   refine W_block (W_seq ?_)
   refine W_joinQ (X := Unit) (fun _ => [(1, .bp 1 0), (3, .bs 900 3 0 (p ++ h).length), (4, i64V (i : Int))]) (fun _ => [(1, .mut 58 [.slc false 3 m A, .slc false 2 N K]), (900, .mut 24 (recsCells (p ++ h)))]) (fun _ => True) ?_ fun _ _ => ?_
   ·
    repeat' (first
     | with_reducible refine W_rg ?_
     | (rw [vcn]; (try simp [push_cast, ht, hcsl2, hlt]))
     | fail)
    refine CallG_of (hch) rfl rfl rfl ?_
    try dsimp only
    repeat' (first
     | (rw [vcn]; (try simp [push_cast, hpr, hhr]))
     | refine And.intro (by first | omega | kernel_rfl) ?_
     | fail)
    refine joinW_n () (fun i => if i = 900 then 25 else i) trivial ⟨?_, ?_, ?_, ?_, ?_, ?_⟩
    all_goals first | (simp [push_cast, hAr, hre, hrn, hKr, recsCells_cat]; done) | (simp [push_cast, hAr, hre, hrn, hKr, recsCells_cat]; omega)
   obtain ⟨q, hq⟩ : ∃ q, q = p ++ h := ⟨_, rfl⟩
   have hql : q.length = p.length + h.length := by rw [hq]; simp
   rw [← hq] at hnext
   simp only [← hq]
   refine W_seq ?_
   refine W_joinQ (X := Unit) (fun _ => [(1, .bp 1 0), (3, .bs 900 3 0 (q ++ itemsF its).length), (4, i64V (i : Int))]) (fun _ => [(1, .mut 58 [.slc false 3 m A, .slc false 2 N K]), (900, .mut 24 (recsCells (q ++ itemsF its)))]) (fun _ => True) ?_ fun _ _ => ?_
   ·
    refine W_seq ?_
    refine W_joinQ (X := Unit) (fun _ => [(1, .bp 1 0), (3, .bs 900 3 0 q.length), (4, i64V (i : Int)), (5, i64V 0)]) (fun _ => [(1, .mut 58 [.slc false 3 m A, .slc false 2 N K]), (900, .mut 24 (recsCells q))]) (fun _ => True) ?_ fun _ _ => ?_
    ·
     repeat' (first
      | with_reducible refine W_rg ?_
      | (rw [vcn]; (try simp [push_cast]))
      | fail)
     refine joinW_n () id trivial ⟨?_, ?_, ?_, ?_, ?_, ?_⟩
     all_goals first | (simp [push_cast, hAr, hre, hrn, hKr]; done)
    refine W_block ?_
    refine W_loopW (X := Nat) (fun j => [(1, .bp 1 0), (3, .bs 900 3 0 (q ++ itemsF (its.take j)).length), (4, i64V (i : Int)), (5, i64V (j : Int))]) (fun j => [(1, .mut 58 [.slc false 3 m A, .slc false 2 N K]), (900, .mut 24 (recsCells (q ++ itemsF (its.take j))))])
     (fun j => ni - j) (fun j => j ≤ ni) 0 id (Nat.zero_le _) ⟨?_, ?_, ?_, ?_, ?_, ?_⟩ fun j hj => ?_
    all_goals first | (with_reducible refine W_id ?_) | (simp [push_cast, hAr, hre, hrn, hKr, hiF0, List.append_nil]; done)
    by_cases hjl : j < ni
    ·
     have g2 : (j < ni) = True := eq_true hjl
     have g2' : ((j : Int) < (ni : Int)) = True := eq_true (by omega)
     have hjlc : j < its.length := by omega
     obtain ⟨t2, ht2⟩ := hat2 j hjlc
     have hsn2 := itemsF_snoc its j hjlc
     have hpj := itemsF_pre its (j + 1)
     have hbit : ∀ r ∈ itemF its[j], r.2.2.length ≤ 140737488355328 := fun r hr => hbi r (by
      simp only [itemsF, List.mem_flatMap]
      exact ⟨_, List.getElem_mem _, hr⟩)
     obtain ⟨⟨f, ps⟩, hit⟩ : ∃ c, c = its[j] := ⟨_, rfl⟩
     rw [← hit] at ht2 hsn2 hbit
     rw [hsn2] at hpj
     rw [← hI] at ht2
     simp only [rowsAV] at ht2
     have htl2 := congrArg List.length ht2
     rw [List.length_drop, hil2] at htl2
     simp only [List.length_cons] at htl2
     obtain ⟨r, hr⟩ : ∃ r, r = q ++ itemsF (its.take j) := ⟨_, rfl⟩
     have hrl2 : r.length = q.length + (itemsF (its.take j)).length := by rw [hr]; simp
     have hbnd2 : r.length + f.length + ps.length + 1 ≤ 100000000 := by
      simp only [itemF, List.length_append, List.length_cons, List.length_nil] at hpj
      omega
     have hnext2 : q ++ itemsF (its.take (j + 1)) = r ++ f ++ ps ++ [(17, 0, [])] := by rw [hsn2, hr]; simp [itemF]
     have hlen2 : (r ++ f ++ ps ++ [((17 : UInt8), (0 : UInt8), ([] : List UInt8))]).length = r.length + f.length + ps.length + 1 := by simp; omega
     have hlen3 : q.length + (itemsF (its.take (j + 1))).length = r.length + f.length + ps.length + 1 := by
      have := congrArg List.length hnext2
      rw [hlen2, List.length_append] at this
      exact this
     have hcf := (copied_ok false f (by omega) (fun r hr => hbit r (by simp [itemF, hr]))).frz1
     have hcps := (copied_ok false ps (by omega) (fun r hr => hbit r (by simp [itemF, hr]))).frz1
     simp only [← hr]
     have hrr := hrl r
     have hfr := hrl f
     have hpsr := hrl ps
     have hrf := hrl (r ++ f)
     simp only [List.length_append] at hrf
     obtain ⟨u, hu⟩ : ∃ u, u = r ++ f ++ ps := ⟨_, rfl⟩
     have hul : u.length = r.length + f.length + ps.length := by rw [hu]; simp; omega
     have hrfp := hrl u
     rw [← hu] at hnext2 hlen2
     rw [← hul] at hbnd2 hlen2 hlen3
     repeat' (first
      | with_reducible first | apply thenW_n | apply W_seq | apply W_skip
      | with_reducible refine W_rg ?_
      | (rw [vcn]; (try simp [push_cast, g2, g2', ht, hcsl2, hlt, hil2]))
      | (with_reducible refine W_condW ?_; (try simp [AS.val, upd, resB, mkS_env, mkS_box, lk, entry_env, condW_true, condW_false, g2, g2', ht, hcsl2, hlt, hil2]))
      | fail)
     refine W_joinQ (X := Unit) (fun _ => [(1, .bp 1 0), (3, .bs 900 3 0 (u.length + 1)), (4, i64V (i : Int)), (5, i64V (j : Int))]) (fun _ => [(1, .mut 58 [.slc false 3 m A, .slc false 2 N K]), (900, .mut 24 (recsCells u ++ [byteV 17, byteV 0, .v (.slice none 0 0)]))]) (fun _ => True) ?_ fun _ _ => ?_
     ·
      refine W_block (W_seq ?_)
      refine W_joinQ (X := Unit) (fun _ => [(1, .bp 1 0), (3, .bs 900 3 0 r.length), (6, .bp 6 0), (4, i64V (i : Int)), (5, i64V (j : Int))]) (fun _ => [(1, .mut 58 [.slc false 3 m A, .slc false 2 N K]), (900, .mut 24 (recsCells r)), (6, .mut 77 [.slc false 3 f.length (recsCells f), .slc false 3 ps.length (recsCells ps)])]) (fun _ => True) ?_ fun _ _ => ?_
      ·
       repeat' (first
        | with_reducible refine W_rg ?_
        | (rw [vcn]; (try simp [push_cast, ht, hcsl2, hlt, ht2, hil2, hjl]))
        | fail)
       refine joinW_n () id trivial ⟨?_, ?_, ?_, ?_, ?_, ?_⟩
       all_goals first | (simp [push_cast, hAr, hre, hrn, hKr]; done)
      refine W_seq ?_
      refine W_joinQ (X := Unit) (fun _ => [(1, .bp 1 0), (3, .bs 900 3 0 (r.length + f.length)), (6, .bp 6 0), (4, i64V (i : Int)), (5, i64V (j : Int))]) (fun _ => [(1, .mut 58 [.slc false 3 m A, .slc false 2 N K]), (900, .mut 24 (recsCells (r ++ f))), (6, .mut 77 [.slc false 3 f.length (recsCells f), .slc false 3 ps.length (recsCells ps)])]) (fun _ => True) ?_ fun _ _ => ?_
      ·
       repeat' (first
        | with_reducible refine W_rg ?_
        | (rw [vcn]; (try simp [push_cast]))
        | fail)
       refine CallG_of (hcf) rfl rfl rfl ?_
       try dsimp only
       repeat' (first
        | (rw [vcn]; (try simp [push_cast, hrr, hfr]))
        | refine And.intro (by first | omega | kernel_rfl) ?_
        | fail)
       refine joinW_n () (fun i => if i = 900 then 50 else i) trivial ⟨?_, ?_, ?_, ?_, ?_, ?_⟩
       all_goals first | (simp [push_cast, hAr, hre, hrn, hKr, recsCells_cat]; done) | (simp [push_cast, hAr, hre, hrn, hKr, recsCells_cat]; omega)
      refine W_seq ?_
      refine W_joinQ (X := Unit) (fun _ => [(1, .bp 1 0), (3, .bs 900 3 0 u.length), (4, i64V (i : Int)), (5, i64V (j : Int))]) (fun _ => [(1, .mut 58 [.slc false 3 m A, .slc false 2 N K]), (900, .mut 24 (recsCells u))]) (fun _ => True) ?_ fun _ _ => ?_
      ·
       repeat' (first
        | with_reducible refine W_rg ?_
        | (rw [vcn]; (try simp [push_cast]))
        | fail)
       refine CallG_of (hcps) rfl rfl rfl ?_
       try dsimp only
       repeat' (first
        | (rw [vcn]; (try simp [push_cast, hrf, hpsr]))
        | refine And.intro (by first | omega | kernel_rfl) ?_
        | fail)
       refine joinW_n () (fun i => if i = 900 then 55 else i) trivial ⟨?_, ?_, ?_, ?_, ?_, ?_⟩
       all_goals first | (simp [push_cast, hAr, hre, hrn, hKr, recsCells_cat, hu, List.length_append]; done) | (simp [push_cast, hAr, hre, hrn, hKr, recsCells_cat, hu, List.length_append]; omega)
      repeat' (first
       | with_reducible apply blockW_n
       | with_reducible refine W_rg ?_
       | (rw [vcn]; (try simp [push_cast, hrfp]))
       | refine And.intro (by first | omega | kernel_rfl) ?_
       | fail)
      refine joinW_n () (fun i => if i = 900 then 59 else i) trivial ⟨?_, ?_, ?_, ?_, ?_, ?_⟩
      all_goals first | (simp [push_cast, hAr, hre, hrn, hKr]; done) | (simp [push_cast, hAr, hre, hrn, hKr]; omega)
     refine W_subBox 900 (e := 24) (l' := recsCells (u ++ [(17, 0, [])])) (by simp [mkS_box, lk]) (end_sub _ 17) ?_
     repeat' (first
      | with_reducible refine W_rg ?_
      | (rw [vcn]; (try simp [push_cast]); try simp (disch := omega) only [i64_in, u64_in, shr64i])
      | fail)
     refine loopW_n (j + 1) id (by omega) (by omega) ⟨?_, ?_, ?_, ?_, ?_, ?_⟩
     all_goals first | (simp [push_cast, hAr, hre, hrn, hKr, hnext2, hlen2, hlen3]; done)
    ·
     have g2 : (j < ni) = False := eq_false hjl
     have g2' : ((j : Int) < (ni : Int)) = False := eq_false (by omega)
     have hj2 : j = its.length := by omega
     repeat' (first
      | with_reducible first | apply thenW_n | apply thenW_exit | apply blockW_same | apply loopW_exit | apply W_seq | apply W_exit
      | with_reducible refine W_rg ?_
      | (rw [vcn]; (try simp [push_cast, g2, g2', ht, hcsl2, hlt]))
      | (with_reducible refine W_condW ?_; (try simp [AS.val, upd, resB, mkS_env, mkS_box, lk, entry_env, condW_true, condW_false, g2, g2', ht, hcsl2, hlt]))
      | fail)
     refine joinW_n () id trivial ⟨?_, ?_, ?_, ?_, ?_, ?_⟩
     all_goals first | (simp [push_cast, hAr, hre, hrn, hj2, List.take_length, hKr]; done)
   have hqr := hrl (q ++ itemsF its)
   simp only [List.length_append] at hqr
   have hqi2 : p.length + h.length + (itemsF its).length = q.length + (itemsF its).length := by omega
   rw [hqi2]
   repeat' (first
    | with_reducible apply blockW_n
    | with_reducible refine W_rg ?_
    | (rw [vcn]; (try simp [push_cast, hqr]))
    | refine And.intro (by first | omega | kernel_rfl) ?_
    | fail)
   refine joinW_n () (fun i => if i = 900 then 63 else i) trivial ⟨?_, ?_, ?_, ?_, ?_, ?_⟩
   all_goals first | (simp [push_cast, hAr, hre, hrn, hKr]; done) | (simp [push_cast, hAr, hre, hrn, hKr]; omega)
  ·
   have g1 : (i < N) = False := eq_false hlt
   have g1' : ((i : Int) < (N : Int)) = False := eq_false (by omega)
   have hi2 : i = cs.length := by omega
   repeat' (first
    | with_reducible first | apply thenW_n | apply thenW_exit | apply blockW_same | apply loopW_exit | apply W_seq | apply W_exit
    | with_reducible refine W_rg ?_
    | (rw [vcn]; (try simp [push_cast, g1, g1']))
    | (with_reducible refine W_condW ?_; (try simp [AS.val, upd, resB, mkS_env, mkS_box, lk, entry_env, condW_true, condW_false, g1, g1']))
    | fail)
   refine joinW_n () id trivial ⟨?_, ?_, ?_, ?_, ?_, ?_⟩
   all_goals first | (simp [push_cast, hre, hrn, hi2, List.take_length]; done)
 obtain ⟨l, hl⟩ : ∃ l, l = H ++ cellsF cs := ⟨_, rfl⟩
 have hfl : flatS (H, cs) = l ++ [(4, 0, [])] := by rw [hl]; simp [flatS]
 have hll : l.length = H.length + (cellsF cs).length := by rw [hl]; simp
 rw [hfl]
 simp only [← hl]
 have hlr := hrl l
 have hCl : (recsCells (l ++ [((4 : UInt8), (0 : UInt8), ([] : List UInt8))])).length = (l.length + 1) * 3 := by rw [hrl]; simp
 have htk : (recsCells (l ++ [((4 : UInt8), (0 : UInt8), ([] : List UInt8))])).take ((l.length + 1) * 3) = recsCells (l ++ [(4, 0, [])]) := List.take_of_length_le (by omega)
 have hl1 : (l ++ [((4 : UInt8), (0 : UInt8), ([] : List UInt8))]).length = l.length + 1 := by simp
 refine W_seq ?_
 refine W_joinQ (X := Unit) (fun _ => [(2, .bs 900 3 0 (l.length + 1))]) (fun _ => [(900, .mut 24 (recsCells l ++ [byteV 4, byteV 0, .v (.slice none 0 0)]))]) (fun _ => True) ?_ fun _ _ => ?_
 ·
  repeat' (first
   | with_reducible refine W_rg ?_
   | (rw [vcn]; (try simp [push_cast, hlr]))
   | refine And.intro (by first | omega | kernel_rfl) ?_
   | fail)
  refine joinW_n () (fun i => if i = 900 then 67 else i) trivial ⟨?_, ?_, ?_, ?_, ?_, ?_⟩
  all_goals first | (simp [push_cast, hre, hrn]; done) | (simp [push_cast, hre, hrn]; omega)
 refine W_subBox 900 (e := 24) (l' := recsCells (l ++ [(4, 0, [])])) (by simp [mkS_box, lk]) (end_sub _ 4) ?_
 refine W_frz 900 (e := 24) (l := recsCells (l ++ [(4, 0, [])])) (by simp [upd]) (hre _) ?_
 repeat' (first
  | with_reducible apply W_ret
  | fail)
 simp [post, resAV, resAll, resOne, closeV, closeC, closeL, resD, resDL, push_cast, rowsAV, hl1, hCl, htk]
end Go.Fw

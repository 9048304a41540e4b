/- The law WindBack comes to true: the walk. -/
import Derived.Test.YtmmkclefdpmjlaaRg6
import Derived.Test.YtmmkclefdpmjlaaRp2b
set_option linter.unusedSimpArgs false
set_option linter.unusedVariables false
-- VALS: zAV, zC, ratAV, ratC, ptAV, ptC, sgAV, sgC, d3AV, d3C, dAV, dC, rAV, rC, DP.av, dpC, dotAV
namespace Go.Fw
open Go Go.Proofs Go.IntWalk
set_option linter.unusedSimpArgs false
set_option maxRecDepth 100000
set_option maxHeartbeats 20000000
theorem ptsI_append (l m : List (Int × Int)) : ptsI (l ++ m) = ptsI l ++ ptsI m := by unfold ptsI; rw [List.flatMap_append]
theorem ptsI_at' (l : List (Int × Int)) (i : Nat) (h : i < l.length) : ∃ t, (ptsI l).drop (i * 2) = i64V (l.getD i (0, 0)).1 :: i64V (l.getD i (0, 0)).2 :: t := by
  obtain ⟨t, ht⟩ := ptsI_at l i h
  rw [List.getD_eq_getElem?_getD, List.getElem?_eq_getElem h]
  exact ⟨t, ht⟩
theorem inP_at {l : List (Int × Int)} (h : ∀ p ∈ l, inP p) (i : Nat) : inP (l.getD i (0, 0)) := by
  rw [List.getD_eq_getElem?_getD]
  by_cases hi : i < l.length
  · rw [List.getElem?_eq_getElem hi]; exact h _ (List.getElem_mem hi)
  · rw [List.getElem?_eq_none (by omega)]
    exact ⟨by show inI 0; unfold inI; omega, by show inI 0; unfold inI; omega⟩
theorem turnL_len (l : List (Int × Int)) (k : Nat) : (turnL l k).length = k := by unfold turnL; simp
open List (map_take map_drop)
attribute [local push_cast] optK_some optK_none optK_ite optK_map optK_bind gOn stepK isMem evPure evMem evBin evUn evConv evLen evBuiltin evMinMax evSlice evBuild evAppend evIndex evIndexAddr evField evFieldAddr intBin strBin appDest AS.val AS.mem AS.elems AS.put AS.put' AS.eff AV.cells? AV.isCell AV.refs all_isByte take_byteV drop_byteV strOf_map bndOk bnd partAV ptrAdd killBox catA inOrder fillA setAt ofVal resB upd byteV List.head?_take List.head?_drop List.getElem?_map mkS_env mkS_box mkS_used entry_env entry_box entry_used lk stepD lookIds Oper.looksAt Op.operands Call.operands St.ids refsL renL_append ren renL renBox Box.refs iV i64V boolV dV_getElem dV_app dV_cons toNat_add2 toNat_add1
attribute [local simp ↓] numC_refs numC_isCell numC_cells numC_resB numC_resD numC_ren numC_closeC numC_isOwn
theorem lawBack_ok (l : List (Int × Int)) (a : Int × Int × Int) (hI : ∀ p ∈ l, inP p) (ha : inD a) : Eval Try.prog 8 [.slc false 2 l.length (ptsI l), dotAV a] (.ret (.v (.bool true))) := by
  have e1 := few13_ok l hI
  obtain ⟨m, hm⟩ : ∃ m, m = l.take 30 := ⟨_, rfl⟩
  have hIm : ∀ p ∈ m, inP p := fun p hp => hI p (List.mem_of_mem_take (by rw [← hm]; exact hp))
  have hml : m.length ≤ 30 := by rw [hm, List.length_take]; omega
  have zp := (HD.dot ha).sz
  have e2 := l11At_ok' a ha
  have zq : szV (dtF13 a) ≤ 1000 := by show szV (dotF _ _ _) ≤ _; omega
  have e3 := around_ok false m (dtF13 a) hIm (by omega) zq
  have e4 := around_ok false m.reverse (dtF13 a) (fun p hp => hIm p (List.mem_reverse.1 hp)) (by rw [List.length_reverse]; omega) zq
  have e5 := around_ok false (turnL m m.length) (dtF13 a) (fun p hp => by
    unfold turnL at hp
    obtain ⟨i, _, rfl⟩ := List.mem_map.1 hp
    exact inP_at hIm _) (by rw [turnL_len]; omega) zq
  have e6 := around_ok false (m ++ m) (dtF13 a) (fun p hp => by rcases List.mem_append.1 hp with h | h <;> exact hIm p h) (by rw [List.length_append]; omega) zq
  have hb := aroundF_bound (rowG m) (dtF13 a)
  rw [rowG_len] at hb
  rw [aroundF_rev, List.length_reverse] at e4
  rw [turnL_around, turnL_len] at e5
  rw [aroundF_twice, List.length_append, ptsI_append] at e6
  rw [← hm] at e1
  obtain ⟨L, hL⟩ : ∃ L, L = ptsI m := ⟨_, rfl⟩
  obtain ⟨D, hD⟩ : ∃ L, L = dpsC (rowDg m) := ⟨_, rfl⟩
  obtain ⟨n, hn⟩ : ∃ n, n = m.length := ⟨_, rfl⟩
  have hLr : refsL L = [] := by rw [hL]; exact ptsI_refs _
  have hLn : ∀ ρ, renL ρ L = L := fun ρ => renL_id ρ _ hLr
  have hLl : L.length = n * 2 := by rw [hL, hn, ptsI_len]
  have hDr : refsL D = [] := by rw [hD]; exact dpsC_refs _
  have hat : ∀ i, i < n → ∃ t, L.drop (i * 2) = i64V (m.getD i (0, 0)).1 :: i64V (m.getD i (0, 0)).2 :: t := fun i h => by rw [hL]; exact ptsI_at' m i (by omega)
  rw [← hL, ← hD, ← hn] at e1
  rw [← hL, ← hn] at e3 e6
  rw [← hn] at hml hb e4 e5
  have hp : dotF a.1 a.2.1 a.2.2 = dtF13 a := rfl
  rw [hp] at e2
  obtain ⟨L0, hL0⟩ : ∃ L, L = ptsI l := ⟨_, rfl⟩
  have hL0r : refsL L0 = [] := by rw [hL0]; exact ptsI_refs _
  rw [← hL0] at e1 ⊢
  obtain ⟨n0, hn0⟩ : ∃ n, n = l.length := ⟨_, rfl⟩
  rw [← hn0] at e1 ⊢
  clear hL hD hL0 hn0 zp zq hm hI hIm
  obtain ⟨R, nm_⟩ : ∃ nm0_, nm0_ = (aroundF (rowG m) (dtF13 a)).1 := ⟨_, rfl⟩
  simp only [← nm_] at e3 e4 e5 e6 hb
  clear nm_
  obtain ⟨S, nm_⟩ : ∃ nm0_, nm0_ = (aroundF (rowG m) (dtF13 a)).2 := ⟨_, rfl⟩
  simp only [← nm_] at e3 e4 e5 e6
  clear nm_
  obtain ⟨P, nm_⟩ : ∃ nm0_, nm0_ = dtF13 a := ⟨_, rfl⟩
  simp only [← nm_] at e2 e3 e4 e5 e6
  clear nm_
  unfold dotAV at e2 ⊢
  obtain ⟨a0, a1, a2⟩ := a
  simp only at e2 ⊢
  clear ha
  have tL : L.take (n * 2) = L := List.take_of_length_le (by omega)
  have hPr : ∀ m, refsL (ptsI m) = [] := fun m => ptsI_refs _
  have hPn : ∀ m ρ, renL ρ (ptsI m) = ptsI m := fun m ρ => renL_id ρ _ (hPr m)
  have hP0 : ptsI [] = [] := rfl
  have hR0 : ([] : List (Int × Int)).reverse = [] := rfl
  have hT0 : turnL m 0 = [] := rfl
  refine Eval.intro Try.func8 rfl Try.call8 _ _ (Nat.le_of_ble_eq_true rfl) (by simp [-map_take,-map_drop, AV.refs, refsL, natAV, zAV, zC, ratAV, ratC, ptAV, ptC, sgAV, sgC, d3AV, d3C, dAV, dC, rAV, rC, DP.av, dpC, dotAV, push_cast]) fun hs0 => ?_
  repeat' (first
    | with_reducible first | apply thenW_n | apply W_seq
    | with_reducible refine W_rg ?_
    | (rw [vcn]; (try simp [-map_take,-map_drop, push_cast, hL0r]))
    | fail)
  refine CallG_of (e1) rfl rfl rfl ?_
  try dsimp only
  repeat' (first
    | with_reducible first | apply thenW_n | apply W_seq
    | with_reducible refine W_rg ?_
    | (rw [vcn]; (try simp [-map_take,-map_drop, push_cast, hL0r, hLr, hDr]))
    | fail)
  refine W_joinQ (X := Unit) (fun _ => [(0, .slc false 2 n L), (3, .bp 3 0), (5, .bs 500 2 0 n), (6, .bs 501 2 0 n)]) (fun _ => [(3, .mut 36 [i64V a0, i64V a1, i64V a2]), (500, .mut 65 (ptsI m.reverse)), (501, .mut 65 (ptsI (turnL m n)))]) (fun _ => True) ?_ fun _ _ => ?_
  · refine W_nil 5 500 65 2 (by simp [-map_take,-map_drop, upd, mkS_env, entry_env, lk]) (by simp [-map_take,-map_drop, mkS_used, entry_used]) ?_
    refine W_nil 6 501 65 2 (by simp [-map_take,-map_drop, upd, mkS_env, entry_env, lk]) (by simp [-map_take,-map_drop, mkS_used, entry_used]) ?_
    repeat' (first
      | with_reducible apply W_block
      | fail)
    refine W_loopW (X := Nat) (fun i => [(0, .slc false 2 n L), (3, .bp 3 0), (5, .bs 500 2 0 i), (6, .bs 501 2 0 i), (7, i64V i)]) (fun i => [(3, .mut 36 [i64V a0, i64V a1, i64V a2]), (500, .mut 65 (ptsI (m.take i).reverse)), (501, .mut 65 (ptsI (turnL m i)))]) (fun i => n - i)
      (fun i => i ≤ n) 0 id (by omega) ⟨?_, ?_, ?_, ?_, ?_, ?_⟩ fun i hi => ?_
    all_goals first | (with_reducible refine W_id ?_) | (simp [-map_take,-map_drop, push_cast, dV_take, dV_drop, hLr, hLn, hP0, hR0, hT0, List.take_zero]; done)
    have k1 := hPr (m.take i).reverse
    have k2 := hPn (m.take i).reverse
    have k3 := hPr (turnL m i)
    have k4 := hPn (turnL m i)
    by_cases c1 : ¬ i < n
    · have y1 : (i < n) = False := eq_false c1
      have y2 : ((i : Int) < (n : Int)) = False := eq_false (by omega)
      have hi' : i = n := by omega
      have hmk : m.take i = m := by rw [hi', hn]; exact List.take_length
      have k1 := hPr m.reverse
      have k2 := hPn m.reverse
      have k3 := hPr (turnL m n)
      have k4 := hPn (turnL m n)
      rw [hmk, hi']
      rw [hi'] at y1 y2
      repeat' (first
        | with_reducible first | apply thenW_n | apply thenW_exit | apply blockW_same | apply loopW_exit | apply W_seq | apply W_exit
        | with_reducible refine W_rg ?_
        | (rw [vcn]; (try simp [-map_take,-map_drop, push_cast, y1, y2]))
        | (with_reducible refine W_condW ?_; (try simp [-map_take,-map_drop, AS.val, upd, resB, mkS_env, mkS_box, lk, entry_env, condW_true, condW_false, y1, y2]))
        | fail)
      refine joinW_n () id trivial ⟨?_, ?_, ?_, ?_, ?_, ?_⟩
      all_goals first | (simp [-map_take,-map_drop, push_cast, dV_take, dV_drop, hLr, hLn, k1, k2, k3, k4]; done)
    have c1 : i < n := by omega
    have y1 : (i < n) = True := eq_true c1
    have y2 : ((i : Int) < (n : Int)) = True := eq_true (by omega)
    have hj : (i + 1) % n < n := Nat.mod_lt _ (by omega)
    have hrem : ((i : Int) + 1).tmod (n : Int) = (((i + 1) % n : Nat) : Int) := by rw [Int.tmod_eq_emod_of_nonneg (by omega)]; rfl
    have n0' : (n = 0) = False := eq_false (by omega)
    have n1 : ((n : Int) = 0) = False := eq_false (by omega)
    obtain ⟨t1, ht1⟩ := hat i c1
    obtain ⟨t2, ht2⟩ := hat _ hj
    have htk : m.take (i + 1) = m.take i ++ [m.getD i (0, 0)] := by
      rw [List.take_succ_eq_append_getElem (by omega), List.getD_eq_getElem?_getD, List.getElem?_eq_getElem (by omega)]; rfl
    have d1 : ptsI (m.take (i + 1)).reverse = [i64V (m.getD i (0, 0)).1, i64V (m.getD i (0, 0)).2] ++ ptsI (m.take i).reverse := by rw [htk, List.reverse_append]; rfl
    have s1 : ptsI (turnL m (i + 1)) = ptsI (turnL m i) ++ [i64V (m.getD ((i + 1) % n) (0, 0)).1, i64V (m.getD ((i + 1) % n) (0, 0)).2] := by rw [turnL_snoc, ← hn, ptsI_append]; rfl
    have k5 : (ptsI (m.take i).reverse).length = i * 2 := by rw [ptsI_len, List.length_reverse, List.length_take]; omega
    have k6 : (ptsI (turnL m i)).length = i * 2 := by rw [ptsI_len, turnL_len]
    have k7 := hPr (m.take (i + 1)).reverse
    have k8 := hPn (m.take (i + 1)).reverse
    have k9 := hPr (turnL m (i + 1))
    have k10 := hPn (turnL m (i + 1))
    obtain ⟨j, hj2⟩ : ∃ j, j = (i + 1) % n := ⟨_, rfl⟩
    rw [← hj2] at hj hrem ht2 s1
    obtain ⟨A, nm_⟩ : ∃ nm0_, nm0_ = m.getD i (0, 0) := ⟨_, rfl⟩
    simp only [← nm_] at ht1 d1
    clear nm_
    obtain ⟨B, nm_⟩ : ∃ nm0_, nm0_ = m.getD j (0, 0) := ⟨_, rfl⟩
    simp only [← nm_] at ht2 s1
    clear nm_
    obtain ⟨x, y⟩ := A
    obtain ⟨u, v⟩ := B
    simp only at ht1 ht2 d1 s1
    obtain ⟨S1, hS1⟩ : ∃ S, S = ptsI (m.take i).reverse := ⟨_, rfl⟩
    obtain ⟨S1', hS1'⟩ : ∃ S, S = ptsI (m.take (i + 1)).reverse := ⟨_, rfl⟩
    obtain ⟨D1, hD1⟩ : ∃ S, S = ptsI (turnL m i) := ⟨_, rfl⟩
    obtain ⟨D1', hD1'⟩ : ∃ S, S = ptsI (turnL m (i + 1)) := ⟨_, rfl⟩
    simp only [← hS1, ← hS1', ← hD1, ← hD1'] at s1 d1 k1 k2 k3 k4 k5 k6 k7 k8 k9 k10 ⊢
    have eS' := hS1'.symm
    have eD' := hD1'.symm
    have tS : S1.take (i * 2) = S1 := List.take_of_length_le (by omega)
    clear hS1 hS1' hD1 hD1' hj2 hat htk hPr hPn hP0 e1 e2 e3 e4 e5 e6
    repeat' (first
      | with_reducible first | apply thenW_n | apply W_seq | apply W_skip
      | with_reducible refine W_rg ?_
      | (rw [vcn]; (try simp [-map_take,-map_drop, push_cast, y1, y2]))
      | (with_reducible refine W_condW ?_; (try simp [-map_take,-map_drop, AS.val, upd, resB, mkS_env, mkS_box, lk, entry_env, condW_true, condW_false, y1, y2]))
      | fail)
    refine W_block ?_
    refine W_seq ?_
    refine W_joinQ (X := Unit) (fun _ => [(0, .slc false 2 n L), (3, .bp 3 0), (5, .bs 500 2 0 (i + 1)), (6, .bs 501 2 0 i), (7, i64V i)]) (fun _ => [(3, .mut 36 [i64V a0, i64V a1, i64V a2]), (500, .mut 65 S1'), (501, .mut 65 D1)]) (fun _ => True) ?_ fun _ _ => ?_
    · repeat' (first
        | with_reducible refine W_rg ?_
        | (rw [vcn]; (try simp [-map_take,-map_drop, push_cast, ht1, hLl, c1, k5, tS]))
        | refine And.intro (by first | omega | kernel_rfl) ?_
        | fail)
      refine joinW_n () (fun i => if i = 500 then 35 else i) trivial ⟨?_, ?_, ?_, ?_, ?_, ?_⟩
      all_goals first | (simp [-map_take,-map_drop, push_cast, dV_take, dV_drop, hLr, hLn, k1, k2, k3, k4, k7, k8, d1, tS]; done) | (simp [-map_take,-map_drop, push_cast, dV_take, dV_drop, hLr, hLn, k1, k2, k3, k4, k7, k8, d1, tS]; omega)
    repeat' (first
      | with_reducible first | apply thenW_n | apply blockW_n
      | with_reducible refine W_rg ?_
      | (rw [vcn]; (try simp [-map_take,-map_drop, push_cast, ht2, hLl, hj, hrem, n0', n1, k6]); try simp (disch := omega) only [i64_in, u64_in, shr64i])
      | refine And.intro (by first | omega | kernel_rfl) ?_
      | fail)
    refine loopW_n (i + 1) (fun i => if i = 501 then 46 else i) (by omega) (by omega) ⟨?_, ?_, ?_, ?_, ?_, ?_⟩
    all_goals first | (simp [-map_take,-map_drop, push_cast, dV_take, dV_drop, hLr, hLn, k3, k4, k7, k8, k9, k10, s1, eS', eD']; done) | (simp [-map_take,-map_drop, push_cast, dV_take, dV_drop, hLr, hLn, k3, k4, k7, k8, k9, k10, s1, eS', eD']; omega)
  have k1 := hPr m.reverse
  have k3 := hPr (turnL m n)
  have k5 : (ptsI m.reverse).length = n * 2 := by rw [ptsI_len, List.length_reverse, hn]
  have k6 : (ptsI (turnL m n)).length = n * 2 := by rw [ptsI_len, turnL_len]
  have t5 : (ptsI m.reverse).take (n * 2) = ptsI m.reverse := List.take_of_length_le (by omega)
  have t6 : (ptsI (turnL m n)).take (n * 2) = ptsI (turnL m n) := List.take_of_length_le (by omega)
  have hLL : (L ++ L).length = (n + n) * 2 := by rw [List.length_append]; omega
  have tLL : (L ++ L).take ((n + n) * 2) = L ++ L := List.take_of_length_le (by omega)
  have hLLr : refsL (L ++ L) = [] := by rw [refsL_append, hLr]; rfl
  obtain ⟨BK, nm_⟩ : ∃ nm0_, nm0_ = ptsI m.reverse := ⟨_, rfl⟩
  simp only [← nm_] at e4 k1 k5 t5 ⊢
  clear nm_
  obtain ⟨TU, nm_⟩ : ∃ nm0_, nm0_ = ptsI (turnL m n) := ⟨_, rfl⟩
  simp only [← nm_] at e5 k3 k6 t6 ⊢
  clear nm_
  clear hPr hPn hP0 hR0 hT0 hat
  refine W_frz 500 (e := 65) (l := BK) (by simp [-map_take,-map_drop, mkS_box, lk]) k1 ?_
  refine W_frz 501 (e := 65) (l := TU) (by simp [-map_take,-map_drop, upd, mkS_box, lk]) k3 ?_
  refine W_seq ?_
  repeat' (first
    | with_reducible refine W_rg ?_
    | (rw [vcn]; (try simp [-map_take,-map_drop, push_cast, hLr, tL, hLl]))
    | refine And.intro (by first | omega | kernel_rfl) ?_
    | fail)
  refine thenW_n ?_
  refine W_frz 51 (e := 65) (l := L ++ L) (by simp [-map_take,-map_drop, mkS_box, lk, upd, tL]) hLLr ?_
  repeat' (first
    | with_reducible apply W_seq
    | with_reducible refine W_rg ?_
    | (rw [vcn]; (try simp [-map_take,-map_drop, push_cast, hLr]))
    | fail)
  refine CallG_of (e2) rfl rfl rfl ?_
  try dsimp only
  repeat' (first
    | with_reducible first | apply thenW_n | apply W_seq
    | with_reducible refine W_rg ?_
    | (rw [vcn]; (try simp [-map_take,-map_drop, push_cast, hLr, ptAV, ptC, ratAV, ratC, zAV, zC]))
    | fail)
  refine CallG_of (e3) rfl rfl rfl ?_
  try dsimp only
  repeat' (first
    | with_reducible first | apply thenW_n | apply W_seq
    | with_reducible refine W_rg ?_
    | (rw [vcn]; (try simp [-map_take,-map_drop, push_cast, hLr, ptAV, ptC, ratAV, ratC, zAV, zC, boolV, k1, k5, t5]))
    | fail)
  refine CallG_of (e4) rfl rfl rfl ?_
  try dsimp only
  repeat' (first
    | with_reducible first | apply thenW_n | apply W_seq
    | with_reducible refine W_rg ?_
    | (rw [vcn]; (try simp [-map_take,-map_drop, push_cast, hLr, ptAV, ptC, ratAV, ratC, zAV, zC, boolV, k3, k6, t6]))
    | fail)
  refine CallG_of (e5) rfl rfl rfl ?_
  try dsimp only
  repeat' (first
    | with_reducible first | apply thenW_n | apply W_seq
    | with_reducible refine W_rg ?_
    | (rw [vcn]; (try simp [-map_take,-map_drop, push_cast, hLr, ptAV, ptC, ratAV, ratC, zAV, zC, boolV, hLL, hLLr, tLL]))
    | fail)
  refine CallG_of (e6) rfl rfl rfl ?_
  try dsimp only
  repeat' (first
    | with_reducible first | apply thenW_n | apply W_seq
    | with_reducible refine W_rg ?_
    | (rw [vcn]; (try simp [-map_take,-map_drop, push_cast, boolV]))
    | fail)
  refine CallG_of (known13_ok) rfl rfl rfl ?_
  try dsimp only
  repeat' (first
    | with_reducible first | apply thenW_n | apply W_ret
    | (rw [vcn]; (try simp [-map_take,-map_drop, push_cast, boolV]); try simp (disch := omega) only [i64_in, u64_in, shr64i])
    | fail)
  simp [-map_take,-map_drop, post, resAV, resAll, resOne, closeV, closeC, closeL, resD, resDL, push_cast, boolV]
end Go.Fw

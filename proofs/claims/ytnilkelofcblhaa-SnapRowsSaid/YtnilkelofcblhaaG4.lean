/- The law SnapBoxes comes to true: the walk. -/
import Derived.Test.YtnilkelofcblhaaG3
import Derived.Test.YtnilkelofcblhaaS5
import Derived.Test.YtnilkelofcblhaaW1b
set_option linter.unusedSimpArgs false
set_option linter.unusedVariables false
-- VALS: zAV, zC, ratAV, ratC, ptAV, ptC, sgAV, sgC, dAV, dC, d3AV, d3C, ratD, RD.av, DP.av, ptI, dpC, dotAV
namespace Go.Fw
open Go Go.Proofs Go.IntWalk
set_option linter.unusedSimpArgs false
set_option maxRecDepth 100000
set_option maxHeartbeats 20000000

def dotI (a : Int × Int × Int) : List AV := [i64V a.1, i64V a.2.1, i64V a.2.2]
def dotsI (l : List (Int × Int × Int)) : List AV := l.flatMap dotI
theorem dotsI_len (l : List (Int × Int × Int)) : (dotsI l).length = l.length * 3 := by
  induction l with
  | nil => rfl
  | cons x t ih => show (dotI x ++ dotsI t).length = _; rw [List.length_append, ih, List.length_cons]; simp [dotI]; omega
theorem dotsI_refs (l : List (Int × Int × Int)) : refsL (dotsI l) = [] := by
  induction l with
  | nil => rfl
  | cons x t ih => show refsL (dotI x ++ dotsI t) = []; rw [refsL_append, ih]; rfl
theorem dotsI_at (l : List (Int × Int × Int)) (i : Nat) (h : i < l.length) : ∃ t, (dotsI l).drop (i * 3) = i64V l[i].1 :: i64V l[i].2.1 :: i64V l[i].2.2 :: t := by
  induction l generalizing i with
  | nil => cases h
  | cons x r ih =>
    cases i with
    | zero => exact ⟨dotsI r, rfl⟩
    | succ i =>
      obtain ⟨t, ht⟩ := ih i (by simpa using h)
      refine ⟨t, ?_⟩
      have e : (i + 1) * 3 = (dotI x).length + i * 3 := by simp [dotI]; omega
      show (dotI x ++ dotsI r).drop _ = _
      rw [e, List.drop_append, Nat.add_sub_cancel_left, ht, List.drop_eq_nil_of_le (Nat.le_add_right _ _)]
      rfl
/-- The segments and the points so far. -/
def nth3 (l : List (Int × Int × Int)) (i : Nat) : Int × Int × Int := l.getD i (0, 0, 0)
def segN (l : List (Int × Int × Int)) (j : Nat) : FSg := ⟨dotF (nth3 l (2 * j)).1 (nth3 l (2 * j)).2.1 (nth3 l (2 * j)).2.2, dotF (nth3 l (2 * j + 1)).1 (nth3 l (2 * j + 1)).2.1 (nth3 l (2 * j + 1)).2.2⟩
def segsN (l : List (Int × Int × Int)) (j : Nat) : List FSg := (List.range j).map (segN l)
def dpsN (l : List (Int × Int × Int)) (j : Nat) : List DP := (List.range j).flatMap fun k => [dotD (nth3 l (2 * k)), dotD (nth3 l (2 * k + 1))]
theorem nth3_in {l : List (Int × Int × Int)} (h : ∀ a ∈ l, inD a) (i : Nat) : inD (nth3 l i) := by
  unfold nth3
  rw [List.getD_eq_getElem?_getD]
  by_cases hi : i < l.length
  · rw [List.getElem?_eq_getElem hi]; exact h _ (List.getElem_mem hi)
  · rw [List.getElem?_eq_none (by omega)]
    show inI 0 ∧ inI 0
    unfold inI
    omega
theorem segsN_succ (l : List (Int × Int × Int)) (j : Nat) : segsN l (j + 1) = segsN l j ++ [segN l j] := by
  unfold segsN; rw [List.range_succ, List.map_append]; rfl
theorem dpsN_succ (l : List (Int × Int × Int)) (j : Nat) : dpsN l (j + 1) = dpsN l j ++ [dotD (nth3 l (2 * j)), dotD (nth3 l (2 * j + 1))] := by
  unfold dpsN; rw [List.range_succ, List.flatMap_append]; rfl
theorem segsN_len (l : List (Int × Int × Int)) (j : Nat) : (segsN l j).length = j := by unfold segsN; rw [List.length_map, List.length_range]
theorem dpsN_len (l : List (Int × Int × Int)) (j : Nat) : (dpsN l j).length = 2 * j := by
  induction j with
  | zero => rfl
  | succ j ih => rw [dpsN_succ, List.length_append, ih]; simp; omega
theorem segsN_v (l : List (Int × Int × Int)) (j : Nat) : (dpsN l j).map DP.v = (segsN l j).flatMap fun s => [s.A.v, s.B.v] := by
  induction j with
  | zero => rfl
  | succ j ih => rw [dpsN_succ, segsN_succ, List.map_append, List.flatMap_append, ih]; rfl
theorem dpsN_all {l : List (Int × Int × Int)} (h : ∀ a ∈ l, inD a) (j : Nat) : ∀ p ∈ dpsN l j, 0 < p.w ∧ szP3 p ≤ 15 := by
  intro p hp
  unfold dpsN at hp
  obtain ⟨k, _, hk⟩ := List.mem_flatMap.1 hp
  simp only [List.mem_cons, List.not_mem_nil, or_false] at hk
  rcases hk with rfl | rfl
  · exact ⟨dotD_w _, dotD_sz (nth3_in h _)⟩
  · exact ⟨dotD_w _, dotD_sz (nth3_in h _)⟩
theorem segsN_all {l : List (Int × Int × Int)} (h : ∀ a ∈ l, inD a) (j : Nat) : ∀ s ∈ segsN l j, szV s.A + szV s.B ≤ 1000 := by
  intro s hs
  unfold segsN at hs
  obtain ⟨k, _, rfl⟩ := List.mem_map.1 hs
  have h1 := nth3_in h (2 * k)
  have h2 := nth3_in h (2 * k + 1)
  have h3 : szV (dotF (nth3 l (2 * k)).1 (nth3 l (2 * k)).2.1 (nth3 l (2 * k)).2.2) ≤ 20 := dot_sz h1.1 h1.2
  have h4 : szV (dotF (nth3 l (2 * k + 1)).1 (nth3 l (2 * k + 1)).2.1 (nth3 l (2 * k + 1)).2.2) ≤ 20 := dot_sz h2.1 h2.2
  show szV (dotF _ _ _) + szV (dotF _ _ _) ≤ 1000
  omega

open List (map_take map_drop)
attribute [local push_cast] optK_some optK_none optK_ite optK_map optK_bind gOn stepK isMem evPure evMem evBin evUn evConv evLen evBuiltin evMinMax evSlice evBuild evAppend evIndex evIndexAddr evField evFieldAddr intBin strBin appDest AS.val AS.mem AS.elems AS.put AS.put' AS.eff AV.cells? AV.isCell AV.refs all_isByte take_byteV drop_byteV strOf_map bndOk bnd partAV ptrAdd killBox catA inOrder fillA setAt ofVal resB upd byteV List.head?_take List.head?_drop List.getElem?_map mkS_env mkS_box mkS_used entry_env entry_box entry_used lk stepD lookIds Oper.looksAt Op.operands Call.operands St.ids refsL renL_append ren renL renBox Box.refs iV i64V boolV dV_getElem dV_app dV_cons toNat_add2 toNat_add1
attribute [local simp ↓] numC_refs numC_isCell numC_cells numC_resB numC_resD numC_ren numC_closeC numC_isOwn
theorem lawBoxes_ok (f : Bool) (l : List (Int × Int × Int)) (hI : ∀ a ∈ l, inD a) : Eval Try.prog 4 [.slc f 3 l.length (dotsI l)] (.ret (.v (.bool true))) := by
  refine Eval.intro Try.func4 rfl Try.call4 _ _ (Nat.le_of_ble_eq_true rfl) (by simp [-map_take,-map_drop, AV.refs, refsL, natAV, zAV, zC, ratAV, ratC, ptAV, ptC, sgAV, sgC, dAV, dC, d3AV, d3C, ratD, RD.av, DP.av, ptI, dpC, dotAV, push_cast]) fun hs0 => ?_
  have hn64 := l.length
  obtain ⟨n, hn⟩ : ∃ n, n = l.length := ⟨_, rfl⟩
  obtain ⟨L, hL⟩ : ∃ x, x = dotsI l := ⟨_, rfl⟩
  have hLr : refsL L = [] := by rw [hL]; exact dotsI_refs _
  have hLn : ∀ ρ, renL ρ L = L := fun ρ => renL_id ρ _ hLr
  have hLl : L.length = n * 3 := by rw [hL, hn, dotsI_len]
  have hat : ∀ i (h : i < l.length), ∃ t, L.drop (i * 3) = i64V (nth3 l i).1 :: i64V (nth3 l i).2.1 :: i64V (nth3 l i).2.2 :: t := fun i h => by
    rw [hL]
    have e : nth3 l i = l[i] := by unfold nth3; rw [List.getD_eq_getElem?_getD, List.getElem?_eq_getElem h]; rfl
    rw [e]
    exact dotsI_at l i h
  rw [← hL]
  simp only [← hn]
  clear hL hs0 hn64
  have hSr : ∀ j, refsL (sgsC (segsN l j)) = [] := fun j => sgsC_refs _
  have hSn : ∀ j ρ, renL ρ (sgsC (segsN l j)) = sgsC (segsN l j) := fun j ρ => renL_id ρ _ (hSr j)
  have hDr : ∀ j, refsL (dpsC (dpsN l j)) = [] := fun j => dpsC_refs _
  have hDn : ∀ j ρ, renL ρ (dpsC (dpsN l j)) = dpsC (dpsN l j) := fun j ρ => renL_id ρ _ (hDr j)
  have hSl : ∀ j, (sgsC (segsN l j)).length = j * 16 := fun j => by rw [sgsC_len, segsN_len]
  have hDl : ∀ j, (dpsC (dpsN l j)).length = 2 * j * 6 := fun j => by rw [dpsC_len, dpsN_len]
  have hS1 : ∀ j, sgsC (segsN l (j + 1)) = sgsC (segsN l j) ++ (ptC (dotF (nth3 l (2 * j)).1 (nth3 l (2 * j)).2.1 (nth3 l (2 * j)).2.2) ++ ptC (dotF (nth3 l (2 * j + 1)).1 (nth3 l (2 * j + 1)).2.1 (nth3 l (2 * j + 1)).2.2)) := fun j => by
    rw [segsN_succ]; unfold sgsC; rw [List.flatMap_append]; rfl
  have hD1 : ∀ j, dpsC (dpsN l (j + 1)) = dpsC (dpsN l j) ++ (dpC (dotD (nth3 l (2 * j))) ++ dpC (dotD (nth3 l (2 * j + 1)))) := fun j => by
    rw [dpsN_succ]; unfold dpsC; rw [List.flatMap_append]; rfl
  have hall := dpsN_all hI
  have hsall := segsN_all hI
  have hv := segsN_v l
  have hlen := segsN_len l
  have hdlen := dpsN_len l
  have hin := nth3_in hI
  obtain ⟨SN, hSN⟩ : ∃ F, F = fun j => sgsC (segsN l j) := ⟨_, rfl⟩
  obtain ⟨DN, hDN⟩ : ∃ F, F = fun j => dpsC (dpsN l j) := ⟨_, rfl⟩
  have hS0 : SN 0 = [] := by rw [hSN]; rfl
  have hD0 : DN 0 = [] := by rw [hDN]; rfl
  have eS : ∀ j, sgsC (segsN l j) = SN j := fun j => by rw [hSN]
  have eD : ∀ j, dpsC (dpsN l j) = DN j := fun j => by rw [hDN]
  simp only [eS, eD] at hSr hSn hDr hDn hSl hDl hS1 hD1
  repeat' (first
    | with_reducible first | apply thenW_n | apply W_seq
    | with_reducible refine W_region (by first | decide | (with_unfolding_all rfl)) ?_
    | (rw [vcn]; (try simp [-map_take,-map_drop, push_cast]))
    | fail)
  refine W_joinQ (X := Nat) (fun i => [(3, .bs 500 16 0 (i / 2)), (4, .bs 501 6 0 i)]) (fun i => [(500, .mut 62 (SN (i / 2))), (501, .mut 34 (DN (i / 2)))]) (fun i => i % 2 = 0 ∧ i ≤ 30) ?_ fun i hi => ?_
  · refine W_nil 3 500 62 16 (by simp [-map_take,-map_drop, upd, mkS_env, entry_env, lk]) (by simp [-map_take,-map_drop, mkS_used, entry_used]) ?_
    refine W_nil 4 501 34 6 (by simp [-map_take,-map_drop, upd, mkS_env, entry_env, lk]) (by simp [-map_take,-map_drop, mkS_used, entry_used]) ?_
    repeat' (first
      | with_reducible apply W_block
      | fail)
    refine W_loopW (X := Nat) (fun i => [(0, .slc f 3 n L), (3, .bs 500 16 0 (i / 2)), (4, .bs 501 6 0 i), (5, i64V i)]) (fun i => [(500, .mut 62 (SN (i / 2))), (501, .mut 34 (DN (i / 2)))]) (fun i => 40 - i)
      (fun i => i % 2 = 0 ∧ i ≤ 30) 0 id (by omega) ⟨?_, ?_, ?_, ?_, ?_, ?_⟩ fun i hi => ?_
    all_goals first | (with_reducible refine W_id ?_) | (simp [-map_take,-map_drop, push_cast, dV_take, dV_drop, hLr, hLn, hS0, hD0]; done)
    obtain ⟨j, hj⟩ : ∃ j, j = i / 2 := ⟨_, rfl⟩
    have hij : i = 2 * j := by omega
    rw [← hj]
    have hj1 : (i + 2) / 2 = j + 1 := by omega
    by_cases c1 : ¬ i + 1 < n
    · have y1 : (i + 1 < n) = False := eq_false c1
      have y2 : ((i : Int) + 1 < (n : Int)) = False := eq_false (by omega)
      repeat' (first
        | with_reducible first | apply thenW_n | apply thenW_exit | apply blockW_same | apply loopW_exit | apply W_seq | apply W_exit
        | with_reducible refine W_region (by first | decide | (with_unfolding_all rfl)) ?_
        | (rw [vcn]; (try simp [-map_take,-map_drop, push_cast, y1, y2]); try simp (disch := omega) only [i64_in, u64_in, shr64i])
        | (with_reducible refine W_condW ?_; (try simp [-map_take,-map_drop, AS.val, upd, resB, mkS_env, mkS_box, lk, entry_env, condW_true, condW_false, y1, y2]))
        | fail)
      refine joinW_n i id hi ⟨?_, ?_, ?_, ?_, ?_, ?_⟩
      all_goals first | (simp [-map_take,-map_drop, push_cast, dV_take, dV_drop, hSr, hSn, hDr, hDn, ← hj]; done)
    have c1 : i + 1 < n := by omega
    have y1 : (i + 1 < n) = True := eq_true c1
    have y2 : ((i : Int) + 1 < (n : Int)) = True := eq_true (by omega)
    by_cases c2 : ¬ i < 30
    · have y3 : (i < 30) = False := eq_false c2
      have y4 : ((i : Int) < 30) = False := eq_false (by omega)
      repeat' (first
        | with_reducible first | apply thenW_n | apply thenW_exit | apply blockW_same | apply loopW_exit | apply W_seq | apply W_exit
        | with_reducible refine W_region (by first | decide | (with_unfolding_all rfl)) ?_
        | (rw [vcn]; (try simp [-map_take,-map_drop, push_cast, y1, y2, y3, y4]); try simp (disch := omega) only [i64_in, u64_in, shr64i])
        | (with_reducible refine W_condW ?_; (try simp [-map_take,-map_drop, AS.val, upd, resB, mkS_env, mkS_box, lk, entry_env, condW_true, condW_false, y1, y2, y3, y4]))
        | fail)
      refine joinW_n i id hi ⟨?_, ?_, ?_, ?_, ?_, ?_⟩
      all_goals first | (simp [-map_take,-map_drop, push_cast, dV_take, dV_drop, hSr, hSn, hDr, hDn, ← hj]; done)
    have c2 : i < 30 := by omega
    have y3 : (i < 30) = True := eq_true c2
    have y4 : ((i : Int) < 30) = True := eq_true (by omega)
    obtain ⟨t1, ht1⟩ := hat i (by omega)
    obtain ⟨t2, ht2⟩ := hat (i + 1) (by omega)
    have hA := hin i
    have hB := hin (i + 1)
    have s1 := hS1 j
    have d1 := hD1 j
    have k1 := hSr j
    have k2 := hSn j
    have k3 := hDr j
    have k4 := hDn j
    have k5 := hSl j
    have k6 := hDl j
    have k7 := hSr (j + 1)
    have k8 := hSn (j + 1)
    have k9 := hDr (j + 1)
    have k10 := hDn (j + 1)
    rw [← hij] at s1 d1 k6
    obtain ⟨A, eA⟩ : ∃ A, A = nth3 l i := ⟨_, rfl⟩
    obtain ⟨B, eB⟩ : ∃ B, B = nth3 l (i + 1) := ⟨_, rfl⟩
    rw [← eA] at ht1 hA s1 d1
    rw [← eB] at ht2 hB s1 d1
    have pA := l11At_ok' A hA
    have pB := l11At_ok' B hB
    have qA := at11_ok' A hA
    have qB := at11_ok' B hB
    obtain ⟨S, hS⟩ : ∃ S, S = SN j := ⟨_, rfl⟩
    obtain ⟨S', hS'⟩ : ∃ S, S = SN (j + 1) := ⟨_, rfl⟩
    obtain ⟨D, hD⟩ : ∃ S, S = DN j := ⟨_, rfl⟩
    obtain ⟨D', hD'⟩ : ∃ S, S = DN (j + 1) := ⟨_, rfl⟩
    simp only [← hS, ← hS', ← hD, ← hD'] at s1 d1 k1 k2 k3 k4 k5 k6 k7 k8 k9 k10 ⊢
    have eS' : SN (j + 1) = S' := hS'.symm
    have eD' : DN (j + 1) = D' := hD'.symm
    obtain ⟨PA, nm_⟩ : ∃ nm0_, nm0_ = dotF A.1 A.2.1 A.2.2 := ⟨_, rfl⟩
    simp only [← nm_] at pA s1
    clear nm_
    obtain ⟨PB, nm_⟩ : ∃ nm0_, nm0_ = dotF B.1 B.2.1 B.2.2 := ⟨_, rfl⟩
    simp only [← nm_] at pB s1
    clear nm_
    obtain ⟨QA, nm_⟩ : ∃ nm0_, nm0_ = dotD A := ⟨_, rfl⟩
    simp only [← nm_] at qA d1
    clear nm_
    obtain ⟨QB, nm_⟩ : ∃ nm0_, nm0_ = dotD B := ⟨_, rfl⟩
    simp only [← nm_] at qB d1
    clear nm_
    unfold dotAV at pA pB qA qB
    obtain ⟨a0, a1, a2⟩ := A
    obtain ⟨b0, b1, b2⟩ := B
    simp only at ht1 ht2 pA pB qA qB
    have w1 : IntKind.i64.wrap ((i : Int) + 1) = ((i + 1 : Nat) : Int) := by rw [i64_in _ (by omega)]; omega
    have w2 : IntKind.i64.wrap ((i : Int) + 2) = ((i + 2 : Nat) : Int) := by rw [i64_in _ (by omega)]; omega
    clear hS hS' hD hD' eA eB hat hSN hDN eS eD hall hsall hv hlen hdlen hin
    repeat' (first
      | with_reducible first | apply thenW_n | apply W_seq | apply W_skip
      | with_reducible refine W_region (by first | decide | (with_unfolding_all rfl)) ?_
      | (rw [vcn]; (try simp [-map_take,-map_drop, push_cast, y1, y2, y3, y4]); try simp (disch := omega) only [i64_in, u64_in, shr64i])
      | (with_reducible refine W_condW ?_; (try simp [-map_take,-map_drop, AS.val, upd, resB, mkS_env, mkS_box, lk, entry_env, condW_true, condW_false, y1, y2, y3, y4]))
      | fail)
    refine W_block ?_
    refine W_seq ?_
    refine W_joinQ (X := Unit) (fun _ => [(0, .slc f 3 n L), (3, .bs 500 16 0 (j + 1)), (4, .bs 501 6 0 i), (5, i64V i)]) (fun _ => [(500, .mut 62 S'), (501, .mut 34 D)]) (fun _ => True) ?_ fun _ _ => ?_
    · repeat' (first
        | with_reducible refine W_drawn mixed (by decide) (by kernel_rfl) ?_
        | (rw [vcnD]; (try simp [-map_take,-map_drop, push_cast, ht1, hLl, c1, c2]))
        | refine And.intro (by first | omega | kernel_rfl) ?_
        | fail)
      refine callD_of (pA) rfl rfl rfl ?_
      try dsimp only
      repeat' (first
        | (rw [vcnD]; (try simp [-map_take,-map_drop, push_cast, ht2, hLl, c1, c2]); try simp (disch := omega) only [i64_in, u64_in, shr64i])
        | refine And.intro (by first | omega | kernel_rfl) ?_
        | fail)
      refine callD_of (pB) rfl rfl rfl ?_
      try dsimp only
      repeat' (first
        | (rw [vcnD]; (try simp [-map_take,-map_drop, push_cast, ptAV, ptC, ratC, zC, k5]))
        | refine And.intro (by first | omega | kernel_rfl) ?_
        | fail)
      refine joinW_n () (fun i => if i = 500 then 37 else i) trivial ⟨?_, ?_, ?_, ?_, ?_, ?_⟩
      all_goals first | (simp [-map_take,-map_drop, push_cast, dV_take, dV_drop, hLr, hLn, k1, k2, k3, k4, k7, k8, s1, ptC, ratC, zC]; done) | (simp [-map_take,-map_drop, push_cast, dV_take, dV_drop, hLr, hLn, k1, k2, k3, k4, k7, k8, s1, ptC, ratC, zC]; omega)
    repeat' (first
      | with_reducible refine W_drawn mixed (by decide) (by kernel_rfl) ?_
      | (rw [vcnD]; (try simp [-map_take,-map_drop, push_cast, ht1, hLl, c1, c2]))
      | refine And.intro (by first | omega | kernel_rfl) ?_
      | fail)
    refine callD_of (qA) rfl rfl rfl ?_
    try dsimp only
    repeat' (first
      | (rw [vcnD]; (try simp [-map_take,-map_drop, push_cast, ht2, hLl, c1, c2]); try simp (disch := omega) only [i64_in, u64_in, shr64i])
      | refine And.intro (by first | omega | kernel_rfl) ?_
      | fail)
    refine callD_of (qB) rfl rfl rfl ?_
    try dsimp only
    repeat' (first
      | with_reducible first | apply thenW_n | apply blockW_n
      | with_reducible refine W_region (by first | decide | (with_unfolding_all rfl)) ?_
      | (rw [vcn]; (try simp [-map_take,-map_drop, push_cast, DP.av, d3AV, d3C, dC, dpC, numC, ← tens.eq_1, k6]); try simp (disch := omega) only [i64_in, u64_in, shr64i])
      | (rw [vcnD]; (try simp [-map_take,-map_drop, push_cast, DP.av, d3AV, d3C, dC, dpC, numC, ← tens.eq_1, k6]); try simp (disch := omega) only [i64_in, u64_in, shr64i])
      | refine And.intro (by first | omega | kernel_rfl) ?_
      | fail)
    refine loopW_n (i + 2) (fun i => if i = 501 then 51 else i) (by omega) (by omega) ⟨?_, ?_, ?_, ?_, ?_, ?_⟩
    all_goals first | (simp [-map_take,-map_drop, push_cast, dV_take, dV_drop, hLr, hLn, k3, k4, k7, k8, k9, k10, d1, hj1, eS', eD', DP.av, d3AV, d3C, dC, dpC, numC, ← tens.eq_1]; done) | (simp [-map_take,-map_drop, push_cast, dV_take, dV_drop, hLr, hLn, k3, k4, k7, k8, k9, k10, d1, hj1, eS', eD', DP.av, d3AV, d3C, dC, dpC, numC, ← tens.eq_1]; omega)
  obtain ⟨j, hj⟩ : ∃ j, j = i / 2 := ⟨_, rfl⟩
  have hij : i = 2 * j := by omega
  simp only [← hj]
  refine W_frz 500 (e := 62) (l := SN j) (by simp [-map_take,-map_drop, mkS_box, lk]) (hSr j) ?_
  refine W_frz 501 (e := 34) (l := DN j) (by simp [-map_take,-map_drop, upd, mkS_box, lk]) (hDr j) ?_
  obtain ⟨a, b, c, d, hN⟩ := boxN_four (dpsN l j) (dpsN l j).length
  have e1 := snapBox_ok false (segsN l j) (hsall j) (by rw [hlen]; omega)
  have e2 := box18_ok false (dpsN l j) (fun p hp => (hall j p hp).1) (fun p hp => by have := (hall j p hp).2; omega) (by rw [hdlen]; omega) hN
  have key := fun h0 => box_plain (segsN l j) (dpsN l j) (hv j) (fun p hp => (hall j p hp).1) h0 hN
  rw [hlen, eS] at e1
  rw [hdlen, eD, ← hij] at e2
  have hSt : (SN j).take (j * 16) = SN j := List.take_of_length_le (by rw [hSl]; omega)
  have hDt : (DN j).take (i * 6) = DN j := List.take_of_length_le (by rw [hDl]; omega)
  have hSl' := hSl j
  have hDl' := hDl j
  rw [← hij] at hDl'
  have k1 := hSr j
  have k2 := hSn j
  have k3 := hDr j
  have k4 := hDn j
  obtain ⟨S, nm_⟩ : ∃ nm0_, nm0_ = SN j := ⟨_, rfl⟩
  simp only [← nm_] at e1 hSt hSl' k1 k2 ⊢
  clear nm_
  obtain ⟨D, nm_⟩ : ∃ nm0_, nm0_ = DN j := ⟨_, rfl⟩
  simp only [← nm_] at e2 hDt hDl' k3 k4 ⊢
  clear nm_
  obtain ⟨ok, nm_⟩ : ∃ nm0_, nm0_ = (dpsN l j).all okP := ⟨_, rfl⟩
  simp only [← nm_] at e2 key
  clear nm_
  have hcase : (j = 0 ∧ boxAV (segsN l j) = .tup [.agg (ptI (0, 0)), .agg (ptI (0, 0)), i64V 7]) ∨ (j ≠ 0 ∧ ok = false ∧ boxAV (segsN l j) = .tup [.agg (ptI (0, 0)), .agg (ptI (0, 0)), i64V 26]) ∨ (j ≠ 0 ∧ ok = true ∧ boxAV (segsN l j) = .tup [.agg (ptI (a, b)), .agg (ptI (c, d)), i64V 0]) := by
    by_cases h0 : j = 0
    · refine .inl ⟨h0, ?_⟩
      unfold boxAV
      rw [if_pos (by rw [hlen]; exact h0)]
    · have h1 : segsN l j ≠ [] := fun k => h0 (by rw [← hlen j, k]; rfl)
      obtain ⟨q1, q2⟩ := key h1
      unfold boxAV
      rw [if_neg (by rw [hlen]; exact h0)]
      cases ok with
      | true =>
        obtain ⟨q3, q4⟩ := q1 rfl
        exact .inr (.inr ⟨h0, rfl, by rw [q3, q4]⟩)
      | false =>
        refine .inr (.inl ⟨h0, rfl, ?_⟩)
        rcases q2 rfl with q3 | q3
        · rw [q3]
        · rw [q3]; cases lowG (segsN l j) <;> rfl
  clear key hall hsall hv hlen hdlen hin hSN hDN eS eD hS0 hD0 hSr hSn hDr hDn hSl hDl hS1 hD1 hat hI hN
  rcases hcase with ⟨h0, hb⟩ | ⟨h0, h1, hb⟩ | ⟨h0, h1, hb⟩
  · rw [hb] at e1
    have y1 : (j = 0) = True := eq_true h0
    have y2 : ((j : Int) = 0) = True := eq_true (by omega)
    have y3 : ((j : Int) == 0) = true := beq_iff_eq.2 (by omega)
    repeat' (first
      | with_reducible apply W_seq
      | with_reducible refine W_region (by first | decide | (with_unfolding_all rfl)) ?_
      | (rw [vcn]; (try simp [-map_take,-map_drop, push_cast, hSt, hSl']))
      | fail)
    refine CallG_of (e1) rfl rfl rfl ?_
    try dsimp only
    repeat' (first
      | with_reducible first | apply thenW_n | apply W_seq
      | with_reducible refine W_region (by first | decide | (with_unfolding_all rfl)) ?_
      | (rw [vcn]; (try simp [-map_take,-map_drop, push_cast, hDt, hDl', ptI]))
      | fail)
    refine CallG_of (e2) rfl rfl rfl ?_
    try dsimp only
    repeat' (first
      | with_reducible first | apply thenW_n | apply W_seq
      | with_reducible refine W_region (by first | decide | (with_unfolding_all rfl)) ?_
      | (rw [vcn]; (try simp [-map_take,-map_drop, push_cast, ptI]))
      | fail)
    refine CallG_of (known18_ok) rfl rfl rfl ?_
    try dsimp only
    repeat' (first
      | with_reducible first | apply thenW_n | apply thenW_ret | apply W_seq | apply W_skip | apply W_ret
      | with_reducible refine W_region (by first | decide | (with_unfolding_all rfl)) ?_
      | (rw [vcn]; (try simp [-map_take,-map_drop, push_cast, y1, y2, y3, hSt, hSl', eqPt, ptI]))
      | (with_reducible refine W_condW ?_; (try simp [-map_take,-map_drop, AS.val, upd, resB, mkS_env, mkS_box, lk, entry_env, condW_true, condW_false, y1, y2, y3, hSt, hSl', eqPt, ptI]))
      | fail)
    simp [-map_take,-map_drop, post, resAV, resAll, resOne, closeV, closeC, closeL, resD, resDL, push_cast, eqPt, ptI]
  · rw [hb] at e1
    subst h1
    have y1 : (j = 0) = False := eq_false h0
    have y2 : ((j : Int) = 0) = False := eq_false (by omega)
    have y3 : ((j : Int) == 0) = false := beq_eq_false_iff_ne.2 (by omega)
    repeat' (first
      | with_reducible apply W_seq
      | with_reducible refine W_region (by first | decide | (with_unfolding_all rfl)) ?_
      | (rw [vcn]; (try simp [-map_take,-map_drop, push_cast, hSt, hSl']))
      | fail)
    refine CallG_of (e1) rfl rfl rfl ?_
    try dsimp only
    repeat' (first
      | with_reducible first | apply thenW_n | apply W_seq
      | with_reducible refine W_region (by first | decide | (with_unfolding_all rfl)) ?_
      | (rw [vcn]; (try simp [-map_take,-map_drop, push_cast, hDt, hDl', ptI]))
      | fail)
    refine CallG_of (e2) rfl rfl rfl ?_
    try dsimp only
    repeat' (first
      | with_reducible first | apply thenW_n | apply W_seq
      | with_reducible refine W_region (by first | decide | (with_unfolding_all rfl)) ?_
      | (rw [vcn]; (try simp [-map_take,-map_drop, push_cast, ptI]))
      | fail)
    refine CallG_of (known18_ok) rfl rfl rfl ?_
    try dsimp only
    repeat' (first
      | with_reducible first | apply thenW_n | apply thenW_ret | apply W_seq | apply W_skip | apply W_ret
      | with_reducible refine W_region (by first | decide | (with_unfolding_all rfl)) ?_
      | (rw [vcn]; (try simp [-map_take,-map_drop, push_cast, y1, y2, y3, hSt, hSl', eqPt, ptI]))
      | (with_reducible refine W_condW ?_; (try simp [-map_take,-map_drop, AS.val, upd, resB, mkS_env, mkS_box, lk, entry_env, condW_true, condW_false, y1, y2, y3, hSt, hSl', eqPt, ptI]))
      | fail)
    simp [-map_take,-map_drop, post, resAV, resAll, resOne, closeV, closeC, closeL, resD, resDL, push_cast, eqPt, ptI]
  · rw [hb] at e1
    subst h1
    have y1 : (j = 0) = False := eq_false h0
    have y2 : ((j : Int) = 0) = False := eq_false (by omega)
    have y3 : ((j : Int) == 0) = false := beq_eq_false_iff_ne.2 (by omega)
    repeat' (first
      | with_reducible apply W_seq
      | with_reducible refine W_region (by first | decide | (with_unfolding_all rfl)) ?_
      | (rw [vcn]; (try simp [-map_take,-map_drop, push_cast, hSt, hSl']))
      | fail)
    refine CallG_of (e1) rfl rfl rfl ?_
    try dsimp only
    repeat' (first
      | with_reducible first | apply thenW_n | apply W_seq
      | with_reducible refine W_region (by first | decide | (with_unfolding_all rfl)) ?_
      | (rw [vcn]; (try simp [-map_take,-map_drop, push_cast, hDt, hDl', ptI]))
      | fail)
    refine CallG_of (e2) rfl rfl rfl ?_
    try dsimp only
    repeat' (first
      | with_reducible first | apply thenW_n | apply W_seq
      | with_reducible refine W_region (by first | decide | (with_unfolding_all rfl)) ?_
      | (rw [vcn]; (try simp [-map_take,-map_drop, push_cast, ptI]))
      | fail)
    refine CallG_of (known18_ok) rfl rfl rfl ?_
    try dsimp only
    repeat' (first
      | with_reducible first | apply thenW_n | apply W_seq | apply W_skip | apply W_ret
      | with_reducible refine W_region (by first | decide | (with_unfolding_all rfl)) ?_
      | (rw [vcn]; (try simp [-map_take,-map_drop, push_cast, y1, y2, y3, hSt, hSl', eqPt, ptI]))
      | (with_reducible refine W_condW ?_; (try simp [-map_take,-map_drop, AS.val, upd, resB, mkS_env, mkS_box, lk, entry_env, condW_true, condW_false, y1, y2, y3, hSt, hSl', eqPt, ptI]))
      | fail)
    simp [-map_take,-map_drop, post, resAV, resAll, resOne, closeV, closeC, closeL, resD, resDL, push_cast, eqPt, ptI]
end Go.Fw

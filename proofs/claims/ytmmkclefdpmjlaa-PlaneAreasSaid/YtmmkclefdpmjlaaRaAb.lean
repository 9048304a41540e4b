import Derived.Test.YtmmkclefdpmjlaaRa4b
import Derived.Test.YtmmkclefdpmjlaaRa7b
import Derived.Test.YtmmkclefdpmjlaaP1
import Derived.Test.YtmmkclefdpmjlaaX1b
import Derived.Test.YtmmkclefdpmjlaaW2b
set_option linter.unusedSimpArgs false
set_option linter.unusedVariables false
-- VALS: zAV, zC, ratAV, ratC, ptAV, ptC, sgAV, sgC, dAV, dC, d3AV, d3C, ratD, RD.av, DP.av, dpC, dotAV
namespace Go.Fw
open Go Go.Proofs Go.IntWalk
set_option linter.unusedSimpArgs false
set_option maxRecDepth 100000
set_option maxHeartbeats 20000000
def dtC (a : Int × Int × Int) : List AV := [i64V a.1, i64V a.2.1, i64V a.2.2]
def dtsC (l : List (Int × Int × Int)) : List AV := l.flatMap dtC
theorem dtsC_len (l : List (Int × Int × Int)) : (dtsC l).length = l.length * 3 := by
  induction l with
  | nil => rfl
  | cons x t ih => show (dtC x ++ dtsC t).length = _; rw [List.length_append, ih, List.length_cons]; simp [dtC]; omega
theorem dtsC_refs (l : List (Int × Int × Int)) : refsL (dtsC l) = [] := by
  induction l with
  | nil => rfl
  | cons x t ih => show refsL (dtC x ++ dtsC t) = []; rw [refsL_append, ih]; rfl
theorem dtsC_at (l : List (Int × Int × Int)) (i : Nat) (h : i < l.length) : ∃ t, (dtsC l).drop (i * 3) = i64V l[i].1 :: i64V l[i].2.1 :: i64V l[i].2.2 :: t := by
  induction l generalizing i with
  | nil => cases h
  | cons x r ih =>
    cases i with
    | zero => exact ⟨dtsC r, rfl⟩
    | succ i =>
      obtain ⟨t, ht⟩ := ih i (by simpa using h)
      refine ⟨t, ?_⟩
      have e : (i + 1) * 3 = (dtC x).length + i * 3 := by simp [dtC]; omega
      show (dtC x ++ dtsC r).drop _ = _
      rw [e, List.drop_append, Nat.add_sub_cancel_left, ht, List.drop_eq_nil_of_le (Nat.le_add_right _ _)]
      rfl
def dtF (a : Int × Int × Int) : FP := dotF a.1 a.2.1 a.2.2
def rowF (l : List (Int × Int × Int)) : List FP := l.map dtF
def rowDD (l : List (Int × Int × Int)) : List DP := l.map dotD
theorem rowF_snoc (l : List (Int × Int × Int)) (a : Int × Int × Int) : ptsC (rowF (l ++ [a])) = ptsC (rowF l) ++ ptC (dtF a) := by
  unfold rowF ptsC; rw [List.map_append, List.flatMap_append]; simp
theorem rowDD_snoc (l : List (Int × Int × Int)) (a : Int × Int × Int) : dpsC (rowDD (l ++ [a])) = dpsC (rowDD l) ++ dpC (dotD a) := by
  unfold rowDD dpsC; rw [List.map_append, List.flatMap_append]; simp
theorem DB.dot {a : Int × Int × Int} (h : inD a) : DB (dotD a) := by
  have h1 := h.1
  have h2 := h.2
  have h3 := underI_pos a.2.2
  unfold inI at h1 h2
  refine ⟨?_, ?_, ?_, dotD_w a⟩
  · show a.1.natAbs < 2 ^ 64; omega
  · show a.2.1.natAbs < 2 ^ 64; omega
  · show (underI a.2.2).natAbs < 2 ^ 6; omega
theorem area_same (l : List (Int × Int × Int)) (hI : ∀ a ∈ l, inD a) : (mulD (fanD (rowDD l) (l.length - 2)) ⟨1, 2⟩).q = (areaF (rowF l)).q ∧ 0 < (mulD (fanD (rowDD l) (l.length - 2)) ⟨1, 2⟩).d := by
  have hv : ∀ i, ((rowDD l).getD i nilD).v = ((rowF l).getD i nilF).v := fun i => by
    unfold rowDD rowF
    rw [List.getD_eq_getElem?_getD, List.getD_eq_getElem?_getD, List.getElem?_map, List.getElem?_map]
    cases l[i]? with
    | none =>
      show (⟨Rat.divInt 0 1, Rat.divInt 0 1⟩ : V2) = ⟨0, 0⟩
      rw [Rat.zero_divInt]
    | some a => exact dotD_v a
  have hDB : ∀ p ∈ rowDD l, DB p := fun p hp => by
    obtain ⟨a, ha, rfl⟩ := List.mem_map.1 hp
    exact DB.dot (hI a ha)
  obtain ⟨h1, h2⟩ := fanD_q hDB hv (l.length - 2)
  obtain ⟨h3, h4⟩ := mulD_q (b := ⟨1, 2⟩) h2 (by show (0 : Int) < 2; omega)
  refine ⟨?_, h4⟩
  rw [h3, h1]
  have hl : (rowF l).length = l.length := by unfold rowF; rw [List.length_map]
  have e := areaS_fan (rowF l)
  rw [hl] at e
  show fanT (rowF l) (l.length - 2) * Rat.divInt 1 2 = areaS (rowF l) (List.range (rowF l).length) * Rat.divInt 1 2
  rw [hl, e]
end Go.Fw
-- VALS: zAV, zC, ratAV, ratC, ptAV, ptC, sgAV, sgC, dAV, dC, d3AV, d3C, ratD, RD.av, DP.av, dpC, dotAV
namespace Go.Fw
open Go Go.Proofs Go.IntWalk
set_option linter.unusedSimpArgs false
set_option maxRecDepth 100000
set_option maxHeartbeats 20000000
open List (map_take map_drop)
attribute [local push_cast] optK_some optK_none optK_ite optK_map optK_bind gOn stepK isMem evPure evMem evBin evUn evConv evLen evBuiltin evMinMax evSlice evBuild evAppend evIndex evIndexAddr evField evFieldAddr intBin strBin appDest AS.val AS.mem AS.elems AS.put AS.put' AS.eff AV.cells? AV.isCell AV.refs all_isByte take_byteV drop_byteV strOf_map bndOk bnd partAV ptrAdd killBox catA inOrder fillA setAt ofVal resB upd byteV List.head?_take List.head?_drop List.getElem?_map mkS_env mkS_box mkS_used entry_env entry_box entry_used lk stepD lookIds Oper.looksAt Op.operands Call.operands St.ids refsL renL_append ren renL renBox Box.refs iV i64V boolV dV_getElem dV_app dV_cons toNat_add2 toNat_add1
attribute [local simp ↓] numC_refs numC_isCell numC_cells numC_resB numC_resD numC_ren numC_closeC numC_isOwn
theorem lawAreas_ok (f : Bool) (l : List (Int × Int × Int)) (hI : ∀ a ∈ l, inD a) : Eval Try.prog 3 [.slc f 3 l.length (dtsC l)] (.ret (.v (.bool true))) := by
  refine Eval.intro Try.func3 rfl Try.call3 _ _ (Nat.le_of_ble_eq_true rfl) (by simp [-map_take,-map_drop, AV.refs, refsL, natAV, zAV, zC, ratAV, ratC, ptAV, ptC, sgAV, sgC, dAV, dC, d3AV, d3C, ratD, RD.av, DP.av, dpC, dotAV, push_cast]) fun hs0 => ?_
  obtain ⟨n, hn⟩ : ∃ n, n = l.length := ⟨_, rfl⟩
  obtain ⟨L, hL⟩ : ∃ x, x = dtsC l := ⟨_, rfl⟩
  have hLr : refsL L = [] := by rw [hL]; exact dtsC_refs _
  have hLn : ∀ ρ, renL ρ L = L := fun ρ => renL_id ρ _ hLr
  have hLl : L.length = n * 3 := by rw [hL, hn, dtsC_len]
  have hat : ∀ i (h : i < l.length), ∃ t, L.drop (i * 3) = i64V l[i].1 :: i64V l[i].2.1 :: i64V l[i].2.2 :: t := fun i h => by rw [hL]; exact dtsC_at l i h
  rw [← hL]
  simp only [← hn]
  clear hL hs0
  have hPr : ∀ m, refsL (ptsC (rowF m)) = [] := fun m => ptsC_refs _
  have hPn : ∀ m ρ, renL ρ (ptsC (rowF m)) = ptsC (rowF m) := fun m ρ => renL_id ρ _ (hPr m)
  have hQr : ∀ m, refsL (dpsC (rowDD m)) = [] := fun m => dpsC_refs _
  have hQn : ∀ m ρ, renL ρ (dpsC (rowDD m)) = dpsC (rowDD m) := fun m ρ => renL_id ρ _ (hQr m)
  have hPl : ∀ m, (ptsC (rowF m)).length = m.length * 8 := fun m => by rw [ptsC_len]; unfold rowF; rw [List.length_map]
  have hQl : ∀ m, (dpsC (rowDD m)).length = m.length * 6 := fun m => by rw [dpsC_len]; unfold rowDD; rw [List.length_map]
  have hP0 : ptsC (rowF []) = [] := rfl
  have hQ0 : dpsC (rowDD []) = [] := rfl
  repeat' (first
    | with_reducible first | apply thenW_n | apply W_seq
    | with_reducible refine W_rg ?_
    | (rw [vcn]; (try simp [-map_take,-map_drop, push_cast]))
    | fail)
  refine W_joinQ (X := Nat) (fun i => [(3, .bs 500 8 0 i), (4, .bs 501 6 0 i)]) (fun i => [(500, .mut 33 (ptsC (rowF (l.take i)))), (501, .mut 43 (dpsC (rowDD (l.take i))))]) (fun i => i ≤ n ∧ i ≤ 40) ?_ fun i hi => ?_
  · refine W_nil 3 500 33 8 (by simp [-map_take,-map_drop, upd, mkS_env, entry_env, lk]) (by simp [-map_take,-map_drop, mkS_used, entry_used]) ?_
    refine W_nil 4 501 43 6 (by simp [-map_take,-map_drop, upd, mkS_env, entry_env, lk]) (by simp [-map_take,-map_drop, mkS_used, entry_used]) ?_
    repeat' (first
      | with_reducible apply W_block
      | fail)
    refine W_loopW (X := Nat) (fun i => [(0, .slc f 3 n L), (3, .bs 500 8 0 i), (4, .bs 501 6 0 i), (5, i64V i)]) (fun i => [(500, .mut 33 (ptsC (rowF (l.take i)))), (501, .mut 43 (dpsC (rowDD (l.take i))))]) (fun i => 50 - i)
      (fun i => i ≤ n ∧ i ≤ 40) 0 id (by omega) ⟨?_, ?_, ?_, ?_, ?_, ?_⟩ fun i hi => ?_
    all_goals first | (with_reducible refine W_id ?_) | (simp [-map_take,-map_drop, push_cast, dV_take, dV_drop, hLr, hLn, hP0, hQ0, List.take_zero]; done)
    have k1 := hPr (l.take i)
    have k2 := hPn (l.take i)
    have k3 := hQr (l.take i)
    have k4 := hQn (l.take i)
    by_cases c1 : ¬ i < n
    · have y1 : (i < n) = False := eq_false c1
      have y2 : ((i : Int) < (n : Int)) = False := eq_false (by omega)
      repeat' (first
        | with_reducible first | apply thenW_n | apply thenW_exit | apply blockW_same | apply loopW_exit | apply W_seq | apply W_exit
        | with_reducible refine W_rg ?_
        | (rw [vcn]; (try simp [-map_take,-map_drop, push_cast, y1, y2]))
        | (with_reducible refine W_condW ?_; (try simp [-map_take,-map_drop, AS.val, upd, resB, mkS_env, mkS_box, lk, entry_env, condW_true, condW_false, y1, y2]))
        | fail)
      refine joinW_n i id hi ⟨?_, ?_, ?_, ?_, ?_, ?_⟩
      all_goals first | (simp [-map_take,-map_drop, push_cast, dV_take, dV_drop, k1, k2, k3, k4]; done)
    have c1 : i < n := by omega
    have y1 : (i < n) = True := eq_true c1
    have y2 : ((i : Int) < (n : Int)) = True := eq_true (by omega)
    by_cases c2 : ¬ i < 40
    · have y3 : (i < 40) = False := eq_false c2
      have y4 : ((i : Int) < 40) = False := eq_false (by omega)
      repeat' (first
        | with_reducible first | apply thenW_n | apply thenW_exit | apply blockW_same | apply loopW_exit | apply W_seq | apply W_exit
        | with_reducible refine W_rg ?_
        | (rw [vcn]; (try simp [-map_take,-map_drop, push_cast, y1, y2, y3, y4]))
        | (with_reducible refine W_condW ?_; (try simp [-map_take,-map_drop, AS.val, upd, resB, mkS_env, mkS_box, lk, entry_env, condW_true, condW_false, y1, y2, y3, y4]))
        | fail)
      refine joinW_n i id hi ⟨?_, ?_, ?_, ?_, ?_, ?_⟩
      all_goals first | (simp [-map_take,-map_drop, push_cast, dV_take, dV_drop, k1, k2, k3, k4]; done)
    have c2 : i < 40 := by omega
    have y3 : (i < 40) = True := eq_true c2
    have y4 : ((i : Int) < 40) = True := eq_true (by omega)
    have hil : i < l.length := by omega
    obtain ⟨t1, ht1⟩ := hat i hil
    have hA := hI _ (List.getElem_mem hil)
    have htk : l.take (i + 1) = l.take i ++ [l[i]] := List.take_succ_eq_append_getElem hil
    have s1 := rowF_snoc (l.take i) l[i]
    have d1 := rowDD_snoc (l.take i) l[i]
    rw [← htk] at s1 d1
    have k5 := hPl (l.take i)
    have k6 := hQl (l.take i)
    rw [List.length_take, Nat.min_eq_left (by omega)] at k5 k6
    have k7 := hPr (l.take (i + 1))
    have k8 := hPn (l.take (i + 1))
    have k9 := hQr (l.take (i + 1))
    have k10 := hQn (l.take (i + 1))
    obtain ⟨A, eA⟩ : ∃ A, A = l[i] := ⟨_, rfl⟩
    rw [← eA] at ht1 hA s1 d1
    have pA := l11At_ok' A hA
    have qA := at11_ok' A hA
    have hdt : dtF A = dotF A.1 A.2.1 A.2.2 := rfl
    rw [hdt] at s1
    obtain ⟨S, hS⟩ : ∃ S, S = ptsC (rowF (l.take i)) := ⟨_, rfl⟩
    obtain ⟨S', hS'⟩ : ∃ S, S = ptsC (rowF (l.take (i + 1))) := ⟨_, rfl⟩
    obtain ⟨D, hD⟩ : ∃ S, S = dpsC (rowDD (l.take i)) := ⟨_, rfl⟩
    obtain ⟨D', hD'⟩ : ∃ S, S = dpsC (rowDD (l.take (i + 1))) := ⟨_, rfl⟩
    simp only [← hS, ← hS', ← hD, ← hD'] at s1 d1 k1 k2 k3 k4 k5 k6 k7 k8 k9 k10 ⊢
    have eS' := hS'.symm
    have eD' := hD'.symm
    obtain ⟨PA, nm_⟩ : ∃ nm0_, nm0_ = dotF A.1 A.2.1 A.2.2 := ⟨_, rfl⟩
    simp only [← nm_] at pA s1
    clear nm_
    obtain ⟨QA, nm_⟩ : ∃ nm0_, nm0_ = dotD A := ⟨_, rfl⟩
    simp only [← nm_] at qA d1
    clear nm_
    unfold dotAV at pA qA
    obtain ⟨a0, a1, a2⟩ := A
    simp only at ht1 pA qA
    clear hS hS' hD hD' eA hat htk hdt hPr hPn hQr hQn hPl hQl hP0 hQ0
    repeat' (first
      | with_reducible first | apply thenW_n | apply W_seq | apply W_skip
      | with_reducible refine W_rg ?_
      | (rw [vcn]; (try simp [-map_take,-map_drop, push_cast, y1, y2, y3, y4]))
      | (with_reducible refine W_condW ?_; (try simp [-map_take,-map_drop, AS.val, upd, resB, mkS_env, mkS_box, lk, entry_env, condW_true, condW_false, y1, y2, y3, y4]))
      | fail)
    refine W_block ?_
    refine W_seq ?_
    refine W_joinQ (X := Unit) (fun _ => [(0, .slc f 3 n L), (3, .bs 500 8 0 (i + 1)), (4, .bs 501 6 0 i), (5, i64V i)]) (fun _ => [(500, .mut 33 S'), (501, .mut 43 D)]) (fun _ => True) ?_ fun _ _ => ?_
    · repeat' (first
        | with_reducible refine W_rg ?_
        | (rw [vcn]; (try simp [-map_take,-map_drop, push_cast, ht1, hLl, c1, c2]))
        | fail)
      refine CallG_of (pA) rfl rfl rfl ?_
      try dsimp only
      repeat' (first
        | (rw [vcn]; (try simp [-map_take,-map_drop, push_cast, ptAV, ptC, ratC, zC, k5]))
        | refine And.intro (by first | omega | kernel_rfl) ?_
        | fail)
      refine joinW_n () (fun i => if i = 500 then 23 else i) trivial ⟨?_, ?_, ?_, ?_, ?_, ?_⟩
      all_goals first | (simp [-map_take,-map_drop, push_cast, dV_take, dV_drop, hLr, hLn, k1, k2, k3, k4, k7, k8, s1, ptC, ratC, zC]; done) | (simp [-map_take,-map_drop, push_cast, dV_take, dV_drop, hLr, hLn, k1, k2, k3, k4, k7, k8, s1, ptC, ratC, zC]; omega)
    repeat' (first
      | with_reducible refine W_rg ?_
      | (rw [vcn]; (try simp [-map_take,-map_drop, push_cast, ht1, hLl, c1, c2]))
      | fail)
    refine CallG_of (qA) rfl rfl rfl ?_
    try dsimp only
    repeat' (first
      | with_reducible first | apply thenW_n | apply blockW_n
      | with_reducible refine W_rg ?_
      | (rw [vcn]; (try simp [-map_take,-map_drop, push_cast, DP.av, d3AV, d3C, dC, dpC, numC, ← tens.eq_1, k6]); try simp (disch := omega) only [i64_in, u64_in, shr64i])
      | refine And.intro (by first | omega | kernel_rfl) ?_
      | fail)
    refine loopW_n (i + 1) (fun i => if i = 501 then 31 else i) (by omega) (by omega) ⟨?_, ?_, ?_, ?_, ?_, ?_⟩
    all_goals first | (simp [-map_take,-map_drop, push_cast, dV_take, dV_drop, hLr, hLn, k3, k4, k7, k8, k9, k10, d1, eS', eD', DP.av, d3AV, d3C, dC, dpC, numC, ← tens.eq_1]; done) | (simp [-map_take,-map_drop, push_cast, dV_take, dV_drop, hLr, hLn, k3, k4, k7, k8, k9, k10, d1, eS', eD', DP.av, d3AV, d3C, dC, dpC, numC, ← tens.eq_1]; omega)
  obtain ⟨m, hm⟩ : ∃ m, m = l.take i := ⟨_, rfl⟩
  have hml : m.length = i := by rw [hm, List.length_take]; omega
  have hIm : ∀ a ∈ m, inD a := fun a ha => hI a (List.mem_of_mem_take (by rw [← hm]; exact ha))
  simp only [← hm]
  refine W_frz 500 (e := 33) (l := ptsC (rowF m)) (by simp [-map_take,-map_drop, mkS_box, lk]) (hPr m) ?_
  refine W_frz 501 (e := 43) (l := dpsC (rowDD m)) (by simp [-map_take,-map_drop, upd, mkS_box, lk]) (hQr m) ?_
  have hFl : (rowF m).length = i := by unfold rowF; rw [List.length_map, hml]
  have hDl : (rowDD m).length = i := by unfold rowDD; rw [List.length_map, hml]
  have hHD : ∀ p ∈ rowF m, HD p := fun p hp => by
    obtain ⟨a, ha, rfl⟩ := List.mem_map.1 hp
    exact HD.dot (hIm a ha)
  have hDB : ∀ p ∈ rowDD m, DB p := fun p hp => by
    obtain ⟨a, ha, rfl⟩ := List.mem_map.1 hp
    exact DB.dot (hIm a ha)
  have e1 := area_ok false (rowF m) (by omega) hHD
  have e2 := area11_ok false (rowDD m) (by omega) hDB
  rw [hFl] at e1
  rw [hDl] at e2
  obtain ⟨a1, a2⟩ := area_same m hIm
  rw [hml] at a1 a2
  have b1 := (areaS_sz hHD (List.range (rowF m).length))
  have b2 := (b1.mul (show HB (Rat.divInt 1 2) 2 3 from ⟨by decide +kernel, by decide +kernel⟩)).sz
  rw [List.length_range, hFl] at b2
  have e3 := fracText_ok (areaF (rowF m)) (by show szQ (areaS (rowF m) (List.range (rowF m).length) * Rat.divInt 1 2) ≤ _; rw [hFl] at *; omega)
  have c1 := (fanD_bits hDB (i - 2)).sz
  have c2 := mulD_sz (fanD (rowDD m) (i - 2)) ⟨1, 2⟩
  have c3 : szR ⟨1, 2⟩ ≤ 4 := by decide +kernel
  have c4 : szR (mulD (fanD (rowDD m) (i - 2)) ⟨1, 2⟩) ≤ 1000000 := by omega
  have e4 := textQ_ok _ _ _ a2 ((mulD (fanD (rowDD m) (i - 2)) ⟨1, 2⟩).hn a2) c4
  rw [a1] at e4
  have tS : (ptsC (rowF m)).take (i * 8) = ptsC (rowF m) := List.take_of_length_le (by rw [hPl, hml]; omega)
  have tD : (dpsC (rowDD m)).take (i * 6) = dpsC (rowDD m) := List.take_of_length_le (by rw [hQl, hml]; omega)
  have lS := hPl m
  have lD := hQl m
  rw [hml] at lS lD
  have k1 := hPr m
  have k2 := hPn m
  have k3 := hQr m
  have k4 := hQn m
  obtain ⟨S, nm_⟩ : ∃ nm0_, nm0_ = ptsC (rowF m) := ⟨_, rfl⟩
  simp only [← nm_] at e1 tS lS k1 k2 ⊢
  clear nm_
  obtain ⟨D, nm_⟩ : ∃ nm0_, nm0_ = dpsC (rowDD m) := ⟨_, rfl⟩
  simp only [← nm_] at e2 tD lD k3 k4 ⊢
  clear nm_
  obtain ⟨T, nm_⟩ : ∃ nm0_, nm0_ = ratText (areaF (rowF m)).q := ⟨_, rfl⟩
  simp only [← nm_] at e3 e4
  clear nm_
  obtain ⟨U, nm_⟩ : ∃ nm0_, nm0_ = areaF (rowF m) := ⟨_, rfl⟩
  simp only [← nm_] at e1 e3
  clear nm_
  obtain ⟨V, nm_⟩ : ∃ nm0_, nm0_ = mulD (fanD (rowDD m) (i - 2)) ⟨1, 2⟩ := ⟨_, rfl⟩
  simp only [← nm_] at e2 e4
  clear nm_
  clear a1 a2 b1 b2 c1 c2 c3 c4 hHD hDB hFl hDl hIm hml hm hPr hPn hQr hQn hPl hQl hP0 hQ0 hat hI
  repeat' (first
    | with_reducible apply W_seq
    | with_reducible refine W_rg ?_
    | (rw [vcn]; (try simp [-map_take,-map_drop, push_cast]))
    | fail)
  refine CallG_of (known11_ok) rfl rfl rfl ?_
  try dsimp only
  repeat' (first
    | (rw [vcn]; (try simp [-map_take,-map_drop, push_cast, tS, lS]))
    | fail)
  refine CallG_of (e1) rfl rfl rfl ?_
  try dsimp only
  repeat' (first
    | (rw [vcn]; (try simp [-map_take,-map_drop, push_cast, tS, lS, ratAV, ratC, zC]))
    | fail)
  refine CallG_of (e3) rfl rfl rfl ?_
  try dsimp only
  repeat' (first
    | (rw [vcn]; (try simp [-map_take,-map_drop, push_cast, tD, lD, strD]))
    | fail)
  refine CallG_of (e2) rfl rfl rfl ?_
  try dsimp only
  repeat' (first
    | (rw [vcn]; (try simp [-map_take,-map_drop, push_cast, tD, lD, RD.av, ratD, dC, rC, numC, ← tens.eq_1, dAV]))
    | fail)
  refine CallG_of (e4) rfl rfl rfl ?_
  try dsimp only
  repeat' (first
    | with_reducible first | apply thenW_n | apply W_ret
    | (rw [vcn]; (try simp [-map_take,-map_drop, push_cast, strD]))
    | fail)
  simp [-map_take,-map_drop, post, resAV, resAll, resOne, closeV, closeC, closeL, resD, resDL, push_cast, strD]
end Go.Fw

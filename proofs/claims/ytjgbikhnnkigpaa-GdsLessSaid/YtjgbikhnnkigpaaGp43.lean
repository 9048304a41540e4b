/- gds: the law GdsLess. -/
import Derived.Test.YtjgbikhnnkigpaaGp42
import Derived.Test.YtjgbikhnnkigpaaGp37
set_option linter.unusedSimpArgs false
set_option linter.unusedVariables false
-- VALS: recAV
namespace Go.Fw
open Go Go.Proofs Go.IntWalk
set_option linter.unusedSimpArgs false
set_option maxRecDepth 100000
set_option maxHeartbeats 4000000
open List (map_take map_drop)
attribute [local push_cast] optK_some optK_none optK_ite optK_map optK_bind gOn stepK isMem evPure evMem evBin evUn evConv evLen evBuiltin evMinMax evSlice evBuild evAppend evIndex evIndexAddr evField evFieldAddr intBin strBin appDest AS.val AS.mem AS.elems AS.put AS.put' AS.eff AV.cells? AV.isCell AV.refs all_isByte take_byteV drop_byteV strOf_map bndOk bnd partAV ptrAdd killBox catA inOrder fillA setAt ofVal resB upd byteV List.head?_take List.head?_drop List.getElem?_map mkS_env mkS_box mkS_used entry_env entry_box entry_used lk stepD lookIds Oper.looksAt Op.operands Call.operands St.ids refsL renL_append dV_take dV_drop ren renL renBox Box.refs iV i64V boolV dV_getElem dV_app dV_cons toNat_add2 toNat_add1
def lessF (L : List Rec) (k : Nat) (tw : Bool) : Nat → List Rec
 | 0 => []
 | i + 1 => lessF L k tw i ++ (if i ≠ k then (L.drop i).take 1 else if tw = true then (L.drop i).take 1 ++ (L.drop i).take 1 else [])
theorem one_at (L : List Rec) (i : Nat) (h : i < L.length) : (L.drop i).take 1 = [L[i]] := by
 rw [List.drop_eq_getElem_cons h]
 rfl
theorem lessF_len (L : List Rec) (k : Nat) (tw : Bool) : ∀ i, (lessF L k tw i).length ≤ 2 * i
 | 0 => Nat.le_refl _
 | i + 1 => by
  have ih := lessF_len L k tw i
  have h1 : ((L.drop i).take 1).length ≤ 1 := by rw [List.length_take]; omega
  rw [lessF, List.length_append]
  split
  · omega
  ·
   split
   · rw [List.length_append]; omega
   · simp; omega
theorem lessF_bsum (L : List Rec) (k : Nat) (tw : Bool) : ∀ i, i ≤ L.length → bsum (lessF L k tw i) ≤ 2 * bsum (L.take i)
 | 0, _ => by simp [lessF, bsum]
 | i + 1, h => by
  have ih := lessF_bsum L k tw i (by omega)
  have h1 := bsum_step L i (by omega)
  have h2 : bsum [L[i]] = min L[i].2.2.length 100000 := by simp [bsum]
  rw [lessF, bsum_app, one_at L i (by omega)]
  split
  · omega
  ·
   split
   · rw [bsum_app]; omega
   · simp only [bsum]; omega
theorem lawLess_ok (t : Lib) (hfit : LibFit t) (x : Int) (tw : Bool) : Eval Try.prog 13 [libAV t, i64V x, .v (.bool tw)] (.ret (.v (.bool true))) := by
 have hfw := few7_ok t hfit
 have hk := known_ok
 have hlaw := fun h => few_law (t := t) h
 have hff := fit_flat hfit
 have hF := fun h => records_ok t.1 t.2 h (fun r hr => hff r hr)
 obtain ⟨fw, hfwe⟩ : ∃ b, b = fewS t := ⟨_, rfl⟩
 rw [← hfwe] at hfw hlaw
 clear hfwe hfit
 obtain ⟨L, hL⟩ : ∃ L, L = flatS t := ⟨_, rfl⟩
 have hLe : (t.1, t.2) = t := rfl
 rw [hLe] at hF
 have hLp : 1 ≤ L.length := by rw [hL]; simp [flatS]; omega
 rw [← hL] at hlaw hF hff
 clear hL
 obtain ⟨H, cs⟩ := t
 obtain ⟨A, hA⟩ : ∃ A, A = recsCells H := ⟨_, rfl⟩
 obtain ⟨B, hB⟩ : ∃ A, A = cellsCells cs := ⟨_, rfl⟩
 have hAr : refsL A = [] := by rw [hA]; exact recsCells_refs _
 have hBr : refsL B = [] := by rw [hB]; exact cellsCells_refs _
 simp only [libAV, rowsAV, cellsAV, ← hA, ← hB] at hfw hF ⊢
 clear hA hB
 refine Eval.intro Try.func13 rfl Try.call13 _ _ (Nat.le_of_ble_eq_true rfl) (by simp [natAV, recAV, push_cast]) fun hs0 => ?_
 clear hs0
 refine W_seq ?_
 refine W_joinQ (X := Unit) (fun _ => [(1, i64V x), (2, .v (.bool tw)), (3, .bp 3 0)]) (fun _ => [(3, .mut 58 [.slc false 3 H.length A, .slc false 2 cs.length B])]) (fun _ => True) ?_ fun _ _ => ?_
 ·
  repeat' (first
   | with_reducible refine W_rg ?_
   | (rw [vcn]; (try simp [push_cast]))
   | fail)
  refine joinW_n () id trivial ⟨?_, ?_, ?_, ?_, ?_, ?_⟩
  all_goals first | (simp [push_cast, hAr, hBr]; done)
 cases fw with
 | false =>
  repeat' (first
   | with_reducible apply W_seq
   | with_reducible refine W_rg ?_
   | (rw [vcn]; (try simp [push_cast]))
   | fail)
  refine CallG_of (hfw) rfl rfl rfl ?_
  try dsimp only
  repeat' (first
   | with_reducible first | apply thenW_n | apply W_seq
   | with_reducible refine W_rg ?_
   | (rw [vcn]; (try simp [push_cast]))
   | (with_reducible refine W_condW ?_; (try simp [AS.val, upd, resB, mkS_env, mkS_box, lk, entry_env, condW_true, condW_false]))
   | fail)
  refine CallG_of (hk) rfl rfl rfl ?_
  try dsimp only
  repeat' (first
   | with_reducible first | apply thenW_n | apply thenW_ret | apply W_ret
   | (rw [vcn]; (try simp [push_cast]))
   | fail)
  simp [post, resAV, resAll, resOne, closeV, closeC, closeL, resD, resDL, push_cast]
 | true =>
 obtain ⟨hl1, hl2⟩ := hlaw rfl
 have hF := hF (by omega)
 have hat := recsCells_at L
 have hCl := recsCells_len L
 have hLbody := hff
 obtain ⟨C, hC⟩ : ∃ C, C = recsCells L := ⟨_, rfl⟩
 have hCr : refsL C = [] := by rw [hC]; exact recsCells_refs _
 obtain ⟨n, hn⟩ : ∃ n, n = L.length := ⟨_, rfl⟩
 simp only [← hC, ← hn] at hF hat hCl hl1 hLp
 refine W_seq ?_
 refine W_joinQ (X := Unit) (fun _ => [(1, i64V x), (2, .v (.bool tw)), (3, .bp 3 0)]) (fun _ => [(3, .mut 58 [.slc false 3 H.length A, .slc false 2 cs.length B])]) (fun _ => True) ?_ fun _ _ => ?_
 ·
  repeat' (first
   | with_reducible apply W_seq
   | with_reducible refine W_rg ?_
   | (rw [vcn]; (try simp [push_cast]))
   | fail)
  refine CallG_of (hfw) rfl rfl rfl ?_
  try dsimp only
  repeat' (first
   | with_reducible first | apply thenW_n | apply W_skip
   | (rw [vcn]; (try simp [push_cast]))
   | (with_reducible refine W_condW ?_; (try simp [AS.val, upd, resB, mkS_env, mkS_box, lk, entry_env, condW_true, condW_false]))
   | fail)
  refine joinW_n () id trivial ⟨?_, ?_, ?_, ?_, ?_, ?_⟩
  all_goals first | (simp [push_cast, hAr, hBr]; done)
 refine W_seq ?_
 refine W_joinQ (X := Unit) (fun _ => [(1, i64V x), (2, .v (.bool tw)), (7, .slc false 3 n C)]) (fun _ => []) (fun _ => True) ?_ fun _ _ => ?_
 ·
  repeat' (first
   | with_reducible refine W_rg ?_
   | (rw [vcn]; (try simp [push_cast]))
   | fail)
  refine CallG_of (hF) rfl rfl rfl ?_
  try dsimp only
  repeat' (first
   | (rw [vcn]; (try simp [push_cast]))
   | fail)
  refine joinW_n () id trivial ⟨?_, ?_, ?_, ?_, ?_, ?_⟩
  all_goals first | (simp [push_cast, hCr]; done)
 obtain ⟨k, hk1, hk9⟩ : ∃ k : Nat, (IntKind.u64.wrap x).tmod (n : Int) = (k : Int) ∧ k < n := by
  have h := wrap_u64' x
  have h0 : 0 ≤ IntKind.u64.wrap x := by rw [h]; omega
  rw [Int.tmod_eq_emod_of_nonneg h0]
  have h1 := Int.emod_nonneg (IntKind.u64.wrap x) (b := (n : Int)) (by omega)
  have h2 := Int.emod_lt_of_pos (IntKind.u64.wrap x) (b := (n : Int)) (by omega)
  exact ⟨((IntKind.u64.wrap x) % (n : Int)).toNat, by omega, by omega⟩
 have hkw : IntKind.i64.wrap ((k : Int)) = (k : Int) := by rw [i64_in _ (by omega)]
 have hnw : IntKind.u64.wrap ((n : Int)) = (n : Int) := by rw [u64_in _ (by omega)]
 have hn0 : ((n : Int) = 0) = False := eq_false (by omega)
 have hn0' : (n = 0) = False := eq_false (by omega)
 refine W_seq ?_
 refine W_joinQ (X := Unit) (fun _ => [(2, .v (.bool tw)), (7, .slc false 3 n C), (8, i64V (k : Int))]) (fun _ => []) (fun _ => True) ?_ fun _ _ => ?_
 ·
  repeat' (first
   | with_reducible refine W_rg ?_
   | (rw [vcn]; (try simp [push_cast, hkw, hnw, hn0, hn0', hk1]))
   | fail)
  refine joinW_n () id trivial ⟨?_, ?_, ?_, ?_, ?_, ?_⟩
  all_goals first | (simp [push_cast, hCr]; done)
 clear hk1 hkw hnw hn0 hn0'
 refine W_seq ?_
 refine W_joinQ (X := Unit) (fun _ => [(2, .v (.bool tw)), (7, .slc false 3 n C), (8, i64V (k : Int)), (9, .v (.slice none 0 0))]) (fun _ => []) (fun _ => True) ?_ fun _ _ => ?_
 ·
  repeat' (first
   | with_reducible refine W_rg ?_
   | (rw [vcn]; (try simp [push_cast]))
   | fail)
  refine joinW_n () id trivial ⟨?_, ?_, ?_, ?_, ?_, ?_⟩
  all_goals first | (simp [push_cast, hCr]; done)
 obtain ⟨T, hT⟩ : ∃ T : Nat → List AV, T = fun i => recsCells (lessF L k tw i) := ⟨_, rfl⟩
 obtain ⟨Z, hZ⟩ : ∃ Z : Nat → Nat, Z = fun i => (lessF L k tw i).length := ⟨_, rfl⟩
 have hTr : ∀ i, refsL (T i) = [] := fun i => by rw [hT]; exact recsCells_refs _
 have hTn : ∀ ρ i, renL ρ (T i) = T i := fun ρ i => renL_id ρ _ (hTr i)
 have hTl : ∀ i, (T i).length = Z i * 3 := fun i => by rw [hT, hZ]; exact recsCells_len _
 have hZl : ∀ i, Z i ≤ 2 * i := fun i => by rw [hZ]; exact lessF_len _ _ _ _
 have hT0 : T 0 = [] := by rw [hT]; rfl
 have hZ0 : Z 0 = 0 := by rw [hZ]; rfl
 have step : ∀ i, i < n → ∃ (rk rd : UInt8) (lb : Nat) (bb : List AV) (t : List AV), C.drop (i * 3) = byteV rk :: byteV rd :: .slc false 1 lb bb :: t ∧ refsL bb = [] ∧
   (i ≠ k → T (i + 1) = T i ++ [byteV rk, byteV rd, .slc false 1 lb bb] ∧ Z (i + 1) = Z i + 1) ∧
   (i = k → tw = true → T (i + 1) = T i ++ [byteV rk, byteV rd, .slc false 1 lb bb] ++ [byteV rk, byteV rd, .slc false 1 lb bb] ∧ Z (i + 1) = Z i + 1 + 1) ∧
   (i = k → tw = false → T (i + 1) = T i ∧ Z (i + 1) = Z i) := fun i hi => by
  obtain ⟨t, ht⟩ := hat i hi
  have hone := one_at L i (by omega)
  obtain ⟨r, hr⟩ : ∃ r, r = L[i]'(by omega) := ⟨_, rfl⟩
  rw [← hr] at ht hone
  obtain ⟨rk, rd, rb⟩ := r
  refine ⟨rk, rd, rb.length, rb.map byteV, t, ht, refsL_bytes _, fun h => ?_, fun h h2 => ?_, fun h h2 => ?_⟩
  ·
   rw [hT, hZ]
   simp only [lessF]
   rw [if_pos h, hone]
   exact ⟨(recsCells_snoc _ _ _ _).symm, by simp⟩
  ·
   rw [hT, hZ]
   simp only [lessF]
   rw [if_neg (fun e => e h), if_pos h2, hone]
   refine ⟨?_, by simp⟩
   rw [recsCells_snoc, recsCells_snoc]
   simp
  ·
   rw [hT, hZ]
   simp only [lessF]
   rw [if_neg (fun e => e h), if_neg (by simp [h2]), List.append_nil]
   exact ⟨rfl, rfl⟩
 have hfinT : T n = recsCells (lessF L k tw n) := by rw [hT]
 have hfinZ : Z n = (lessF L k tw n).length := by rw [hZ]
 clear hT hZ hat hF hfw
 refine W_seq ?_
 refine W_joinQ (X := Unit) (fun _ => [(9, .bs 500 3 0 (Z n))]) (fun _ => [(500, .mut 24 (T n))]) (fun _ => True) ?_ fun _ _ => ?_
 ·
  refine W_seq ?_
  refine W_joinQ (X := Unit) (fun _ => [(2, .v (.bool tw)), (7, .slc false 3 n C), (8, i64V (k : Int)), (9, .v (.slice none 0 0)), (10, i64V 0)]) (fun _ => []) (fun _ => True) ?_ fun _ _ => ?_
  ·
   repeat' (first
    | with_reducible refine W_rg ?_
    | (rw [vcn]; (try simp [push_cast]))
    | fail)
   refine joinW_n () id trivial ⟨?_, ?_, ?_, ?_, ?_, ?_⟩
   all_goals first | (simp [push_cast, hCr]; done)
  refine W_nil 9 500 24 3 (by simp [upd, mkS_env, lk]) (by simp [mkS_used]) ?_
  refine W_block ?_
  refine W_loopW (X := Nat) (fun i => [(2, .v (.bool tw)), (7, .slc false 3 n C), (8, i64V (k : Int)), (9, .bs 500 3 0 (Z i)), (10, i64V (i : Int))]) (fun i => [(500, .mut 24 (T i))]) (fun i => n - i) (fun i => i ≤ n) 0 id (Nat.zero_le _) ⟨?_, ?_, ?_, ?_, ?_, ?_⟩ fun i hi => ?_
  all_goals first | (with_reducible refine W_id ?_) | (simp [push_cast, hCr, hTr, hTn, hT0, hZ0]; done)
  by_cases hlt : i < n
  ·
   have g1 : (i < n) = True := eq_true hlt
   have g1' : ((i : Int) < (n : Int)) = True := eq_true (by omega)
   obtain ⟨rk, rd, lb, bb, t, ht, hbr, hs1, hs2, hs3⟩ := step i hlt
   have htl := congrArg List.length ht
   rw [List.length_drop, hCl] at htl
   simp only [List.length_cons] at htl
   have hTil := hTl i
   have hZil := hZl i
   have hbn : ∀ ρ, renL ρ bb = bb := fun ρ => renL_id ρ _ hbr
   have hwi : IntKind.i64.wrap ((i : Int) + 1) = ((i + 1 : Nat) : Int) := by rw [i64_in _ (by omega)]; omega
   obtain ⟨i', hi'⟩ : ∃ q, q = i + 1 := ⟨_, rfl⟩
   rw [← hi'] at hwi hs1 hs2 hs3
   by_cases hik : i = k
   ·
    have g2 : (i = k) = True := eq_true hik
    have g2' : ((i : Int) = (k : Int)) = True := eq_true (by omega)
    have g2'' : ((i : Int) == (k : Int)) = true := by rw [beq_iff_eq]; omega
    have g3 : ((i : Int) != (k : Int)) = false := by rw [bne_eq_false_iff_eq]; omega
    cases tw with
    | true =>
     obtain ⟨e1, e2⟩ := hs2 hik rfl
     have hm3 : ((Z i + 1) * 3 = Z i * 3 + 3) = True := eq_true (by omega)
     repeat' (first
      | with_reducible first | apply thenW_n | apply blockW_n | apply W_seq | apply W_block | apply W_skip
      | with_reducible refine W_rg ?_
      | (rw [vcn]; (try simp [push_cast, g1, g1', g2, g2', g2'', g3, ht, hCl, hlt, hTil, hwi, hm3]))
      | (with_reducible refine W_condW ?_; (try simp [AS.val, upd, resB, mkS_env, mkS_box, lk, entry_env, condW_true, condW_false, g1, g1', g2, g2', g2'', g3, ht, hCl, hlt, hTil, hwi, hm3]))
      | refine And.intro (by first | omega | kernel_rfl) ?_
      | fail)
     refine loopW_n i' (fun i => if i = 500 then 63 else i) (by omega) (by omega) ⟨?_, ?_, ?_, ?_, ?_, ?_⟩
     all_goals first | (simp [push_cast, hCr, hTr, hTn, hbr, hbn, e1, e2, List.append_assoc]; done) | (simp [push_cast, hCr, hTr, hTn, hbr, hbn, e1, e2, List.append_assoc]; omega)
    | false =>
     obtain ⟨e1, e2⟩ := hs3 hik rfl
     repeat' (first
      | with_reducible first | apply thenW_n | apply blockW_n | apply W_seq | apply W_block | apply W_skip
      | with_reducible refine W_rg ?_
      | (rw [vcn]; (try simp [push_cast, g1, g1', g2, g2', g2'', g3, ht, hCl, hlt, hTil, hwi]))
      | (with_reducible refine W_condW ?_; (try simp [AS.val, upd, resB, mkS_env, mkS_box, lk, entry_env, condW_true, condW_false, g1, g1', g2, g2', g2'', g3, ht, hCl, hlt, hTil, hwi]))
      | fail)
     refine loopW_n i' id (by omega) (by omega) ⟨?_, ?_, ?_, ?_, ?_, ?_⟩
     all_goals first | (simp [push_cast, hCr, hTr, hTn, hbr, hbn, e1, e2]; done)
   ·
    have g2 : (i = k) = False := eq_false hik
    have g2' : ((i : Int) = (k : Int)) = False := eq_false (by omega)
    have g2'' : ((i : Int) == (k : Int)) = false := by rw [beq_eq_false_iff_ne]; omega
    have g3 : ((i : Int) != (k : Int)) = true := by rw [bne_iff_ne]; omega
    obtain ⟨e1, e2⟩ := hs1 hik
    repeat' (first
     | with_reducible first | apply thenW_n | apply blockW_n | apply W_seq | apply W_block | apply W_skip
     | with_reducible refine W_rg ?_
     | (rw [vcn]; (try simp [push_cast, g1, g1', g2, g2', g2'', g3, ht, hCl, hlt, hTil, hwi]))
     | (with_reducible refine W_condW ?_; (try simp [AS.val, upd, resB, mkS_env, mkS_box, lk, entry_env, condW_true, condW_false, g1, g1', g2, g2', g2'', g3, ht, hCl, hlt, hTil, hwi]))
     | refine And.intro (by first | omega | kernel_rfl) ?_
     | fail)
    refine loopW_n i' (fun i => if i = 500 then 50 else i) (by omega) (by omega) ⟨?_, ?_, ?_, ?_, ?_, ?_⟩
    all_goals first | (simp [push_cast, hCr, hTr, hTn, hbr, hbn, e1, e2]; done) | (simp [push_cast, hCr, hTr, hTn, hbr, hbn, e1, e2]; omega)
  ·
   have g1 : (i < n) = False := eq_false hlt
   have g1' : ((i : Int) < (n : Int)) = False := eq_false (by omega)
   have hin : i = n := by omega
   repeat' (first
    | with_reducible first | apply thenW_n | apply thenW_exit | apply blockW_same | apply loopW_exit | apply W_seq | apply W_exit
    | with_reducible refine W_rg ?_
    | (rw [vcn]; (try simp [push_cast, g1, g1']))
    | (with_reducible refine W_condW ?_; (try simp [AS.val, upd, resB, mkS_env, mkS_box, lk, entry_env, condW_true, condW_false, g1, g1']))
    | fail)
   refine joinW_n () id trivial ⟨?_, ?_, ?_, ?_, ?_, ?_⟩
   all_goals first | (simp [push_cast, hCr, hTr, hTn, hin]; done)
 obtain ⟨M, hM⟩ : ∃ M, M = lessF L k tw n := ⟨_, rfl⟩
 have hMl : M.length ≤ 800 := by
  have := hZl n
  rw [hfinZ, ← hM] at this
  omega
 have hMb : bsum M ≤ 600000 := by
  have := lessF_bsum L k tw n (by omega)
  rw [hn, List.take_length, ← hn, ← hM] at this
  omega
 rw [← hM] at hfinT hfinZ
 have hjb := joinB_bsum M
 have hj := refJoin_ok false M (fun h => by have := hjb h; omega) (by omega)
 have hTnr := hTr n
 have hTnl := hTl n
 rw [← hfinT, ← hfinZ] at hj
 clear hTr hTn hTl hZl hT0 hZ0 step hM hfinT hfinZ
 obtain ⟨D, hD⟩ : ∃ D, D = T n := ⟨_, rfl⟩
 obtain ⟨z, hz⟩ : ∃ z, z = Z n := ⟨_, rfl⟩
 rw [← hD, ← hz] at hj ⊢
 rw [← hD] at hTnr hTnl
 rw [← hz] at hTnl
 clear hD hz
 refine W_frz 500 (e := 24) (l := D) (by simp [mkS_box, lk]) hTnr ?_
 have hDt : D.take (z * 3) = D := List.take_of_length_le (by omega)
 rw [joinAV] at hj
 by_cases hok : joinOk M = true
 ·
  rw [if_pos hok] at hj
  have hjb := hjb hok
  have hb4 : (joinB M).length ≤ 700000 := by omega
  obtain ⟨ds, hds⟩ : ∃ ds, ds = joinB M := ⟨_, rfl⟩
  rw [← hds] at hj hb4
  clear hds hjb hok
  have hp := read_ok false ds (by omega)
  have hq := refRead_ok tree_ok false ds (by omega)
  rw [readAV] at hp
  rw [refReadAV] at hq
  obtain ⟨E, hE⟩ : ∃ A, A = ds.map byteV := ⟨_, rfl⟩
  have hEr : refsL E = [] := by rw [hE]; exact refsL_bytes _
  obtain ⟨m, hm⟩ : ∃ n, n = ds.length := ⟨_, rfl⟩
  simp only [← hE, ← hm] at hj hp hq
  cases hr : readS ds with
  | none =>
   rw [hr] at hp hq
   have hs := same_none
   simp only [nilV] at hp hq hs
   repeat' (first
    | with_reducible apply W_seq
    | with_reducible refine W_rg ?_
    | (rw [vcn]; (try simp [push_cast, hTnl, hDt]))
    | fail)
   refine CallG_of (hj) rfl rfl rfl ?_
   try dsimp only
   repeat' (first
    | with_reducible first | apply thenW_n | apply W_seq | apply W_skip
    | with_reducible refine W_rg ?_
    | (rw [vcn]; (try simp [push_cast]))
    | (with_reducible refine W_condW ?_; (try simp [AS.val, upd, resB, mkS_env, mkS_box, lk, entry_env, condW_true, condW_false]))
    | fail)
   refine CallG_of (hp) rfl rfl rfl ?_
   try dsimp only
   repeat' (first
    | with_reducible first | apply thenW_n | apply W_seq
    | with_reducible refine W_rg ?_
    | (rw [vcn]; (try simp [push_cast]))
    | fail)
   refine CallG_of (hq) rfl rfl rfl ?_
   try dsimp only
   repeat' (first
    | with_reducible first | apply thenW_n | apply W_seq
    | with_reducible refine W_rg ?_
    | (rw [vcn]; (try simp [push_cast]))
    | fail)
   refine CallG_of (hk) rfl rfl rfl ?_
   try dsimp only
   repeat' (first
    | (rw [vcn]; (try simp [push_cast]))
    | fail)
   refine CallG_of (hs) rfl rfl rfl ?_
   try dsimp only
   repeat' (first
    | with_reducible first | apply thenW_n | apply W_ret
    | (rw [vcn]; (try simp [push_cast]))
    | fail)
   simp [post, resAV, resAll, resOne, closeV, closeC, closeL, resD, resDL, push_cast]
  | some p =>
   obtain ⟨t, zz⟩ := p
   rw [hr] at hp hq
   have hs := sameLib_ok t t true (by simp)
   simp only at hp hq
   obtain ⟨H2, cs2⟩ := t
   obtain ⟨A2, hA2⟩ : ∃ A, A = recsCells H2 := ⟨_, rfl⟩
   obtain ⟨B2, hB2⟩ : ∃ A, A = cellsCells cs2 := ⟨_, rfl⟩
   have hA2r : refsL A2 = [] := by rw [hA2]; exact recsCells_refs _
   have hB2r : refsL B2 = [] := by rw [hB2]; exact cellsCells_refs _
   simp only [libAV, rowsAV, cellsAV, ← hA2, ← hB2] at hp hq hs
   repeat' (first
    | with_reducible apply W_seq
    | with_reducible refine W_rg ?_
    | (rw [vcn]; (try simp [push_cast, hTnl, hDt]))
    | fail)
   refine CallG_of (hj) rfl rfl rfl ?_
   try dsimp only
   repeat' (first
    | with_reducible first | apply thenW_n | apply W_seq | apply W_skip
    | with_reducible refine W_rg ?_
    | (rw [vcn]; (try simp [push_cast]))
    | (with_reducible refine W_condW ?_; (try simp [AS.val, upd, resB, mkS_env, mkS_box, lk, entry_env, condW_true, condW_false]))
    | fail)
   refine CallG_of (hp) rfl rfl rfl ?_
   try dsimp only
   repeat' (first
    | with_reducible first | apply thenW_n | apply W_seq
    | with_reducible refine W_rg ?_
    | (rw [vcn]; (try simp [push_cast]))
    | fail)
   refine CallG_of (hq) rfl rfl rfl ?_
   try dsimp only
   repeat' (first
    | with_reducible first | apply thenW_n | apply W_seq
    | with_reducible refine W_rg ?_
    | (rw [vcn]; (try simp [push_cast]))
    | fail)
   refine CallG_of (hk) rfl rfl rfl ?_
   try dsimp only
   repeat' (first
    | (rw [vcn]; (try simp [push_cast]))
    | fail)
   refine CallG_of (hs) rfl rfl rfl ?_
   try dsimp only
   repeat' (first
    | with_reducible first | apply thenW_n | apply W_ret
    | (rw [vcn]; (try simp [push_cast]))
    | fail)
   simp [post, resAV, resAll, resOne, closeV, closeC, closeL, resD, resDL, push_cast]
 ·
  rw [if_neg hok] at hj
  repeat' (first
   | with_reducible apply W_seq
   | with_reducible refine W_rg ?_
   | (rw [vcn]; (try simp [push_cast, hTnl, hDt]))
   | fail)
  refine CallG_of (hj) rfl rfl rfl ?_
  try dsimp only
  repeat' (first
   | with_reducible first | apply thenW_n | apply W_seq
   | with_reducible refine W_rg ?_
   | (rw [vcn]; (try simp [push_cast]))
   | (with_reducible refine W_condW ?_; (try simp [AS.val, upd, resB, mkS_env, mkS_box, lk, entry_env, condW_true, condW_false]))
   | fail)
  refine CallG_of (hk) rfl rfl rfl ?_
  try dsimp only
  repeat' (first
   | with_reducible first | apply thenW_n | apply thenW_ret | apply W_ret
   | (rw [vcn]; (try simp [push_cast]))
   | fail)
  simp [post, resAV, resAll, resOne, closeV, closeC, closeL, resD, resDL, push_cast]
end Go.Fw

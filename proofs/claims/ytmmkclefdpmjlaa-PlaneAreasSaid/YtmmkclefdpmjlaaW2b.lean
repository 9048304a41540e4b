import Derived.Test.YtmmkclefdpmjlaaV12b
import Derived.Test.YtmmkclefdpmjlaaX1b
import Derived.Test.YtmmkclefdpmjlaaW1b
set_option linter.unusedSimpArgs false
set_option linter.unusedVariables false
-- VALS: rAV, rC, dAV, dC, d3AV, d3C
namespace Go.Fw
open Go Go.Proofs Go.IntWalk
set_option linter.unusedSimpArgs false
set_option maxRecDepth 100000
set_option maxHeartbeats 20000000
theorem bytesD_drop (l : List Nat) (i : Nat) : (bytesD l).extract i (bytesD l).size = bytesD (l.drop i) := by
  apply ByteArray.ext
  rw [ByteArray.data_extract]
  simp [bytesD, ByteArray.size]
  exact List.take_of_length_le (by simp)
theorem bytesD_at (c : Nat) (t : List Nat) (h : c < 256) : ∀ k : 0 < (bytesD (c :: t)).data.size, (((bytesD (c :: t)).data[0]'k).toNat : Int) = (c : Int) := by
  intro k
  show ((UInt8.ofNat c).toNat : Int) = _
  rw [UInt8.toNat_ofNat_of_lt' (by show c < 2 ^ 8; omega)]
theorem fours_app (d : Nat) (l : List Nat) : (fours (d :: l)).reverse = (fours l).reverse ++ [48 + d / 1000, 48 + d / 100 % 10, 48 + d / 10 % 10, 48 + d % 10] := by
  simp [fours]
theorem natText_len4 (n : Nat) : (natText n).length ≤ 4 * (tens n).length + 1 := by
  obtain ⟨z, hz⟩ := fours_tens n
  have h1 := congrArg List.length hz
  rw [fours_len, List.length_append] at h1
  unfold natText
  split
  · simp
  · rw [List.length_reverse]; omega
theorem intText_len4 (z : Int) : (intText z).length ≤ 4 * szD z + 2 := by
  have := natText_len4 z.natAbs
  unfold intText szD
  split
  · rw [List.length_cons]; omega
  · omega
theorem szD_divInt (z w : Int) (hw : 0 < w) : szD (Rat.divInt z w).num ≤ szD z ∧ szD ((Rat.divInt z w).den : Int) ≤ szD w := by
  obtain ⟨h1, h2⟩ := divInt_le z w (by omega)
  unfold szD
  rw [Int.natAbs_natCast]
  exact ⟨tens_mono h1, tens_mono h2⟩
theorem ratText_len4 (z w : Int) (hw : 0 < w) : (ratText (Rat.divInt z w)).length ≤ 4 * (szD z + szD w) + 5 := by
  obtain ⟨h1, h2⟩ := szD_divInt z w hw
  have h3 := intText_len4 (Rat.divInt z w).num
  have h4 := natText_len4 (Rat.divInt z w).den
  unfold szD at h2 h1 h3 ⊢
  rw [Int.natAbs_natCast] at h2
  unfold ratText
  split
  · omega
  · rw [List.length_append, List.length_cons]; omega
open List (map_take map_drop)
attribute [local push_cast] optK_some optK_none optK_ite optK_map optK_bind gOn stepK isMem evPure evMem evBin evUn evConv evLen evBuiltin evMinMax evSlice evBuild evAppend evIndex evIndexAddr evField evFieldAddr intBin strBin appDest AS.val AS.mem AS.elems AS.put AS.put' AS.eff AV.cells? AV.isCell AV.refs all_isByte take_byteV drop_byteV strOf_map bndOk bnd partAV ptrAdd killBox catA inOrder fillA setAt ofVal resB upd byteV List.head?_take List.head?_drop List.getElem?_map mkS_env mkS_box mkS_used entry_env entry_box entry_used lk stepD lookIds Oper.looksAt Op.operands Call.operands St.ids refsL renL_append ren renL renBox Box.refs iV i64V boolV dV_getElem dV_app dV_cons toNat_add2 toNat_add1
attribute [local simp ↓] numC_refs numC_isCell numC_cells numC_resB numC_resD numC_ren numC_closeC numC_isOwn
theorem text01_ok (n : Nat) (h : (tens n).length ≤ 1000000) : Eval Try.prog 88 [rAV n] (.ret (strD (natText n))) := by
  refine Eval.intro Try.func88 rfl Try.call88 _ _ (Nat.le_of_ble_eq_true rfl) (by simp [-map_take,-map_drop, AV.refs, refsL, natAV, rAV, rC, dAV, dC, d3AV, d3C, push_cast]) fun hs0 => ?_
  by_cases h0 : n = 0
  · subst h0
    have e : tens 0 = [] := rfl
    repeat' (first
      | with_reducible first | apply thenW_n | apply thenW_ret | apply W_seq | apply W_ret
      | with_reducible refine W_rg ?_
      | (rw [vcn]; (try simp [-map_take,-map_drop, push_cast, rAV, rC, numC, ← tens.eq_1, e]))
      | (with_reducible refine W_condW ?_; (try simp [-map_take,-map_drop, AS.val, upd, resB, mkS_env, mkS_box, lk, entry_env, condW_true, condW_false, rAV, rC, numC, ← tens.eq_1, e]))
      | fail)
    simp [-map_take,-map_drop, post, resAV, resAll, resOne, closeV, closeC, closeL, resD, resDL, push_cast, strD, natText, bytesD]
  have hne : ¬ tens n = [] := fun k => h0 (tens_nil.1 k)
  have hnl : 0 < (tens n).length := by
    cases hc : tens n with
    | nil => exact absurd hc hne
    | cons a t => simp [-map_take,-map_drop]
  have hne' : (tens n = []) = False := eq_false hne
  obtain ⟨L, hL⟩ : ∃ L, L = (tens n).length := ⟨_, rfl⟩
  rw [← hL] at h hnl
  have hL0 : (L = 0) = False := eq_false (by omega)
  have hLb : ((L : Int) == 0) = false := beq_eq_false_iff_ne.2 (by omega)
  have w1 : IntKind.i64.wrap ((L : Int) - 1) = (L : Int) - 1 := i64_in _ (by omega)
  obtain ⟨z, hz⟩ := fours_tens n
  have e0 : (⟨#[]⟩ : ByteArray) = bytesD [] := rfl
  repeat' (first
    | with_reducible first | apply thenW_n | apply W_seq | apply W_block | apply W_skip
    | with_reducible refine W_rg ?_
    | (rw [vcn]; (try simp [-map_take,-map_drop, push_cast, rAV, rC, numC, ← tens.eq_1, ← hL, hL0, hLb, w1, hne', e0]))
    | (with_reducible refine W_condW ?_; (try simp [-map_take,-map_drop, AS.val, upd, resB, mkS_env, mkS_box, lk, entry_env, condW_true, condW_false, rAV, rC, numC, ← tens.eq_1, ← hL, hL0, hLb, w1, hne', e0]))
    | fail)
  refine W_loopW (X := Nat × List Nat) (fun x => [(1, .bp 1 0), (3, strD x.2), (4, i64V ((x.1 : Int) - 1))]) (fun _ => [(1, .mut 39 [rC n])])
    (fun x => x.1) (fun x => x.1 ≤ L ∧ x.2 = (fours ((tens n).drop x.1)).reverse) (L, []) id ⟨Nat.le_refl _, by rw [hL, List.drop_length]; rfl⟩ ⟨?_, ?_, ?_, ?_, ?_, ?_⟩ fun x hx => ?_
  all_goals first | (with_reducible refine W_id ?_) | (simp [-map_take,-map_drop, push_cast, dV_take, dV_drop, rC, numC, ← tens.eq_1, ← hL, strD]; done)
  obtain ⟨j, o⟩ := x
  obtain ⟨hj, ho⟩ := hx
  simp only at hj ho
  have hol : o.length ≤ 4 * L := by
    rw [ho, List.length_reverse, fours_len, List.length_drop, ← hL]
    omega
  rcases Nat.eq_zero_or_pos j with j0 | j0
  · subst j0
    rw [List.drop_zero, hz, List.reverse_append, List.reverse_replicate] at ho
    subst ho
    have hres : strD (natText n) = strD (decD n).reverse := by rw [natText, if_neg h0]
    rw [hres]
    obtain ⟨c, t, hct, hc1, hc2⟩ := decD_first (show 0 < n by omega)
    rw [List.length_append, List.length_replicate, hct] at hol
    rw [hct]
    repeat' (first
      | with_reducible first | apply thenW_n | apply thenW_exit | apply blockW_same | apply loopW_exit | apply W_seq | apply W_block | apply W_exit
      | with_reducible refine W_rg ?_
      | (rw [vcn]; (try simp [-map_take,-map_drop, push_cast, strD]))
      | (with_reducible refine W_condW ?_; (try simp [-map_take,-map_drop, AS.val, upd, resB, mkS_env, mkS_box, lk, entry_env, condW_true, condW_false, strD]))
      | fail)
    refine W_loopW (X := Nat) (fun k => [(3, strD (List.replicate k 48 ++ (c :: t)))]) (fun _ => [(1, .mut 39 [rC n])])
      (fun k => k) (fun k => k ≤ z) z id (Nat.le_refl _) ⟨?_, ?_, ?_, ?_, ?_, ?_⟩ fun k hk => ?_
    all_goals first | (with_reducible refine W_id ?_) | (simp [-map_take,-map_drop, push_cast, dV_take, dV_drop, rC, numC, ← tens.eq_1, ← hL, strD]; done)
    rcases Nat.eq_zero_or_pos k with k0 | k0
    · subst k0
      have a1 := bytesD_at c t (by omega)
      have a2 : ((c : Int) = 48) = False := eq_false (by omega)
      have a3 : (c = 48) = False := eq_false hc1
      have a4 : ((c : Int) == 48) = false := beq_eq_false_iff_ne.2 (by omega)
      rw [List.replicate_zero, List.nil_append]
      obtain ⟨B, hB⟩ : ∃ B, B = bytesD (c :: t) := ⟨_, rfl⟩
      have hBs : 0 < B.size := by rw [hB, bytesD_size]; simp [-map_take,-map_drop]
      have s1 : strD (c :: t) = .v (.string B) := by rw [hB]; rfl
      simp only [← hB] at a1
      rw [s1]
      repeat' (first
        | with_reducible first | apply thenW_n | apply thenW_exit | apply blockW_same | apply loopW_exit | apply W_seq | apply W_ret | apply W_exit
        | with_reducible refine W_rg ?_
        | (rw [vcn]; (try simp [-map_take,-map_drop, push_cast, a1, a2, a3, a4, hBs]))
        | (with_reducible refine W_condW ?_; (try simp [-map_take,-map_drop, AS.val, upd, resB, mkS_env, mkS_box, lk, entry_env, condW_true, condW_false, a1, a2, a3, a4, hBs]))
        | fail)
      simp [-map_take,-map_drop, post, resAV, resAll, resOne, closeV, closeC, closeL, resD, resDL, push_cast, hB]
    · obtain ⟨m, rfl⟩ : ∃ m, k = m + 1 := ⟨k - 1, by omega⟩
      obtain ⟨T, hT⟩ : ∃ T, T = List.replicate m 48 ++ (c :: t) := ⟨_, rfl⟩
      have hT2 : List.replicate (m + 1) 48 ++ (c :: t) = 48 :: T := by rw [hT, List.replicate_succ, List.cons_append]
      rw [hT2]
      have a1 : ∀ k : 0 < (bytesD (48 :: T)).data.size, (((bytesD (48 :: T)).data[0]'k).toNat : Int) = 48 := bytesD_at 48 T (by omega)
      have a2 := bytesD_drop (48 :: T) 1
      obtain ⟨B, hB⟩ : ∃ B, B = bytesD (48 :: T) := ⟨_, rfl⟩
      have hBs : 0 < B.size := by rw [hB, bytesD_size]; simp [-map_take,-map_drop]
      have hBs1 : 1 ≤ B.size := hBs
      have s1 : strD (48 :: T) = .v (.string B) := by rw [hB]; rfl
      simp only [← hB] at a1 a2
      rw [s1]
      repeat' (first
        | with_reducible first | apply thenW_n | apply blockW_n | apply W_seq | apply W_block | apply W_skip
        | with_reducible refine W_rg ?_
        | (rw [vcn]; (try simp [-map_take,-map_drop, push_cast, a1, a2, hBs, hBs1]))
        | (with_reducible refine W_condW ?_; (try simp [-map_take,-map_drop, AS.val, upd, resB, mkS_env, mkS_box, lk, entry_env, condW_true, condW_false, a1, a2, hBs, hBs1]))
        | fail)
      refine loopW_n m id (by omega) (by omega) ⟨?_, ?_, ?_, ?_, ?_, ?_⟩
      all_goals first | (simp [-map_take,-map_drop, push_cast, dV_take, dV_drop, rC, numC, ← tens.eq_1, ← hL, strD, ← hT]; done)
  · obtain ⟨i, rfl⟩ : ∃ i, j = i + 1 := ⟨j - 1, by omega⟩
    have hji : ((i + 1 : Nat) : Int) - 1 = (i : Int) := by omega
    have hi : i < (tens n).length := by omega
    have ho2 : (fours ((tens n).drop i)).reverse = o ++ [48 + dg (tens n) i / 1000, 48 + dg (tens n) i / 100 % 10, 48 + dg (tens n) i / 10 % 10, 48 + dg (tens n) i % 10] := by
      rw [List.drop_eq_getElem_cons hi, fours_app, ho, ← dg_eq]
    have hd4 : dg (tens n) i < 10000 := dg_lt (by decide) (tens_lt n) i
    obtain ⟨d, hd⟩ : ∃ d, d = dg (tens n) i := ⟨_, rfl⟩
    rw [← hd] at ho2 hd4
    obtain ⟨q3, hq3⟩ : ∃ q, q = d / 1000 := ⟨_, rfl⟩
    obtain ⟨q2, hq2⟩ : ∃ q, q = d / 100 := ⟨_, rfl⟩
    obtain ⟨q1, hq1⟩ : ∃ q, q = d / 10 := ⟨_, rfl⟩
    have t3 : (d : Int).tdiv 1000 = (q3 : Int) := by rw [Int.tdiv_eq_ediv_of_nonneg (by omega)]; omega
    have t2 : (d : Int).tdiv 100 = (q2 : Int) := by rw [Int.tdiv_eq_ediv_of_nonneg (by omega)]; omega
    have t1 : (d : Int).tdiv 10 = (q1 : Int) := by rw [Int.tdiv_eq_ediv_of_nonneg (by omega)]; omega
    rw [← hq3, ← hq2, ← hq1] at ho2
    obtain ⟨r2, hr2⟩ : ∃ q, q = q2 % 10 := ⟨_, rfl⟩
    obtain ⟨r1, hr1⟩ : ∃ q, q = q1 % 10 := ⟨_, rfl⟩
    obtain ⟨r0, hr0⟩ : ∃ q, q = d % 10 := ⟨_, rfl⟩
    have m2 : (q2 : Int).tmod 10 = (r2 : Int) := by rw [Int.tmod_eq_emod_of_nonneg (by omega)]; omega
    have m1 : (q1 : Int).tmod 10 = (r1 : Int) := by rw [Int.tmod_eq_emod_of_nonneg (by omega)]; omega
    have m0 : (d : Int).tmod 10 = (r0 : Int) := by rw [Int.tmod_eq_emod_of_nonneg (by omega)]; omega
    rw [← hr2, ← hr1, ← hr0] at ho2
    obtain ⟨c3, hc3⟩ : ∃ q, q = 48 + q3 := ⟨_, rfl⟩
    obtain ⟨c2, hc2⟩ : ∃ q, q = 48 + r2 := ⟨_, rfl⟩
    obtain ⟨c1, hc1⟩ : ∃ q, q = 48 + r1 := ⟨_, rfl⟩
    obtain ⟨c0, hc0⟩ : ∃ q, q = 48 + r0 := ⟨_, rfl⟩
    have b3 : c3 < 58 := by omega
    have b2 : c2 < 58 := by omega
    have b1 : c1 < 58 := by omega
    have b0 : c0 < 58 := by omega
    have u3 : IntKind.i64.wrap (48 + (q3 : Int)) = (c3 : Int) := by rw [i64_in _ (by omega)]; omega
    have u2 : IntKind.i64.wrap (48 + (r2 : Int)) = (c2 : Int) := by rw [i64_in _ (by omega)]; omega
    have u1 : IntKind.i64.wrap (48 + (r1 : Int)) = (c1 : Int) := by rw [i64_in _ (by omega)]; omega
    have u0 : IntKind.i64.wrap (48 + (r0 : Int)) = (c0 : Int) := by rw [i64_in _ (by omega)]; omega
    have v8 : ∀ c : Nat, c < 58 → IntKind.u8.wrap (c : Int) = (c : Int) := fun c hc => by
      have : IntKind.u8.wrap (c : Int) = (c : Int) % 256 := rfl
      rw [this]; omega
    have v3 := v8 c3 b3
    have v2 := v8 c2 b2
    have v1 := v8 c1 b1
    have v0 := v8 c0 b0
    rw [← hc3, ← hc2, ← hc1, ← hc0] at ho2
    have hs4 : strOf [.v (.int .u8 (c3 : Int)), .v (.int .u8 (c2 : Int)), .v (.int .u8 (c1 : Int)), .v (.int .u8 (c0 : Int))] = bytesD [c3, c2, c1, c0] := rfl
    have wi : IntKind.i64.wrap ((i : Int) - 1) = (i : Int) - 1 := i64_in _ (by omega)
    have hsz : o.length + 4 ≤ 9223372036854775807 := by omega
    have p3 : IntKind.i64.wrap (q3 : Int) = (q3 : Int) := i64_in _ (by omega)
    have p2 : IntKind.i64.wrap (q2 : Int) = (q2 : Int) := i64_in _ (by omega)
    have p1 : IntKind.i64.wrap (q1 : Int) = (q1 : Int) := i64_in _ (by omega)
    clear hq3 hq2 hq1 hr2 hr1 hr0 hc3 hc2 hc1 hc0 b3 b2 b1 b0 v8 hd4 ho hol
    rw [hji]
    repeat' (first
      | with_reducible first | apply thenW_n | apply blockW_n | apply W_seq | apply W_block | apply W_skip
      | with_reducible refine W_rg ?_
      | (rw [vcn]; (try simp [-map_take,-map_drop, push_cast, rC, numC, ← tens.eq_1, ← hL, ← hd, strD, t3, t2, t1, m2, m1, m0, p3, p2, p1, u3, u2, u1, u0, v3, v2, v1, v0, hs4, bytesD_size, bytesD_add, wi]))
      | (with_reducible refine W_condW ?_; (try simp [-map_take,-map_drop, AS.val, upd, resB, mkS_env, mkS_box, lk, entry_env, condW_true, condW_false, rC, numC, ← tens.eq_1, ← hL, ← hd, strD, t3, t2, t1, m2, m1, m0, p3, p2, p1, u3, u2, u1, u0, v3, v2, v1, v0, hs4, bytesD_size, bytesD_add, wi]))
      | (with_reducible refine optK_dV (by first | omega | (simp [-map_take,-map_drop]; omega)) ?_)
      | refine And.intro (by first | omega | kernel_rfl) ?_
      | fail)
    refine loopW_n (i, o ++ [c3, c2, c1, c0]) id (by simp only; omega) ⟨by simp only; omega, ho2.symm⟩ ⟨?_, ?_, ?_, ?_, ?_, ?_⟩
    all_goals first | (simp [-map_take,-map_drop, push_cast, dV_take, dV_drop, rC, numC, ← tens.eq_1, ← hL, strD]; done)
theorem text02_ok (z : Int) (h : szD z ≤ 1000000) : Eval Try.prog 48 [dAV z] (.ret (strD (intText z))) := by
  refine Eval.intro Try.func48 rfl Try.call48 _ _ (Nat.le_of_ble_eq_true rfl) (by simp [-map_take,-map_drop, AV.refs, refsL, natAV, rAV, rC, dAV, dC, d3AV, d3C, push_cast]) fun hs0 => ?_
  have e1 := text01_ok z.natAbs h
  have hl := natText_len4 z.natAbs
  unfold szD at h
  obtain ⟨L, hL⟩ : ∃ L, L = natText z.natAbs := ⟨_, rfl⟩
  rw [← hL] at e1 hl
  have e45 : (⟨#[45]⟩ : ByteArray) = bytesD [45] := rfl
  by_cases h0 : z < 0
  · have g1 : (z.sign < 0) = True := eq_true (by rw [Int.sign_eq_neg_one_of_neg h0]; omega)
    have hr : intText z = 45 :: L := by rw [intText, if_pos h0, ← hL]
    have hs : (bytesD L).size ≤ 9223372036854775806 := by rw [bytesD_size]; omega
    rw [hr]
    repeat' (first
      | with_reducible first | apply thenW_n | apply W_seq
      | with_reducible refine W_rg ?_
      | (rw [vcn]; (try simp [-map_take,-map_drop, push_cast, dAV, dC, rC, numC, ← tens.eq_1, g1]))
      | (with_reducible refine W_condW ?_; (try simp [-map_take,-map_drop, AS.val, upd, resB, mkS_env, mkS_box, lk, entry_env, condW_true, condW_false, dAV, dC, rC, numC, ← tens.eq_1, g1]))
      | fail)
    refine CallG_of (e1) rfl rfl rfl ?_
    try dsimp only
    repeat' (first
      | with_reducible first | apply thenW_n | apply thenW_ret | apply W_ret
      | (rw [vcn]; (try simp [-map_take,-map_drop, push_cast, strD, e45, bytesD_size, bytesD_add]))
      | refine And.intro (by first | omega | kernel_rfl) ?_
      | fail)
    simp [-map_take,-map_drop, post, resAV, resAll, resOne, closeV, closeC, closeL, resD, resDL, push_cast, strD]
  · have g1 : (z.sign < 0) = False := eq_false (by have := sign_cases z; omega)
    have hr : intText z = L := by rw [intText, if_neg h0, ← hL]
    rw [hr]
    repeat' (first
      | with_reducible first | apply thenW_n | apply W_seq | apply W_skip
      | with_reducible refine W_rg ?_
      | (rw [vcn]; (try simp [-map_take,-map_drop, push_cast, dAV, dC, rC, numC, ← tens.eq_1, g1]))
      | (with_reducible refine W_condW ?_; (try simp [-map_take,-map_drop, AS.val, upd, resB, mkS_env, mkS_box, lk, entry_env, condW_true, condW_false, dAV, dC, rC, numC, ← tens.eq_1, g1]))
      | fail)
    refine CallG_of (e1) rfl rfl rfl ?_
    try dsimp only
    repeat' (first
      | with_reducible first | apply thenW_n | apply W_ret
      | (rw [vcn]; (try simp [-map_take,-map_drop, push_cast, strD]))
      | fail)
    simp [-map_take,-map_drop, post, resAV, resAll, resOne, closeV, closeC, closeL, resD, resDL, push_cast, strD]
theorem text03_ok (z w : Int) (hw : 0 < w) (h : szD z + szD w ≤ 1000000) : Eval Try.prog 15 [ratD z w] (.ret (strD (ratText (Rat.divInt z w)))) := by
  unfold ratD
  obtain ⟨h1, h2⟩ := szD_divInt z w hw
  have e1 := lowest03_ok z w hw (by unfold szD at h; omega)
  have e2 := text02_ok (Rat.divInt z w).num (by omega)
  have e3 := of02_ok 1 (by unfold inI; omega)
  have e4 := cmp02_ok ((Rat.divInt z w).den : Int) 1
  have e5 := text02_ok ((Rat.divInt z w).den : Int) (by omega)
  have l1 := intText_len4 (Rat.divInt z w).num
  have l2 := intText_len4 ((Rat.divInt z w).den : Int)
  have hd : intText ((Rat.divInt z w).den : Int) = natText (Rat.divInt z w).den := by
    unfold intText
    rw [if_neg (by omega), Int.natAbs_natCast]
  obtain ⟨o, ho⟩ : ∃ o : Int, o = 1 := ⟨_, rfl⟩
  have e3' : Eval Try.prog 35 [i64V 1] (.ret (dAV o)) := by rw [ho]; exact e3
  rw [← ho] at e4
  clear e3
  refine Eval.intro Try.func15 rfl Try.call15 _ _ (Nat.le_of_ble_eq_true rfl) (by simp [-map_take,-map_drop, AV.refs, refsL, natAV, rAV, rC, dAV, dC, d3AV, d3C, push_cast]) fun hs0 => ?_
  by_cases h1 : (Rat.divInt z w).den = 1
  · have hr : ratText (Rat.divInt z w) = intText (Rat.divInt z w).num := by rw [ratText, if_pos h1]
    have hc : cmpZ ((Rat.divInt z w).den : Int) o = 0 := by rw [h1, ho]; rfl
    rw [hr]
    rw [hc] at e4
    obtain ⟨L, nm_⟩ : ∃ nm0_, nm0_ = intText (Rat.divInt z w).num := ⟨_, rfl⟩
    simp only [← nm_] at e2 l1 ⊢
    clear nm_
    obtain ⟨N, nm_⟩ : ∃ nm0_, nm0_ = (Rat.divInt z w).num := ⟨_, rfl⟩
    simp only [← nm_] at e1 e2
    clear nm_
    obtain ⟨D, nm_⟩ : ∃ nm0_, nm0_ = ((Rat.divInt z w).den : Int) := ⟨_, rfl⟩
    simp only [← nm_] at e1 e4 e5
    clear nm_
    clear hr hc h1 hd l1 l2 e5 ho
    repeat' (first
      | with_reducible first | apply thenW_n | apply W_seq
      | with_reducible refine W_rg ?_
      | (rw [vcn]; (try simp [-map_take,-map_drop, push_cast, dAV, dC, rC, numC, ← tens.eq_1]))
      | fail)
    refine CallG_of (e1) rfl rfl rfl ?_
    try dsimp only
    repeat' (first
      | with_reducible first | apply thenW_n | apply W_seq
      | with_reducible refine W_rg ?_
      | (rw [vcn]; (try simp [-map_take,-map_drop, push_cast, dAV, dC, rC, numC, ← tens.eq_1]))
      | fail)
    refine CallG_of (e2) rfl rfl rfl ?_
    try dsimp only
    repeat' (first
      | with_reducible first | apply thenW_n | apply W_seq
      | (rw [vcn]; (try simp [-map_take,-map_drop, push_cast, dAV, dC, rC, numC, ← tens.eq_1, strD]))
      | with_reducible refine W_drawn mixed (by decide) (by kernel_rfl) ?_
      | (rw [vcnD]; (try simp [-map_take,-map_drop, push_cast, dAV, dC, rC, numC, ← tens.eq_1, strD]))
      | fail)
    refine callD_of (e3') rfl rfl rfl ?_
    try dsimp only
    repeat' (first
      | (rw [vcnD]; (try simp [-map_take,-map_drop, push_cast, dAV, dC, rC, numC, ← tens.eq_1, strD]))
      | fail)
    refine callD_of (e4) rfl rfl rfl ?_
    try dsimp only
    repeat' (first
      | with_reducible first | apply thenW_n | apply W_seq | apply W_skip | apply W_ret
      | with_reducible refine W_rg ?_
      | (rw [vcn]; (try simp [-map_take,-map_drop, push_cast, dAV, dC, rC, numC, ← tens.eq_1, strD]))
      | (rw [vcnD]; (try simp [-map_take,-map_drop, push_cast, dAV, dC, rC, numC, ← tens.eq_1, strD]))
      | (with_reducible refine W_condW ?_; (try simp [-map_take,-map_drop, AS.val, upd, resB, mkS_env, mkS_box, lk, entry_env, condW_true, condW_false, dAV, dC, rC, numC, ← tens.eq_1, strD]))
      | refine And.intro (by first | omega | kernel_rfl) ?_
      | fail)
    simp [-map_take,-map_drop, post, resAV, resAll, resOne, closeV, closeC, closeL, resD, resDL, push_cast, strD]
  · have hr : ratText (Rat.divInt z w) = intText (Rat.divInt z w).num ++ (47 :: intText ((Rat.divInt z w).den : Int)) := by rw [ratText, if_neg h1, hd]
    have hc : ¬ cmpZ ((Rat.divInt z w).den : Int) o = 0 := by rw [ho]; unfold cmpZ; split <;> (try split) <;> omega
    rw [hr]
    obtain ⟨L, nm_⟩ : ∃ nm0_, nm0_ = intText (Rat.divInt z w).num := ⟨_, rfl⟩
    simp only [← nm_] at e2 l1 ⊢
    clear nm_
    obtain ⟨M, nm_⟩ : ∃ nm0_, nm0_ = intText ((Rat.divInt z w).den : Int) := ⟨_, rfl⟩
    simp only [← nm_] at e5 l2 hd ⊢
    clear nm_
    obtain ⟨c, nm_⟩ : ∃ nm0_, nm0_ = cmpZ ((Rat.divInt z w).den : Int) o := ⟨_, rfl⟩
    simp only [← nm_] at e4 hc
    clear nm_
    obtain ⟨N, nm_⟩ : ∃ nm0_, nm0_ = (Rat.divInt z w).num := ⟨_, rfl⟩
    simp only [← nm_] at e1 e2
    clear nm_
    obtain ⟨D, nm_⟩ : ∃ nm0_, nm0_ = ((Rat.divInt z w).den : Int) := ⟨_, rfl⟩
    simp only [← nm_] at e1 e4 e5
    clear nm_
    have g1 : (c = 0) = False := eq_false hc
    have g2 : (c != 0) = true := bne_iff_ne.2 hc
    have hb : (⟨#[47]⟩ : ByteArray) = bytesD [47] := rfl
    have s1 : (bytesD L).size + 1 ≤ 9223372036854775807 := by rw [bytesD_size]; omega
    have s2 : L.length + 1 + M.length ≤ 9223372036854775807 := by omega
    clear hr hc h1 hd l1 l2 ho
    repeat' (first
      | with_reducible first | apply thenW_n | apply W_seq
      | with_reducible refine W_rg ?_
      | (rw [vcn]; (try simp [-map_take,-map_drop, push_cast, dAV, dC, rC, numC, ← tens.eq_1]))
      | fail)
    refine CallG_of (e1) rfl rfl rfl ?_
    try dsimp only
    repeat' (first
      | with_reducible first | apply thenW_n | apply W_seq
      | with_reducible refine W_rg ?_
      | (rw [vcn]; (try simp [-map_take,-map_drop, push_cast, dAV, dC, rC, numC, ← tens.eq_1]))
      | fail)
    refine CallG_of (e2) rfl rfl rfl ?_
    try dsimp only
    repeat' (first
      | with_reducible first | apply thenW_n | apply W_seq
      | (rw [vcn]; (try simp [-map_take,-map_drop, push_cast, dAV, dC, rC, numC, ← tens.eq_1, strD, g1, g2, hb, bytesD_size, bytesD_add, s1, s2]))
      | with_reducible refine W_drawn mixed (by decide) (by kernel_rfl) ?_
      | (rw [vcnD]; (try simp [-map_take,-map_drop, push_cast, dAV, dC, rC, numC, ← tens.eq_1, strD, g1, g2, hb, bytesD_size, bytesD_add, s1, s2]))
      | fail)
    refine callD_of (e3') rfl rfl rfl ?_
    try dsimp only
    repeat' (first
      | (rw [vcnD]; (try simp [-map_take,-map_drop, push_cast, dAV, dC, rC, numC, ← tens.eq_1, strD, g1, g2, hb, bytesD_size, bytesD_add, s1, s2]))
      | fail)
    refine callD_of (e4) rfl rfl rfl ?_
    try dsimp only
    repeat' (first
      | with_reducible apply thenW_n
      | with_reducible refine W_rg ?_
      | (rw [vcn]; (try simp [-map_take,-map_drop, push_cast, dAV, dC, rC, numC, ← tens.eq_1, strD, g1, g2, hb, bytesD_size, bytesD_add, s1, s2]))
      | (rw [vcnD]; (try simp [-map_take,-map_drop, push_cast, dAV, dC, rC, numC, ← tens.eq_1, strD, g1, g2, hb, bytesD_size, bytesD_add, s1, s2]))
      | (with_reducible refine W_condW ?_; (try simp [-map_take,-map_drop, AS.val, upd, resB, mkS_env, mkS_box, lk, entry_env, condW_true, condW_false, dAV, dC, rC, numC, ← tens.eq_1, strD, g1, g2, hb, bytesD_size, bytesD_add, s1, s2]))
      | refine And.intro (by first | omega | kernel_rfl) ?_
      | fail)
    refine CallG_of (e5) rfl rfl rfl ?_
    try dsimp only
    repeat' (first
      | with_reducible first | apply thenW_n | apply W_seq | apply W_ret
      | with_reducible refine W_rg ?_
      | (rw [vcn]; (try simp [-map_take,-map_drop, push_cast, dAV, dC, rC, numC, ← tens.eq_1, strD, g1, g2, hb, bytesD_size, bytesD_add, s1, s2]))
      | fail)
    simp [-map_take,-map_drop, post, resAV, resAll, resOne, closeV, closeC, closeL, resD, resDL, push_cast, strD]
end Go.Fw
namespace Go.Fw
open Go Go.Proofs Go.IntWalk
def txtV (v : V2) : List Nat := ratText v.x ++ (32 :: ratText v.y)
theorem ptText_v (p : FP) : ptText p = txtV p.v := rfl
theorem textQ_ok (z w : Int) (q : Rat) (hw : 0 < w) (e : (z : Rat) = q * (w : Rat)) (h : szD z + szD w ≤ 1000000) : Eval Try.prog 15 [ratD z w] (.ret (strD (ratText q))) := by
  have := text03_ok z w hw h
  rwa [dv_of hw e] at this
end Go.Fw

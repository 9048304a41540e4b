/- gds: the law GdsTrees. -/
import Derived.Test.YtjgbikhnnkigpaaGp44
import Derived.Test.YtjgbikhnnkigpaaGp36
set_option linter.unusedSimpArgs false
set_option linter.unusedVariables false
-- VALS: recAV
namespace Go.Fw
open Go Go.Proofs Go.IntWalk
set_option linter.unusedSimpArgs false
set_option maxRecDepth 100000
set_option maxHeartbeats 4000000
open List (map_take map_drop)
attribute [local push_cast] optK_some optK_none optK_ite optK_map optK_bind gOn stepK isMem evPure evMem evBin evUn evConv evLen evBuiltin evMinMax evSlice evBuild evAppend evIndex evIndexAddr evField evFieldAddr intBin strBin appDest AS.val AS.mem AS.elems AS.put AS.put' AS.eff AV.cells? AV.isCell AV.refs all_isByte take_byteV drop_byteV strOf_map bndOk bnd partAV ptrAdd killBox catA inOrder fillA setAt ofVal resB upd byteV List.head?_take List.head?_drop List.getElem?_map mkS_env mkS_box mkS_used entry_env entry_box entry_used lk stepD lookIds Oper.looksAt Op.operands Call.operands St.ids refsL renL_append dV_take dV_drop ren renL renBox Box.refs iV i64V boolV dV_getElem dV_app dV_cons toNat_add2 toNat_add1
theorem lawTrees_ok (t : Lib) (hfit : LibFit t) (x y : Int) : Eval Try.prog 12 [libAV t, i64V x, i64V y] (.ret (.v (.bool true))) := by
  have hfw := few7_ok t hfit
  have hk := known_ok
  have hlaw := fun h => few_law (t := t) h
  have hff := fit_flat hfit
  have hW := fun h1 h2 => write_ok t h1 h2 (fun r hr => by have := hff r hr; omega)
  have hjb := joinB_bsum (flatS t)
  have hs := sameLib_ok t t true (by simp [-map_take,-map_drop])
  obtain ⟨fw, hfwe⟩ : ∃ b, b = fewS t := ⟨_, rfl⟩
  rw [← hfwe] at hfw hlaw
  have hW2 : fw = true → Eval Try.prog 40 [libAV t] (.ret (writeAV t)) := fun h => by
    obtain ⟨h1, h2⟩ := hlaw h
    exact hW (by omega) (fun h => by have := hjb h; omega)
  have hwr : fw = true → (∃ e : Int, e ≠ 0 ∧ writeAV t = .tup [nilV, i64V e]) ∨ ∃ B : List UInt8, 4 ≤ B.length ∧ B.length ≤ 302000 ∧ writeAV t = .tup [.slc false 1 B.length (B.map byteV), i64V 0] ∧
      (∀ k, k ≤ 100 → readS (B ++ List.replicate k 0) = some (t, B.length)) ∧ (∀ j, j < B.length → readS (B.take j) = none) ∧ readS (B ++ [0, 7]) = none := fun h => by
    obtain ⟨h1, h2⟩ := hlaw h
    rw [writeAV]
    by_cases hv : validS t = true
    · rw [if_pos hv]
      by_cases hok : joinOk (flatS t) = true
      · have hb := hjb hok
        obtain ⟨r1, r2, r3, r4⟩ := write_read hv hok (by omega)
        rw [if_neg (fun h => by omega), joinAV, if_pos hok]
        exact .inr ⟨joinB (flatS t), r4, by omega, rfl, r1, r2, r3⟩
      · rw [if_neg (fun h => hok h.1), joinAV, if_neg hok]
        exact .inl ⟨3, by decide, rfl⟩
    · rw [if_neg hv]
      exact .inl ⟨3, by decide, rfl⟩
  clear hW hjb hlaw hfwe hff hfit
  obtain ⟨H, cs⟩ := t
  obtain ⟨A, hA⟩ : ∃ A, A = recsCells H := ⟨_, rfl⟩
  obtain ⟨K, hK⟩ : ∃ A, A = cellsCells cs := ⟨_, rfl⟩
  have hAr : refsL A = [] := by rw [hA]; exact recsCells_refs _
  have hKr : refsL K = [] := by rw [hK]; exact cellsCells_refs _
  have hlib : libAV (H, cs) = .agg [.slc false 3 H.length A, .slc false 2 cs.length K] := by rw [hA, hK]; rfl
  rw [hlib] at hfw hW2 hs ⊢
  clear hA hK
  refine Eval.intro Try.func12 rfl Try.call12 _ _ (Nat.le_of_ble_eq_true rfl) (by simp [-map_take,-map_drop, natAV, recAV, push_cast]) fun hs0 => ?_
  clear hs0
  refine W_seq ?_
  refine W_joinQ (X := Unit) (fun _ => [(1, i64V x), (2, i64V y), (3, .bp 3 0)]) (fun _ => [(3, .mut 58 [.slc false 3 H.length A, .slc false 2 cs.length K])]) (fun _ => True) ?_ fun _ _ => ?_
  · repeat' (first
      | with_reducible refine W_rg ?_
      | (rw [vcn]; (try simp [-map_take,-map_drop, push_cast]))
      | fail)
    refine joinW_n () id trivial ⟨?_, ?_, ?_, ?_, ?_, ?_⟩
    all_goals first | (simp [-map_take,-map_drop, push_cast, hAr, hKr]; done)
  cases fw with
  | false =>
    repeat' (first
      | with_reducible apply W_seq
      | with_reducible refine W_rg ?_
      | (rw [vcn]; (try simp [-map_take,-map_drop, push_cast]))
      | fail)
    refine CallG_of (hfw) rfl rfl rfl ?_
    try dsimp only
    repeat' (first
      | with_reducible first | apply thenW_n | apply W_seq
      | with_reducible refine W_rg ?_
      | (rw [vcn]; (try simp [-map_take,-map_drop, push_cast]))
      | (with_reducible refine W_condW ?_; (try simp [-map_take,-map_drop, AS.val, upd, resB, mkS_env, mkS_box, lk, entry_env, condW_true, condW_false]))
      | fail)
    refine CallG_of (hk) rfl rfl rfl ?_
    try dsimp only
    repeat' (first
      | with_reducible first | apply thenW_n | apply thenW_ret | apply W_ret
      | (rw [vcn]; (try simp [-map_take,-map_drop, push_cast]))
      | fail)
    simp [-map_take,-map_drop, post, resAV, resAll, resOne, closeV, closeC, closeL, resD, resDL, push_cast]
  | true =>
  have hW2 := hW2 rfl
  rcases hwr rfl with ⟨e, he, hwe⟩ | ⟨B, hB4, hBl, hwe, hr1, hr2, hr3⟩
  · rw [hwe] at hW2
    simp only [nilV] at hW2
    have g1 : (e != 0) = true := by rw [bne_iff_ne]; exact he
    have g1' : (e == 0) = false := by rw [beq_eq_false_iff_ne]; exact he
    have g1'' : (e = 0) = False := eq_false he
    repeat' (first
      | with_reducible apply W_seq
      | with_reducible refine W_rg ?_
      | (rw [vcn]; (try simp [-map_take,-map_drop, push_cast]))
      | fail)
    refine CallG_of (hfw) rfl rfl rfl ?_
    try dsimp only
    repeat' (first
      | with_reducible first | apply thenW_n | apply W_seq | apply W_skip
      | with_reducible refine W_rg ?_
      | (rw [vcn]; (try simp [-map_take,-map_drop, push_cast]))
      | (with_reducible refine W_condW ?_; (try simp [-map_take,-map_drop, AS.val, upd, resB, mkS_env, mkS_box, lk, entry_env, condW_true, condW_false]))
      | fail)
    refine CallG_of (hW2) rfl rfl rfl ?_
    try dsimp only
    repeat' (first
      | with_reducible first | apply thenW_n | apply W_seq
      | with_reducible refine W_rg ?_
      | (rw [vcn]; (try simp [-map_take,-map_drop, push_cast]))
      | fail)
    refine CallG_of (hk) rfl rfl rfl ?_
    try dsimp only
    repeat' (first
      | with_reducible first | apply thenW_n | apply W_seq
      | with_reducible refine W_rg ?_
      | (rw [vcn]; (try simp [-map_take,-map_drop, push_cast, g1, g1', g1'']))
      | (with_reducible refine W_condW ?_; (try simp [-map_take,-map_drop, AS.val, upd, resB, mkS_env, mkS_box, lk, entry_env, condW_true, condW_false, g1, g1', g1'']))
      | fail)
    refine CallG_of (hk) rfl rfl rfl ?_
    try dsimp only
    repeat' (first
      | with_reducible first | apply thenW_n | apply thenW_ret | apply W_ret
      | (rw [vcn]; (try simp [-map_take,-map_drop, push_cast]))
      | fail)
    simp [-map_take,-map_drop, post, resAV, resAll, resOne, closeV, closeC, closeL, resD, resDL, push_cast]
  rw [hwe] at hW2
  have hcp := lawCopied_ok false B (by omega)
  obtain ⟨k, hk1, hk9⟩ : ∃ k : Nat, (IntKind.u64.wrap y).tmod 50 = (k : Int) ∧ k ≤ 50 := by
    have h := wrap_u64' y
    rw [h, Int.tmod_eq_emod_of_nonneg (by omega)]
    exact ⟨(y % 18446744073709551616 % 50).toNat, by omega, by omega⟩
  obtain ⟨n, hn⟩ : ∃ n, n = B.length := ⟨_, rfl⟩
  rw [← hn] at hB4 hBl hcp hr1 hr2 hW2
  obtain ⟨j, hj1, hj9⟩ : ∃ j : Nat, (IntKind.u64.wrap x).tmod (n : Int) = (j : Int) ∧ j < n := by
    have h := wrap_u64' x
    have h0 : 0 ≤ IntKind.u64.wrap x := by rw [h]; omega
    rw [Int.tmod_eq_emod_of_nonneg h0]
    have h1 := Int.emod_nonneg (IntKind.u64.wrap x) (b := (n : Int)) (by omega)
    have h2 := Int.emod_lt_of_pos (IntKind.u64.wrap x) (b := (n : Int)) (by omega)
    exact ⟨((IntKind.u64.wrap x) % (n : Int)).toNat, by omega, by omega⟩
  have hp0 := read_ok false (B ++ List.replicate k 0) (by rw [List.length_append, List.length_replicate, ← hn]; omega)
  have hp1 := read_ok false (B.take j) (by rw [List.length_take]; omega)
  have hp2 := read_ok false (B ++ [0, 7]) (by rw [List.length_append, ← hn]; simp [-map_take,-map_drop]; omega)
  rw [readAV, hr1 k (by omega)] at hp0
  simp only at hp0
  rw [hlib] at hp0
  rw [readAV, hr2 j hj9] at hp1
  rw [readAV, hr3] at hp2
  simp only [nilV] at hp0 hp1 hp2
  obtain ⟨D, hD⟩ : ∃ A, A = B.map byteV := ⟨_, rfl⟩
  have hDr : refsL D = [] := by rw [hD]; exact refsL_bytes _
  have hDn : ∀ ρ, renL ρ D = D := fun ρ => renL_id ρ _ hDr
  have hDl : D.length = n := by rw [hD, hn]; simp [-map_take,-map_drop]
  obtain ⟨Z, hZ⟩ : ∃ Z, Z = List.replicate k (AV.v (.int .u8 0)) := ⟨_, rfl⟩
  have hZb : (List.replicate k (0 : UInt8)).map byteV = Z := by rw [hZ, List.map_replicate]; rfl
  have hZr : refsL Z = [] := by rw [← hZb]; exact refsL_bytes _
  have hZn : ∀ ρ, renL ρ Z = Z := fun ρ => renL_id ρ _ hZr
  have hZl : Z.length = k := by rw [hZ]; simp [-map_take,-map_drop]
  have e0 : (B ++ List.replicate k 0).map byteV = D ++ Z := by rw [List.map_append, hZb, hD]
  have e1 : (B.take j).map byteV = D.take j := by rw [List.map_take, hD]
  have e2 : (B ++ [0, 7]).map byteV = D ++ [byteV 0, byteV 7] := by rw [List.map_append, hD]; rfl
  have l0 : (B ++ List.replicate k (0 : UInt8)).length = n + k := by rw [List.length_append, List.length_replicate, hn]
  have l1 : (B.take j).length = j := by rw [List.length_take, ← hn]; omega
  have l2 : (B ++ [(0 : UInt8), 7]).length = n + 2 := by rw [List.length_append, ← hn]; rfl
  rw [e0, l0] at hp0
  rw [e1, l1] at hp1
  rw [e2, l2] at hp2
  rw [← hD] at hcp hW2
  have hDZ_refs : refsL (D ++ Z) = [] := by rw [refsL_append, hDr, hZr]; rfl
  have hD2_refs : refsL (D ++ [AV.v (.int .u8 0), AV.v (.int .u8 7)]) = [] := by rw [refsL_append, hDr]; rfl
  have htk0 : (D ++ Z).take (n + k) = D ++ Z := List.take_of_length_le (by rw [List.length_append, hDl, hZl]; omega)
  have htk2 : (D ++ [AV.v (.int .u8 0), AV.v (.int .u8 7)]).take (n + 2) = D ++ [AV.v (.int .u8 0), AV.v (.int .u8 7)] := List.take_of_length_le (by rw [List.length_append, hDl]; simp [-map_take,-map_drop])
  clear hr1 hr2 hr3 e0 e1 e2 l0 l1 l2 hwe hwr hD hn
  refine W_seq ?_
  refine W_joinQ (X := Unit) (fun _ => [(1, i64V x), (2, i64V y), (3, .bp 3 0)]) (fun _ => [(3, .mut 58 [.slc false 3 H.length A, .slc false 2 cs.length K])]) (fun _ => True) ?_ fun _ _ => ?_
  · repeat' (first
      | with_reducible apply W_seq
      | with_reducible refine W_rg ?_
      | (rw [vcn]; (try simp [-map_take,-map_drop, push_cast]))
      | fail)
    refine CallG_of (hfw) rfl rfl rfl ?_
    try dsimp only
    repeat' (first
      | with_reducible first | apply thenW_n | apply W_skip
      | (rw [vcn]; (try simp [-map_take,-map_drop, push_cast]))
      | (with_reducible refine W_condW ?_; (try simp [-map_take,-map_drop, AS.val, upd, resB, mkS_env, mkS_box, lk, entry_env, condW_true, condW_false]))
      | fail)
    refine joinW_n () id trivial ⟨?_, ?_, ?_, ?_, ?_, ?_⟩
    all_goals first | (simp [-map_take,-map_drop, push_cast, hAr, hKr]; done)
  refine W_seq ?_
  refine W_joinQ (X := Unit) (fun _ => [(1, i64V x), (2, i64V y), (3, .bp 3 0), (7, .slc false 1 n D), (8, i64V 0)]) (fun _ => [(3, .mut 58 [.slc false 3 H.length A, .slc false 2 cs.length K])]) (fun _ => True) ?_ fun _ _ => ?_
  · repeat' (first
      | with_reducible refine W_rg ?_
      | (rw [vcn]; (try simp [-map_take,-map_drop, push_cast]))
      | fail)
    refine CallG_of (hW2) rfl rfl rfl ?_
    try dsimp only
    repeat' (first
      | (rw [vcn]; (try simp [-map_take,-map_drop, push_cast]))
      | fail)
    refine joinW_n () id trivial ⟨?_, ?_, ?_, ?_, ?_, ?_⟩
    all_goals first | (simp [-map_take,-map_drop, push_cast, hAr, hKr, hDr]; done)
  refine W_seq ?_
  refine W_joinQ (X := Unit) (fun _ => [(1, i64V x), (2, i64V y), (3, .bp 3 0), (7, .slc false 1 n D)]) (fun _ => [(3, .mut 58 [.slc false 3 H.length A, .slc false 2 cs.length K])]) (fun _ => True) ?_ fun _ _ => ?_
  · repeat' (first
      | with_reducible apply W_seq
      | with_reducible refine W_rg ?_
      | (rw [vcn]; (try simp [-map_take,-map_drop, push_cast]))
      | fail)
    refine CallG_of (hk) rfl rfl rfl ?_
    try dsimp only
    repeat' (first
      | with_reducible first | apply thenW_n | apply W_skip
      | (rw [vcn]; (try simp [-map_take,-map_drop, push_cast]))
      | (with_reducible refine W_condW ?_; (try simp [-map_take,-map_drop, AS.val, upd, resB, mkS_env, mkS_box, lk, entry_env, condW_true, condW_false]))
      | fail)
    refine joinW_n () id trivial ⟨?_, ?_, ?_, ?_, ?_, ?_⟩
    all_goals first | (simp [-map_take,-map_drop, push_cast, hAr, hKr, hDr]; done)
  have hkw : IntKind.i64.wrap ((k : Int)) = (k : Int) := by rw [i64_in _ (by omega)]
  have hjw : IntKind.i64.wrap ((j : Int)) = (j : Int) := by rw [i64_in _ (by omega)]
  have hnw : IntKind.u64.wrap ((n : Int)) = (n : Int) := by rw [u64_in _ (by omega)]
  have hn0 : ((n : Int) = 0) = False := eq_false (by omega)
  have hn0' : (n = 0) = False := eq_false (by omega)
  have gk1 : ((k : Int) ≤ 1000000) = True := eq_true (by omega)
  have gk2 : (k ≤ 1000000) = True := eq_true (by omega)
  have gn1 : (0 < n) = True := eq_true (by omega)
  have gn2 : (n ≤ 1000000000) = True := eq_true (by omega)
  have gj : (j ≤ n) = True := eq_true (by omega)
  refine W_seq ?_
  refine W_joinQ (X := Unit) (fun _ => [(1, i64V x), (3, .bp 3 0), (7, .slc false 1 n D), (9, .bp 9 0), (10, i64V (n : Int)), (11, i64V 0)]) (fun _ => [(3, .mut 58 [.slc false 3 H.length A, .slc false 2 cs.length K]), (9, .mut 58 [.slc false 3 H.length A, .slc false 2 cs.length K])]) (fun _ => True) ?_ fun _ _ => ?_
  · repeat' (first
      | with_reducible refine W_rg ?_
      | (rw [vcn]; (try simp [-map_take,-map_drop, push_cast]))
      | fail)
    refine CallG_ofOwn 900 (hcp) (by first | rfl | (simp [-map_take,-map_drop, natAV, numC, ← limbs.eq_1, push_cast]; done)) (by simp [-map_take,-map_drop, natAV, push_cast]) (by simp [-map_take,-map_drop, mkS_used, entry_used]) ?_
    try dsimp only
    repeat' (first
      | (rw [vcn]; (try simp [-map_take,-map_drop, push_cast, hkw, hk1, gk1, gk2, gn1, gn2, hDl, ← hZ]))
      | fail)
    refine CallG_frz _ _ rfl ?_ (hp0) ?_ (by simp [-map_take,-map_drop, push_cast]) rfl ?_
    · first | (simp [-map_take,-map_drop, frzS, resDL, resD, push_cast, hDl, hZl, htk0, hDZ_refs]; done) | (simp [-map_take,-map_drop, frzS, resDL, resD, push_cast, hDl, hZl, htk0, hDZ_refs]; rw [List.take_of_length_le (by simp [-map_take,-map_drop])]; done) | (simp [-map_take,-map_drop, frzS, resDL, resD, push_cast, hDl, hZl, htk0, hDZ_refs]; fail_if_success done)
    · simp [-map_take,-map_drop, frzOk, push_cast, hDZ_refs]
    try dsimp only
    try simp only [refsL, AV.refs, frzS, List.append_nil, upd, mkS_box, entry_box, lk, if_true, if_false]
    repeat' (first
      | (rw [vcn]; (try simp [-map_take,-map_drop, push_cast, frzS]))
      | fail)
    refine joinW_n () id trivial ⟨?_, ?_, ?_, ?_, ?_, ?_⟩
    all_goals first | (simp [-map_take,-map_drop, push_cast, hAr, hKr, hDr, frzS]; done)
  refine W_seq ?_
  refine W_joinQ (X := Unit) (fun _ => [(3, .bp 3 0), (7, .slc false 1 n D), (9, .bp 9 0), (10, i64V (n : Int)), (11, i64V 0), (14, i64V 20)]) (fun _ => [(3, .mut 58 [.slc false 3 H.length A, .slc false 2 cs.length K]), (9, .mut 58 [.slc false 3 H.length A, .slc false 2 cs.length K])]) (fun _ => True) ?_ fun _ _ => ?_
  · repeat' (first
      | with_reducible refine W_rg ?_
      | (rw [vcn]; (try simp [-map_take,-map_drop, push_cast, hjw, hnw, hn0, hn0', hj1, gj]))
      | fail)
    refine CallG_of (hp1) rfl rfl rfl ?_
    try dsimp only
    repeat' (first
      | (rw [vcn]; (try simp [-map_take,-map_drop, push_cast]))
      | fail)
    refine joinW_n () id trivial ⟨?_, ?_, ?_, ?_, ?_, ?_⟩
    all_goals first | (simp [-map_take,-map_drop, push_cast, hAr, hKr, hDr]; done)
  refine W_seq ?_
  refine W_joinQ (X := Unit) (fun _ => [(3, .bp 3 0), (7, .slc false 1 n D), (9, .bp 9 0), (10, i64V (n : Int)), (11, i64V 0), (14, i64V 20), (17, i64V 20)]) (fun _ => [(3, .mut 58 [.slc false 3 H.length A, .slc false 2 cs.length K]), (9, .mut 58 [.slc false 3 H.length A, .slc false 2 cs.length K])]) (fun _ => True) ?_ fun _ _ => ?_
  · repeat' (first
      | with_reducible refine W_rg ?_
      | (rw [vcn]; (try simp [-map_take,-map_drop, push_cast]))
      | fail)
    refine CallG_ofOwn 900 (hcp) (by first | rfl | (simp [-map_take,-map_drop, natAV, numC, ← limbs.eq_1, push_cast]; done)) (by simp [-map_take,-map_drop, natAV, push_cast]) (by simp [-map_take,-map_drop, mkS_used, entry_used]) ?_
    try dsimp only
    repeat' (first
      | (rw [vcn]; (try simp [-map_take,-map_drop, push_cast, hDl]))
      | refine And.intro (by first | omega | kernel_rfl) ?_
      | fail)
    refine CallG_frz _ _ rfl ?_ (hp2) ?_ (by simp [-map_take,-map_drop, push_cast]) rfl ?_
    · first | (simp [-map_take,-map_drop, frzS, resDL, resD, push_cast, hDl, htk2, hD2_refs]; done) | (simp [-map_take,-map_drop, frzS, resDL, resD, push_cast, hDl, htk2, hD2_refs]; rw [List.take_of_length_le (by simp [-map_take,-map_drop])]; done) | (simp [-map_take,-map_drop, frzS, resDL, resD, push_cast, hDl, htk2, hD2_refs]; fail_if_success done)
    · simp [-map_take,-map_drop, frzOk, push_cast, hD2_refs]
    try dsimp only
    try simp only [refsL, AV.refs, frzS, List.append_nil, upd, mkS_box, entry_box, lk, if_true, if_false]
    repeat' (first
      | (rw [vcn]; (try simp [-map_take,-map_drop, push_cast, frzS]))
      | fail)
    refine joinW_n () id trivial ⟨?_, ?_, ?_, ?_, ?_, ?_⟩
    all_goals first | (simp [-map_take,-map_drop, push_cast, hAr, hKr, hDr, frzS]; done)
  repeat' (first
    | with_reducible apply W_seq
    | with_reducible refine W_rg ?_
    | (rw [vcn]; (try simp [-map_take,-map_drop, push_cast]))
    | fail)
  refine CallG_of (hs) rfl rfl rfl ?_
  try dsimp only
  repeat' (first
    | with_reducible first | apply thenW_n | apply W_ret
    | (rw [vcn]; (try simp [-map_take,-map_drop, push_cast]))
    | fail)
  simp [-map_take,-map_drop, post, resAV, resAll, resOne, closeV, closeC, closeL, resD, resDL, push_cast]
end Go.Fw

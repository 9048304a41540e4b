/- The law PairTurns comes to true: the walk. -/
import Derived.Test.YtgpfebgjcbacnaaV2
set_option linter.unusedSimpArgs false
set_option linter.unusedVariables false
-- VALS: zAV, zC, ratAV, ratC, ptAV, ptC, sgAV, sgC, d3sAV, d3C, dC, dotAV
namespace Go.Fw
open Go Go.Proofs Go.IntWalk
set_option linter.unusedSimpArgs false
set_option maxRecDepth 100000
set_option maxHeartbeats 20000000

theorem fitsB_eq {k l : Int} {e f g h : FSg} {d c : Int} (i : fitsD k e.v f.v d ↔ fitsD l g.v h.v c) : fitsB k e f d = fitsB l g h c := by
  rw [Bool.eq_iff_iff, fitsB_iff, fitsB_iff, i]
theorem fitsB_swap {k : Int} (hk : k ≠ 5) (e f : FSg) (d : Int) : fitsB k f e d = fitsB k e f d :=
  fitsB_eq ⟨fits_swap hk _ _ _, fits_swap hk _ _ _⟩
theorem fitsB_more {k : Int} {e f : FSg} {d g : Int} (hdg : d < g) (h : fitsB k e f d = true) : fitsB k e f g = true :=
  (fitsB_iff _ _ _ _).2 (fits_more (by omega) ((fitsB_iff _ _ _ _).1 h))
theorem fitsB_space (e f : FSg) (d : Int) : fitsB 2 e.tn f.tn d = fitsB 1 e f d := fitsB_eq (fits_space e.v f.v d)
theorem fitsB_around (e f : FSg) (d : Int) : fitsB 5 f.tn e.tn d = fitsB 5 e f d := fitsB_eq (fits_around e.v f.v d)

open List (map_take map_drop)
attribute [local push_cast] optK_some optK_none optK_ite optK_map optK_bind gOn stepK isMem evPure evMem evBin evUn evConv evLen evBuiltin evMinMax evSlice evBuild evAppend evIndex evIndexAddr evField evFieldAddr intBin strBin appDest AS.val AS.mem AS.elems AS.put AS.put' AS.eff AV.cells? AV.isCell AV.refs all_isByte take_byteV drop_byteV strOf_map bndOk bnd partAV ptrAdd killBox catA inOrder fillA setAt ofVal resB upd byteV List.head?_take List.head?_drop List.getElem?_map mkS_env mkS_box mkS_used entry_env entry_box entry_used lk stepD lookIds Oper.looksAt Op.operands Call.operands St.ids refsL renL_append ren renL renBox Box.refs iV i64V boolV dV_getElem dV_app dV_cons toNat_add2 toNat_add1
attribute [local simp ↓] numC_refs numC_isCell numC_cells numC_resB numC_resD numC_ren numC_closeC numC_isOwn
theorem lawTurns_ok (a b c d : Int × Int × Int) (n m : Int) (ha : inD a) (hb : inD b) (hc : inD c) (hd : inD d) (hn : inI n) (hm : inI m) : Eval Try.prog 3 [dotAV a, dotAV b, dotAV c, dotAV d, i64V n, i64V m] (.ret (.v (.bool true))) := by
  refine Eval.intro Try.func3 rfl Try.call3 _ _ (Nat.le_of_ble_eq_true rfl) (by simp [-map_take,-map_drop, AV.refs, refsL, natAV, zAV, zC, ratAV, ratC, ptAV, ptC, sgAV, sgC, d3sAV, d3C, dC, dotAV, push_cast]) fun hs0 => ?_
  have s1 := seg19_ok a b ha hb
  have s2 := seg19_ok c d hc hd
  have he := HS.dots ha hb
  have hf := HS.dots hc hd
  obtain ⟨e, h1⟩ : ∃ e, e = dotsF a b := ⟨_, rfl⟩
  obtain ⟨f, h2⟩ : ∃ e, e = dotsF c d := ⟨_, rfl⟩
  rw [← h1] at s1 he
  rw [← h2] at s2 hf
  clear h1 h2
  repeat' (first
    | with_reducible first | apply thenW_n | apply W_seq
    | with_reducible refine W_region (by first | decide | (with_unfolding_all rfl)) ?_
    | (rw [vcn]; (try simp [-map_take,-map_drop, push_cast, dotAV]))
    | fail)
  refine CallG_of (s1) rfl rfl rfl ?_
  try dsimp only
  repeat' (first
    | with_reducible first | apply thenW_n | apply W_seq
    | with_reducible refine W_region (by first | decide | (with_unfolding_all rfl)) ?_
    | (rw [vcn]; (try simp [-map_take,-map_drop, push_cast, sgAV, sgC, ptAV, ptC, ratAV, ratC, zAV, zC, d3sAV, d3C, dC]))
    | fail)
  refine CallG_of (s2) rfl rfl rfl ?_
  try dsimp only
  repeat' (first
    | with_reducible first | apply thenW_n | apply W_seq | apply W_block
    | with_reducible refine W_region (by first | decide | (with_unfolding_all rfl)) ?_
    | (rw [vcn]; (try simp [-map_take,-map_drop, push_cast, sgAV, sgC, ptAV, ptC, ratAV, ratC, zAV, zC, d3sAV, d3C, dC]))
    | fail)
  refine W_loopW (X := Nat) (fun k => [(4, i64V n), (5, i64V m), (13, .bp 13 0), (15, .bp 15 0), (17, i64V k)]) (fun _ => [(13, .mut 34 (sgC e)), (15, .mut 34 (sgC f))])
    (fun k => 7 - k) (fun k => 1 ≤ k ∧ k ≤ 7) 1 id ⟨by omega, by omega⟩ ⟨?_, ?_, ?_, ?_, ?_, ?_⟩ fun k hk => ?_
  all_goals first | (with_reducible refine W_id ?_) | (simp [-map_take,-map_drop, push_cast, dV_take, dV_drop, sgC, ptC, ratC, zC]; done)
  obtain ⟨k1, k7⟩ := hk
  by_cases hk : k = 7
  · subst hk
    have t1 := turn19_ok e
    have t2 := turn19_ok f
    have f1 := fits_ok 2 e.tn f.tn n hn he.tn hf.tn
    have f2 := fits_ok 1 e f n hn he hf
    have f3 := fits_ok 5 f.tn e.tn n hn hf.tn he.tn
    have f4 := fits_ok 5 e f n hn he hf
    rw [fitsB_space] at f1
    rw [fitsB_around] at f3
    obtain ⟨u, hu⟩ : ∃ u, u = fitsB 1 e f n := ⟨_, rfl⟩
    obtain ⟨v, hv⟩ : ∃ u, u = fitsB 5 e f n := ⟨_, rfl⟩
    rw [← hu] at f1 f2
    rw [← hv] at f3 f4
    obtain ⟨g, hg⟩ : ∃ g, g = e.tn := ⟨_, rfl⟩
    obtain ⟨h, hh⟩ : ∃ g, g = f.tn := ⟨_, rfl⟩
    rw [← hg] at t1 f1 f3
    rw [← hh] at t2 f1 f3
    clear hu hv hg hh he hf
    repeat' (first
      | with_reducible first | apply thenW_n | apply thenW_exit | apply blockW_same | apply loopW_exit | apply W_seq | apply W_exit
      | with_reducible refine W_region (by first | decide | (with_unfolding_all rfl)) ?_
      | (rw [vcn]; (try simp [-map_take,-map_drop, push_cast]))
      | with_reducible refine W_drawn mixed (by decide) (by kernel_rfl) ?_
      | (rw [vcnD]; (try simp [-map_take,-map_drop, push_cast]))
      | (with_reducible refine W_condW ?_; (try simp [-map_take,-map_drop, AS.val, upd, resB, mkS_env, mkS_box, lk, entry_env, condW_true, condW_false]))
      | fail)
    refine callD_of (known19_ok) rfl rfl rfl ?_
    try dsimp only
    repeat' (first
      | (rw [vcnD]; (try simp [-map_take,-map_drop, push_cast, sgAV, sgC, ptAV, ptC, ratAV, ratC, zAV, zC]))
      | fail)
    refine callD_of (t1) rfl rfl rfl ?_
    try dsimp only
    repeat' (first
      | (rw [vcnD]; (try simp [-map_take,-map_drop, push_cast, sgAV, sgC, ptAV, ptC, ratAV, ratC, zAV, zC]))
      | fail)
    refine callD_of (t2) rfl rfl rfl ?_
    try dsimp only
    repeat' (first
      | (rw [vcnD]; (try simp [-map_take,-map_drop, push_cast, sgAV, sgC, ptAV, ptC, ratAV, ratC, zAV, zC]))
      | fail)
    refine callD_of (f1) rfl rfl rfl ?_
    try dsimp only
    repeat' (first
      | (rw [vcnD]; (try simp [-map_take,-map_drop, push_cast, sgAV, sgC, ptAV, ptC, ratAV, ratC, zAV, zC]))
      | fail)
    refine callD_of (f2) rfl rfl rfl ?_
    try dsimp only
    repeat' (first
      | (rw [vcnD]; (try simp [-map_take,-map_drop, push_cast, sgAV, sgC, ptAV, ptC, ratAV, ratC, zAV, zC]))
      | fail)
    refine callD_of (t2) rfl rfl rfl ?_
    try dsimp only
    repeat' (first
      | (rw [vcnD]; (try simp [-map_take,-map_drop, push_cast, sgAV, sgC, ptAV, ptC, ratAV, ratC, zAV, zC]))
      | fail)
    refine callD_of (t1) rfl rfl rfl ?_
    try dsimp only
    repeat' (first
      | (rw [vcnD]; (try simp [-map_take,-map_drop, push_cast, sgAV, sgC, ptAV, ptC, ratAV, ratC, zAV, zC]))
      | fail)
    refine callD_of (f3) rfl rfl rfl ?_
    try dsimp only
    repeat' (first
      | (rw [vcnD]; (try simp [-map_take,-map_drop, push_cast, sgAV, sgC, ptAV, ptC, ratAV, ratC, zAV, zC]))
      | fail)
    refine callD_of (f4) rfl rfl rfl ?_
    try dsimp only
    repeat' (first
      | with_reducible first | apply thenW_n | apply W_ret
      | (rw [vcnD]; (try simp [-map_take,-map_drop, push_cast]))
      | refine And.intro (by first | omega | kernel_rfl) ?_
      | fail)
    simp [-map_take,-map_drop, post, resAV, resAll, resOne, closeV, closeC, closeL, resD, resDL, push_cast]
  · have g1 : ((k : Int) ≤ 6) = True := eq_true (by omega)
    have g2 : (k ≤ 6) = True := eq_true (by omega)
    have w1 : IntKind.i64.wrap ((k : Int) + 1) = ((k + 1 : Nat) : Int) := by rw [i64_in _ (by omega)]; omega
    have f1 := fits_ok k e f n hn he hf
    have f2 := fits_ok k f e n hn hf he
    have f3 := fits_ok k e f m hm he hf
    have q2 := fun h : (k : Int) ≠ 5 => fitsB_swap h e f n
    have q3 := fun (h : n < m) (h1 : fitsB k e f n = true) => fitsB_more h h1
    obtain ⟨u, hu⟩ : ∃ u, u = fitsB k e f n := ⟨_, rfl⟩
    obtain ⟨v, hv⟩ : ∃ u, u = fitsB k f e n := ⟨_, rfl⟩
    obtain ⟨w, hw⟩ : ∃ u, u = fitsB k e f m := ⟨_, rfl⟩
    rw [← hu] at f1 q2 q3
    rw [← hv] at f2 q2
    rw [← hw] at f3 q3
    clear hu hv hw he hf
    by_cases h5 : k = 5
    · subst h5
      have e5 : ((5 : Nat) : Int) = 5 := rfl
      rw [e5] at f1 f2 f3
      repeat' (first
        | with_reducible first | apply thenW_n | apply W_seq | apply W_block | apply W_skip
        | with_reducible refine W_region (by first | decide | (with_unfolding_all rfl)) ?_
        | (rw [vcn]; (try simp [-map_take,-map_drop, push_cast, g1, g2, sgAV, sgC, ptAV, ptC, ratAV, ratC, zAV, zC]))
        | (with_reducible refine W_condW ?_; (try simp [-map_take,-map_drop, AS.val, upd, resB, mkS_env, mkS_box, lk, entry_env, condW_true, condW_false, g1, g2, sgAV, sgC, ptAV, ptC, ratAV, ratC, zAV, zC]))
        | fail)
      refine CallG_of (f1) rfl rfl rfl ?_
      try dsimp only
      cases u with
      | false =>
        repeat' (first
          | with_reducible first | apply thenW_n | apply blockW_n | apply W_seq | apply W_skip
          | with_reducible refine W_region (by first | decide | (with_unfolding_all rfl)) ?_
          | (rw [vcn]; (try simp [-map_take,-map_drop, push_cast, g1, g2, w1]); try simp (disch := omega) only [i64_in, u64_in, shr64i])
          | (with_reducible refine W_condW ?_; (try simp [-map_take,-map_drop, AS.val, upd, resB, mkS_env, mkS_box, lk, entry_env, condW_true, condW_false, g1, g2, w1]))
          | fail)
        refine loopW_n 6 id (by omega) ⟨by omega, by omega⟩ ⟨?_, ?_, ?_, ?_, ?_, ?_⟩
        all_goals first | (simp [-map_take,-map_drop, push_cast, dV_take, dV_drop, sgC, ptC, ratC, zC]; done)
      | true =>
        by_cases hnm : n < m
        · have q3 := q3 hnm rfl
          subst q3
          have g3 : (n < m) = True := eq_true hnm
          repeat' (first
            | with_reducible first | apply thenW_n | apply W_seq
            | with_reducible refine W_region (by first | decide | (with_unfolding_all rfl)) ?_
            | (rw [vcn]; (try simp [-map_take,-map_drop, push_cast, g1, g2, g3, sgAV, sgC, ptAV, ptC, ratAV, ratC, zAV, zC]))
            | fail)
          refine CallG_of (f3) rfl rfl rfl ?_
          try dsimp only
          repeat' (first
            | with_reducible first | apply thenW_n | apply blockW_n | apply W_skip
            | with_reducible refine W_region (by first | decide | (with_unfolding_all rfl)) ?_
            | (rw [vcn]; (try simp [-map_take,-map_drop, push_cast, g1, g2, g3, w1]); try simp (disch := omega) only [i64_in, u64_in, shr64i])
            | (with_reducible refine W_condW ?_; (try simp [-map_take,-map_drop, AS.val, upd, resB, mkS_env, mkS_box, lk, entry_env, condW_true, condW_false, g1, g2, g3, w1]))
            | fail)
          refine loopW_n 6 id (by omega) ⟨by omega, by omega⟩ ⟨?_, ?_, ?_, ?_, ?_, ?_⟩
          all_goals first | (simp [-map_take,-map_drop, push_cast, dV_take, dV_drop, sgC, ptC, ratC, zC]; done)
        · have g3 : (n < m) = False := eq_false hnm
          repeat' (first
            | with_reducible first | apply thenW_n | apply blockW_n | apply W_seq | apply W_skip
            | with_reducible refine W_region (by first | decide | (with_unfolding_all rfl)) ?_
            | (rw [vcn]; (try simp [-map_take,-map_drop, push_cast, g1, g2, g3, w1]); try simp (disch := omega) only [i64_in, u64_in, shr64i])
            | (with_reducible refine W_condW ?_; (try simp [-map_take,-map_drop, AS.val, upd, resB, mkS_env, mkS_box, lk, entry_env, condW_true, condW_false, g1, g2, g3, w1]))
            | fail)
          refine loopW_n 6 id (by omega) ⟨by omega, by omega⟩ ⟨?_, ?_, ?_, ?_, ?_, ?_⟩
          all_goals first | (simp [-map_take,-map_drop, push_cast, dV_take, dV_drop, sgC, ptC, ratC, zC]; done)
    · have g5 : ((k : Int) = 5) = False := eq_false (by omega)
      have g5' : (k = 5) = False := eq_false h5
      have q2 := q2 (by omega)
      subst q2
      repeat' (first
        | with_reducible first | apply thenW_n | apply W_seq | apply W_block | apply W_skip
        | with_reducible refine W_region (by first | decide | (with_unfolding_all rfl)) ?_
        | (rw [vcn]; (try simp [-map_take,-map_drop, push_cast, g1, g2, g5, g5', sgAV, sgC, ptAV, ptC, ratAV, ratC, zAV, zC]))
        | (with_reducible refine W_condW ?_; (try simp [-map_take,-map_drop, AS.val, upd, resB, mkS_env, mkS_box, lk, entry_env, condW_true, condW_false, g1, g2, g5, g5', sgAV, sgC, ptAV, ptC, ratAV, ratC, zAV, zC]))
        | fail)
      refine CallG_of (f1) rfl rfl rfl ?_
      try dsimp only
      repeat' (first
        | with_reducible first | apply thenW_n | apply W_seq
        | with_reducible refine W_region (by first | decide | (with_unfolding_all rfl)) ?_
        | (rw [vcn]; (try simp [-map_take,-map_drop, push_cast, g1, g2, g5, g5', sgAV, sgC, ptAV, ptC, ratAV, ratC, zAV, zC]))
        | fail)
      refine CallG_of (f2) rfl rfl rfl ?_
      try dsimp only
      cases v with
      | false =>
        repeat' (first
          | with_reducible first | apply thenW_n | apply blockW_n | apply W_skip
          | with_reducible refine W_region (by first | decide | (with_unfolding_all rfl)) ?_
          | (rw [vcn]; (try simp [-map_take,-map_drop, push_cast, g1, g2, g5, g5', w1]))
          | (with_reducible refine W_condW ?_; (try simp [-map_take,-map_drop, AS.val, upd, resB, mkS_env, mkS_box, lk, entry_env, condW_true, condW_false, g1, g2, g5, g5', w1]))
          | fail)
        refine loopW_n (k + 1) id (by omega) ⟨by omega, by omega⟩ ⟨?_, ?_, ?_, ?_, ?_, ?_⟩
        all_goals first | (simp [-map_take,-map_drop, push_cast, dV_take, dV_drop, sgC, ptC, ratC, zC]; done)
      | true =>
        by_cases hnm : n < m
        · have q3 := q3 hnm rfl
          subst q3
          have g3 : (n < m) = True := eq_true hnm
          repeat' (first
            | (rw [vcn]; (try simp [-map_take,-map_drop, push_cast, g1, g2, g3, g5, g5', sgAV, sgC, ptAV, ptC, ratAV, ratC, zAV, zC]))
            | fail)
          refine CallG_of (f3) rfl rfl rfl ?_
          try dsimp only
          repeat' (first
            | with_reducible first | apply thenW_n | apply blockW_n | apply W_skip
            | with_reducible refine W_region (by first | decide | (with_unfolding_all rfl)) ?_
            | (rw [vcn]; (try simp [-map_take,-map_drop, push_cast, g1, g2, g3, g5, g5', w1]))
            | (with_reducible refine W_condW ?_; (try simp [-map_take,-map_drop, AS.val, upd, resB, mkS_env, mkS_box, lk, entry_env, condW_true, condW_false, g1, g2, g3, g5, g5', w1]))
            | fail)
          refine loopW_n (k + 1) id (by omega) ⟨by omega, by omega⟩ ⟨?_, ?_, ?_, ?_, ?_, ?_⟩
          all_goals first | (simp [-map_take,-map_drop, push_cast, dV_take, dV_drop, sgC, ptC, ratC, zC]; done)
        · have g3 : (n < m) = False := eq_false hnm
          repeat' (first
            | with_reducible first | apply thenW_n | apply blockW_n | apply W_skip
            | with_reducible refine W_region (by first | decide | (with_unfolding_all rfl)) ?_
            | (rw [vcn]; (try simp [-map_take,-map_drop, push_cast, g1, g2, g3, g5, g5', w1]))
            | (with_reducible refine W_condW ?_; (try simp [-map_take,-map_drop, AS.val, upd, resB, mkS_env, mkS_box, lk, entry_env, condW_true, condW_false, g1, g2, g3, g5, g5', w1]))
            | fail)
          refine loopW_n (k + 1) id (by omega) ⟨by omega, by omega⟩ ⟨?_, ?_, ?_, ?_, ?_, ?_⟩
          all_goals first | (simp [-map_take,-map_drop, push_cast, dV_take, dV_drop, sgC, ptC, ratC, zC]; done)
end Go.Fw

/- The law WindBeside comes to true: the walk. -/
import Derived.Test.YtmmkclefdpmjlaaRi1b
import Derived.Test.YtmmkclefdpmjlaaRq4b
set_option linter.unusedSimpArgs false
set_option linter.unusedVariables false
-- VALS: zAV, zC, ratAV, ratC, ptAV, ptC, sgAV, sgC, d3AV, d3C, dAV, dC, rAV, rC, DP.av, dpC, dotAV, DP.av2
namespace Go.Fw
open Go Go.Proofs Go.IntWalk
set_option linter.unusedSimpArgs false
set_option maxRecDepth 100000
set_option maxHeartbeats 20000000
open List (map_take map_drop)
attribute [local push_cast] optK_some optK_none optK_ite optK_map optK_bind gOn stepK isMem evPure evMem evBin evUn evConv evLen evBuiltin evMinMax evSlice evBuild evAppend evIndex evIndexAddr evField evFieldAddr intBin strBin appDest AS.val AS.mem AS.elems AS.put AS.put' AS.eff AV.cells? AV.isCell AV.refs all_isByte take_byteV drop_byteV strOf_map bndOk bnd partAV ptrAdd killBox catA inOrder fillA setAt ofVal resB upd byteV List.head?_take List.head?_drop List.getElem?_map mkS_env mkS_box mkS_used entry_env entry_box entry_used lk stepD lookIds Oper.looksAt Op.operands Call.operands St.ids refsL renL_append ren renL renBox Box.refs iV i64V boolV dV_getElem dV_app dV_cons toNat_add2 toNat_add1
attribute [local simp ↓] numC_refs numC_isCell numC_cells numC_resB numC_resD numC_ren numC_closeC numC_isOwn
theorem lawBeside_ok (l : List (Int × Int)) (a b : Int × Int × Int) (hI : ∀ p ∈ l, inP p) (ha : inD a) (hb : inD b) : Eval Try.prog 6 [.slc false 2 l.length (ptsI l), dotAV a, dotAV b] (.ret (.v (.bool true))) := by
  have e1 := few13_ok l hI
  obtain ⟨m, hm⟩ : ∃ m, m = l.take 30 := ⟨_, rfl⟩
  have hIm : ∀ p ∈ m, inP p := fun p hp => hI p (List.mem_of_mem_take (by rw [← hm]; exact hp))
  have hml : m.length ≤ 30 := by rw [hm, List.length_take]; omega
  have zp := (HD.dot ha).sz
  have zq := (HD.dot hb).sz
  have a1 := at11_ok' a ha
  have a2 := at11_ok' b hb
  have a3 := l11At_ok' a ha
  have a4 := l11At_ok' b hb
  have za : szP3 (dotD a) ≤ 20 := DB.sz' (DB.dot13 ha)
  have zb : szP3 (dotD b) ≤ 20 := DB.sz' (DB.dot13 hb)
  have hDB := rowDg_DB hIm
  have hHG : ∀ q ∈ rowG m, HG q := HG.grid hIm
  have egrid := windGrid_ok false m hIm (by omega)
  have ebes := beside_ok false (rowG m) ⟨dtF13 a, dtF13 b⟩ hHG (by rw [rowG_len]; omega) (by show szV (dotF _ _ _) + szV (dotF _ _ _) ≤ 100; omega)
  have ecmp := cmp11_ok (dotD a) (dotD b) (by omega)
  have efair := fair13_ok false (rowDg m) (dotD a) (dotD b) (by rw [rowDg_len]; omega) hDB (by omega)
  have ebes3 := beside13_ok false (rowDg m) (dotD a) (dotD b) (by rw [rowDg_len]; omega) hDB za zb
  have hlaw := beside_same m a b hIm ha hb hml
  rw [← hm] at e1
  rw [rowG_len] at ebes
  rw [rowDg_len] at efair ebes3
  obtain ⟨L, hL⟩ : ∃ L, L = ptsI m := ⟨_, rfl⟩
  obtain ⟨D, hD⟩ : ∃ L, L = dpsC (rowDg m) := ⟨_, rfl⟩
  obtain ⟨GL, hGL⟩ : ∃ x, x = ptsC (rowG m) := ⟨_, rfl⟩
  obtain ⟨n, hn⟩ : ∃ n, n = m.length := ⟨_, rfl⟩
  have hLr : refsL L = [] := by rw [hL]; exact ptsI_refs _
  have hDr : refsL D = [] := by rw [hD]; exact dpsC_refs _
  have hGr : refsL GL = [] := by rw [hGL]; exact ptsC_refs _
  rw [← hL, ← hD, ← hn] at e1
  rw [← hL, ← hGL, ← hn] at egrid
  rw [← hGL, ← hn] at ebes
  rw [← hD, ← hn] at efair ebes3
  have hp : dotF a.1 a.2.1 a.2.2 = dtF13 a := rfl
  have hq : dotF b.1 b.2.1 b.2.2 = dtF13 b := rfl
  rw [hp] at a3
  rw [hq] at a4
  obtain ⟨L0, hL0⟩ : ∃ L, L = ptsI l := ⟨_, rfl⟩
  have hL0r : refsL L0 = [] := by rw [hL0]; exact ptsI_refs _
  rw [← hL0] at e1 ⊢
  obtain ⟨n0, hn0⟩ : ∃ n, n = l.length := ⟨_, rfl⟩
  rw [← hn0] at e1 ⊢
  obtain ⟨FA, hFA⟩ : ∃ T, T = (List.range n).all (fair3 (rowDg m) (dotD a) (dotD b)) := ⟨_, rfl⟩
  rw [← hn, ← hFA] at hlaw
  rw [← hFA] at efair
  clear hL hD hGL hL0 hn0 hm hI hIm zp zq hDB hHG hml hp hq za zb hFA
  obtain ⟨N1, nm_⟩ : ∃ nm0_, nm0_ = (besideF (rowG m) ⟨dtF13 a, dtF13 b⟩).1 := ⟨_, rfl⟩
  simp only [← nm_] at ebes hlaw
  clear nm_
  obtain ⟨N2, nm_⟩ : ∃ nm0_, nm0_ = (besideF (rowG m) ⟨dtF13 a, dtF13 b⟩).2 := ⟨_, rfl⟩
  simp only [← nm_] at ebes hlaw
  clear nm_
  obtain ⟨M1, nm_⟩ : ∃ nm0_, nm0_ = (beside3 (rowDg m) (dotD a) (dotD b)).1 := ⟨_, rfl⟩
  simp only [← nm_] at ebes3 hlaw
  clear nm_
  obtain ⟨M2, nm_⟩ : ∃ nm0_, nm0_ = (beside3 (rowDg m) (dotD a) (dotD b)).2 := ⟨_, rfl⟩
  simp only [← nm_] at ebes3 hlaw
  clear nm_
  obtain ⟨cab, nm_⟩ : ∃ nm0_, nm0_ = cmp3 (dotD a) (dotD b) := ⟨_, rfl⟩
  simp only [← nm_] at ecmp hlaw
  clear nm_
  obtain ⟨P, nm_⟩ : ∃ nm0_, nm0_ = dtF13 a := ⟨_, rfl⟩
  simp only [← nm_] at a3 ebes
  clear nm_
  obtain ⟨Q, nm_⟩ : ∃ nm0_, nm0_ = dtF13 b := ⟨_, rfl⟩
  simp only [← nm_] at a4 ebes
  clear nm_
  obtain ⟨u, nm_⟩ : ∃ nm0_, nm0_ = dotD a := ⟨_, rfl⟩
  simp only [← nm_] at a1 ecmp efair ebes3
  clear nm_
  obtain ⟨v, nm_⟩ : ∃ nm0_, nm0_ = dotD b := ⟨_, rfl⟩
  simp only [← nm_] at a2 ecmp efair ebes3
  clear nm_
  obtain ⟨A, hA⟩ : ∃ A, A = dpC u := ⟨_, rfl⟩
  obtain ⟨B, hB⟩ : ∃ A, A = dpC v := ⟨_, rfl⟩
  have hAl : A.length = 6 := by rw [hA]; rfl
  have hBl : B.length = 6 := by rw [hB]; rfl
  have hA_refs : refsL A = [] := by rw [hA]; rfl
  have hB_refs : refsL B = [] := by rw [hB]; rfl
  have hAp : u.av = .agg A := by rw [hA]; rfl
  have hBp : v.av = .agg B := by rw [hB]; rfl
  have hABp : DP.av2 u v = .agg (A ++ B) := by rw [hA, hB]; rfl
  have tA0 : A.take 6 = A := List.take_of_length_le (by omega)
  have tB0 : B.take 6 = B := List.take_of_length_le (by omega)
  have tAB : (A ++ B).take 12 = A ++ B := List.take_of_length_le (by rw [List.length_append]; omega)
  have tAB6 : (A ++ B).take 6 = A := List.take_left' hAl
  have dAB6 : (A ++ B).drop 6 = B := List.drop_left' hAl
  have lAB : (A ++ B).length = 12 := by rw [List.length_append]; omega
  have hAB_refs : refsL (A ++ B) = [] := by rw [refsL_append, hA_refs, hB_refs]; rfl
  have ar12 : ∀ a b c d e f : AV, (A ++ [a, b, c, d, e, f]).drop 12 = [] := fun a b c d e f => List.drop_eq_nil_of_le (by rw [List.length_append, hAl]; simp [-map_take,-map_drop])
  rw [hAp] at a1
  rw [hBp] at a2
  rw [hAp, hBp] at ecmp
  rw [hABp] at efair ebes3
  clear hA hB hAp hBp hABp
  unfold dotAV at a1 a2 a3 a4 ⊢
  obtain ⟨a0, a1', a2'⟩ := a
  obtain ⟨b0, b1', b2'⟩ := b
  simp only at a1 a2 a3 a4 ⊢
  clear ha hb
  refine Eval.intro Try.func6 rfl Try.call6 _ _ (Nat.le_of_ble_eq_true rfl) (by simp [-map_take,-map_drop, AV.refs, refsL, natAV, zAV, zC, ratAV, ratC, ptAV, ptC, sgAV, sgC, d3AV, d3C, dAV, dC, rAV, rC, DP.av, dpC, dotAV, DP.av2, push_cast]) fun hs0 => ?_
  repeat' (first
    | with_reducible first | apply thenW_n | apply W_seq
    | with_reducible refine W_rg ?_
    | (rw [vcn]; (try simp [-map_take,-map_drop, push_cast, hL0r]))
    | fail)
  refine CallG_of (e1) rfl rfl rfl ?_
  try dsimp only
  repeat' (first
    | with_reducible first | apply thenW_n | apply W_seq
    | (rw [vcn]; (try simp [-map_take,-map_drop, push_cast, hL0r, hLr, hDr]))
    | with_reducible refine W_drawn mixed (by decide) (by kernel_rfl) ?_
    | (rw [vcnD]; (try simp [-map_take,-map_drop, push_cast, hL0r, hLr, hDr]))
    | fail)
  refine callD_of (a1) rfl rfl rfl ?_
  try dsimp only
  repeat' (first
    | (rw [vcnD]; (try simp [-map_take,-map_drop, push_cast, hA_refs]))
    | fail)
  refine callD_of (a2) rfl rfl rfl ?_
  try dsimp only
  repeat' (first
    | (rw [vcnD]; (try simp [-map_take,-map_drop, push_cast, hA_refs, hB_refs, tA0, tB0, hAl, hBl, ar12, lAB, tAB]))
    | refine And.intro (by first | omega | kernel_rfl) ?_
    | fail)
  refine thenW_n ?_
  refine W_frz 8 (e := 68) (l := A ++ B) (by simp [-map_take,-map_drop, mkS_box, lk, upd, ar12]) hAB_refs ?_
  repeat' (first
    | with_reducible apply W_seq
    | with_reducible refine W_drawn mixed (by decide) (by kernel_rfl) ?_
    | (rw [vcnD]; (try simp [-map_take,-map_drop, push_cast, hLr]))
    | fail)
  refine callD_of (egrid) rfl rfl rfl ?_
  try dsimp only
  repeat' (first
    | (rw [vcnD]; (try simp [-map_take,-map_drop, push_cast, hLr, hGr]))
    | fail)
  refine callD_of (a3) rfl rfl rfl ?_
  try dsimp only
  repeat' (first
    | (rw [vcnD]; (try simp [-map_take,-map_drop, push_cast, ptAV, ptC, ratAV, ratC, zAV, zC]))
    | fail)
  refine callD_of (a4) rfl rfl rfl ?_
  try dsimp only
  repeat' (first
    | (rw [vcnD]; (try simp [-map_take,-map_drop, push_cast, hGr, sgAV, sgC, ptAV, ptC, ratAV, ratC, zAV, zC]))
    | fail)
  refine callD_of (ebes) rfl rfl rfl ?_
  try dsimp only
  repeat' (first
    | with_reducible first | apply thenW_n | apply W_seq
    | with_reducible refine W_rg ?_
    | (rw [vcn]; (try simp [-map_take,-map_drop, push_cast]))
    | (rw [vcnD]; (try simp [-map_take,-map_drop, push_cast]))
    | refine And.intro (by first | omega | kernel_rfl) ?_
    | fail)
  refine CallG_of (known13_ok) rfl rfl rfl ?_
  try dsimp only
  repeat' (first
    | (rw [vcn]; (try simp [-map_take,-map_drop, push_cast, boolV, tAB6, dAB6, lAB, hAB_refs, tA0, tB0, hAl, hBl, hA_refs, hB_refs]))
    | fail)
  refine CallG_of (ecmp) rfl (by simp [-map_take,-map_drop, natAV, zAV, zC, ratAV, ratC, ptAV, ptC, sgAV, sgC, d3AV, d3C, dAV, dC, rAV, rC, DP.av, dpC, dotAV, DP.av2, AV.refs, refsL, push_cast, hA_refs, hB_refs]) rfl ?_
  try dsimp only
  by_cases hc : cab = 0
  · subst hc
    obtain ⟨l1, l2⟩ := hlaw (.inl rfl)
    subst l1
    subst l2
    repeat' (first
      | with_reducible first | apply thenW_n | apply W_seq | apply W_skip
      | with_reducible refine W_rg ?_
      | (rw [vcn]; (try simp [-map_take,-map_drop, push_cast, boolV, hDr, lAB, tAB, hAB_refs]))
      | (with_reducible refine W_condW ?_; (try simp [-map_take,-map_drop, AS.val, upd, resB, mkS_env, mkS_box, lk, entry_env, condW_true, condW_false, boolV, hDr, lAB, tAB, hAB_refs]))
      | fail)
    refine CallG_of (ebes3) rfl (by simp [-map_take,-map_drop, natAV, zAV, zC, ratAV, ratC, ptAV, ptC, sgAV, sgC, d3AV, d3C, dAV, dC, rAV, rC, DP.av, dpC, dotAV, DP.av2, AV.refs, refsL, push_cast, hAB_refs]) rfl ?_
    try dsimp only
    repeat' (first
      | with_reducible first | apply thenW_n | apply W_seq | apply W_ret
      | with_reducible refine W_rg ?_
      | (rw [vcn]; (try simp [-map_take,-map_drop, push_cast]))
      | fail)
    simp [-map_take,-map_drop, post, resAV, resAll, resOne, closeV, closeC, closeL, resD, resDL, push_cast, boolV]
  · have x1 : (cab == 0) = false := beq_eq_false_iff_ne.2 hc
    have x1' : (cab = 0) = False := eq_false hc
    repeat' (first
      | (rw [vcn]; (try simp [-map_take,-map_drop, push_cast, boolV, x1, x1', hDr, lAB, tAB, hAB_refs]))
      | fail)
    refine CallG_of (efair) rfl (by simp [-map_take,-map_drop, natAV, zAV, zC, ratAV, ratC, ptAV, ptC, sgAV, sgC, d3AV, d3C, dAV, dC, rAV, rC, DP.av, dpC, dotAV, DP.av2, AV.refs, refsL, push_cast, hAB_refs]) rfl ?_
    try dsimp only
    cases FA
    · repeat' (first
        | with_reducible first | apply thenW_n | apply W_seq
        | with_reducible refine W_rg ?_
        | (rw [vcn]; (try simp [-map_take,-map_drop, push_cast, boolV, x1, x1']))
        | (with_reducible refine W_condW ?_; (try simp [-map_take,-map_drop, AS.val, upd, resB, mkS_env, mkS_box, lk, entry_env, condW_true, condW_false, boolV, x1, x1']))
        | fail)
      refine CallG_of (known13_ok) rfl rfl rfl ?_
      try dsimp only
      repeat' (first
        | with_reducible first | apply thenW_n | apply thenW_ret | apply W_ret
        | (rw [vcn]; (try simp [-map_take,-map_drop, push_cast, boolV]))
        | fail)
      simp [-map_take,-map_drop, post, resAV, resAll, resOne, closeV, closeC, closeL, resD, resDL, push_cast, boolV]
    · obtain ⟨l1, l2⟩ := hlaw (.inr rfl)
      subst l1
      subst l2
      repeat' (first
        | with_reducible first | apply thenW_n | apply W_seq | apply W_skip
        | with_reducible refine W_rg ?_
        | (rw [vcn]; (try simp [-map_take,-map_drop, push_cast, boolV, x1, x1', hDr, lAB, tAB, hAB_refs]))
        | (with_reducible refine W_condW ?_; (try simp [-map_take,-map_drop, AS.val, upd, resB, mkS_env, mkS_box, lk, entry_env, condW_true, condW_false, boolV, x1, x1', hDr, lAB, tAB, hAB_refs]))
        | fail)
      refine CallG_of (ebes3) rfl (by simp [-map_take,-map_drop, natAV, zAV, zC, ratAV, ratC, ptAV, ptC, sgAV, sgC, d3AV, d3C, dAV, dC, rAV, rC, DP.av, dpC, dotAV, DP.av2, AV.refs, refsL, push_cast, hAB_refs]) rfl ?_
      try dsimp only
      repeat' (first
        | with_reducible first | apply thenW_n | apply W_seq | apply W_ret
        | with_reducible refine W_rg ?_
        | (rw [vcn]; (try simp [-map_take,-map_drop, push_cast]))
        | fail)
      simp [-map_take,-map_drop, post, resAV, resAll, resOne, closeV, closeC, closeL, resD, resDL, push_cast, boolV]
end Go.Fw

/- ref13.Mid, ref13.Fair: the walks. -/
import Derived.Test.YtmmkclefdpmjlaaRg4b
set_option linter.unusedSimpArgs false
set_option linter.unusedVariables false
-- VALS: d3AV, d3C, dAV, dC, rAV, rC, DP.av, dpC, ratD, RD.av, DP.av2
namespace Go.Fw
open Go Go.Proofs Go.IntWalk
set_option linter.unusedSimpArgs false
set_option maxRecDepth 100000
set_option maxHeartbeats 20000000
def mid3 (a b : DP) : DP := ⟨a.x * b.w + b.x * a.w, a.y * b.w + b.y * a.w, 2 * (a.w * b.w)⟩
theorem mid3_sz (a b : DP) : szP3 (mid3 a b) ≤ 3 * (szP3 a + szP3 b) + 10 := by
  have h1 := szD_mul a.x b.w
  have h2 := szD_mul b.x a.w
  have h3 := szD_add (a.x * b.w) (b.x * a.w)
  have h4 := szD_mul a.y b.w
  have h5 := szD_mul b.y a.w
  have h6 := szD_add (a.y * b.w) (b.y * a.w)
  have h7 := szD_mul a.w b.w
  have h8 := szD_mul 2 (a.w * b.w)
  have h9 : szD 2 ≤ 1 := by decide +kernel
  unfold szP3 mid3
  simp only
  omega
def fair3 (l : List DP) (a b : DP) (i : Nat) : Bool :=
  !(on3 (l.getD i nilD) (l.getD ((i + 1) % l.length) nilD) (mid3 a b) && (decide (side3 a b (l.getD i nilD) ≠ 0) || decide (side3 a b (l.getD ((i + 1) % l.length) nilD) ≠ 0)))
open List (map_take map_drop)
attribute [local push_cast] optK_some optK_none optK_ite optK_map optK_bind gOn stepK isMem evPure evMem evBin evUn evConv evLen evBuiltin evMinMax evSlice evBuild evAppend evIndex evIndexAddr evField evFieldAddr intBin strBin appDest AS.val AS.mem AS.elems AS.put AS.put' AS.eff AV.cells? AV.isCell AV.refs all_isByte take_byteV drop_byteV strOf_map bndOk bnd partAV ptrAdd killBox catA inOrder fillA setAt ofVal resB upd byteV List.head?_take List.head?_drop List.getElem?_map mkS_env mkS_box mkS_used entry_env entry_box entry_used lk stepD lookIds Oper.looksAt Op.operands Call.operands St.ids refsL renL_append ren renL renBox Box.refs iV i64V boolV dV_getElem dV_app dV_cons toNat_add2 toNat_add1
attribute [local simp ↓] numC_refs numC_isCell numC_cells numC_resB numC_resD numC_ren numC_closeC numC_isOwn
theorem mid13_ok (a b : DP) (h : szP3 a + szP3 b ≤ 100000) : Eval Try.prog 30 [DP.av2 a b] (.ret (mid3 a b).av) := by
  have y1 := szD_mul a.x b.w
  have y2 := szD_mul b.x a.w
  have y3 := szD_mul a.y b.w
  have y4 := szD_mul b.y a.w
  have y5 := szD_mul a.w b.w
  have y6 : szD 2 ≤ 1 := by decide +kernel
  unfold szP3 at h
  unfold szD at h y1 y2 y3 y4 y5 y6
  have e1 := mul02_ok a.x b.w (by omega)
  have e2 := mul02_ok b.x a.w (by omega)
  have e3 := add02_ok (a.x * b.w) (b.x * a.w) (by omega)
  have e4 := mul02_ok a.y b.w (by omega)
  have e5 := mul02_ok b.y a.w (by omega)
  have e6 := add02_ok (a.y * b.w) (b.y * a.w) (by omega)
  have e7 := of02_ok 2 (by unfold inI; omega)
  have e8 := mul02_ok a.w b.w (by omega)
  have e9 := mul02_ok 2 (a.w * b.w) (by omega)
  clear y1 y2 y3 y4 y5 y6 h
  unfold mid3
  obtain ⟨s1, nm_⟩ : ∃ nm0_, nm0_ = a.x * b.w + b.x * a.w := ⟨_, rfl⟩
  simp only [← nm_] at e3 ⊢
  clear nm_
  obtain ⟨s2, nm_⟩ : ∃ nm0_, nm0_ = a.y * b.w + b.y * a.w := ⟨_, rfl⟩
  simp only [← nm_] at e6 ⊢
  clear nm_
  obtain ⟨s3, nm_⟩ : ∃ nm0_, nm0_ = 2 * (a.w * b.w) := ⟨_, rfl⟩
  simp only [← nm_] at e9 ⊢
  clear nm_
  obtain ⟨m1, nm_⟩ : ∃ nm0_, nm0_ = a.x * b.w := ⟨_, rfl⟩
  simp only [← nm_] at e1 e3
  clear nm_
  obtain ⟨m2, nm_⟩ : ∃ nm0_, nm0_ = b.x * a.w := ⟨_, rfl⟩
  simp only [← nm_] at e2 e3
  clear nm_
  obtain ⟨m3, nm_⟩ : ∃ nm0_, nm0_ = a.y * b.w := ⟨_, rfl⟩
  simp only [← nm_] at e4 e6
  clear nm_
  obtain ⟨m4, nm_⟩ : ∃ nm0_, nm0_ = b.y * a.w := ⟨_, rfl⟩
  simp only [← nm_] at e5 e6
  clear nm_
  obtain ⟨m5, nm_⟩ : ∃ nm0_, nm0_ = a.w * b.w := ⟨_, rfl⟩
  simp only [← nm_] at e8 e9
  clear nm_
  obtain ⟨ax, ay, aw⟩ := a
  obtain ⟨bx, by', bw⟩ := b
  simp only [DP.av, DP.av2] at e1 e2 e4 e5 e8 ⊢
  obtain ⟨two, h2⟩ : ∃ t : Int, t = 2 := ⟨_, rfl⟩
  have e7' : Eval Try.prog 35 [i64V 2] (.ret (dAV two)) := by rw [h2]; exact e7
  rw [← h2] at e9
  clear e7 h2
  refine Eval.intro Try.func30 rfl Try.call30 _ _ (Nat.le_of_ble_eq_true rfl) (by simp [-map_take,-map_drop, AV.refs, refsL, natAV, d3AV, d3C, dAV, dC, rAV, rC, DP.av, dpC, ratD, RD.av, DP.av2, push_cast]) fun hs0 => ?_
  repeat' (first
    | with_reducible first | apply thenW_n | apply W_seq
    | with_reducible refine W_rg ?_
    | (rw [vcn]; (try simp [-map_take,-map_drop, push_cast, d3AV, d3C, dC, rC, numC, ← tens.eq_1]))
    | with_reducible refine W_drawn mixed (by decide) (by kernel_rfl) ?_
    | (rw [vcnD]; (try simp [-map_take,-map_drop, push_cast, d3AV, d3C, dC, rC, numC, ← tens.eq_1]))
    | fail)
  refine callD_of (e1) rfl rfl rfl ?_
  try dsimp only
  repeat' (first
    | (rw [vcnD]; (try simp [-map_take,-map_drop, push_cast, d3AV, d3C, dC, rC, numC, ← tens.eq_1, dAV]))
    | fail)
  refine callD_of (e2) rfl rfl rfl ?_
  try dsimp only
  repeat' (first
    | (rw [vcnD]; (try simp [-map_take,-map_drop, push_cast, d3AV, d3C, dC, rC, numC, ← tens.eq_1, dAV]))
    | fail)
  refine callD_of (e3) rfl rfl rfl ?_
  try dsimp only
  repeat' (first
    | (rw [vcnD]; (try simp [-map_take,-map_drop, push_cast, d3AV, d3C, dC, rC, numC, ← tens.eq_1, dAV]))
    | fail)
  refine callD_of (e4) rfl rfl rfl ?_
  try dsimp only
  repeat' (first
    | (rw [vcnD]; (try simp [-map_take,-map_drop, push_cast, d3AV, d3C, dC, rC, numC, ← tens.eq_1, dAV]))
    | fail)
  refine callD_of (e5) rfl rfl rfl ?_
  try dsimp only
  repeat' (first
    | (rw [vcnD]; (try simp [-map_take,-map_drop, push_cast, d3AV, d3C, dC, rC, numC, ← tens.eq_1, dAV]))
    | fail)
  refine callD_of (e6) rfl rfl rfl ?_
  try dsimp only
  repeat' (first
    | (rw [vcnD]; (try simp [-map_take,-map_drop, push_cast, d3AV, d3C, dC, rC, numC, ← tens.eq_1, dAV]))
    | fail)
  refine callD_of (e7') rfl rfl rfl ?_
  try dsimp only
  repeat' (first
    | (rw [vcnD]; (try simp [-map_take,-map_drop, push_cast, d3AV, d3C, dC, rC, numC, ← tens.eq_1, dAV]))
    | fail)
  refine callD_of (e8) rfl rfl rfl ?_
  try dsimp only
  repeat' (first
    | (rw [vcnD]; (try simp [-map_take,-map_drop, push_cast, d3AV, d3C, dC, rC, numC, ← tens.eq_1, dAV]))
    | fail)
  refine callD_of (e9) rfl rfl rfl ?_
  try dsimp only
  repeat' (first
    | with_reducible first | apply thenW_n | apply W_ret
    | (rw [vcnD]; (try simp [-map_take,-map_drop, push_cast, d3AV, d3C, dC, rC, numC, ← tens.eq_1, dAV]))
    | refine And.intro (by first | omega | kernel_rfl) ?_
    | fail)
  simp [-map_take,-map_drop, post, resAV, resAll, resOne, closeV, closeC, closeL, resD, resDL, push_cast, d3AV, d3C, dAV, dC, rC, numC, ← tens.eq_1]
theorem fair13_ok (f : Bool) (l : List DP) (a b : DP) (hl : l.length ≤ 1000) (h : ∀ p ∈ l, DB p) (hab : szP3 a + szP3 b ≤ 1000) : Eval Try.prog 28 [.slc f 6 l.length (dpsC l), DP.av2 a b] (.ret (boolV ((List.range l.length).all (fair3 l a b)))) := by
  obtain ⟨n, hn⟩ : ∃ n, n = l.length := ⟨_, rfl⟩
  obtain ⟨L, hL⟩ : ∃ x, x = dpsC l := ⟨_, rfl⟩
  have hLr : refsL L = [] := by rw [hL]; exact dpsC_refs _
  have hLn : ∀ ρ, renL ρ L = L := fun ρ => renL_id ρ _ hLr
  have hLl : L.length = n * 6 := by rw [hL, hn, dpsC_len]
  have hat : ∀ i, i < n → ∃ t, L.drop (i * 6) = dpC (l.getD i nilD) ++ t := fun i hi => by
    rw [hL, List.getD_eq_getElem?_getD, List.getElem?_eq_getElem (by omega)]
    exact dpsC_at l i (by omega)
  have hz : ∀ i, szP3 (l.getD i nilD) ≤ 20 := fun i => (DB.at h i).sz'
  have hmz := mid3_sz a b
  have em := mid13_ok a b (by omega)
  rw [← hn] at hl ⊢
  rw [← hL]
  clear hL h
  obtain ⟨F, hF⟩ : ∃ F, F = fair3 l a b := ⟨_, rfl⟩
  have hFi : ∀ i, F i = !(on3 (l.getD i nilD) (l.getD ((i + 1) % n) nilD) (mid3 a b) && (decide (side3 a b (l.getD i nilD) ≠ 0) || decide (side3 a b (l.getD ((i + 1) % n) nilD) ≠ 0))) := fun i => by rw [hF, hn]; rfl
  rw [← hF]
  obtain ⟨M, hM⟩ : ∃ M, M = mid3 a b := ⟨_, rfl⟩
  rw [← hM] at em hFi hmz
  obtain ⟨A, hA⟩ : ∃ A, A = dpC a := ⟨_, rfl⟩
  obtain ⟨B, hB⟩ : ∃ A, A = dpC b := ⟨_, rfl⟩
  obtain ⟨C, hC⟩ : ∃ A, A = dpC M := ⟨_, rfl⟩
  have hAl : A.length = 6 := by rw [hA]; rfl
  have hBl : B.length = 6 := by rw [hB]; rfl
  have hCl : C.length = 6 := by rw [hC]; rfl
  have hA_refs : refsL A = [] := by rw [hA]; rfl
  have hB_refs : refsL B = [] := by rw [hB]; rfl
  have hC_refs : refsL C = [] := by rw [hC]; rfl
  have hAp : a.av = .agg A := by rw [hA]; rfl
  have hBp : b.av = .agg B := by rw [hB]; rfl
  have hCp : M.av = .agg C := by rw [hC]; rfl
  have hAB : DP.av2 a b = .agg (A ++ B) := by rw [hA, hB]; rfl
  have tA0 : A.take 6 = A := List.take_of_length_le (by omega)
  have tB0 : B.take 6 = B := List.take_of_length_le (by omega)
  have tC0 : C.take 6 = C := List.take_of_length_le (by omega)
  have tAB : (A ++ B).take 12 = A ++ B := List.take_of_length_le (by rw [List.length_append]; omega)
  have tAB6 : (A ++ B).take 6 = A := List.take_left' hAl
  have dAB6 : (A ++ B).drop 6 = B := List.drop_left' hAl
  have lAB : (A ++ B).length = 12 := by rw [List.length_append]; omega
  have hAB_refs : refsL (A ++ B) = [] := by rw [refsL_append, hA_refs, hB_refs]; rfl
  have nAB : ∀ ρ, renL ρ (A ++ B) = A ++ B := fun ρ => renL_id ρ _ hAB_refs
  have nC : ∀ ρ, renL ρ C = C := fun ρ => renL_id ρ _ hC_refs
  rw [hAB, hCp] at em
  rw [hAB]
  obtain ⟨AB, eAB⟩ : ∃ x, x = A ++ B := ⟨_, rfl⟩
  rw [← eAB] at em tAB tAB6 dAB6 lAB hAB_refs nAB ⊢
  clear hF hA hB hC hM
  refine Eval.intro Try.func28 rfl Try.call28 _ _ (Nat.le_of_ble_eq_true rfl) (by simp [-map_take,-map_drop, AV.refs, refsL, hLr, hAB_refs]) fun hs0 => ?_
  repeat' (first
    | with_reducible first | apply thenW_n | apply W_seq
    | with_reducible refine W_rg ?_
    | (rw [vcn]; (try simp [-map_take,-map_drop, push_cast, hLr, hAB_refs, lAB, tAB]))
    | fail)
  refine CallG_of (em) rfl (by simp [-map_take,-map_drop, natAV, d3AV, d3C, dAV, dC, rAV, rC, DP.av, dpC, ratD, RD.av, DP.av2, AV.refs, refsL, push_cast, hAB_refs]) rfl ?_
  try dsimp only
  repeat' (first
    | with_reducible first | apply thenW_n | apply W_seq | apply W_block
    | with_reducible refine W_rg ?_
    | (rw [vcn]; (try simp [-map_take,-map_drop, push_cast, hLr, hAB_refs, lAB, tAB, hC_refs, hCl, tC0]))
    | fail)
  refine W_loopW (X := Nat) (fun k => [(0, .slc f 6 n L), (3, .bp 3 0), (5, .bp 5 0), (6, i64V k)]) (fun k => [(3, .mut 68 AB), (5, .mut 43 C)]) (fun k => n - k) (fun k => k ≤ n ∧ ∀ i, i < k → F i = true) 0 id ⟨Nat.zero_le _, fun i hi => by omega⟩ ⟨?_, ?_, ?_, ?_, ?_, ?_⟩ fun k hk => ?_
  all_goals first | (with_reducible refine W_id ?_) | (simp [-map_take,-map_drop, push_cast, dV_take, dV_drop, hLr, hLn, hAB_refs, nAB, hC_refs, nC]; done)
  obtain ⟨hk, hall⟩ := hk
  by_cases c1 : ¬ k < n
  · have y1 : (k < n) = False := eq_false c1
    have y2 : ((k : Int) < (n : Int)) = False := eq_false (by omega)
    have hfin : (List.range n).all F = true := List.all_eq_true.2 fun i hi => hall i (by have := List.mem_range.1 hi; omega)
    rw [hfin]
    repeat' (first
      | with_reducible first | apply thenW_n | apply thenW_exit | apply blockW_same | apply loopW_exit | apply W_seq | apply W_ret | apply W_exit
      | with_reducible refine W_rg ?_
      | (rw [vcn]; (try simp [-map_take,-map_drop, push_cast, y1, y2, hLr, hAB_refs, hC_refs]))
      | (with_reducible refine W_condW ?_; (try simp [-map_take,-map_drop, AS.val, upd, resB, mkS_env, mkS_box, lk, entry_env, condW_true, condW_false, y1, y2, hLr, hAB_refs, hC_refs]))
      | fail)
    simp [-map_take,-map_drop, post, resAV, resAll, resOne, closeV, closeC, closeL, resD, resDL, push_cast, hLr, hAB_refs, hC_refs, boolV]
  have c1 : k < n := by omega
  have y1 : (k < n) = True := eq_true c1
  have y2 : ((k : Int) < (n : Int)) = True := eq_true (by omega)
  have hj : (k + 1) % n < n := Nat.mod_lt _ (by omega)
  have hrem : ((k : Int) + 1).tmod (n : Int) = (((k + 1) % n : Nat) : Int) := by rw [Int.tmod_eq_emod_of_nonneg (by omega)]; rfl
  have n0 : (n = 0) = False := eq_false (by omega)
  have n1 : ((n : Int) = 0) = False := eq_false (by omega)
  obtain ⟨t1, ht1⟩ := hat k c1
  obtain ⟨t2, ht2⟩ := hat _ hj
  have hFk := hFi k
  have z1 := hz k
  have z2 := hz ((k + 1) % n)
  obtain ⟨j, hj2⟩ : ∃ j, j = (k + 1) % n := ⟨_, rfl⟩
  rw [← hj2] at hj hrem ht2 hFk z2
  clear hj2
  obtain ⟨u, nm_⟩ : ∃ nm0_, nm0_ = l.getD k nilD := ⟨_, rfl⟩
  simp only [← nm_] at ht1 hFk z1
  clear nm_
  obtain ⟨v, nm_⟩ : ∃ nm0_, nm0_ = l.getD j nilD := ⟨_, rfl⟩
  simp only [← nm_] at ht2 hFk z2
  clear nm_
  have e1 := on11_ok u v M (by omega)
  have e2 : Eval Try.prog 65 [a.av, b.av, u.av] (.ret (i64V (side3 a b u))) := side11_ok a b u (by omega)
  have e3 : Eval Try.prog 65 [a.av, b.av, v.av] (.ret (i64V (side3 a b v))) := side11_ok a b v (by omega)
  obtain ⟨U, hU⟩ : ∃ A, A = dpC u := ⟨_, rfl⟩
  obtain ⟨V, hV⟩ : ∃ A, A = dpC v := ⟨_, rfl⟩
  have hUl : U.length = 6 := by rw [hU]; rfl
  have hVl : V.length = 6 := by rw [hV]; rfl
  have hU_refs : refsL U = [] := by rw [hU]; rfl
  have hV_refs : refsL V = [] := by rw [hV]; rfl
  have hUp : u.av = .agg U := by rw [hU]; rfl
  have hVp : v.av = .agg V := by rw [hV]; rfl
  have hUV : DP.av2 u v = .agg (U ++ V) := by rw [hU, hV]; rfl
  have tU : ∀ t, (U ++ t).take 6 = U := fun t => List.take_left' hUl
  have tV : ∀ t, (V ++ t).take 6 = V := fun t => List.take_left' hVl
  have tU0 : U.take 6 = U := List.take_of_length_le (by omega)
  have tV0 : V.take 6 = V := List.take_of_length_le (by omega)
  have dr12 : ∀ a b c d e f : AV, (U ++ [a, b, c, d, e, f]).drop 12 = [] := fun a b c d e f => List.drop_eq_nil_of_le (by rw [List.length_append, hUl]; simp [-map_take,-map_drop])
  rw [hUV, hCp] at e1
  rw [hAp, hBp, hUp] at e2
  rw [hAp, hBp, hVp] at e3
  rw [← hU] at ht1
  rw [← hV] at ht2
  obtain ⟨on, nm_⟩ : ∃ nm0_, nm0_ = on3 u v M := ⟨_, rfl⟩
  simp only [← nm_] at e1 hFk
  clear nm_
  obtain ⟨s1, nm_⟩ : ∃ nm0_, nm0_ = side3 a b u := ⟨_, rfl⟩
  simp only [← nm_] at e2 hFk
  clear nm_
  obtain ⟨s2, nm_⟩ : ∃ nm0_, nm0_ = side3 a b v := ⟨_, rfl⟩
  simp only [← nm_] at e3 hFk
  clear nm_
  clear hU hV hUp hVp hUV hat hz hFi hAB hAp hBp hCp em
  repeat' (first
    | with_reducible first | apply thenW_n | apply W_seq | apply W_block | apply W_skip
    | with_reducible refine W_rg ?_
    | (rw [vcn]; (try simp [-map_take,-map_drop, push_cast, y1, y2, hLl, c1, hj, hrem, n0, n1, ht1, ht2, tU, tV, tU0, tV0, dr12, hUl, hVl, hU_refs, hV_refs, tC0, hCl, hC_refs, lAB, tAB, hAB_refs]); try simp (disch := omega) only [i64_in, u64_in, shr64i])
    | with_reducible refine W_drawn mixed (by decide) (by kernel_rfl) ?_
    | (rw [vcnD]; (try simp [-map_take,-map_drop, push_cast, y1, y2, hLl, c1, hj, hrem, n0, n1, ht1, ht2, tU, tV, tU0, tV0, dr12, hUl, hVl, hU_refs, hV_refs, tC0, hCl, hC_refs, lAB, tAB, hAB_refs]); try simp (disch := omega) only [i64_in, u64_in, shr64i])
    | (with_reducible refine W_condW ?_; (try simp [-map_take,-map_drop, AS.val, upd, resB, mkS_env, mkS_box, lk, entry_env, condW_true, condW_false, y1, y2, hLl, c1, hj, hrem, n0, n1, ht1, ht2, tU, tV, tU0, tV0, dr12, hUl, hVl, hU_refs, hV_refs, tC0, hCl, hC_refs, lAB, tAB, hAB_refs]))
    | refine And.intro (by first | omega | kernel_rfl) ?_
    | fail)
  refine CallG_of (e1) rfl (by simp [-map_take,-map_drop, natAV, d3AV, d3C, dAV, dC, rAV, rC, DP.av, dpC, ratD, RD.av, DP.av2, AV.refs, refsL, push_cast, hU_refs, hV_refs, hC_refs]) rfl ?_
  try dsimp only
  cases on
  · have hFk' : F k = true := by rw [hFk]; rfl
    have hall' : ∀ i, i < k + 1 → F i = true := fun i hi => by
      by_cases h : i = k
      · rw [h]; exact hFk'
      · exact hall i (by omega)
    repeat' (first
      | with_reducible first | apply thenW_n | apply blockW_n | apply W_skip
      | with_reducible refine W_rg ?_
      | (rw [vcn]; (try simp [-map_take,-map_drop, push_cast, boolV]); try simp (disch := omega) only [i64_in, u64_in, shr64i])
      | (with_reducible refine W_condW ?_; (try simp [-map_take,-map_drop, AS.val, upd, resB, mkS_env, mkS_box, lk, entry_env, condW_true, condW_false, boolV]))
      | fail)
    refine loopW_n (k + 1) id (by omega) ⟨by omega, hall'⟩ ⟨?_, ?_, ?_, ?_, ?_, ?_⟩
    all_goals first | (simp [-map_take,-map_drop, push_cast, dV_take, dV_drop, hLr, hLn, hAB_refs, nAB, hC_refs, nC]; done)
  · repeat' (first
      | (rw [vcn]; (try simp [-map_take,-map_drop, push_cast, boolV, tAB6, dAB6, lAB, hAB_refs, tA0, tB0, tU0, hAl, hBl, hUl, hU_refs, hA_refs, hB_refs]))
      | fail)
    refine CallG_of (e2) rfl (by simp [-map_take,-map_drop, natAV, d3AV, d3C, dAV, dC, rAV, rC, DP.av, dpC, ratD, RD.av, DP.av2, AV.refs, refsL, push_cast, hA_refs, hB_refs, hU_refs]) rfl ?_
    try dsimp only
    by_cases h1 : s1 = 0
    · subst h1
      repeat' (first
        | (rw [vcn]; (try simp [-map_take,-map_drop, push_cast, boolV, tAB6, dAB6, lAB, hAB_refs, tA0, tB0, tV0, hAl, hBl, hVl, hV_refs, hA_refs, hB_refs]))
        | fail)
      refine CallG_of (e3) rfl (by simp [-map_take,-map_drop, natAV, d3AV, d3C, dAV, dC, rAV, rC, DP.av, dpC, ratD, RD.av, DP.av2, AV.refs, refsL, push_cast, hA_refs, hB_refs, hV_refs]) rfl ?_
      try dsimp only
      by_cases h2 : s2 = 0
      · subst h2
        have hFk' : F k = true := by rw [hFk]; rfl
        have hall' : ∀ i, i < k + 1 → F i = true := fun i hi => by
          by_cases h : i = k
          · rw [h]; exact hFk'
          · exact hall i (by omega)
        repeat' (first
          | with_reducible first | apply thenW_n | apply blockW_n | apply W_skip
          | with_reducible refine W_rg ?_
          | (rw [vcn]; (try simp [-map_take,-map_drop, push_cast, boolV]); try simp (disch := omega) only [i64_in, u64_in, shr64i])
          | (with_reducible refine W_condW ?_; (try simp [-map_take,-map_drop, AS.val, upd, resB, mkS_env, mkS_box, lk, entry_env, condW_true, condW_false, boolV]))
          | fail)
        refine loopW_n (k + 1) id (by omega) ⟨by omega, hall'⟩ ⟨?_, ?_, ?_, ?_, ?_, ?_⟩
        all_goals first | (simp [-map_take,-map_drop, push_cast, dV_take, dV_drop, hLr, hLn, hAB_refs, nAB, hC_refs, nC]; done)
      · have x2 : (s2 == 0) = false := beq_eq_false_iff_ne.2 h2
        have x2' : (s2 = 0) = False := eq_false h2
        have hfin : (List.range n).all F = false := by
          rw [Bool.eq_false_iff]
          intro h
          have := List.all_eq_true.1 h k (List.mem_range.2 c1)
          rw [hFk, decide_eq_true h2] at this
          simp [-map_take,-map_drop] at this
        rw [hfin]
        repeat' (first
          | with_reducible first | apply thenW_n | apply thenW_ret | apply blockW_ret | apply loopW_ret | apply W_seq | apply W_ret
          | with_reducible refine W_rg ?_
          | (rw [vcn]; (try simp [-map_take,-map_drop, push_cast, boolV, x2, x2', hLr, hAB_refs, hC_refs]))
          | (with_reducible refine W_condW ?_; (try simp [-map_take,-map_drop, AS.val, upd, resB, mkS_env, mkS_box, lk, entry_env, condW_true, condW_false, boolV, x2, x2', hLr, hAB_refs, hC_refs]))
          | ((with_reducible refine condW_b (fun hc => ?_) (fun hc => ?_) <;> (try simp [-map_take,-map_drop, Int.ofNat_inj] at hc) <;> (try contradiction)))
          | fail)
        simp [-map_take,-map_drop, post, resAV, resAll, resOne, closeV, closeC, closeL, resD, resDL, push_cast, hLr, hAB_refs, hC_refs, boolV]
    · have x1 : (s1 == 0) = false := beq_eq_false_iff_ne.2 h1
      have x1' : (s1 = 0) = False := eq_false h1
      have hfin : (List.range n).all F = false := by
        rw [Bool.eq_false_iff]
        intro h
        have := List.all_eq_true.1 h k (List.mem_range.2 c1)
        rw [hFk, decide_eq_true h1] at this
        simp [-map_take,-map_drop] at this
      rw [hfin]
      repeat' (first
        | with_reducible first | apply thenW_n | apply thenW_ret | apply blockW_ret | apply loopW_ret | apply W_seq | apply W_ret
        | with_reducible refine W_rg ?_
        | (rw [vcn]; (try simp [-map_take,-map_drop, push_cast, boolV, x1, x1', hLr, hAB_refs, hC_refs]))
        | (with_reducible refine W_condW ?_; (try simp [-map_take,-map_drop, AS.val, upd, resB, mkS_env, mkS_box, lk, entry_env, condW_true, condW_false, boolV, x1, x1', hLr, hAB_refs, hC_refs]))
        | fail)
      simp [-map_take,-map_drop, post, resAV, resAll, resOne, closeV, closeC, closeL, resD, resDL, push_cast, hLr, hAB_refs, hC_refs, boolV]
end Go.Fw

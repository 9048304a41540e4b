/- The law WindSides comes to true: the walk. -/
import Derived.Test.YtmmkclefdpmjlaaRp6
set_option linter.unusedSimpArgs false
set_option linter.unusedVariables false
-- VALS: zAV, zC, ratAV, ratC, ptAV, ptC, sgAV, sgC, d3AV, d3C, dAV, dC, rAV, rC, DP.av, dpC, dotAV, DP.av2
namespace Go.Fw
open Go Go.Proofs Go.IntWalk
set_option linter.unusedSimpArgs false
set_option maxRecDepth 100000
set_option maxHeartbeats 20000000
theorem modS (x : Int) (n : Nat) (hn : 0 < n) : ∃ k : Nat, (IntKind.u64.wrap x).tmod (n : Int) = (k : Int) ∧ k < n := by
  rw [IntKind.wrap_u64, Int.tmod_eq_emod_of_nonneg (by omega)]
  have h1 := Int.emod_nonneg (x % 18446744073709551616) (show (n : Int) ≠ 0 by omega)
  have h2 := Int.emod_lt_of_pos (x % 18446744073709551616) (show (0 : Int) < n by omega)
  exact ⟨(x % 18446744073709551616 % (n : Int)).toNat, by omega, by omega⟩
theorem ptsI_atS (l : List (Int × Int)) (i : Nat) (h : i < l.length) : ∃ t, (ptsI l).drop (i * 2) = i64V (l.getD i (0, 0)).1 :: i64V (l.getD i (0, 0)).2 :: t := by
  obtain ⟨t, ht⟩ := ptsI_at l i h
  rw [List.getD_eq_getElem?_getD, List.getElem?_eq_getElem h]
  exact ⟨t, ht⟩
theorem inP_atS {l : List (Int × Int)} (h : ∀ p ∈ l, inP p) (i : Nat) : inP (l.getD i (0, 0)) := by
  rw [List.getD_eq_getElem?_getD]
  by_cases hi : i < l.length
  · rw [List.getElem?_eq_getElem hi]; exact h _ (List.getElem_mem hi)
  · rw [List.getElem?_eq_none (by omega)]
    exact ⟨by show inI 0; unfold inI; omega, by show inI 0; unfold inI; omega⟩
theorem getD_gridD (m : List (Int × Int)) (i : Nat) : (rowDg m).getD i nilD = gridD (m.getD i (0, 0)) := map_getD (0, 0) nilD gridD rfl m i
open List (map_take map_drop)
attribute [local push_cast] optK_some optK_none optK_ite optK_map optK_bind gOn stepK isMem evPure evMem evBin evUn evConv evLen evBuiltin evMinMax evSlice evBuild evAppend evIndex evIndexAddr evField evFieldAddr intBin strBin appDest AS.val AS.mem AS.elems AS.put AS.put' AS.eff AV.cells? AV.isCell AV.refs all_isByte take_byteV drop_byteV strOf_map bndOk bnd partAV ptrAdd killBox catA inOrder fillA setAt ofVal resB upd byteV List.head?_take List.head?_drop List.getElem?_map mkS_env mkS_box mkS_used entry_env entry_box entry_used lk stepD lookIds Oper.looksAt Op.operands Call.operands St.ids refsL renL_append ren renL renBox Box.refs iV i64V boolV dV_getElem dV_app dV_cons toNat_add2 toNat_add1
attribute [local simp ↓] numC_refs numC_isCell numC_cells numC_resB numC_resD numC_ren numC_closeC numC_isOwn
theorem lawSides_ok (l : List (Int × Int)) (x0 : Int) (hI : ∀ p ∈ l, inP p) : Eval Try.prog 7 [.slc false 2 l.length (ptsI l), i64V x0] (.ret (.v (.bool true))) := by
  have e1 := few13_ok l hI
  obtain ⟨m, hm⟩ : ∃ m, m = l.take 30 := ⟨_, rfl⟩
  have hIm : ∀ p ∈ m, inP p := fun p hp => hI p (List.mem_of_mem_take (by rw [← hm]; exact hp))
  have hml : m.length ≤ 30 := by rw [hm, List.length_take]; omega
  rw [← hm] at e1
  obtain ⟨L, hL⟩ : ∃ L, L = ptsI m := ⟨_, rfl⟩
  obtain ⟨D, hD⟩ : ∃ L, L = dpsC (rowDg m) := ⟨_, rfl⟩
  obtain ⟨n, hn⟩ : ∃ n, n = m.length := ⟨_, rfl⟩
  have hdn : (rowDg m).length = n := by rw [rowDg_len, hn]
  have hLr : refsL L = [] := by rw [hL]; exact ptsI_refs _
  have hLn : ∀ ρ, renL ρ L = L := fun ρ => renL_id ρ _ hLr
  have hLl : L.length = n * 2 := by rw [hL, hn, ptsI_len]
  have hDr : refsL D = [] := by rw [hD]; exact dpsC_refs _
  have hDn : ∀ ρ, renL ρ D = D := fun ρ => renL_id ρ _ hDr
  have hDl : D.length = n * 6 := by rw [hD, dpsC_len, hdn]
  have hatL : ∀ i, i < n → ∃ t, L.drop (i * 2) = i64V (m.getD i (0, 0)).1 :: i64V (m.getD i (0, 0)).2 :: t := fun i h => by rw [hL]; exact ptsI_atS m i (by omega)
  have hatD : ∀ i, i < n → ∃ t, D.drop (i * 6) = dpC ((rowDg m).getD i nilD) ++ t := fun i hi => by
    rw [hD, List.getD_eq_getElem?_getD, List.getElem?_eq_getElem (by omega)]
    exact dpsC_at (rowDg m) i (by omega)
  have hDB := rowDg_DB hIm
  have hzD : ∀ i, szP3 ((rowDg m).getD i nilD) ≤ 20 := fun i => (DB.at hDB i).sz'
  have egrid := windGrid_ok false m hIm (by omega)
  have hHG : ∀ q ∈ rowG m, HG q := HG.grid hIm
  rw [← hL, ← hD, ← hn] at e1
  rw [← hL, ← hn] at egrid
  rw [← hn] at hml
  obtain ⟨L0, hL0⟩ : ∃ L, L = ptsI l := ⟨_, rfl⟩
  have hL0r : refsL L0 = [] := by rw [hL0]; exact ptsI_refs _
  rw [← hL0] at e1 ⊢
  obtain ⟨n0, hn0⟩ : ∃ n, n = l.length := ⟨_, rfl⟩
  rw [← hn0] at e1 ⊢
  clear hL0 hn0 hm hI
  refine Eval.intro Try.func7 rfl Try.call7 _ _ (Nat.le_of_ble_eq_true rfl) (by simp [-map_take,-map_drop, AV.refs, refsL, natAV, zAV, zC, ratAV, ratC, ptAV, ptC, sgAV, sgC, d3AV, d3C, dAV, dC, rAV, rC, DP.av, dpC, dotAV, DP.av2, push_cast]) fun hs0 => ?_
  repeat' (first
    | with_reducible first | apply thenW_n | apply W_seq
    | with_reducible refine W_rg ?_
    | (rw [vcn]; (try simp [-map_take,-map_drop, push_cast, hL0r]))
    | fail)
  refine CallG_of (e1) rfl rfl rfl ?_
  try dsimp only
  repeat' (first
    | (rw [vcn]; (try simp [-map_take,-map_drop, push_cast, hL0r, hLr, hDr]))
    | fail)
  refine thenW_n ?_
  clear e1 hs0
  by_cases h0 : n = 0
  · subst h0
    repeat' (first
      | with_reducible first | apply thenW_n | apply W_seq
      | with_reducible refine W_rg ?_
      | (rw [vcn]; (try simp [-map_take,-map_drop, push_cast, hLr]))
      | (with_reducible refine W_condW ?_; (try simp [-map_take,-map_drop, AS.val, upd, resB, mkS_env, mkS_box, lk, entry_env, condW_true, condW_false, hLr]))
      | fail)
    refine CallG_of (known13_ok) rfl rfl rfl ?_
    try dsimp only
    repeat' (first
      | with_reducible first | apply thenW_n | apply thenW_ret | apply W_ret
      | (rw [vcn]; (try simp [-map_take,-map_drop, push_cast, boolV]))
      | fail)
    simp [-map_take,-map_drop, post, resAV, resAll, resOne, closeV, closeC, closeL, resD, resDL, push_cast, boolV]
  have h0' : (n == 0) = false := beq_eq_false_iff_ne.2 h0
  have h1' : ((n : Int) == 0) = false := beq_eq_false_iff_ne.2 (by omega)
  have h2' : (n = 0) = False := eq_false h0
  have h3' : ((n : Int) = 0) = False := eq_false (by omega)
  obtain ⟨k, hk0, hkn⟩ := modS x0 n (by omega)
  have wn : IntKind.u64.wrap (n : Int) = n := by rw [u64_in _ (by omega)]
  have wk : IntKind.i64.wrap (k : Int) = k := by rw [i64_in _ (by omega)]
  refine W_seq ?_
  refine W_joinQ (X := Unit) (fun _ => [(0, .slc false 2 n L), (1, i64V x0), (5, .slc false 6 n D)]) (fun _ => []) (fun _ => True) ?_ fun _ _ => ?_
  · repeat' (first
      | with_reducible first | apply thenW_n | apply W_seq | apply W_skip
      | with_reducible refine W_rg ?_
      | (rw [vcn]; (try simp [-map_take,-map_drop, push_cast, h0', h1', h2', h3', hLr, hDr]))
      | (with_reducible refine W_condW ?_; (try simp [-map_take,-map_drop, AS.val, upd, resB, mkS_env, mkS_box, lk, entry_env, condW_true, condW_false, h0', h1', h2', h3', hLr, hDr]))
      | fail)
    refine joinW_n () id trivial ⟨?_, ?_, ?_, ?_, ?_, ?_⟩
    all_goals first | (simp [-map_take,-map_drop, push_cast, dV_take, dV_drop, hLr, hLn, hDr, hDn]; done)
  refine W_seq ?_
  refine W_joinQ (X := Unit) (fun _ => [(0, .slc false 2 n L), (5, .slc false 6 n D), (6, i64V k)]) (fun _ => []) (fun _ => True) ?_ fun _ _ => ?_
  · repeat' (first
      | with_reducible refine W_rg ?_
      | (rw [vcn]; (try simp [-map_take,-map_drop, push_cast, h0', h1', h2', h3', hk0, wn, wk, hLr, hDr]))
      | fail)
    refine joinW_n () id trivial ⟨?_, ?_, ?_, ?_, ?_, ?_⟩
    all_goals first | (simp [-map_take,-map_drop, push_cast, dV_take, dV_drop, hLr, hLn, hDr, hDn]; done)
  clear hk0 wn wk h0' h1'
  have hj : (k + 1) % n < n := Nat.mod_lt _ (by omega)
  have hrem : ((k : Int) + 1).tmod (n : Int) = (((k + 1) % n : Nat) : Int) := by rw [Int.tmod_eq_emod_of_nonneg (by omega)]; rfl
  obtain ⟨t1, ht1⟩ := hatD k hkn
  obtain ⟨t2, ht2⟩ := hatD _ hj
  obtain ⟨t3, ht3⟩ := hatL k hkn
  obtain ⟨t4, ht4⟩ := hatL _ hj
  have hpk := inP_atS hIm k
  have hpj := inP_atS hIm ((k + 1) % n)
  have hgk := getD_gridD m k
  have hgj := getD_gridD m ((k + 1) % n)
  have z1 := hzD k
  have z2 := hzD ((k + 1) % n)
  obtain ⟨j, hj2⟩ : ∃ j, j = (k + 1) % n := ⟨_, rfl⟩
  rw [← hj2] at hj hrem ht2 ht4 hpj hgj z2
  clear hj2
  have wa : 0 < ((rowDg m).getD k nilD).w := DW.at (rowDg_w m) k
  have wb : 0 < ((rowDg m).getD j nilD).w := DW.at (rowDg_w m) j
  have va : (gridP (m.getD k (0, 0))).v = ((rowDg m).getD k nilD).v := by
    rw [hgk]
    have := vs_same [m.getD k (0, 0)]
    exact (List.cons.inj this).1
  have vb : (gridP (m.getD j (0, 0))).v = ((rowDg m).getD j nilD).v := by
    rw [hgj]
    have := vs_same [m.getD j (0, 0)]
    exact (List.cons.inj this).1
  clear hgk hgj
  obtain ⟨p, nm_⟩ : ∃ nm0_, nm0_ = m.getD k (0, 0) := ⟨_, rfl⟩
  simp only [← nm_] at ht3 hpk va
  clear nm_
  obtain ⟨q, nm_⟩ : ∃ nm0_, nm0_ = m.getD j (0, 0) := ⟨_, rfl⟩
  simp only [← nm_] at ht4 hpj vb
  clear nm_
  obtain ⟨a, nm_⟩ : ∃ nm0_, nm0_ = (rowDg m).getD k nilD := ⟨_, rfl⟩
  simp only [← nm_] at ht1 z1 wa va
  clear nm_
  obtain ⟨b, nm_⟩ : ∃ nm0_, nm0_ = (rowDg m).getD j nilD := ⟨_, rfl⟩
  simp only [← nm_] at ht2 z2 wb vb
  clear nm_
  have ecmp := cmp11_ok a b (by omega)
  have efair := fair13_ok false (rowDg m) a b (by omega) hDB (by omega)
  have emid := mid13_ok a b (by omega)
  have g1 : Eval Try.prog 32 [.agg [i64V p.1, i64V p.2]] (.ret (ptAV (gridP p))) := grid_ok p.1 p.2 hpk.1 hpk.2
  have g2 : Eval Try.prog 32 [.agg [i64V q.1, i64V q.2]] (.ret (ptAV (gridP q))) := grid_ok q.1 q.2 hpj.1 hpj.2
  have hsz1 : ∀ p : Int × Int, inP p → szV (gridP p) ≤ 20 := fun p hp => by
    have := HG.grid (l := [p]) (fun r hr => by rw [List.mem_singleton.1 hr]; exact hp) (gridP p) (by simp [-map_take,-map_drop, rowG])
    exact this
  have ebes := beside_ok false (rowG m) ⟨gridP p, gridP q⟩ hHG (by rw [rowG_len]; omega) (by
    have := hsz1 p hpk
    have := hsz1 q hpj
    show szV (gridP p) + szV (gridP q) ≤ 100
    omega)
  have hlaw := sides_law m a b ⟨gridP p, gridP q⟩ wa wb va vb
  have hb1 := passSum_bound (rowG m) (midF ⟨gridP p, gridP q⟩) (upL ⟨gridP p, gridP q⟩) (lfL ⟨gridP p, gridP q⟩) (List.range (rowG m).length)
  have hb2 := passSum_bound (rowG m) (midF ⟨gridP p, gridP q⟩) (upR ⟨gridP p, gridP q⟩) (lfR ⟨gridP p, gridP q⟩) (List.range (rowG m).length)
  have hbb : (-(30 : Int) ≤ (besideF (rowG m) ⟨gridP p, gridP q⟩).1 ∧ (besideF (rowG m) ⟨gridP p, gridP q⟩).1 ≤ 30) ∧ (-(30 : Int) ≤ (besideF (rowG m) ⟨gridP p, gridP q⟩).2 ∧ (besideF (rowG m) ⟨gridP p, gridP q⟩).2 ≤ 30) := by
    rw [List.length_range, rowG_len, ← hn] at hb1 hb2
    unfold besideF
    split
    · exact ⟨⟨by decide, by decide⟩, ⟨by decide, by decide⟩⟩
    · rw [rowG_len, ← hn]
      exact ⟨by show -(30 : Int) ≤ passSum _ _ _ _ _ ∧ passSum _ _ _ _ _ ≤ 30; omega, by show -(30 : Int) ≤ passSum _ _ _ _ _ ∧ passSum _ _ _ _ _ ≤ 30; omega⟩
  clear hb1 hb2 hsz1
  rw [rowG_len, ← hn] at ebes
  rw [hdn] at efair hlaw
  rw [← hD] at efair
  obtain ⟨GL, hGL⟩ : ∃ x, x = ptsC (rowG m) := ⟨_, rfl⟩
  have hGr : refsL GL = [] := by rw [hGL]; exact ptsC_refs _
  rw [← hGL] at egrid ebes
  have hmz := mid3_sz a b
  have hwb := wantSum_bound (rowDg m) a b
  have hw0 : wantSum (rowDg m) a b [] = 0 := rfl
  have hwsn : ∀ i, wantSum (rowDg m) a b (List.range (i + 1)) = wantSum (rowDg m) a b (List.range i) + want3 a b (mid3 a b) ((rowDg m).getD i nilD) ((rowDg m).getD ((i + 1) % n) nilD) := fun i => by
    rw [List.range_succ]; unfold wantSum; rw [sideS_snoc, hdn]
  have htch : ∀ i, touchAt (rowDg m) (mid3 a b) i = touch3 (mid3 a b) ((rowDg m).getD i nilD) ((rowDg m).getD ((i + 1) % n) nilD) := fun i => by unfold touchAt; rw [hdn]
  obtain ⟨N1, nm_⟩ : ∃ nm0_, nm0_ = (besideF (rowG m) ⟨gridP p, gridP q⟩).1 := ⟨_, rfl⟩
  simp only [← nm_] at ebes hlaw hbb
  clear nm_
  obtain ⟨N2, nm_⟩ : ∃ nm0_, nm0_ = (besideF (rowG m) ⟨gridP p, gridP q⟩).2 := ⟨_, rfl⟩
  simp only [← nm_] at ebes hlaw hbb
  clear nm_
  obtain ⟨P, nm_⟩ : ∃ nm0_, nm0_ = gridP p := ⟨_, rfl⟩
  simp only [← nm_] at g1 ebes
  clear nm_
  obtain ⟨Q, nm_⟩ : ∃ nm0_, nm0_ = gridP q := ⟨_, rfl⟩
  simp only [← nm_] at g2 ebes
  clear nm_
  clear va vb wa wb hpk hpj hGL hHG hD hL hn hIm hDB hdn hatL
  obtain ⟨T, hT⟩ : ∃ T, T = touchAt (rowDg m) (mid3 a b) := ⟨_, rfl⟩
  obtain ⟨WS, hWS⟩ : ∃ T, T = wantSum (rowDg m) a b := ⟨_, rfl⟩
  rw [← hT] at hlaw htch
  rw [← hWS] at hlaw hwb hwsn hw0
  obtain ⟨FA, hFA⟩ : ∃ T, T = (List.range n).all (fair3 (rowDg m) a b) := ⟨_, rfl⟩
  rw [← hFA] at hlaw efair
  clear hT hWS hFA
  obtain ⟨M, hM⟩ : ∃ M, M = mid3 a b := ⟨_, rfl⟩
  rw [← hM] at emid hmz htch
  simp only [← hM] at hwsn
  clear hM
  obtain ⟨A, hA⟩ : ∃ A, A = dpC a := ⟨_, rfl⟩
  obtain ⟨B, hB⟩ : ∃ A, A = dpC b := ⟨_, rfl⟩
  obtain ⟨C, hC⟩ : ∃ A, A = dpC M := ⟨_, rfl⟩
  have hAl : A.length = 6 := by rw [hA]; rfl
  have hBl : B.length = 6 := by rw [hB]; rfl
  have hCl : C.length = 6 := by rw [hC]; rfl
  have hA_refs : refsL A = [] := by rw [hA]; rfl
  have hB_refs : refsL B = [] := by rw [hB]; rfl
  have hC_refs : refsL C = [] := by rw [hC]; rfl
  have hAp : a.av = .agg A := by rw [hA]; rfl
  have hBp : b.av = .agg B := by rw [hB]; rfl
  have hCp : M.av = .agg C := by rw [hC]; rfl
  have hABp : DP.av2 a b = .agg (A ++ B) := by rw [hA, hB]; rfl
  have tA : ∀ t, (A ++ t).take 6 = A := fun t => List.take_left' hAl
  have tB : ∀ t, (B ++ t).take 6 = B := fun t => List.take_left' hBl
  have tA0 : A.take 6 = A := List.take_of_length_le (by omega)
  have tB0 : B.take 6 = B := List.take_of_length_le (by omega)
  have tC0 : C.take 6 = C := List.take_of_length_le (by omega)
  have tAB : (A ++ B).take 12 = A ++ B := List.take_of_length_le (by rw [List.length_append]; omega)
  have lAB : (A ++ B).length = 12 := by rw [List.length_append]; omega
  have dr12 : ∀ a b c d e f : AV, (A ++ [a, b, c, d, e, f]).drop 12 = [] := fun a b c d e f => List.drop_eq_nil_of_le (by rw [List.length_append, hAl]; simp [-map_take,-map_drop])
  have hAB_refs : refsL (A ++ B) = [] := by rw [refsL_append, hA_refs, hB_refs]; rfl
  rw [hAp, hBp] at ecmp
  rw [hABp] at efair emid
  rw [hCp] at emid
  rw [← hA] at ht1
  rw [← hB] at ht2
  obtain ⟨cab, hcab⟩ : ∃ c, c = cmp3 a b := ⟨_, rfl⟩
  rw [← hcab] at ecmp hlaw
  clear hA hB hABp
  refine W_seq ?_
  repeat' (first
    | with_reducible refine W_drawn mixed (by decide) (by kernel_rfl) ?_
    | (rw [vcnD]; (try simp [-map_take,-map_drop, push_cast, ht1, ht2, hDl, hkn, hj, hrem, h2', h3', tA, tB, tA0, tB0, hAl, hBl, hA_refs, hB_refs, hDr, hLr]); try simp (disch := omega) only [i64_in, u64_in, shr64i])
    | refine And.intro (by first | omega | kernel_rfl) ?_
    | fail)
  refine thenW_n ?_
  refine W_frz 7 (e := 43) (l := A) (by simp [-map_take,-map_drop, mkS_box, lk, upd]) hA_refs ?_
  refine W_frz 8 (e := 43) (l := B) (by simp [-map_take,-map_drop, mkS_box, lk, upd]) hB_refs ?_
  refine W_seq ?_
  repeat' (first
    | with_reducible refine W_rg ?_
    | (rw [vcn]; (try simp [-map_take,-map_drop, push_cast, tA0, tB0, hAl, hBl, hA_refs, hB_refs, dr12, lAB, tAB]))
    | fail)
  refine thenW_n ?_
  refine W_frz 9 (e := 68) (l := A ++ B) (by simp [-map_take,-map_drop, mkS_box, lk, upd, dr12]) hAB_refs ?_
  refine W_seq ?_
  refine W_joinQ (X := Unit) (fun _ => [(0, .slc false 2 n L), (5, .slc false 6 n D), (6, i64V k), (7, .ip A), (8, .ip B), (9, .ip (A ++ B))]) (fun _ => []) (fun _ => cab ≠ 0 ∧ FA = true) ?_ fun _ hcf => ?_
  · repeat' (first
      | with_reducible apply W_seq
      | with_reducible refine W_rg ?_
      | (rw [vcn]; (try simp [-map_take,-map_drop, push_cast, boolV]))
      | fail)
    refine CallG_of (known13_ok) rfl rfl rfl ?_
    try dsimp only
    repeat' (first
      | (rw [vcn]; (try simp [-map_take,-map_drop, push_cast, boolV, tA0, tB0, hAl, hBl, hA_refs, hB_refs]))
      | fail)
    refine CallG_of (ecmp) rfl (by simp [-map_take,-map_drop, natAV, zAV, zC, ratAV, ratC, ptAV, ptC, sgAV, sgC, d3AV, d3C, dAV, dC, rAV, rC, DP.av, dpC, dotAV, DP.av2, AV.refs, refsL, push_cast, hA_refs, hB_refs]) rfl ?_
    try dsimp only
    by_cases hc : cab = 0
    · subst hc
      repeat' (first
        | with_reducible first | apply thenW_n | apply W_seq
        | with_reducible refine W_rg ?_
        | (rw [vcn]; (try simp [-map_take,-map_drop, push_cast, boolV]))
        | (with_reducible refine W_condW ?_; (try simp [-map_take,-map_drop, AS.val, upd, resB, mkS_env, mkS_box, lk, entry_env, condW_true, condW_false, boolV]))
        | fail)
      refine CallG_of (known13_ok) rfl rfl rfl ?_
      try dsimp only
      repeat' (first
        | with_reducible first | apply thenW_n | apply thenW_ret | apply joinW_ret | apply W_ret
        | (rw [vcn]; (try simp [-map_take,-map_drop, push_cast, boolV]))
        | fail)
      simp [-map_take,-map_drop, post, resAV, resAll, resOne, closeV, closeC, closeL, resD, resDL, push_cast, boolV]
    · have x1 : (cab == 0) = false := beq_eq_false_iff_ne.2 hc
      have x1' : (cab = 0) = False := eq_false hc
      repeat' (first
        | (rw [vcn]; (try simp [-map_take,-map_drop, push_cast, boolV, x1, x1', lAB, tAB, hAB_refs, hDr]))
        | fail)
      refine CallG_of (efair) rfl (by simp [-map_take,-map_drop, natAV, zAV, zC, ratAV, ratC, ptAV, ptC, sgAV, sgC, d3AV, d3C, dAV, dC, rAV, rC, DP.av, dpC, dotAV, DP.av2, AV.refs, refsL, push_cast, hAB_refs]) rfl ?_
      try dsimp only
      cases FA
      · repeat' (first
          | with_reducible first | apply thenW_n | apply W_seq
          | with_reducible refine W_rg ?_
          | (rw [vcn]; (try simp [-map_take,-map_drop, push_cast, boolV]))
          | (with_reducible refine W_condW ?_; (try simp [-map_take,-map_drop, AS.val, upd, resB, mkS_env, mkS_box, lk, entry_env, condW_true, condW_false, boolV]))
          | fail)
        refine CallG_of (known13_ok) rfl rfl rfl ?_
        try dsimp only
        repeat' (first
          | with_reducible first | apply thenW_n | apply thenW_ret | apply joinW_ret | apply W_ret
          | (rw [vcn]; (try simp [-map_take,-map_drop, push_cast, boolV]))
          | fail)
        simp [-map_take,-map_drop, post, resAV, resAll, resOne, closeV, closeC, closeL, resD, resDL, push_cast, boolV]
      · repeat' (first
          | with_reducible first | apply thenW_n | apply W_skip
          | (rw [vcn]; (try simp [-map_take,-map_drop, push_cast, boolV]))
          | (with_reducible refine W_condW ?_; (try simp [-map_take,-map_drop, AS.val, upd, resB, mkS_env, mkS_box, lk, entry_env, condW_true, condW_false, boolV]))
          | fail)
        refine joinW_n () id (by first | trivial | exact ⟨hc, rfl⟩) ⟨?_, ?_, ?_, ?_, ?_, ?_⟩
        all_goals first | (simp [-map_take,-map_drop, push_cast, dV_take, dV_drop, hLr, hLn, hDr, hDn, hA_refs, hB_refs, hAB_refs, dr12, hAl, hBl]; done)
  obtain ⟨hc, hf⟩ := hcf
  have hlaw := hlaw hc hf
  clear hf efair ht1 ht2
  refine W_seq ?_
  repeat' (first
    | with_reducible refine W_rg ?_
    | (rw [vcn]; (try simp [-map_take,-map_drop, push_cast, boolV, lAB, tAB, hAB_refs]))
    | fail)
  refine CallG_of (emid) rfl (by simp [-map_take,-map_drop, natAV, zAV, zC, ratAV, ratC, ptAV, ptC, sgAV, sgC, d3AV, d3C, dAV, dC, rAV, rC, DP.av, dpC, dotAV, DP.av2, AV.refs, refsL, push_cast, hAB_refs]) rfl ?_
  try dsimp only
  repeat' (first
    | (rw [vcn]; (try simp [-map_take,-map_drop, push_cast, hCl, hC_refs, tC0]))
    | fail)
  refine thenW_n ?_
  refine W_frz 10 (e := 43) (l := C) (by simp [-map_take,-map_drop, mkS_box, lk, upd, hCl, tC0]) hC_refs ?_
  repeat' (first
    | with_reducible first | apply thenW_n | apply W_seq | apply W_block
    | with_reducible refine W_rg ?_
    | (rw [vcn]; (try simp [-map_take,-map_drop, push_cast, boolV]))
    | fail)
  refine W_loopW (X := Nat) (fun i => [(0, .slc false 2 n L), (5, .slc false 6 n D), (6, i64V k), (7, .ip A), (8, .ip B), (10, .ip C), (11, i64V (WS (List.range i))), (12, i64V i)]) (fun i => []) (fun i => n - i) (fun i => i ≤ n ∧ ∀ h, h < i → T h = false) 0 id ⟨Nat.zero_le _, fun h hh => by omega⟩ ⟨?_, ?_, ?_, ?_, ?_, ?_⟩ fun i hi => ?_
  all_goals first | (with_reducible refine W_id ?_) | (simp [-map_take,-map_drop, push_cast, dV_take, dV_drop, hLr, hLn, hDr, hDn, hA_refs, hB_refs, hC_refs, List.range_zero, hw0]; done)
  obtain ⟨hi, hno⟩ := hi
  have hb := hwb (List.range i)
  rw [List.length_range] at hb
  by_cases c1 : ¬ i < n
  · have y1 : (i < n) = False := eq_false c1
    have y2 : ((i : Int) < (n : Int)) = False := eq_false (by omega)
    have hin : i = n := by omega
    subst hin
    have hfin := hlaw hno
    obtain ⟨p0, p1⟩ := p
    obtain ⟨q0, q1⟩ := q
    simp only at ht3 ht4 g1 g2
    obtain ⟨W, hW⟩ : ∃ W, W = WS (List.range i) := ⟨_, rfl⟩
    rw [← hW] at hfin hb ⊢
    clear hW hlaw hno hwb hwsn hatD hzD htch hw0
    repeat' (first
      | with_reducible first | apply thenW_n | apply thenW_exit | apply blockW_same | apply loopW_exit | apply W_seq | apply W_exit
      | with_reducible refine W_rg ?_
      | (rw [vcn]; (try simp [-map_take,-map_drop, push_cast, y1, y2, hLr]))
      | with_reducible refine W_drawn mixed (by decide) (by kernel_rfl) ?_
      | (rw [vcnD]; (try simp [-map_take,-map_drop, push_cast, y1, y2, hLr]))
      | (with_reducible refine W_condW ?_; (try simp [-map_take,-map_drop, AS.val, upd, resB, mkS_env, mkS_box, lk, entry_env, condW_true, condW_false, y1, y2, hLr]))
      | fail)
    refine callD_of (egrid) rfl rfl rfl ?_
    try dsimp only
    repeat' (first
      | (rw [vcnD]; (try simp [-map_take,-map_drop, push_cast, hLr, hGr, ht3, hLl, hkn]))
      | fail)
    refine callD_of (g1) rfl rfl rfl ?_
    try dsimp only
    repeat' (first
      | (rw [vcnD]; (try simp [-map_take,-map_drop, push_cast, hLr, hGr, ht4, hLl, hj, hrem, h2', h3', ptAV, ptC, ratAV, ratC, zAV, zC]); try simp (disch := omega) only [i64_in, u64_in, shr64i])
      | fail)
    refine callD_of (g2) rfl rfl rfl ?_
    try dsimp only
    repeat' (first
      | (rw [vcnD]; (try simp [-map_take,-map_drop, push_cast, hGr, sgAV, sgC, ptAV, ptC, ratAV, ratC, zAV, zC]))
      | fail)
    refine callD_of (ebes) rfl rfl rfl ?_
    try dsimp only
    repeat' (first
      | with_reducible first | apply thenW_n | apply W_seq | apply W_ret
      | with_reducible refine W_rg ?_
      | (rw [vcn]; (try simp [-map_take,-map_drop, push_cast, hfin]); try simp (disch := omega) only [i64_in, u64_in, shr64i])
      | (rw [vcnD]; (try simp [-map_take,-map_drop, push_cast, hfin]); try simp (disch := omega) only [i64_in, u64_in, shr64i])
      | refine And.intro (by first | omega | kernel_rfl) ?_
      | fail)
    simp [-map_take,-map_drop, post, resAV, resAll, resOne, closeV, closeC, closeL, resD, resDL, push_cast, hfin]
  have c1 : i < n := by omega
  have y1 : (i < n) = True := eq_true c1
  have y2 : ((i : Int) < (n : Int)) = True := eq_true (by omega)
  have hj' : (i + 1) % n < n := Nat.mod_lt _ (by omega)
  have hrem' : ((i : Int) + 1).tmod (n : Int) = (((i + 1) % n : Nat) : Int) := by rw [Int.tmod_eq_emod_of_nonneg (by omega)]; rfl
  obtain ⟨r1, hr1⟩ := hatD i c1
  obtain ⟨r2, hr2⟩ := hatD _ hj'
  have hs := hwsn i
  have ht := htch i
  have zu := hzD i
  have zv := hzD ((i + 1) % n)
  obtain ⟨j', hj2⟩ : ∃ j, j = (i + 1) % n := ⟨_, rfl⟩
  rw [← hj2] at hj' hrem' hr2 hs ht zv
  clear hj2
  obtain ⟨u, nm_⟩ : ∃ nm0_, nm0_ = (rowDg m).getD i nilD := ⟨_, rfl⟩
  simp only [← nm_] at hr1 hs ht zu
  clear nm_
  obtain ⟨v, nm_⟩ : ∃ nm0_, nm0_ = (rowDg m).getD j' nilD := ⟨_, rfl⟩
  simp only [← nm_] at hr2 hs ht zv
  clear nm_
  have e2 := on11_ok u v M (by omega)
  have e3 := cmp11_ok u M (by omega)
  have e4 := cmp11_ok v M (by omega)
  have e5 := cmp11_ok u v (by omega)
  obtain ⟨U, hU⟩ : ∃ A, A = dpC u := ⟨_, rfl⟩
  obtain ⟨V, hV⟩ : ∃ A, A = dpC v := ⟨_, rfl⟩
  have hUl : U.length = 6 := by rw [hU]; rfl
  have hVl : V.length = 6 := by rw [hV]; rfl
  have hU_refs : refsL U = [] := by rw [hU]; rfl
  have hV_refs : refsL V = [] := by rw [hV]; rfl
  have hUp : u.av = .agg U := by rw [hU]; rfl
  have hVp : v.av = .agg V := by rw [hV]; rfl
  have hUV : DP.av2 u v = .agg (U ++ V) := by rw [hU, hV]; rfl
  have tU : ∀ t, (U ++ t).take 6 = U := fun t => List.take_left' hUl
  have tV : ∀ t, (V ++ t).take 6 = V := fun t => List.take_left' hVl
  have dU : ∀ t, (U ++ t).drop 6 = t := fun t => List.drop_left' hUl
  have tU0 : U.take 6 = U := List.take_of_length_le (by omega)
  have tV0 : V.take 6 = V := List.take_of_length_le (by omega)
  have tUV : (U ++ V).take 12 = U ++ V := List.take_of_length_le (by rw [List.length_append]; omega)
  have lUV : (U ++ V).length = 12 := by rw [List.length_append]; omega
  have hUV_refs : refsL (U ++ V) = [] := by rw [refsL_append, hU_refs, hV_refs]; rfl
  have er12 : ∀ a b c d e f : AV, (U ++ [a, b, c, d, e, f]).drop 12 = [] := fun a b c d e f => List.drop_eq_nil_of_le (by rw [List.length_append, hUl]; simp [-map_take,-map_drop])
  rw [hUV, hCp] at e2
  rw [hUp, hCp] at e3
  rw [hVp, hCp] at e4
  rw [hUp, hVp] at e5
  rw [← hU] at hr1
  rw [← hV] at hr2
  have hwant : want3 a b M u v = if on3 u v M = true then (if cmp3 u v = cab then 1 else -1) else 0 := by unfold want3; rw [hcab]
  rw [hwant] at hs
  unfold touch3 at ht
  obtain ⟨on, nm_⟩ : ∃ nm0_, nm0_ = on3 u v M := ⟨_, rfl⟩
  simp only [← nm_] at e2 hs ht
  clear nm_
  obtain ⟨cu, nm_⟩ : ∃ nm0_, nm0_ = cmp3 u M := ⟨_, rfl⟩
  simp only [← nm_] at e3 ht
  clear nm_
  obtain ⟨cv, nm_⟩ : ∃ nm0_, nm0_ = cmp3 v M := ⟨_, rfl⟩
  simp only [← nm_] at e4 ht
  clear nm_
  obtain ⟨cuv, nm_⟩ : ∃ nm0_, nm0_ = cmp3 u v := ⟨_, rfl⟩
  simp only [← nm_] at e5 hs
  clear nm_
  obtain ⟨W, nm_⟩ : ∃ nm0_, nm0_ = WS (List.range i) := ⟨_, rfl⟩
  simp only [← nm_] at hs hb ⊢
  clear nm_
  clear hU hV hUp hVp hUV hwant hatD hzD hwsn htch hwb hlaw zu zv hmz z1 z2 ht3 ht4 g1 g2 ebes egrid
  repeat' (first
    | with_reducible first | apply thenW_n | apply W_seq | apply W_block | apply W_skip
    | with_reducible refine W_rg ?_
    | (rw [vcn]; (try simp [-map_take,-map_drop, push_cast, y1, y2, hDl, c1, hj', hrem', h2', h3', hr1, hr2, tU, tV, dU, tU0, tV0, er12, hUl, hVl, hU_refs, hV_refs, tC0, hCl, hC_refs, lUV, tUV, hUV_refs, hDr]); try simp (disch := omega) only [i64_in, u64_in, shr64i])
    | with_reducible refine W_drawn mixed (by decide) (by kernel_rfl) ?_
    | (rw [vcnD]; (try simp [-map_take,-map_drop, push_cast, y1, y2, hDl, c1, hj', hrem', h2', h3', hr1, hr2, tU, tV, dU, tU0, tV0, er12, hUl, hVl, hU_refs, hV_refs, tC0, hCl, hC_refs, lUV, tUV, hUV_refs, hDr]); try simp (disch := omega) only [i64_in, u64_in, shr64i])
    | (with_reducible refine W_condW ?_; (try simp [-map_take,-map_drop, AS.val, upd, resB, mkS_env, mkS_box, lk, entry_env, condW_true, condW_false, y1, y2, hDl, c1, hj', hrem', h2', h3', hr1, hr2, tU, tV, dU, tU0, tV0, er12, hUl, hVl, hU_refs, hV_refs, tC0, hCl, hC_refs, lUV, tUV, hUV_refs, hDr]))
    | refine And.intro (by first | omega | kernel_rfl) ?_
    | fail)
  refine CallG_of (e2) rfl (by simp [-map_take,-map_drop, natAV, zAV, zC, ratAV, ratC, ptAV, ptC, sgAV, sgC, d3AV, d3C, dAV, dC, rAV, rC, DP.av, dpC, dotAV, DP.av2, AV.refs, refsL, push_cast, hUV_refs, hC_refs]) rfl ?_
  try dsimp only
  cases on
  · have hno' : ∀ h, h < i + 1 → T h = false := fun h hh => by
      by_cases e : h = i
      · rw [e, ht]; rfl
      · exact hno h (by omega)
    repeat' (first
      | with_reducible first | apply thenW_n | apply W_seq
      | with_reducible refine W_rg ?_
      | (rw [vcn]; (try simp [-map_take,-map_drop, push_cast, boolV, tU, tV, dU, tU0, tV0, er12, hUl, hVl, hU_refs, hV_refs, tC0, hCl, hC_refs, lUV, tUV, hUV_refs, hDr]))
      | (with_reducible refine W_condW ?_; (try simp [-map_take,-map_drop, AS.val, upd, resB, mkS_env, mkS_box, lk, entry_env, condW_true, condW_false, boolV, tU, tV, dU, tU0, tV0, er12, hUl, hVl, hU_refs, hV_refs, tC0, hCl, hC_refs, lUV, tUV, hUV_refs, hDr]))
      | fail)
    refine CallG_of (e2) rfl (by simp [-map_take,-map_drop, natAV, zAV, zC, ratAV, ratC, ptAV, ptC, sgAV, sgC, d3AV, d3C, dAV, dC, rAV, rC, DP.av, dpC, dotAV, DP.av2, AV.refs, refsL, push_cast, hUV_refs, hC_refs]) rfl ?_
    try dsimp only
    repeat' (first
      | with_reducible first | apply thenW_n | apply thenW_exit | apply blockW_same | apply W_skip | apply W_exit
      | with_reducible refine W_rg ?_
      | (rw [vcn]; (try simp [-map_take,-map_drop, push_cast, boolV]); try simp (disch := omega) only [i64_in, u64_in, shr64i])
      | (with_reducible refine W_condW ?_; (try simp [-map_take,-map_drop, AS.val, upd, resB, mkS_env, mkS_box, lk, entry_env, condW_true, condW_false, boolV]))
      | fail)
    rw [if_neg (by decide)] at hs
    have hs' : WS (List.range (i + 1)) = W := by rw [hs]; try simp [-map_take,-map_drop]
    refine loopW_n (i + 1) id (by omega) ⟨by omega, hno'⟩ ⟨?_, ?_, ?_, ?_, ?_, ?_⟩
    all_goals first | (simp [-map_take,-map_drop, push_cast, dV_take, dV_drop, hLr, hLn, hDr, hDn, hA_refs, hB_refs, hC_refs, hs']; done)
  · rw [if_pos rfl] at hs
    repeat' (first
      | (rw [vcn]; (try simp [-map_take,-map_drop, push_cast, boolV, tU, tV, dU, tU0, tV0, er12, hUl, hVl, hU_refs, hV_refs, tC0, hCl, hC_refs, lUV, tUV, hUV_refs, hDr]))
      | fail)
    refine CallG_of (e3) rfl (by simp [-map_take,-map_drop, natAV, zAV, zC, ratAV, ratC, ptAV, ptC, sgAV, sgC, d3AV, d3C, dAV, dC, rAV, rC, DP.av, dpC, dotAV, DP.av2, AV.refs, refsL, push_cast, hU_refs, hC_refs]) rfl ?_
    try dsimp only
    by_cases hu0 : cu = 0
    · subst hu0
      repeat' (first
        | with_reducible first | apply thenW_n | apply W_seq
        | with_reducible refine W_rg ?_
        | (rw [vcn]; (try simp [-map_take,-map_drop, push_cast, boolV, tU, tV, dU, tU0, tV0, er12, hUl, hVl, hU_refs, hV_refs, tC0, hCl, hC_refs, lUV, tUV, hUV_refs, hDr]))
        | (with_reducible refine W_condW ?_; (try simp [-map_take,-map_drop, AS.val, upd, resB, mkS_env, mkS_box, lk, entry_env, condW_true, condW_false, boolV, tU, tV, dU, tU0, tV0, er12, hUl, hVl, hU_refs, hV_refs, tC0, hCl, hC_refs, lUV, tUV, hUV_refs, hDr]))
        | fail)
      refine CallG_of (e2) rfl (by simp [-map_take,-map_drop, natAV, zAV, zC, ratAV, ratC, ptAV, ptC, sgAV, sgC, d3AV, d3C, dAV, dC, rAV, rC, DP.av, dpC, dotAV, DP.av2, AV.refs, refsL, push_cast, hUV_refs, hC_refs]) rfl ?_
      try dsimp only
      repeat' (first
        | with_reducible first | apply thenW_n | apply thenW_ret | apply blockW_ret | apply loopW_ret | apply W_seq | apply W_ret
        | with_reducible refine W_rg ?_
        | (rw [vcn]; (try simp [-map_take,-map_drop, push_cast, boolV]))
        | (with_reducible refine W_condW ?_; (try simp [-map_take,-map_drop, AS.val, upd, resB, mkS_env, mkS_box, lk, entry_env, condW_true, condW_false, boolV]))
        | fail)
      simp [-map_take,-map_drop, post, resAV, resAll, resOne, closeV, closeC, closeL, resD, resDL, push_cast, boolV]
    have x1 : (cu == 0) = false := beq_eq_false_iff_ne.2 hu0
    have x1' : (cu = 0) = False := eq_false hu0
    repeat' (first
      | (rw [vcn]; (try simp [-map_take,-map_drop, push_cast, boolV, x1, x1', tU, tV, dU, tU0, tV0, er12, hUl, hVl, hU_refs, hV_refs, tC0, hCl, hC_refs, lUV, tUV, hUV_refs, hDr]))
      | fail)
    refine CallG_of (e4) rfl (by simp [-map_take,-map_drop, natAV, zAV, zC, ratAV, ratC, ptAV, ptC, sgAV, sgC, d3AV, d3C, dAV, dC, rAV, rC, DP.av, dpC, dotAV, DP.av2, AV.refs, refsL, push_cast, hV_refs, hC_refs]) rfl ?_
    try dsimp only
    by_cases hv0 : cv = 0
    · subst hv0
      repeat' (first
        | with_reducible first | apply thenW_n | apply W_seq
        | with_reducible refine W_rg ?_
        | (rw [vcn]; (try simp [-map_take,-map_drop, push_cast, boolV, tU, tV, dU, tU0, tV0, er12, hUl, hVl, hU_refs, hV_refs, tC0, hCl, hC_refs, lUV, tUV, hUV_refs, hDr]))
        | (with_reducible refine W_condW ?_; (try simp [-map_take,-map_drop, AS.val, upd, resB, mkS_env, mkS_box, lk, entry_env, condW_true, condW_false, boolV, tU, tV, dU, tU0, tV0, er12, hUl, hVl, hU_refs, hV_refs, tC0, hCl, hC_refs, lUV, tUV, hUV_refs, hDr]))
        | fail)
      refine CallG_of (e2) rfl (by simp [-map_take,-map_drop, natAV, zAV, zC, ratAV, ratC, ptAV, ptC, sgAV, sgC, d3AV, d3C, dAV, dC, rAV, rC, DP.av, dpC, dotAV, DP.av2, AV.refs, refsL, push_cast, hUV_refs, hC_refs]) rfl ?_
      try dsimp only
      repeat' (first
        | with_reducible first | apply thenW_n | apply thenW_ret | apply blockW_ret | apply loopW_ret | apply W_seq | apply W_ret
        | with_reducible refine W_rg ?_
        | (rw [vcn]; (try simp [-map_take,-map_drop, push_cast, boolV]))
        | (with_reducible refine W_condW ?_; (try simp [-map_take,-map_drop, AS.val, upd, resB, mkS_env, mkS_box, lk, entry_env, condW_true, condW_false, boolV]))
        | fail)
      simp [-map_take,-map_drop, post, resAV, resAll, resOne, closeV, closeC, closeL, resD, resDL, push_cast, boolV]
    have x2 : (cv == 0) = false := beq_eq_false_iff_ne.2 hv0
    have x2' : (cv = 0) = False := eq_false hv0
    have hno' : ∀ h, h < i + 1 → T h = false := fun h hh => by
      by_cases e : h = i
      · rw [e, ht, decide_eq_false hu0, decide_eq_false hv0]; rfl
      · exact hno h (by omega)
    repeat' (first
      | with_reducible first | apply thenW_n | apply W_seq | apply W_skip
      | (rw [vcn]; (try simp [-map_take,-map_drop, push_cast, boolV, x2, x2', tU, tV, dU, tU0, tV0, er12, hUl, hVl, hU_refs, hV_refs, tC0, hCl, hC_refs, lUV, tUV, hUV_refs, hDr]))
      | with_reducible refine W_drawn mixed (by decide) (by kernel_rfl) ?_
      | (rw [vcnD]; (try simp [-map_take,-map_drop, push_cast, boolV, x2, x2', tU, tV, dU, tU0, tV0, er12, hUl, hVl, hU_refs, hV_refs, tC0, hCl, hC_refs, lUV, tUV, hUV_refs, hDr]))
      | (with_reducible refine W_condW ?_; (try simp [-map_take,-map_drop, AS.val, upd, resB, mkS_env, mkS_box, lk, entry_env, condW_true, condW_false, boolV, x2, x2', tU, tV, dU, tU0, tV0, er12, hUl, hVl, hU_refs, hV_refs, tC0, hCl, hC_refs, lUV, tUV, hUV_refs, hDr]))
      | fail)
    refine callD_of (e5) rfl (by simp [-map_take,-map_drop, natAV, zAV, zC, ratAV, ratC, ptAV, ptC, sgAV, sgC, d3AV, d3C, dAV, dC, rAV, rC, DP.av, dpC, dotAV, DP.av2, AV.refs, refsL, push_cast, hU_refs, hV_refs]) rfl ?_
    try dsimp only
    repeat' (first
      | (rw [vcnD]; (try simp [-map_take,-map_drop, push_cast, boolV, hAl, hBl, tA0, tB0, hA_refs, hB_refs]))
      | fail)
    refine callD_of (ecmp) rfl (by simp [-map_take,-map_drop, natAV, zAV, zC, ratAV, ratC, ptAV, ptC, sgAV, sgC, d3AV, d3C, dAV, dC, rAV, rC, DP.av, dpC, dotAV, DP.av2, AV.refs, refsL, push_cast, hA_refs, hB_refs]) rfl ?_
    try dsimp only
    by_cases he : cuv = cab
    · have x3 : (cuv == cab) = true := beq_iff_eq.2 he
      rw [if_pos he] at hs
      repeat' (first
        | with_reducible first | apply thenW_n | apply blockW_n
        | with_reducible refine W_rg ?_
        | (rw [vcn]; (try simp [-map_take,-map_drop, push_cast, x3]); try simp (disch := omega) only [i64_in, u64_in, shr64i])
        | (rw [vcnD]; (try simp [-map_take,-map_drop, push_cast, x3]); try simp (disch := omega) only [i64_in, u64_in, shr64i])
        | (with_reducible refine W_condW ?_; (try simp [-map_take,-map_drop, AS.val, upd, resB, mkS_env, mkS_box, lk, entry_env, condW_true, condW_false, x3]))
        | refine And.intro (by first | omega | kernel_rfl) ?_
        | fail)
      have hs' : WS (List.range (i + 1)) = W + 1 := by rw [hs]; try simp [-map_take,-map_drop]
      refine loopW_n (i + 1) id (by omega) ⟨by omega, hno'⟩ ⟨?_, ?_, ?_, ?_, ?_, ?_⟩
      all_goals first | (simp [-map_take,-map_drop, push_cast, dV_take, dV_drop, hLr, hLn, hDr, hDn, hA_refs, hB_refs, hC_refs, hs']; done)
    · have x3 : (cuv == cab) = false := beq_eq_false_iff_ne.2 he
      rw [if_neg he] at hs
      repeat' (first
        | with_reducible first | apply thenW_n | apply blockW_n
        | with_reducible refine W_rg ?_
        | (rw [vcn]; (try simp [-map_take,-map_drop, push_cast, x3]); try simp (disch := omega) only [i64_in, u64_in, shr64i])
        | (rw [vcnD]; (try simp [-map_take,-map_drop, push_cast, x3]); try simp (disch := omega) only [i64_in, u64_in, shr64i])
        | (with_reducible refine W_condW ?_; (try simp [-map_take,-map_drop, AS.val, upd, resB, mkS_env, mkS_box, lk, entry_env, condW_true, condW_false, x3]))
        | refine And.intro (by first | omega | kernel_rfl) ?_
        | fail)
      have hs' : WS (List.range (i + 1)) = W - 1 := by rw [hs]; try rfl
      refine loopW_n (i + 1) id (by omega) ⟨by omega, hno'⟩ ⟨?_, ?_, ?_, ?_, ?_, ?_⟩
      all_goals first | (simp [-map_take,-map_drop, push_cast, dV_take, dV_drop, hLr, hLn, hDr, hDn, hA_refs, hB_refs, hC_refs, hs']; done)
end Go.Fw

/- The law WindAround comes to true: the walk. -/
import Derived.Test.YtmmkclefdpmjlaaRg4b
import Derived.Test.YtmmkclefdpmjlaaRp2b
import Derived.Test.YtmmkclefdpmjlaaDt
import Derived.Test.YtmmkclefdpmjlaaW1b
set_option linter.unusedSimpArgs false
set_option linter.unusedVariables false
-- VALS: zAV, zC, ratAV, ratC, ptAV, ptC, sgAV, sgC, d3AV, d3C, dAV, dC, rAV, rC, DP.av, dpC, dotAV
namespace Go.Fw
open Go Go.Proofs Go.IntWalk
set_option linter.unusedSimpArgs false
set_option maxRecDepth 100000
set_option maxHeartbeats 20000000
def dtF13 (a : Int × Int × Int) : FP := dotF a.1 a.2.1 a.2.2
theorem vs_same (l : List (Int × Int)) : vsF (rowG l) = vsD (rowDg l) := by
  unfold vsF vsD rowG rowDg
  rw [List.map_map, List.map_map]
  refine List.map_congr_left fun p _ => ?_
  show (⟨(p.1 : Rat), (p.2 : Rat)⟩ : V2) = ⟨Rat.divInt p.1 1, Rat.divInt p.2 1⟩
  rw [V2.mk.injEq]
  exact ⟨by rw [← Rat.mkRat_one]; rfl, by rw [← Rat.mkRat_one]; rfl⟩
theorem DB.dot13 {a : Int × Int × Int} (h : inD a) : DB (dotD a) := by
  have h1 := h.1
  have h2 := h.2
  have h3 := underI_pos a.2.2
  unfold inI at h1 h2
  refine ⟨?_, ?_, ?_, dotD_w a⟩
  · show a.1.natAbs < 2 ^ 64; omega
  · show a.2.1.natAbs < 2 ^ 64; omega
  · show (underI a.2.2).natAbs < 2 ^ 6; omega
theorem rowDg_w (l : List (Int × Int)) : ∀ p ∈ rowDg l, 0 < p.w := by
  intro p hp
  obtain ⟨q, _, rfl⟩ := List.mem_map.1 hp
  exact (by decide : (0 : Int) < 1)
theorem rowDg_DB {l : List (Int × Int)} (hI : ∀ p ∈ l, inP p) : ∀ p ∈ rowDg l, DB p := by
  intro p hp
  obtain ⟨q, hq, rfl⟩ := List.mem_map.1 hp
  have h := hI q hq
  unfold inP inI at h
  refine ⟨?_, ?_, ?_, ?_⟩
  · show q.1.natAbs < 2 ^ 64; omega
  · show q.2.natAbs < 2 ^ 64; omega
  · show (1 : Int).natAbs < 2 ^ 6; decide
  · show (0 : Int) < 1; decide
theorem eqPt13 (a b c d : Int) : aggEq Try.prog 65 [.v (.int .i64 a), .v (.int .i64 b)] [.v (.int .i64 c), .v (.int .i64 d)] = some (a == c && b == d) := by
  have h1 : Try.prog.eqGuardType Try.prog.depth 65 = false := by kernel_rfl
  have h2 : Try.prog.stoodInHeld 65 = false := by kernel_rfl
  have h3 : aggP Try.prog 3 = some false := by kernel_rfl
  unfold aggEq
  rw [h1, h2, Try.underlying65]
  simp [eqFieldsA, eqAt, Try.underlying3, h3]
open List (map_take map_drop)
attribute [local push_cast] optK_some optK_none optK_ite optK_map optK_bind gOn stepK isMem evPure evMem evBin evUn evConv evLen evBuiltin evMinMax evSlice evBuild evAppend evIndex evIndexAddr evField evFieldAddr intBin strBin appDest AS.val AS.mem AS.elems AS.put AS.put' AS.eff AV.cells? AV.isCell AV.refs all_isByte take_byteV drop_byteV strOf_map bndOk bnd partAV ptrAdd killBox catA inOrder fillA setAt ofVal resB upd byteV List.head?_take List.head?_drop List.getElem?_map mkS_env mkS_box mkS_used entry_env entry_box entry_used lk stepD lookIds Oper.looksAt Op.operands Call.operands St.ids refsL renL_append ren renL renBox Box.refs iV i64V boolV dV_getElem dV_app dV_cons toNat_add2 toNat_add1
attribute [local simp ↓] numC_refs numC_isCell numC_cells numC_resB numC_resD numC_ren numC_closeC numC_isOwn
theorem lawAround_ok (l : List (Int × Int)) (a : Int × Int × Int) (hI : ∀ p ∈ l, inP p) (ha : inD a) : Eval Try.prog 5 [.slc false 2 l.length (ptsI l), dotAV a] (.ret (.v (.bool true))) := by
  have e1 := few13_ok l hI
  obtain ⟨m, hm⟩ : ∃ m, m = l.take 30 := ⟨_, rfl⟩
  have hIm : ∀ p ∈ m, inP p := fun p hp => hI p (List.mem_of_mem_take (by rw [← hm]; exact hp))
  have hml : m.length ≤ 30 := by rw [hm, List.length_take]; omega
  have zp := (HD.dot ha).sz
  have e2 := l11At_ok' a ha
  have e3 := around_ok false m (dtF13 a) hIm (by omega) (by show szV (dotF _ _ _) ≤ _; omega)
  have e4 := at11_ok' a ha
  have e5 := around13_ok false (rowDg m) (dotD a) (by rw [rowDg_len]; omega) (rowDg_DB hIm) (Nat.le_trans (DB.sz' (DB.dot13 ha)) (by omega))
  have hsame := around_same (vs_same m) (show (dtF13 a).v = (dotD a).v from (dotD_v a).symm) (rowDg_w m) (dotD_w a)
  rw [← hsame, rowDg_len] at e5
  rw [← hm] at e1
  obtain ⟨L, hL⟩ : ∃ L, L = ptsI m := ⟨_, rfl⟩
  obtain ⟨D, hD⟩ : ∃ L, L = dpsC (rowDg m) := ⟨_, rfl⟩
  obtain ⟨n, hn⟩ : ∃ n, n = m.length := ⟨_, rfl⟩
  have hLr : refsL L = [] := by rw [hL]; exact ptsI_refs _
  have hLn : ∀ ρ, renL ρ L = L := fun ρ => renL_id ρ _ hLr
  have hLl : L.length = n * 2 := by rw [hL, hn, ptsI_len]
  have hDr : refsL D = [] := by rw [hD]; exact dpsC_refs _
  have hat : ∀ i (h : i < m.length), ∃ t, L.drop (i * 2) = i64V m[i].1 :: i64V m[i].2 :: t := fun i h => by rw [hL]; exact ptsI_at m i h
  rw [← hL, ← hD, ← hn] at e1
  rw [← hL, ← hn] at e3
  rw [← hD, ← hn] at e5
  rw [← hn] at hml
  have hp : dotF a.1 a.2.1 a.2.2 = dtF13 a := rfl
  rw [hp] at e2
  obtain ⟨L0, hL0⟩ : ∃ L, L = ptsI l := ⟨_, rfl⟩
  have hL0r : refsL L0 = [] := by rw [hL0]; exact ptsI_refs _
  rw [← hL0] at e1 ⊢
  obtain ⟨n0, hn0⟩ : ∃ n, n = l.length := ⟨_, rfl⟩
  rw [← hn0] at e1 ⊢
  clear hL hD hL0 hn0 hsame zp hm hI hIm
  obtain ⟨R, nm_⟩ : ∃ nm0_, nm0_ = (aroundF (rowG m) (dtF13 a)).1 := ⟨_, rfl⟩
  simp only [← nm_] at e3 e5
  clear nm_
  obtain ⟨S, nm_⟩ : ∃ nm0_, nm0_ = (aroundF (rowG m) (dtF13 a)).2 := ⟨_, rfl⟩
  simp only [← nm_] at e3 e5
  clear nm_
  obtain ⟨P, nm_⟩ : ∃ nm0_, nm0_ = dtF13 a := ⟨_, rfl⟩
  simp only [← nm_] at e2 e3
  clear nm_
  obtain ⟨Q, nm_⟩ : ∃ nm0_, nm0_ = dotD a := ⟨_, rfl⟩
  simp only [← nm_] at e4 e5
  clear nm_
  unfold dotAV at e2 e4 ⊢
  obtain ⟨a0, a1, a2⟩ := a
  simp only at e2 e4 ⊢
  clear ha
  refine Eval.intro Try.func5 rfl Try.call5 _ _ (Nat.le_of_ble_eq_true rfl) (by simp [-map_take,-map_drop, AV.refs, refsL, natAV, zAV, zC, ratAV, ratC, ptAV, ptC, sgAV, sgC, d3AV, d3C, dAV, dC, rAV, rC, DP.av, dpC, dotAV, push_cast]) fun hs0 => ?_
  repeat' (first
    | with_reducible first | apply thenW_n | apply W_seq
    | with_reducible refine W_rg ?_
    | (rw [vcn]; (try simp [-map_take,-map_drop, push_cast, hL0r]))
    | fail)
  refine CallG_of (e1) rfl rfl rfl ?_
  try dsimp only
  have tL : L.take (n * 2) = L := List.take_of_length_le (by omega)
  have hLe : ∀ i (h : i < m.length), ∃ x y t, L.drop (i * 2) = i64V x :: i64V y :: t := fun i h => by obtain ⟨t, ht⟩ := hat i h; exact ⟨_, _, t, ht⟩
  clear hat
  repeat' (first
    | (rw [vcn]; (try simp [-map_take,-map_drop, push_cast, hL0r, hLr, hDr]))
    | fail)
  refine thenW_n ?_
  refine W_seq ?_
  repeat' (first
    | with_reducible refine W_rg ?_
    | (rw [vcn]; (try simp [-map_take,-map_drop, push_cast, hL0r, hLr, hDr, tL]))
    | refine And.intro (by first | omega | kernel_rfl) ?_
    | fail)
  refine thenW_n ?_
  refine W_frz 19 (e := 65) (l := L) (by simp [-map_take,-map_drop, mkS_box, lk, upd, tL]) hLr ?_
  repeat' (first
    | with_reducible apply W_seq
    | with_reducible refine W_rg ?_
    | (rw [vcn]; (try simp [-map_take,-map_drop, push_cast, hL0r, hLr, hDr]))
    | fail)
  refine CallG_of (e2) rfl rfl rfl ?_
  try dsimp only
  repeat' (first
    | (rw [vcn]; (try simp [-map_take,-map_drop, push_cast, hL0r, hLr, hDr, ptAV, ptC, ratAV, ratC, zAV, zC]))
    | fail)
  refine CallG_of (e3) rfl rfl rfl ?_
  try dsimp only
  repeat' (first
    | with_reducible first | apply thenW_n | apply W_seq
    | with_reducible refine W_rg ?_
    | (rw [vcn]; (try simp [-map_take,-map_drop, push_cast, hL0r, hLr, hDr, boolV]))
    | fail)
  refine CallG_of (e4) rfl rfl rfl ?_
  try dsimp only
  repeat' (first
    | (rw [vcn]; (try simp [-map_take,-map_drop, push_cast, hL0r, hLr, hDr, DP.av, d3AV, d3C, dC, rC, numC, ← tens.eq_1]))
    | fail)
  refine CallG_of (e5) rfl rfl rfl ?_
  try dsimp only
  repeat' (first
    | with_reducible first | apply thenW_n | apply W_seq | apply W_block
    | with_reducible refine W_rg ?_
    | (rw [vcn]; (try simp [-map_take,-map_drop, push_cast, hL0r, hLr, hDr, boolV]))
    | fail)
  refine W_loopW (X := Nat) (fun i => [(0, .slc false 2 n L), (6, .slc false 2 n L), (7, i64V R), (8, boolV S), (9, i64V R), (10, boolV S), (11, i64V i)]) (fun i => []) (fun i => n - i) (fun i => i ≤ n) 0 id (by omega) ⟨?_, ?_, ?_, ?_, ?_, ?_⟩ fun i hi => ?_
  all_goals first | (with_reducible refine W_id ?_) | (simp [-map_take,-map_drop, push_cast, dV_take, dV_drop, hLr, hLn, boolV, hLl, tL]; done)
  by_cases c1 : ¬ i < n
  · have y1 : (i < n) = False := eq_false c1
    have y2 : ((i : Int) < (n : Int)) = False := eq_false (by omega)
    repeat' (first
      | with_reducible first | apply thenW_n | apply thenW_exit | apply blockW_same | apply loopW_exit | apply W_seq | apply W_exit
      | with_reducible refine W_rg ?_
      | (rw [vcn]; (try simp [-map_take,-map_drop, push_cast, y1, y2, boolV]))
      | (with_reducible refine W_condW ?_; (try simp [-map_take,-map_drop, AS.val, upd, resB, mkS_env, mkS_box, lk, entry_env, condW_true, condW_false, y1, y2, boolV]))
      | fail)
    refine CallG_of (known13_ok) rfl rfl rfl ?_
    try dsimp only
    repeat' (first
      | with_reducible first | apply thenW_n | apply W_ret
      | (rw [vcn]; (try simp [-map_take,-map_drop, push_cast, boolV]))
      | fail)
    simp [-map_take,-map_drop, post, resAV, resAll, resOne, closeV, closeC, closeL, resD, resDL, push_cast, boolV]
  have c1 : i < n := by omega
  have y1 : (i < n) = True := eq_true c1
  have y2 : ((i : Int) < (n : Int)) = True := eq_true (by omega)
  obtain ⟨x, y, t, ht⟩ := hLe i (by omega)
  repeat' (first
    | with_reducible first | apply thenW_n | apply blockW_n | apply W_seq | apply W_block | apply W_skip
    | with_reducible refine W_rg ?_
    | (rw [vcn]; (try simp [-map_take,-map_drop, push_cast, y1, y2, boolV, ht, hLl, c1, eqPt13]); try simp (disch := omega) only [i64_in, u64_in, shr64i])
    | with_reducible refine W_drawn mixed (by decide) (by kernel_rfl) ?_
    | (rw [vcnD]; (try simp [-map_take,-map_drop, push_cast, y1, y2, boolV, ht, hLl, c1, eqPt13]); try simp (disch := omega) only [i64_in, u64_in, shr64i])
    | (with_reducible refine W_condW ?_; (try simp [-map_take,-map_drop, AS.val, upd, resB, mkS_env, mkS_box, lk, entry_env, condW_true, condW_false, y1, y2, boolV, ht, hLl, c1, eqPt13]))
    | refine And.intro (by first | omega | kernel_rfl) ?_
    | fail)
  refine loopW_n (i + 1) id (by omega) (by omega) ⟨?_, ?_, ?_, ?_, ?_, ?_⟩
  all_goals first | (simp [-map_take,-map_drop, push_cast, dV_take, dV_drop, hLr, hLn, boolV, hLl, tL]; done)
end Go.Fw

/- The law WindCuts comes to true: the walk. -/
import Derived.Test.YtmmkclefdpmjlaaRg7
set_option linter.unusedSimpArgs false
set_option linter.unusedVariables false
-- VALS: zAV, zC, ratAV, ratC, ptAV, ptC, sgAV, sgC, d3AV, d3C, dAV, dC, rAV, rC, DP.av, dpC, dotAV
namespace Go.Fw
open Go Go.Proofs Go.IntWalk
set_option linter.unusedSimpArgs false
set_option maxRecDepth 100000
set_option maxHeartbeats 20000000
theorem modN (x : Int) (n : Nat) (hn : 0 < n) : ∃ k : Nat, (IntKind.u64.wrap x).tmod (n : Int) = (k : Int) ∧ k < n := by
  rw [IntKind.wrap_u64, Int.tmod_eq_emod_of_nonneg (by omega)]
  have h1 := Int.emod_nonneg (x % 18446744073709551616) (show (n : Int) ≠ 0 by omega)
  have h2 := Int.emod_lt_of_pos (x % 18446744073709551616) (show (0 : Int) < n by omega)
  exact ⟨(x % 18446744073709551616 % (n : Int)).toNat, by omega, by omega⟩
theorem ptsI_drop (l : List (Int × Int)) (k : Nat) : (ptsI l).drop (k * 2) = ptsI (l.drop k) := by
  induction l generalizing k with
  | nil => simp [ptsI]
  | cons x r ih =>
    cases k with
    | zero => simp [ptsI]
    | succ k =>
      rw [List.drop_succ_cons, ← ih, show (k + 1) * 2 = k * 2 + 1 + 1 from by omega]
      rfl
theorem split_at {α : Type} (l : List α) (i : Nat) (h : i < l.length) : ∃ a x d, l = a ++ x :: d ∧ a.length = i :=
  ⟨l.take i, l[i], l.drop (i + 1), by rw [← List.drop_eq_getElem_cons, List.take_append_drop], by rw [List.length_take]; omega⟩
theorem cut_rows (m : List (Int × Int)) (i k : Nat) (h : i ≤ k) (hk : k < m.length) (p : FP) (h1 : (aroundF (rowG m) p).2 = false) (h2 : (aroundF (rowG ((m.drop i).take (k + 1 - i))) p).2 = false) (h3 : (aroundF (rowG (m.take (i + 1) ++ m.drop k)) p).2 = false) :
    (aroundF (rowG ((m.drop i).take (k + 1 - i))) p).1 + (aroundF (rowG (m.take (i + 1) ++ m.drop k)) p).1 = (aroundF (rowG m) p).1 := by
  obtain ⟨a, x, d, rfl, ha⟩ := split_at m i (by omega)
  have e2 : (a ++ x :: d).take (i + 1) = a ++ [x] := by
    rw [show a ++ x :: d = (a ++ [x]) ++ d from by simp]
    exact List.take_left' (by rw [List.length_append, ha]; rfl)
  have e3 : (a ++ x :: d).drop i = x :: d := List.drop_left' ha
  by_cases hik : i = k
  · subst hik
    have e1 : (x :: d).take (i + 1 - i) = [x] := by rw [Nat.add_sub_cancel_left]; rfl
    rw [e3, e1] at h2
    rw [e2, e3] at h3
    rw [e3, e1, e2]
    rw [show (a ++ [x]) ++ x :: d = a ++ x :: x :: d from by simp] at h3 ⊢
    rw [aroundF_v] at h1 h2 h3
    rw [aroundF_v, aroundF_v, aroundF_v]
    simp only [vs_append, vs_cons] at h1 h2 h3 ⊢
    exact around_cut1 _ _ _ _ h2 h3 h1
  · obtain ⟨b, y, c, rfl, hb⟩ := split_at d (k - i - 1) (by simp at hk; omega)
    have e1 : (x :: (b ++ y :: c)).take (k + 1 - i) = x :: b ++ [y] := by
      rw [show x :: (b ++ y :: c) = (x :: b ++ [y]) ++ c from by simp]
      exact List.take_left' (by simp; omega)
    have e4 : (a ++ x :: (b ++ y :: c)).drop k = y :: c := by
      rw [show a ++ x :: (b ++ y :: c) = (a ++ x :: b) ++ (y :: c) from by simp]
      exact List.drop_left' (by simp; omega)
    rw [e3, e1] at h2
    rw [e2, e4] at h3
    rw [e3, e1, e2, e4]
    rw [show (a ++ [x]) ++ y :: c = a ++ x :: y :: c from by simp] at h3 ⊢
    rw [show a ++ x :: (b ++ y :: c) = a ++ x :: b ++ y :: c from by simp] at h1 ⊢
    rw [aroundF_v] at h1 h2 h3
    rw [aroundF_v, aroundF_v, aroundF_v]
    have v1 : vsF (rowG (x :: b ++ [y])) = (gridP x).v :: vsF (rowG b) ++ [(gridP y).v] := by rw [vs_append]; rfl
    have v2 : vsF (rowG (a ++ x :: y :: c)) = vsF (rowG a) ++ (gridP x).v :: (gridP y).v :: vsF (rowG c) := by rw [vs_append]; rfl
    have v3 : vsF (rowG (a ++ x :: b ++ y :: c)) = vsF (rowG a) ++ (gridP x).v :: vsF (rowG b) ++ (gridP y).v :: vsF (rowG c) := by rw [vs_append, vs_append]; rfl
    rw [v1] at h2 ⊢
    rw [v2] at h3 ⊢
    rw [v3] at h1 ⊢
    exact around_cut _ _ _ _ _ _ h2 h3 h1
theorem cut_law (m : List (Int × Int)) (i k : Nat) (h : i ≤ k) (hk : k < m.length) (p : FP) :
    ((aroundF (rowG m) p).2 || ((aroundF (rowG ((m.drop i).take (k + 1 - i))) p).2 || ((aroundF (rowG (m.take (i + 1) ++ m.drop k)) p).2 || decide ((aroundF (rowG ((m.drop i).take (k + 1 - i))) p).1 + (aroundF (rowG (m.take (i + 1) ++ m.drop k)) p).1 = (aroundF (rowG m) p).1)))) = true := by
  have := cut_rows m i k h hk p
  cases h1 : (aroundF (rowG m) p).2
  · cases h2 : (aroundF (rowG ((m.drop i).take (k + 1 - i))) p).2
    · cases h3 : (aroundF (rowG (m.take (i + 1) ++ m.drop k)) p).2
      · rw [decide_eq_true (this h1 h2 h3)]; rfl
      · rfl
    · rfl
  · rfl
open List (map_take map_drop)
attribute [local push_cast] optK_some optK_none optK_ite optK_map optK_bind gOn stepK isMem evPure evMem evBin evUn evConv evLen evBuiltin evMinMax evSlice evBuild evAppend evIndex evIndexAddr evField evFieldAddr intBin strBin appDest AS.val AS.mem AS.elems AS.put AS.put' AS.eff AV.cells? AV.isCell AV.refs all_isByte take_byteV drop_byteV strOf_map bndOk bnd partAV ptrAdd killBox catA inOrder fillA setAt ofVal resB upd byteV List.head?_take List.head?_drop List.getElem?_map mkS_env mkS_box mkS_used entry_env entry_box entry_used lk stepD lookIds Oper.looksAt Op.operands Call.operands St.ids refsL renL_append ren renL renBox Box.refs iV i64V boolV dV_getElem dV_app dV_cons toNat_add2 toNat_add1
attribute [local simp ↓] numC_refs numC_isCell numC_cells numC_resB numC_resD numC_ren numC_closeC numC_isOwn
theorem lawCuts_ok (l : List (Int × Int)) (a : Int × Int × Int) (x0 x1 : Int) (hI : ∀ p ∈ l, inP p) (ha : inD a) : Eval Try.prog 9 [.slc false 2 l.length (ptsI l), dotAV a, i64V x0, i64V x1] (.ret (.v (.bool true))) := by
  have e1 := few13_ok l hI
  obtain ⟨m, hm⟩ : ∃ m, m = l.take 30 := ⟨_, rfl⟩
  have hIm : ∀ p ∈ m, inP p := fun p hp => hI p (List.mem_of_mem_take (by rw [← hm]; exact hp))
  have hml : m.length ≤ 30 := by rw [hm, List.length_take]; omega
  have zp := (HD.dot ha).sz
  have e2 := l11At_ok' a ha
  have zq : szV (dtF13 a) ≤ 1000 := by show szV (dotF _ _ _) ≤ _; omega
  have e3 := around_ok false m (dtF13 a) hIm (by omega) zq
  rw [← hm] at e1
  obtain ⟨L, hL⟩ : ∃ L, L = ptsI m := ⟨_, rfl⟩
  obtain ⟨D, hD⟩ : ∃ L, L = dpsC (rowDg m) := ⟨_, rfl⟩
  obtain ⟨n, hn⟩ : ∃ n, n = m.length := ⟨_, rfl⟩
  have hLr : refsL L = [] := by rw [hL]; exact ptsI_refs _
  have hLn : ∀ ρ, renL ρ L = L := fun ρ => renL_id ρ _ hLr
  have hLl : L.length = n * 2 := by rw [hL, hn, ptsI_len]
  have hDr : refsL D = [] := by rw [hD]; exact dpsC_refs _
  rw [← hL, ← hD, ← hn] at e1
  rw [← hL, ← hn] at e3
  rw [← hn] at hml
  have hp : dotF a.1 a.2.1 a.2.2 = dtF13 a := rfl
  rw [hp] at e2
  obtain ⟨L0, hL0⟩ : ∃ L, L = ptsI l := ⟨_, rfl⟩
  have hL0r : refsL L0 = [] := by rw [hL0]; exact ptsI_refs _
  rw [← hL0] at e1 ⊢
  obtain ⟨n0, hn0⟩ : ∃ n, n = l.length := ⟨_, rfl⟩
  rw [← hn0] at e1 ⊢
  clear hL0 hn0 hm hI zp
  obtain ⟨P, hP⟩ : ∃ P, P = dtF13 a := ⟨_, rfl⟩
  rw [← hP] at e2 e3 zq
  clear hP hp
  unfold dotAV at e2 ⊢
  obtain ⟨a0, a1, a2⟩ := a
  simp only at e2 ⊢
  clear ha
  refine Eval.intro Try.func9 rfl Try.call9 _ _ (Nat.le_of_ble_eq_true rfl) (by simp [-map_take,-map_drop, AV.refs, refsL, natAV, zAV, zC, ratAV, ratC, ptAV, ptC, sgAV, sgC, d3AV, d3C, dAV, dC, rAV, rC, DP.av, dpC, dotAV, push_cast]) fun hs0 => ?_
  repeat' (first
    | with_reducible first | apply thenW_n | apply W_seq
    | with_reducible refine W_rg ?_
    | (rw [vcn]; (try simp [-map_take,-map_drop, push_cast, hL0r]))
    | fail)
  refine CallG_of (e1) rfl rfl rfl ?_
  try dsimp only
  repeat' (first
    | (rw [vcn]; (try simp [-map_take,-map_drop, push_cast, hL0r, hLr, hDr]))
    | fail)
  refine thenW_n ?_
  by_cases h0 : n = 0
  · subst h0
    repeat' (first
      | with_reducible first | apply thenW_n | apply W_seq
      | with_reducible refine W_rg ?_
      | (rw [vcn]; (try simp [-map_take,-map_drop, push_cast, hLr]))
      | (with_reducible refine W_condW ?_; (try simp [-map_take,-map_drop, AS.val, upd, resB, mkS_env, mkS_box, lk, entry_env, condW_true, condW_false, hLr]))
      | fail)
    refine CallG_of (known13_ok) rfl rfl rfl ?_
    try dsimp only
    repeat' (first
      | with_reducible first | apply thenW_n | apply thenW_ret | apply W_ret
      | (rw [vcn]; (try simp [-map_take,-map_drop, push_cast, boolV]))
      | fail)
    simp [-map_take,-map_drop, post, resAV, resAll, resOne, closeV, closeC, closeL, resD, resDL, push_cast, boolV]
  have h0' : (n == 0) = false := beq_eq_false_iff_ne.2 h0
  have h1' : ((n : Int) == 0) = false := beq_eq_false_iff_ne.2 (by omega)
  have h2' : (n = 0) = False := eq_false h0
  have h3' : ((n : Int) = 0) = False := eq_false (by omega)
  obtain ⟨i0, hi0, hi0n⟩ := modN x0 n (by omega)
  obtain ⟨k0, hk0, hk0n⟩ := modN x1 n (by omega)
  have wn : IntKind.u64.wrap (n : Int) = n := by rw [u64_in _ (by omega)]
  have wi : IntKind.i64.wrap (i0 : Int) = i0 := by rw [i64_in _ (by omega)]
  have wk : IntKind.i64.wrap (k0 : Int) = k0 := by rw [i64_in _ (by omega)]
  refine W_seq ?_
  refine W_joinQ (X := Unit) (fun _ => [(0, .slc false 2 n L), (5, .bp 5 0), (2, i64V x0), (3, i64V x1)]) (fun _ => [(5, .mut 36 [i64V a0, i64V a1, i64V a2])]) (fun _ => True) ?_ fun _ _ => ?_
  · repeat' (first
      | with_reducible first | apply thenW_n | apply W_seq | apply W_skip
      | with_reducible refine W_rg ?_
      | (rw [vcn]; (try simp [-map_take,-map_drop, push_cast, h0', h1', h2', h3', hLr]))
      | (with_reducible refine W_condW ?_; (try simp [-map_take,-map_drop, AS.val, upd, resB, mkS_env, mkS_box, lk, entry_env, condW_true, condW_false, h0', h1', h2', h3', hLr]))
      | fail)
    refine joinW_n () id trivial ⟨?_, ?_, ?_, ?_, ?_, ?_⟩
    all_goals first | (simp [-map_take,-map_drop, push_cast, dV_take, dV_drop, hLr, hLn]; done)
  refine W_seq ?_
  refine W_joinQ (X := Unit) (fun _ => [(0, .slc false 2 n L), (5, .bp 5 0), (2, i64V i0), (3, i64V k0)]) (fun _ => [(5, .mut 36 [i64V a0, i64V a1, i64V a2])]) (fun _ => True) ?_ fun _ _ => ?_
  · repeat' (first
      | with_reducible refine W_drawn mixed (by decide) (by kernel_rfl) ?_
      | (rw [vcnD]; (try simp [-map_take,-map_drop, push_cast, h0', h1', h2', h3', hi0, hk0, wn, wi, wk, hLr]))
      | refine And.intro (by first | omega | kernel_rfl) ?_
      | fail)
    refine joinW_n () id trivial ⟨?_, ?_, ?_, ?_, ?_, ?_⟩
    all_goals first | (simp [-map_take,-map_drop, push_cast, dV_take, dV_drop, hLr, hLn]; done)
  refine W_seq ?_
  refine W_joinQ (X := Nat × Nat) (fun x => [(0, .slc false 2 n L), (5, .bp 5 0), (2, i64V x.1), (3, i64V x.2)]) (fun _ => [(5, .mut 36 [i64V a0, i64V a1, i64V a2])]) (fun x => x.1 ≤ x.2 ∧ x.2 < n) ?_ fun x hx => ?_
  · by_cases hik : k0 < i0
    · have y1 : (k0 < i0) = True := eq_true hik
      have y2 : ((k0 : Int) < (i0 : Int)) = True := eq_true (by omega)
      repeat' (first
        | with_reducible first | apply thenW_n | apply W_seq
        | with_reducible refine W_rg ?_
        | (rw [vcn]; (try simp [-map_take,-map_drop, push_cast, y1, y2, hLr]))
        | (with_reducible refine W_condW ?_; (try simp [-map_take,-map_drop, AS.val, upd, resB, mkS_env, mkS_box, lk, entry_env, condW_true, condW_false, y1, y2, hLr]))
        | fail)
      refine joinW_n (k0, i0) id ⟨by show k0 ≤ i0; omega, by show i0 < n; omega⟩ ⟨?_, ?_, ?_, ?_, ?_, ?_⟩
      all_goals first | (simp [-map_take,-map_drop, push_cast, dV_take, dV_drop, hLr, hLn]; done)
    · have y1 : (k0 < i0) = False := eq_false hik
      have y2 : ((k0 : Int) < (i0 : Int)) = False := eq_false (by omega)
      repeat' (first
        | with_reducible first | apply thenW_n | apply W_seq | apply W_skip
        | with_reducible refine W_rg ?_
        | (rw [vcn]; (try simp [-map_take,-map_drop, push_cast, y1, y2, hLr]))
        | (with_reducible refine W_condW ?_; (try simp [-map_take,-map_drop, AS.val, upd, resB, mkS_env, mkS_box, lk, entry_env, condW_true, condW_false, y1, y2, hLr]))
        | fail)
      refine joinW_n (i0, k0) id ⟨by show i0 ≤ k0; omega, by show k0 < n; omega⟩ ⟨?_, ?_, ?_, ?_, ?_, ?_⟩
      all_goals first | (simp [-map_take,-map_drop, push_cast, dV_take, dV_drop, hLr, hLn]; done)
  obtain ⟨i, k⟩ := x
  obtain ⟨hik, hkn⟩ := hx
  simp only at hik hkn ⊢
  clear hi0 hk0 hi0n hk0n wi wk wn h0' h1' h2' h3'
  have hlaw := cut_law m i k hik (by omega) P
  have e4 := around_ok false ((m.drop i).take (k + 1 - i)) P (fun p hp => hIm p (List.mem_of_mem_drop (List.mem_of_mem_take hp))) (by simp [-map_take,-map_drop]; omega) zq
  have e5 := around_ok false (m.take (i + 1) ++ m.drop k) P (fun p hp => by rcases List.mem_append.1 hp with h | h; exact hIm p (List.mem_of_mem_take h); exact hIm p (List.mem_of_mem_drop h)) (by simp [-map_take,-map_drop]; omega) zq
  have b1 := aroundF_bound (rowG ((m.drop i).take (k + 1 - i))) P
  have b2 := aroundF_bound (rowG (m.take (i + 1) ++ m.drop k)) P
  have l1 : ((m.drop i).take (k + 1 - i)).length = k + 1 - i := by simp [-map_take,-map_drop]; omega
  have l2 : (m.take (i + 1) ++ m.drop k).length = i + 1 + (n - k) := by simp [-map_take,-map_drop]; omega
  rw [rowG_len, l1] at b1
  rw [rowG_len, l2] at b2
  have f1 : (L.drop (i * 2)).take ((k + 1 - i) * 2) = ptsI ((m.drop i).take (k + 1 - i)) := by rw [hL, ptsI_drop, ptsI_take]
  have f2 : L.take ((i + 1) * 2) = ptsI (m.take (i + 1)) := by rw [hL, ptsI_take]
  have f3 : L.drop (k * 2) = ptsI (m.drop k) := by rw [hL, ptsI_drop]
  rw [l1] at e4
  rw [l2, ptsI_append] at e5
  obtain ⟨R, nm_⟩ : ∃ nm0_, nm0_ = (aroundF (rowG m) P).1 := ⟨_, rfl⟩
  simp only [← nm_] at e3 hlaw
  clear nm_
  obtain ⟨S, nm_⟩ : ∃ nm0_, nm0_ = (aroundF (rowG m) P).2 := ⟨_, rfl⟩
  simp only [← nm_] at e3 hlaw
  clear nm_
  obtain ⟨R1, nm_⟩ : ∃ nm0_, nm0_ = (aroundF (rowG ((m.drop i).take (k + 1 - i))) P).1 := ⟨_, rfl⟩
  simp only [← nm_] at e4 hlaw b1
  clear nm_
  obtain ⟨S1, nm_⟩ : ∃ nm0_, nm0_ = (aroundF (rowG ((m.drop i).take (k + 1 - i))) P).2 := ⟨_, rfl⟩
  simp only [← nm_] at e4 hlaw
  clear nm_
  obtain ⟨R2, nm_⟩ : ∃ nm0_, nm0_ = (aroundF (rowG (m.take (i + 1) ++ m.drop k)) P).1 := ⟨_, rfl⟩
  simp only [← nm_] at e5 hlaw b2
  clear nm_
  obtain ⟨S2, nm_⟩ : ∃ nm0_, nm0_ = (aroundF (rowG (m.take (i + 1) ++ m.drop k)) P).2 := ⟨_, rfl⟩
  simp only [← nm_] at e5 hlaw
  clear nm_
  have r1 : refsL (ptsI ((m.drop i).take (k + 1 - i))) = [] := ptsI_refs _
  have r2 : refsL (ptsI (m.take (i + 1)) ++ ptsI (m.drop k)) = [] := by rw [refsL_append, ptsI_refs, ptsI_refs]; rfl
  have z1 : (ptsI ((m.drop i).take (k + 1 - i))).length = (k + 1 - i) * 2 := by rw [ptsI_len, l1]
  have z2 : (ptsI (m.take (i + 1)) ++ ptsI (m.drop k)).length = (i + 1 + (n - k)) * 2 := by rw [← ptsI_append, ptsI_len, l2]
  have zU : (ptsI (m.take (i + 1))).length = (i + 1) * 2 := by rw [ptsI_len, List.length_take]; omega
  have zV : (ptsI (m.drop k)).length = (n - k) * 2 := by rw [ptsI_len, List.length_drop, ← hn]
  obtain ⟨O, nm_⟩ : ∃ nm0_, nm0_ = ptsI ((m.drop i).take (k + 1 - i)) := ⟨_, rfl⟩
  simp only [← nm_] at e4 f1 r1 z1
  clear nm_
  obtain ⟨U, nm_⟩ : ∃ nm0_, nm0_ = ptsI (m.take (i + 1)) := ⟨_, rfl⟩
  simp only [← nm_] at e5 f2 r2 z2 zU
  clear nm_
  obtain ⟨V, nm_⟩ : ∃ nm0_, nm0_ = ptsI (m.drop k) := ⟨_, rfl⟩
  simp only [← nm_] at e5 f3 r2 z2 zV
  clear nm_
  have tV : V.take ((n - k) * 2) = V := List.take_of_length_le (by omega)
  have zU' : ((i + 1) * 2 = U.length) = True := eq_true zU.symm
  have tO : O.take ((k + 1 - i) * 2) = O := List.take_of_length_le (by omega)
  have tUV : (U ++ V).take ((i + 1 + (n - k)) * 2) = U ++ V := List.take_of_length_le (by omega)
  have hkn' : (k ≤ n) = True := eq_true (by omega)
  have hin : (i + 1 ≤ n) = True := eq_true (by omega)
  clear hIm hL hD zq l1 l2
  repeat' (first
    | with_reducible apply W_seq
    | with_reducible refine W_rg ?_
    | (rw [vcn]; (try simp [-map_take,-map_drop, push_cast, hLr, hLl, f1]); try simp (disch := omega) only [i64_in, u64_in, shr64i])
    | refine And.intro (by first | omega | kernel_rfl) ?_
    | fail)
  refine thenW_n ?_
  refine W_frz 52 (e := 65) (l := O) (by simp [-map_take,-map_drop, mkS_box, lk, upd]) r1 ?_
  refine W_seq ?_
  repeat' (first
    | with_reducible refine W_drawn mixed (by decide) (by kernel_rfl) ?_
    | (rw [vcnD]; (try simp [-map_take,-map_drop, push_cast, hLr, hLl, f2, f3, hkn', hin, tV, zU']); try simp (disch := omega) only [i64_in, u64_in, shr64i])
    | refine And.intro (by first | omega | kernel_rfl) ?_
    | fail)
  refine thenW_n ?_
  refine W_frz 62 (e := 65) (l := U ++ V) (by simp [-map_take,-map_drop, mkS_box, lk, upd]) r2 ?_
  repeat' (first
    | with_reducible apply W_seq
    | with_reducible refine W_rg ?_
    | (rw [vcn]; (try simp [-map_take,-map_drop, push_cast, hLr]))
    | fail)
  refine CallG_of (e2) rfl rfl rfl ?_
  try dsimp only
  repeat' (first
    | with_reducible first | apply thenW_n | apply W_seq
    | with_reducible refine W_rg ?_
    | (rw [vcn]; (try simp [-map_take,-map_drop, push_cast, hLr, ptAV, ptC, ratAV, ratC, zAV, zC]))
    | fail)
  refine CallG_of (e3) rfl rfl rfl ?_
  try dsimp only
  repeat' (first
    | with_reducible first | apply thenW_n | apply W_seq
    | with_reducible refine W_rg ?_
    | (rw [vcn]; (try simp [-map_take,-map_drop, push_cast, hLr, ptAV, ptC, ratAV, ratC, zAV, zC, boolV, r1, z1, tO]))
    | fail)
  refine CallG_of (e4) rfl rfl rfl ?_
  try dsimp only
  repeat' (first
    | with_reducible first | apply thenW_n | apply W_seq
    | with_reducible refine W_rg ?_
    | (rw [vcn]; (try simp [-map_take,-map_drop, push_cast, hLr, ptAV, ptC, ratAV, ratC, zAV, zC, boolV, r2, z2, tUV]))
    | fail)
  refine CallG_of (e5) rfl rfl rfl ?_
  try dsimp only
  repeat' (first
    | with_reducible first | apply thenW_n | apply W_seq
    | with_reducible refine W_rg ?_
    | (rw [vcn]; (try simp [-map_take,-map_drop, push_cast, boolV]))
    | fail)
  refine CallG_of (known13_ok) rfl rfl rfl ?_
  try dsimp only
  cases S
  · cases S1
    · cases S2
      · have hs : R1 + R2 = R := by simpa [-map_take,-map_drop] using hlaw
        repeat' (first
          | with_reducible first | apply thenW_n | apply W_ret
          | (rw [vcn]; (try simp [-map_take,-map_drop, push_cast, boolV, hs]); try simp (disch := omega) only [i64_in, u64_in, shr64i])
          | fail)
        simp [-map_take,-map_drop, post, resAV, resAll, resOne, closeV, closeC, closeL, resD, resDL, push_cast, boolV]
      · repeat' (first
          | with_reducible first | apply thenW_n | apply W_ret
          | (rw [vcn]; (try simp [-map_take,-map_drop, push_cast, boolV]))
          | fail)
        simp [-map_take,-map_drop, post, resAV, resAll, resOne, closeV, closeC, closeL, resD, resDL, push_cast, boolV]
    · repeat' (first
        | with_reducible first | apply thenW_n | apply W_ret
        | (rw [vcn]; (try simp [-map_take,-map_drop, push_cast, boolV]))
        | fail)
      simp [-map_take,-map_drop, post, resAV, resAll, resOne, closeV, closeC, closeL, resD, resDL, push_cast, boolV]
  · repeat' (first
      | with_reducible first | apply thenW_n | apply W_ret
      | (rw [vcn]; (try simp [-map_take,-map_drop, push_cast, boolV]))
      | fail)
    simp [-map_take,-map_drop, post, resAV, resAll, resOne, closeV, closeC, closeL, resD, resDL, push_cast, boolV]
end Go.Fw

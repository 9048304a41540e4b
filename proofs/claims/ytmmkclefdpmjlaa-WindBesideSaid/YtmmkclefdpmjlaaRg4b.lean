import Derived.Test.YtmmkclefdpmjlaaRp1
import Derived.Test.YtmmkclefdpmjlaaRa7b
import Derived.Test.YtmmkclefdpmjlaaRg1b
set_option linter.unusedSimpArgs false
set_option linter.unusedVariables false
-- VALS: d3AV, d3C, dAV, dC, rAV, rC, DP.av, dpC, ratD, RD.av
namespace Go.Fw
open Go Go.Proofs Go.IntWalk
set_option linter.unusedSimpArgs false
set_option maxRecDepth 100000
set_option maxHeartbeats 20000000
theorem DB.sz' {p : DP} (hp : DB p) : szP3 p ≤ 20 := by
  have h1 := tens_bits hp.1
  have h2 := tens_bits hp.2.1
  have h3 := tens_bits hp.2.2.1
  unfold szP3 szD
  omega
theorem cmpZ_cases' (a b : Int) : cmpZ a b = -1 ∨ cmpZ a b = 0 ∨ cmpZ a b = 1 := by
  unfold cmpZ
  split
  · exact .inl rfl
  · split
    · exact .inr (.inr rfl)
    · exact .inr (.inl rfl)
def quar3 (p q : DP) : Int := quarS (cmpZ (q.x * p.w) (p.x * q.w)) (cmpZ (q.y * p.w) (p.y * q.w))
def side3 (a b c : DP) : Int := cmpZ (lessX a b * lessY a c) (lessY a b * lessX a c)
def turn3 (p a b : DP) : Int := turnS (quar3 p a) (quar3 p b) (side3 a b p)
def hit3 (l : List DP) (p : DP) (i : Nat) : Bool := on3 (l.getD i nilD) (l.getD ((i + 1) % l.length) nilD) p
def turnSum (l : List DP) (p : DP) (is : List Nat) : Int := sideS nilD (turn3 p) l is
def around3 (l : List DP) (p : DP) : Int × Bool := if (List.range l.length).any (hit3 l p) = true then (0, true) else ((turnSum l p (List.range l.length)).tdiv 4, false)
theorem quarS_in (x y : Int) : 0 ≤ quarS x y ∧ quarS x y ≤ 3 := by
  unfold quarS
  split
  · omega
  · split
    · omega
    · split <;> omega
theorem turn_cases (p a b : DP) : -2 ≤ turn3 p a b ∧ turn3 p a b ≤ 2 := by
  have h := cmpZ_cases' (lessX a b * lessY a p) (lessY a b * lessX a p)
  have h1 := quarS_in (cmpZ (a.x * p.w) (p.x * a.w)) (cmpZ (a.y * p.w) (p.y * a.w))
  have h2 := quarS_in (cmpZ (b.x * p.w) (p.x * b.w)) (cmpZ (b.y * p.w) (p.y * b.w))
  unfold turn3 turnS
  simp only
  have e : side3 a b p = -1 ∨ side3 a b p = 0 ∨ side3 a b p = 1 := h
  have h3 : 0 ≤ (quar3 p b - quar3 p a + 4) % 4 ∧ (quar3 p b - quar3 p a + 4) % 4 < 4 := ⟨Int.emod_nonneg _ (by decide), Int.emod_lt_of_pos _ (by decide)⟩
  generalize (quar3 p b - quar3 p a + 4) % 4 = d at h3
  by_cases c1 : d = 3
  · rw [if_pos c1, if_neg (by omega)]; omega
  · rw [if_neg c1]
    by_cases c2 : d = 2
    · rw [if_pos c2]; omega
    · rw [if_neg c2]; omega
theorem turnSum_bound (l : List DP) (p : DP) (is : List Nat) : -(2 * is.length : Int) ≤ turnSum l p is ∧ turnSum l p is ≤ 2 * is.length := by
  have := sideS_bound nilD (turn3 p) 2 l is (fun x y => by
    have := turn_cases p x y
    omega)
  unfold turnSum
  omega
open List (map_take map_drop)
attribute [local push_cast] optK_some optK_none optK_ite optK_map optK_bind gOn stepK isMem evPure evMem evBin evUn evConv evLen evBuiltin evMinMax evSlice evBuild evAppend evIndex evIndexAddr evField evFieldAddr intBin strBin appDest AS.val AS.mem AS.elems AS.put AS.put' AS.eff AV.cells? AV.isCell AV.refs all_isByte take_byteV drop_byteV strOf_map bndOk bnd partAV ptrAdd killBox catA inOrder fillA setAt ofVal resB upd byteV List.head?_take List.head?_drop List.getElem?_map mkS_env mkS_box mkS_used entry_env entry_box entry_used lk stepD lookIds Oper.looksAt Op.operands Call.operands St.ids refsL renL_append ren renL renBox Box.refs iV i64V boolV dV_getElem dV_app dV_cons toNat_add2 toNat_add1
attribute [local simp ↓] numC_refs numC_isCell numC_cells numC_resB numC_resD numC_ren numC_closeC numC_isOwn
theorem quarter_ok (p q : DP) (h : szP3 p + szP3 q ≤ 100000) : Eval Try.prog 64 [p.av, q.av] (.ret (i64V (quar3 p q))) := by
  unfold szP3 szD at h
  have e1 := mul02_ok q.x p.w (by omega)
  have e2 := mul02_ok p.x q.w (by omega)
  have e3 := mul02_ok q.y p.w (by omega)
  have e4 := mul02_ok p.y q.w (by omega)
  have e5 := cmp02_ok (q.x * p.w) (p.x * q.w)
  have e6 := cmp02_ok (q.y * p.w) (p.y * q.w)
  have hx := cmpZ_cases' (q.x * p.w) (p.x * q.w)
  have hy := cmpZ_cases' (q.y * p.w) (p.y * q.w)
  unfold quar3
  obtain ⟨X, nm_⟩ : ∃ nm0_, nm0_ = cmpZ (q.x * p.w) (p.x * q.w) := ⟨_, rfl⟩
  simp only [← nm_] at e5 hx ⊢
  clear nm_
  obtain ⟨Y, nm_⟩ : ∃ nm0_, nm0_ = cmpZ (q.y * p.w) (p.y * q.w) := ⟨_, rfl⟩
  simp only [← nm_] at e6 hy ⊢
  clear nm_
  obtain ⟨m1, nm_⟩ : ∃ nm0_, nm0_ = q.x * p.w := ⟨_, rfl⟩
  simp only [← nm_] at e1 e5
  clear nm_
  obtain ⟨m2, nm_⟩ : ∃ nm0_, nm0_ = p.x * q.w := ⟨_, rfl⟩
  simp only [← nm_] at e2 e5
  clear nm_
  obtain ⟨m3, nm_⟩ : ∃ nm0_, nm0_ = q.y * p.w := ⟨_, rfl⟩
  simp only [← nm_] at e3 e6
  clear nm_
  obtain ⟨m4, nm_⟩ : ∃ nm0_, nm0_ = p.y * q.w := ⟨_, rfl⟩
  simp only [← nm_] at e4 e6
  clear nm_
  clear h
  obtain ⟨px, py, pw⟩ := p
  obtain ⟨qx, qy, qw⟩ := q
  simp only [DP.av] at e1 e2 e3 e4 ⊢
  refine Eval.intro Try.func64 rfl Try.call64 _ _ (Nat.le_of_ble_eq_true rfl) (by simp [-map_take,-map_drop, AV.refs, refsL, natAV, d3AV, d3C, dAV, dC, rAV, rC, DP.av, dpC, ratD, RD.av, push_cast]) fun hs0 => ?_
  repeat' (first
    | with_reducible first | apply thenW_n | apply W_seq
    | with_reducible refine W_rg ?_
    | (rw [vcn]; (try simp [-map_take,-map_drop, push_cast, d3AV, d3C, dC, rC, numC, ← tens.eq_1]))
    | with_reducible refine W_drawn mixed (by decide) (by kernel_rfl) ?_
    | (rw [vcnD]; (try simp [-map_take,-map_drop, push_cast, d3AV, d3C, dC, rC, numC, ← tens.eq_1]))
    | fail)
  refine callD_of (e1) rfl rfl rfl ?_
  try dsimp only
  repeat' (first
    | (rw [vcnD]; (try simp [-map_take,-map_drop, push_cast, d3AV, d3C, dC, rC, numC, ← tens.eq_1, dAV]))
    | fail)
  refine callD_of (e2) rfl rfl rfl ?_
  try dsimp only
  repeat' (first
    | (rw [vcnD]; (try simp [-map_take,-map_drop, push_cast, d3AV, d3C, dC, rC, numC, ← tens.eq_1, dAV]))
    | fail)
  refine callD_of (e5) rfl rfl rfl ?_
  try dsimp only
  repeat' (first
    | with_reducible first | apply thenW_n | apply W_seq
    | with_reducible refine W_drawn mixed (by decide) (by kernel_rfl) ?_
    | (rw [vcnD]; (try simp [-map_take,-map_drop, push_cast, d3AV, d3C, dC, rC, numC, ← tens.eq_1, dAV]))
    | refine And.intro (by first | omega | kernel_rfl) ?_
    | fail)
  refine callD_of (e3) rfl rfl rfl ?_
  try dsimp only
  repeat' (first
    | (rw [vcnD]; (try simp [-map_take,-map_drop, push_cast, d3AV, d3C, dC, rC, numC, ← tens.eq_1, dAV]))
    | fail)
  refine callD_of (e4) rfl rfl rfl ?_
  try dsimp only
  repeat' (first
    | (rw [vcnD]; (try simp [-map_take,-map_drop, push_cast, d3AV, d3C, dC, rC, numC, ← tens.eq_1, dAV]))
    | fail)
  refine callD_of (e6) rfl rfl rfl ?_
  try dsimp only
  clear e1 e2 e3 e4 e5 e6
  rcases hx with rfl | rfl | rfl
  · rcases hy with rfl | rfl | rfl
    · repeat' (first
        | with_reducible first | apply thenW_n | apply thenW_ret | apply W_seq | apply W_skip | apply W_ret
        | with_reducible refine W_rg ?_
        | (rw [vcn]; (try simp [-map_take,-map_drop, push_cast]))
        | (rw [vcnD]; (try simp [-map_take,-map_drop, push_cast]))
        | (with_reducible refine W_condW ?_; (try simp [-map_take,-map_drop, AS.val, upd, resB, mkS_env, mkS_box, lk, entry_env, condW_true, condW_false]))
        | refine And.intro (by first | omega | kernel_rfl) ?_
        | fail)
      simp [-map_take,-map_drop, post, resAV, resAll, resOne, closeV, closeC, closeL, resD, resDL, push_cast, quarS]
    · repeat' (first
        | with_reducible first | apply thenW_n | apply thenW_ret | apply W_seq | apply W_skip | apply W_ret
        | with_reducible refine W_rg ?_
        | (rw [vcn]; (try simp [-map_take,-map_drop, push_cast]))
        | (rw [vcnD]; (try simp [-map_take,-map_drop, push_cast]))
        | (with_reducible refine W_condW ?_; (try simp [-map_take,-map_drop, AS.val, upd, resB, mkS_env, mkS_box, lk, entry_env, condW_true, condW_false]))
        | refine And.intro (by first | omega | kernel_rfl) ?_
        | fail)
      simp [-map_take,-map_drop, post, resAV, resAll, resOne, closeV, closeC, closeL, resD, resDL, push_cast, quarS]
    · repeat' (first
        | with_reducible first | apply thenW_n | apply thenW_ret | apply W_seq | apply W_skip | apply W_ret
        | with_reducible refine W_rg ?_
        | (rw [vcn]; (try simp [-map_take,-map_drop, push_cast]))
        | (rw [vcnD]; (try simp [-map_take,-map_drop, push_cast]))
        | (with_reducible refine W_condW ?_; (try simp [-map_take,-map_drop, AS.val, upd, resB, mkS_env, mkS_box, lk, entry_env, condW_true, condW_false]))
        | refine And.intro (by first | omega | kernel_rfl) ?_
        | fail)
      simp [-map_take,-map_drop, post, resAV, resAll, resOne, closeV, closeC, closeL, resD, resDL, push_cast, quarS]
  · rcases hy with rfl | rfl | rfl
    · repeat' (first
        | with_reducible first | apply thenW_n | apply W_seq | apply W_skip | apply W_ret
        | with_reducible refine W_rg ?_
        | (rw [vcn]; (try simp [-map_take,-map_drop, push_cast]))
        | (rw [vcnD]; (try simp [-map_take,-map_drop, push_cast]))
        | (with_reducible refine W_condW ?_; (try simp [-map_take,-map_drop, AS.val, upd, resB, mkS_env, mkS_box, lk, entry_env, condW_true, condW_false]))
        | refine And.intro (by first | omega | kernel_rfl) ?_
        | fail)
      simp [-map_take,-map_drop, post, resAV, resAll, resOne, closeV, closeC, closeL, resD, resDL, push_cast, quarS]
    · repeat' (first
        | with_reducible first | apply thenW_n | apply W_seq | apply W_skip | apply W_ret
        | with_reducible refine W_rg ?_
        | (rw [vcn]; (try simp [-map_take,-map_drop, push_cast]))
        | (rw [vcnD]; (try simp [-map_take,-map_drop, push_cast]))
        | (with_reducible refine W_condW ?_; (try simp [-map_take,-map_drop, AS.val, upd, resB, mkS_env, mkS_box, lk, entry_env, condW_true, condW_false]))
        | refine And.intro (by first | omega | kernel_rfl) ?_
        | fail)
      simp [-map_take,-map_drop, post, resAV, resAll, resOne, closeV, closeC, closeL, resD, resDL, push_cast, quarS]
    · repeat' (first
        | with_reducible first | apply thenW_n | apply thenW_ret | apply W_seq | apply W_skip | apply W_ret
        | with_reducible refine W_rg ?_
        | (rw [vcn]; (try simp [-map_take,-map_drop, push_cast]))
        | (rw [vcnD]; (try simp [-map_take,-map_drop, push_cast]))
        | (with_reducible refine W_condW ?_; (try simp [-map_take,-map_drop, AS.val, upd, resB, mkS_env, mkS_box, lk, entry_env, condW_true, condW_false]))
        | refine And.intro (by first | omega | kernel_rfl) ?_
        | fail)
      simp [-map_take,-map_drop, post, resAV, resAll, resOne, closeV, closeC, closeL, resD, resDL, push_cast, quarS]
  · rcases hy with rfl | rfl | rfl
    · repeat' (first
        | with_reducible first | apply thenW_n | apply W_seq | apply W_skip | apply W_ret
        | with_reducible refine W_rg ?_
        | (rw [vcn]; (try simp [-map_take,-map_drop, push_cast]))
        | (rw [vcnD]; (try simp [-map_take,-map_drop, push_cast]))
        | (with_reducible refine W_condW ?_; (try simp [-map_take,-map_drop, AS.val, upd, resB, mkS_env, mkS_box, lk, entry_env, condW_true, condW_false]))
        | refine And.intro (by first | omega | kernel_rfl) ?_
        | fail)
      simp [-map_take,-map_drop, post, resAV, resAll, resOne, closeV, closeC, closeL, resD, resDL, push_cast, quarS]
    · repeat' (first
        | with_reducible first | apply thenW_n | apply thenW_ret | apply W_seq | apply W_ret
        | with_reducible refine W_rg ?_
        | (rw [vcn]; (try simp [-map_take,-map_drop, push_cast]))
        | (rw [vcnD]; (try simp [-map_take,-map_drop, push_cast]))
        | (with_reducible refine W_condW ?_; (try simp [-map_take,-map_drop, AS.val, upd, resB, mkS_env, mkS_box, lk, entry_env, condW_true, condW_false]))
        | refine And.intro (by first | omega | kernel_rfl) ?_
        | fail)
      simp [-map_take,-map_drop, post, resAV, resAll, resOne, closeV, closeC, closeL, resD, resDL, push_cast, quarS]
    · repeat' (first
        | with_reducible first | apply thenW_n | apply thenW_ret | apply W_seq | apply W_ret
        | with_reducible refine W_rg ?_
        | (rw [vcn]; (try simp [-map_take,-map_drop, push_cast]))
        | (rw [vcnD]; (try simp [-map_take,-map_drop, push_cast]))
        | (with_reducible refine W_condW ?_; (try simp [-map_take,-map_drop, AS.val, upd, resB, mkS_env, mkS_box, lk, entry_env, condW_true, condW_false]))
        | refine And.intro (by first | omega | kernel_rfl) ?_
        | fail)
      simp [-map_take,-map_drop, post, resAV, resAll, resOne, closeV, closeC, closeL, resD, resDL, push_cast, quarS]
theorem around13_ok (f : Bool) (l : List DP) (p : DP) (hl : l.length ≤ 1000) (h : ∀ p ∈ l, DB p) (hp : szP3 p ≤ 50000) : Eval Try.prog 23 [.slc f 6 l.length (dpsC l), p.av] (.ret (.tup [i64V (around3 l p).1, boolV (around3 l p).2])) := by
  obtain ⟨n, hn⟩ : ∃ n, n = l.length := ⟨_, rfl⟩
  obtain ⟨L, hL⟩ : ∃ x, x = dpsC l := ⟨_, rfl⟩
  have hLr : refsL L = [] := by rw [hL]; exact dpsC_refs _
  have hLn : ∀ ρ, renL ρ L = L := fun ρ => renL_id ρ _ hLr
  have hLl : L.length = n * 6 := by rw [hL, hn, dpsC_len]
  have hat : ∀ i, i < n → ∃ t, L.drop (i * 6) = dpC (l.getD i nilD) ++ t := fun i hi => by
    rw [hL, List.getD_eq_getElem?_getD, List.getElem?_eq_getElem (by omega)]
    exact dpsC_at l i (by omega)
  rw [← hn] at hl ⊢
  rw [← hL]
  clear hL
  obtain ⟨C, hC⟩ : ∃ C, C = dpC p := ⟨_, rfl⟩
  have hCl : C.length = 6 := by rw [hC]; rfl
  have hC_refs : refsL C = [] := by rw [hC]; rfl
  have hCn : ∀ ρ, renL ρ C = C := fun ρ => renL_id ρ _ hC_refs
  have hCp : p.av = .agg C := by rw [hC]; rfl
  have q4 : C.take 6 = C := List.take_of_length_le (by omega)
  rw [hCp]
  have hz : ∀ i, szP3 (l.getD i nilD) ≤ 20 := fun i => (DB.at h i).sz'
  have hw0 : turnSum l p [] = 0 := rfl
  refine Eval.intro Try.func23 rfl Try.call23 _ _ (Nat.le_of_ble_eq_true rfl) (by simp [-map_take,-map_drop, AV.refs, refsL, hLr, hC_refs]) fun hs0 => ?_
  repeat' (first
    | with_reducible first | apply thenW_n | apply W_seq | apply W_block
    | with_reducible refine W_rg ?_
    | (rw [vcn]; (try simp [-map_take,-map_drop, push_cast, hLr, hC_refs, hCl]))
    | fail)
  refine W_loopW (X := Nat) (fun k => [(0, .slc f 6 n L), (3, .bp 3 0), (6, i64V (turnSum l p (List.range k))), (7, i64V k)]) (fun k => [(3, .mut 43 C)]) (fun k => n - k) (fun k => k ≤ n ∧ ∀ i, i < k → hit3 l p i = false) 0 id ⟨Nat.zero_le _, fun i hi => by omega⟩ ⟨?_, ?_, ?_, ?_, ?_, ?_⟩ fun k hk => ?_
  all_goals first | (with_reducible refine W_id ?_) | (simp [-map_take,-map_drop, push_cast, dV_take, dV_drop, hLr, hLn, hC_refs, hCn, List.range_zero, hw0]; done)
  obtain ⟨hk, hno⟩ := hk
  by_cases c1 : ¬ k < n
  · have y1 : (k < n) = False := eq_false c1
    have y2 : ((k : Int) < (n : Int)) = False := eq_false (by omega)
    have hkn : k = n := by omega
    have hfin : around3 l p = ((turnSum l p (List.range n)).tdiv 4, false) := by
      unfold around3
      rw [← hn, if_neg]
      intro h
      obtain ⟨i, h1, h2⟩ := List.any_eq_true.1 h
      rw [hno i (by have := List.mem_range.1 h1; omega)] at h2
      cases h2
    have hb := turnSum_bound l p (List.range n)
    rw [List.length_range] at hb
    rw [hfin, hkn]
    obtain ⟨T, nm_⟩ : ∃ nm0_, nm0_ = turnSum l p (List.range n) := ⟨_, rfl⟩
    simp only [← nm_] at hb ⊢
    clear nm_
    have in1 : -9223372036854775808 ≤ T.tdiv 4 ∧ T.tdiv 4 ≤ 9223372036854775807 := by
      have := Int.natAbs_tdiv T 4
      have h5 : (T.tdiv 4).natAbs ≤ T.natAbs := by rw [this]; exact Nat.div_le_self _ _
      omega
    subst hkn
    clear hno h hat hz hfin hw0
    repeat' (first
      | with_reducible first | apply thenW_n | apply thenW_exit | apply blockW_same | apply loopW_exit | apply W_seq | apply W_ret | apply W_exit
      | with_reducible refine W_rg ?_
      | (rw [vcn]; (try simp [-map_take,-map_drop, push_cast, y1, y2, hLr, hC_refs]); try simp (disch := omega) only [i64_in, u64_in, shr64i])
      | (with_reducible refine W_condW ?_; (try simp [-map_take,-map_drop, AS.val, upd, resB, mkS_env, mkS_box, lk, entry_env, condW_true, condW_false, y1, y2, hLr, hC_refs]))
      | fail)
    simp [-map_take,-map_drop, post, resAV, resAll, resOne, closeV, closeC, closeL, resD, resDL, push_cast, hLr, hC_refs, boolV]
  have c1 : k < n := by omega
  have y1 : (k < n) = True := eq_true c1
  have y2 : ((k : Int) < (n : Int)) = True := eq_true (by omega)
  have hj : (k + 1) % n < n := Nat.mod_lt _ (by omega)
  have hrem : ((k : Int) + 1).tmod (n : Int) = (((k + 1) % n : Nat) : Int) := by rw [Int.tmod_eq_emod_of_nonneg (by omega)]; rfl
  have n0 : (n = 0) = False := eq_false (by omega)
  have n1 : ((n : Int) = 0) = False := eq_false (by omega)
  obtain ⟨t1, ht1⟩ := hat k c1
  obtain ⟨t2, ht2⟩ := hat _ hj
  have hsn : turnSum l p (List.range (k + 1)) = turnSum l p (List.range k) + turn3 p (l.getD k nilD) (l.getD ((k + 1) % n) nilD) := by rw [List.range_succ]; unfold turnSum; rw [sideS_snoc, ← hn]
  have hhit : hit3 l p k = on3 (l.getD k nilD) (l.getD ((k + 1) % n) nilD) p := by unfold hit3; rw [hn]
  have hb := turnSum_bound l p (List.range k)
  rw [List.length_range] at hb
  have z1 := hz k
  have z2 := hz ((k + 1) % n)
  obtain ⟨j, hj2⟩ : ∃ j, j = (k + 1) % n := ⟨_, rfl⟩
  rw [← hj2] at hj hrem ht2 hsn hhit z2
  clear hj2
  obtain ⟨a, nm_⟩ : ∃ nm0_, nm0_ = l.getD k nilD := ⟨_, rfl⟩
  simp only [← nm_] at ht1 hsn hhit z1
  clear nm_
  obtain ⟨b, nm_⟩ : ∃ nm0_, nm0_ = l.getD j nilD := ⟨_, rfl⟩
  simp only [← nm_] at ht2 hsn hhit z2
  clear nm_
  have e1 := on11_ok a b p (by omega)
  have e2 := quarter_ok p b (by omega)
  have e3 := quarter_ok p a (by omega)
  have e4 : Eval Try.prog 65 [a.av, b.av, p.av] (.ret (i64V (side3 a b p))) := side11_ok a b p (by omega)
  have hq1 := quarS_in (cmpZ (a.x * p.w) (p.x * a.w)) (cmpZ (a.y * p.w) (p.y * a.w))
  have hq2 := quarS_in (cmpZ (b.x * p.w) (p.x * b.w)) (cmpZ (b.y * p.w) (p.y * b.w))
  have hs : side3 a b p = -1 ∨ side3 a b p = 0 ∨ side3 a b p = 1 := cmpZ_cases' _ _
  have hq1' : 0 ≤ quar3 p a ∧ quar3 p a ≤ 3 := hq1
  have hq2' : 0 ≤ quar3 p b ∧ quar3 p b ≤ 3 := hq2
  clear hq1 hq2
  rw [← hhit] at e1
  have htn : turn3 p a b = turnS (quar3 p a) (quar3 p b) (side3 a b p) := rfl
  rw [htn] at hsn
  obtain ⟨qa, nm_⟩ : ∃ nm0_, nm0_ = quar3 p a := ⟨_, rfl⟩
  simp only [← nm_] at e3 hsn hq1'
  clear nm_
  obtain ⟨qb, nm_⟩ : ∃ nm0_, nm0_ = quar3 p b := ⟨_, rfl⟩
  simp only [← nm_] at e2 hsn hq2'
  clear nm_
  obtain ⟨sd, nm_⟩ : ∃ nm0_, nm0_ = side3 a b p := ⟨_, rfl⟩
  simp only [← nm_] at e4 hsn hs
  clear nm_
  obtain ⟨T, nm_⟩ : ∃ nm0_, nm0_ = turnSum l p (List.range k) := ⟨_, rfl⟩
  simp only [← nm_] at hsn hb ⊢
  clear nm_
  have ht3 : L.drop (k * 6) = dpC a ++ t1 := ht1
  clear hat hz htn
  obtain ⟨A, hA⟩ : ∃ A, A = dpC a := ⟨_, rfl⟩
  have hAl : A.length = 6 := by rw [hA]; rfl
  have hA_refs : refsL A = [] := by rw [hA]; rfl
  have hAp : a.av = .agg A := by rw [hA]; rfl
  obtain ⟨B, hB⟩ : ∃ A, A = dpC b := ⟨_, rfl⟩
  have hBl : B.length = 6 := by rw [hB]; rfl
  have hB_refs : refsL B = [] := by rw [hB]; rfl
  have hBp : b.av = .agg B := by rw [hB]; rfl
  have hAB : DP.av2 a b = .agg (A ++ B) := by rw [hA, hB]; rfl
  have tA : ∀ t, (A ++ t).take 6 = A := fun t => List.take_left' hAl
  have tB : ∀ t, (B ++ t).take 6 = B := fun t => List.take_left' hBl
  have tA0 : A.take 6 = A := List.take_of_length_le (by omega)
  have tB0 : B.take 6 = B := List.take_of_length_le (by omega)
  have dr12 : ∀ a b c d e f : AV, (A ++ [a, b, c, d, e, f]).drop 12 = [] := fun a b c d e f => List.drop_eq_nil_of_le (by rw [List.length_append, hAl]; simp [-map_take,-map_drop])
  rw [hAB, hCp] at e1
  rw [hCp, hBp] at e2
  rw [hCp, hAp] at e3
  rw [hAp, hBp, hCp] at e4
  rw [← hA] at ht1 ht3
  rw [← hB] at ht2
  clear hA hB hAp hBp hAB ht3
  repeat' (first
    | with_reducible first | apply thenW_n | apply W_seq | apply W_block | apply W_skip
    | with_reducible refine W_rg ?_
    | (rw [vcn]; (try simp [-map_take,-map_drop, push_cast, y1, y2, hLl, c1, hj, hrem, n0, n1, ht1, ht2, tA, tB, tA0, tB0, dr12, hAl, hBl, hA_refs, hB_refs, q4, hCl, hC_refs]); try simp (disch := omega) only [i64_in, u64_in, shr64i])
    | with_reducible refine W_drawn mixed (by decide) (by kernel_rfl) ?_
    | (rw [vcnD]; (try simp [-map_take,-map_drop, push_cast, y1, y2, hLl, c1, hj, hrem, n0, n1, ht1, ht2, tA, tB, tA0, tB0, dr12, hAl, hBl, hA_refs, hB_refs, q4, hCl, hC_refs]); try simp (disch := omega) only [i64_in, u64_in, shr64i])
    | (with_reducible refine W_condW ?_; (try simp [-map_take,-map_drop, AS.val, upd, resB, mkS_env, mkS_box, lk, entry_env, condW_true, condW_false, y1, y2, hLl, c1, hj, hrem, n0, n1, ht1, ht2, tA, tB, tA0, tB0, dr12, hAl, hBl, hA_refs, hB_refs, q4, hCl, hC_refs]))
    | refine And.intro (by first | omega | kernel_rfl) ?_
    | fail)
  refine CallG_of (e1) rfl (by simp [-map_take,-map_drop, natAV, d3AV, d3C, dAV, dC, rAV, rC, DP.av, dpC, ratD, RD.av, AV.refs, refsL, push_cast, hA_refs, hB_refs, hC_refs]) rfl ?_
  try dsimp only
  cases hit : hit3 l p k
  · rw [hit] at e1
    have hno' : ∀ i, i < k + 1 → hit3 l p i = false := fun i hi => by
      by_cases h : i = k
      · rw [h]; exact hit
      · exact hno i (by omega)
    have hd : ∃ d, d = (qb - qa + 4) % 4 := ⟨_, rfl⟩
    obtain ⟨d, hd⟩ := hd
    have hdb : d = 0 ∨ d = 1 ∨ d = 2 ∨ d = 3 := by omega
    have hdm : (qb - qa + 4).tmod 4 = d := by rw [hd, Int.tmod_eq_emod_of_nonneg (by omega)]
    unfold turnS at hsn
    simp only at hsn
    rw [← hd] at hsn
    clear hd hit
    repeat' (first
      | with_reducible first | apply thenW_n | apply W_seq | apply W_skip
      | (rw [vcn]; (try simp [-map_take,-map_drop, push_cast, boolV, tA0, tB0, hAl, hBl, hA_refs, hB_refs, q4, hCl, hC_refs]))
      | with_reducible refine W_drawn mixed (by decide) (by kernel_rfl) ?_
      | (rw [vcnD]; (try simp [-map_take,-map_drop, push_cast, boolV, tA0, tB0, hAl, hBl, hA_refs, hB_refs, q4, hCl, hC_refs]))
      | (with_reducible refine W_condW ?_; (try simp [-map_take,-map_drop, AS.val, upd, resB, mkS_env, mkS_box, lk, entry_env, condW_true, condW_false, boolV, tA0, tB0, hAl, hBl, hA_refs, hB_refs, q4, hCl, hC_refs]))
      | fail)
    refine callD_of (e2) rfl (by simp [-map_take,-map_drop, natAV, d3AV, d3C, dAV, dC, rAV, rC, DP.av, dpC, ratD, RD.av, AV.refs, refsL, push_cast, hB_refs, hC_refs]) rfl ?_
    try dsimp only
    repeat' (first
      | (rw [vcnD]; (try simp [-map_take,-map_drop, push_cast, boolV, tA0, tB0, hAl, hBl, hA_refs, hB_refs, q4, hCl, hC_refs]))
      | fail)
    refine callD_of (e3) rfl (by simp [-map_take,-map_drop, natAV, d3AV, d3C, dAV, dC, rAV, rC, DP.av, dpC, ratD, RD.av, AV.refs, refsL, push_cast, hA_refs, hC_refs]) rfl ?_
    try dsimp only
    rcases hdb with rfl | rfl | rfl | rfl
    · have hs' : turnSum l p (List.range (k + 1)) = T := by rw [hsn]; simp [-map_take,-map_drop]
      repeat' (first
        | with_reducible first | apply thenW_n | apply blockW_n | apply W_seq | apply W_skip
        | with_reducible refine W_rg ?_
        | (rw [vcn]; (try simp [-map_take,-map_drop, push_cast, boolV, tA0, tB0, hAl, hBl, hA_refs, hB_refs, q4, hCl, hC_refs, hdm]); try simp (disch := omega) only [i64_in, u64_in, shr64i])
        | (rw [vcnD]; (try simp [-map_take,-map_drop, push_cast, boolV, tA0, tB0, hAl, hBl, hA_refs, hB_refs, q4, hCl, hC_refs, hdm]); try simp (disch := omega) only [i64_in, u64_in, shr64i])
        | (with_reducible refine W_condW ?_; (try simp [-map_take,-map_drop, AS.val, upd, resB, mkS_env, mkS_box, lk, entry_env, condW_true, condW_false, boolV, tA0, tB0, hAl, hBl, hA_refs, hB_refs, q4, hCl, hC_refs, hdm]))
        | refine And.intro (by first | omega | kernel_rfl) ?_
        | fail)
      refine loopW_n (k + 1) id (by omega) ⟨by omega, hno'⟩ ⟨?_, ?_, ?_, ?_, ?_, ?_⟩
      all_goals first | (simp [-map_take,-map_drop, push_cast, dV_take, dV_drop, hLr, hLn, hC_refs, hCn, hs']; done)
    · have hs' : turnSum l p (List.range (k + 1)) = T + 1 := by rw [hsn]; simp [-map_take,-map_drop]
      repeat' (first
        | with_reducible first | apply thenW_n | apply blockW_n | apply W_seq | apply W_skip
        | with_reducible refine W_rg ?_
        | (rw [vcn]; (try simp [-map_take,-map_drop, push_cast, boolV, tA0, tB0, hAl, hBl, hA_refs, hB_refs, q4, hCl, hC_refs, hdm]); try simp (disch := omega) only [i64_in, u64_in, shr64i])
        | (rw [vcnD]; (try simp [-map_take,-map_drop, push_cast, boolV, tA0, tB0, hAl, hBl, hA_refs, hB_refs, q4, hCl, hC_refs, hdm]); try simp (disch := omega) only [i64_in, u64_in, shr64i])
        | (with_reducible refine W_condW ?_; (try simp [-map_take,-map_drop, AS.val, upd, resB, mkS_env, mkS_box, lk, entry_env, condW_true, condW_false, boolV, tA0, tB0, hAl, hBl, hA_refs, hB_refs, q4, hCl, hC_refs, hdm]))
        | refine And.intro (by first | omega | kernel_rfl) ?_
        | fail)
      refine loopW_n (k + 1) id (by omega) ⟨by omega, hno'⟩ ⟨?_, ?_, ?_, ?_, ?_, ?_⟩
      all_goals first | (simp [-map_take,-map_drop, push_cast, dV_take, dV_drop, hLr, hLn, hC_refs, hCn, hs']; done)
    · repeat' (first
        | with_reducible first | apply thenW_n | apply W_seq | apply W_skip
        | with_reducible refine W_rg ?_
        | (rw [vcn]; (try simp [-map_take,-map_drop, push_cast, boolV, tA0, tB0, hAl, hBl, hA_refs, hB_refs, q4, hCl, hC_refs, hdm]); try simp (disch := omega) only [i64_in, u64_in, shr64i])
        | (rw [vcnD]; (try simp [-map_take,-map_drop, push_cast, boolV, tA0, tB0, hAl, hBl, hA_refs, hB_refs, q4, hCl, hC_refs, hdm]); try simp (disch := omega) only [i64_in, u64_in, shr64i])
        | (with_reducible refine W_condW ?_; (try simp [-map_take,-map_drop, AS.val, upd, resB, mkS_env, mkS_box, lk, entry_env, condW_true, condW_false, boolV, tA0, tB0, hAl, hBl, hA_refs, hB_refs, q4, hCl, hC_refs, hdm]))
        | refine And.intro (by first | omega | kernel_rfl) ?_
        | fail)
      refine CallG_of (e4) rfl (by simp [-map_take,-map_drop, natAV, d3AV, d3C, dAV, dC, rAV, rC, DP.av, dpC, ratD, RD.av, AV.refs, refsL, push_cast, hA_refs, hB_refs, hC_refs]) rfl ?_
      try dsimp only
      rcases hs with rfl | rfl | rfl
      · have hs' : turnSum l p (List.range (k + 1)) = T + -2 := by rw [hsn]; simp [-map_take,-map_drop]
        repeat' (first
          | with_reducible first | apply thenW_n | apply blockW_n
          | with_reducible refine W_rg ?_
          | (rw [vcn]; (try simp [-map_take,-map_drop, push_cast, boolV, tA0, tB0, hAl, hBl, hA_refs, hB_refs, q4, hCl, hC_refs, hdm]); try simp (disch := omega) only [i64_in, u64_in, shr64i])
          | fail)
        refine loopW_n (k + 1) id (by omega) ⟨by omega, hno'⟩ ⟨?_, ?_, ?_, ?_, ?_, ?_⟩
        all_goals first | (simp [-map_take,-map_drop, push_cast, dV_take, dV_drop, hLr, hLn, hC_refs, hCn, hs']; done)
      · have hs' : turnSum l p (List.range (k + 1)) = T := by rw [hsn]; simp [-map_take,-map_drop]
        repeat' (first
          | with_reducible first | apply thenW_n | apply blockW_n
          | with_reducible refine W_rg ?_
          | (rw [vcn]; (try simp [-map_take,-map_drop, push_cast, boolV, tA0, tB0, hAl, hBl, hA_refs, hB_refs, q4, hCl, hC_refs, hdm]); try simp (disch := omega) only [i64_in, u64_in, shr64i])
          | fail)
        refine loopW_n (k + 1) id (by omega) ⟨by omega, hno'⟩ ⟨?_, ?_, ?_, ?_, ?_, ?_⟩
        all_goals first | (simp [-map_take,-map_drop, push_cast, dV_take, dV_drop, hLr, hLn, hC_refs, hCn, hs']; done)
      · have hs' : turnSum l p (List.range (k + 1)) = T + 2 := by rw [hsn]; simp [-map_take,-map_drop]
        repeat' (first
          | with_reducible first | apply thenW_n | apply blockW_n
          | with_reducible refine W_rg ?_
          | (rw [vcn]; (try simp [-map_take,-map_drop, push_cast, boolV, tA0, tB0, hAl, hBl, hA_refs, hB_refs, q4, hCl, hC_refs, hdm]); try simp (disch := omega) only [i64_in, u64_in, shr64i])
          | fail)
        refine loopW_n (k + 1) id (by omega) ⟨by omega, hno'⟩ ⟨?_, ?_, ?_, ?_, ?_, ?_⟩
        all_goals first | (simp [-map_take,-map_drop, push_cast, dV_take, dV_drop, hLr, hLn, hC_refs, hCn, hs']; done)
    · have hs' : turnSum l p (List.range (k + 1)) = T + -1 := by rw [hsn]; simp [-map_take,-map_drop]
      repeat' (first
        | with_reducible first | apply thenW_n | apply blockW_n | apply W_seq | apply W_skip
        | with_reducible refine W_rg ?_
        | (rw [vcn]; (try simp [-map_take,-map_drop, push_cast, boolV, tA0, tB0, hAl, hBl, hA_refs, hB_refs, q4, hCl, hC_refs, hdm]); try simp (disch := omega) only [i64_in, u64_in, shr64i])
        | (rw [vcnD]; (try simp [-map_take,-map_drop, push_cast, boolV, tA0, tB0, hAl, hBl, hA_refs, hB_refs, q4, hCl, hC_refs, hdm]); try simp (disch := omega) only [i64_in, u64_in, shr64i])
        | (with_reducible refine W_condW ?_; (try simp [-map_take,-map_drop, AS.val, upd, resB, mkS_env, mkS_box, lk, entry_env, condW_true, condW_false, boolV, tA0, tB0, hAl, hBl, hA_refs, hB_refs, q4, hCl, hC_refs, hdm]))
        | refine And.intro (by first | omega | kernel_rfl) ?_
        | fail)
      refine loopW_n (k + 1) id (by omega) ⟨by omega, hno'⟩ ⟨?_, ?_, ?_, ?_, ?_, ?_⟩
      all_goals first | (simp [-map_take,-map_drop, push_cast, dV_take, dV_drop, hLr, hLn, hC_refs, hCn, hs']; done)
  · rw [hit] at e1
    have hfin : around3 l p = (0, true) := by
      unfold around3
      rw [← hn, if_pos]
      exact List.any_eq_true.2 ⟨k, List.mem_range.2 c1, hit⟩
    rw [hfin]
    repeat' (first
      | with_reducible first | apply thenW_n | apply thenW_ret | apply blockW_ret | apply loopW_ret | apply W_seq | apply W_ret
      | with_reducible refine W_rg ?_
      | (rw [vcn]; (try simp [-map_take,-map_drop, push_cast, boolV, hLr, hC_refs]))
      | (with_reducible refine W_condW ?_; (try simp [-map_take,-map_drop, AS.val, upd, resB, mkS_env, mkS_box, lk, entry_env, condW_true, condW_false, boolV, hLr, hC_refs]))
      | fail)
    simp [-map_take,-map_drop, post, resAV, resAll, resOne, closeV, closeC, closeL, resD, resDL, push_cast, hLr, hC_refs, boolV]
end Go.Fw
-- VALS: zAV, zC, ratAV, ratC, ptAV, ptC, sgAV, sgC, d3AV, d3C, dAV, dC, rAV, rC, DP.av, dpC
namespace Go.Fw
open Go Go.Proofs Go.IntWalk
set_option linter.unusedSimpArgs false
set_option maxRecDepth 100000
set_option maxHeartbeats 20000000
def knownR : List (Int × Int) := [(0, 0), (4, 0), (4, 4), (0, 4)]
theorem knownR_in : ∀ p ∈ knownR, inP p := by
  intro p hp
  simp only [knownR, List.mem_cons, List.not_mem_nil, or_false] at hp
  rcases hp with rfl | rfl | rfl | rfl <;> exact ⟨by unfold inI; omega, by unfold inI; omega⟩
theorem known13_1 : aroundF (rowG knownR) (gridF 1 1) = (1, false) := by decide +kernel
theorem known13_2 : aroundF (rowG knownR) (gridF 5 5) = (0, false) := by decide +kernel
theorem known13_3 : aroundF (rowG knownR) (gridF 4 2) = (0, true) := by decide +kernel
theorem known13_4 : besideF (rowG knownR) ⟨gridF 0 0, gridF 4 0⟩ = (1, 0) := by decide +kernel
def gridD (p : Int × Int) : DP := ⟨p.1, p.2, 1⟩
def rowDg (l : List (Int × Int)) : List DP := l.map gridD
theorem rowDg_snoc (l : List (Int × Int)) (a : Int × Int) : dpsC (rowDg (l ++ [a])) = dpsC (rowDg l) ++ dpC (gridD a) := by
  unfold rowDg dpsC; rw [List.map_append, List.flatMap_append]; simp
theorem rowDg_len (l : List (Int × Int)) : (rowDg l).length = l.length := by unfold rowDg; rw [List.length_map]
theorem ptsI_take (l : List (Int × Int)) (k : Nat) : (ptsI l).take (k * 2) = ptsI (l.take k) := by
  induction l generalizing k with
  | nil => simp [ptsI]
  | cons x r ih =>
    cases k with
    | zero => simp [ptsI]
    | succ k =>
      rw [List.take_succ_cons]
      show ([i64V x.1, i64V x.2] ++ ptsI r).take ((k + 1) * 2) = [i64V x.1, i64V x.2] ++ ptsI (r.take k)
      rw [← ih, show (k + 1) * 2 = k * 2 + 1 + 1 from by omega]
      rfl
open List (map_take map_drop)
attribute [local push_cast] optK_some optK_none optK_ite optK_map optK_bind gOn stepK isMem evPure evMem evBin evUn evConv evLen evBuiltin evMinMax evSlice evBuild evAppend evIndex evIndexAddr evField evFieldAddr intBin strBin appDest AS.val AS.mem AS.elems AS.put AS.put' AS.eff AV.cells? AV.isCell AV.refs all_isByte take_byteV drop_byteV strOf_map bndOk bnd partAV ptrAdd killBox catA inOrder fillA setAt ofVal resB upd byteV List.head?_take List.head?_drop List.getElem?_map mkS_env mkS_box mkS_used entry_env entry_box entry_used lk stepD lookIds Oper.looksAt Op.operands Call.operands St.ids refsL renL_append ren renL renBox Box.refs iV i64V boolV dV_getElem dV_app dV_cons toNat_add2 toNat_add1
attribute [local simp ↓] numC_refs numC_isCell numC_cells numC_resB numC_resD numC_ren numC_closeC numC_isOwn
theorem few13_ok (l : List (Int × Int)) (hI : ∀ p ∈ l, inP p) : Eval Try.prog 21 [.slc false 2 l.length (ptsI l)] (.ret (.tup [.slc false 2 (l.take 30).length (ptsI (l.take 30)), .slc false 6 (l.take 30).length (dpsC (rowDg (l.take 30)))])) := by
  obtain ⟨m, hm⟩ : ∃ m, m = l.take 30 := ⟨_, rfl⟩
  have hIm : ∀ p ∈ m, inP p := fun p hp => hI p (List.mem_of_mem_take (by rw [← hm]; exact hp))
  obtain ⟨n, hn⟩ : ∃ n, n = l.length := ⟨_, rfl⟩
  obtain ⟨k, hk⟩ : ∃ k, k = m.length := ⟨_, rfl⟩
  have hkn : k = min 30 n := by rw [hk, hm, List.length_take, hn]
  obtain ⟨I, hIe⟩ : ∃ x, x = ptsI l := ⟨_, rfl⟩
  obtain ⟨L, hL⟩ : ∃ x, x = ptsI m := ⟨_, rfl⟩
  have hIr : refsL I = [] := by rw [hIe]; exact ptsI_refs _
  have hIn : ∀ ρ, renL ρ I = I := fun ρ => renL_id ρ _ hIr
  have hIl : I.length = n * 2 := by rw [hIe, hn, ptsI_len]
  have hIL : I.take 60 = L := by rw [hIe, hL, hm]; exact ptsI_take l 30
  have hLr : refsL L = [] := by rw [hL]; exact ptsI_refs _
  have hLn : ∀ ρ, renL ρ L = L := fun ρ => renL_id ρ _ hLr
  have hLl : L.length = k * 2 := by rw [hL, hk, ptsI_len]
  have hat : ∀ i (h : i < m.length), ∃ t, L.drop (i * 2) = i64V m[i].1 :: i64V m[i].2 :: t := fun i h => by rw [hL]; exact ptsI_at m i h
  rw [← hm, ← hL, ← hk, ← hIe, ← hn]
  clear hL hIe hI
  have hPr : ∀ m, refsL (dpsC (rowDg m)) = [] := fun m => dpsC_refs _
  have hPn : ∀ m ρ, renL ρ (dpsC (rowDg m)) = dpsC (rowDg m) := fun m ρ => renL_id ρ _ (hPr m)
  have hPl : ∀ m, (dpsC (rowDg m)).length = m.length * 6 := fun m => by rw [dpsC_len, rowDg_len]
  have hP0 : dpsC (rowDg []) = [] := rfl
  refine Eval.intro Try.func21 rfl Try.call21 _ _ (Nat.le_of_ble_eq_true rfl) (by simp [-map_take,-map_drop, AV.refs, refsL, natAV, zAV, zC, ratAV, ratC, ptAV, ptC, sgAV, sgC, d3AV, d3C, dAV, dC, rAV, rC, DP.av, dpC, push_cast]) fun hs0 => ?_
  refine W_seq ?_
  repeat' (first
    | with_reducible refine W_rg ?_
    | (rw [vcn]; (try simp [-map_take,-map_drop, push_cast]))
    | fail)
  refine thenW_n ?_
  refine W_seq ?_
  refine W_joinQ (X := Unit) (fun _ => [(0, .slc false 2 k L)]) (fun _ => []) (fun _ => True) ?_ fun _ _ => ?_
  · by_cases c : 30 < n
    · have y1 : (30 < n) = True := eq_true c
      have y2 : ((30 : Int) < (n : Int)) = True := eq_true (by omega)
      have y3 : (30 ≤ n) = True := eq_true (by omega)
      have hk30 : k = 30 := by omega
      subst hk30
      repeat' (first
        | with_reducible first | apply thenW_n | apply W_seq
        | with_reducible refine W_rg ?_
        | (rw [vcn]; (try simp [-map_take,-map_drop, push_cast, y1, y2, y3, hIl, hIL]))
        | (with_reducible refine W_condW ?_; (try simp [-map_take,-map_drop, AS.val, upd, resB, mkS_env, mkS_box, lk, entry_env, condW_true, condW_false, y1, y2, y3, hIl, hIL]))
        | fail)
      refine joinW_n () id trivial ⟨?_, ?_, ?_, ?_, ?_, ?_⟩
      all_goals first | (simp [-map_take,-map_drop, push_cast, dV_take, dV_drop, hIr, hIn, hLr, hLn, hIL]; done)
    · have y1 : (30 < n) = False := eq_false c
      have y2 : ((30 : Int) < (n : Int)) = False := eq_false (by omega)
      have hkn' : k = n := by omega
      have hIL' : I = L := by rw [← hIL]; exact (List.take_of_length_le (by omega)).symm
      subst hkn'
      subst hIL'
      repeat' (first
        | with_reducible first | apply thenW_n | apply W_seq | apply W_skip
        | with_reducible refine W_rg ?_
        | (rw [vcn]; (try simp [-map_take,-map_drop, push_cast, y1, y2]))
        | (with_reducible refine W_condW ?_; (try simp [-map_take,-map_drop, AS.val, upd, resB, mkS_env, mkS_box, lk, entry_env, condW_true, condW_false, y1, y2]))
        | fail)
      refine joinW_n () id trivial ⟨?_, ?_, ?_, ?_, ?_, ?_⟩
      all_goals first | (simp [-map_take,-map_drop, push_cast, dV_take, dV_drop, hIr, hIn]; done)
  have hk30 : k ≤ 30 := by omega
  clear hIr hIn hIl hIL hn hkn hm
  repeat' (first
    | with_reducible first | apply thenW_n | apply W_seq | apply W_block
    | with_reducible refine W_rg ?_
    | (rw [vcn]; (try simp [-map_take,-map_drop, push_cast, hLr]))
    | fail)
  refine W_nil 4 500 43 6 (by simp [-map_take,-map_drop, upd, mkS_env, entry_env, lk]) (by simp [-map_take,-map_drop, mkS_used, entry_used]) ?_
  refine W_loopW (X := Nat) (fun i => [(0, .slc false 2 k L), (4, .bs 500 6 0 i), (5, i64V i)]) (fun i => [(500, .mut 43 (dpsC (rowDg (m.take i))))]) (fun i => k - i)
    (fun i => i ≤ k) 0 id (by omega) ⟨?_, ?_, ?_, ?_, ?_, ?_⟩ fun i hi => ?_
  all_goals first | (with_reducible refine W_id ?_) | (simp [-map_take,-map_drop, push_cast, dV_take, dV_drop, hLr, hLn, hP0, List.take_zero]; done)
  by_cases c1 : ¬ i < k
  · have y1 : (i < k) = False := eq_false c1
    have y2 : ((i : Int) < (k : Int)) = False := eq_false (by omega)
    have hi' : i = k := by omega
    have hmk : m.take i = m := by rw [hi', hk]; exact List.take_length
    have k5 := hPl m
    rw [← hk] at k5
    have tP : (dpsC (rowDg m)).take (k * 6) = dpsC (rowDg m) := List.take_of_length_le (by omega)
    have k6 := hPr m
    rw [hmk, hi']
    refine W_frz 500 (e := 43) (l := dpsC (rowDg m)) (by simp [-map_take,-map_drop, mkS_box, lk]) k6 ?_
    repeat' (first
      | with_reducible first | apply thenW_n | apply thenW_exit | apply blockW_same | apply loopW_exit | apply W_seq | apply W_ret | apply W_exit
      | with_reducible refine W_rg ?_
      | (rw [vcn]; (try simp [-map_take,-map_drop, push_cast, y1, y2, hi']))
      | (with_reducible refine W_condW ?_; (try simp [-map_take,-map_drop, AS.val, upd, resB, mkS_env, mkS_box, lk, entry_env, condW_true, condW_false, y1, y2, hi']))
      | fail)
    simp [-map_take,-map_drop, post, resAV, resAll, resOne, closeV, closeC, closeL, resD, resDL, push_cast, tP, k5, k6, hLr]
  have c1 : i < k := by omega
  have y1 : (i < k) = True := eq_true c1
  have y2 : ((i : Int) < (k : Int)) = True := eq_true (by omega)
  have hil : i < m.length := by omega
  obtain ⟨t1, ht1⟩ := hat i hil
  have hA := hIm _ (List.getElem_mem hil)
  have htk : m.take (i + 1) = m.take i ++ [m[i]] := List.take_succ_eq_append_getElem hil
  have s1 := rowDg_snoc (m.take i) m[i]
  rw [← htk] at s1
  have k5 := hPl (m.take i)
  rw [List.length_take, Nat.min_eq_left (by omega)] at k5
  have k3 := hPr (m.take i)
  have k4 := hPn (m.take i)
  have k7 := hPr (m.take (i + 1))
  have k8 := hPn (m.take (i + 1))
  obtain ⟨A, eA⟩ : ∃ A, A = m[i] := ⟨_, rfl⟩
  rw [← eA] at ht1 hA s1
  have pA : Eval Try.prog 60 [i64V A.1, i64V A.2] (.ret (gridD A).av) := of11_ok A.1 A.2 hA.1 hA.2
  obtain ⟨S, hS⟩ : ∃ S, S = dpsC (rowDg (m.take i)) := ⟨_, rfl⟩
  obtain ⟨S', hS'⟩ : ∃ S, S = dpsC (rowDg (m.take (i + 1))) := ⟨_, rfl⟩
  simp only [← hS, ← hS'] at s1 k3 k4 k5 k7 k8 ⊢
  have eS' := hS'.symm
  obtain ⟨PA, nm_⟩ : ∃ nm0_, nm0_ = gridD A := ⟨_, rfl⟩
  simp only [← nm_] at pA s1
  clear nm_
  obtain ⟨a0, a1⟩ := A
  obtain ⟨p0, p1, p2⟩ := PA
  simp only at ht1 pA
  clear hS hS' eA hat htk hPr hPn hPl hP0 hk hIm
  repeat' (first
    | with_reducible first | apply thenW_n | apply W_seq | apply W_block | apply W_skip
    | with_reducible refine W_rg ?_
    | (rw [vcn]; (try simp [-map_take,-map_drop, push_cast, y1, y2, ht1, hLl, c1]))
    | with_reducible refine W_drawn mixed (by decide) (by kernel_rfl) ?_
    | (rw [vcnD]; (try simp [-map_take,-map_drop, push_cast, y1, y2, ht1, hLl, c1]))
    | (with_reducible refine W_condW ?_; (try simp [-map_take,-map_drop, AS.val, upd, resB, mkS_env, mkS_box, lk, entry_env, condW_true, condW_false, y1, y2, ht1, hLl, c1]))
    | fail)
  refine callD_of (pA) rfl rfl rfl ?_
  try dsimp only
  repeat' (first
    | with_reducible first | apply thenW_n | apply blockW_n
    | with_reducible refine W_rg ?_
    | (rw [vcn]; (try simp [-map_take,-map_drop, push_cast, DP.av, d3AV, d3C, dC, rC, numC, ← tens.eq_1, k5]); try simp (disch := omega) only [i64_in, u64_in, shr64i])
    | (rw [vcnD]; (try simp [-map_take,-map_drop, push_cast, DP.av, d3AV, d3C, dC, rC, numC, ← tens.eq_1, k5]); try simp (disch := omega) only [i64_in, u64_in, shr64i])
    | refine And.intro (by first | omega | kernel_rfl) ?_
    | fail)
  refine loopW_n (i + 1) (fun i => if i = 500 then 30 else i) (by omega) (by omega) ⟨?_, ?_, ?_, ?_, ?_, ?_⟩
  all_goals first | (simp [-map_take,-map_drop, push_cast, dV_take, dV_drop, hLr, hLn, k3, k4, k7, k8, s1, eS', dpC, d3C, dC, rC, numC, ← tens.eq_1]; done) | (simp [-map_take,-map_drop, push_cast, dV_take, dV_drop, hLr, hLn, k3, k4, k7, k8, s1, eS', dpC, d3C, dC, rC, numC, ← tens.eq_1]; omega)
theorem known13_ok : Eval Try.prog 24 [] (.ret (.v (.bool true))) := by
  have hl : knownR.length = 4 := rfl
  have hG : ∀ q ∈ rowG knownR, HG q := HG.grid knownR_in
  have g1 : Eval Try.prog 32 [.agg [i64V 1, i64V 1]] (.ret (ptAV (gridF 1 1))) := grid_ok 1 1 (by omega) (by omega)
  have g2 : Eval Try.prog 32 [.agg [i64V 5, i64V 5]] (.ret (ptAV (gridF 5 5))) := grid_ok 5 5 (by omega) (by omega)
  have g3 : Eval Try.prog 32 [.agg [i64V 4, i64V 2]] (.ret (ptAV (gridF 4 2))) := grid_ok 4 2 (by omega) (by omega)
  have g4 : Eval Try.prog 32 [.agg [i64V 0, i64V 0]] (.ret (ptAV (gridF 0 0))) := grid_ok 0 0 (by omega) (by omega)
  have g5 : Eval Try.prog 32 [.agg [i64V 4, i64V 0]] (.ret (ptAV (gridF 4 0))) := grid_ok 4 0 (by omega) (by omega)
  have z1 : szV (gridF 1 1) ≤ 20 := by decide +kernel
  have z2 : szV (gridF 5 5) ≤ 20 := by decide +kernel
  have z3 : szV (gridF 4 2) ≤ 20 := by decide +kernel
  have z4 : szV (gridF 0 0) ≤ 20 := by decide +kernel
  have z5 : szV (gridF 4 0) ≤ 20 := by decide +kernel
  have a1 := around_ok false knownR (gridF 1 1) knownR_in (by decide) (by omega)
  have a2 := around_ok false knownR (gridF 5 5) knownR_in (by decide) (by omega)
  have a3 := around_ok false knownR (gridF 4 2) knownR_in (by decide) (by omega)
  have wg := windGrid_ok false knownR knownR_in (by decide)
  have b1 := beside_ok false (rowG knownR) ⟨gridF 0 0, gridF 4 0⟩ hG (by decide) (by show szV (gridF 0 0) + szV (gridF 4 0) ≤ 100; omega)
  rw [known13_1] at a1
  rw [known13_2] at a2
  rw [known13_3] at a3
  rw [known13_4] at b1
  have hgl : (rowG knownR).length = 4 := rfl
  rw [hl] at a1 a2 a3 wg
  rw [hgl] at b1
  obtain ⟨L, hL⟩ : ∃ L, L = ptsI knownR := ⟨_, rfl⟩
  have hLr : refsL L = [] := by rw [hL]; rfl
  have e0 : L = [i64V 0, i64V 0, i64V 4, i64V 0, i64V 4, i64V 4, i64V 0, i64V 4] := by rw [hL]; rfl
  have t2 : L.take 2 = [i64V 0, i64V 0] := by rw [hL]; rfl
  have t3 : L.drop 2 = [i64V 4, i64V 0, i64V 4, i64V 4, i64V 0, i64V 4] := by rw [hL]; rfl
  have hlen : L.length = 8 := by rw [hL]; rfl
  rw [← hL] at a1 a2 a3 wg
  clear hL
  obtain ⟨R, hR⟩ : ∃ L, L = ptsC (rowG knownR) := ⟨_, rfl⟩
  have hRr : refsL R = [] := by rw [hR]; exact ptsC_refs _
  rw [← hR] at wg b1
  clear hR hG z1 z2 z3 z4 z5 hl hgl
  obtain ⟨p1, nm_⟩ : ∃ nm0_, nm0_ = gridF 1 1 := ⟨_, rfl⟩
  simp only [← nm_] at g1 a1
  clear nm_
  obtain ⟨p2, nm_⟩ : ∃ nm0_, nm0_ = gridF 5 5 := ⟨_, rfl⟩
  simp only [← nm_] at g2 a2
  clear nm_
  obtain ⟨p3, nm_⟩ : ∃ nm0_, nm0_ = gridF 4 2 := ⟨_, rfl⟩
  simp only [← nm_] at g3 a3
  clear nm_
  obtain ⟨p4, nm_⟩ : ∃ nm0_, nm0_ = gridF 0 0 := ⟨_, rfl⟩
  simp only [← nm_] at g4 b1
  clear nm_
  obtain ⟨p5, nm_⟩ : ∃ nm0_, nm0_ = gridF 4 0 := ⟨_, rfl⟩
  simp only [← nm_] at g5 b1
  clear nm_
  rw [e0] at a1 a2 a3 wg
  clear e0 t2 t3 hlen hLr L
  refine Eval.intro Try.func24 rfl Try.call24 _ _ (Nat.le_of_ble_eq_true rfl) (by simp [-map_take,-map_drop, AV.refs, refsL, natAV, zAV, zC, ratAV, ratC, ptAV, ptC, sgAV, sgC, d3AV, d3C, dAV, dC, rAV, rC, DP.av, dpC, push_cast]) fun hs0 => ?_
  refine W_seq ?_
  repeat' (first
    | with_reducible refine W_rg ?_
    | (rw [vcn]; (try simp [-map_take,-map_drop, push_cast]))
    | fail)
  refine thenW_n ?_
  refine W_seq ?_
  repeat' (first
    | with_reducible refine W_rg ?_
    | (rw [vcn]; (try simp [-map_take,-map_drop, push_cast]))
    | fail)
  refine thenW_n ?_
  refine W_frz 14 (e := 65) (l := [i64V 0, i64V 0, i64V 4, i64V 0, i64V 4, i64V 4, i64V 0, i64V 4]) (by simp [-map_take,-map_drop, mkS_box, lk, upd, i64V]) rfl ?_
  repeat' (first
    | with_reducible apply W_seq
    | with_reducible refine W_rg ?_
    | (rw [vcn]; (try simp [-map_take,-map_drop, push_cast]))
    | fail)
  refine CallG_of (g1) rfl rfl rfl ?_
  try dsimp only
  repeat' (first
    | (rw [vcn]; (try simp [-map_take,-map_drop, push_cast, ptAV, ptC, ratAV, ratC, zAV, zC]))
    | fail)
  refine CallG_of (a1) rfl rfl rfl ?_
  try dsimp only
  repeat' (first
    | with_reducible first | apply thenW_n | apply W_seq
    | with_reducible refine W_rg ?_
    | (rw [vcn]; (try simp [-map_take,-map_drop, push_cast, boolV]))
    | fail)
  refine CallG_of (g2) rfl rfl rfl ?_
  try dsimp only
  repeat' (first
    | (rw [vcn]; (try simp [-map_take,-map_drop, push_cast, ptAV, ptC, ratAV, ratC, zAV, zC]))
    | fail)
  refine CallG_of (a2) rfl rfl rfl ?_
  try dsimp only
  repeat' (first
    | with_reducible first | apply thenW_n | apply W_seq
    | with_reducible refine W_rg ?_
    | (rw [vcn]; (try simp [-map_take,-map_drop, push_cast, boolV]))
    | fail)
  refine CallG_of (g3) rfl rfl rfl ?_
  try dsimp only
  repeat' (first
    | (rw [vcn]; (try simp [-map_take,-map_drop, push_cast, ptAV, ptC, ratAV, ratC, zAV, zC]))
    | fail)
  refine CallG_of (a3) rfl rfl rfl ?_
  try dsimp only
  repeat' (first
    | with_reducible first | apply thenW_n | apply W_seq
    | (rw [vcn]; (try simp [-map_take,-map_drop, push_cast, boolV]))
    | with_reducible refine W_drawn mixed (by decide) (by kernel_rfl) ?_
    | (rw [vcnD]; (try simp [-map_take,-map_drop, push_cast, boolV]))
    | fail)
  refine callD_of (wg) rfl rfl rfl ?_
  try dsimp only
  repeat' (first
    | (rw [vcnD]; (try simp [-map_take,-map_drop, push_cast, hRr]))
    | fail)
  refine callD_of (g4) rfl rfl rfl ?_
  try dsimp only
  repeat' (first
    | (rw [vcnD]; (try simp [-map_take,-map_drop, push_cast, hRr, ptAV, ptC, ratAV, ratC, zAV, zC]))
    | fail)
  refine callD_of (g5) rfl rfl rfl ?_
  try dsimp only
  repeat' (first
    | (rw [vcnD]; (try simp [-map_take,-map_drop, push_cast, hRr, sgAV, sgC, ptAV, ptC, ratAV, ratC, zAV, zC]))
    | fail)
  refine callD_of (b1) rfl rfl rfl ?_
  try dsimp only
  repeat' (first
    | with_reducible first | apply thenW_n | apply W_seq | apply W_ret
    | with_reducible refine W_rg ?_
    | (rw [vcn]; (try simp [-map_take,-map_drop, push_cast]))
    | (rw [vcnD]; (try simp [-map_take,-map_drop, push_cast]))
    | refine And.intro (by first | omega | kernel_rfl) ?_
    | fail)
  simp [-map_take,-map_drop, post, resAV, resAll, resOne, closeV, closeC, closeL, resD, resDL, push_cast, boolV]
end Go.Fw

/- reach: To; pair: way, ruleOf. -/
import Derived.Test.YtehmofcajiefiaaGreatU4
import Derived.Test.YtehmofcajiefiaaGreatS2
set_option linter.unusedSimpArgs false
set_option linter.unusedVariables false
-- VALS: zAV, zC, ratAV, ratC, ptAV, ptC, sgAV, sgC
namespace Go.Fw
open Go Go.Proofs Go.IntWalk
set_option linter.unusedSimpArgs false
set_option maxRecDepth 100000
set_option maxHeartbeats 20000000
theorem sign_gt (q : Rat) : (0 < q.num.sign) ↔ 0 < q := by
  rw [sign_num]
  split
  · rename_i h; constructor
    · intro k; omega
    · intro k; grind
  · rename_i h; split <;> simp_all
theorem ratsC_two (a b : FQ) : ratsC [a, b] = ratC a ++ ratC b := by simp [ratsC]
theorem sz_cross (a b c : FP) : szQ (cross a.v b.v c.v) ≤ 16 * (szV a + szV b + szV c) + 9 := by
  have h1 := szQ_sub b.x.q a.x.q
  have h2 := szQ_sub c.y.q a.y.q
  have h3 := szQ_sub b.y.q a.y.q
  have h4 := szQ_sub c.x.q a.x.q
  have h5 := szQ_mul (b.x.q - a.x.q) (c.y.q - a.y.q)
  have h6 := szQ_mul (b.y.q - a.y.q) (c.x.q - a.x.q)
  have h7 := szQ_sub ((b.x.q - a.x.q) * (c.y.q - a.y.q)) ((b.y.q - a.y.q) * (c.x.q - a.x.q))
  show szQ ((b.x.q - a.x.q) * (c.y.q - a.y.q) - (b.y.q - a.y.q) * (c.x.q - a.x.q)) ≤ _
  unfold szV
  omega
theorem sz_dot (a b c : FP) : szQ (dot a.v b.v c.v) ≤ 16 * (szV a + szV b + szV c) + 9 := by
  have h1 := szQ_sub b.x.q a.x.q
  have h2 := szQ_sub c.x.q a.x.q
  have h3 := szQ_sub b.y.q a.y.q
  have h4 := szQ_sub c.y.q a.y.q
  have h5 := szQ_mul (b.x.q - a.x.q) (c.x.q - a.x.q)
  have h6 := szQ_mul (b.y.q - a.y.q) (c.y.q - a.y.q)
  have h7 := szQ_add ((b.x.q - a.x.q) * (c.x.q - a.x.q)) ((b.y.q - a.y.q) * (c.y.q - a.y.q))
  show szQ ((b.x.q - a.x.q) * (c.x.q - a.x.q) + (b.y.q - a.y.q) * (c.y.q - a.y.q)) ≤ _
  unfold szV
  omega
theorem sz_sqP (p q : FP) : szQ (sqP p q) ≤ 16 * (szV p + szV q) + 9 := by
  have h1 := szQ_sub q.x.q p.x.q
  have h2 := szQ_sub q.y.q p.y.q
  have h3 := szQ_mul (q.x.q - p.x.q) (q.x.q - p.x.q)
  have h4 := szQ_mul (q.y.q - p.y.q) (q.y.q - p.y.q)
  have h5 := szQ_add ((q.x.q - p.x.q) * (q.x.q - p.x.q)) ((q.y.q - p.y.q) * (q.y.q - p.y.q))
  unfold sqP szV
  omega
theorem sq_ne {a b p : V2} (h : 0 < dot a b p) : sqD a b ≠ 0 := by
  intro h0
  have h1 := sq_nonneg' (b.x - a.x)
  have h2 := sq_nonneg' (b.y - a.y)
  unfold sqD at h0
  have hx : b.x - a.x = 0 := by
    by_cases hx : b.x - a.x = 0
    · exact hx
    · have := sq_pos' hx; grind
  have hy : b.y - a.y = 0 := by
    by_cases hy : b.y - a.y = 0
    · exact hy
    · have := sq_pos' hy; grind
  unfold dot at h
  rw [hx, hy] at h
  grind
open List (map_take map_drop)
attribute [local push_cast] optK_some optK_none optK_ite optK_map optK_bind gOn stepK isMem evPure evMem evBin evUn evConv evLen evBuiltin evMinMax evSlice evBuild evAppend evIndex evIndexAddr evField evFieldAddr intBin strBin appDest AS.val AS.mem AS.elems AS.put AS.put' AS.eff AV.cells? AV.isCell AV.refs all_isByte take_byteV drop_byteV strOf_map bndOk bnd partAV ptrAdd killBox catA inOrder fillA setAt ofVal resB upd byteV List.head?_take List.head?_drop List.getElem?_map mkS_env mkS_box mkS_used entry_env entry_box entry_used lk stepD lookIds Oper.looksAt Op.operands Call.operands St.ids refsL renL_append ren renL renBox Box.refs iV i64V boolV dV_getElem dV_app dV_cons toNat_add2 toNat_add1
attribute [local simp ↓] numC_refs numC_isCell numC_cells numC_resB numC_resD numC_ren numC_closeC numC_isOwn
theorem to_ok (s : FSg) (p : FP) (h : szS s + szV p ≤ 1000) : Eval Tryz.prog 14 [sgAV s, ptAV p] (.ret (ratAV (toF s p))) := by
  refine Eval.intro Tryz.func14 rfl Tryz.call14 _ _ (Nat.le_of_ble_eq_true rfl) (by simp [-map_take,-map_drop, AV.refs, refsL, natAV, zAV, zC, ratAV, ratC, ptAV, ptC, sgAV, sgC, push_cast]) fun hs0 => ?_
  obtain ⟨out, hout⟩ : ∃ out, out = toF s p := ⟨_, rfl⟩
  rw [← hout]
  unfold szS at h
  have e1 := dot_ok s.A s.B p (by omega)
  have e2 := dot_ok s.B s.A p (by omega)
  have o1 : (s.B.x.q - s.A.x.q) * (p.x.q - s.A.x.q) + (s.B.y.q - s.A.y.q) * (p.y.q - s.A.y.q) = dot s.A.v s.B.v p.v := rfl
  have o2 : (s.A.x.q - s.B.x.q) * (p.x.q - s.B.x.q) + (s.A.y.q - s.B.y.q) * (p.y.q - s.B.y.q) = dot s.B.v s.A.v p.v := rfl
  rw [o1] at e1
  rw [o2] at e2
  have z1 := sz_dot s.A s.B p
  have z2 := sz_dot s.B s.A p
  have z3 := sz_cross s.A s.B p
  have z4 := sz_sqP s.A s.B
  have z5 := sz_sqP s.A p
  have z6 := sz_sqP s.B p
  obtain ⟨x, hx⟩ : ∃ x, x = dot s.A.v s.B.v p.v := ⟨_, rfl⟩
  obtain ⟨y, hy⟩ : ∃ y, y = dot s.B.v s.A.v p.v := ⟨_, rfl⟩
  rw [← hx] at e1 z1
  rw [← hy] at e2 z2
  have f1 := signR_ok (.of x) (by simp only [FQ.of]; omega)
  have f2 := signR_ok (.of y) (by simp only [FQ.of]; omega)
  have o3 : (FQ.of x).q.num.sign = x.num.sign := rfl
  have o4 : (FQ.of y).q.num.sign = y.num.sign := rfl
  rw [o3] at f1
  rw [o4] at f2
  have g1 := sign_gt x
  have g2 := sign_gt y
  obtain ⟨i, hi⟩ : ∃ i, i = x.num.sign := ⟨_, rfl⟩
  obtain ⟨j, hj⟩ : ∃ j, j = y.num.sign := ⟨_, rfl⟩
  rw [← hi] at f1 g1
  rw [← hj] at f2 g2
  have q1 := square_ok s.A p (by omega)
  have q2 := square_ok s.B p (by omega)
  have l1 := least_ok false [.of (sqP s.A p), .of (sqP s.B p)] (by
    intro r hr
    simp only [List.mem_cons, List.not_mem_nil, or_false] at hr
    rcases hr with rfl | rfl <;> simp only [FQ.of] <;> omega) (by simp [-map_take,-map_drop]) (by simp [-map_take,-map_drop])
  have o5 : ([FQ.of (sqP s.A p), FQ.of (sqP s.B p)] : List FQ).length = 2 := rfl
  rw [o5, ratsC_two] at l1
  have hto : toF s p = if 0 < x ∧ 0 < y then .of (cross s.A.v s.B.v p.v * cross s.A.v s.B.v p.v / sqP s.A s.B) else leastOf [.of (sqP s.A p), .of (sqP s.B p)] := by rw [hx, hy]; rfl
  rw [hto] at hout
  obtain ⟨D1, hD1⟩ : ∃ D, D = FQ.of x := ⟨_, rfl⟩
  obtain ⟨D2, hD2⟩ : ∃ D, D = FQ.of y := ⟨_, rfl⟩
  rw [← hD1] at e1 f1
  rw [← hD2] at e2 f2
  obtain ⟨S1, hS1⟩ : ∃ D, D = FQ.of (sqP s.A p) := ⟨_, rfl⟩
  obtain ⟨S2, hS2⟩ : ∃ D, D = FQ.of (sqP s.B p) := ⟨_, rfl⟩
  rw [← hS1] at q1 l1 hout
  rw [← hS2] at q2 l1 hout
  by_cases c1 : 0 < x
  · have k1 : (0 < i) = True := eq_true (g1.2 c1)
    by_cases c2 : 0 < y
    · have k2 : (0 < j) = True := eq_true (g2.2 c2)
      rw [if_pos ⟨c1, c2⟩] at hout
      have e3 := cross_ok s.A s.B p (by omega)
      have o6 : (s.B.x.q - s.A.x.q) * (p.y.q - s.A.y.q) - (s.B.y.q - s.A.y.q) * (p.x.q - s.A.x.q) = cross s.A.v s.B.v p.v := rfl
      rw [o6] at e3
      obtain ⟨c, hc⟩ : ∃ c, c = cross s.A.v s.B.v p.v := ⟨_, rfl⟩
      rw [← hc] at e3 z3 hout
      have m1 := mulR_ok (.of c) (.of c) (by simp only [FQ.of]; omega)
      have o7 : (FQ.of c).q * (FQ.of c).q = c * c := rfl
      rw [o7] at m1
      have q3 := square_ok s.A s.B (by omega)
      have hne : (FQ.of (sqP s.A s.B)).q.num ≠ 0 := by
        intro k
        have h1 : sqD s.A.v s.B.v ≠ 0 := sq_ne (p := p.v) (by rw [← hx]; exact c1)
        exact h1 (Rat.num_eq_zero.1 k)
      have z7 := szQ_mul c c
      have v1 := divR_ok (.of (c * c)) (.of (sqP s.A s.B)) hne (by simp only [FQ.of]; omega)
      have o8 : (FQ.of (c * c)).q / (FQ.of (sqP s.A s.B)).q = c * c / sqP s.A s.B := rfl
      rw [o8, ← hout] at v1
      obtain ⟨C, hC⟩ : ∃ D, D = FQ.of c := ⟨_, rfl⟩
      obtain ⟨E, hE⟩ : ∃ D, D = FQ.of (c * c) := ⟨_, rfl⟩
      obtain ⟨G, hG⟩ : ∃ D, D = FQ.of (sqP s.A s.B) := ⟨_, rfl⟩
      rw [← hC] at e3 m1
      rw [← hE] at m1 v1
      rw [← hG] at q3 v1
      clear hout hto hC hE hG hne
      repeat' (first
        | with_reducible first | apply thenW_n | apply W_seq
        | with_reducible refine W_rg ?_
        | (rw [vcn]; (try simp [-map_take,-map_drop, push_cast, sgAV, sgC, ptAV, ptC, ratAV, ratC, zC]))
        | fail)
      refine CallG_of (e1) rfl rfl rfl ?_
      try dsimp only
      repeat' (first
        | (rw [vcn]; (try simp [-map_take,-map_drop, push_cast, ratAV, ptAV, ratC, zC]))
        | fail)
      refine CallG_of (f1) rfl rfl rfl ?_
      try dsimp only
      repeat' (first
        | (rw [vcn]; (try simp [-map_take,-map_drop, push_cast, k1, sgC, ptAV, ptC, ratAV, ratC, zC]))
        | fail)
      refine CallG_of (e2) rfl rfl rfl ?_
      try dsimp only
      repeat' (first
        | (rw [vcn]; (try simp [-map_take,-map_drop, push_cast, ratAV, ptAV, ratC, zC]))
        | fail)
      refine CallG_of (f2) rfl rfl rfl ?_
      try dsimp only
      repeat' (first
        | with_reducible first | apply thenW_n | apply W_seq
        | with_reducible refine W_rg ?_
        | (rw [vcn]; (try simp [-map_take,-map_drop, push_cast, k2, sgC, ptAV, ptC, ratAV, ratC, zC]))
        | (with_reducible refine W_condW ?_; (try simp [-map_take,-map_drop, AS.val, upd, resB, mkS_env, mkS_box, lk, entry_env, condW_true, condW_false, k2, sgC, ptAV, ptC, ratAV, ratC, zC]))
        | fail)
      refine CallG_of (e3) rfl rfl rfl ?_
      try dsimp only
      repeat' (first
        | with_reducible first | apply thenW_n | apply W_seq
        | (rw [vcn]; (try simp [-map_take,-map_drop, push_cast, ratAV, ptAV, ratC, zC, sgC, ptC]))
        | with_reducible refine W_drawn mixed (by decide) (by kernel_rfl) ?_
        | (rw [vcnD]; (try simp [-map_take,-map_drop, push_cast, ratAV, ptAV, ratC, zC, sgC, ptC]))
        | fail)
      refine callD_of (m1) rfl rfl rfl ?_
      try dsimp only
      repeat' (first
        | (rw [vcnD]; (try simp [-map_take,-map_drop, push_cast, ratAV, ptAV, ratC, zC, sgC, ptC]))
        | fail)
      refine callD_of (q3) rfl rfl rfl ?_
      try dsimp only
      repeat' (first
        | (rw [vcnD]; (try simp [-map_take,-map_drop, push_cast, ratAV, ptAV, ratC, zC]))
        | fail)
      refine callD_of (v1) rfl rfl rfl ?_
      try dsimp only
      repeat' (first
        | with_reducible first | apply thenW_n | apply thenW_ret | apply W_seq | apply W_ret
        | with_reducible refine W_rg ?_
        | (rw [vcn]; (try simp [-map_take,-map_drop, push_cast, ratAV, ptAV, ratC, zC]))
        | (rw [vcnD]; (try simp [-map_take,-map_drop, push_cast, ratAV, ptAV, ratC, zC]))
        | refine And.intro (by first | omega | kernel_rfl) ?_
        | fail)
      simp [-map_take,-map_drop, post, resAV, resAll, resOne, closeV, closeC, closeL, resD, resDL, push_cast, ratAV, ratC, zC]
    have k2 : (0 < j) = False := eq_false (fun k => c2 (g2.1 k))
    rw [if_neg (fun k => c2 k.2)] at hout
    rw [← hout] at l1
    repeat' (first
      | with_reducible first | apply thenW_n | apply W_seq
      | with_reducible refine W_rg ?_
      | (rw [vcn]; (try simp [-map_take,-map_drop, push_cast, sgAV, sgC, ptAV, ptC, ratAV, ratC, zC]))
      | fail)
    refine CallG_of (e1) rfl rfl rfl ?_
    try dsimp only
    repeat' (first
      | (rw [vcn]; (try simp [-map_take,-map_drop, push_cast, ratAV, ptAV, ratC, zC]))
      | fail)
    refine CallG_of (f1) rfl rfl rfl ?_
    try dsimp only
    repeat' (first
      | (rw [vcn]; (try simp [-map_take,-map_drop, push_cast, k1, sgC, ptAV, ptC, ratAV, ratC, zC]))
      | fail)
    refine CallG_of (e2) rfl rfl rfl ?_
    try dsimp only
    repeat' (first
      | (rw [vcn]; (try simp [-map_take,-map_drop, push_cast, ratAV, ptAV, ratC, zC]))
      | fail)
    refine CallG_of (f2) rfl rfl rfl ?_
    try dsimp only
    repeat' (first
      | with_reducible first | apply thenW_n | apply W_seq | apply W_skip
      | (rw [vcn]; (try simp [-map_take,-map_drop, push_cast, k2, sgC, ptAV, ptC, ratAV, ratC, zC]))
      | with_reducible refine W_drawn mixed (by decide) (by kernel_rfl) ?_
      | (rw [vcnD]; (try simp [-map_take,-map_drop, push_cast, k2, sgC, ptAV, ptC, ratAV, ratC, zC]))
      | (with_reducible refine W_condW ?_; (try simp [-map_take,-map_drop, AS.val, upd, resB, mkS_env, mkS_box, lk, entry_env, condW_true, condW_false, k2, sgC, ptAV, ptC, ratAV, ratC, zC]))
      | fail)
    refine callD_of (q1) rfl rfl rfl ?_
    try dsimp only
    repeat' (first
      | (rw [vcnD]; (try simp [-map_take,-map_drop, push_cast, ratAV, sgC, ptAV, ptC, ratC, zC]))
      | fail)
    refine callD_of (q2) rfl rfl rfl ?_
    try dsimp only
    repeat' (first
      | (rw [vcnD]; (try simp [-map_take,-map_drop, push_cast, ratAV, sgC, ptAV, ptC, ratC, zC]))
      | fail)
    refine callD_frz 53 900 _ (by simp [-map_take,-map_drop, refsL, AV.refs, push_cast]) rfl (by simp [-map_take,-map_drop, refsL, AV.refs, push_cast, ratAV, ratC, zAV, zC]) ?_ (l1) (by simp [-map_take,-map_drop, natAV, zAV, zC, ratAV, ratC, ptAV, ptC, sgAV, sgC, AV.refs, refsL, push_cast]) rfl (by simp [-map_take,-map_drop, mkS_used, entry_used]) ?_
    · first | rfl | (simp [-map_take,-map_drop, refsL, AV.refs, resDL, resD, resB, upd, mkS_env, mkS_box, entry_env, entry_box, lk, push_cast, ratAV, ratC, zAV, zC]; done) | (simp [-map_take,-map_drop, refsL, AV.refs, resDL, resD, resB, upd, mkS_env, mkS_box, entry_env, entry_box, lk, push_cast, ratAV, ratC, zAV, zC]; rw [List.take_of_length_le (by simp [-map_take,-map_drop])]; done) | (simp [-map_take,-map_drop, refsL, AV.refs, resDL, resD, resB, upd, mkS_env, mkS_box, entry_env, entry_box, lk, push_cast, ratAV, ratC, zAV, zC]; fail_if_success done)
    try dsimp only
    repeat' (first
      | with_reducible first | apply thenW_n | apply W_ret
      | (rw [vcnD]; (try simp [-map_take,-map_drop, push_cast, ratAV, ptAV, ratC, zC]))
      | refine And.intro (by first | omega | kernel_rfl) ?_
      | fail)
    simp [-map_take,-map_drop, post, resAV, resAll, resOne, closeV, closeC, closeL, resD, resDL, push_cast, ratAV, ratC, zC]
  have k1 : (0 < i) = False := eq_false (fun k => c1 (g1.1 k))
  rw [if_neg (fun k => c1 k.1)] at hout
  rw [← hout] at l1
  repeat' (first
    | with_reducible first | apply thenW_n | apply W_seq
    | with_reducible refine W_rg ?_
    | (rw [vcn]; (try simp [-map_take,-map_drop, push_cast, sgAV, sgC, ptAV, ptC, ratAV, ratC, zC]))
    | fail)
  refine CallG_of (e1) rfl rfl rfl ?_
  try dsimp only
  repeat' (first
    | (rw [vcn]; (try simp [-map_take,-map_drop, push_cast, ratAV, ptAV, ratC, zC]))
    | fail)
  refine CallG_of (f1) rfl rfl rfl ?_
  try dsimp only
  repeat' (first
    | with_reducible first | apply thenW_n | apply W_seq | apply W_skip
    | (rw [vcn]; (try simp [-map_take,-map_drop, push_cast, k1, sgC, ptAV, ptC, ratAV, ratC, zC]))
    | with_reducible refine W_drawn mixed (by decide) (by kernel_rfl) ?_
    | (rw [vcnD]; (try simp [-map_take,-map_drop, push_cast, k1, sgC, ptAV, ptC, ratAV, ratC, zC]))
    | (with_reducible refine W_condW ?_; (try simp [-map_take,-map_drop, AS.val, upd, resB, mkS_env, mkS_box, lk, entry_env, condW_true, condW_false, k1, sgC, ptAV, ptC, ratAV, ratC, zC]))
    | fail)
  refine callD_of (q1) rfl rfl rfl ?_
  try dsimp only
  repeat' (first
    | (rw [vcnD]; (try simp [-map_take,-map_drop, push_cast, ratAV, sgC, ptAV, ptC, ratC, zC]))
    | fail)
  refine callD_of (q2) rfl rfl rfl ?_
  try dsimp only
  repeat' (first
    | (rw [vcnD]; (try simp [-map_take,-map_drop, push_cast, ratAV, sgC, ptAV, ptC, ratC, zC]))
    | fail)
  refine callD_frz 53 900 _ (by simp [-map_take,-map_drop, refsL, AV.refs, push_cast]) rfl (by simp [-map_take,-map_drop, refsL, AV.refs, push_cast, ratAV, ratC, zAV, zC]) ?_ (l1) (by simp [-map_take,-map_drop, natAV, zAV, zC, ratAV, ratC, ptAV, ptC, sgAV, sgC, AV.refs, refsL, push_cast]) rfl (by simp [-map_take,-map_drop, mkS_used, entry_used]) ?_
  · first | rfl | (simp [-map_take,-map_drop, refsL, AV.refs, resDL, resD, resB, upd, mkS_env, mkS_box, entry_env, entry_box, lk, push_cast, ratAV, ratC, zAV, zC]; done) | (simp [-map_take,-map_drop, refsL, AV.refs, resDL, resD, resB, upd, mkS_env, mkS_box, entry_env, entry_box, lk, push_cast, ratAV, ratC, zAV, zC]; rw [List.take_of_length_le (by simp [-map_take,-map_drop])]; done) | (simp [-map_take,-map_drop, refsL, AV.refs, resDL, resD, resB, upd, mkS_env, mkS_box, entry_env, entry_box, lk, push_cast, ratAV, ratC, zAV, zC]; fail_if_success done)
  try dsimp only
  repeat' (first
    | with_reducible first | apply thenW_n | apply W_ret
    | (rw [vcnD]; (try simp [-map_take,-map_drop, push_cast, ratAV, ptAV, ratC, zC]))
    | refine And.intro (by first | omega | kernel_rfl) ?_
    | fail)
  simp [-map_take,-map_drop, post, resAV, resAll, resOne, closeV, closeC, closeL, resD, resDL, push_cast, ratAV, ratC, zC]
theorem szQ_div (a b : Rat) : szQ (a / b) ≤ szQ a + szQ b + 1 := by
  have h1 := szQ_inv b
  have h2 := szQ_mul a b⁻¹
  rw [Rat.div_def]
  omega
theorem sz_to (s : FSg) (p : FP) : szQ (toF s p).q ≤ 60 * (szS s + szV p) + 40 := by
  unfold toF szS
  split
  · have h1 := sz_cross s.A s.B p
    have h2 := sz_sqP s.A s.B
    have h3 := szQ_mul (cross s.A.v s.B.v p.v) (cross s.A.v s.B.v p.v)
    have h4 := szQ_div (cross s.A.v s.B.v p.v * cross s.A.v s.B.v p.v) (sqP s.A s.B)
    simp only [FQ.of]
    omega
  · have h1 := sz_sqP s.A p
    have h2 := sz_sqP s.B p
    have h3 := leastOf_mem [.of (sqP s.A p), .of (sqP s.B p)] (by simp [-map_take,-map_drop])
    simp only [List.mem_cons, List.not_mem_nil, or_false] at h3
    rcases h3 with h3 | h3 <;> rw [h3] <;> simp only [FQ.of] <;> omega
theorem sz_zero : szQ FQ.zero.q = 1 := by kernel_rfl
theorem sz_least (s t : FSg) : szQ (leastF s t).q ≤ 60 * (szS s + szS t) + 40 := by
  unfold leastF
  split
  · rw [sz_zero]; omega
  · have h1 := sz_to s t.A
    have h2 := sz_to s t.B
    have h3 := sz_to t s.A
    have h4 := sz_to t s.B
    have h5 := leastOf_mem [toF s t.A, toF s t.B, toF t s.A, toF t s.B] (by simp [-map_take,-map_drop])
    simp only [List.mem_cons, List.not_mem_nil, or_false] at h5
    unfold szS at *
    rcases h5 with h5 | h5 | h5 | h5 <;> rw [h5] <;> omega
theorem zeroQ_sub : SubL [.v (.slice none 0 0), .v (.bool false), .v (.slice none 0 0), .v (.bool false)] (ratC FQ.zero) :=
  SubL.cons (numC_sub _ _ _) (SubL.cons (Sub.refl _) (SubL.cons (numC_sub _ _ _) (SubL.cons (Sub.refl _) SubL.nil)))
theorem ratsC_four (a b c d : FQ) : ratsC [a, b, c, d] = ratC a ++ (ratC b ++ (ratC c ++ ratC d)) := by simp [-map_take,-map_drop, ratsC]
theorem reachLeast_ok (s t : FSg) (h : szS s + szS t ≤ 800) : Eval Tryz.prog 16 [sgAV s, sgAV t] (.ret (ratAV (leastF s t))) := by
  have m1 := meet_ok' s t (by omega)
  obtain ⟨L, hL⟩ : ∃ L, L = ptsC (meetF s t) := ⟨_, rfl⟩
  obtain ⟨n, hn⟩ : ∃ n, n = (meetF s t).length := ⟨_, rfl⟩
  have hLr : refsL L = [] := by rw [hL]; exact ptsC_refs _
  have hLn : ∀ ρ, renL ρ L = L := fun ρ => renL_id ρ _ hLr
  have hLl : L.length = 8 * n := by rw [hL, hn, ptsC_len]; omega
  rw [← hL, ← hn] at m1
  by_cases hm : meetF s t ≠ []
  · have e : leastF s t = FQ.zero := by unfold leastF; rw [if_pos hm]
    have hn0 : 0 < n := by rw [hn]; exact List.length_pos_iff.2 hm
    rw [e]
    clear hL hn hm
    refine Eval.out (r := .agg [.v (.slice none 0 0), .v (.bool false), .v (.slice none 0 0), .v (.bool false)]) ?_ (Sub.agg zeroQ_sub) rfl rfl (fun _ h => by cases h) (fun _ h => by cases h)
    refine Eval.intro Tryz.func16 rfl Tryz.call16 _ _ (Nat.le_of_ble_eq_true rfl) (by simp [-map_take,-map_drop, AV.refs, refsL, natAV, zAV, zC, ratAV, ratC, ptAV, ptC, sgAV, sgC, push_cast]) fun hs0 => ?_
    have k1 : (0 < n) = True := eq_true hn0
    have k2 : (0 < (n : Int)) = True := eq_true (by omega)
    repeat' (first
      | with_reducible first | apply thenW_n | apply W_seq
      | with_reducible refine W_rg ?_
      | (rw [vcn]; (try simp [-map_take,-map_drop, push_cast, sgAV, sgC, ptAV, ptC, ratAV, ratC, zC]))
      | fail)
    refine CallG_of (m1) rfl rfl rfl ?_
    try dsimp only
    repeat' (first
      | with_reducible first | apply thenW_n | apply thenW_ret | apply W_seq | apply W_ret
      | with_reducible refine W_rg ?_
      | (rw [vcn]; (try simp [-map_take,-map_drop, push_cast, k1, k2, hLr, hLl]))
      | (with_reducible refine W_condW ?_; (try simp [-map_take,-map_drop, AS.val, upd, resB, mkS_env, mkS_box, lk, entry_env, condW_true, condW_false, k1, k2, hLr, hLl]))
      | fail)
    simp [-map_take,-map_drop, post, resAV, resAll, resOne, closeV, closeC, closeL, resD, resDL, push_cast, ratAV, ratC, zC]
  · have hm : meetF s t = [] := by simpa [-map_take,-map_drop] using hm
    have e : leastF s t = leastOf [toF s t.A, toF s t.B, toF t s.A, toF t s.B] := by unfold leastF; rw [if_neg (by simpa [-map_take,-map_drop] using hm)]
    have hn0 : n = 0 := by rw [hn, hm]; rfl
    subst hn0
    rw [e]
    unfold szS at h
    have t1 := to_ok s t.A (by unfold szS; omega)
    have t2 := to_ok s t.B (by unfold szS; omega)
    have t3 := to_ok t s.A (by unfold szS; omega)
    have t4 := to_ok t s.B (by unfold szS; omega)
    have z1 := sz_to s t.A
    have z2 := sz_to s t.B
    have z3 := sz_to t s.A
    have z4 := sz_to t s.B
    unfold szS at z1 z2 z3 z4
    obtain ⟨T1, hT1⟩ : ∃ T, T = toF s t.A := ⟨_, rfl⟩
    obtain ⟨T2, hT2⟩ : ∃ T, T = toF s t.B := ⟨_, rfl⟩
    obtain ⟨T3, hT3⟩ : ∃ T, T = toF t s.A := ⟨_, rfl⟩
    obtain ⟨T4, hT4⟩ : ∃ T, T = toF t s.B := ⟨_, rfl⟩
    rw [← hT1] at t1 z1
    rw [← hT2] at t2 z2
    rw [← hT3] at t3 z3
    rw [← hT4] at t4 z4
    rw [← hT1, ← hT2, ← hT3, ← hT4]
    have l1 := least_ok false [T1, T2, T3, T4] (by
      intro r hr
      simp only [List.mem_cons, List.not_mem_nil, or_false] at hr
      rcases hr with rfl | rfl | rfl | rfl <;> omega) (by simp [-map_take,-map_drop]) (by simp [-map_take,-map_drop])
    have o5 : ([T1, T2, T3, T4] : List FQ).length = 4 := rfl
    rw [o5, ratsC_four] at l1
    obtain ⟨out, hout⟩ : ∃ o, o = leastOf [T1, T2, T3, T4] := ⟨_, rfl⟩
    rw [← hout] at l1 ⊢
    clear hout hT1 hT2 hT3 hT4 hL hn hm e
    refine Eval.intro Tryz.func16 rfl Tryz.call16 _ _ (Nat.le_of_ble_eq_true rfl) (by simp [-map_take,-map_drop, AV.refs, refsL, natAV, zAV, zC, ratAV, ratC, ptAV, ptC, sgAV, sgC, push_cast]) fun hs0 => ?_
    repeat' (first
      | with_reducible first | apply thenW_n | apply W_seq
      | with_reducible refine W_rg ?_
      | (rw [vcn]; (try simp [-map_take,-map_drop, push_cast, sgAV, sgC, ptAV, ptC, ratAV, ratC, zC]))
      | fail)
    refine CallG_of (m1) rfl rfl rfl ?_
    try dsimp only
    repeat' (first
      | with_reducible first | apply thenW_n | apply W_seq | apply W_skip
      | (rw [vcn]; (try simp [-map_take,-map_drop, push_cast, hLr, hLl, sgAV, sgC, ptC, ratC, zC]))
      | with_reducible refine W_drawn mixed (by decide) (by kernel_rfl) ?_
      | (rw [vcnD]; (try simp [-map_take,-map_drop, push_cast, hLr, hLl, sgAV, sgC, ptC, ratC, zC]))
      | (with_reducible refine W_condW ?_; (try simp [-map_take,-map_drop, AS.val, upd, resB, mkS_env, mkS_box, lk, entry_env, condW_true, condW_false, hLr, hLl, sgAV, sgC, ptC, ratC, zC]))
      | fail)
    refine callD_of (t1) rfl rfl rfl ?_
    try dsimp only
    repeat' (first
      | (rw [vcnD]; (try simp [-map_take,-map_drop, push_cast, hLr, hLl, sgAV, sgC, ptC, ratC, zC]))
      | fail)
    refine callD_of (t2) rfl rfl rfl ?_
    try dsimp only
    repeat' (first
      | (rw [vcnD]; (try simp [-map_take,-map_drop, push_cast, hLr, hLl, sgAV, sgC, ptC, ratC, zC]))
      | fail)
    refine callD_of (t3) rfl rfl rfl ?_
    try dsimp only
    repeat' (first
      | (rw [vcnD]; (try simp [-map_take,-map_drop, push_cast, hLr, hLl, sgAV, sgC, ptC, ratC, zC]))
      | fail)
    refine callD_of (t4) rfl rfl rfl ?_
    try dsimp only
    repeat' (first
      | (rw [vcnD]; (try simp [-map_take,-map_drop, push_cast, hLr, hLl, sgAV, sgC, ptC, ratAV, ratC, zC]))
      | fail)
    refine callD_frz 27 900 _ (by simp [-map_take,-map_drop, refsL, AV.refs, push_cast]) rfl (by simp [-map_take,-map_drop, refsL, AV.refs, push_cast, ratAV, ratC, zAV, zC]) ?_ (l1) (by simp [-map_take,-map_drop, natAV, zAV, zC, ratAV, ratC, ptAV, ptC, sgAV, sgC, AV.refs, refsL, push_cast]) rfl (by simp [-map_take,-map_drop, mkS_used, entry_used]) ?_
    · first | rfl | (simp [-map_take,-map_drop, refsL, AV.refs, resDL, resD, resB, upd, mkS_env, mkS_box, entry_env, entry_box, lk, push_cast, ratAV, ratC, zAV, zC]; done) | (simp [-map_take,-map_drop, refsL, AV.refs, resDL, resD, resB, upd, mkS_env, mkS_box, entry_env, entry_box, lk, push_cast, ratAV, ratC, zAV, zC]; rw [List.take_of_length_le (by simp [-map_take,-map_drop])]; done) | (simp [-map_take,-map_drop, refsL, AV.refs, resDL, resD, resB, upd, mkS_env, mkS_box, entry_env, entry_box, lk, push_cast, ratAV, ratC, zAV, zC]; fail_if_success done)
    try dsimp only
    repeat' (first
      | with_reducible first | apply thenW_n | apply W_ret
      | (rw [vcnD]; (try simp [-map_take,-map_drop, push_cast, ratAV, ptAV, ratC, zC]))
      | refine And.intro (by first | omega | kernel_rfl) ?_
      | fail)
    simp [-map_take,-map_drop, post, resAV, resAll, resOne, closeV, closeC, closeL, resD, resDL, push_cast, ratAV, ratC, zC]
def closerB (s t : FSg) (d : Int) : Bool :=
  decide (0 < d) && (if (leastF s t).q.num.sign = 0 then (cmpP s.A s.B != 0) || (cmpP t.A t.B != 0) else decide ((leastF s t).q < (d : Rat) * (d : Rat)))
theorem closerB_iff (s t : FSg) (d : Int) : closerB s t d = true ↔ closerD s.v t.v d := by
  unfold closerB closerD
  rw [Bool.and_eq_true, decide_eq_true_eq, ← leastF_q]
  refine and_congr Iff.rfl ?_
  have e : (leastF s t).q.num.sign = 0 ↔ (leastF s t).q = 0 := by rw [Int.sign_eq_zero_iff_zero, Rat.num_eq_zero]
  by_cases h : (leastF s t).q = 0
  · rw [if_pos (e.2 h), if_pos h, Bool.or_eq_true, bne_iff_ne, bne_iff_ne, Ne, Ne, cmpP_zero, cmpP_zero]; rfl
  · rw [if_neg (fun k => h (e.1 k)), if_neg h, decide_eq_true_eq]
theorem szQ_int {d : Int} (hd : inI d) : szQ (d : Rat) ≤ 5 := by
  have h : HB (d : Rat) 64 1 := HB.int (by unfold inI at hd; have : (2:Nat)^64 = 18446744073709551616 := by decide
                                           omega)
  have := h.sz
  omega
theorem cmpZ_lt (a b : Int) : cmpZ a b < 0 ↔ a < b := by unfold cmpZ; split <;> (try split) <;> omega
theorem closer_ok (s t : FSg) (d : Int) (hd : inI d) (h : szS s + szS t ≤ 800) : Eval Tryz.prog 20 [sgAV s, sgAV t, i64V d] (.ret (boolV (closerB s t d))) := by
  refine Eval.intro Tryz.func20 rfl Tryz.call20 _ _ (Nat.le_of_ble_eq_true rfl) (by simp [-map_take,-map_drop, AV.refs, refsL, natAV, zAV, zC, ratAV, ratC, ptAV, ptC, sgAV, sgC, push_cast]) fun hs0 => ?_
  obtain ⟨out, hout⟩ : ∃ o, o = closerB s t d := ⟨_, rfl⟩
  rw [← hout]
  unfold closerB at hout
  have r1 := reachLeast_ok s t h
  have z1 := sz_least s t
  obtain ⟨L, hL⟩ : ∃ L, L = leastF s t := ⟨_, rfl⟩
  rw [← hL] at r1 z1 hout
  have s1 := signR_ok L (by omega)
  obtain ⟨i, hi⟩ : ∃ i, i = L.q.num.sign := ⟨_, rfl⟩
  rw [← hi] at s1 hout
  unfold szS at h z1
  have c1 := cmpP_ok s.A s.B (by omega)
  have c2 := cmpP_ok t.A t.B (by omega)
  obtain ⟨j, hj⟩ : ∃ j, j = cmpP s.A s.B := ⟨_, rfl⟩
  obtain ⟨k, hk⟩ : ∃ j, j = cmpP t.A t.B := ⟨_, rfl⟩
  rw [← hj] at c1 hout
  rw [← hk] at c2 hout
  have u1 := szQ_int hd
  have w1 := ofZ_ok d hd
  have w2 := whole_ok d (by unfold inI at hd; have := limbs_small (n := d.natAbs) (by omega); omega)
  have m1 := mulR_ok (.of (d : Rat)) (.of (d : Rat)) (by simp only [FQ.of]; omega)
  have o1 : (FQ.of (d : Rat)).q * (FQ.of (d : Rat)).q = (d : Rat) * (d : Rat) := rfl
  rw [o1] at m1
  have u2 := szQ_mul (d : Rat) (d : Rat)
  have q1 := cmpR_ok L (.of ((d : Rat) * (d : Rat))) (by simp only [FQ.of]; omega)
  have o2 : (cmpZ (L.q.num * (FQ.of ((d : Rat) * (d : Rat))).q.den) ((FQ.of ((d : Rat) * (d : Rat))).q.num * L.q.den) < 0) ↔ L.q < (d : Rat) * (d : Rat) := lessQ_iff _ _
  obtain ⟨x, hx⟩ : ∃ x, x = cmpZ (L.q.num * (FQ.of ((d : Rat) * (d : Rat))).q.den) ((FQ.of ((d : Rat) * (d : Rat))).q.num * L.q.den) := ⟨_, rfl⟩
  rw [← hx] at q1 o2
  obtain ⟨D, hD⟩ : ∃ D, D = FQ.of (d : Rat) := ⟨_, rfl⟩
  obtain ⟨E, hE⟩ : ∃ D, D = FQ.of ((d : Rat) * (d : Rat)) := ⟨_, rfl⟩
  rw [← hD] at w2 m1
  rw [← hE] at m1 q1
  clear hD hE hx hk hj hi hL o1 u1 u2 z1
  by_cases h0 : d ≤ 0
  · have g1 : (d ≤ 0) = True := eq_true h0
    rw [decide_eq_false (by omega), Bool.false_and] at hout
    repeat' (first
      | with_reducible first | apply thenW_n | apply thenW_ret | apply W_seq | apply W_ret
      | with_reducible refine W_rg ?_
      | (rw [vcn]; (try simp [-map_take,-map_drop, push_cast, sgAV, sgC, ptC, ratC, zC, g1]))
      | (with_reducible refine W_condW ?_; (try simp [-map_take,-map_drop, AS.val, upd, resB, mkS_env, mkS_box, lk, entry_env, condW_true, condW_false, sgAV, sgC, ptC, ratC, zC, g1]))
      | fail)
    simp [-map_take,-map_drop, post, resAV, resAll, resOne, closeV, closeC, closeL, resD, resDL, push_cast, hout]
  · have g1 : (d ≤ 0) = False := eq_false h0
    rw [decide_eq_true (by omega), Bool.true_and] at hout
    repeat' (first
      | with_reducible first | apply thenW_n | apply W_seq | apply W_skip
      | with_reducible refine W_rg ?_
      | (rw [vcn]; (try simp [-map_take,-map_drop, push_cast, sgAV, sgC, ptC, ratC, zC, g1]))
      | (with_reducible refine W_condW ?_; (try simp [-map_take,-map_drop, AS.val, upd, resB, mkS_env, mkS_box, lk, entry_env, condW_true, condW_false, sgAV, sgC, ptC, ratC, zC, g1]))
      | fail)
    refine CallG_of (r1) rfl rfl rfl ?_
    try dsimp only
    repeat' (first
      | with_reducible first | apply thenW_n | apply W_seq
      | with_reducible refine W_rg ?_
      | (rw [vcn]; (try simp [-map_take,-map_drop, push_cast, ratAV, ratC, zC]))
      | fail)
    refine CallG_of (s1) rfl rfl rfl ?_
    try dsimp only
    by_cases hi0 : i = 0
    · subst hi0
      rw [if_pos rfl] at hout
      repeat' (first
        | with_reducible first | apply thenW_n | apply W_seq
        | with_reducible refine W_rg ?_
        | (rw [vcn]; (try simp [-map_take,-map_drop, push_cast, sgAV, sgC, ptC, ratC, zC]))
        | (with_reducible refine W_condW ?_; (try simp [-map_take,-map_drop, AS.val, upd, resB, mkS_env, mkS_box, lk, entry_env, condW_true, condW_false, sgAV, sgC, ptC, ratC, zC]))
        | fail)
      refine CallG_of (c1) rfl rfl rfl ?_
      try dsimp only
      by_cases hj0 : j = 0
      · subst hj0
        repeat' (first
          | (rw [vcn]; (try simp [-map_take,-map_drop, push_cast, sgAV, sgC, ptC, ratC, zC]))
          | fail)
        refine CallG_of (c2) rfl rfl rfl ?_
        try dsimp only
        repeat' (first
          | with_reducible first | apply thenW_n | apply thenW_ret | apply W_ret
          | (rw [vcn]; (try simp [-map_take,-map_drop, push_cast]))
          | fail)
        simp [-map_take,-map_drop, post, resAV, resAll, resOne, closeV, closeC, closeL, resD, resDL, push_cast, hout]
      · repeat' (first
          | with_reducible first | apply thenW_n | apply thenW_ret | apply W_ret
          | (rw [vcn]; (try simp [-map_take,-map_drop, push_cast, hj0]))
          | fail)
        simp [-map_take,-map_drop, post, resAV, resAll, resOne, closeV, closeC, closeL, resD, resDL, push_cast, hout, hj0]
    · rw [if_neg hi0] at hout
      repeat' (first
        | with_reducible first | apply thenW_n | apply W_seq | apply W_skip
        | with_reducible refine W_rg ?_
        | (rw [vcn]; (try simp [-map_take,-map_drop, push_cast, hi0, sgAV, sgC, ptC, ratC, zC]))
        | (with_reducible refine W_condW ?_; (try simp [-map_take,-map_drop, AS.val, upd, resB, mkS_env, mkS_box, lk, entry_env, condW_true, condW_false, hi0, sgAV, sgC, ptC, ratC, zC]))
        | ((with_reducible refine condW_b (fun hc => ?_) (fun hc => ?_) <;> (try simp [-map_take,-map_drop, Int.ofNat_inj] at hc) <;> (try contradiction)))
        | fail)
      refine CallG_of (w1) rfl rfl rfl ?_
      try dsimp only
      repeat' (first
        | (rw [vcn]; (try simp [-map_take,-map_drop, push_cast]))
        | fail)
      refine CallG_of (w2) rfl rfl rfl ?_
      try dsimp only
      repeat' (first
        | with_reducible first | apply thenW_n | apply W_seq
        | (rw [vcn]; (try simp [-map_take,-map_drop, push_cast, ratAV, ratC, zC]))
        | with_reducible refine W_drawn mixed (by decide) (by kernel_rfl) ?_
        | (rw [vcnD]; (try simp [-map_take,-map_drop, push_cast, ratAV, ratC, zC]))
        | fail)
      refine callD_of (m1) rfl rfl rfl ?_
      try dsimp only
      repeat' (first
        | (rw [vcnD]; (try simp [-map_take,-map_drop, push_cast, ratAV, ratC, zC]))
        | fail)
      refine callD_of (q1) rfl rfl rfl ?_
      try dsimp only
      repeat' (first
        | with_reducible first | apply thenW_n | apply W_ret
        | (rw [vcnD]; (try simp [-map_take,-map_drop, push_cast]))
        | refine And.intro (by first | omega | kernel_rfl) ?_
        | fail)
      simp [-map_take,-map_drop, post, resAV, resAll, resOne, closeV, closeC, closeL, resD, resDL, push_cast, hout, o2]
end Go.Fw

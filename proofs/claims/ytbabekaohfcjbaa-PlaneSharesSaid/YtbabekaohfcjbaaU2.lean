/- plane: Clip. -/
import Derived.Test.YtbabekaohfcjbaaU1
import Derived.Test.YtbabekaohfcjbaaR13
import Derived.Test.YtbabekaohfcjbaaPt
set_option linter.unusedSimpArgs false
set_option linter.unusedVariables false
-- VALS: zAV, zC, ratAV, ratC, ptAV, ptC, sgAV, sgC
namespace Go.Fw
open Go Go.Proofs Go.IntWalk
set_option linter.unusedSimpArgs false
set_option maxRecDepth 100000
set_option maxHeartbeats 8000000

theorem szQ_inv (a : Rat) : szQ a⁻¹ ≤ szQ a + 1 := by
  unfold szQ
  rw [Rat.num_inv, Rat.den_inv]
  have h1 : (a.num.sign * (a.den : Int)).natAbs ≤ a.den := by
    rw [Int.natAbs_mul, Int.natAbs_natCast]
    have h2 : (a.num.sign).natAbs ≤ 1 := by rw [Int.natAbs_sign]; split <;> omega
    have := Nat.mul_le_mul_right a.den h2
    omega
  have h3 := limbs_le h1
  split
  · have h4 : (limbs 1).length = 1 := by decide
    omega
  · omega
theorem ptsC_snoc (l : List FP) (p : FP) : ptsC (l ++ [p]) = ptsC l ++ ptC p := by simp [ptsC]
theorem sign_ge (q : Rat) : (0 ≤ q.num.sign) ↔ 0 ≤ q := by
  rw [sign_num]
  split
  · rename_i h; constructor
    · intro k; omega
    · intro k; grind
  · rename_i h
    constructor
    · intro _; grind
    · intro _; split <;> omega
theorem sign_mul_neg (a c : Rat) : a.num.sign * c.num.sign < 0 ↔ a * c < 0 := by
  rw [sign_num, sign_num]
  by_cases h1 : a < 0
  · rw [if_pos h1]
    by_cases h2 : c < 0
    · rw [if_pos h2]
      have := Rat.mul_pos (a := -a) (b := -c) (by grind) (by grind)
      constructor
      · intro k; omega
      · intro k; grind
    · rw [if_neg h2]
      by_cases h3 : 0 < c
      · rw [if_pos h3]
        have := Rat.mul_pos (a := -a) (b := c) (by grind) h3
        constructor
        · intro _; grind
        · intro _; omega
      · rw [if_neg h3]
        have : c = 0 := by grind
        subst this
        constructor
        · intro k; omega
        · intro k; grind
  · rw [if_neg h1]
    by_cases h0 : 0 < a
    · rw [if_pos h0]
      by_cases h2 : c < 0
      · rw [if_pos h2]
        have := Rat.mul_pos (a := a) (b := -c) h0 (by grind)
        constructor
        · intro _; grind
        · intro _; omega
      · rw [if_neg h2]
        by_cases h3 : 0 < c
        · rw [if_pos h3]
          have := Rat.mul_pos h0 h3
          constructor
          · intro k; omega
          · intro k; grind
        · rw [if_neg h3]
          have : c = 0 := by grind
          subst this
          constructor
          · intro k; omega
          · intro k; grind
    · rw [if_neg h0]
      have : a = 0 := by grind
      subst this
      constructor
      · intro k; omega
      · intro k; grind

open List (map_take map_drop)
attribute [local push_cast] optK_some optK_none optK_ite optK_map optK_bind gOn stepK isMem evPure evMem evBin evUn evConv evLen evBuiltin evMinMax evSlice evBuild evAppend evIndex evIndexAddr evField evFieldAddr intBin strBin appDest AS.val AS.mem AS.elems AS.put AS.put' AS.eff AV.cells? AV.isCell AV.refs all_isByte take_byteV drop_byteV strOf_map bndOk bnd partAV ptrAdd killBox catA inOrder fillA setAt ofVal resB upd byteV List.head?_take List.head?_drop List.getElem?_map mkS_env mkS_box mkS_used entry_env entry_box entry_used lk stepD lookIds Oper.looksAt Op.operands Call.operands St.ids refsL renL_append ren renL renBox Box.refs iV i64V boolV dV_getElem dV_app dV_cons toNat_add2 toNat_add1
attribute [local simp ↓] numC_refs numC_isCell numC_cells numC_resB numC_resD numC_ren numC_closeC numC_isOwn
theorem clip_ok (s b : FSg) (h : szS s + szS b ≤ 2000) (hA : szQ (cross b.A.v b.B.v s.A.v) ≤ 1000) (hC : szQ (cross b.A.v b.B.v s.B.v) ≤ 1000) : Eval Try.prog 17 [sgAV s, sgAV b] (.ret (.slc false 8 (clipF s b).length (ptsC (clipF s b)))) := by
  refine Eval.intro Try.func17 rfl Try.call17 _ _ (Nat.le_of_ble_eq_true rfl) (by simp [-map_take,-map_drop, AV.refs, refsL, natAV, zAV, zC, ratAV, ratC, ptAV, ptC, sgAV, sgC, push_cast]) fun hs0 => ?_
  unfold szS at h
  have e1 := cross_ok b.A b.B s.A (by omega)
  have e2 := cross_ok b.A b.B s.B (by omega)
  have hx1 : (b.B.x.q - b.A.x.q) * (s.A.y.q - b.A.y.q) - (b.B.y.q - b.A.y.q) * (s.A.x.q - b.A.x.q) = cross b.A.v b.B.v s.A.v := rfl
  have hx2 : (b.B.x.q - b.A.x.q) * (s.B.y.q - b.A.y.q) - (b.B.y.q - b.A.y.q) * (s.B.x.q - b.A.x.q) = cross b.A.v b.B.v s.B.v := rfl
  rw [hx1] at e1
  rw [hx2] at e2
  obtain ⟨l, hl⟩ : ∃ l, l = clipF s b := ⟨_, rfl⟩
  rw [← hl]
  unfold clipF at hl
  obtain ⟨u, hu⟩ : ∃ u, u = cross b.A.v b.B.v s.A.v := ⟨_, rfl⟩
  obtain ⟨v, hv⟩ : ∃ v, v = cross b.A.v b.B.v s.B.v := ⟨_, rfl⟩
  rw [← hu] at e1 hl hA
  rw [← hv] at e2 hl hC
  have f1 := signR_ok (.of u) (by simp only [FQ.of]; omega)
  have f2 := signR_ok (.of v) (by simp only [FQ.of]; omega)
  have f3 := subR_ok (.of u) (.of v) (by simp only [FQ.of]; omega)
  have z1 := szQ_sub u v
  have f4 := cmpP_ok s.A s.B (by omega)
  have hq1 : (FQ.of u).q.num.sign = u.num.sign := rfl
  have hq2 : (FQ.of v).q.num.sign = v.num.sign := rfl
  have hq3 : (FQ.of u).q - (FQ.of v).q = u - v := rfl
  rw [hq1] at f1
  rw [hq2] at f2
  rw [hq3] at f3
  have g1 := sign_ge u
  have g2 := sign_ge v
  have g3 := sign_mul_neg u v
  have b1 : -1 ≤ u.num.sign ∧ u.num.sign ≤ 1 := by rw [sign_num]; split <;> (try split) <;> omega
  have b2 : -1 ≤ v.num.sign ∧ v.num.sign ≤ 1 := by rw [sign_num]; split <;> (try split) <;> omega
  obtain ⟨i, hi⟩ : ∃ i, i = u.num.sign := ⟨_, rfl⟩
  obtain ⟨j, hj⟩ : ∃ j, j = v.num.sign := ⟨_, rfl⟩
  rw [← hi] at f1 g1 g3 b1
  rw [← hj] at f2 g2 g3 b2
  have hij : IntKind.i64.wrap (i * j) = i * j := by
    rcases (by omega : i = -1 ∨ i = 0 ∨ i = 1) with rfl | rfl | rfl <;> rw [i64_in _ (by omega)]
  obtain ⟨k, hk⟩ : ∃ k, k = cmpP s.A s.B := ⟨_, rfl⟩
  rw [← hk] at f4 hl
  obtain ⟨U, hU⟩ : ∃ U, U = FQ.of u := ⟨_, rfl⟩
  obtain ⟨V, hV⟩ : ∃ V, V = FQ.of v := ⟨_, rfl⟩
  rw [← hU] at e1 f1 f3
  rw [← hV] at e2 f2 f3
  obtain ⟨l1, hl1⟩ : ∃ l1, l1 = (if 0 ≤ u then [s.A] else []) := ⟨_, rfl⟩
  obtain ⟨l2, hl2⟩ : ∃ l2, l2 = l1 ++ (if u * v < 0 then [s.at (u / (u - v))] else []) := ⟨_, rfl⟩
  have hb1 : l1.length ≤ 1 := by rw [hl1]; split <;> simp [-map_take,-map_drop]
  have hb2 : l2.length ≤ 2 := by rw [hl2, List.length_append]; split <;> simp [-map_take,-map_drop] <;> omega
  have hr : ∀ l, refsL (ptsC l) = [] := ptsC_refs
  have hrn : ∀ ρ l, renL ρ (ptsC l) = ptsC l := fun ρ l => renL_id ρ _ (ptsC_refs l)
  have hpl := ptsC_len
  repeat' (first
    | with_reducible apply W_seq
    | with_reducible refine W_region (by first | decide | (with_unfolding_all rfl)) ?_
    | (rw [vcn]; (try simp [-map_take,-map_drop, push_cast, sgAV, sgC, ptC, ratC, zC]))
    | fail)
  refine thenW_n ?_
  repeat' (first
    | with_reducible apply W_seq
    | with_reducible refine W_drawn mixed (by decide) (by kernel_rfl) ?_
    | (rw [vcnD]; (try simp [-map_take,-map_drop, push_cast, ptAV, ptC, ratC, zC]))
    | fail)
  refine callD_of (e1) rfl rfl rfl ?_
  try dsimp only
  repeat' (first
    | (rw [vcnD]; (try simp [-map_take,-map_drop, push_cast, ratAV, ptAV, ptC, ratC, zC]))
    | fail)
  refine callD_of (e2) rfl rfl rfl ?_
  try dsimp only
  repeat' (first
    | (rw [vcnD]; (try simp [-map_take,-map_drop, push_cast, ratAV, ptAV, ptC, ratC, zC]))
    | refine And.intro (by first | omega | kernel_rfl) ?_
    | fail)
  refine thenW_n ?_
  repeat' (first
    | with_reducible apply W_seq
    | with_reducible refine W_region (by first | decide | (with_unfolding_all rfl)) ?_
    | (rw [vcn]; (try simp [-map_take,-map_drop, push_cast]))
    | fail)
  refine thenW_n ?_
  refine W_nil 7 500 32 8 (by simp [-map_take,-map_drop, upd, mkS_env, entry_env, lk]) (by simp [-map_take,-map_drop, mkS_used, entry_used]) ?_
  refine W_seq ?_
  refine W_joinQ (X := Unit) (fun _ => [(2, .bp 2 0), (5, .bp 5 0), (6, .bp 6 0), (7, .bs 500 8 0 l1.length)]) (fun _ => [(2, .mut 34 (sgC s)), (5, .mut 30 (ratC U)), (6, .mut 30 (ratC V)), (500, .mut 32 (ptsC l1))]) (fun _ => True) ?_ fun _ _ => ?_
  · by_cases c1 : 0 ≤ u
    · have k1 : (0 ≤ i) = True := eq_true (g1.2 c1)
      have hl1' : l1 = [s.A] := by rw [hl1, if_pos c1]
      repeat' (first
        | with_reducible apply W_seq
        | with_reducible refine W_region (by first | decide | (with_unfolding_all rfl)) ?_
        | (rw [vcn]; (try simp [-map_take,-map_drop, push_cast, ratC, zC, k1]))
        | fail)
      refine CallG_of (f1) rfl rfl rfl ?_
      try dsimp only
      repeat' (first
        | with_reducible apply thenW_n
        | with_reducible refine W_region (by first | decide | (with_unfolding_all rfl)) ?_
        | (rw [vcn]; (try simp [-map_take,-map_drop, push_cast, sgC, ptC, ratC, zC, k1]))
        | (with_reducible refine W_condW ?_; (try simp [-map_take,-map_drop, AS.val, upd, resB, mkS_env, mkS_box, lk, entry_env, condW_true, condW_false, sgC, ptC, ratC, zC, k1]))
        | fail)
      refine joinW_n () (fun i => if i = 500 then 31 else i) trivial ⟨?_, ?_, ?_, ?_, ?_, ?_⟩
      all_goals first | (simp [-map_take,-map_drop, push_cast, dV_take, dV_drop, hl1', ptsC, sgC, ptC, ratC, zC]; done) | (simp [-map_take,-map_drop, push_cast, dV_take, dV_drop, hl1', ptsC, sgC, ptC, ratC, zC]; omega)
    · have k1 : (0 ≤ i) = False := eq_false (fun k => c1 (g1.1 k))
      have hl1' : l1 = [] := by rw [hl1, if_neg c1]
      repeat' (first
        | with_reducible apply W_seq
        | with_reducible refine W_region (by first | decide | (with_unfolding_all rfl)) ?_
        | (rw [vcn]; (try simp [-map_take,-map_drop, push_cast, ratC, zC, k1]))
        | fail)
      refine CallG_of (f1) rfl rfl rfl ?_
      try dsimp only
      repeat' (first
        | with_reducible first | apply thenW_n | apply W_skip
        | (rw [vcn]; (try simp [-map_take,-map_drop, push_cast, sgC, ptC, ratC, zC, k1]))
        | (with_reducible refine W_condW ?_; (try simp [-map_take,-map_drop, AS.val, upd, resB, mkS_env, mkS_box, lk, entry_env, condW_true, condW_false, sgC, ptC, ratC, zC, k1]))
        | fail)
      refine joinW_n () id trivial ⟨?_, ?_, ?_, ?_, ?_, ?_⟩
      all_goals first | (simp [-map_take,-map_drop, push_cast, dV_take, dV_drop, hl1', ptsC, sgC, ptC, ratC, zC]; done)
  refine W_seq ?_
  refine W_joinQ (X := Unit) (fun _ => [(2, .bp 2 0), (5, .bp 5 0), (6, .bp 6 0), (7, .bs 500 8 0 l2.length)]) (fun _ => [(2, .mut 34 (sgC s)), (5, .mut 30 (ratC U)), (6, .mut 30 (ratC V)), (500, .mut 32 (ptsC l2))]) (fun _ => True) ?_ fun _ _ => ?_
  · by_cases c2 : u * v < 0
    · have k2 : (i * j < 0) = True := eq_true (g3.2 c2)
      have hne : (u - v).num ≠ 0 := fun h0 => mul_neg_ne c2 (Rat.num_eq_zero.1 h0)
      have f5 := divR_ok U (.of (u - v)) hne (by rw [hU]; simp only [FQ.of]; omega)
      have hd : U.q / (FQ.of (u - v)).q = u / (u - v) := by rw [hU]; rfl
      rw [hd] at f5
      have z2 : szQ (u / (u - v)) ≤ 5002 := by
        rw [Rat.div_def]
        have h1 := szQ_mul u (u - v)⁻¹
        have h2 : szQ (u - v)⁻¹ ≤ szQ (u - v) + 1 := szQ_inv _
        omega
      have f6 := at_ok s (.of (u / (u - v))) (by omega) (by simp only [FQ.of]; omega)
      have hl2' : l2 = l1 ++ [s.at (u / (u - v))] := by rw [hl2, if_pos c2]
      have ha : s.at (FQ.of (u / (u - v))).q = s.at (u / (u - v)) := rfl
      rw [ha] at f6
      obtain ⟨P, hP⟩ : ∃ P, P = s.at (u / (u - v)) := ⟨_, rfl⟩
      rw [← hP] at f6 hl2'
      obtain ⟨D, hD⟩ : ∃ D, D = FQ.of (u - v) := ⟨_, rfl⟩
      obtain ⟨E, hE⟩ : ∃ E, E = FQ.of (u / (u - v)) := ⟨_, rfl⟩
      rw [← hD] at f3 f5
      rw [← hE] at f5 f6
      have hsn := ptsC_snoc l1 P
      rw [← hl2'] at hsn
      have hll : l2.length = l1.length + 1 := by rw [hl2', List.length_append]; rfl
      have hp1 := hpl l1
      obtain ⟨N, hN⟩ : ∃ N, N = ptsC l1 := ⟨_, rfl⟩
      have hNr : refsL N = [] := by rw [hN]; exact hr _
      have hNn : ∀ ρ, renL ρ N = N := fun ρ => renL_id ρ _ hNr
      rw [← hN] at hsn hp1
      simp only [← hN]
      repeat' (first
        | with_reducible apply W_seq
        | with_reducible refine W_drawn mixed (by decide) (by kernel_rfl) ?_
        | (rw [vcnD]; (try simp [-map_take,-map_drop, push_cast, ratC, zC, k2]))
        | fail)
      refine callD_of (f1) rfl rfl rfl ?_
      try dsimp only
      repeat' (first
        | (rw [vcnD]; (try simp [-map_take,-map_drop, push_cast, ratC, zC, k2]))
        | fail)
      refine callD_of (f2) rfl rfl rfl ?_
      try dsimp only
      repeat' (first
        | with_reducible first | apply thenW_n | apply W_seq
        | with_reducible refine W_drawn mixed (by decide) (by kernel_rfl) ?_
        | (rw [vcnD]; (try simp [-map_take,-map_drop, push_cast, ratC, zC, k2, hij]))
        | (with_reducible refine W_condW ?_; (try simp [-map_take,-map_drop, AS.val, upd, resB, mkS_env, mkS_box, lk, entry_env, condW_true, condW_false, ratC, zC, k2, hij]))
        | refine And.intro (by first | omega | kernel_rfl) ?_
        | fail)
      refine callD_of (f3) rfl rfl rfl ?_
      try dsimp only
      repeat' (first
        | (rw [vcnD]; (try simp [-map_take,-map_drop, push_cast, ratC, zC]))
        | fail)
      refine callD_of (f5) rfl rfl rfl ?_
      try dsimp only
      repeat' (first
        | with_reducible apply thenW_n
        | with_reducible refine W_region (by first | decide | (with_unfolding_all rfl)) ?_
        | (rw [vcn]; (try simp [-map_take,-map_drop, push_cast, ratAV, ratC, zC, sgC, ptC]))
        | (rw [vcnD]; (try simp [-map_take,-map_drop, push_cast, ratAV, ratC, zC, sgC, ptC]))
        | refine And.intro (by first | omega | kernel_rfl) ?_
        | fail)
      refine CallG_of (f6) rfl rfl rfl ?_
      try dsimp only
      repeat' (first
        | (rw [vcn]; (try simp [-map_take,-map_drop, push_cast, ptAV, ratC, zC, sgC, ptC, hp1]))
        | refine And.intro (by first | omega | kernel_rfl) ?_
        | fail)
      refine joinW_n () (fun i => if i = 500 then 51 else i) trivial ⟨?_, ?_, ?_, ?_, ?_, ?_⟩
      all_goals first | (simp [-map_take,-map_drop, push_cast, dV_take, dV_drop, hsn, hll, hNr, hNn, sgC, ptC, ratC, zC]; done) | (simp [-map_take,-map_drop, push_cast, dV_take, dV_drop, hsn, hll, hNr, hNn, sgC, ptC, ratC, zC]; omega)
    · have k2 : (i * j < 0) = False := eq_false (fun k => c2 (g3.1 k))
      have hl2' : l2 = l1 := by rw [hl2, if_neg c2, List.append_nil]
      repeat' (first
        | with_reducible apply W_seq
        | with_reducible refine W_drawn mixed (by decide) (by kernel_rfl) ?_
        | (rw [vcnD]; (try simp [-map_take,-map_drop, push_cast, ratC, zC, k2]))
        | fail)
      refine callD_of (f1) rfl rfl rfl ?_
      try dsimp only
      repeat' (first
        | (rw [vcnD]; (try simp [-map_take,-map_drop, push_cast, ratC, zC, k2]))
        | fail)
      refine callD_of (f2) rfl rfl rfl ?_
      try dsimp only
      repeat' (first
        | with_reducible first | apply thenW_n | apply W_skip
        | (rw [vcnD]; (try simp [-map_take,-map_drop, push_cast, ratC, zC, k2, hij]))
        | (with_reducible refine W_condW ?_; (try simp [-map_take,-map_drop, AS.val, upd, resB, mkS_env, mkS_box, lk, entry_env, condW_true, condW_false, ratC, zC, k2, hij]))
        | refine And.intro (by first | omega | kernel_rfl) ?_
        | fail)
      refine joinW_n () id trivial ⟨?_, ?_, ?_, ?_, ?_, ?_⟩
      all_goals first | (simp [-map_take,-map_drop, push_cast, dV_take, dV_drop, hl2', hr, hrn, sgC, ptC, ratC, zC]; done)
  refine W_seq ?_
  refine W_joinQ (X := Unit) (fun _ => [(7, .bs 500 8 0 l.length)]) (fun _ => [(500, .mut 32 (ptsC l))]) (fun _ => True) ?_ fun _ _ => ?_
  · have hl' : l = l2 ++ (if 0 ≤ v ∧ k ≠ 0 then [s.B] else []) := by rw [hl, hl2, hl1, List.append_assoc]
    by_cases c3 : 0 ≤ v
    · have k3 : (0 ≤ j) = True := eq_true (g2.2 c3)
      by_cases c4 : k = 0
      · have hl3 : l = l2 := by rw [hl', if_neg (fun h => h.2 c4), List.append_nil]
        have k4 : (k = 0) = True := eq_true c4
        subst c4
        repeat' (first
          | with_reducible apply W_seq
          | with_reducible refine W_region (by first | decide | (with_unfolding_all rfl)) ?_
          | (rw [vcn]; (try simp [-map_take,-map_drop, push_cast, ratC, zC, k3]))
          | fail)
        refine CallG_of (f2) rfl rfl rfl ?_
        try dsimp only
        repeat' (first
          | (rw [vcn]; (try simp [-map_take,-map_drop, push_cast, sgC, ptC, ratC, zC, k3]))
          | fail)
        refine CallG_of (f4) rfl rfl rfl ?_
        try dsimp only
        repeat' (first
          | with_reducible first | apply thenW_n | apply W_skip
          | (rw [vcn]; (try simp [-map_take,-map_drop, push_cast]))
          | (with_reducible refine W_condW ?_; (try simp [-map_take,-map_drop, AS.val, upd, resB, mkS_env, mkS_box, lk, entry_env, condW_true, condW_false]))
          | fail)
        refine joinW_n () id trivial ⟨?_, ?_, ?_, ?_, ?_, ?_⟩
        all_goals first | (simp [-map_take,-map_drop, push_cast, dV_take, dV_drop, hl3, hr, hrn]; done)
      · have hl3 : l = l2 ++ [s.B] := by rw [hl', if_pos ⟨c3, c4⟩]
        have k4 : (k = 0) = False := eq_false c4
        have k5 : (k != 0) = true := by rw [bne_iff_ne]; exact c4
        have hsn := ptsC_snoc l2 s.B
        rw [← hl3] at hsn
        have hll : l.length = l2.length + 1 := by rw [hl3, List.length_append]; rfl
        have hp1 := hpl l2
        obtain ⟨N, hN⟩ : ∃ N, N = ptsC l2 := ⟨_, rfl⟩
        have hNr : refsL N = [] := by rw [hN]; exact hr _
        have hNn : ∀ ρ, renL ρ N = N := fun ρ => renL_id ρ _ hNr
        rw [← hN] at hsn hp1
        simp only [← hN]
        repeat' (first
          | with_reducible apply W_seq
          | with_reducible refine W_region (by first | decide | (with_unfolding_all rfl)) ?_
          | (rw [vcn]; (try simp [-map_take,-map_drop, push_cast, ratC, zC, k3]))
          | fail)
        refine CallG_of (f2) rfl rfl rfl ?_
        try dsimp only
        repeat' (first
          | (rw [vcn]; (try simp [-map_take,-map_drop, push_cast, sgC, ptC, ratC, zC, k3]))
          | fail)
        refine CallG_of (f4) rfl rfl rfl ?_
        try dsimp only
        repeat' (first
          | with_reducible apply thenW_n
          | with_reducible refine W_region (by first | decide | (with_unfolding_all rfl)) ?_
          | (rw [vcn]; (try simp [-map_take,-map_drop, push_cast, k4, k5, sgC, ptC, ratC, zC, hp1]))
          | (with_reducible refine W_condW ?_; (try simp [-map_take,-map_drop, AS.val, upd, resB, mkS_env, mkS_box, lk, entry_env, condW_true, condW_false, k4, k5, sgC, ptC, ratC, zC, hp1]))
          | refine And.intro (by first | omega | kernel_rfl) ?_
          | fail)
        refine joinW_n () (fun i => if i = 500 then 67 else i) trivial ⟨?_, ?_, ?_, ?_, ?_, ?_⟩
        all_goals first | (simp [-map_take,-map_drop, push_cast, dV_take, dV_drop, hsn, hll, hNr, hNn, ptC, ratC, zC]; done) | (simp [-map_take,-map_drop, push_cast, dV_take, dV_drop, hsn, hll, hNr, hNn, ptC, ratC, zC]; omega)
    · have k3 : (0 ≤ j) = False := eq_false (fun k => c3 (g2.1 k))
      have hl3 : l = l2 := by rw [hl', if_neg (fun h => c3 h.1), List.append_nil]
      repeat' (first
        | with_reducible apply W_seq
        | with_reducible refine W_region (by first | decide | (with_unfolding_all rfl)) ?_
        | (rw [vcn]; (try simp [-map_take,-map_drop, push_cast, ratC, zC, k3]))
        | fail)
      refine CallG_of (f2) rfl rfl rfl ?_
      try dsimp only
      repeat' (first
        | with_reducible first | apply thenW_n | apply W_skip
        | (rw [vcn]; (try simp [-map_take,-map_drop, push_cast, sgC, ptC, ratC, zC, k3]))
        | (with_reducible refine W_condW ?_; (try simp [-map_take,-map_drop, AS.val, upd, resB, mkS_env, mkS_box, lk, entry_env, condW_true, condW_false, sgC, ptC, ratC, zC, k3]))
        | fail)
      refine joinW_n () id trivial ⟨?_, ?_, ?_, ?_, ?_, ?_⟩
      all_goals first | (simp [-map_take,-map_drop, push_cast, dV_take, dV_drop, hl3, hr, hrn]; done)
  refine W_frz 500 (e := 32) (l := ptsC l) (by simp [-map_take,-map_drop, mkS_box, lk]) (hr _) ?_
  have hp1 := hpl l
  have hp2 : (ptsC l).take (l.length * 8) = ptsC l := List.take_of_length_le (by omega)
  repeat' (first
    | with_reducible first | apply thenW_n | apply W_seq | apply W_ret
    | with_reducible refine W_region (by first | decide | (with_unfolding_all rfl)) ?_
    | (rw [vcn]; (try simp [-map_take,-map_drop, push_cast]))
    | fail)
  simp [-map_take,-map_drop, post, resAV, resAll, resOne, closeV, closeC, closeL, resD, resDL, push_cast, hp1, hp2]
end Go.Fw

import Derived.Test.YtmmkclefdpmjlaaU1b
import Derived.Test.YtmmkclefdpmjlaaR8b
import Derived.Test.YtmmkclefdpmjlaaPt
set_option linter.unusedSimpArgs false
set_option linter.unusedVariables false
-- VALS: zAV, zC, ratAV, ratC, ptAV, ptC, sgAV, sgC
namespace Go.Fw
open Go Go.Proofs Go.IntWalk
set_option linter.unusedSimpArgs false
set_option maxRecDepth 100000
set_option maxHeartbeats 8000000
theorem szQ_inv (a : Rat) : szQ a⁻¹ ≤ szQ a + 1 := by
  unfold szQ
  rw [Rat.num_inv, Rat.den_inv]
  have h1 : (a.num.sign * (a.den : Int)).natAbs ≤ a.den := by
    rw [Int.natAbs_mul, Int.natAbs_natCast]
    have h2 : (a.num.sign).natAbs ≤ 1 := by rw [Int.natAbs_sign]; split <;> omega
    have := Nat.mul_le_mul_right a.den h2
    omega
  have h3 := limbs_le h1
  split
  · have h4 : (limbs 1).length = 1 := by decide
    omega
  · omega
theorem ptsC_snoc (l : List FP) (p : FP) : ptsC (l ++ [p]) = ptsC l ++ ptC p := by simp [ptsC]
theorem sign_ge (q : Rat) : (0 ≤ q.num.sign) ↔ 0 ≤ q := by
  rw [sign_num]
  split
  · rename_i h; constructor
    · intro k; omega
    · intro k; grind
  · rename_i h
    constructor
    · intro _; grind
    · intro _; split <;> omega
theorem sign_mul_neg (a c : Rat) : a.num.sign * c.num.sign < 0 ↔ a * c < 0 := by
  rw [sign_num, sign_num]
  by_cases h1 : a < 0
  · rw [if_pos h1]
    by_cases h2 : c < 0
    · rw [if_pos h2]
      have := Rat.mul_pos (a := -a) (b := -c) (by grind) (by grind)
      constructor
      · intro k; omega
      · intro k; grind
    · rw [if_neg h2]
      by_cases h3 : 0 < c
      · rw [if_pos h3]
        have := Rat.mul_pos (a := -a) (b := c) (by grind) h3
        constructor
        · intro _; grind
        · intro _; omega
      · rw [if_neg h3]
        have : c = 0 := by grind
        subst this
        constructor
        · intro k; omega
        · intro k; grind
  · rw [if_neg h1]
    by_cases h0 : 0 < a
    · rw [if_pos h0]
      by_cases h2 : c < 0
      · rw [if_pos h2]
        have := Rat.mul_pos (a := a) (b := -c) h0 (by grind)
        constructor
        · intro _; grind
        · intro _; omega
      · rw [if_neg h2]
        by_cases h3 : 0 < c
        · rw [if_pos h3]
          have := Rat.mul_pos h0 h3
          constructor
          · intro k; omega
          · intro k; grind
        · rw [if_neg h3]
          have : c = 0 := by grind
          subst this
          constructor
          · intro k; omega
          · intro k; grind
    · rw [if_neg h0]
      have : a = 0 := by grind
      subst this
      constructor
      · intro k; omega
      · intro k; grind
open List (map_take map_drop)
attribute [local push_cast] optK_some optK_none optK_ite optK_map optK_bind gOn stepK isMem evPure evMem evBin evUn evConv evLen evBuiltin evMinMax evSlice evBuild evAppend evIndex evIndexAddr evField evFieldAddr intBin strBin appDest AS.val AS.mem AS.elems AS.put AS.put' AS.eff AV.cells? AV.isCell AV.refs all_isByte take_byteV drop_byteV strOf_map bndOk bnd partAV ptrAdd killBox catA inOrder fillA setAt ofVal resB upd byteV List.head?_take List.head?_drop List.getElem?_map mkS_env mkS_box mkS_used entry_env entry_box entry_used lk stepD lookIds Oper.looksAt Op.operands Call.operands St.ids refsL renL_append ren renL renBox Box.refs iV i64V boolV dV_getElem dV_app dV_cons toNat_add2 toNat_add1
attribute [local simp ↓] numC_refs numC_isCell numC_cells numC_resB numC_resD numC_ren numC_closeC numC_isOwn
theorem clip_ok (s b : FSg) (h : szS s + szS b ≤ 2000) (hA : szQ (cross b.A.v b.B.v s.A.v) ≤ 1000) (hC : szQ (cross b.A.v b.B.v s.B.v) ≤ 1000) : Eval Try.prog 38 [sgAV s, sgAV b] (.ret (.slc false 8 (clipF s b).length (ptsC (clipF s b)))) := by
  refine Eval.intro Try.func38 rfl Try.call38 _ _ (Nat.le_of_ble_eq_true rfl) (by simp [-map_take,-map_drop, AV.refs, refsL, natAV, zAV, zC, ratAV, ratC, ptAV, ptC, sgAV, sgC, push_cast]) fun hs0 => ?_
  unfold szS at h
  have e1 := cross_ok b.A b.B s.A (by omega)
  have e2 := cross_ok b.A b.B s.B (by omega)
  have hx1 : (b.B.x.q - b.A.x.q) * (s.A.y.q - b.A.y.q) - (b.B.y.q - b.A.y.q) * (s.A.x.q - b.A.x.q) = cross b.A.v b.B.v s.A.v := rfl
  have hx2 : (b.B.x.q - b.A.x.q) * (s.B.y.q - b.A.y.q) - (b.B.y.q - b.A.y.q) * (s.B.x.q - b.A.x.q) = cross b.A.v b.B.v s.B.v := rfl
  rw [hx1] at e1
  rw [hx2] at e2
  obtain ⟨l, hl⟩ : ∃ l, l = clipF s b := ⟨_, rfl⟩
  rw [← hl]
  unfold clipF at hl
  obtain ⟨u, hu⟩ : ∃ u, u = cross b.A.v b.B.v s.A.v := ⟨_, rfl⟩
  obtain ⟨v, hv⟩ : ∃ v, v = cross b.A.v b.B.v s.B.v := ⟨_, rfl⟩
  rw [← hu] at e1 hl hA
  rw [← hv] at e2 hl hC
  have f1 := signR_ok (.of u) (by simp only [FQ.of]; omega)
  have f2 := signR_ok (.of v) (by simp only [FQ.of]; omega)
  have f3 := subR_ok (.of u) (.of v) (by simp only [FQ.of]; omega)
  have z1 := szQ_sub u v
  have f4 := cmpP_ok s.A s.B (by omega)
  have hq1 : (FQ.of u).q.num.sign = u.num.sign := rfl
  have hq2 : (FQ.of v).q.num.sign = v.num.sign := rfl
  have hq3 : (FQ.of u).q - (FQ.of v).q = u - v := rfl
  rw [hq1] at f1
  rw [hq2] at f2
  rw [hq3] at f3
  have g1 := sign_ge u
  have g2 := sign_ge v
  have g3 := sign_mul_neg u v
  have b1 : -1 ≤ u.num.sign ∧ u.num.sign ≤ 1 := by rw [sign_num]; split <;> (try split) <;> omega
  have b2 : -1 ≤ v.num.sign ∧ v.num.sign ≤ 1 := by rw [sign_num]; split <;> (try split) <;> omega
  obtain ⟨i, hi⟩ : ∃ i, i = u.num.sign := ⟨_, rfl⟩
  obtain ⟨j, hj⟩ : ∃ j, j = v.num.sign := ⟨_, rfl⟩
  rw [← hi] at f1 g1 g3 b1
  rw [← hj] at f2 g2 g3 b2
  have hij : IntKind.i64.wrap (i * j) = i * j := by
    rcases (by omega : i = -1 ∨ i = 0 ∨ i = 1) with rfl | rfl | rfl <;> rw [i64_in _ (by omega)]
  obtain ⟨k, hk⟩ : ∃ k, k = cmpP s.A s.B := ⟨_, rfl⟩
  rw [← hk] at f4 hl
  obtain ⟨U, hU⟩ : ∃ U, U = FQ.of u := ⟨_, rfl⟩
  obtain ⟨V, hV⟩ : ∃ V, V = FQ.of v := ⟨_, rfl⟩
  rw [← hU] at e1 f1 f3
  rw [← hV] at e2 f2 f3
  obtain ⟨l1, hl1⟩ : ∃ l1, l1 = (if 0 ≤ u then [s.A] else []) := ⟨_, rfl⟩
  obtain ⟨l2, hl2⟩ : ∃ l2, l2 = l1 ++ (if u * v < 0 then [s.at (u / (u - v))] else []) := ⟨_, rfl⟩
  have hb1 : l1.length ≤ 1 := by rw [hl1]; split <;> simp [-map_take,-map_drop]
  have hb2 : l2.length ≤ 2 := by rw [hl2, List.length_append]; split <;> simp [-map_take,-map_drop] <;> omega
  have hr : ∀ l, refsL (ptsC l) = [] := ptsC_refs
  have hrn : ∀ ρ l, renL ρ (ptsC l) = ptsC l := fun ρ l => renL_id ρ _ (ptsC_refs l)
  have hpl := ptsC_len
  repeat' (first
    | with_reducible apply W_seq
    | with_reducible refine W_rg ?_
    | (rw [vcn]; (try simp [-map_take,-map_drop, push_cast, sgAV, sgC, ptC, ratC, zC]))
    | fail)
  refine thenW_n ?_
  repeat' (first
    | with_reducible apply W_seq
    | with_reducible refine W_drawn mixed (by decide) (by kernel_rfl) ?_
    | (rw [vcnD]; (try simp [-map_take,-map_drop, push_cast, ptAV, ptC, ratC, zC]))
    | fail)
  refine callD_of (e1) rfl rfl rfl ?_
  try dsimp only
  repeat' (first
    | (rw [vcnD]; (try simp [-map_take,-map_drop, push_cast, ratAV, ptAV, ptC, ratC, zC]))
    | fail)
  refine callD_of (e2) rfl rfl rfl ?_
  try dsimp only
  repeat' (first
    | (rw [vcnD]; (try simp [-map_take,-map_drop, push_cast, ratAV, ptAV, ptC, ratC, zC]))
    | refine And.intro (by first | omega | kernel_rfl) ?_
    | fail)
  refine thenW_n ?_
  repeat' (first
    | with_reducible apply W_seq
    | with_reducible refine W_rg ?_
    | (rw [vcn]; (try simp [-map_take,-map_drop, push_cast]))
    | fail)
  refine thenW_n ?_
  refine W_nil 7 500 33 8 (by simp [-map_take,-map_drop, upd, mkS_env, entry_env, lk]) (by simp [-map_take,-map_drop, mkS_used, entry_used]) ?_
  refine W_seq ?_
  refine W_joinQ (X := Unit) (fun _ => [(2, .bp 2 0), (5, .bp 5 0), (6, .bp 6 0), (7, .bs 500 8 0 l1.length)]) (fun _ => [(2, .mut 73 (sgC s)), (5, .mut 31 (ratC U)), (6, .mut 31 (ratC V)), (500, .mut 33 (ptsC l1))]) (fun _ => True) ?_ fun _ _ => ?_
  · by_cases c1 : 0 ≤ u
    · have k1 : (0 ≤ i) = True := eq_true (g1.2 c1)
      have hl1' : l1 = [s.A] := by rw [hl1, if_pos c1]
      repeat' (first
        | with_reducible apply W_seq
        | with_reducible refine W_rg ?_
        | (rw [vcn]; (try simp [-map_take,-map_drop, push_cast, ratC, zC, k1]))
        | fail)
      refine CallG_of (f1) rfl rfl rfl ?_
      try dsimp only
      repeat' (first
        | with_reducible apply thenW_n
        | with_reducible refine W_rg ?_
        | (rw [vcn]; (try simp [-map_take,-map_drop, push_cast, sgC, ptC, ratC, zC, k1]))
        | (with_reducible refine W_condW ?_; (try simp [-map_take,-map_drop, AS.val, upd, resB, mkS_env, mkS_box, lk, entry_env, condW_true, condW_false, sgC, ptC, ratC, zC, k1]))
        | fail)
      refine joinW_n () (fun i => if i = 500 then 31 else i) trivial ⟨?_, ?_, ?_, ?_, ?_, ?_⟩
      all_goals first | (simp [-map_take,-map_drop, push_cast, dV_take, dV_drop, hl1', ptsC, sgC, ptC, ratC, zC]; done) | (simp [-map_take,-map_drop, push_cast, dV_take, dV_drop, hl1', ptsC, sgC, ptC, ratC, zC]; omega)
    · have k1 : (0 ≤ i) = False := eq_false (fun k => c1 (g1.1 k))
      have hl1' : l1 = [] := by rw [hl1, if_neg c1]
      repeat' (first
        | with_reducible apply W_seq
        | with_reducible refine W_rg ?_
        | (rw [vcn]; (try simp [-map_take,-map_drop, push_cast, ratC, zC, k1]))
        | fail)
      refine CallG_of (f1) rfl rfl rfl ?_
      try dsimp only
      repeat' (first
        | with_reducible first | apply thenW_n | apply W_skip
        | (rw [vcn]; (try simp [-map_take,-map_drop, push_cast, sgC, ptC, ratC, zC, k1]))
        | (with_reducible refine W_condW ?_; (try simp [-map_take,-map_drop, AS.val, upd, resB, mkS_env, mkS_box, lk, entry_env, condW_true, condW_false, sgC, ptC, ratC, zC, k1]))
        | fail)
      refine joinW_n () id trivial ⟨?_, ?_, ?_, ?_, ?_, ?_⟩
      all_goals first | (simp [-map_take,-map_drop, push_cast, dV_take, dV_drop, hl1', ptsC, sgC, ptC, ratC, zC]; done)
  refine W_seq ?_
  refine W_joinQ (X := Unit) (fun _ => [(2, .bp 2 0), (5, .bp 5 0), (6, .bp 6 0), (7, .bs 500 8 0 l2.length)]) (fun _ => [(2, .mut 73 (sgC s)), (5, .mut 31 (ratC U)), (6, .mut 31 (ratC V)), (500, .mut 33 (ptsC l2))]) (fun _ => True) ?_ fun _ _ => ?_
  · by_cases c2 : u * v < 0
    · have k2 : (i * j < 0) = True := eq_true (g3.2 c2)
      have hne : (u - v).num ≠ 0 := fun h0 => mul_neg_ne c2 (Rat.num_eq_zero.1 h0)
      have f5 := divR_ok U (.of (u - v)) hne (by rw [hU]; simp only [FQ.of]; omega)
      have hd : U.q / (FQ.of (u - v)).q = u / (u - v) := by rw [hU]; rfl
      rw [hd] at f5
      have z2 : szQ (u / (u - v)) ≤ 5002 := by
        rw [Rat.div_def]
        have h1 := szQ_mul u (u - v)⁻¹
        have h2 : szQ (u - v)⁻¹ ≤ szQ (u - v) + 1 := szQ_inv _
        omega
      have f6 := at_ok s (.of (u / (u - v))) (by omega) (by simp only [FQ.of]; omega)
      have hl2' : l2 = l1 ++ [s.at (u / (u - v))] := by rw [hl2, if_pos c2]
      have ha : s.at (FQ.of (u / (u - v))).q = s.at (u / (u - v)) := rfl
      rw [ha] at f6
      obtain ⟨P, hP⟩ : ∃ P, P = s.at (u / (u - v)) := ⟨_, rfl⟩
      rw [← hP] at f6 hl2'
      obtain ⟨D, hD⟩ : ∃ D, D = FQ.of (u - v) := ⟨_, rfl⟩
      obtain ⟨E, hE⟩ : ∃ E, E = FQ.of (u / (u - v)) := ⟨_, rfl⟩
      rw [← hD] at f3 f5
      rw [← hE] at f5 f6
      have hsn := ptsC_snoc l1 P
      rw [← hl2'] at hsn
      have hll : l2.length = l1.length + 1 := by rw [hl2', List.length_append]; rfl
      have hp1 := hpl l1
      obtain ⟨N, hN⟩ : ∃ N, N = ptsC l1 := ⟨_, rfl⟩
      have hNr : refsL N = [] := by rw [hN]; exact hr _
      have hNn : ∀ ρ, renL ρ N = N := fun ρ => renL_id ρ _ hNr
      rw [← hN] at hsn hp1
      simp only [← hN]
      repeat' (first
        | with_reducible apply W_seq
        | with_reducible refine W_drawn mixed (by decide) (by kernel_rfl) ?_
        | (rw [vcnD]; (try simp [-map_take,-map_drop, push_cast, ratC, zC, k2]))
        | fail)
      refine callD_of (f1) rfl rfl rfl ?_
      try dsimp only
      repeat' (first
        | (rw [vcnD]; (try simp [-map_take,-map_drop, push_cast, ratC, zC, k2]))
        | fail)
      refine callD_of (f2) rfl rfl rfl ?_
      try dsimp only
      repeat' (first
        | with_reducible first | apply thenW_n | apply W_seq
        | with_reducible refine W_drawn mixed (by decide) (by kernel_rfl) ?_
        | (rw [vcnD]; (try simp [-map_take,-map_drop, push_cast, ratC, zC, k2, hij]))
        | (with_reducible refine W_condW ?_; (try simp [-map_take,-map_drop, AS.val, upd, resB, mkS_env, mkS_box, lk, entry_env, condW_true, condW_false, ratC, zC, k2, hij]))
        | refine And.intro (by first | omega | kernel_rfl) ?_
        | fail)
      refine callD_of (f3) rfl rfl rfl ?_
      try dsimp only
      repeat' (first
        | (rw [vcnD]; (try simp [-map_take,-map_drop, push_cast, ratC, zC]))
        | fail)
      refine callD_of (f5) rfl rfl rfl ?_
      try dsimp only
      repeat' (first
        | with_reducible apply thenW_n
        | with_reducible refine W_rg ?_
        | (rw [vcn]; (try simp [-map_take,-map_drop, push_cast, ratAV, ratC, zC, sgC, ptC]))
        | (rw [vcnD]; (try simp [-map_take,-map_drop, push_cast, ratAV, ratC, zC, sgC, ptC]))
        | refine And.intro (by first | omega | kernel_rfl) ?_
        | fail)
      refine CallG_of (f6) rfl rfl rfl ?_
      try dsimp only
      repeat' (first
        | (rw [vcn]; (try simp [-map_take,-map_drop, push_cast, ptAV, ratC, zC, sgC, ptC, hp1]))
        | refine And.intro (by first | omega | kernel_rfl) ?_
        | fail)
      refine joinW_n () (fun i => if i = 500 then 51 else i) trivial ⟨?_, ?_, ?_, ?_, ?_, ?_⟩
      all_goals first | (simp [-map_take,-map_drop, push_cast, dV_take, dV_drop, hsn, hll, hNr, hNn, sgC, ptC, ratC, zC]; done) | (simp [-map_take,-map_drop, push_cast, dV_take, dV_drop, hsn, hll, hNr, hNn, sgC, ptC, ratC, zC]; omega)
    · have k2 : (i * j < 0) = False := eq_false (fun k => c2 (g3.1 k))
      have hl2' : l2 = l1 := by rw [hl2, if_neg c2, List.append_nil]
      repeat' (first
        | with_reducible apply W_seq
        | with_reducible refine W_drawn mixed (by decide) (by kernel_rfl) ?_
        | (rw [vcnD]; (try simp [-map_take,-map_drop, push_cast, ratC, zC, k2]))
        | fail)
      refine callD_of (f1) rfl rfl rfl ?_
      try dsimp only
      repeat' (first
        | (rw [vcnD]; (try simp [-map_take,-map_drop, push_cast, ratC, zC, k2]))
        | fail)
      refine callD_of (f2) rfl rfl rfl ?_
      try dsimp only
      repeat' (first
        | with_reducible first | apply thenW_n | apply W_skip
        | (rw [vcnD]; (try simp [-map_take,-map_drop, push_cast, ratC, zC, k2, hij]))
        | (with_reducible refine W_condW ?_; (try simp [-map_take,-map_drop, AS.val, upd, resB, mkS_env, mkS_box, lk, entry_env, condW_true, condW_false, ratC, zC, k2, hij]))
        | refine And.intro (by first | omega | kernel_rfl) ?_
        | fail)
      refine joinW_n () id trivial ⟨?_, ?_, ?_, ?_, ?_, ?_⟩
      all_goals first | (simp [-map_take,-map_drop, push_cast, dV_take, dV_drop, hl2', hr, hrn, sgC, ptC, ratC, zC]; done)
  refine W_seq ?_
  refine W_joinQ (X := Unit) (fun _ => [(7, .bs 500 8 0 l.length)]) (fun _ => [(500, .mut 33 (ptsC l))]) (fun _ => True) ?_ fun _ _ => ?_
  · have hl' : l = l2 ++ (if 0 ≤ v ∧ k ≠ 0 then [s.B] else []) := by rw [hl, hl2, hl1, List.append_assoc]
    by_cases c3 : 0 ≤ v
    · have k3 : (0 ≤ j) = True := eq_true (g2.2 c3)
      by_cases c4 : k = 0
      · have hl3 : l = l2 := by rw [hl', if_neg (fun h => h.2 c4), List.append_nil]
        have k4 : (k = 0) = True := eq_true c4
        subst c4
        repeat' (first
          | with_reducible apply W_seq
          | with_reducible refine W_rg ?_
          | (rw [vcn]; (try simp [-map_take,-map_drop, push_cast, ratC, zC, k3]))
          | fail)
        refine CallG_of (f2) rfl rfl rfl ?_
        try dsimp only
        repeat' (first
          | (rw [vcn]; (try simp [-map_take,-map_drop, push_cast, sgC, ptC, ratC, zC, k3]))
          | fail)
        refine CallG_of (f4) rfl rfl rfl ?_
        try dsimp only
        repeat' (first
          | with_reducible first | apply thenW_n | apply W_skip
          | (rw [vcn]; (try simp [-map_take,-map_drop, push_cast]))
          | (with_reducible refine W_condW ?_; (try simp [-map_take,-map_drop, AS.val, upd, resB, mkS_env, mkS_box, lk, entry_env, condW_true, condW_false]))
          | fail)
        refine joinW_n () id trivial ⟨?_, ?_, ?_, ?_, ?_, ?_⟩
        all_goals first | (simp [-map_take,-map_drop, push_cast, dV_take, dV_drop, hl3, hr, hrn]; done)
      · have hl3 : l = l2 ++ [s.B] := by rw [hl', if_pos ⟨c3, c4⟩]
        have k4 : (k = 0) = False := eq_false c4
        have k5 : (k != 0) = true := by rw [bne_iff_ne]; exact c4
        have hsn := ptsC_snoc l2 s.B
        rw [← hl3] at hsn
        have hll : l.length = l2.length + 1 := by rw [hl3, List.length_append]; rfl
        have hp1 := hpl l2
        obtain ⟨N, hN⟩ : ∃ N, N = ptsC l2 := ⟨_, rfl⟩
        have hNr : refsL N = [] := by rw [hN]; exact hr _
        have hNn : ∀ ρ, renL ρ N = N := fun ρ => renL_id ρ _ hNr
        rw [← hN] at hsn hp1
        simp only [← hN]
        repeat' (first
          | with_reducible apply W_seq
          | with_reducible refine W_rg ?_
          | (rw [vcn]; (try simp [-map_take,-map_drop, push_cast, ratC, zC, k3]))
          | fail)
        refine CallG_of (f2) rfl rfl rfl ?_
        try dsimp only
        repeat' (first
          | (rw [vcn]; (try simp [-map_take,-map_drop, push_cast, sgC, ptC, ratC, zC, k3]))
          | fail)
        refine CallG_of (f4) rfl rfl rfl ?_
        try dsimp only
        repeat' (first
          | with_reducible apply thenW_n
          | with_reducible refine W_rg ?_
          | (rw [vcn]; (try simp [-map_take,-map_drop, push_cast, k4, k5, sgC, ptC, ratC, zC, hp1]))
          | (with_reducible refine W_condW ?_; (try simp [-map_take,-map_drop, AS.val, upd, resB, mkS_env, mkS_box, lk, entry_env, condW_true, condW_false, k4, k5, sgC, ptC, ratC, zC, hp1]))
          | refine And.intro (by first | omega | kernel_rfl) ?_
          | fail)
        refine joinW_n () (fun i => if i = 500 then 67 else i) trivial ⟨?_, ?_, ?_, ?_, ?_, ?_⟩
        all_goals first | (simp [-map_take,-map_drop, push_cast, dV_take, dV_drop, hsn, hll, hNr, hNn, ptC, ratC, zC]; done) | (simp [-map_take,-map_drop, push_cast, dV_take, dV_drop, hsn, hll, hNr, hNn, ptC, ratC, zC]; omega)
    · have k3 : (0 ≤ j) = False := eq_false (fun k => c3 (g2.1 k))
      have hl3 : l = l2 := by rw [hl', if_neg (fun h => c3 h.1), List.append_nil]
      repeat' (first
        | with_reducible apply W_seq
        | with_reducible refine W_rg ?_
        | (rw [vcn]; (try simp [-map_take,-map_drop, push_cast, ratC, zC, k3]))
        | fail)
      refine CallG_of (f2) rfl rfl rfl ?_
      try dsimp only
      repeat' (first
        | with_reducible first | apply thenW_n | apply W_skip
        | (rw [vcn]; (try simp [-map_take,-map_drop, push_cast, sgC, ptC, ratC, zC, k3]))
        | (with_reducible refine W_condW ?_; (try simp [-map_take,-map_drop, AS.val, upd, resB, mkS_env, mkS_box, lk, entry_env, condW_true, condW_false, sgC, ptC, ratC, zC, k3]))
        | fail)
      refine joinW_n () id trivial ⟨?_, ?_, ?_, ?_, ?_, ?_⟩
      all_goals first | (simp [-map_take,-map_drop, push_cast, dV_take, dV_drop, hl3, hr, hrn]; done)
  refine W_frz 500 (e := 33) (l := ptsC l) (by simp [-map_take,-map_drop, mkS_box, lk]) (hr _) ?_
  have hp1 := hpl l
  have hp2 : (ptsC l).take (l.length * 8) = ptsC l := List.take_of_length_le (by omega)
  repeat' (first
    | with_reducible first | apply thenW_n | apply W_seq | apply W_ret
    | with_reducible refine W_rg ?_
    | (rw [vcn]; (try simp [-map_take,-map_drop, push_cast]))
    | fail)
  simp [-map_take,-map_drop, post, resAV, resAll, resOne, closeV, closeC, closeL, resD, resDL, push_cast, hp1, hp2]
end Go.Fw
-- VALS: zAV, zC, ratAV, ratC, ptAV, ptC, sgAV, sgC
namespace Go.Fw
open Go Go.Proofs Go.IntWalk
set_option linter.unusedSimpArgs false
set_option maxRecDepth 100000
set_option maxHeartbeats 20000000
theorem sign_lt (q : Rat) : (q.num.sign < 0) ↔ q < 0 := by
  rw [sign_num]
  split
  · rename_i h; simp [h]
  · rename_i h; split <;> simp [h]
theorem sign_ne (q : Rat) : (q.num.sign = 0) ↔ q = 0 := by
  rw [sign_num]
  split
  · rename_i h; constructor
    · intro k; cases k
    · intro k; grind
  · rename_i h
    split
    · rename_i h2; constructor
      · intro k; cases k
      · intro k; grind
    · rename_i h2; constructor
      · intro _; grind
      · intro _; rfl
theorem cmp_gt (a b : Rat) : (0 < cmpZ (a.num * b.den) (b.num * a.den)) ↔ b < a := by
  rw [cmpQ_eq]
  by_cases h1 : a < b
  · rw [if_pos h1]
    have : ¬ b < a := by grind
    simp [this]
  · rw [if_neg h1]
    by_cases h2 : b < a
    · rw [if_pos h2]; simp [h2]
    · rw [if_neg h2]; simp [h2]
def keepF (s t : FSg) (l : List FP) : List FP := l.filter fun p => onF s p && onF t p
theorem keepF_snoc (s t : FSg) (l : List FP) (i : Nat) (h : i < l.length) : keepF s t (l.take (i + 1)) = if onF s l[i] = true ∧ onF t l[i] = true then keepF s t (l.take i) ++ [l[i]] else keepF s t (l.take i) := by
  rw [List.take_succ_eq_append_getElem h]
  unfold keepF
  rw [List.filter_append]
  by_cases h1 : onF s l[i] = true <;> by_cases h2 : onF t l[i] = true <;> simp [h1, h2]
theorem lowestF_snoc (l : List FP) (q : FP) : ∀ p, lowestF p (l ++ [q]) = if cmpP q (lowestF p l) < 0 then q else lowestF p l := by
  induction l with
  | nil => intro p; rfl
  | cons a l ih => intro p; exact ih _
theorem highestF_snoc (l : List FP) (q : FP) : ∀ p, highestF p (l ++ [q]) = if 0 < cmpP q (highestF p l) then q else highestF p l := by
  induction l with
  | nil => intro p; rfl
  | cons a l ih => intro p; exact ih _
theorem lowestF_mem (l : List FP) : ∀ p, lowestF p l = p ∨ lowestF p l ∈ l := by
  induction l with
  | nil => intro p; exact .inl rfl
  | cons a l ih =>
    intro p
    show lowestF (if cmpP a p < 0 then a else p) l = p ∨ lowestF (if cmpP a p < 0 then a else p) l ∈ a :: l
    rcases ih (if cmpP a p < 0 then a else p) with h | h
    · rw [h]; split
      · exact .inr (List.mem_cons_self ..)
      · exact .inl rfl
    · exact .inr (List.mem_cons_of_mem _ h)
theorem highestF_mem (l : List FP) : ∀ p, highestF p l = p ∨ highestF p l ∈ l := by
  induction l with
  | nil => intro p; exact .inl rfl
  | cons a l ih =>
    intro p
    show highestF (if 0 < cmpP a p then a else p) l = p ∨ highestF (if 0 < cmpP a p then a else p) l ∈ a :: l
    rcases ih (if 0 < cmpP a p then a else p) with h | h
    · rw [h]; split
      · exact .inr (List.mem_cons_self ..)
      · exact .inl rfl
    · exact .inr (List.mem_cons_of_mem _ h)
def meetAV (s t : FSg) : AV := if meetF s t = [] then .v (.slice none 0 0) else .own 33 8 (meetF s t).length (ptsC (meetF s t))
open List (map_take map_drop)
attribute [local push_cast] optK_some optK_none optK_ite optK_map optK_bind gOn stepK isMem evPure evMem evBin evUn evConv evLen evBuiltin evMinMax evSlice evBuild evAppend evIndex evIndexAddr evField evFieldAddr intBin strBin appDest AS.val AS.mem AS.elems AS.put AS.put' AS.eff AV.cells? AV.isCell AV.refs all_isByte take_byteV drop_byteV strOf_map bndOk bnd partAV ptrAdd killBox catA inOrder fillA setAt ofVal resB upd byteV List.head?_take List.head?_drop List.getElem?_map mkS_env mkS_box mkS_used entry_env entry_box entry_used lk stepD lookIds Oper.looksAt Op.operands Call.operands St.ids refsL renL_append ren renL renBox Box.refs iV i64V boolV dV_getElem dV_app dV_cons toNat_add2 toNat_add1
attribute [local simp ↓] numC_refs numC_isCell numC_cells numC_resB numC_resD numC_ren numC_closeC numC_isOwn
theorem meet_ok (s t : FSg) (h : szS s + szS t ≤ 1000) : Eval Try.prog 37 [sgAV s, sgAV t] (.ret (meetAV s t)) := by
  refine Eval.intro Try.func37 rfl Try.call37 _ _ (Nat.le_of_ble_eq_true rfl) (by simp [-map_take,-map_drop, AV.refs, refsL, natAV, zAV, zC, ratAV, ratC, ptAV, ptC, sgAV, sgC, push_cast]) fun hs0 => ?_
  obtain ⟨out, hout⟩ : ∃ out, out = meetAV s t := ⟨_, rfl⟩
  rw [← hout]
  unfold szS at h
  have e1 := ptLess_ok s.B s.A (by omega)
  have e2 := ptLess_ok t.B t.A (by omega)
  have e3 := ptLess_ok t.A s.A (by omega)
  have s1 := szV_sub s.B s.A
  have s2 := szV_sub t.B t.A
  have s3 := szV_sub t.A s.A
  have hcr : crossW s.v t.v = (s.B.sub s.A).x.q * (t.B.sub t.A).y.q - (s.B.sub s.A).y.q * (t.B.sub t.A).x.q := rfl
  have hp1 : s.v.part t.v = ((t.A.sub s.A).x.q * (t.B.sub t.A).y.q - (t.A.sub s.A).y.q * (t.B.sub t.A).x.q) / crossW s.v t.v := rfl
  have hp2 : s.v.part2 t.v = ((t.A.sub s.A).x.q * (s.B.sub s.A).y.q - (t.A.sub s.A).y.q * (s.B.sub s.A).x.q) / crossW s.v t.v := rfl
  obtain ⟨u, hu⟩ : ∃ u, u = s.B.sub s.A := ⟨_, rfl⟩
  obtain ⟨v, hv⟩ : ∃ v, v = t.B.sub t.A := ⟨_, rfl⟩
  obtain ⟨w, hw⟩ : ∃ w, w = t.A.sub s.A := ⟨_, rfl⟩
  rw [← hu] at e1 s1 hcr hp2
  rw [← hv] at e2 s2 hcr hp1
  rw [← hw] at e3 s3 hp1 hp2
  obtain ⟨c, hc⟩ : ∃ c, c = crossW s.v t.v := ⟨_, rfl⟩
  rw [← hc] at hcr hp1 hp2
  clear hu hv hw
  obtain ⟨ux, uy⟩ := u
  obtain ⟨vx, vy⟩ := v
  obtain ⟨wx, wy⟩ := w
  simp only [szV] at h s1 s2 s3
  simp only at hcr hp1 hp2
  have q1 := szQ_mul ux.q vy.q
  have q2 := szQ_mul uy.q vx.q
  have q3 := szQ_sub (ux.q * vy.q) (uy.q * vx.q)
  have m1 := mulR_ok ux vy (by omega)
  have m2 := mulR_ok uy vx (by omega)
  have d1 := subR_ok (.of (ux.q * vy.q)) (.of (uy.q * vx.q)) (by simp only [FQ.of]; omega)
  have o1 : (FQ.of (ux.q * vy.q)).q - (FQ.of (uy.q * vx.q)).q = c := hcr.symm
  rw [o1] at d1
  have zc : szQ c ≤ 20000 := by rw [hcr]; omega
  have f1 := signR_ok (.of c) (by simp only [FQ.of]; omega)
  have o2 : (FQ.of c).q.num.sign = c.num.sign := rfl
  rw [o2] at f1
  obtain ⟨i, hi⟩ : ∃ i, i = c.num.sign := ⟨_, rfl⟩
  have hi0 := sign_ne c
  rw [← hi] at f1 hi0
  obtain ⟨C, hC⟩ : ∃ C, C = FQ.of c := ⟨_, rfl⟩
  obtain ⟨r1, hr1⟩ : ∃ r, r = FQ.of (ux.q * vy.q) := ⟨_, rfl⟩
  obtain ⟨r2, hr2⟩ : ∃ r, r = FQ.of (uy.q * vx.q) := ⟨_, rfl⟩
  rw [← hC] at d1 f1
  rw [← hr1] at m1 d1
  rw [← hr2] at m2 d1
  by_cases hc0 : c ≠ 0
  · have g1 : (i = 0) = False := eq_false (fun k => hc0 (hi0.1 k))
    have g2 : (i != 0) = true := by rw [bne_iff_ne]; exact fun k => hc0 (hi0.1 k)
    have q4 := szQ_mul wx.q vy.q
    have q5 := szQ_mul wy.q vx.q
    have q6 := szQ_sub (wx.q * vy.q) (wy.q * vx.q)
    have q7 := szQ_mul wx.q uy.q
    have q8 := szQ_mul wy.q ux.q
    have q9 := szQ_sub (wx.q * uy.q) (wy.q * ux.q)
    have m3 := mulR_ok wx vy (by omega)
    have m4 := mulR_ok wy vx (by omega)
    have m5 := mulR_ok wx uy (by omega)
    have m6 := mulR_ok wy ux (by omega)
    have d2 := subR_ok (.of (wx.q * vy.q)) (.of (wy.q * vx.q)) (by simp only [FQ.of]; omega)
    have d3 := subR_ok (.of (wx.q * uy.q)) (.of (wy.q * ux.q)) (by simp only [FQ.of]; omega)
    obtain ⟨n1, hn1⟩ : ∃ n, n = wx.q * vy.q - wy.q * vx.q := ⟨_, rfl⟩
    obtain ⟨n2, hn2⟩ : ∃ n, n = wx.q * uy.q - wy.q * ux.q := ⟨_, rfl⟩
    have o3 : (FQ.of (wx.q * vy.q)).q - (FQ.of (wy.q * vx.q)).q = n1 := hn1.symm
    have o4 : (FQ.of (wx.q * uy.q)).q - (FQ.of (wy.q * ux.q)).q = n2 := hn2.symm
    rw [o3] at d2
    rw [o4] at d3
    rw [← hn1] at hp1 q6
    rw [← hn2] at hp2 q9
    have hCq : C.q = c := by rw [hC]; rfl
    have hCn : C.q.num ≠ 0 := by rw [hCq]; exact fun k => hc0 (Rat.num_eq_zero.1 k)
    have v1 := divR_ok (.of n1) C hCn (by rw [hCq]; simp only [FQ.of]; omega)
    have v2 := divR_ok (.of n2) C hCn (by rw [hCq]; simp only [FQ.of]; omega)
    rw [hCq] at v1 v2
    have o5 : (FQ.of n1).q / c = s.v.part t.v := hp1.symm
    have o6 : (FQ.of n2).q / c = s.v.part2 t.v := hp2.symm
    rw [o5] at v1
    rw [o6] at v2
    have hm : meetF s t = if s.v.part t.v < 0 ∨ 1 < s.v.part t.v ∨ s.v.part2 t.v < 0 ∨ 1 < s.v.part2 t.v then [] else [s.at (s.v.part t.v)] := by
      unfold meetF
      rw [← hc, if_pos hc0]
    obtain ⟨a, ha⟩ : ∃ a, a = s.v.part t.v := ⟨_, rfl⟩
    obtain ⟨b, hb⟩ : ∃ b, b = s.v.part2 t.v := ⟨_, rfl⟩
    rw [← ha] at hp1 v1
    rw [← hb] at hp2 v2
    rw [← ha, ← hb] at hm
    have za : szQ a ≤ 60000 := by
      rw [hp1, Rat.div_def]
      have h1 := szQ_mul n1 c⁻¹
      have h2 := szQ_inv c
      omega
    have zb : szQ b ≤ 60000 := by
      rw [hp2, Rat.div_def]
      have h1 := szQ_mul n2 c⁻¹
      have h2 := szQ_inv c
      omega
    have z1 : szQ ((1 : Int) : Rat) ≤ 10 := by
      have h3 := limbs_small (n := 1) (by omega)
      show (limbs 1).length + (limbs 1).length ≤ 10
      omega
    have w1 := ofZ_ok 1 (by omega)
    have w2 := whole_ok 1 (by have h3 := limbs_small (n := 1) (by omega); show (limbs 1).length ≤ 1000000; omega)
    have f2 := signR_ok (.of a) (by simp only [FQ.of]; omega)
    have f3 := signR_ok (.of b) (by simp only [FQ.of]; omega)
    have f4 := cmpR_ok (.of a) (.of ((1 : Int) : Rat)) (by simp only [FQ.of]; omega)
    have f5 := cmpR_ok (.of b) (.of ((1 : Int) : Rat)) (by simp only [FQ.of]; omega)
    have k2 := sign_lt a
    have k3 := sign_lt b
    have k4 := cmp_gt a ((1 : Int) : Rat)
    have k5 := cmp_gt b ((1 : Int) : Rat)
    have o7 : (FQ.of a).q.num.sign = a.num.sign := rfl
    have o8 : (FQ.of b).q.num.sign = b.num.sign := rfl
    rw [o7] at f2
    rw [o8] at f3
    have o9 : cmpZ ((FQ.of a).q.num * (FQ.of ((1 : Int) : Rat)).q.den) ((FQ.of ((1 : Int) : Rat)).q.num * (FQ.of a).q.den) = cmpZ (a.num * ((1 : Int) : Rat).den) (((1 : Int) : Rat).num * a.den) := rfl
    have o10 : cmpZ ((FQ.of b).q.num * (FQ.of ((1 : Int) : Rat)).q.den) ((FQ.of ((1 : Int) : Rat)).q.num * (FQ.of b).q.den) = cmpZ (b.num * ((1 : Int) : Rat).den) (((1 : Int) : Rat).num * b.den) := rfl
    rw [o9] at f4
    rw [o10] at f5
    have one : ((1 : Int) : Rat) = 1 := rfl
    obtain ⟨x2, hx2⟩ : ∃ x, x = a.num.sign := ⟨_, rfl⟩
    obtain ⟨x3, hx3⟩ : ∃ x, x = b.num.sign := ⟨_, rfl⟩
    obtain ⟨x4, hx4⟩ : ∃ x, x = cmpZ (a.num * ((1 : Int) : Rat).den) (((1 : Int) : Rat).num * a.den) := ⟨_, rfl⟩
    obtain ⟨x5, hx5⟩ : ∃ x, x = cmpZ (b.num * ((1 : Int) : Rat).den) (((1 : Int) : Rat).num * b.den) := ⟨_, rfl⟩
    rw [← hx2] at f2 k2
    rw [← hx3] at f3 k3
    rw [← hx4] at f4 k4
    rw [← hx5] at f5 k5
    rw [one] at k4 k5
    have f6 := at_ok s (.of a) (by simp only [szV]; omega) (by simp only [FQ.of]; omega)
    have o11 : s.at (FQ.of a).q = s.at a := rfl
    rw [o11] at f6
    obtain ⟨P, hP⟩ : ∃ P, P = s.at a := ⟨_, rfl⟩
    rw [← hP] at f6 hm
    obtain ⟨A, hA⟩ : ∃ A, A = FQ.of a := ⟨_, rfl⟩
    obtain ⟨B, hB⟩ : ∃ B, B = FQ.of b := ⟨_, rfl⟩
    obtain ⟨O, hO⟩ : ∃ O, O = FQ.of ((1 : Int) : Rat) := ⟨_, rfl⟩
    obtain ⟨N1, hN1⟩ : ∃ r, r = FQ.of n1 := ⟨_, rfl⟩
    obtain ⟨N2, hN2⟩ : ∃ r, r = FQ.of n2 := ⟨_, rfl⟩
    obtain ⟨r3, hr3⟩ : ∃ r, r = FQ.of (wx.q * vy.q) := ⟨_, rfl⟩
    obtain ⟨r4, hr4⟩ : ∃ r, r = FQ.of (wy.q * vx.q) := ⟨_, rfl⟩
    obtain ⟨r5, hr5⟩ : ∃ r, r = FQ.of (wx.q * uy.q) := ⟨_, rfl⟩
    obtain ⟨r6, hr6⟩ : ∃ r, r = FQ.of (wy.q * ux.q) := ⟨_, rfl⟩
    rw [← hA] at v1 f2 f4 f6
    rw [← hB] at v2 f3 f5
    rw [← hO] at w2 f4 f5
    rw [← hN1] at d2 v1
    rw [← hN2] at d3 v2
    rw [← hr3] at m3 d2
    rw [← hr4] at m4 d2
    rw [← hr5] at m5 d3
    rw [← hr6] at m6 d3
    clear hA hB hO hN1 hN2 hr3 hr4 hr5 hr6 hP hx2 hx3 hx4 hx5 o1 o2 o3 o4 o5 o6 o7 o8 o9 o10 o11 q1 q2 q3 q4 q5 q6 q7 q8 q9 hp1 hp2 hcr hc za zb z1 zc hC hr1 hr2 hi hi0 s1 s2 s3 ha hb hn1 hn2 one
    repeat' (first
      | with_reducible first | apply thenW_n | apply W_seq
      | with_reducible refine W_rg ?_
      | (rw [vcn]; (try simp [-map_take,-map_drop, push_cast, sgAV, sgC, ptC, ratC, zC]))
      | with_reducible refine W_drawn mixed (by decide) (by kernel_rfl) ?_
      | (rw [vcnD]; (try simp [-map_take,-map_drop, push_cast, sgAV, sgC, ptC, ratC, zC]))
      | fail)
    refine callD_of (e1) rfl rfl rfl ?_
    try dsimp only
    repeat' (first
      | (rw [vcnD]; (try simp [-map_take,-map_drop, push_cast, ptAV, sgC, ptC, ratC, zC]))
      | fail)
    refine callD_of (e2) rfl rfl rfl ?_
    try dsimp only
    repeat' (first
      | with_reducible first | apply thenW_n | apply W_seq
      | with_reducible refine W_drawn mixed (by decide) (by kernel_rfl) ?_
      | (rw [vcnD]; (try simp [-map_take,-map_drop, push_cast, ptAV, sgC, ptC, ratC, zC]))
      | refine And.intro (by first | omega | kernel_rfl) ?_
      | fail)
    refine callD_of (m1) rfl rfl rfl ?_
    try dsimp only
    repeat' (first
      | (rw [vcnD]; (try simp [-map_take,-map_drop, push_cast, ratAV, ptC, ratC, zC]))
      | fail)
    refine callD_of (m2) rfl rfl rfl ?_
    try dsimp only
    repeat' (first
      | (rw [vcnD]; (try simp [-map_take,-map_drop, push_cast, ratAV, ptC, ratC, zC]))
      | fail)
    refine callD_of (d1) rfl rfl rfl ?_
    try dsimp only
    repeat' (first
      | with_reducible first | apply thenW_n | apply W_seq
      | with_reducible refine W_rg ?_
      | (rw [vcn]; (try simp [-map_take,-map_drop, push_cast, ratAV, ptC, ratC, zC]))
      | (rw [vcnD]; (try simp [-map_take,-map_drop, push_cast, ratAV, ptC, ratC, zC]))
      | refine And.intro (by first | omega | kernel_rfl) ?_
      | fail)
    refine CallG_of (f1) rfl rfl rfl ?_
    try dsimp only
    repeat' (first
      | with_reducible first | apply thenW_n | apply W_seq
      | with_reducible refine W_rg ?_
      | (rw [vcn]; (try simp [-map_take,-map_drop, push_cast, g1, g2, ptAV, sgC, ptC, ratC, zC]))
      | (with_reducible refine W_condW ?_; (try simp [-map_take,-map_drop, AS.val, upd, resB, mkS_env, mkS_box, lk, entry_env, condW_true, condW_false, g1, g2, ptAV, sgC, ptC, ratC, zC]))
      | fail)
    refine CallG_of (e3) rfl rfl rfl ?_
    try dsimp only
    repeat' (first
      | with_reducible first | apply thenW_n | apply W_seq
      | (rw [vcn]; (try simp [-map_take,-map_drop, push_cast, ptAV, ptC, ratC, zC]))
      | with_reducible refine W_drawn mixed (by decide) (by kernel_rfl) ?_
      | (rw [vcnD]; (try simp [-map_take,-map_drop, push_cast, ptAV, ptC, ratC, zC]))
      | fail)
    refine callD_of (m3) rfl rfl rfl ?_
    try dsimp only
    repeat' (first
      | (rw [vcnD]; (try simp [-map_take,-map_drop, push_cast, ratAV, ptC, ratC, zC]))
      | fail)
    refine callD_of (m4) rfl rfl rfl ?_
    try dsimp only
    repeat' (first
      | (rw [vcnD]; (try simp [-map_take,-map_drop, push_cast, ratAV, ptC, ratC, zC]))
      | fail)
    refine callD_of (d2) rfl rfl rfl ?_
    try dsimp only
    repeat' (first
      | (rw [vcnD]; (try simp [-map_take,-map_drop, push_cast, ratAV, ptC, ratC, zC]))
      | fail)
    refine callD_of (v1) rfl rfl rfl ?_
    try dsimp only
    repeat' (first
      | with_reducible first | apply thenW_n | apply W_seq
      | with_reducible refine W_drawn mixed (by decide) (by kernel_rfl) ?_
      | (rw [vcnD]; (try simp [-map_take,-map_drop, push_cast, ratAV, ptC, ratC, zC]))
      | refine And.intro (by first | omega | kernel_rfl) ?_
      | fail)
    refine callD_of (m5) rfl rfl rfl ?_
    try dsimp only
    repeat' (first
      | (rw [vcnD]; (try simp [-map_take,-map_drop, push_cast, ratAV, ptC, ratC, zC]))
      | fail)
    refine callD_of (m6) rfl rfl rfl ?_
    try dsimp only
    repeat' (first
      | (rw [vcnD]; (try simp [-map_take,-map_drop, push_cast, ratAV, ptC, ratC, zC]))
      | fail)
    refine callD_of (d3) rfl rfl rfl ?_
    try dsimp only
    repeat' (first
      | (rw [vcnD]; (try simp [-map_take,-map_drop, push_cast, ratAV, ptC, ratC, zC]))
      | fail)
    refine callD_of (v2) rfl rfl rfl ?_
    try dsimp only
    repeat' (first
      | with_reducible first | apply thenW_n | apply W_seq
      | with_reducible refine W_rg ?_
      | (rw [vcn]; (try simp [-map_take,-map_drop, push_cast, ratAV, ptC, ratC, zC]))
      | (rw [vcnD]; (try simp [-map_take,-map_drop, push_cast, ratAV, ptC, ratC, zC]))
      | refine And.intro (by first | omega | kernel_rfl) ?_
      | fail)
    refine CallG_of (w1) rfl rfl rfl ?_
    try dsimp only
    repeat' (first
      | (rw [vcn]; (try simp [-map_take,-map_drop, push_cast]))
      | fail)
    refine CallG_of (w2) rfl rfl rfl ?_
    try dsimp only
    repeat' (first
      | with_reducible first | apply thenW_n | apply W_seq
      | with_reducible refine W_rg ?_
      | (rw [vcn]; (try simp [-map_take,-map_drop, push_cast, ratAV, ratC, zC]))
      | fail)
    refine CallG_of (f2) rfl rfl rfl ?_
    try dsimp only
    by_cases c2 : a < 0
    · have y2 : (x2 < 0) = True := eq_true (k2.2 c2)
      have ho : out = .v (.slice none 0 0) := by rw [hout, meetAV, hm, if_pos (Or.inl c2), if_pos rfl]
      repeat' (first
        | with_reducible first | apply thenW_n | apply thenW_ret | apply W_seq | apply W_ret
        | with_reducible refine W_rg ?_
        | (rw [vcn]; (try simp [-map_take,-map_drop, push_cast, y2]))
        | (with_reducible refine W_condW ?_; (try simp [-map_take,-map_drop, AS.val, upd, resB, mkS_env, mkS_box, lk, entry_env, condW_true, condW_false, y2]))
        | fail)
      simp [-map_take,-map_drop, post, resAV, resAll, resOne, closeV, closeC, closeL, resD, resDL, push_cast, ho]
    have y2 : (x2 < 0) = False := eq_false (fun k => c2 (k2.1 k))
    repeat' (first
      | (rw [vcn]; (try simp [-map_take,-map_drop, push_cast, y2, ratAV, ratC, zC]))
      | fail)
    refine CallG_of (f4) rfl rfl rfl ?_
    try dsimp only
    by_cases c4 : 1 < a
    · have y4 : (0 < x4) = True := eq_true (k4.2 c4)
      have ho : out = .v (.slice none 0 0) := by rw [hout, meetAV, hm, if_pos (Or.inr (Or.inl c4)), if_pos rfl]
      repeat' (first
        | with_reducible first | apply thenW_n | apply thenW_ret | apply W_seq | apply W_ret
        | with_reducible refine W_rg ?_
        | (rw [vcn]; (try simp [-map_take,-map_drop, push_cast, y4]))
        | (with_reducible refine W_condW ?_; (try simp [-map_take,-map_drop, AS.val, upd, resB, mkS_env, mkS_box, lk, entry_env, condW_true, condW_false, y4]))
        | fail)
      simp [-map_take,-map_drop, post, resAV, resAll, resOne, closeV, closeC, closeL, resD, resDL, push_cast, ho]
    have y4 : (0 < x4) = False := eq_false (fun k => c4 (k4.1 k))
    repeat' (first
      | (rw [vcn]; (try simp [-map_take,-map_drop, push_cast, y4, ratAV, ratC, zC]))
      | fail)
    refine CallG_of (f3) rfl rfl rfl ?_
    try dsimp only
    by_cases c3 : b < 0
    · have y3 : (x3 < 0) = True := eq_true (k3.2 c3)
      have ho : out = .v (.slice none 0 0) := by rw [hout, meetAV, hm, if_pos (Or.inr (Or.inr (Or.inl c3))), if_pos rfl]
      repeat' (first
        | with_reducible first | apply thenW_n | apply thenW_ret | apply W_seq | apply W_ret
        | with_reducible refine W_rg ?_
        | (rw [vcn]; (try simp [-map_take,-map_drop, push_cast, y3]))
        | (with_reducible refine W_condW ?_; (try simp [-map_take,-map_drop, AS.val, upd, resB, mkS_env, mkS_box, lk, entry_env, condW_true, condW_false, y3]))
        | fail)
      simp [-map_take,-map_drop, post, resAV, resAll, resOne, closeV, closeC, closeL, resD, resDL, push_cast, ho]
    have y3 : (x3 < 0) = False := eq_false (fun k => c3 (k3.1 k))
    repeat' (first
      | (rw [vcn]; (try simp [-map_take,-map_drop, push_cast, y3, ratAV, ratC, zC]))
      | fail)
    refine CallG_of (f5) rfl rfl rfl ?_
    try dsimp only
    by_cases c5 : 1 < b
    · have y5 : (0 < x5) = True := eq_true (k5.2 c5)
      have ho : out = .v (.slice none 0 0) := by rw [hout, meetAV, hm, if_pos (Or.inr (Or.inr (Or.inr c5))), if_pos rfl]
      repeat' (first
        | with_reducible first | apply thenW_n | apply thenW_ret | apply W_seq | apply W_ret
        | with_reducible refine W_rg ?_
        | (rw [vcn]; (try simp [-map_take,-map_drop, push_cast, y5]))
        | (with_reducible refine W_condW ?_; (try simp [-map_take,-map_drop, AS.val, upd, resB, mkS_env, mkS_box, lk, entry_env, condW_true, condW_false, y5]))
        | fail)
      simp [-map_take,-map_drop, post, resAV, resAll, resOne, closeV, closeC, closeL, resD, resDL, push_cast, ho]
    have y5 : (0 < x5) = False := eq_false (fun k => c5 (k5.1 k))
    have hm2 : meetF s t = [P] := by rw [hm, if_neg (fun h => h.elim c2 (fun h => h.elim c4 (fun h => h.elim c3 c5)))]
    have ho : out = .own 33 8 1 (ptC P) := by
      rw [hout, meetAV, hm2, if_neg (by simp [-map_take,-map_drop])]
      simp [-map_take,-map_drop, ptsC]
    repeat' (first
      | with_reducible first | apply thenW_n | apply W_seq | apply W_skip
      | with_reducible refine W_rg ?_
      | (rw [vcn]; (try simp [-map_take,-map_drop, push_cast, y5, sgC, ptC, ratAV, ratC, zC]))
      | (with_reducible refine W_condW ?_; (try simp [-map_take,-map_drop, AS.val, upd, resB, mkS_env, mkS_box, lk, entry_env, condW_true, condW_false, y5, sgC, ptC, ratAV, ratC, zC]))
      | fail)
    refine CallG_of (f6) rfl rfl rfl ?_
    try dsimp only
    repeat' (first
      | with_reducible first | apply thenW_n | apply thenW_ret | apply W_ret
      | (rw [vcn]; (try simp [-map_take,-map_drop, push_cast, ptAV, ptC, ratC, zC]))
      | fail)
    simp [-map_take,-map_drop, post, resAV, resAll, resOne, closeV, closeC, closeL, resD, resDL, push_cast, ho, ptC, ratC, zC]
  have hc0 : c = 0 := by
    by_cases k : c = 0
    · exact k
    · exact absurd k hc0
  have g1 : (i = 0) = True := eq_true (hi0.2 hc0)
  have hi00 : i = 0 := hi0.2 hc0
  subst hi00
  have hm : meetF s t = endsF (bothF s t) := by
    unfold meetF
    rw [← hc, hc0, if_neg (by simp [-map_take,-map_drop])]
  obtain ⟨Q, hQ⟩ : ∃ Q : List FP, Q = [s.A, s.B, t.A, t.B] := ⟨_, rfl⟩
  have hQ4 : Q.length = 4 := by rw [hQ]; rfl
  have hQs : ∀ p ∈ Q, szV p ≤ 1000 := by
    intro p hp
    rw [hQ] at hp
    simp only [List.mem_cons, List.not_mem_nil, or_false] at hp
    unfold szV
    rcases hp with rfl | rfl | rfl | rfl <;> omega
  have hbo : bothF s t = keepF s t Q := by rw [hQ]; rfl
  have hst : szS s + szS t ≤ 1000 := by unfold szS szV; omega
  clear hC hr1 hr2 hcr hc q1 q2 q3 hp1 hp2 zc o1 o2 s1 s2 s3
  repeat' (first
    | with_reducible first | apply thenW_n | apply W_seq
    | with_reducible refine W_rg ?_
    | (rw [vcn]; (try simp [-map_take,-map_drop, push_cast, sgAV, sgC, ptC, ratC, zC]))
    | with_reducible refine W_drawn mixed (by decide) (by kernel_rfl) ?_
    | (rw [vcnD]; (try simp [-map_take,-map_drop, push_cast, sgAV, sgC, ptC, ratC, zC]))
    | fail)
  refine callD_of (e1) rfl rfl rfl ?_
  try dsimp only
  repeat' (first
    | (rw [vcnD]; (try simp [-map_take,-map_drop, push_cast, ptAV, sgC, ptC, ratC, zC]))
    | fail)
  refine callD_of (e2) rfl rfl rfl ?_
  try dsimp only
  repeat' (first
    | with_reducible first | apply thenW_n | apply W_seq
    | with_reducible refine W_drawn mixed (by decide) (by kernel_rfl) ?_
    | (rw [vcnD]; (try simp [-map_take,-map_drop, push_cast, ptAV, sgC, ptC, ratC, zC]))
    | refine And.intro (by first | omega | kernel_rfl) ?_
    | fail)
  refine callD_of (m1) rfl rfl rfl ?_
  try dsimp only
  repeat' (first
    | (rw [vcnD]; (try simp [-map_take,-map_drop, push_cast, ratAV, ptC, ratC, zC]))
    | fail)
  refine callD_of (m2) rfl rfl rfl ?_
  try dsimp only
  repeat' (first
    | (rw [vcnD]; (try simp [-map_take,-map_drop, push_cast, ratAV, ptC, ratC, zC]))
    | fail)
  refine callD_of (d1) rfl rfl rfl ?_
  try dsimp only
  repeat' (first
    | with_reducible first | apply thenW_n | apply W_seq
    | with_reducible refine W_rg ?_
    | (rw [vcn]; (try simp [-map_take,-map_drop, push_cast, ratAV, ptC, ratC, zC]))
    | (rw [vcnD]; (try simp [-map_take,-map_drop, push_cast, ratAV, ptC, ratC, zC]))
    | refine And.intro (by first | omega | kernel_rfl) ?_
    | fail)
  refine CallG_of (f1) rfl rfl rfl ?_
  try dsimp only
  repeat' (first
    | with_reducible first | apply thenW_n | apply W_seq | apply W_skip
    | with_reducible refine W_rg ?_
    | (rw [vcn]; (try simp [-map_take,-map_drop, push_cast, ptAV, sgC, ptC, ratC, zC]))
    | (with_reducible refine W_condW ?_; (try simp [-map_take,-map_drop, AS.val, upd, resB, mkS_env, mkS_box, lk, entry_env, condW_true, condW_false, ptAV, sgC, ptC, ratC, zC]))
    | fail)
  obtain ⟨M, hM⟩ : ∃ M, M = bothF s t := ⟨_, rfl⟩
  obtain ⟨R, hR⟩ : ∃ R, R = ptsC Q := ⟨_, rfl⟩
  have hRr : refsL R = [] := by rw [hR]; exact ptsC_refs _
  have hRn : ∀ ρ, renL ρ R = R := fun ρ => renL_id ρ _ hRr
  have hRl : R.length = 32 := by rw [hR, ptsC_len, hQ4]
  have hR2 : ptsC Q = R := hR.symm
  have hat : ∀ i (h : i < Q.length), ∃ t, R.drop (i * 8) = ptC Q[i] ++ t := by rw [hR]; exact ptsC_at Q
  have hpr := ptsC_refs
  have hpn : ∀ ρ l, renL ρ (ptsC l) = ptsC l := fun ρ l => renL_id ρ _ (ptsC_refs l)
  refine W_joinQ (X := Unit) (fun _ => [(14, .bs 500 8 0 M.length)]) (fun _ => [(500, .mut 33 (ptsC M))]) (fun _ => True) ?_ fun _ _ => ?_
  · refine W_nil 14 500 33 8 (by simp [-map_take,-map_drop, upd, mkS_env, entry_env, lk]) (by simp [-map_take,-map_drop, mkS_used, entry_used]) ?_
    repeat' (first
      | with_reducible apply W_block
      | fail)
    refine W_loopW (X := Nat) (fun i => [(2, .bp 2 0), (3, .bp 3 0), (14, .bs 500 8 0 (keepF s t (Q.take i)).length), (116, .bs 116 8 0 4), (117, i64V 4), (118, i64V i)])
      (fun i => [(2, .mut 73 (sgC s)), (3, .mut 73 (sgC t)), (116, .mut 33 R), (500, .mut 33 (ptsC (keepF s t (Q.take i))))]) (fun i => 4 - i)
      (fun i => i ≤ 4) 0 id (by omega) ⟨?_, ?_, ?_, ?_, ?_, ?_⟩ fun i hi => ?_
    all_goals first | (with_reducible refine W_id ?_) | (simp [-map_take,-map_drop, push_cast, dV_take, dV_drop, hRr, hRn, sgC, ptC, ratC, zC, ptsC, hQ, hR, keepF]; done)
    by_cases hlt : ¬ i < 4
    · have y1 : (i < 4) = False := eq_false hlt
      have y2 : ((i : Int) < 4) = False := eq_false (by omega)
      have e : keepF s t (Q.take i) = M := by rw [List.take_of_length_le (by omega), hM, hbo]
      rw [e]
      repeat' (first
        | with_reducible first | apply thenW_n | apply thenW_exit | apply blockW_same | apply loopW_exit | apply W_seq | apply W_exit
        | with_reducible refine W_rg ?_
        | (rw [vcn]; (try simp [-map_take,-map_drop, push_cast, y1, y2]))
        | (with_reducible refine W_condW ?_; (try simp [-map_take,-map_drop, AS.val, upd, resB, mkS_env, mkS_box, lk, entry_env, condW_true, condW_false, y1, y2]))
        | fail)
      refine joinW_n () id trivial ⟨?_, ?_, ?_, ?_, ?_, ?_⟩
      all_goals first | (simp [-map_take,-map_drop, push_cast, dV_take, dV_drop, hpr, hpn]; done)
    have hlt : i < 4 := by omega
    have y1 : (i < 4) = True := eq_true hlt
    have y2 : ((i : Int) < 4) = True := eq_true (by omega)
    obtain ⟨t1, ht1⟩ := hat i (by omega)
    have hks := keepF_snoc s t Q i (by omega)
    have hps := hQs (Q[i]'(by omega)) (List.getElem_mem _)
    have hkl : (keepF s t (Q.take i)).length ≤ 4 := Nat.le_trans (List.length_filter_le ..) (by rw [List.length_take]; omega)
    obtain ⟨p, hp⟩ : ∃ p, p = Q[i]'(by omega) := ⟨_, rfl⟩
    rw [← hp] at ht1 hks hps
    have o1 := on_ok s p (by omega)
    have o2 := on_ok t p (by omega)
    obtain ⟨b1, hb1⟩ : ∃ b, b = onF s p := ⟨_, rfl⟩
    obtain ⟨b2, hb2⟩ : ∃ b, b = onF t p := ⟨_, rfl⟩
    rw [← hb1] at o1 hks
    rw [← hb2] at o2 hks
    have tl1 := congrArg List.length ht1
    rw [List.length_drop, hRl, List.length_append, ptC_len] at tl1
    obtain ⟨K, hK⟩ : ∃ K, K = keepF s t (Q.take i) := ⟨_, rfl⟩
    rw [← hK] at hks hkl
    simp only [← hK]
    have hsn := ptsC_snoc K p
    have hKl := ptsC_len K
    obtain ⟨N, hN⟩ : ∃ N, N = ptsC K := ⟨_, rfl⟩
    have hNr : refsL N = [] := by rw [hN]; exact hpr _
    have hNn : ∀ ρ, renL ρ N = N := fun ρ => renL_id ρ _ hNr
    have hNK : ptsC K = N := hN.symm
    rw [← hN] at hsn hKl
    simp only [← hN]
    clear hK hN hp hb1 hb2
    cases b1 with
    | false =>
      rw [if_neg (by simp [-map_take,-map_drop])] at hks
      repeat' (first
        | with_reducible first | apply thenW_n | apply W_seq | apply W_block | apply W_skip
        | with_reducible refine W_rg ?_
        | (rw [vcn]; (try simp [-map_take,-map_drop, push_cast, y1, y2, ht1, hRl, hlt, sgC, ptC, ratC, zC]))
        | (with_reducible refine W_condW ?_; (try simp [-map_take,-map_drop, AS.val, upd, resB, mkS_env, mkS_box, lk, entry_env, condW_true, condW_false, y1, y2, ht1, hRl, hlt, sgC, ptC, ratC, zC]))
        | fail)
      refine CallG_of (o1) rfl rfl rfl ?_
      try dsimp only
      repeat' (first
        | with_reducible first | apply thenW_n | apply blockW_n | apply W_skip
        | with_reducible refine W_rg ?_
        | (rw [vcn]; (try simp [-map_take,-map_drop, push_cast]); try simp (disch := omega) only [i64_in, u64_in, shr64i])
        | (with_reducible refine W_condW ?_; (try simp [-map_take,-map_drop, AS.val, upd, resB, mkS_env, mkS_box, lk, entry_env, condW_true, condW_false]))
        | fail)
      refine loopW_n (i + 1) id (by omega) (by omega) ⟨?_, ?_, ?_, ?_, ?_, ?_⟩
      all_goals first | (simp [-map_take,-map_drop, push_cast, dV_take, dV_drop, hRr, hRn, hNr, hNn, hks, hNK, sgC, ptC, ratC, zC]; done)
    | true =>
      cases b2 with
      | false =>
        rw [if_neg (by simp [-map_take,-map_drop])] at hks
        repeat' (first
          | with_reducible first | apply thenW_n | apply W_seq | apply W_block | apply W_skip
          | with_reducible refine W_rg ?_
          | (rw [vcn]; (try simp [-map_take,-map_drop, push_cast, y1, y2, ht1, hRl, hlt, sgC, ptC, ratC, zC]))
          | (with_reducible refine W_condW ?_; (try simp [-map_take,-map_drop, AS.val, upd, resB, mkS_env, mkS_box, lk, entry_env, condW_true, condW_false, y1, y2, ht1, hRl, hlt, sgC, ptC, ratC, zC]))
          | fail)
        refine CallG_of (o1) rfl rfl rfl ?_
        try dsimp only
        repeat' (first
          | (rw [vcn]; (try simp [-map_take,-map_drop, push_cast, sgC, ptC, ratC, zC]))
          | fail)
        refine CallG_of (o2) rfl rfl rfl ?_
        try dsimp only
        repeat' (first
          | with_reducible first | apply thenW_n | apply blockW_n | apply W_skip
          | with_reducible refine W_rg ?_
          | (rw [vcn]; (try simp [-map_take,-map_drop, push_cast]); try simp (disch := omega) only [i64_in, u64_in, shr64i])
          | (with_reducible refine W_condW ?_; (try simp [-map_take,-map_drop, AS.val, upd, resB, mkS_env, mkS_box, lk, entry_env, condW_true, condW_false]))
          | fail)
        refine loopW_n (i + 1) id (by omega) (by omega) ⟨?_, ?_, ?_, ?_, ?_, ?_⟩
        all_goals first | (simp [-map_take,-map_drop, push_cast, dV_take, dV_drop, hRr, hRn, hNr, hNn, hks, hNK, sgC, ptC, ratC, zC]; done)
      | true =>
        rw [if_pos ⟨rfl, rfl⟩] at hks
        repeat' (first
          | with_reducible first | apply thenW_n | apply W_seq | apply W_block | apply W_skip
          | with_reducible refine W_rg ?_
          | (rw [vcn]; (try simp [-map_take,-map_drop, push_cast, y1, y2, ht1, hRl, hlt, sgC, ptC, ratC, zC]))
          | (with_reducible refine W_condW ?_; (try simp [-map_take,-map_drop, AS.val, upd, resB, mkS_env, mkS_box, lk, entry_env, condW_true, condW_false, y1, y2, ht1, hRl, hlt, sgC, ptC, ratC, zC]))
          | fail)
        refine CallG_of (o1) rfl rfl rfl ?_
        try dsimp only
        repeat' (first
          | (rw [vcn]; (try simp [-map_take,-map_drop, push_cast, sgC, ptC, ratC, zC]))
          | fail)
        refine CallG_of (o2) rfl rfl rfl ?_
        try dsimp only
        repeat' (first
          | with_reducible first | apply thenW_n | apply blockW_n
          | with_reducible refine W_rg ?_
          | (rw [vcn]; (try simp [-map_take,-map_drop, push_cast, sgC, ptC, ratC, zC, hKl]); try simp (disch := omega) only [i64_in, u64_in, shr64i])
          | (with_reducible refine W_condW ?_; (try simp [-map_take,-map_drop, AS.val, upd, resB, mkS_env, mkS_box, lk, entry_env, condW_true, condW_false, sgC, ptC, ratC, zC, hKl]))
          | refine And.intro (by first | omega | kernel_rfl) ?_
          | fail)
        refine loopW_n (i + 1) (fun i => if i = 500 then 133 else i) (by omega) (by omega) ⟨?_, ?_, ?_, ?_, ?_, ?_⟩
        all_goals first | (simp [-map_take,-map_drop, push_cast, dV_take, dV_drop, hRr, hRn, hNr, hNn, hks, hsn, sgC, ptC, ratC, zC]; done) | (simp [-map_take,-map_drop, push_cast, dV_take, dV_drop, hRr, hRn, hNr, hNn, hks, hsn, sgC, ptC, ratC, zC]; omega)
  have hMs : ∀ p ∈ M, szV p ≤ 1000 := by
    intro p hp
    rw [hM, hbo] at hp
    exact hQs p (List.mem_filter.1 hp).1
  have hM4 : M.length ≤ 4 := by rw [hM, hbo]; exact Nat.le_trans (List.length_filter_le ..) (by omega)
  rw [← hM] at hm
  clear hat hQs hbo hQ hM hR hRr hRn hRl hR2 f1 m1 m2 d1 e1 e2 e3
  cases M with
  | nil =>
    have ho : out = .v (.slice none 0 0) := by rw [hout, meetAV, hm]; rfl
    repeat' (first
      | with_reducible first | apply thenW_n | apply thenW_ret | apply W_seq | apply W_ret
      | with_reducible refine W_rg ?_
      | (rw [vcn]; (try simp [-map_take,-map_drop, push_cast]))
      | (with_reducible refine W_condW ?_; (try simp [-map_take,-map_drop, AS.val, upd, resB, mkS_env, mkS_box, lk, entry_env, condW_true, condW_false]))
      | fail)
    simp [-map_take,-map_drop, post, resAV, resAll, resOne, closeV, closeC, closeL, resD, resDL, push_cast, ho]
  | cons p0 M' =>
    obtain ⟨Z, hZ⟩ : ∃ Z, Z = p0 :: M' := ⟨_, rfl⟩
    have hm2 : meetF s t = if cmpP (lowestF p0 Z) (highestF p0 Z) = 0 then [lowestF p0 Z] else [lowestF p0 Z, highestF p0 Z] := by rw [hm, hZ]; rfl
    have hZ1 : 0 < Z.length := by rw [hZ]; simp [-map_take,-map_drop]
    have hp0 : p0 ∈ Z := by rw [hZ]; simp [-map_take,-map_drop]
    have hN0 : (ptsC Z).take 8 = ptC p0 := by rw [hZ]; exact List.take_left' rfl
    rw [← hZ] at hMs hM4 ⊢
    have hat := ptsC_at Z
    have hNl := ptsC_len Z
    have hNr := hpr Z
    have hlz : ∀ l, (∀ q ∈ l, q ∈ Z) → szV (lowestF p0 l) ≤ 1000 := by
      intro l hl
      rcases lowestF_mem l p0 with h | h
      · rw [h]; exact hMs _ hp0
      · exact hMs _ (hl _ h)
    have hhz : ∀ l, (∀ q ∈ l, q ∈ Z) → szV (highestF p0 l) ≤ 1000 := by
      intro l hl
      rcases highestF_mem l p0 with h | h
      · rw [h]; exact hMs _ hp0
      · exact hMs _ (hl _ h)
    clear hm hZ M'
    obtain ⟨n, hn⟩ : ∃ n, n = Z.length := ⟨_, rfl⟩
    obtain ⟨N, hN⟩ : ∃ N, N = ptsC Z := ⟨_, rfl⟩
    rw [← hN] at hat hNl hNr hN0
    rw [← hn] at hNl hZ1 hM4
    simp only [← hn, ← hN]
    have hNn : ∀ ρ, renL ρ N = N := fun ρ => renL_id ρ _ hNr
    have y1 : (n = 0) = False := eq_false (by omega)
    have y2 : ((n : Int) = 0) = False := eq_false (by omega)
    have y5 : ((n : Int) == 0) = false := by rw [beq_eq_false_iff_ne]; omega
    repeat' (first
      | with_reducible first | apply thenW_n | apply W_seq | apply W_block | apply W_skip
      | with_reducible refine W_rg ?_
      | (rw [vcn]; (try simp [-map_take,-map_drop, push_cast, y1, y2, y5, hN0, hNl, hZ1, ptC, ratC, zC]))
      | with_reducible refine W_drawn mixed (by decide) (by kernel_rfl) ?_
      | (rw [vcnD]; (try simp [-map_take,-map_drop, push_cast, y1, y2, y5, hN0, hNl, hZ1, ptC, ratC, zC]))
      | (with_reducible refine W_condW ?_; (try simp [-map_take,-map_drop, AS.val, upd, resB, mkS_env, mkS_box, lk, entry_env, condW_true, condW_false, y1, y2, y5, hN0, hNl, hZ1, ptC, ratC, zC]))
      | refine And.intro (by first | omega | kernel_rfl) ?_
      | fail)
    refine W_loopW (X := Nat) (fun j => [(14, .bs 500 8 0 n), (17, .bp 17 0), (18, .bp 18 0), (144, .bs 500 8 0 n), (145, i64V n), (146, i64V j)])
      (fun j => [(17, .mut 33 (ptC (lowestF p0 (Z.take j)))), (18, .mut 33 (ptC (highestF p0 (Z.take j)))), (500, .mut 33 N)]) (fun j => n - j)
      (fun j => j ≤ n) 0 id (Nat.zero_le _) ⟨?_, ?_, ?_, ?_, ?_, ?_⟩ fun j hj => ?_
    all_goals first | (with_reducible refine W_id ?_) | (simp [-map_take,-map_drop, push_cast, dV_take, dV_drop, hNr, hNn, ptC, ratC, zC, lowestF, highestF]; done)
    by_cases hlt : ¬ j < n
    · have y3 : (j < n) = False := eq_false hlt
      have e : Z.take j = Z := List.take_of_length_le (by omega)
      rw [e]
      have k1 := cmpP_ok (lowestF p0 Z) (highestF p0 Z) (by have := hlz Z (fun _ h => h); have := hhz Z (fun _ h => h); omega)
      obtain ⟨low, hlow⟩ : ∃ l, l = lowestF p0 Z := ⟨_, rfl⟩
      obtain ⟨high, hhigh⟩ : ∃ l, l = highestF p0 Z := ⟨_, rfl⟩
      rw [← hlow, ← hhigh] at k1 hm2
      simp only [← hlow, ← hhigh]
      by_cases hk : cmpP low high = 0
      · have ho : out = .own 33 8 1 (ptC low) := by
          rw [if_pos hk] at hm2
          rw [hout, meetAV, hm2, if_neg (by simp [-map_take,-map_drop])]
          simp [-map_take,-map_drop, ptsC]
        rw [hk] at k1
        repeat' (first
          | with_reducible first | apply thenW_n | apply thenW_exit | apply blockW_same | apply loopW_exit | apply W_seq | apply W_exit
          | with_reducible refine W_rg ?_
          | (rw [vcn]; (try simp [-map_take,-map_drop, push_cast, y3, ptC, ratC, zC]))
          | (with_reducible refine W_condW ?_; (try simp [-map_take,-map_drop, AS.val, upd, resB, mkS_env, mkS_box, lk, entry_env, condW_true, condW_false, y3, ptC, ratC, zC]))
          | fail)
        refine CallG_of (k1) rfl rfl rfl ?_
        try dsimp only
        repeat' (first
          | with_reducible first | apply thenW_n | apply thenW_ret | apply W_seq | apply W_ret
          | with_reducible refine W_rg ?_
          | (rw [vcn]; (try simp [-map_take,-map_drop, push_cast, ptC, ratC, zC]))
          | (with_reducible refine W_condW ?_; (try simp [-map_take,-map_drop, AS.val, upd, resB, mkS_env, mkS_box, lk, entry_env, condW_true, condW_false, ptC, ratC, zC]))
          | fail)
        simp [-map_take,-map_drop, post, resAV, resAll, resOne, closeV, closeC, closeL, resD, resDL, push_cast, ho, ptC, ratC, zC]
      · have ho : out = .own 33 8 2 (ptC low ++ ptC high) := by
          rw [if_neg hk] at hm2
          rw [hout, meetAV, hm2, if_neg (by simp [-map_take,-map_drop])]
          simp [-map_take,-map_drop, ptsC]
        obtain ⟨d, hd⟩ : ∃ d, d = cmpP low high := ⟨_, rfl⟩
        rw [← hd] at k1 hk
        have y4 : (d = 0) = False := eq_false hk
        repeat' (first
          | with_reducible first | apply thenW_n | apply thenW_exit | apply blockW_same | apply loopW_exit | apply W_seq | apply W_exit
          | with_reducible refine W_rg ?_
          | (rw [vcn]; (try simp [-map_take,-map_drop, push_cast, y3, ptC, ratC, zC]))
          | (with_reducible refine W_condW ?_; (try simp [-map_take,-map_drop, AS.val, upd, resB, mkS_env, mkS_box, lk, entry_env, condW_true, condW_false, y3, ptC, ratC, zC]))
          | fail)
        refine CallG_of (k1) rfl rfl rfl ?_
        try dsimp only
        repeat' (first
          | with_reducible first | apply thenW_n | apply W_seq | apply W_skip | apply W_ret
          | with_reducible refine W_rg ?_
          | (rw [vcn]; (try simp [-map_take,-map_drop, push_cast, y4, ptC, ratC, zC]))
          | (with_reducible refine W_condW ?_; (try simp [-map_take,-map_drop, AS.val, upd, resB, mkS_env, mkS_box, lk, entry_env, condW_true, condW_false, y4, ptC, ratC, zC]))
          | ((with_reducible refine condW_b (fun hc => ?_) (fun hc => ?_) <;> (try simp [-map_take,-map_drop, Int.ofNat_inj] at hc) <;> (try contradiction)))
          | fail)
        simp [-map_take,-map_drop, post, resAV, resAll, resOne, closeV, closeC, closeL, resD, resDL, push_cast, ho, ptC, ratC, zC]
    have hlt : j < n := by omega
    have y3 : (j < n) = True := eq_true hlt
    obtain ⟨t1, ht1⟩ := hat j (by omega)
    have htk : Z.take (j + 1) = Z.take j ++ [Z[j]'(by omega)] := List.take_succ_eq_append_getElem (by omega)
    have hps := hMs (Z[j]'(by omega)) (List.getElem_mem _)
    have hl1 := lowestF_snoc (Z.take j) (Z[j]'(by omega)) p0
    have hh1 := highestF_snoc (Z.take j) (Z[j]'(by omega)) p0
    rw [← htk] at hl1 hh1
    have hzl := hlz (Z.take j) (fun q h => List.mem_of_mem_take h)
    have hzh := hhz (Z.take j) (fun q h => List.mem_of_mem_take h)
    obtain ⟨p, hp⟩ : ∃ p, p = Z[j]'(by omega) := ⟨_, rfl⟩
    rw [← hp] at ht1 hps hl1 hh1
    obtain ⟨low, hlow⟩ : ∃ l, l = lowestF p0 (Z.take j) := ⟨_, rfl⟩
    obtain ⟨high, hhigh⟩ : ∃ l, l = highestF p0 (Z.take j) := ⟨_, rfl⟩
    rw [← hlow] at hl1 hzl
    rw [← hhigh] at hh1 hzh
    simp only [← hlow, ← hhigh]
    have k1 := cmpP_ok p low (by omega)
    have k2 := cmpP_ok p high (by omega)
    obtain ⟨d1, hd1⟩ : ∃ d, d = cmpP p low := ⟨_, rfl⟩
    obtain ⟨d2, hd2⟩ : ∃ d, d = cmpP p high := ⟨_, rfl⟩
    rw [← hd1] at k1 hl1
    rw [← hd2] at k2 hh1
    have tl1 := congrArg List.length ht1
    rw [List.length_drop, hNl, List.length_append, ptC_len] at tl1
    clear hd1 hd2 hlow hhigh hp hat hlz hhz hMs hm2
    by_cases q1 : d1 < 0 <;> by_cases q2 : 0 < d2
    · have x1 : (d1 < 0) = True := eq_true q1
      have x2 : (0 < d2) = True := eq_true q2
      rw [if_pos q1] at hl1
      rw [if_pos q2] at hh1
      repeat' (first
        | with_reducible first | apply thenW_n | apply W_seq | apply W_block | apply W_skip
        | with_reducible refine W_rg ?_
        | (rw [vcn]; (try simp [-map_take,-map_drop, push_cast, y3, ht1, hNl, hlt, ptC, ratC, zC]))
        | (with_reducible refine W_condW ?_; (try simp [-map_take,-map_drop, AS.val, upd, resB, mkS_env, mkS_box, lk, entry_env, condW_true, condW_false, y3, ht1, hNl, hlt, ptC, ratC, zC]))
        | fail)
      refine CallG_of (k1) rfl rfl rfl ?_
      try dsimp only
      repeat' (first
        | with_reducible first | apply thenW_n | apply W_seq
        | with_reducible refine W_rg ?_
        | (rw [vcn]; (try simp [-map_take,-map_drop, push_cast, x1, ptC, ratC, zC]))
        | (with_reducible refine W_condW ?_; (try simp [-map_take,-map_drop, AS.val, upd, resB, mkS_env, mkS_box, lk, entry_env, condW_true, condW_false, x1, ptC, ratC, zC]))
        | fail)
      refine CallG_of (k2) rfl rfl rfl ?_
      try dsimp only
      repeat' (first
        | with_reducible first | apply thenW_n | apply blockW_n
        | with_reducible refine W_rg ?_
        | (rw [vcn]; (try simp [-map_take,-map_drop, push_cast, x2, ptC, ratC, zC]); try simp (disch := omega) only [i64_in, u64_in, shr64i])
        | (with_reducible refine W_condW ?_; (try simp [-map_take,-map_drop, AS.val, upd, resB, mkS_env, mkS_box, lk, entry_env, condW_true, condW_false, x2, ptC, ratC, zC]))
        | fail)
      refine loopW_n (j + 1) id (by omega) (by omega) ⟨?_, ?_, ?_, ?_, ?_, ?_⟩
      all_goals first | (simp [-map_take,-map_drop, push_cast, dV_take, dV_drop, hNr, hNn, hl1, hh1, ptC, ratC, zC]; done)
    · have x1 : (d1 < 0) = True := eq_true q1
      have x2 : (0 < d2) = False := eq_false q2
      rw [if_pos q1] at hl1
      rw [if_neg q2] at hh1
      repeat' (first
        | with_reducible first | apply thenW_n | apply W_seq | apply W_block | apply W_skip
        | with_reducible refine W_rg ?_
        | (rw [vcn]; (try simp [-map_take,-map_drop, push_cast, y3, ht1, hNl, hlt, ptC, ratC, zC]))
        | (with_reducible refine W_condW ?_; (try simp [-map_take,-map_drop, AS.val, upd, resB, mkS_env, mkS_box, lk, entry_env, condW_true, condW_false, y3, ht1, hNl, hlt, ptC, ratC, zC]))
        | fail)
      refine CallG_of (k1) rfl rfl rfl ?_
      try dsimp only
      repeat' (first
        | with_reducible first | apply thenW_n | apply W_seq
        | with_reducible refine W_rg ?_
        | (rw [vcn]; (try simp [-map_take,-map_drop, push_cast, x1, ptC, ratC, zC]))
        | (with_reducible refine W_condW ?_; (try simp [-map_take,-map_drop, AS.val, upd, resB, mkS_env, mkS_box, lk, entry_env, condW_true, condW_false, x1, ptC, ratC, zC]))
        | fail)
      refine CallG_of (k2) rfl rfl rfl ?_
      try dsimp only
      repeat' (first
        | with_reducible first | apply thenW_n | apply blockW_n | apply W_skip
        | with_reducible refine W_rg ?_
        | (rw [vcn]; (try simp [-map_take,-map_drop, push_cast, x2, ptC, ratC, zC]); try simp (disch := omega) only [i64_in, u64_in, shr64i])
        | (with_reducible refine W_condW ?_; (try simp [-map_take,-map_drop, AS.val, upd, resB, mkS_env, mkS_box, lk, entry_env, condW_true, condW_false, x2, ptC, ratC, zC]))
        | fail)
      refine loopW_n (j + 1) id (by omega) (by omega) ⟨?_, ?_, ?_, ?_, ?_, ?_⟩
      all_goals first | (simp [-map_take,-map_drop, push_cast, dV_take, dV_drop, hNr, hNn, hl1, hh1, ptC, ratC, zC]; done)
    · have x1 : (d1 < 0) = False := eq_false q1
      have x2 : (0 < d2) = True := eq_true q2
      rw [if_neg q1] at hl1
      rw [if_pos q2] at hh1
      repeat' (first
        | with_reducible first | apply thenW_n | apply W_seq | apply W_block | apply W_skip
        | with_reducible refine W_rg ?_
        | (rw [vcn]; (try simp [-map_take,-map_drop, push_cast, y3, ht1, hNl, hlt, ptC, ratC, zC]))
        | (with_reducible refine W_condW ?_; (try simp [-map_take,-map_drop, AS.val, upd, resB, mkS_env, mkS_box, lk, entry_env, condW_true, condW_false, y3, ht1, hNl, hlt, ptC, ratC, zC]))
        | fail)
      refine CallG_of (k1) rfl rfl rfl ?_
      try dsimp only
      repeat' (first
        | with_reducible first | apply thenW_n | apply W_seq | apply W_skip
        | with_reducible refine W_rg ?_
        | (rw [vcn]; (try simp [-map_take,-map_drop, push_cast, x1, ptC, ratC, zC]))
        | (with_reducible refine W_condW ?_; (try simp [-map_take,-map_drop, AS.val, upd, resB, mkS_env, mkS_box, lk, entry_env, condW_true, condW_false, x1, ptC, ratC, zC]))
        | fail)
      refine CallG_of (k2) rfl rfl rfl ?_
      try dsimp only
      repeat' (first
        | with_reducible first | apply thenW_n | apply blockW_n
        | with_reducible refine W_rg ?_
        | (rw [vcn]; (try simp [-map_take,-map_drop, push_cast, x2, ptC, ratC, zC]); try simp (disch := omega) only [i64_in, u64_in, shr64i])
        | (with_reducible refine W_condW ?_; (try simp [-map_take,-map_drop, AS.val, upd, resB, mkS_env, mkS_box, lk, entry_env, condW_true, condW_false, x2, ptC, ratC, zC]))
        | fail)
      refine loopW_n (j + 1) id (by omega) (by omega) ⟨?_, ?_, ?_, ?_, ?_, ?_⟩
      all_goals first | (simp [-map_take,-map_drop, push_cast, dV_take, dV_drop, hNr, hNn, hl1, hh1, ptC, ratC, zC]; done)
    · have x1 : (d1 < 0) = False := eq_false q1
      have x2 : (0 < d2) = False := eq_false q2
      rw [if_neg q1] at hl1
      rw [if_neg q2] at hh1
      repeat' (first
        | with_reducible first | apply thenW_n | apply W_seq | apply W_block | apply W_skip
        | with_reducible refine W_rg ?_
        | (rw [vcn]; (try simp [-map_take,-map_drop, push_cast, y3, ht1, hNl, hlt, ptC, ratC, zC]))
        | (with_reducible refine W_condW ?_; (try simp [-map_take,-map_drop, AS.val, upd, resB, mkS_env, mkS_box, lk, entry_env, condW_true, condW_false, y3, ht1, hNl, hlt, ptC, ratC, zC]))
        | fail)
      refine CallG_of (k1) rfl rfl rfl ?_
      try dsimp only
      repeat' (first
        | with_reducible first | apply thenW_n | apply W_seq | apply W_skip
        | with_reducible refine W_rg ?_
        | (rw [vcn]; (try simp [-map_take,-map_drop, push_cast, x1, ptC, ratC, zC]))
        | (with_reducible refine W_condW ?_; (try simp [-map_take,-map_drop, AS.val, upd, resB, mkS_env, mkS_box, lk, entry_env, condW_true, condW_false, x1, ptC, ratC, zC]))
        | fail)
      refine CallG_of (k2) rfl rfl rfl ?_
      try dsimp only
      repeat' (first
        | with_reducible first | apply thenW_n | apply blockW_n | apply W_skip
        | with_reducible refine W_rg ?_
        | (rw [vcn]; (try simp [-map_take,-map_drop, push_cast, x2, ptC, ratC, zC]); try simp (disch := omega) only [i64_in, u64_in, shr64i])
        | (with_reducible refine W_condW ?_; (try simp [-map_take,-map_drop, AS.val, upd, resB, mkS_env, mkS_box, lk, entry_env, condW_true, condW_false, x2, ptC, ratC, zC]))
        | fail)
      refine loopW_n (j + 1) id (by omega) (by omega) ⟨?_, ?_, ?_, ?_, ?_, ?_⟩
      all_goals first | (simp [-map_take,-map_drop, push_cast, dV_take, dV_drop, hNr, hNn, hl1, hh1, ptC, ratC, zC]; done)
theorem meet_ok' (s t : FSg) (h : szS s + szS t ≤ 1000) : Eval Try.prog 37 [sgAV s, sgAV t] (.ret (.slc false 8 (meetF s t).length (ptsC (meetF s t)))) := by
  have h1 := meet_ok s t h
  unfold meetAV at h1
  split at h1
  · rename_i h0
    rw [h0]
    exact h1.out (Sub.nil false 8) rfl rfl (fun _ h => by cases h) (fun _ h => by cases h)
  · exact h1.frz1
end Go.Fw

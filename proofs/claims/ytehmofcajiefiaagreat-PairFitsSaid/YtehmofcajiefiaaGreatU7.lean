/- pair: way, ruleOf, half. -/
import Derived.Test.YtehmofcajiefiaaGreatU5
import Derived.Test.YtehmofcajiefiaaGreatU1b
set_option linter.unusedSimpArgs false
set_option linter.unusedVariables false
-- VALS: zAV, zC, ratAV, ratC, ptAV, ptC, sgAV, sgC
namespace Go.Fw
open Go Go.Proofs Go.IntWalk
set_option linter.unusedSimpArgs false
set_option maxRecDepth 100000
set_option maxHeartbeats 20000000
def turnF (side : Int) (b : FSg) : FSg := if side < 0 then ⟨b.B, b.A⟩ else b
def FSg.zero : FSg := ⟨FP.zero, FP.zero⟩
def spanF (l : List FP) : FSg := match l with
  | [] => FSg.zero
  | [p] => ⟨p, p⟩
  | p :: q :: _ => ⟨p, q⟩
def halfF (side : Int) (s b : FSg) : FSg := spanF (clipF s (turnF side b))
def hasF (side : Int) (s b : FSg) : Bool := !(clipF s (turnF side b)).isEmpty
theorem turnF_sz (side : Int) (b : FSg) : szS (turnF side b) = szS b := by unfold turnF; split <;> simp [szS] <;> omega
theorem zeroS_sub : SubL [.v (.slice none 0 0), .v (.bool false), .v (.slice none 0 0), .v (.bool false), .v (.slice none 0 0), .v (.bool false), .v (.slice none 0 0), .v (.bool false), .v (.slice none 0 0), .v (.bool false), .v (.slice none 0 0), .v (.bool false), .v (.slice none 0 0), .v (.bool false), .v (.slice none 0 0), .v (.bool false)] (sgC FSg.zero) :=
  SubL.cons (numC_sub _ _ _) (SubL.cons (Sub.refl _) (SubL.cons (numC_sub _ _ _) (SubL.cons (Sub.refl _) (SubL.cons (numC_sub _ _ _) (SubL.cons (Sub.refl _) (SubL.cons (numC_sub _ _ _) (SubL.cons (Sub.refl _) (SubL.cons (numC_sub _ _ _) (SubL.cons (Sub.refl _) (SubL.cons (numC_sub _ _ _) (SubL.cons (Sub.refl _) (SubL.cons (numC_sub _ _ _) (SubL.cons (Sub.refl _) (SubL.cons (numC_sub _ _ _) (SubL.cons (Sub.refl _) SubL.nil)))))))))))))))
open List (map_take map_drop)
attribute [local push_cast] optK_some optK_none optK_ite optK_map optK_bind gOn stepK isMem evPure evMem evBin evUn evConv evLen evBuiltin evMinMax evSlice evBuild evAppend evIndex evIndexAddr evField evFieldAddr intBin strBin appDest AS.val AS.mem AS.elems AS.put AS.put' AS.eff AV.cells? AV.isCell AV.refs all_isByte take_byteV drop_byteV strOf_map bndOk bnd partAV ptrAdd killBox catA inOrder fillA setAt ofVal resB upd byteV List.head?_take List.head?_drop List.getElem?_map mkS_env mkS_box mkS_used entry_env entry_box entry_used lk stepD lookIds Oper.looksAt Op.operands Call.operands St.ids refsL renL_append ren renL renBox Box.refs iV i64V boolV dV_getElem dV_app dV_cons toNat_add2 toNat_add1
attribute [local simp ↓] numC_refs numC_isCell numC_cells numC_resB numC_resD numC_ren numC_closeC numC_isOwn
theorem ruleOf_ok (k : Int) (h1 : 1 ≤ k) (h2 : k ≤ 6) : Eval Tryz.prog 59 [i64V k] (.ret (.agg [i64V (ruleW k), i64V (ruleE k), i64V (ruleF k)])) := by
  rcases (by omega : k = 1 ∨ k = 2 ∨ k = 3 ∨ k = 4 ∨ k = 5 ∨ k = 6) with rfl | rfl | rfl | rfl | rfl | rfl
  · skip
    refine Eval.intro Tryz.func59 rfl Tryz.call59 _ _ (Nat.le_of_ble_eq_true rfl) (by simp [-map_take,-map_drop, AV.refs, refsL, natAV, zAV, zC, ratAV, ratC, ptAV, ptC, sgAV, sgC, push_cast]) fun hs0 => ?_
    repeat' (first
      | with_reducible first | apply thenW_n | apply W_seq | apply W_ret
      | with_reducible refine W_rg ?_
      | (rw [vcn]; (try simp [-map_take,-map_drop, push_cast]))
      | fail)
    simp [-map_take,-map_drop, post, resAV, resAll, resOne, closeV, closeC, closeL, resD, resDL, push_cast, ruleW, ruleE, ruleF]
  · skip
    refine Eval.intro Tryz.func59 rfl Tryz.call59 _ _ (Nat.le_of_ble_eq_true rfl) (by simp [-map_take,-map_drop, AV.refs, refsL, natAV, zAV, zC, ratAV, ratC, ptAV, ptC, sgAV, sgC, push_cast]) fun hs0 => ?_
    repeat' (first
      | with_reducible first | apply thenW_n | apply W_seq | apply W_ret
      | with_reducible refine W_rg ?_
      | (rw [vcn]; (try simp [-map_take,-map_drop, push_cast]))
      | fail)
    simp [-map_take,-map_drop, post, resAV, resAll, resOne, closeV, closeC, closeL, resD, resDL, push_cast, ruleW, ruleE, ruleF]
  · skip
    refine Eval.intro Tryz.func59 rfl Tryz.call59 _ _ (Nat.le_of_ble_eq_true rfl) (by simp [-map_take,-map_drop, AV.refs, refsL, natAV, zAV, zC, ratAV, ratC, ptAV, ptC, sgAV, sgC, push_cast]) fun hs0 => ?_
    repeat' (first
      | with_reducible first | apply thenW_n | apply W_seq | apply W_ret
      | with_reducible refine W_rg ?_
      | (rw [vcn]; (try simp [-map_take,-map_drop, push_cast]))
      | fail)
    simp [-map_take,-map_drop, post, resAV, resAll, resOne, closeV, closeC, closeL, resD, resDL, push_cast, ruleW, ruleE, ruleF]
  · skip
    refine Eval.intro Tryz.func59 rfl Tryz.call59 _ _ (Nat.le_of_ble_eq_true rfl) (by simp [-map_take,-map_drop, AV.refs, refsL, natAV, zAV, zC, ratAV, ratC, ptAV, ptC, sgAV, sgC, push_cast]) fun hs0 => ?_
    repeat' (first
      | with_reducible first | apply thenW_n | apply W_seq | apply W_ret
      | with_reducible refine W_rg ?_
      | (rw [vcn]; (try simp [-map_take,-map_drop, push_cast]))
      | fail)
    simp [-map_take,-map_drop, post, resAV, resAll, resOne, closeV, closeC, closeL, resD, resDL, push_cast, ruleW, ruleE, ruleF]
  · skip
    refine Eval.intro Tryz.func59 rfl Tryz.call59 _ _ (Nat.le_of_ble_eq_true rfl) (by simp [-map_take,-map_drop, AV.refs, refsL, natAV, zAV, zC, ratAV, ratC, ptAV, ptC, sgAV, sgC, push_cast]) fun hs0 => ?_
    repeat' (first
      | with_reducible first | apply thenW_n | apply W_seq | apply W_ret
      | with_reducible refine W_rg ?_
      | (rw [vcn]; (try simp [-map_take,-map_drop, push_cast]))
      | fail)
    simp [-map_take,-map_drop, post, resAV, resAll, resOne, closeV, closeC, closeL, resD, resDL, push_cast, ruleW, ruleE, ruleF]
  · skip
    refine Eval.intro Tryz.func59 rfl Tryz.call59 _ _ (Nat.le_of_ble_eq_true rfl) (by simp [-map_take,-map_drop, AV.refs, refsL, natAV, zAV, zC, ratAV, ratC, ptAV, ptC, sgAV, sgC, push_cast]) fun hs0 => ?_
    repeat' (first
      | with_reducible first | apply thenW_n | apply W_seq | apply W_ret
      | with_reducible refine W_rg ?_
      | (rw [vcn]; (try simp [-map_take,-map_drop, push_cast]))
      | fail)
    simp [-map_take,-map_drop, post, resAV, resAll, resOne, closeV, closeC, closeL, resD, resDL, push_cast, ruleW, ruleE, ruleF]
theorem way_ok (e f : FSg) (h : szS e + szS f ≤ 1000) : Eval Tryz.prog 60 [sgAV e, sgAV f] (.ret (i64V (wayD e.v f.v).num.sign)) := by
  refine Eval.intro Tryz.func60 rfl Tryz.call60 _ _ (Nat.le_of_ble_eq_true rfl) (by simp [-map_take,-map_drop, AV.refs, refsL, natAV, zAV, zC, ratAV, ratC, ptAV, ptC, sgAV, sgC, push_cast]) fun hs0 => ?_
  obtain ⟨⟨ax, ay⟩, ⟨bx, by'⟩⟩ := e
  obtain ⟨⟨cx, cy⟩, ⟨dx, dy⟩⟩ := f
  unfold szS szV at h
  simp only at h
  have s1 := subR_ok bx ax (by omega)
  have s2 := subR_ok dx cx (by omega)
  have s3 := subR_ok by' ay (by omega)
  have s4 := subR_ok dy cy (by omega)
  have z1 := szQ_sub bx.q ax.q
  have z2 := szQ_sub dx.q cx.q
  have z3 := szQ_sub by'.q ay.q
  have z4 := szQ_sub dy.q cy.q
  have m1 := mulR_ok (.of (bx.q - ax.q)) (.of (dx.q - cx.q)) (by simp only [FQ.of]; omega)
  have m2 := mulR_ok (.of (by'.q - ay.q)) (.of (dy.q - cy.q)) (by simp only [FQ.of]; omega)
  have o1 : (FQ.of (bx.q - ax.q)).q * (FQ.of (dx.q - cx.q)).q = (bx.q - ax.q) * (dx.q - cx.q) := rfl
  have o2 : (FQ.of (by'.q - ay.q)).q * (FQ.of (dy.q - cy.q)).q = (by'.q - ay.q) * (dy.q - cy.q) := rfl
  rw [o1] at m1
  rw [o2] at m2
  have z5 := szQ_mul (bx.q - ax.q) (dx.q - cx.q)
  have z6 := szQ_mul (by'.q - ay.q) (dy.q - cy.q)
  have z7 := szQ_add ((bx.q - ax.q) * (dx.q - cx.q)) ((by'.q - ay.q) * (dy.q - cy.q))
  have a1 := addR_ok (.of ((bx.q - ax.q) * (dx.q - cx.q))) (.of ((by'.q - ay.q) * (dy.q - cy.q))) (by simp only [FQ.of]; omega)
  have o3 : (FQ.of ((bx.q - ax.q) * (dx.q - cx.q))).q + (FQ.of ((by'.q - ay.q) * (dy.q - cy.q))).q = wayD (FSg.v ⟨⟨ax, ay⟩, ⟨bx, by'⟩⟩) (FSg.v ⟨⟨cx, cy⟩, ⟨dx, dy⟩⟩) := rfl
  have o3' : (bx.q - ax.q) * (dx.q - cx.q) + (by'.q - ay.q) * (dy.q - cy.q) = wayD (FSg.v ⟨⟨ax, ay⟩, ⟨bx, by'⟩⟩) (FSg.v ⟨⟨cx, cy⟩, ⟨dx, dy⟩⟩) := rfl
  rw [o3] at a1
  rw [o3'] at z7
  obtain ⟨w, hw⟩ : ∃ w, w = wayD (FSg.v ⟨⟨ax, ay⟩, ⟨bx, by'⟩⟩) (FSg.v ⟨⟨cx, cy⟩, ⟨dx, dy⟩⟩) := ⟨_, rfl⟩
  rw [← hw] at a1 z7 ⊢
  have g1 := signR_ok (.of w) (by simp only [FQ.of]; omega)
  have o4 : (FQ.of w).q.num.sign = w.num.sign := rfl
  rw [o4] at g1
  obtain ⟨i, hi⟩ : ∃ i, i = w.num.sign := ⟨_, rfl⟩
  rw [← hi] at g1 ⊢
  obtain ⟨R1, hR1⟩ : ∃ r, r = FQ.of (bx.q - ax.q) := ⟨_, rfl⟩
  obtain ⟨R2, hR2⟩ : ∃ r, r = FQ.of (dx.q - cx.q) := ⟨_, rfl⟩
  obtain ⟨R3, hR3⟩ : ∃ r, r = FQ.of (by'.q - ay.q) := ⟨_, rfl⟩
  obtain ⟨R4, hR4⟩ : ∃ r, r = FQ.of (dy.q - cy.q) := ⟨_, rfl⟩
  obtain ⟨M1, hM1⟩ : ∃ r, r = FQ.of ((bx.q - ax.q) * (dx.q - cx.q)) := ⟨_, rfl⟩
  obtain ⟨M2, hM2⟩ : ∃ r, r = FQ.of ((by'.q - ay.q) * (dy.q - cy.q)) := ⟨_, rfl⟩
  obtain ⟨W, hW⟩ : ∃ r, r = FQ.of w := ⟨_, rfl⟩
  rw [← hR1] at s1 m1
  rw [← hR2] at s2 m1
  rw [← hR3] at s3 m2
  rw [← hR4] at s4 m2
  rw [← hM1] at m1 a1
  rw [← hM2] at m2 a1
  rw [← hW] at a1 g1
  clear hR1 hR2 hR3 hR4 hM1 hM2 hW hw hi o1 o2 o3 o3' o4
  repeat' (first
    | with_reducible first | apply thenW_n | apply W_seq
    | with_reducible refine W_rg ?_
    | (rw [vcn]; (try simp [-map_take,-map_drop, push_cast, sgAV, sgC, ptC, ratC, zC]))
    | with_reducible refine W_drawn mixed (by decide) (by kernel_rfl) ?_
    | (rw [vcnD]; (try simp [-map_take,-map_drop, push_cast, sgAV, sgC, ptC, ratC, zC]))
    | fail)
  refine callD_of (s1) rfl rfl rfl ?_
  try dsimp only
  repeat' (first
    | (rw [vcnD]; (try simp [-map_take,-map_drop, push_cast, ratAV, sgAV, sgC, ptC, ratC, zC]))
    | fail)
  refine callD_of (s2) rfl rfl rfl ?_
  try dsimp only
  repeat' (first
    | (rw [vcnD]; (try simp [-map_take,-map_drop, push_cast, ratAV, sgAV, sgC, ptC, ratC, zC]))
    | fail)
  refine callD_of (m1) rfl rfl rfl ?_
  try dsimp only
  repeat' (first
    | with_reducible first | apply thenW_n | apply W_seq
    | with_reducible refine W_drawn mixed (by decide) (by kernel_rfl) ?_
    | (rw [vcnD]; (try simp [-map_take,-map_drop, push_cast, ratAV, sgAV, sgC, ptC, ratC, zC]))
    | refine And.intro (by first | omega | kernel_rfl) ?_
    | fail)
  refine callD_of (s3) rfl rfl rfl ?_
  try dsimp only
  repeat' (first
    | (rw [vcnD]; (try simp [-map_take,-map_drop, push_cast, ratAV, sgAV, sgC, ptC, ratC, zC]))
    | fail)
  refine callD_of (s4) rfl rfl rfl ?_
  try dsimp only
  repeat' (first
    | (rw [vcnD]; (try simp [-map_take,-map_drop, push_cast, ratAV, sgAV, sgC, ptC, ratC, zC]))
    | fail)
  refine callD_of (m2) rfl rfl rfl ?_
  try dsimp only
  repeat' (first
    | with_reducible first | apply thenW_n | apply W_seq
    | with_reducible refine W_rg ?_
    | (rw [vcn]; (try simp [-map_take,-map_drop, push_cast, ratAV, sgAV, sgC, ptC, ratC, zC]))
    | (rw [vcnD]; (try simp [-map_take,-map_drop, push_cast, ratAV, sgAV, sgC, ptC, ratC, zC]))
    | refine And.intro (by first | omega | kernel_rfl) ?_
    | fail)
  refine CallG_of (a1) rfl rfl rfl ?_
  try dsimp only
  repeat' (first
    | (rw [vcn]; (try simp [-map_take,-map_drop, push_cast, ratAV, sgAV, sgC, ptC, ratC, zC]))
    | fail)
  refine CallG_of (g1) rfl rfl rfl ?_
  try dsimp only
  repeat' (first
    | with_reducible first | apply thenW_n | apply W_ret
    | (rw [vcn]; (try simp [-map_take,-map_drop, push_cast]))
    | fail)
  simp [-map_take,-map_drop, post, resAV, resAll, resOne, closeV, closeC, closeL, resD, resDL, push_cast]
theorem half_ok (side : Int) (s b : FSg) (h : szS s + szS b ≤ 60) : Eval Tryz.prog 62 [i64V side, sgAV s, sgAV b] (.ret (.tup [sgAV (halfF side s b), boolV (hasF side s b)])) := by
  have hz := turnF_sz side b
  have c1 := clip_ok s (turnF side b) (by omega) (by have := sz_cross (turnF side b).A (turnF side b).B s.A; unfold szS at *; omega) (by have := sz_cross (turnF side b).A (turnF side b).B s.B; unfold szS at *; omega)
  have hlen := clipF_len s (turnF side b)
  unfold halfF hasF
  obtain ⟨l, hl⟩ : ∃ l, l = clipF s (turnF side b) := ⟨_, rfl⟩
  rw [← hl] at c1 hlen ⊢
  clear hl hz
  match l, hlen with
  | [], _ =>
    have hb : (!([] : List FP).isEmpty) = false := rfl
    have hp : ptsC [] = [] := rfl
    rw [hb, spanF]
    refine Eval.outT (l := [.agg [.v (.slice none 0 0), .v (.bool false), .v (.slice none 0 0), .v (.bool false), .v (.slice none 0 0), .v (.bool false), .v (.slice none 0 0), .v (.bool false), .v (.slice none 0 0), .v (.bool false), .v (.slice none 0 0), .v (.bool false), .v (.slice none 0 0), .v (.bool false), .v (.slice none 0 0), .v (.bool false)], boolV false]) ?_ ⟨Sub.agg zeroS_sub, Sub.refl _, trivial⟩ (by simp [-map_take,-map_drop, AV.isOwn, boolV]) (by simp [-map_take,-map_drop, AV.isOwn, sgAV, boolV])
    by_cases hs : side < 0
    · rw [turnF, if_pos hs] at c1
      refine Eval.intro Tryz.func62 rfl Tryz.call62 _ _ (Nat.le_of_ble_eq_true rfl) (by simp [-map_take,-map_drop, AV.refs, refsL, natAV, zAV, zC, ratAV, ratC, ptAV, ptC, sgAV, sgC, push_cast]) fun hs0 => ?_
      have g1 : (side < 0) = True := eq_true hs
      repeat' (first
        | with_reducible first | apply thenW_n | apply W_seq
        | with_reducible refine W_rg ?_
        | (rw [vcn]; (try simp [-map_take,-map_drop, push_cast, sgAV, sgC, ptC, ratC, zC, g1]))
        | (with_reducible refine W_condW ?_; (try simp [-map_take,-map_drop, AS.val, upd, resB, mkS_env, mkS_box, lk, entry_env, condW_true, condW_false, sgAV, sgC, ptC, ratC, zC, g1]))
        | fail)
      refine CallG_of (c1) rfl rfl rfl ?_
      try dsimp only
      repeat' (first
        | with_reducible first | apply thenW_n | apply thenW_ret | apply W_seq | apply W_ret
        | with_reducible refine W_rg ?_
        | (rw [vcn]; (try simp [-map_take,-map_drop, push_cast, hp]))
        | (with_reducible refine W_condW ?_; (try simp [-map_take,-map_drop, AS.val, upd, resB, mkS_env, mkS_box, lk, entry_env, condW_true, condW_false, hp]))
        | fail)
      simp [-map_take,-map_drop, post, resAV, resAll, resOne, closeV, closeC, closeL, resD, resDL, push_cast, ratAV, ratC, zC]
    · rw [turnF, if_neg hs] at c1
      refine Eval.intro Tryz.func62 rfl Tryz.call62 _ _ (Nat.le_of_ble_eq_true rfl) (by simp [-map_take,-map_drop, AV.refs, refsL, natAV, zAV, zC, ratAV, ratC, ptAV, ptC, sgAV, sgC, push_cast]) fun hs0 => ?_
      have g1 : (side < 0) = False := eq_false hs
      repeat' (first
        | with_reducible first | apply thenW_n | apply W_seq | apply W_skip
        | with_reducible refine W_rg ?_
        | (rw [vcn]; (try simp [-map_take,-map_drop, push_cast, sgAV, sgC, ptC, ratC, zC, g1]))
        | (with_reducible refine W_condW ?_; (try simp [-map_take,-map_drop, AS.val, upd, resB, mkS_env, mkS_box, lk, entry_env, condW_true, condW_false, sgAV, sgC, ptC, ratC, zC, g1]))
        | fail)
      refine CallG_of (c1) rfl rfl rfl ?_
      try dsimp only
      repeat' (first
        | with_reducible first | apply thenW_n | apply thenW_ret | apply W_seq | apply W_ret
        | with_reducible refine W_rg ?_
        | (rw [vcn]; (try simp [-map_take,-map_drop, push_cast, hp]))
        | (with_reducible refine W_condW ?_; (try simp [-map_take,-map_drop, AS.val, upd, resB, mkS_env, mkS_box, lk, entry_env, condW_true, condW_false, hp]))
        | fail)
      simp [-map_take,-map_drop, post, resAV, resAll, resOne, closeV, closeC, closeL, resD, resDL, push_cast, ratAV, ratC, zC]
  | [p], _ =>
    have hb : (![p].isEmpty) = true := rfl
    have hp : ptsC [p] = ptC p := by simp [-map_take,-map_drop, ptsC]
    rw [hp] at c1
    rw [hb, spanF]
    by_cases hs : side < 0
    · rw [turnF, if_pos hs] at c1
      refine Eval.intro Tryz.func62 rfl Tryz.call62 _ _ (Nat.le_of_ble_eq_true rfl) (by simp [-map_take,-map_drop, AV.refs, refsL, natAV, zAV, zC, ratAV, ratC, ptAV, ptC, sgAV, sgC, push_cast]) fun hs0 => ?_
      have g1 : (side < 0) = True := eq_true hs
      repeat' (first
        | with_reducible first | apply thenW_n | apply W_seq
        | with_reducible refine W_rg ?_
        | (rw [vcn]; (try simp [-map_take,-map_drop, push_cast, sgAV, sgC, ptC, ratC, zC, g1]))
        | (with_reducible refine W_condW ?_; (try simp [-map_take,-map_drop, AS.val, upd, resB, mkS_env, mkS_box, lk, entry_env, condW_true, condW_false, sgAV, sgC, ptC, ratC, zC, g1]))
        | fail)
      refine CallG_of (c1) rfl rfl rfl ?_
      try dsimp only
      repeat' (first
        | with_reducible first | apply thenW_n | apply W_seq | apply W_skip | apply W_ret
        | with_reducible refine W_rg ?_
        | (rw [vcn]; (try simp [-map_take,-map_drop, push_cast, sgAV, sgC, ptC, ratC, zC]); try simp (disch := omega) only [i64_in, u64_in, shr64i])
        | with_reducible refine W_drawn mixed (by decide) (by kernel_rfl) ?_
        | (rw [vcnD]; (try simp [-map_take,-map_drop, push_cast, sgAV, sgC, ptC, ratC, zC]); try simp (disch := omega) only [i64_in, u64_in, shr64i])
        | (with_reducible refine W_condW ?_; (try simp [-map_take,-map_drop, AS.val, upd, resB, mkS_env, mkS_box, lk, entry_env, condW_true, condW_false, sgAV, sgC, ptC, ratC, zC]))
        | refine And.intro (by first | omega | kernel_rfl) ?_
        | fail)
      simp [-map_take,-map_drop, post, resAV, resAll, resOne, closeV, closeC, closeL, resD, resDL, push_cast, sgAV, sgC, ptC, ratAV, ratC, zC]
    · rw [turnF, if_neg hs] at c1
      refine Eval.intro Tryz.func62 rfl Tryz.call62 _ _ (Nat.le_of_ble_eq_true rfl) (by simp [-map_take,-map_drop, AV.refs, refsL, natAV, zAV, zC, ratAV, ratC, ptAV, ptC, sgAV, sgC, push_cast]) fun hs0 => ?_
      have g1 : (side < 0) = False := eq_false hs
      repeat' (first
        | with_reducible first | apply thenW_n | apply W_seq | apply W_skip
        | with_reducible refine W_rg ?_
        | (rw [vcn]; (try simp [-map_take,-map_drop, push_cast, sgAV, sgC, ptC, ratC, zC, g1]))
        | (with_reducible refine W_condW ?_; (try simp [-map_take,-map_drop, AS.val, upd, resB, mkS_env, mkS_box, lk, entry_env, condW_true, condW_false, sgAV, sgC, ptC, ratC, zC, g1]))
        | fail)
      refine CallG_of (c1) rfl rfl rfl ?_
      try dsimp only
      repeat' (first
        | with_reducible first | apply thenW_n | apply W_seq | apply W_skip | apply W_ret
        | with_reducible refine W_rg ?_
        | (rw [vcn]; (try simp [-map_take,-map_drop, push_cast, sgAV, sgC, ptC, ratC, zC]); try simp (disch := omega) only [i64_in, u64_in, shr64i])
        | with_reducible refine W_drawn mixed (by decide) (by kernel_rfl) ?_
        | (rw [vcnD]; (try simp [-map_take,-map_drop, push_cast, sgAV, sgC, ptC, ratC, zC]); try simp (disch := omega) only [i64_in, u64_in, shr64i])
        | (with_reducible refine W_condW ?_; (try simp [-map_take,-map_drop, AS.val, upd, resB, mkS_env, mkS_box, lk, entry_env, condW_true, condW_false, sgAV, sgC, ptC, ratC, zC]))
        | refine And.intro (by first | omega | kernel_rfl) ?_
        | fail)
      simp [-map_take,-map_drop, post, resAV, resAll, resOne, closeV, closeC, closeL, resD, resDL, push_cast, sgAV, sgC, ptC, ratAV, ratC, zC]
  | [p, q], _ =>
    have hb : (![p, q].isEmpty) = true := rfl
    have hp : ptsC [p, q] = ptC p ++ ptC q := by simp [-map_take,-map_drop, ptsC]
    rw [hp] at c1
    rw [hb, spanF]
    by_cases hs : side < 0
    · rw [turnF, if_pos hs] at c1
      refine Eval.intro Tryz.func62 rfl Tryz.call62 _ _ (Nat.le_of_ble_eq_true rfl) (by simp [-map_take,-map_drop, AV.refs, refsL, natAV, zAV, zC, ratAV, ratC, ptAV, ptC, sgAV, sgC, push_cast]) fun hs0 => ?_
      have g1 : (side < 0) = True := eq_true hs
      repeat' (first
        | with_reducible first | apply thenW_n | apply W_seq
        | with_reducible refine W_rg ?_
        | (rw [vcn]; (try simp [-map_take,-map_drop, push_cast, sgAV, sgC, ptC, ratC, zC, g1]))
        | (with_reducible refine W_condW ?_; (try simp [-map_take,-map_drop, AS.val, upd, resB, mkS_env, mkS_box, lk, entry_env, condW_true, condW_false, sgAV, sgC, ptC, ratC, zC, g1]))
        | fail)
      refine CallG_of (c1) rfl rfl rfl ?_
      try dsimp only
      repeat' (first
        | with_reducible first | apply thenW_n | apply W_seq | apply W_skip | apply W_ret
        | with_reducible refine W_rg ?_
        | (rw [vcn]; (try simp [-map_take,-map_drop, push_cast, sgAV, sgC, ptC, ratC, zC]); try simp (disch := omega) only [i64_in, u64_in, shr64i])
        | with_reducible refine W_drawn mixed (by decide) (by kernel_rfl) ?_
        | (rw [vcnD]; (try simp [-map_take,-map_drop, push_cast, sgAV, sgC, ptC, ratC, zC]); try simp (disch := omega) only [i64_in, u64_in, shr64i])
        | (with_reducible refine W_condW ?_; (try simp [-map_take,-map_drop, AS.val, upd, resB, mkS_env, mkS_box, lk, entry_env, condW_true, condW_false, sgAV, sgC, ptC, ratC, zC]))
        | refine And.intro (by first | omega | kernel_rfl) ?_
        | fail)
      simp [-map_take,-map_drop, post, resAV, resAll, resOne, closeV, closeC, closeL, resD, resDL, push_cast, sgAV, sgC, ptC, ratAV, ratC, zC]
    · rw [turnF, if_neg hs] at c1
      refine Eval.intro Tryz.func62 rfl Tryz.call62 _ _ (Nat.le_of_ble_eq_true rfl) (by simp [-map_take,-map_drop, AV.refs, refsL, natAV, zAV, zC, ratAV, ratC, ptAV, ptC, sgAV, sgC, push_cast]) fun hs0 => ?_
      have g1 : (side < 0) = False := eq_false hs
      repeat' (first
        | with_reducible first | apply thenW_n | apply W_seq | apply W_skip
        | with_reducible refine W_rg ?_
        | (rw [vcn]; (try simp [-map_take,-map_drop, push_cast, sgAV, sgC, ptC, ratC, zC, g1]))
        | (with_reducible refine W_condW ?_; (try simp [-map_take,-map_drop, AS.val, upd, resB, mkS_env, mkS_box, lk, entry_env, condW_true, condW_false, sgAV, sgC, ptC, ratC, zC, g1]))
        | fail)
      refine CallG_of (c1) rfl rfl rfl ?_
      try dsimp only
      repeat' (first
        | with_reducible first | apply thenW_n | apply W_seq | apply W_skip | apply W_ret
        | with_reducible refine W_rg ?_
        | (rw [vcn]; (try simp [-map_take,-map_drop, push_cast, sgAV, sgC, ptC, ratC, zC]); try simp (disch := omega) only [i64_in, u64_in, shr64i])
        | with_reducible refine W_drawn mixed (by decide) (by kernel_rfl) ?_
        | (rw [vcnD]; (try simp [-map_take,-map_drop, push_cast, sgAV, sgC, ptC, ratC, zC]); try simp (disch := omega) only [i64_in, u64_in, shr64i])
        | (with_reducible refine W_condW ?_; (try simp [-map_take,-map_drop, AS.val, upd, resB, mkS_env, mkS_box, lk, entry_env, condW_true, condW_false, sgAV, sgC, ptC, ratC, zC]))
        | refine And.intro (by first | omega | kernel_rfl) ?_
        | fail)
      simp [-map_take,-map_drop, post, resAV, resAll, resOne, closeV, closeC, closeL, resD, resDL, push_cast, sgAV, sgC, ptC, ratAV, ratC, zC]
  | _ :: _ :: _ :: _, h => exact absurd h (by simp [-map_take,-map_drop])
theorem spanF_sz (l : List FP) (n : Nat) (hn : 2 ≤ n) (h : ∀ p ∈ l, szV p ≤ n) : szS (spanF l) ≤ 2 * n := by
  have hz : szV FP.zero = 2 := by kernel_rfl
  match l with
  | [] => show szV FP.zero + szV FP.zero ≤ _; omega
  | [p] => have := h p (by simp [-map_take,-map_drop]); show szV p + szV p ≤ _; omega
  | p :: q :: _ => have h1 := h p (by simp [-map_take,-map_drop]); have h2 := h q (by simp [-map_take,-map_drop]); show szV p + szV q ≤ _; omega
theorem HS.turn {b : FSg} (h : HS b) (side : Int) : HS (turnF side b) := by
  unfold turnF
  split
  · exact ⟨h.2, h.1⟩
  · exact h
theorem half_sz {s b : FSg} (hs : HS s) (hb : HS b) (side : Int) : szS (halfF side s b) ≤ 124 :=
  spanF_sz _ 62 (by omega) (clipF_sz hs (hb.turn side))
def fitsB (k : Int) (e f : FSg) (d : Int) : Bool :=
  decide (1 ≤ k) && (decide (k ≤ 6) && (decide (0 < d) && ((cmpP e.A e.B != 0) && ((cmpP f.A f.B != 0) && (((wayD e.v f.v).num.sign == ruleW k) &&
    (!((sideOf e.A e.B f.A == 0) && (sideOf e.A e.B f.B == 0)) && (hasF (ruleF k) e f && (hasF (ruleE k) f e && closerB (halfF (ruleF k) e f) (halfF (ruleE k) f e) d))))))))
theorem turnF_v (side : Int) (b : FSg) : (turnF side b).v = if side < 0 then b.v.turn else b.v := by unfold turnF; split <;> rfl
theorem half_eq (side : Int) (s b : FSg) : half side s.v b.v = if hasF side s b = true then some (halfF side s b).v else none := by
  unfold half hasF halfF
  rw [← turnF_v, ← clipF_v]
  have hlen := clipF_len s (turnF side b)
  generalize clipF s (turnF side b) = l at *
  match l, hlen with
  | [], _ => rfl
  | [p], _ => rfl
  | [p, q], _ => rfl
  | _ :: _ :: _ :: _, h => exact absurd h (by simp [-map_take,-map_drop])
theorem fitsB_iff (k : Int) (e f : FSg) (d : Int) : fitsB k e f d = true ↔ fitsD k e.v f.v d := by
  unfold fitsB fitsD
  simp only [Bool.and_eq_true, decide_eq_true_eq, bne_iff_ne, beq_iff_eq, Bool.not_eq_true', Bool.and_eq_false_iff, beq_eq_false_iff_ne, half_eq, closerB_iff]
  refine and_congr Iff.rfl (and_congr Iff.rfl (and_congr Iff.rfl ?_))
  refine and_congr (not_congr (cmpP_zero _ _)) (and_congr (not_congr (cmpP_zero _ _)) (and_congr Iff.rfl (and_congr ?_ ?_)))
  · rw [Ne, Ne, sideOf_zero, sideOf_zero]
    constructor
    · rintro h ⟨h1, h2⟩
      rcases h with h | h
      · exact h h1
      · exact h h2
    · intro h
      by_cases h1 : Go.Fw.cross e.A.v e.B.v f.A.v = 0
      · exact .inr fun h2 => h ⟨h1, h2⟩
      · exact .inl h1
  · constructor
    · rintro ⟨h1, h2, h3⟩
      exact ⟨_, _, by rw [if_pos h1], by rw [if_pos h2], h3⟩
    · rintro ⟨p, q, h1, h2, h3⟩
      split at h1
      · split at h2
        · cases h1; cases h2
          exact ⟨by assumption, by assumption, h3⟩
        · cases h2
      · cases h1
theorem fits_ok (k : Int) (e f : FSg) (d : Int) (hd : inI d) (he : HS e) (hf : HS f) : Eval Tryz.prog 24 [i64V k, sgAV e, sgAV f, i64V d] (.ret (boolV (fitsB k e f d))) := by
  obtain ⟨out, hout⟩ : ∃ o, o = fitsB k e f d := ⟨_, rfl⟩
  rw [← hout]
  unfold fitsB at hout
  have ze := he.sz
  have zf := hf.sz
  have c1 := cmpP_ok e.A e.B (by unfold szS at ze; omega)
  have c2 := cmpP_ok f.A f.B (by unfold szS at zf; omega)
  obtain ⟨i, hi⟩ : ∃ i, i = cmpP e.A e.B := ⟨_, rfl⟩
  obtain ⟨j, hj⟩ : ∃ i, i = cmpP f.A f.B := ⟨_, rfl⟩
  rw [← hi] at c1 hout
  rw [← hj] at c2 hout
  have w1 := way_ok e f (by omega)
  obtain ⟨w, hw⟩ : ∃ i, i = (wayD e.v f.v).num.sign := ⟨_, rfl⟩
  rw [← hw] at w1 hout
  have d1 := side_ok e.A e.B f.A (by unfold szS at ze zf; omega)
  have d2 := side_ok e.A e.B f.B (by unfold szS at ze zf; omega)
  obtain ⟨u, hu⟩ : ∃ i, i = sideOf e.A e.B f.A := ⟨_, rfl⟩
  obtain ⟨v, hv⟩ : ∃ i, i = sideOf e.A e.B f.B := ⟨_, rfl⟩
  rw [← hu] at d1 hout
  rw [← hv] at d2 hout
  have h1 := half_ok (ruleF k) e f (by omega)
  have h2 := half_ok (ruleE k) f e (by omega)
  have zp := half_sz he hf (ruleF k)
  have zq := half_sz hf he (ruleE k)
  have r1 := fun (a : 1 ≤ k) (b : k ≤ 6) => ruleOf_ok k a b
  obtain ⟨p, hp⟩ : ∃ p, p = halfF (ruleF k) e f := ⟨_, rfl⟩
  obtain ⟨q, hq⟩ : ∃ p, p = halfF (ruleE k) f e := ⟨_, rfl⟩
  obtain ⟨a, ha⟩ : ∃ p, p = hasF (ruleF k) e f := ⟨_, rfl⟩
  obtain ⟨b, hb⟩ : ∃ p, p = hasF (ruleE k) f e := ⟨_, rfl⟩
  rw [← hp, ← ha] at h1
  rw [← hq, ← hb] at h2
  rw [← hp] at zp hout
  rw [← hq] at zq hout
  rw [← ha, ← hb] at hout
  have t1 := closer_ok p q d hd (by omega)
  obtain ⟨c, hc⟩ : ∃ x, x = closerB p q d := ⟨_, rfl⟩
  rw [← hc] at t1 hout
  obtain ⟨rW, hrW⟩ : ∃ x, x = ruleW k := ⟨_, rfl⟩
  obtain ⟨rE, hrE⟩ : ∃ x, x = ruleE k := ⟨_, rfl⟩
  obtain ⟨rF, hrF⟩ : ∃ x, x = ruleF k := ⟨_, rfl⟩
  rw [← hrF] at h1
  rw [← hrE] at h2
  rw [← hrW] at hout
  rw [← hrW, ← hrE, ← hrF] at r1
  clear hi hj hw hu hv hp hq ha hb hc hrW hrE hrF zp zq ze zf hd he hf
  by_cases k1 : k < 1
  · rw [decide_eq_false (by omega), Bool.false_and] at hout
    have g1 : (k < 1) = True := eq_true k1
    refine Eval.intro Tryz.func24 rfl Tryz.call24 _ _ (Nat.le_of_ble_eq_true rfl) (by simp [-map_take,-map_drop, AV.refs, refsL, natAV, zAV, zC, ratAV, ratC, ptAV, ptC, sgAV, sgC, push_cast]) fun hs0 => ?_
    repeat' (first
      | with_reducible first | apply thenW_n | apply thenW_ret | apply W_seq | apply W_ret
      | with_reducible refine W_rg ?_
      | (rw [vcn]; (try simp [-map_take,-map_drop, push_cast, sgAV, sgC, ptC, ratC, zC, g1]))
      | (with_reducible refine W_condW ?_; (try simp [-map_take,-map_drop, AS.val, upd, resB, mkS_env, mkS_box, lk, entry_env, condW_true, condW_false, sgAV, sgC, ptC, ratC, zC, g1]))
      | fail)
    simp [-map_take,-map_drop, post, resAV, resAll, resOne, closeV, closeC, closeL, resD, resDL, push_cast, hout]
  rw [decide_eq_true (by omega), Bool.true_and] at hout
  have g1 : (k < 1) = False := eq_false k1
  by_cases k2 : 6 < k
  · rw [decide_eq_false (by omega), Bool.false_and] at hout
    have g2 : (6 < k) = True := eq_true k2
    refine Eval.intro Tryz.func24 rfl Tryz.call24 _ _ (Nat.le_of_ble_eq_true rfl) (by simp [-map_take,-map_drop, AV.refs, refsL, natAV, zAV, zC, ratAV, ratC, ptAV, ptC, sgAV, sgC, push_cast]) fun hs0 => ?_
    repeat' (first
      | with_reducible first | apply thenW_n | apply thenW_ret | apply W_seq | apply W_ret
      | with_reducible refine W_rg ?_
      | (rw [vcn]; (try simp [-map_take,-map_drop, push_cast, sgAV, sgC, ptC, ratC, zC, g1, g2]))
      | (with_reducible refine W_condW ?_; (try simp [-map_take,-map_drop, AS.val, upd, resB, mkS_env, mkS_box, lk, entry_env, condW_true, condW_false, sgAV, sgC, ptC, ratC, zC, g1, g2]))
      | fail)
    simp [-map_take,-map_drop, post, resAV, resAll, resOne, closeV, closeC, closeL, resD, resDL, push_cast, hout]
  rw [decide_eq_true (by omega), Bool.true_and] at hout
  have g2 : (6 < k) = False := eq_false k2
  by_cases k3 : d ≤ 0
  · rw [decide_eq_false (by omega), Bool.false_and] at hout
    have g3 : (d ≤ 0) = True := eq_true k3
    refine Eval.intro Tryz.func24 rfl Tryz.call24 _ _ (Nat.le_of_ble_eq_true rfl) (by simp [-map_take,-map_drop, AV.refs, refsL, natAV, zAV, zC, ratAV, ratC, ptAV, ptC, sgAV, sgC, push_cast]) fun hs0 => ?_
    repeat' (first
      | with_reducible first | apply thenW_n | apply thenW_ret | apply W_seq | apply W_ret
      | with_reducible refine W_rg ?_
      | (rw [vcn]; (try simp [-map_take,-map_drop, push_cast, sgAV, sgC, ptC, ratC, zC, g1, g2, g3]))
      | (with_reducible refine W_condW ?_; (try simp [-map_take,-map_drop, AS.val, upd, resB, mkS_env, mkS_box, lk, entry_env, condW_true, condW_false, sgAV, sgC, ptC, ratC, zC, g1, g2, g3]))
      | fail)
    simp [-map_take,-map_drop, post, resAV, resAll, resOne, closeV, closeC, closeL, resD, resDL, push_cast, hout]
  rw [decide_eq_true (by omega), Bool.true_and] at hout
  have g3 : (d ≤ 0) = False := eq_false k3
  have r1 := r1 (by omega) (by omega)
  refine Eval.intro Tryz.func24 rfl Tryz.call24 _ _ (Nat.le_of_ble_eq_true rfl) (by simp [-map_take,-map_drop, AV.refs, refsL, natAV, zAV, zC, ratAV, ratC, ptAV, ptC, sgAV, sgC, push_cast]) fun hs0 => ?_
  repeat' (first
    | with_reducible first | apply thenW_n | apply W_seq
    | with_reducible refine W_rg ?_
    | (rw [vcn]; (try simp [-map_take,-map_drop, push_cast, sgAV, sgC, ptC, ratC, zC, g1, g2, g3]))
    | fail)
  refine CallG_of (c1) rfl rfl rfl ?_
  try dsimp only
  by_cases i0 : i = 0
  · have hout : out = false := by rw [hout, i0]; rfl
    repeat' (first
      | with_reducible first | apply thenW_n | apply thenW_ret | apply W_seq | apply W_ret
      | with_reducible refine W_rg ?_
      | (rw [vcn]; (try simp [-map_take,-map_drop, push_cast, i0]))
      | (with_reducible refine W_condW ?_; (try simp [-map_take,-map_drop, AS.val, upd, resB, mkS_env, mkS_box, lk, entry_env, condW_true, condW_false, i0]))
      | fail)
    simp [-map_take,-map_drop, post, resAV, resAll, resOne, closeV, closeC, closeL, resD, resDL, push_cast, hout]
  have hout : out = ((j != 0) && ((w == rW) && (!((u == 0) && (v == 0)) && (a && (b && c))))) := by
    rw [hout, bne_iff_ne.2 i0]; rfl
  repeat' (first
    | (rw [vcn]; (try simp [-map_take,-map_drop, push_cast, i0, sgAV, sgC, ptC, ratC, zC]))
    | fail)
  refine CallG_of (c2) rfl rfl rfl ?_
  try dsimp only
  by_cases j0 : j = 0
  · have hout : out = false := by rw [hout, j0]; rfl
    repeat' (first
      | with_reducible first | apply thenW_n | apply thenW_ret | apply W_seq | apply W_ret
      | with_reducible refine W_rg ?_
      | (rw [vcn]; (try simp [-map_take,-map_drop, push_cast, i0, j0]))
      | (with_reducible refine W_condW ?_; (try simp [-map_take,-map_drop, AS.val, upd, resB, mkS_env, mkS_box, lk, entry_env, condW_true, condW_false, i0, j0]))
      | fail)
    simp [-map_take,-map_drop, post, resAV, resAll, resOne, closeV, closeC, closeL, resD, resDL, push_cast, hout]
  have hout : out = ((w == rW) && (!((u == 0) && (v == 0)) && (a && (b && c)))) := by
    rw [hout, bne_iff_ne.2 j0]; rfl
  repeat' (first
    | with_reducible first | apply thenW_n | apply W_seq | apply W_skip
    | with_reducible refine W_rg ?_
    | (rw [vcn]; (try simp [-map_take,-map_drop, push_cast, i0, j0, sgAV, sgC, ptC, ratC, zC]))
    | (with_reducible refine W_condW ?_; (try simp [-map_take,-map_drop, AS.val, upd, resB, mkS_env, mkS_box, lk, entry_env, condW_true, condW_false, i0, j0, sgAV, sgC, ptC, ratC, zC]))
    | ((with_reducible refine condW_b (fun hc => ?_) (fun hc => ?_) <;> (try simp [-map_take,-map_drop, Int.ofNat_inj] at hc) <;> (try contradiction)))
    | fail)
  refine CallG_of (r1) rfl rfl rfl ?_
  try dsimp only
  repeat' (first
    | with_reducible first | apply thenW_n | apply W_seq
    | (rw [vcn]; (try simp [-map_take,-map_drop, push_cast, sgAV, sgC, ptC, ratC, zC]))
    | with_reducible refine W_drawn mixed (by decide) (by kernel_rfl) ?_
    | (rw [vcnD]; (try simp [-map_take,-map_drop, push_cast, sgAV, sgC, ptC, ratC, zC]))
    | fail)
  refine callD_of (w1) rfl rfl rfl ?_
  try dsimp only
  by_cases w0 : w = rW
  · have hout : out = (!((u == 0) && (v == 0)) && (a && (b && c))) := by
      rw [hout, beq_iff_eq.2 w0]; rfl
    have w0' : (w = rW) = True := eq_true w0
    repeat' (first
      | (rw [vcnD]; (try simp [-map_take,-map_drop, push_cast, w0', sgAV, sgC, ptC, ratC, zC]))
      | fail)
    refine callD_of (d1) rfl rfl rfl ?_
    try dsimp only
    by_cases hh : u = 0 ∧ v = 0
    · have hout : out = false := by rw [hout, hh.1, hh.2]; rfl
      have u0 := hh.1
      have v0 := hh.2
      repeat' (first
        | (rw [vcnD]; (try simp [-map_take,-map_drop, push_cast, w0', u0, sgAV, sgC, ptC, ratC, zC]))
        | fail)
      refine callD_of (d2) rfl rfl rfl ?_
      try dsimp only
      repeat' (first
        | with_reducible first | apply thenW_n | apply thenW_ret | apply W_seq | apply W_ret
        | with_reducible refine W_rg ?_
        | (rw [vcn]; (try simp [-map_take,-map_drop, push_cast, w0', u0, v0]))
        | (rw [vcnD]; (try simp [-map_take,-map_drop, push_cast, w0', u0, v0]))
        | (with_reducible refine W_condW ?_; (try simp [-map_take,-map_drop, AS.val, upd, resB, mkS_env, mkS_box, lk, entry_env, condW_true, condW_false, w0', u0, v0]))
        | refine And.intro (by first | omega | kernel_rfl) ?_
        | fail)
      simp [-map_take,-map_drop, post, resAV, resAll, resOne, closeV, closeC, closeL, resD, resDL, push_cast, hout]
    · have hout : out = (a && (b && c)) := by
        rw [hout]
        by_cases u0 : u = 0
        · rw [beq_eq_false_iff_ne.2 (fun k => hh ⟨u0, k⟩)]; simp [-map_take,-map_drop]
        · rw [beq_eq_false_iff_ne.2 u0]; simp [-map_take,-map_drop]
      by_cases u0 : u = 0
      · have v0 : ¬ v = 0 := fun k => hh ⟨u0, k⟩
        repeat' (first
          | (rw [vcnD]; (try simp [-map_take,-map_drop, push_cast, w0', u0, sgAV, sgC, ptC, ratC, zC]))
          | fail)
        refine callD_of (d2) rfl rfl rfl ?_
        try dsimp only
        repeat' (first
          | with_reducible first | apply thenW_n | apply W_seq | apply W_skip
          | with_reducible refine W_rg ?_
          | (rw [vcn]; (try simp [-map_take,-map_drop, push_cast, w0', u0, v0, sgAV, sgC, ptC, ratC, zC]))
          | (rw [vcnD]; (try simp [-map_take,-map_drop, push_cast, w0', u0, v0, sgAV, sgC, ptC, ratC, zC]))
          | (with_reducible refine W_condW ?_; (try simp [-map_take,-map_drop, AS.val, upd, resB, mkS_env, mkS_box, lk, entry_env, condW_true, condW_false, w0', u0, v0, sgAV, sgC, ptC, ratC, zC]))
          | refine And.intro (by first | omega | kernel_rfl) ?_
          | ((with_reducible refine condW_b (fun hc => ?_) (fun hc => ?_) <;> (try simp [-map_take,-map_drop, Int.ofNat_inj] at hc) <;> (try contradiction)))
          | fail)
        refine CallG_of (h1) rfl rfl rfl ?_
        try dsimp only
        repeat' (first
          | with_reducible first | apply thenW_n | apply W_seq
          | with_reducible refine W_rg ?_
          | (rw [vcn]; (try simp [-map_take,-map_drop, push_cast, sgAV, sgC, ptC, ratC, zC]))
          | fail)
        refine CallG_of (h2) rfl rfl rfl ?_
        try dsimp only
        cases a with
        | false =>
          repeat' (first
            | with_reducible first | apply thenW_n | apply W_seq | apply W_ret
            | with_reducible refine W_rg ?_
            | (rw [vcn]; (try simp [-map_take,-map_drop, push_cast, sgAV, sgC, ptC, ratC, zC]))
            | fail)
          simp [-map_take,-map_drop, post, resAV, resAll, resOne, closeV, closeC, closeL, resD, resDL, push_cast, hout]
        | true =>
          cases b with
          | false =>
            repeat' (first
              | with_reducible first | apply thenW_n | apply W_seq | apply W_ret
              | with_reducible refine W_rg ?_
              | (rw [vcn]; (try simp [-map_take,-map_drop, push_cast, sgAV, sgC, ptC, ratC, zC]))
              | fail)
            simp [-map_take,-map_drop, post, resAV, resAll, resOne, closeV, closeC, closeL, resD, resDL, push_cast, hout]
          | true =>
            repeat' (first
              | with_reducible first | apply thenW_n | apply W_seq
              | with_reducible refine W_rg ?_
              | (rw [vcn]; (try simp [-map_take,-map_drop, push_cast, sgAV, sgC, ptC, ratC, zC]))
              | fail)
            refine CallG_of (t1) rfl rfl rfl ?_
            try dsimp only
            repeat' (first
              | with_reducible first | apply thenW_n | apply W_ret
              | (rw [vcn]; (try simp [-map_take,-map_drop, push_cast]))
              | fail)
            simp [-map_take,-map_drop, post, resAV, resAll, resOne, closeV, closeC, closeL, resD, resDL, push_cast, hout]
      · skip
        repeat' (first
          | with_reducible first | apply thenW_n | apply W_seq | apply W_skip
          | with_reducible refine W_rg ?_
          | (rw [vcn]; (try simp [-map_take,-map_drop, push_cast, w0', u0, sgAV, sgC, ptC, ratC, zC]))
          | (rw [vcnD]; (try simp [-map_take,-map_drop, push_cast, w0', u0, sgAV, sgC, ptC, ratC, zC]))
          | (with_reducible refine W_condW ?_; (try simp [-map_take,-map_drop, AS.val, upd, resB, mkS_env, mkS_box, lk, entry_env, condW_true, condW_false, w0', u0, sgAV, sgC, ptC, ratC, zC]))
          | refine And.intro (by first | omega | kernel_rfl) ?_
          | fail)
        refine CallG_of (h1) rfl rfl rfl ?_
        try dsimp only
        repeat' (first
          | with_reducible first | apply thenW_n | apply W_seq
          | with_reducible refine W_rg ?_
          | (rw [vcn]; (try simp [-map_take,-map_drop, push_cast, sgAV, sgC, ptC, ratC, zC]))
          | fail)
        refine CallG_of (h2) rfl rfl rfl ?_
        try dsimp only
        cases a with
        | false =>
          repeat' (first
            | with_reducible first | apply thenW_n | apply W_seq | apply W_ret
            | with_reducible refine W_rg ?_
            | (rw [vcn]; (try simp [-map_take,-map_drop, push_cast, sgAV, sgC, ptC, ratC, zC]))
            | fail)
          simp [-map_take,-map_drop, post, resAV, resAll, resOne, closeV, closeC, closeL, resD, resDL, push_cast, hout]
        | true =>
          cases b with
          | false =>
            repeat' (first
              | with_reducible first | apply thenW_n | apply W_seq | apply W_ret
              | with_reducible refine W_rg ?_
              | (rw [vcn]; (try simp [-map_take,-map_drop, push_cast, sgAV, sgC, ptC, ratC, zC]))
              | fail)
            simp [-map_take,-map_drop, post, resAV, resAll, resOne, closeV, closeC, closeL, resD, resDL, push_cast, hout]
          | true =>
            repeat' (first
              | with_reducible first | apply thenW_n | apply W_seq
              | with_reducible refine W_rg ?_
              | (rw [vcn]; (try simp [-map_take,-map_drop, push_cast, sgAV, sgC, ptC, ratC, zC]))
              | fail)
            refine CallG_of (t1) rfl rfl rfl ?_
            try dsimp only
            repeat' (first
              | with_reducible first | apply thenW_n | apply W_ret
              | (rw [vcn]; (try simp [-map_take,-map_drop, push_cast]))
              | fail)
            simp [-map_take,-map_drop, post, resAV, resAll, resOne, closeV, closeC, closeL, resD, resDL, push_cast, hout]
  · have hout : out = false := by rw [hout, beq_eq_false_iff_ne.2 w0]; rfl
    have w0' : (w = rW) = False := eq_false w0
    repeat' (first
      | with_reducible first | apply thenW_n | apply thenW_ret | apply W_seq | apply W_ret
      | with_reducible refine W_rg ?_
      | (rw [vcn]; (try simp [-map_take,-map_drop, push_cast, w0']))
      | (rw [vcnD]; (try simp [-map_take,-map_drop, push_cast, w0']))
      | (with_reducible refine W_condW ?_; (try simp [-map_take,-map_drop, AS.val, upd, resB, mkS_env, mkS_box, lk, entry_env, condW_true, condW_false, w0']))
      | refine And.intro (by first | omega | kernel_rfl) ?_
      | fail)
    simp [-map_take,-map_drop, post, resAV, resAll, resOne, closeV, closeC, closeL, resD, resDL, push_cast, hout]
end Go.Fw

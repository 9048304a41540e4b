/- The document's pairs (19): turn, product, near, Fits. -/
import Derived.Test.YtehmofcajiefiaaGreatY1b
import Derived.Test.YtehmofcajiefiaaGreatU7
set_option linter.unusedSimpArgs false
set_option linter.unusedVariables false
-- VALS: rAV, rC, dAV, dC, d3AV, d3C, ratD, RD.av, DP.av, DP.av2, dpC
namespace Go.Fw
open Go Go.Proofs Go.IntWalk
set_option linter.unusedSimpArgs false
set_option maxRecDepth 100000
set_option maxHeartbeats 20000000
theorem clipR_cases (a b c d : DP) : (clipR a b c d = [] ∨ (∃ p, clipR a b c d = [p] ∧ szP3 p ≤ 12 * (szP3 a + szP3 b + szP3 c + szP3 d) + 15) ∨ ∃ p q, clipR a b c d = [p, q] ∧ szP3 p ≤ 12 * (szP3 a + szP3 b + szP3 c + szP3 d) + 15 ∧ szP3 q ≤ 12 * (szP3 a + szP3 b + szP3 c + szP3 d) + 15) := by
  have h := sz_crossP a b c d
  unfold clipR
  (repeat' split)
  · exact .inr (.inl ⟨a, rfl, by omega⟩)
  · exact .inr (.inr ⟨a, b, rfl, by omega, by omega⟩)
  · exact .inl rfl
  · exact .inr (.inl ⟨a, rfl, by omega⟩)
  · exact .inr (.inl ⟨b, rfl, by omega⟩)
  · exact .inr (.inr ⟨a, _, rfl, by omega, h⟩)
  · exact .inr (.inr ⟨_, b, rfl, h, by omega⟩)
def spanR (l : List DP) : Option (DP × DP) := match l with
  | [p] => some (p, p)
  | [p, q] => some (p, q)
  | _ => none
def nearL (l m : List DP) (n : Int) : Bool :=
  match spanR l, spanR m with
  | some p, some q => closerR p.1 p.2 q.1 q.2 n
  | _, _ => false
def nearR (a b c d e1 e2 f1 f2 : DP) (n : Int) : Bool := nearL (clipR a b f1 f2) (clipR c d e1 e2) n
theorem spanR_v {a b c d : DP} (ha : 0 < a.w) (hb : 0 < b.w) (hc : 0 < c.w) (hd : 0 < d.w) : (spanR (clipR a b c d)).map (fun p => Sg.mk p.1.v p.2.v) = spanOf (clip ⟨a.v, b.v⟩ ⟨c.v, d.v⟩) ∧ ∀ p, spanR (clipR a b c d) = some p → 0 < p.1.w ∧ 0 < p.2.w := by
  obtain ⟨h1, h2⟩ := clipR_v ha hb hc hd
  rw [← h1]
  rcases clipR_cases a b c d with h | ⟨p, h, _⟩ | ⟨p, q, h, _, _⟩ <;> rw [h] at h2 ⊢
  · exact ⟨rfl, fun p hp => by cases hp⟩
  · refine ⟨rfl, fun x hx => ?_⟩
    cases hx
    exact ⟨h2 p (by simp), h2 p (by simp)⟩
  · refine ⟨rfl, fun x hx => ?_⟩
    cases hx
    exact ⟨h2 p (by simp), h2 q (by simp)⟩
theorem nearR_iff {a b c d e1 e2 f1 f2 : DP} (ha : 0 < a.w) (hb : 0 < b.w) (hc : 0 < c.w) (hd : 0 < d.w) (he1 : 0 < e1.w) (he2 : 0 < e2.w) (hf1 : 0 < f1.w) (hf2 : 0 < f2.w) (n : Int) :
    nearR a b c d e1 e2 f1 f2 n = true ↔ ∃ p q, spanOf (clip ⟨a.v, b.v⟩ ⟨f1.v, f2.v⟩) = some p ∧ spanOf (clip ⟨c.v, d.v⟩ ⟨e1.v, e2.v⟩) = some q ∧ closerD p q n := by
  obtain ⟨h1, h2⟩ := spanR_v ha hb hf1 hf2
  obtain ⟨h3, h4⟩ := spanR_v hc hd he1 he2
  rw [← h1, ← h3]
  unfold nearR nearL
  generalize spanR (clipR a b f1 f2) = x at *
  generalize spanR (clipR c d e1 e2) = y at *
  cases x with
  | none =>
    constructor
    · intro h; cases h
    · rintro ⟨p, q, h, _, _⟩; cases h
  | some x =>
    cases y with
    | none =>
      constructor
      · intro h; cases h
      · rintro ⟨p, q, _, h, _⟩; cases h
    | some y =>
      obtain ⟨x1, x2⟩ := h2 x rfl
      obtain ⟨y1, y2⟩ := h4 y rfl
      have := closerR_iff x1 x2 y1 y2 n
      constructor
      · intro h
        exact ⟨_, _, rfl, rfl, this.1 h⟩
      · rintro ⟨p, q, e1, e2, h⟩
        cases e1
        cases e2
        exact this.2 h
def prodR (a b c d : DP) : Int := cmpD (timesR a b d) (timesR a b c)
theorem prodR_v {a b c d : DP} (ha : 0 < a.w) (hb : 0 < b.w) (hc : 0 < c.w) (hd : 0 < d.w) : (prodR a b c d < 0 ↔ (wayD ⟨a.v, b.v⟩ ⟨c.v, d.v⟩).num.sign = -1) ∧ (0 < prodR a b c d ↔ (wayD ⟨a.v, b.v⟩ ⟨c.v, d.v⟩).num.sign = 1) := by
  obtain ⟨t1, t2⟩ := timesR_q ha hb hd
  obtain ⟨t3, t4⟩ := timesR_q ha hb hc
  have e := cmpD_q t2 t4
  rw [t1, t3] at e
  have hw := wayD_dot ⟨a.v, b.v⟩ ⟨c.v, d.v⟩
  unfold prodR
  rw [e, sign_num, hw]
  dsimp only
  generalize dot a.v b.v d.v = x
  generalize dot a.v b.v c.v = y
  by_cases h1 : x < y
  · have h2 : x - y < 0 := by grind
    simp [h1, h2]
  · have h2 : ¬ x - y < 0 := by grind
    by_cases h3 : y < x
    · have h4 : 0 < x - y := by grind
      simp [h1, h2, h3, h4]
    · have h4 : ¬ 0 < x - y := by grind
      simp [h1, h2, h3, h4]
def kindR (k w : Int) (x y z : Bool) : Bool :=
  if k = 1 ∨ k = 6 then decide (w < 0) && x else if k = 2 ∨ k = 3 ∨ k = 4 then decide (w < 0) && y else if k = 5 then decide (0 < w) && z else false
def fitsR (k : Int) (a b c d : DP) (n : Int) : Bool :=
  decide (0 < n) && ((cmp3 a b != 0) && ((cmp3 c d != 0) && (!((sd3 a b c == 0) && (sd3 a b d == 0)) &&
    kindR k (prodR a b c d) (nearR a b c d a b c d n) (nearR a b c d b a d c n) (nearR a b c d b a c d n))))
theorem sd3_zero {a b c : DP} (ha : 0 < a.w) (hb : 0 < b.w) (hc : 0 < c.w) : sd3 a b c = 0 ↔ cross a.v b.v c.v = 0 := by
  unfold sd3
  rw [side3_v ha hb hc]
  generalize cross a.v b.v c.v = q
  constructor
  · intro h
    by_cases h1 : q < 0
    · rw [if_pos h1] at h; omega
    · by_cases h2 : 0 < q
      · rw [if_neg h1, if_pos h2] at h; omega
      · grind
  · intro h; rw [h]; rfl
theorem fitsR_iff {a b c d : DP} (ha : 0 < a.w) (hb : 0 < b.w) (hc : 0 < c.w) (hd : 0 < d.w) (k n : Int) : fitsR k a b c d n = true ↔ fitsD k ⟨a.v, b.v⟩ ⟨c.v, d.v⟩ n := by
  obtain ⟨p1, p2⟩ := prodR_v ha hb hc hd
  have n1 := nearR_iff ha hb hc hd ha hb hc hd n
  have n2 := nearR_iff ha hb hc hd hb ha hd hc n
  have n3 := nearR_iff ha hb hc hd hb ha hc hd n
  have key : kindR k (prodR a b c d) (nearR a b c d a b c d n) (nearR a b c d b a d c n) (nearR a b c d b a c d n) = true ↔ 1 ≤ k ∧ k ≤ 6 ∧ (wayD ⟨a.v, b.v⟩ ⟨c.v, d.v⟩).num.sign = ruleW k ∧ ∃ p q, half (ruleF k) ⟨a.v, b.v⟩ ⟨c.v, d.v⟩ = some p ∧ half (ruleE k) ⟨c.v, d.v⟩ ⟨a.v, b.v⟩ = some q ∧ closerD p q n := by
    unfold kindR
    by_cases h1 : k = 1 ∨ k = 6
    · have e1 : ruleW k = -1 := by unfold ruleW; rw [if_neg (by omega)]
      have e2 : ruleE k = 1 := by unfold ruleE; rw [if_pos h1]
      have e3 : ruleF k = 1 := by unfold ruleF; rw [if_pos (by omega)]
      rw [if_pos h1, Bool.and_eq_true, decide_eq_true_eq, p1, n1, e1, e2, e3]
      exact ⟨fun h => ⟨by omega, by omega, h.1, h.2⟩, fun h => ⟨h.2.2.1, h.2.2.2⟩⟩
    · rw [if_neg h1]
      by_cases h2 : k = 2 ∨ k = 3 ∨ k = 4
      · have e1 : ruleW k = -1 := by unfold ruleW; rw [if_neg (by omega)]
        have e2 : ruleE k = -1 := by unfold ruleE; rw [if_neg h1]
        have e3 : ruleF k = -1 := by unfold ruleF; rw [if_neg (by omega)]
        rw [if_pos h2, Bool.and_eq_true, decide_eq_true_eq, p1, n2, e1, e2, e3]
        exact ⟨fun h => ⟨by omega, by omega, h.1, h.2⟩, fun h => ⟨h.2.2.1, h.2.2.2⟩⟩
      · rw [if_neg h2]
        by_cases h3 : k = 5
        · have e1 : ruleW k = 1 := by unfold ruleW; rw [if_pos h3]
          have e2 : ruleE k = -1 := by unfold ruleE; rw [if_neg h1]
          have e3 : ruleF k = 1 := by unfold ruleF; rw [if_pos (by omega)]
          rw [if_pos h3, Bool.and_eq_true, decide_eq_true_eq, p2, n3, e1, e2, e3]
          exact ⟨fun h => ⟨by omega, by omega, h.1, h.2⟩, fun h => ⟨h.2.2.1, h.2.2.2⟩⟩
        · rw [if_neg h3]
          constructor
          · intro h; cases h
          · rintro ⟨h, h', _⟩; omega
  unfold fitsR fitsD
  simp only [Bool.and_eq_true, decide_eq_true_eq, bne_iff_ne, Bool.not_eq_true', Bool.and_eq_false_iff, beq_eq_false_iff_ne, key]
  rw [Ne, Ne, Ne, Ne, cmp3_zero ha hb, cmp3_zero hc hd, sd3_zero ha hb hc, sd3_zero ha hb hd]
  constructor
  · rintro ⟨h1, h2, h3, h4, h5, h6, h7, h8⟩
    refine ⟨h5, h6, h1, h2, h3, h7, ?_, h8⟩
    rintro ⟨q1, q2⟩
    rcases h4 with h4 | h4
    · exact h4 q1
    · exact h4 q2
  · rintro ⟨h5, h6, h1, h2, h3, h7, h4, h8⟩
    refine ⟨h1, h2, h3, ?_, h5, h6, h7, h8⟩
    by_cases q : Go.Fw.cross a.v b.v c.v = 0
    · exact .inr fun q2 => h4 ⟨q, q2⟩
    · exact .inl q
open List (map_take map_drop)
attribute [local push_cast] optK_some optK_none optK_ite optK_map optK_bind gOn stepK isMem evPure evMem evBin evUn evConv evLen evBuiltin evMinMax evSlice evBuild evAppend evIndex evIndexAddr evField evFieldAddr intBin strBin appDest AS.val AS.mem AS.elems AS.put AS.put' AS.eff AV.cells? AV.isCell AV.refs all_isByte take_byteV drop_byteV strOf_map bndOk bnd partAV ptrAdd killBox catA inOrder fillA setAt ofVal resB upd byteV List.head?_take List.head?_drop List.getElem?_map mkS_env mkS_box mkS_used entry_env entry_box entry_used lk stepD lookIds Oper.looksAt Op.operands Call.operands St.ids refsL renL_append ren renL renBox Box.refs iV i64V boolV dV_getElem dV_app dV_cons toNat_add2 toNat_add1
attribute [local simp ↓] numC_refs numC_isCell numC_cells numC_resB numC_resD numC_ren numC_closeC numC_isOwn
theorem turn19R_ok (a b : DP) : Eval Tryz.prog 66 [DP.av2 a b] (.ret (DP.av2 b a)) := by
  refine Eval.intro Tryz.func66 rfl Tryz.call66 _ _ (Nat.le_of_ble_eq_true rfl) (by simp [-map_take,-map_drop, AV.refs, refsL, natAV, rAV, rC, dAV, dC, d3AV, d3C, ratD, RD.av, DP.av, DP.av2, dpC, push_cast]) fun hs0 => ?_
  repeat' (first
    | with_reducible first | apply thenW_n | apply W_seq | apply W_ret
    | with_reducible refine W_rg ?_
    | (rw [vcn]; (try simp [-map_take,-map_drop, push_cast, DP.av2, DP.av, d3AV, d3C, RD.av, ratD, dpC, dC, rC, numC, ← tens.eq_1, dAV]))
    | fail)
  simp [-map_take,-map_drop, post, resAV, resAll, resOne, closeV, closeC, closeL, resD, resDL, push_cast, DP.av2, DP.av, d3AV, d3C, RD.av, ratD, dpC, dC, rC, numC, ← tens.eq_1, dAV]
theorem product19_ok (a b c d : DP) (h : szP3 a + szP3 b + szP3 c + szP3 d ≤ 10000) : Eval Tryz.prog 64 [DP.av2 a b, DP.av2 c d] (.ret (i64V (prodR a b c d))) := by
  have z1 := timesR_sz a b d
  have z2 := timesR_sz a b c
  have e1 := times11R_ok a b d (by omega)
  have e2 := times11R_ok a b c (by omega)
  have e3 := cmp03_ok (timesR a b d) (timesR a b c) (by omega)
  unfold prodR
  obtain ⟨x, nm_⟩ : ∃ nm0_, nm0_ = timesR a b d := ⟨_, rfl⟩
  simp only [← nm_] at e1 e3 ⊢
  clear nm_
  obtain ⟨y, nm_⟩ : ∃ nm0_, nm0_ = timesR a b c := ⟨_, rfl⟩
  simp only [← nm_] at e2 e3 ⊢
  clear nm_
  obtain ⟨r, nm_⟩ : ∃ nm0_, nm0_ = cmpD x y := ⟨_, rfl⟩
  simp only [← nm_] at e3 ⊢
  clear nm_
  clear z1 z2 h
  refine Eval.intro Tryz.func64 rfl Tryz.call64 _ _ (Nat.le_of_ble_eq_true rfl) (by simp [-map_take,-map_drop, AV.refs, refsL, natAV, rAV, rC, dAV, dC, d3AV, d3C, ratD, RD.av, DP.av, DP.av2, dpC, push_cast]) fun hs0 => ?_
  repeat' (first
    | with_reducible first | apply thenW_n | apply W_seq
    | with_reducible refine W_rg ?_
    | (rw [vcn]; (try simp [-map_take,-map_drop, push_cast, DP.av2, DP.av, d3AV, d3C, RD.av, ratD, dpC, dC, rC, numC, ← tens.eq_1, dAV]))
    | fail)
  refine CallG_of (e1) rfl rfl rfl ?_
  try dsimp only
  repeat' (first
    | with_reducible first | apply thenW_n | apply W_seq
    | with_reducible refine W_rg ?_
    | (rw [vcn]; (try simp [-map_take,-map_drop, push_cast, DP.av2, DP.av, d3AV, d3C, RD.av, ratD, dpC, dC, rC, numC, ← tens.eq_1, dAV]))
    | fail)
  refine CallG_of (e2) rfl rfl rfl ?_
  try dsimp only
  repeat' (first
    | with_reducible first | apply thenW_n | apply W_seq
    | with_reducible refine W_rg ?_
    | (rw [vcn]; (try simp [-map_take,-map_drop, push_cast, DP.av2, DP.av, d3AV, d3C, RD.av, ratD, dpC, dC, rC, numC, ← tens.eq_1, dAV]))
    | fail)
  refine CallG_of (e3) rfl rfl rfl ?_
  try dsimp only
  repeat' (first
    | with_reducible first | apply thenW_n | apply W_ret
    | (rw [vcn]; (try simp [-map_take,-map_drop, push_cast, DP.av2, DP.av, d3AV, d3C, RD.av, ratD, dpC, dC, rC, numC, ← tens.eq_1, dAV]))
    | fail)
  simp [-map_take,-map_drop, post, resAV, resAll, resOne, closeV, closeC, closeL, resD, resDL, push_cast, DP.av2, DP.av, d3AV, d3C, RD.av, ratD, dpC, dC, rC, numC, ← tens.eq_1, dAV]
theorem near19R_ok (a b c d e1 e2 f1 f2 : DP) (n : Int) (hn : inI n) (h1 : szP3 a + szP3 b + szP3 f1 + szP3 f2 ≤ 60) (h2 : szP3 c + szP3 d + szP3 e1 + szP3 e2 ≤ 60) :
    Eval Tryz.prog 65 [DP.av2 a b, DP.av2 c d, DP.av2 e1 e2, DP.av2 f1 f2, i64V n] (.ret (boolV (nearR a b c d e1 e2 f1 f2 n))) := by
  have c1 := clip11_ok a b f1 f2 (by omega)
  have c2 := clip11_ok c d e1 e2 (by omega)
  have k1 := clipR_cases a b f1 f2
  have k2 := clipR_cases c d e1 e2
  have r2 := dpsC_refs (clipR c d e1 e2)
  have on : ∀ u : DP, dpsC [u] = dpC u := fun u => by simp [-map_take,-map_drop, dpsC]
  have tw : ∀ u v : DP, dpsC [u, v] = dpC u ++ dpC v := fun u v => by simp [-map_take,-map_drop, dpsC]
  have nl : dpsC [] = [] := rfl
  have l0 : ([] : List DP).length = 0 := rfl
  have l1 : ∀ u : DP, [u].length = 1 := fun _ => rfl
  have l2 : ∀ u v : DP, [u, v].length = 2 := fun _ _ => rfl
  unfold nearR
  obtain ⟨L1, nm_⟩ : ∃ nm0_, nm0_ = clipR a b f1 f2 := ⟨_, rfl⟩
  simp only [← nm_] at c1 k1 ⊢
  clear nm_
  obtain ⟨L2, nm_⟩ : ∃ nm0_, nm0_ = clipR c d e1 e2 := ⟨_, rfl⟩
  simp only [← nm_] at c2 k2 r2 ⊢
  clear nm_
  rcases k1 with rfl | ⟨p, rfl, z1⟩ | ⟨p, q, rfl, z1, z2⟩
  · have hr : nearL [] L2 n = false := rfl
    rw [hr]
    rw [nl, l0] at c1
    obtain ⟨N2, nm_⟩ : ∃ nm0_, nm0_ = L2.length := ⟨_, rfl⟩
    simp only [← nm_] at c2
    clear nm_
    obtain ⟨D2, nm_⟩ : ∃ nm0_, nm0_ = dpsC L2 := ⟨_, rfl⟩
    simp only [← nm_] at c2 r2
    clear nm_
    clear h1 h2 k2 on tw nl l0 l1 l2 hr
    refine Eval.intro Tryz.func65 rfl Tryz.call65 _ _ (Nat.le_of_ble_eq_true rfl) (by simp [-map_take,-map_drop, AV.refs, refsL, natAV, rAV, rC, dAV, dC, d3AV, d3C, ratD, RD.av, DP.av, DP.av2, dpC, push_cast]) fun hs0 => ?_
    repeat' (first
      | with_reducible first | apply thenW_n | apply W_seq
      | with_reducible refine W_rg ?_
      | (rw [vcn]; (try simp [-map_take,-map_drop, push_cast, DP.av2, DP.av, d3AV, d3C, RD.av, ratD, dpC, dC, rC, numC, ← tens.eq_1, dAV, r2]))
      | with_reducible refine W_drawn mixed (by decide) (by kernel_rfl) ?_
      | (rw [vcnD]; (try simp [-map_take,-map_drop, push_cast, DP.av2, DP.av, d3AV, d3C, RD.av, ratD, dpC, dC, rC, numC, ← tens.eq_1, dAV, r2]))
      | fail)
    refine callD_of (c1) rfl rfl rfl ?_
    try dsimp only
    repeat' (first
      | (rw [vcnD]; (try simp [-map_take,-map_drop, push_cast, DP.av2, DP.av, d3AV, d3C, RD.av, ratD, dpC, dC, rC, numC, ← tens.eq_1, dAV, r2]))
      | fail)
    refine callD_of (c2) rfl rfl rfl ?_
    try dsimp only
    repeat' (first
      | with_reducible first | apply thenW_n | apply thenW_ret | apply W_seq | apply W_ret
      | with_reducible refine W_rg ?_
      | (rw [vcn]; (try simp [-map_take,-map_drop, push_cast, DP.av2, DP.av, d3AV, d3C, RD.av, ratD, dpC, dC, rC, numC, ← tens.eq_1, dAV, r2]))
      | (rw [vcnD]; (try simp [-map_take,-map_drop, push_cast, DP.av2, DP.av, d3AV, d3C, RD.av, ratD, dpC, dC, rC, numC, ← tens.eq_1, dAV, r2]))
      | (with_reducible refine W_condW ?_; (try simp [-map_take,-map_drop, AS.val, upd, resB, mkS_env, mkS_box, lk, entry_env, condW_true, condW_false, DP.av2, DP.av, d3AV, d3C, RD.av, ratD, dpC, dC, rC, numC, ← tens.eq_1, dAV, r2]))
      | refine And.intro (by first | omega | kernel_rfl) ?_
      | fail)
    simp [-map_take,-map_drop, post, resAV, resAll, resOne, closeV, closeC, closeL, resD, resDL, push_cast]
  · rw [on, l1] at c1
    rcases k2 with rfl | ⟨s, rfl, y1⟩ | ⟨s, t, rfl, y1, y2⟩
    · have hr : nearL [p] [] n = false := rfl
      rw [hr]
      rw [nl, l0] at c2
      clear h1 h2 on tw nl l0 l1 l2 hr r2
      refine Eval.intro Tryz.func65 rfl Tryz.call65 _ _ (Nat.le_of_ble_eq_true rfl) (by simp [-map_take,-map_drop, AV.refs, refsL, natAV, rAV, rC, dAV, dC, d3AV, d3C, ratD, RD.av, DP.av, DP.av2, dpC, push_cast]) fun hs0 => ?_
      repeat' (first
        | with_reducible first | apply thenW_n | apply W_seq
        | with_reducible refine W_rg ?_
        | (rw [vcn]; (try simp [-map_take,-map_drop, push_cast, DP.av2, DP.av, d3AV, d3C, RD.av, ratD, dpC, dC, rC, numC, ← tens.eq_1, dAV]))
        | with_reducible refine W_drawn mixed (by decide) (by kernel_rfl) ?_
        | (rw [vcnD]; (try simp [-map_take,-map_drop, push_cast, DP.av2, DP.av, d3AV, d3C, RD.av, ratD, dpC, dC, rC, numC, ← tens.eq_1, dAV]))
        | fail)
      refine callD_of (c1) rfl rfl rfl ?_
      try dsimp only
      repeat' (first
        | (rw [vcnD]; (try simp [-map_take,-map_drop, push_cast, DP.av2, DP.av, d3AV, d3C, RD.av, ratD, dpC, dC, rC, numC, ← tens.eq_1, dAV]))
        | fail)
      refine callD_of (c2) rfl rfl rfl ?_
      try dsimp only
      repeat' (first
        | with_reducible first | apply thenW_n | apply thenW_ret | apply W_seq | apply W_ret
        | with_reducible refine W_rg ?_
        | (rw [vcn]; (try simp [-map_take,-map_drop, push_cast, DP.av2, DP.av, d3AV, d3C, RD.av, ratD, dpC, dC, rC, numC, ← tens.eq_1, dAV]))
        | (rw [vcnD]; (try simp [-map_take,-map_drop, push_cast, DP.av2, DP.av, d3AV, d3C, RD.av, ratD, dpC, dC, rC, numC, ← tens.eq_1, dAV]))
        | (with_reducible refine W_condW ?_; (try simp [-map_take,-map_drop, AS.val, upd, resB, mkS_env, mkS_box, lk, entry_env, condW_true, condW_false, DP.av2, DP.av, d3AV, d3C, RD.av, ratD, dpC, dC, rC, numC, ← tens.eq_1, dAV]))
        | refine And.intro (by first | omega | kernel_rfl) ?_
        | fail)
      simp [-map_take,-map_drop, post, resAV, resAll, resOne, closeV, closeC, closeL, resD, resDL, push_cast]
    · have hr : nearL [p] [s] n = closerR p p s s n := rfl
      have e3 := closer12_ok p p s s n hn (by omega)
      rw [hr]
      rw [on, l1] at c2
      obtain ⟨r, nm_⟩ : ∃ nm0_, nm0_ = closerR p p s s n := ⟨_, rfl⟩
      simp only [← nm_] at e3 ⊢
      clear nm_
      clear h1 h2 on tw nl l0 l1 l2 hr r2
      refine Eval.intro Tryz.func65 rfl Tryz.call65 _ _ (Nat.le_of_ble_eq_true rfl) (by simp [-map_take,-map_drop, AV.refs, refsL, natAV, rAV, rC, dAV, dC, d3AV, d3C, ratD, RD.av, DP.av, DP.av2, dpC, push_cast]) fun hs0 => ?_
      repeat' (first
        | with_reducible first | apply thenW_n | apply W_seq
        | with_reducible refine W_rg ?_
        | (rw [vcn]; (try simp [-map_take,-map_drop, push_cast, DP.av2, DP.av, d3AV, d3C, RD.av, ratD, dpC, dC, rC, numC, ← tens.eq_1, dAV]))
        | with_reducible refine W_drawn mixed (by decide) (by kernel_rfl) ?_
        | (rw [vcnD]; (try simp [-map_take,-map_drop, push_cast, DP.av2, DP.av, d3AV, d3C, RD.av, ratD, dpC, dC, rC, numC, ← tens.eq_1, dAV]))
        | fail)
      refine callD_of (c1) rfl rfl rfl ?_
      try dsimp only
      repeat' (first
        | (rw [vcnD]; (try simp [-map_take,-map_drop, push_cast, DP.av2, DP.av, d3AV, d3C, RD.av, ratD, dpC, dC, rC, numC, ← tens.eq_1, dAV]))
        | fail)
      refine callD_of (c2) rfl rfl rfl ?_
      try dsimp only
      repeat' (first
        | with_reducible first | apply thenW_n | apply W_seq | apply W_skip
        | with_reducible refine W_rg ?_
        | (rw [vcn]; (try simp [-map_take,-map_drop, push_cast, DP.av2, DP.av, d3AV, d3C, RD.av, ratD, dpC, dC, rC, numC, ← tens.eq_1, dAV]); try simp (disch := omega) only [i64_in, u64_in, shr64i])
        | with_reducible refine W_drawn mixed (by decide) (by kernel_rfl) ?_
        | (rw [vcnD]; (try simp [-map_take,-map_drop, push_cast, DP.av2, DP.av, d3AV, d3C, RD.av, ratD, dpC, dC, rC, numC, ← tens.eq_1, dAV]); try simp (disch := omega) only [i64_in, u64_in, shr64i])
        | (with_reducible refine W_condW ?_; (try simp [-map_take,-map_drop, AS.val, upd, resB, mkS_env, mkS_box, lk, entry_env, condW_true, condW_false, DP.av2, DP.av, d3AV, d3C, RD.av, ratD, dpC, dC, rC, numC, ← tens.eq_1, dAV]))
        | refine And.intro (by first | omega | kernel_rfl) ?_
        | fail)
      refine callD_of (e3) rfl rfl rfl ?_
      try dsimp only
      repeat' (first
        | with_reducible first | apply thenW_n | apply W_ret
        | (rw [vcnD]; (try simp [-map_take,-map_drop, push_cast, DP.av2, DP.av, d3AV, d3C, RD.av, ratD, dpC, dC, rC, numC, ← tens.eq_1, dAV]))
        | refine And.intro (by first | omega | kernel_rfl) ?_
        | fail)
      simp [-map_take,-map_drop, post, resAV, resAll, resOne, closeV, closeC, closeL, resD, resDL, push_cast]
    · have hr : nearL [p] [s, t] n = closerR p p s t n := rfl
      have e3 := closer12_ok p p s t n hn (by omega)
      rw [hr]
      rw [tw, l2] at c2
      obtain ⟨r, nm_⟩ : ∃ nm0_, nm0_ = closerR p p s t n := ⟨_, rfl⟩
      simp only [← nm_] at e3 ⊢
      clear nm_
      clear h1 h2 on tw nl l0 l1 l2 hr r2
      refine Eval.intro Tryz.func65 rfl Tryz.call65 _ _ (Nat.le_of_ble_eq_true rfl) (by simp [-map_take,-map_drop, AV.refs, refsL, natAV, rAV, rC, dAV, dC, d3AV, d3C, ratD, RD.av, DP.av, DP.av2, dpC, push_cast]) fun hs0 => ?_
      repeat' (first
        | with_reducible first | apply thenW_n | apply W_seq
        | with_reducible refine W_rg ?_
        | (rw [vcn]; (try simp [-map_take,-map_drop, push_cast, DP.av2, DP.av, d3AV, d3C, RD.av, ratD, dpC, dC, rC, numC, ← tens.eq_1, dAV]))
        | with_reducible refine W_drawn mixed (by decide) (by kernel_rfl) ?_
        | (rw [vcnD]; (try simp [-map_take,-map_drop, push_cast, DP.av2, DP.av, d3AV, d3C, RD.av, ratD, dpC, dC, rC, numC, ← tens.eq_1, dAV]))
        | fail)
      refine callD_of (c1) rfl rfl rfl ?_
      try dsimp only
      repeat' (first
        | (rw [vcnD]; (try simp [-map_take,-map_drop, push_cast, DP.av2, DP.av, d3AV, d3C, RD.av, ratD, dpC, dC, rC, numC, ← tens.eq_1, dAV]))
        | fail)
      refine callD_of (c2) rfl rfl rfl ?_
      try dsimp only
      repeat' (first
        | with_reducible first | apply thenW_n | apply W_seq | apply W_skip
        | with_reducible refine W_rg ?_
        | (rw [vcn]; (try simp [-map_take,-map_drop, push_cast, DP.av2, DP.av, d3AV, d3C, RD.av, ratD, dpC, dC, rC, numC, ← tens.eq_1, dAV]); try simp (disch := omega) only [i64_in, u64_in, shr64i])
        | with_reducible refine W_drawn mixed (by decide) (by kernel_rfl) ?_
        | (rw [vcnD]; (try simp [-map_take,-map_drop, push_cast, DP.av2, DP.av, d3AV, d3C, RD.av, ratD, dpC, dC, rC, numC, ← tens.eq_1, dAV]); try simp (disch := omega) only [i64_in, u64_in, shr64i])
        | (with_reducible refine W_condW ?_; (try simp [-map_take,-map_drop, AS.val, upd, resB, mkS_env, mkS_box, lk, entry_env, condW_true, condW_false, DP.av2, DP.av, d3AV, d3C, RD.av, ratD, dpC, dC, rC, numC, ← tens.eq_1, dAV]))
        | refine And.intro (by first | omega | kernel_rfl) ?_
        | fail)
      refine callD_of (e3) rfl rfl rfl ?_
      try dsimp only
      repeat' (first
        | with_reducible first | apply thenW_n | apply W_ret
        | (rw [vcnD]; (try simp [-map_take,-map_drop, push_cast, DP.av2, DP.av, d3AV, d3C, RD.av, ratD, dpC, dC, rC, numC, ← tens.eq_1, dAV]))
        | refine And.intro (by first | omega | kernel_rfl) ?_
        | fail)
      simp [-map_take,-map_drop, post, resAV, resAll, resOne, closeV, closeC, closeL, resD, resDL, push_cast]
  · rw [tw, l2] at c1
    rcases k2 with rfl | ⟨s, rfl, y1⟩ | ⟨s, t, rfl, y1, y2⟩
    · have hr : nearL [p, q] [] n = false := rfl
      rw [hr]
      rw [nl, l0] at c2
      clear h1 h2 on tw nl l0 l1 l2 hr r2
      refine Eval.intro Tryz.func65 rfl Tryz.call65 _ _ (Nat.le_of_ble_eq_true rfl) (by simp [-map_take,-map_drop, AV.refs, refsL, natAV, rAV, rC, dAV, dC, d3AV, d3C, ratD, RD.av, DP.av, DP.av2, dpC, push_cast]) fun hs0 => ?_
      repeat' (first
        | with_reducible first | apply thenW_n | apply W_seq
        | with_reducible refine W_rg ?_
        | (rw [vcn]; (try simp [-map_take,-map_drop, push_cast, DP.av2, DP.av, d3AV, d3C, RD.av, ratD, dpC, dC, rC, numC, ← tens.eq_1, dAV]))
        | with_reducible refine W_drawn mixed (by decide) (by kernel_rfl) ?_
        | (rw [vcnD]; (try simp [-map_take,-map_drop, push_cast, DP.av2, DP.av, d3AV, d3C, RD.av, ratD, dpC, dC, rC, numC, ← tens.eq_1, dAV]))
        | fail)
      refine callD_of (c1) rfl rfl rfl ?_
      try dsimp only
      repeat' (first
        | (rw [vcnD]; (try simp [-map_take,-map_drop, push_cast, DP.av2, DP.av, d3AV, d3C, RD.av, ratD, dpC, dC, rC, numC, ← tens.eq_1, dAV]))
        | fail)
      refine callD_of (c2) rfl rfl rfl ?_
      try dsimp only
      repeat' (first
        | with_reducible first | apply thenW_n | apply thenW_ret | apply W_seq | apply W_ret
        | with_reducible refine W_rg ?_
        | (rw [vcn]; (try simp [-map_take,-map_drop, push_cast, DP.av2, DP.av, d3AV, d3C, RD.av, ratD, dpC, dC, rC, numC, ← tens.eq_1, dAV]))
        | (rw [vcnD]; (try simp [-map_take,-map_drop, push_cast, DP.av2, DP.av, d3AV, d3C, RD.av, ratD, dpC, dC, rC, numC, ← tens.eq_1, dAV]))
        | (with_reducible refine W_condW ?_; (try simp [-map_take,-map_drop, AS.val, upd, resB, mkS_env, mkS_box, lk, entry_env, condW_true, condW_false, DP.av2, DP.av, d3AV, d3C, RD.av, ratD, dpC, dC, rC, numC, ← tens.eq_1, dAV]))
        | refine And.intro (by first | omega | kernel_rfl) ?_
        | fail)
      simp [-map_take,-map_drop, post, resAV, resAll, resOne, closeV, closeC, closeL, resD, resDL, push_cast]
    · have hr : nearL [p, q] [s] n = closerR p q s s n := rfl
      have e3 := closer12_ok p q s s n hn (by omega)
      rw [hr]
      rw [on, l1] at c2
      obtain ⟨r, nm_⟩ : ∃ nm0_, nm0_ = closerR p q s s n := ⟨_, rfl⟩
      simp only [← nm_] at e3 ⊢
      clear nm_
      clear h1 h2 on tw nl l0 l1 l2 hr r2
      refine Eval.intro Tryz.func65 rfl Tryz.call65 _ _ (Nat.le_of_ble_eq_true rfl) (by simp [-map_take,-map_drop, AV.refs, refsL, natAV, rAV, rC, dAV, dC, d3AV, d3C, ratD, RD.av, DP.av, DP.av2, dpC, push_cast]) fun hs0 => ?_
      repeat' (first
        | with_reducible first | apply thenW_n | apply W_seq
        | with_reducible refine W_rg ?_
        | (rw [vcn]; (try simp [-map_take,-map_drop, push_cast, DP.av2, DP.av, d3AV, d3C, RD.av, ratD, dpC, dC, rC, numC, ← tens.eq_1, dAV]))
        | with_reducible refine W_drawn mixed (by decide) (by kernel_rfl) ?_
        | (rw [vcnD]; (try simp [-map_take,-map_drop, push_cast, DP.av2, DP.av, d3AV, d3C, RD.av, ratD, dpC, dC, rC, numC, ← tens.eq_1, dAV]))
        | fail)
      refine callD_of (c1) rfl rfl rfl ?_
      try dsimp only
      repeat' (first
        | (rw [vcnD]; (try simp [-map_take,-map_drop, push_cast, DP.av2, DP.av, d3AV, d3C, RD.av, ratD, dpC, dC, rC, numC, ← tens.eq_1, dAV]))
        | fail)
      refine callD_of (c2) rfl rfl rfl ?_
      try dsimp only
      repeat' (first
        | with_reducible first | apply thenW_n | apply W_seq | apply W_skip
        | with_reducible refine W_rg ?_
        | (rw [vcn]; (try simp [-map_take,-map_drop, push_cast, DP.av2, DP.av, d3AV, d3C, RD.av, ratD, dpC, dC, rC, numC, ← tens.eq_1, dAV]); try simp (disch := omega) only [i64_in, u64_in, shr64i])
        | with_reducible refine W_drawn mixed (by decide) (by kernel_rfl) ?_
        | (rw [vcnD]; (try simp [-map_take,-map_drop, push_cast, DP.av2, DP.av, d3AV, d3C, RD.av, ratD, dpC, dC, rC, numC, ← tens.eq_1, dAV]); try simp (disch := omega) only [i64_in, u64_in, shr64i])
        | (with_reducible refine W_condW ?_; (try simp [-map_take,-map_drop, AS.val, upd, resB, mkS_env, mkS_box, lk, entry_env, condW_true, condW_false, DP.av2, DP.av, d3AV, d3C, RD.av, ratD, dpC, dC, rC, numC, ← tens.eq_1, dAV]))
        | refine And.intro (by first | omega | kernel_rfl) ?_
        | fail)
      refine callD_of (e3) rfl rfl rfl ?_
      try dsimp only
      repeat' (first
        | with_reducible first | apply thenW_n | apply W_ret
        | (rw [vcnD]; (try simp [-map_take,-map_drop, push_cast, DP.av2, DP.av, d3AV, d3C, RD.av, ratD, dpC, dC, rC, numC, ← tens.eq_1, dAV]))
        | refine And.intro (by first | omega | kernel_rfl) ?_
        | fail)
      simp [-map_take,-map_drop, post, resAV, resAll, resOne, closeV, closeC, closeL, resD, resDL, push_cast]
    · have hr : nearL [p, q] [s, t] n = closerR p q s t n := rfl
      have e3 := closer12_ok p q s t n hn (by omega)
      rw [hr]
      rw [tw, l2] at c2
      obtain ⟨r, nm_⟩ : ∃ nm0_, nm0_ = closerR p q s t n := ⟨_, rfl⟩
      simp only [← nm_] at e3 ⊢
      clear nm_
      clear h1 h2 on tw nl l0 l1 l2 hr r2
      refine Eval.intro Tryz.func65 rfl Tryz.call65 _ _ (Nat.le_of_ble_eq_true rfl) (by simp [-map_take,-map_drop, AV.refs, refsL, natAV, rAV, rC, dAV, dC, d3AV, d3C, ratD, RD.av, DP.av, DP.av2, dpC, push_cast]) fun hs0 => ?_
      repeat' (first
        | with_reducible first | apply thenW_n | apply W_seq
        | with_reducible refine W_rg ?_
        | (rw [vcn]; (try simp [-map_take,-map_drop, push_cast, DP.av2, DP.av, d3AV, d3C, RD.av, ratD, dpC, dC, rC, numC, ← tens.eq_1, dAV]))
        | with_reducible refine W_drawn mixed (by decide) (by kernel_rfl) ?_
        | (rw [vcnD]; (try simp [-map_take,-map_drop, push_cast, DP.av2, DP.av, d3AV, d3C, RD.av, ratD, dpC, dC, rC, numC, ← tens.eq_1, dAV]))
        | fail)
      refine callD_of (c1) rfl rfl rfl ?_
      try dsimp only
      repeat' (first
        | (rw [vcnD]; (try simp [-map_take,-map_drop, push_cast, DP.av2, DP.av, d3AV, d3C, RD.av, ratD, dpC, dC, rC, numC, ← tens.eq_1, dAV]))
        | fail)
      refine callD_of (c2) rfl rfl rfl ?_
      try dsimp only
      repeat' (first
        | with_reducible first | apply thenW_n | apply W_seq | apply W_skip
        | with_reducible refine W_rg ?_
        | (rw [vcn]; (try simp [-map_take,-map_drop, push_cast, DP.av2, DP.av, d3AV, d3C, RD.av, ratD, dpC, dC, rC, numC, ← tens.eq_1, dAV]); try simp (disch := omega) only [i64_in, u64_in, shr64i])
        | with_reducible refine W_drawn mixed (by decide) (by kernel_rfl) ?_
        | (rw [vcnD]; (try simp [-map_take,-map_drop, push_cast, DP.av2, DP.av, d3AV, d3C, RD.av, ratD, dpC, dC, rC, numC, ← tens.eq_1, dAV]); try simp (disch := omega) only [i64_in, u64_in, shr64i])
        | (with_reducible refine W_condW ?_; (try simp [-map_take,-map_drop, AS.val, upd, resB, mkS_env, mkS_box, lk, entry_env, condW_true, condW_false, DP.av2, DP.av, d3AV, d3C, RD.av, ratD, dpC, dC, rC, numC, ← tens.eq_1, dAV]))
        | refine And.intro (by first | omega | kernel_rfl) ?_
        | fail)
      refine callD_of (e3) rfl rfl rfl ?_
      try dsimp only
      repeat' (first
        | with_reducible first | apply thenW_n | apply W_ret
        | (rw [vcnD]; (try simp [-map_take,-map_drop, push_cast, DP.av2, DP.av, d3AV, d3C, RD.av, ratD, dpC, dC, rC, numC, ← tens.eq_1, dAV]))
        | refine And.intro (by first | omega | kernel_rfl) ?_
        | fail)
      simp [-map_take,-map_drop, post, resAV, resAll, resOne, closeV, closeC, closeL, resD, resDL, push_cast]
end Go.Fw

/- The document's Clip (11). -/
import Derived.Test.YtehmofcajiefiaaGreatV12b
set_option linter.unusedSimpArgs false
set_option linter.unusedVariables false
-- VALS: rAV, rC, dAV, dC, d3AV, d3C, dpC
namespace Go.Fw
open Go Go.Proofs Go.IntWalk
set_option linter.unusedSimpArgs false
set_option maxRecDepth 100000
set_option maxHeartbeats 20000000
def dpC (p : DP) : List AV := d3C p.x p.y p.w
def dpsC (l : List DP) : List AV := l.flatMap dpC
theorem dpC_len (p : DP) : (dpC p).length = 6 := rfl
theorem dpC_refs (p : DP) : refsL (dpC p) = [] := rfl
theorem dpsC_len (l : List DP) : (dpsC l).length = l.length * 6 := by
  induction l with
  | nil => rfl
  | cons x t ih => simp [dpsC, dpC_len] at *; omega
theorem dpsC_refs (l : List DP) : refsL (dpsC l) = [] := by
  induction l with
  | nil => rfl
  | cons x t ih => show refsL (dpC x ++ dpsC t) = []; rw [refsL_append, ih]; rfl
theorem dpsC_drop (l : List DP) (i : Nat) : (dpsC l).drop (i * 6) = dpsC (l.drop i) := by
  induction l generalizing i with
  | nil => simp [dpsC]
  | cons x t ih =>
    cases i with
    | zero => simp
    | succ i =>
      have e : (i + 1) * 6 = (dpC x).length + i * 6 := by rw [dpC_len]; omega
      show (dpC x ++ dpsC t).drop _ = _
      rw [e, List.drop_append, Nat.add_sub_cancel_left, ih]
      simp
theorem dpsC_at (l : List DP) (i : Nat) (h : i < l.length) : ∃ t, (dpsC l).drop (i * 6) = dpC l[i] ++ t := by
  refine ⟨dpsC (l.drop (i + 1)), ?_⟩
  rw [dpsC_drop, List.drop_eq_getElem_cons h]
  rfl
def sd3 (a b c : DP) : Int := cmpZ (lessX a b * lessY a c) (lessY a b * lessX a c)
def clipR (a b c d : DP) : List DP :=
  if 0 ≤ sd3 c d a ∧ 0 ≤ sd3 c d b then (if cmp3 a b = 0 then [a] else [a, b])
  else if sd3 c d a < 0 ∧ sd3 c d b < 0 then []
  else if sd3 c d a = 0 then [a]
  else if sd3 c d b = 0 then [b]
  else if 0 < sd3 c d a then [a, crossP a b c d] else [crossP a b c d, b]
open List (map_take map_drop)
attribute [local push_cast] optK_some optK_none optK_ite optK_map optK_bind gOn stepK isMem evPure evMem evBin evUn evConv evLen evBuiltin evMinMax evSlice evBuild evAppend evIndex evIndexAddr evField evFieldAddr intBin strBin appDest AS.val AS.mem AS.elems AS.put AS.put' AS.eff AV.cells? AV.isCell AV.refs all_isByte take_byteV drop_byteV strOf_map bndOk bnd partAV ptrAdd killBox catA inOrder fillA setAt ofVal resB upd byteV List.head?_take List.head?_drop List.getElem?_map mkS_env mkS_box mkS_used entry_env entry_box entry_used lk stepD lookIds Oper.looksAt Op.operands Call.operands St.ids refsL renL_append ren renL renBox Box.refs iV i64V boolV dV_getElem dV_app dV_cons toNat_add2 toNat_add1
attribute [local simp ↓] numC_refs numC_isCell numC_cells numC_resB numC_resD numC_ren numC_closeC numC_isOwn
theorem clip11_ok (a b c d : DP) (h : szP3 a + szP3 b + szP3 c + szP3 d ≤ 100000) : Eval Tryz.prog 99 [DP.av2 a b, DP.av2 c d] (.ret (.slc false 6 (clipR a b c d).length (dpsC (clipR a b c d)))) := by
  have e1 := side11_ok c d a (by omega)
  have e2 := side11_ok c d b (by omega)
  have e3 := cmp11_ok a b (by omega)
  have e4 := crossing11_ok a b c d h
  have hr : clipR a b c d = if 0 ≤ sd3 c d a ∧ 0 ≤ sd3 c d b then (if cmp3 a b = 0 then [a] else [a, b])
    else if sd3 c d a < 0 ∧ sd3 c d b < 0 then []
    else if sd3 c d a = 0 then [a]
    else if sd3 c d b = 0 then [b]
    else if 0 < sd3 c d a then [a, crossP a b c d] else [crossP a b c d, b] := rfl
  have o1 : cmpZ (lessX c d * lessY c a) (lessY c d * lessX c a) = sd3 c d a := rfl
  have o2 : cmpZ (lessX c d * lessY c b) (lessY c d * lessX c b) = sd3 c d b := rfl
  rw [o1] at e1
  rw [o2] at e2
  clear o1 o2 h
  obtain ⟨x, nm_⟩ : ∃ nm0_, nm0_ = sd3 c d a := ⟨_, rfl⟩
  simp only [← nm_] at e1 hr
  clear nm_
  obtain ⟨y, nm_⟩ : ∃ nm0_, nm0_ = sd3 c d b := ⟨_, rfl⟩
  simp only [← nm_] at e2 hr
  clear nm_
  obtain ⟨k, nm_⟩ : ∃ nm0_, nm0_ = cmp3 a b := ⟨_, rfl⟩
  simp only [← nm_] at e3 hr
  clear nm_
  obtain ⟨p, nm_⟩ : ∃ nm0_, nm0_ = crossP a b c d := ⟨_, rfl⟩
  simp only [← nm_] at e4 hr
  clear nm_
  have tw : ∀ u v : DP, dpsC [u, v] = dpC u ++ dpC v := fun u v => by simp [-map_take,-map_drop, dpsC]
  have on : ∀ u : DP, dpsC [u] = dpC u := fun u => by simp [-map_take,-map_drop, dpsC]
  have g2 : ∀ z : Int, 0 ≤ z → (z < 0) = False := fun z hz => eq_false (by omega)
  by_cases h1 : 0 ≤ x ∧ 0 ≤ y
  · have x1 : (0 ≤ x) = True := eq_true h1.1
    have y1 : (0 ≤ y) = True := eq_true h1.2
    rw [if_pos h1] at hr
    by_cases h2 : k = 0
    · have k1 : (k = 0) = True := eq_true h2
      have k1b : (k == 0) = true := by simp [-map_take,-map_drop, k1]
      rw [if_pos h2] at hr
      rw [hr, on]
      refine Eval.frz1 (e := 41) ?_
      clear hr tw on g2
      obtain ⟨ax, ay, aw⟩ := a
      obtain ⟨bx, by', bw⟩ := b
      obtain ⟨cx, cy, cw⟩ := c
      obtain ⟨dx, dy, dw⟩ := d
      simp only [DP.av, DP.av2] at e1 e2 e3 ⊢
      refine Eval.intro Tryz.func99 rfl Tryz.call99 _ _ (Nat.le_of_ble_eq_true rfl) (by simp [-map_take,-map_drop, AV.refs, refsL, natAV, rAV, rC, dAV, dC, d3AV, d3C, dpC, push_cast]) fun hs0 => ?_
      repeat' (first
        | with_reducible first | apply thenW_n | apply W_seq
        | with_reducible refine W_rg ?_
        | (rw [vcn]; (try simp [-map_take,-map_drop, push_cast, d3AV, d3C, dC, rC, numC, ← tens.eq_1, dAV, x1, y1, k1, k1b]))
        | with_reducible refine W_drawn mixed (by decide) (by kernel_rfl) ?_
        | (rw [vcnD]; (try simp [-map_take,-map_drop, push_cast, d3AV, d3C, dC, rC, numC, ← tens.eq_1, dAV, x1, y1, k1, k1b]))
        | fail)
      refine callD_of (e1) rfl rfl rfl ?_
      try dsimp only
      repeat' (first
        | (rw [vcnD]; (try simp [-map_take,-map_drop, push_cast, d3AV, d3C, dC, rC, numC, ← tens.eq_1, dAV, x1, y1, k1, k1b]))
        | fail)
      refine callD_of (e2) rfl rfl rfl ?_
      try dsimp only
      repeat' (first
        | with_reducible first | apply thenW_n | apply W_seq
        | with_reducible refine W_rg ?_
        | (rw [vcn]; (try simp [-map_take,-map_drop, push_cast, d3AV, d3C, dC, rC, numC, ← tens.eq_1, dAV, x1, y1, k1, k1b]))
        | (rw [vcnD]; (try simp [-map_take,-map_drop, push_cast, d3AV, d3C, dC, rC, numC, ← tens.eq_1, dAV, x1, y1, k1, k1b]))
        | (with_reducible refine W_condW ?_; (try simp [-map_take,-map_drop, AS.val, upd, resB, mkS_env, mkS_box, lk, entry_env, condW_true, condW_false, d3AV, d3C, dC, rC, numC, ← tens.eq_1, dAV, x1, y1, k1, k1b]))
        | refine And.intro (by first | omega | kernel_rfl) ?_
        | fail)
      refine CallG_of (e3) rfl rfl rfl ?_
      try dsimp only
      repeat' (first
        | with_reducible first | apply thenW_n | apply thenW_ret | apply W_seq | apply W_ret
        | with_reducible refine W_rg ?_
        | (rw [vcn]; (try simp [-map_take,-map_drop, push_cast, d3AV, d3C, dC, rC, numC, ← tens.eq_1, dAV, x1, y1, k1, k1b]))
        | (with_reducible refine W_condW ?_; (try simp [-map_take,-map_drop, AS.val, upd, resB, mkS_env, mkS_box, lk, entry_env, condW_true, condW_false, d3AV, d3C, dC, rC, numC, ← tens.eq_1, dAV, x1, y1, k1, k1b]))
        | fail)
      simp [-map_take,-map_drop, post, resAV, resAll, resOne, closeV, closeC, closeL, resD, resDL, push_cast, dpC, d3C, dC, rC, numC, ← tens.eq_1]
    · have k1 : (k = 0) = False := eq_false h2
      have k1b : (k == 0) = false := by simp [-map_take,-map_drop, k1]
      rw [if_neg h2] at hr
      rw [hr, tw]
      refine Eval.frz1 (e := 41) ?_
      clear hr tw on g2
      obtain ⟨ax, ay, aw⟩ := a
      obtain ⟨bx, by', bw⟩ := b
      obtain ⟨cx, cy, cw⟩ := c
      obtain ⟨dx, dy, dw⟩ := d
      simp only [DP.av, DP.av2] at e1 e2 e3 ⊢
      refine Eval.intro Tryz.func99 rfl Tryz.call99 _ _ (Nat.le_of_ble_eq_true rfl) (by simp [-map_take,-map_drop, AV.refs, refsL, natAV, rAV, rC, dAV, dC, d3AV, d3C, dpC, push_cast]) fun hs0 => ?_
      repeat' (first
        | with_reducible first | apply thenW_n | apply W_seq
        | with_reducible refine W_rg ?_
        | (rw [vcn]; (try simp [-map_take,-map_drop, push_cast, d3AV, d3C, dC, rC, numC, ← tens.eq_1, dAV, x1, y1, k1, k1b]))
        | with_reducible refine W_drawn mixed (by decide) (by kernel_rfl) ?_
        | (rw [vcnD]; (try simp [-map_take,-map_drop, push_cast, d3AV, d3C, dC, rC, numC, ← tens.eq_1, dAV, x1, y1, k1, k1b]))
        | fail)
      refine callD_of (e1) rfl rfl rfl ?_
      try dsimp only
      repeat' (first
        | (rw [vcnD]; (try simp [-map_take,-map_drop, push_cast, d3AV, d3C, dC, rC, numC, ← tens.eq_1, dAV, x1, y1, k1, k1b]))
        | fail)
      refine callD_of (e2) rfl rfl rfl ?_
      try dsimp only
      repeat' (first
        | with_reducible first | apply thenW_n | apply W_seq
        | with_reducible refine W_rg ?_
        | (rw [vcn]; (try simp [-map_take,-map_drop, push_cast, d3AV, d3C, dC, rC, numC, ← tens.eq_1, dAV, x1, y1, k1, k1b]))
        | (rw [vcnD]; (try simp [-map_take,-map_drop, push_cast, d3AV, d3C, dC, rC, numC, ← tens.eq_1, dAV, x1, y1, k1, k1b]))
        | (with_reducible refine W_condW ?_; (try simp [-map_take,-map_drop, AS.val, upd, resB, mkS_env, mkS_box, lk, entry_env, condW_true, condW_false, d3AV, d3C, dC, rC, numC, ← tens.eq_1, dAV, x1, y1, k1, k1b]))
        | refine And.intro (by first | omega | kernel_rfl) ?_
        | fail)
      refine CallG_of (e3) rfl rfl rfl ?_
      try dsimp only
      repeat' (first
        | with_reducible first | apply thenW_n | apply thenW_ret | apply W_seq | apply W_skip | apply W_ret
        | with_reducible refine W_rg ?_
        | (rw [vcn]; (try simp [-map_take,-map_drop, push_cast, d3AV, d3C, dC, rC, numC, ← tens.eq_1, dAV, x1, y1, k1, k1b]))
        | (with_reducible refine W_condW ?_; (try simp [-map_take,-map_drop, AS.val, upd, resB, mkS_env, mkS_box, lk, entry_env, condW_true, condW_false, d3AV, d3C, dC, rC, numC, ← tens.eq_1, dAV, x1, y1, k1, k1b]))
        | fail)
      simp [-map_take,-map_drop, post, resAV, resAll, resOne, closeV, closeC, closeL, resD, resDL, push_cast, dpC, d3C, dC, rC, numC, ← tens.eq_1]
  rw [if_neg h1] at hr
  have hxy : 0 ≤ x → (0 ≤ y) = False := fun hx => eq_false (fun hy => h1 ⟨hx, hy⟩)
  clear e3
  by_cases h2 : x < 0 ∧ y < 0
  · have x2 : (x < 0) = True := eq_true h2.1
    have y2 : (y < 0) = True := eq_true h2.2
    have x1 : (0 ≤ x) = False := eq_false (by omega)
    rw [if_pos h2] at hr
    rw [hr]
    refine Eval.out (r := .v (.slice none 0 0)) ?_ (Sub.nil false 6) rfl rfl (fun _ h => by cases h) (fun _ h => by cases h)
    clear hr tw on g2 e4
    obtain ⟨ax, ay, aw⟩ := a
    obtain ⟨bx, by', bw⟩ := b
    obtain ⟨cx, cy, cw⟩ := c
    obtain ⟨dx, dy, dw⟩ := d
    simp only [DP.av, DP.av2] at e1 e2 ⊢
    refine Eval.intro Tryz.func99 rfl Tryz.call99 _ _ (Nat.le_of_ble_eq_true rfl) (by simp [-map_take,-map_drop, AV.refs, refsL, natAV, rAV, rC, dAV, dC, d3AV, d3C, dpC, push_cast]) fun hs0 => ?_
    repeat' (first
      | with_reducible first | apply thenW_n | apply W_seq
      | with_reducible refine W_rg ?_
      | (rw [vcn]; (try simp [-map_take,-map_drop, push_cast, d3AV, d3C, dC, rC, numC, ← tens.eq_1, dAV, x1, x2, y2]))
      | with_reducible refine W_drawn mixed (by decide) (by kernel_rfl) ?_
      | (rw [vcnD]; (try simp [-map_take,-map_drop, push_cast, d3AV, d3C, dC, rC, numC, ← tens.eq_1, dAV, x1, x2, y2]))
      | fail)
    refine callD_of (e1) rfl rfl rfl ?_
    try dsimp only
    repeat' (first
      | (rw [vcnD]; (try simp [-map_take,-map_drop, push_cast, d3AV, d3C, dC, rC, numC, ← tens.eq_1, dAV, x1, x2, y2]))
      | fail)
    refine callD_of (e2) rfl rfl rfl ?_
    try dsimp only
    repeat' (first
      | with_reducible first | apply thenW_n | apply thenW_ret | apply W_seq | apply W_skip | apply W_ret
      | with_reducible refine W_rg ?_
      | (rw [vcn]; (try simp [-map_take,-map_drop, push_cast, d3AV, d3C, dC, rC, numC, ← tens.eq_1, dAV, x1, x2, y2]))
      | (rw [vcnD]; (try simp [-map_take,-map_drop, push_cast, d3AV, d3C, dC, rC, numC, ← tens.eq_1, dAV, x1, x2, y2]))
      | (with_reducible refine W_condW ?_; (try simp [-map_take,-map_drop, AS.val, upd, resB, mkS_env, mkS_box, lk, entry_env, condW_true, condW_false, d3AV, d3C, dC, rC, numC, ← tens.eq_1, dAV, x1, x2, y2]))
      | refine And.intro (by first | omega | kernel_rfl) ?_
      | fail)
    simp [-map_take,-map_drop, post, resAV, resAll, resOne, closeV, closeC, closeL, resD, resDL, push_cast]
  rw [if_neg h2] at hr
  by_cases h3 : x = 0
  · have y1 := hxy (by omega)
    have x1 : (0 ≤ x) = True := eq_true (by omega)
    have x2 : (x < 0) = False := eq_false (by omega)
    have x3 : (x = 0) = True := eq_true h3
    have x3b : (x == 0) = true := by simp [-map_take,-map_drop, x3]
    rw [if_pos h3] at hr
    rw [hr, on]
    refine Eval.frz1 (e := 41) ?_
    clear hr tw on g2 e4 h1 h2 h3
    obtain ⟨ax, ay, aw⟩ := a
    obtain ⟨bx, by', bw⟩ := b
    obtain ⟨cx, cy, cw⟩ := c
    obtain ⟨dx, dy, dw⟩ := d
    simp only [DP.av, DP.av2] at e1 e2 ⊢
    refine Eval.intro Tryz.func99 rfl Tryz.call99 _ _ (Nat.le_of_ble_eq_true rfl) (by simp [-map_take,-map_drop, AV.refs, refsL, natAV, rAV, rC, dAV, dC, d3AV, d3C, dpC, push_cast]) fun hs0 => ?_
    repeat' (first
      | with_reducible first | apply thenW_n | apply W_seq
      | with_reducible refine W_rg ?_
      | (rw [vcn]; (try simp [-map_take,-map_drop, push_cast, d3AV, d3C, dC, rC, numC, ← tens.eq_1, dAV, x1, y1, x2, x3, x3b]))
      | with_reducible refine W_drawn mixed (by decide) (by kernel_rfl) ?_
      | (rw [vcnD]; (try simp [-map_take,-map_drop, push_cast, d3AV, d3C, dC, rC, numC, ← tens.eq_1, dAV, x1, y1, x2, x3, x3b]))
      | fail)
    refine callD_of (e1) rfl rfl rfl ?_
    try dsimp only
    repeat' (first
      | (rw [vcnD]; (try simp [-map_take,-map_drop, push_cast, d3AV, d3C, dC, rC, numC, ← tens.eq_1, dAV, x1, y1, x2, x3, x3b]))
      | fail)
    refine callD_of (e2) rfl rfl rfl ?_
    try dsimp only
    repeat' (first
      | with_reducible first | apply thenW_n | apply thenW_ret | apply W_seq | apply W_skip | apply W_ret
      | with_reducible refine W_rg ?_
      | (rw [vcn]; (try simp [-map_take,-map_drop, push_cast, d3AV, d3C, dC, rC, numC, ← tens.eq_1, dAV, x1, y1, x2, x3, x3b]))
      | (rw [vcnD]; (try simp [-map_take,-map_drop, push_cast, d3AV, d3C, dC, rC, numC, ← tens.eq_1, dAV, x1, y1, x2, x3, x3b]))
      | (with_reducible refine W_condW ?_; (try simp [-map_take,-map_drop, AS.val, upd, resB, mkS_env, mkS_box, lk, entry_env, condW_true, condW_false, d3AV, d3C, dC, rC, numC, ← tens.eq_1, dAV, x1, y1, x2, x3, x3b]))
      | refine And.intro (by first | omega | kernel_rfl) ?_
      | fail)
    simp [-map_take,-map_drop, post, resAV, resAll, resOne, closeV, closeC, closeL, resD, resDL, push_cast, dpC, d3C, dC, rC, numC, ← tens.eq_1]
  rw [if_neg h3] at hr
  have x3 : (x = 0) = False := eq_false h3
  have x3b : (x == 0) = false := by simp [-map_take,-map_drop, x3]
  by_cases h4 : y = 0
  · have x1 : (0 ≤ x) = False := eq_false (fun hx => h1 ⟨hx, by omega⟩)
    have hx : ¬ 0 ≤ x := fun hx => h1 ⟨hx, by omega⟩
    have x2 : (x < 0) = True := eq_true (by omega)
    have y2 : (y < 0) = False := eq_false (by omega)
    have y3 : (y = 0) = True := eq_true h4
    have y3b : (y == 0) = true := by simp [-map_take,-map_drop, y3]
    rw [if_pos h4] at hr
    rw [hr, on]
    refine Eval.frz1 (e := 41) ?_
    clear hr tw on g2 e4 h1 h2 h3
    obtain ⟨ax, ay, aw⟩ := a
    obtain ⟨bx, by', bw⟩ := b
    obtain ⟨cx, cy, cw⟩ := c
    obtain ⟨dx, dy, dw⟩ := d
    simp only [DP.av, DP.av2] at e1 e2 ⊢
    refine Eval.intro Tryz.func99 rfl Tryz.call99 _ _ (Nat.le_of_ble_eq_true rfl) (by simp [-map_take,-map_drop, AV.refs, refsL, natAV, rAV, rC, dAV, dC, d3AV, d3C, dpC, push_cast]) fun hs0 => ?_
    repeat' (first
      | with_reducible first | apply thenW_n | apply W_seq
      | with_reducible refine W_rg ?_
      | (rw [vcn]; (try simp [-map_take,-map_drop, push_cast, d3AV, d3C, dC, rC, numC, ← tens.eq_1, dAV, x1, y2, x2, x3, x3b, y3, y3b]))
      | with_reducible refine W_drawn mixed (by decide) (by kernel_rfl) ?_
      | (rw [vcnD]; (try simp [-map_take,-map_drop, push_cast, d3AV, d3C, dC, rC, numC, ← tens.eq_1, dAV, x1, y2, x2, x3, x3b, y3, y3b]))
      | fail)
    refine callD_of (e1) rfl rfl rfl ?_
    try dsimp only
    repeat' (first
      | (rw [vcnD]; (try simp [-map_take,-map_drop, push_cast, d3AV, d3C, dC, rC, numC, ← tens.eq_1, dAV, x1, y2, x2, x3, x3b, y3, y3b]))
      | fail)
    refine callD_of (e2) rfl rfl rfl ?_
    try dsimp only
    repeat' (first
      | with_reducible first | apply thenW_n | apply thenW_ret | apply W_seq | apply W_skip | apply W_ret
      | with_reducible refine W_rg ?_
      | (rw [vcn]; (try simp [-map_take,-map_drop, push_cast, d3AV, d3C, dC, rC, numC, ← tens.eq_1, dAV, x1, y2, x2, x3, x3b, y3, y3b]))
      | (rw [vcnD]; (try simp [-map_take,-map_drop, push_cast, d3AV, d3C, dC, rC, numC, ← tens.eq_1, dAV, x1, y2, x2, x3, x3b, y3, y3b]))
      | (with_reducible refine W_condW ?_; (try simp [-map_take,-map_drop, AS.val, upd, resB, mkS_env, mkS_box, lk, entry_env, condW_true, condW_false, d3AV, d3C, dC, rC, numC, ← tens.eq_1, dAV, x1, y2, x2, x3, x3b, y3, y3b]))
      | refine And.intro (by first | omega | kernel_rfl) ?_
      | fail)
    simp [-map_take,-map_drop, post, resAV, resAll, resOne, closeV, closeC, closeL, resD, resDL, push_cast, dpC, d3C, dC, rC, numC, ← tens.eq_1]
  rw [if_neg h4] at hr
  have y3 : (y = 0) = False := eq_false h4
  have y3b : (y == 0) = false := by simp [-map_take,-map_drop, y3]
  by_cases h5 : 0 < x
  · have y1 := hxy (by omega)
    have x1 : (0 ≤ x) = True := eq_true (by omega)
    have x2 : (x < 0) = False := eq_false (by omega)
    have x5 : (0 < x) = True := eq_true h5
    rw [if_pos h5] at hr
    rw [hr, tw]
    refine Eval.frz1 (e := 41) ?_
    clear hr tw on g2 h1 h2 h3
    obtain ⟨ax, ay, aw⟩ := a
    obtain ⟨bx, by', bw⟩ := b
    obtain ⟨cx, cy, cw⟩ := c
    obtain ⟨dx, dy, dw⟩ := d
    obtain ⟨px, py, pw⟩ := p
    simp only [DP.av, DP.av2] at e1 e2 e4 ⊢
    refine Eval.intro Tryz.func99 rfl Tryz.call99 _ _ (Nat.le_of_ble_eq_true rfl) (by simp [-map_take,-map_drop, AV.refs, refsL, natAV, rAV, rC, dAV, dC, d3AV, d3C, dpC, push_cast]) fun hs0 => ?_
    repeat' (first
      | with_reducible first | apply thenW_n | apply W_seq
      | with_reducible refine W_rg ?_
      | (rw [vcn]; (try simp [-map_take,-map_drop, push_cast, d3AV, d3C, dC, rC, numC, ← tens.eq_1, dAV, x1, y1, x2, x3, x3b, y3, y3b, x5]))
      | with_reducible refine W_drawn mixed (by decide) (by kernel_rfl) ?_
      | (rw [vcnD]; (try simp [-map_take,-map_drop, push_cast, d3AV, d3C, dC, rC, numC, ← tens.eq_1, dAV, x1, y1, x2, x3, x3b, y3, y3b, x5]))
      | fail)
    refine callD_of (e1) rfl rfl rfl ?_
    try dsimp only
    repeat' (first
      | (rw [vcnD]; (try simp [-map_take,-map_drop, push_cast, d3AV, d3C, dC, rC, numC, ← tens.eq_1, dAV, x1, y1, x2, x3, x3b, y3, y3b, x5]))
      | fail)
    refine callD_of (e2) rfl rfl rfl ?_
    try dsimp only
    repeat' (first
      | with_reducible first | apply thenW_n | apply W_seq | apply W_skip
      | with_reducible refine W_rg ?_
      | (rw [vcn]; (try simp [-map_take,-map_drop, push_cast, d3AV, d3C, dC, rC, numC, ← tens.eq_1, dAV, x1, y1, x2, x3, x3b, y3, y3b, x5]))
      | (rw [vcnD]; (try simp [-map_take,-map_drop, push_cast, d3AV, d3C, dC, rC, numC, ← tens.eq_1, dAV, x1, y1, x2, x3, x3b, y3, y3b, x5]))
      | (with_reducible refine W_condW ?_; (try simp [-map_take,-map_drop, AS.val, upd, resB, mkS_env, mkS_box, lk, entry_env, condW_true, condW_false, d3AV, d3C, dC, rC, numC, ← tens.eq_1, dAV, x1, y1, x2, x3, x3b, y3, y3b, x5]))
      | refine And.intro (by first | omega | kernel_rfl) ?_
      | fail)
    refine CallG_of (e4) rfl rfl rfl ?_
    try dsimp only
    repeat' (first
      | with_reducible first | apply thenW_n | apply thenW_ret | apply W_seq | apply W_ret
      | with_reducible refine W_rg ?_
      | (rw [vcn]; (try simp [-map_take,-map_drop, push_cast, d3AV, d3C, dC, rC, numC, ← tens.eq_1, dAV, x1, y1, x2, x3, x3b, y3, y3b, x5]))
      | (with_reducible refine W_condW ?_; (try simp [-map_take,-map_drop, AS.val, upd, resB, mkS_env, mkS_box, lk, entry_env, condW_true, condW_false, d3AV, d3C, dC, rC, numC, ← tens.eq_1, dAV, x1, y1, x2, x3, x3b, y3, y3b, x5]))
      | fail)
    simp [-map_take,-map_drop, post, resAV, resAll, resOne, closeV, closeC, closeL, resD, resDL, push_cast, dpC, d3C, dC, rC, numC, ← tens.eq_1]
  · have x1 : (0 ≤ x) = False := eq_false (by omega)
    have x2 : (x < 0) = True := eq_true (by omega)
    have y2 : (y < 0) = False := eq_false (fun hy => h2 ⟨by omega, hy⟩)
    have x5 : (0 < x) = False := eq_false h5
    rw [if_neg h5] at hr
    rw [hr, tw]
    refine Eval.frz1 (e := 41) ?_
    clear hr tw on g2 h1 h2 h3
    obtain ⟨ax, ay, aw⟩ := a
    obtain ⟨bx, by', bw⟩ := b
    obtain ⟨cx, cy, cw⟩ := c
    obtain ⟨dx, dy, dw⟩ := d
    obtain ⟨px, py, pw⟩ := p
    simp only [DP.av, DP.av2] at e1 e2 e4 ⊢
    refine Eval.intro Tryz.func99 rfl Tryz.call99 _ _ (Nat.le_of_ble_eq_true rfl) (by simp [-map_take,-map_drop, AV.refs, refsL, natAV, rAV, rC, dAV, dC, d3AV, d3C, dpC, push_cast]) fun hs0 => ?_
    repeat' (first
      | with_reducible first | apply thenW_n | apply W_seq
      | with_reducible refine W_rg ?_
      | (rw [vcn]; (try simp [-map_take,-map_drop, push_cast, d3AV, d3C, dC, rC, numC, ← tens.eq_1, dAV, x1, y2, x2, x3, x3b, y3, y3b, x5]))
      | with_reducible refine W_drawn mixed (by decide) (by kernel_rfl) ?_
      | (rw [vcnD]; (try simp [-map_take,-map_drop, push_cast, d3AV, d3C, dC, rC, numC, ← tens.eq_1, dAV, x1, y2, x2, x3, x3b, y3, y3b, x5]))
      | fail)
    refine callD_of (e1) rfl rfl rfl ?_
    try dsimp only
    repeat' (first
      | (rw [vcnD]; (try simp [-map_take,-map_drop, push_cast, d3AV, d3C, dC, rC, numC, ← tens.eq_1, dAV, x1, y2, x2, x3, x3b, y3, y3b, x5]))
      | fail)
    refine callD_of (e2) rfl rfl rfl ?_
    try dsimp only
    repeat' (first
      | with_reducible first | apply thenW_n | apply W_seq | apply W_skip
      | with_reducible refine W_rg ?_
      | (rw [vcn]; (try simp [-map_take,-map_drop, push_cast, d3AV, d3C, dC, rC, numC, ← tens.eq_1, dAV, x1, y2, x2, x3, x3b, y3, y3b, x5]))
      | (rw [vcnD]; (try simp [-map_take,-map_drop, push_cast, d3AV, d3C, dC, rC, numC, ← tens.eq_1, dAV, x1, y2, x2, x3, x3b, y3, y3b, x5]))
      | (with_reducible refine W_condW ?_; (try simp [-map_take,-map_drop, AS.val, upd, resB, mkS_env, mkS_box, lk, entry_env, condW_true, condW_false, d3AV, d3C, dC, rC, numC, ← tens.eq_1, dAV, x1, y2, x2, x3, x3b, y3, y3b, x5]))
      | refine And.intro (by first | omega | kernel_rfl) ?_
      | fail)
    refine CallG_of (e4) rfl rfl rfl ?_
    try dsimp only
    repeat' (first
      | with_reducible first | apply thenW_n | apply W_seq | apply W_skip | apply W_ret
      | with_reducible refine W_rg ?_
      | (rw [vcn]; (try simp [-map_take,-map_drop, push_cast, d3AV, d3C, dC, rC, numC, ← tens.eq_1, dAV, x1, y2, x2, x3, x3b, y3, y3b, x5]))
      | (with_reducible refine W_condW ?_; (try simp [-map_take,-map_drop, AS.val, upd, resB, mkS_env, mkS_box, lk, entry_env, condW_true, condW_false, d3AV, d3C, dC, rC, numC, ← tens.eq_1, dAV, x1, y2, x2, x3, x3b, y3, y3b, x5]))
      | fail)
    simp [-map_take,-map_drop, post, resAV, resAll, resOne, closeV, closeC, closeL, resD, resDL, push_cast, dpC, d3C, dC, rC, numC, ← tens.eq_1]
end Go.Fw

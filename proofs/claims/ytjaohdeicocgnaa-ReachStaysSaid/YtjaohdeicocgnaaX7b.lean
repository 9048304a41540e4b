import Derived.Test.YtjaohdeicocgnaaX5b
import Derived.Test.YtjaohdeicocgnaaEnt
set_option linter.unusedSimpArgs false
set_option linter.unusedVariables false
/- ReachStays: what becomes of points (plain), and its function. -/
-- VALS: zAV, zC, ratAV, ratC, ptAV, ptC, sgAV, sgC, d3sAV, d3C, dC, dotAV
namespace Go.Fw
open Go Go.Proofs Go.IntWalk
set_option linter.unusedSimpArgs false
set_option maxRecDepth 100000
set_option maxHeartbeats 20000000

/-- What becomes of a point. -/
def wayP (k : Nat) (v : FP) (m : FQ) (p : FP) : FP := match k with
  | 0 => mvP v p
  | 1 => quP p
  | 2 => miP p
  | _ => grP m p
def wayQ (k : Nat) (n : Int) : FQ := if k = 3 then .of ((n : Rat) * (n : Rat)) else .of ((1 : Int) : Rat)
theorem wayP_sz {k : Nat} {v p : FP} {n : Int} (hn : inI n) (hv : HD v) (hp : HD p) : szV (wayP k v (.of (n : Rat)) p) ≤ 12 := by
  have hm : HB ((n : Int) : Rat) 64 1 := HD.grid' hn
  have sz : ∀ q : FP, HB q.x.q 128 12 → HB q.y.q 128 12 → szV q ≤ 12 := by
    intro q h1 h2
    have h1 := h1.sz
    have h2 := h2.sz
    unfold szV
    omega
  unfold wayP
  split
  · exact sz _ ((hp.1.add hv.1 70 (by omega) (by omega)).mono (by omega) (by omega)) ((hp.2.add hv.2 70 (by omega) (by omega)).mono (by omega) (by omega))
  · exact sz _ (hp.2.neg.mono (by omega) (by omega)) (hp.1.mono (by omega) (by omega))
  · exact sz _ (hp.1.neg.mono (by omega) (by omega)) (hp.2.mono (by omega) (by omega))
  · exact sz _ ((hp.1.mul hm).mono (by omega) (by omega)) ((hp.2.mul hm).mono (by omega) (by omega))
def FSg.wy (k : Nat) (v : FP) (m : FQ) (s : FSg) : FSg := ⟨wayP k v m s.A, wayP k v m s.B⟩
theorem stays_key (k : Nat) (hk : k ≤ 3) (v : FP) (n : Int) : ∃ φ c, Sca φ c ∧ c = (wayQ k n).q ∧ ∀ s : FSg, (s.wy k v (.of (n : Rat))).v = s.v.map φ := by
  unfold wayQ FSg.wy
  by_cases h3 : k = 3
  · subst h3
    exact ⟨_, _, sca_great (n : Rat), by rw [if_pos rfl]; rfl, fun s => rfl⟩
  · rw [if_neg h3]
    match k, h3, hk with
    | 0, _, _ => exact ⟨_, _, sca_move v.v, rfl, fun s => rfl⟩
    | 1, _, _ => exact ⟨_, _, sca_quarter, rfl, fun s => rfl⟩
    | 2, _, _ => exact ⟨_, _, sca_mirror, rfl, fun s => rfl⟩
    | 3, h, _ => exact absurd rfl h
    | j + 4, _, h => exact absurd h (by omega)
theorem stays_least {k : Nat} (hk : k ≤ 3) (v : FP) (n : Int) (e f : FSg) : (leastF ⟨wayP k v (.of (n : Rat)) e.B, wayP k v (.of (n : Rat)) e.A⟩ ⟨wayP k v (.of (n : Rat)) f.A, wayP k v (.of (n : Rat)) f.B⟩).q = (leastF e f).q * (wayQ k n).q := by
  obtain ⟨φ, c, h1, h2, h3⟩ := stays_key k hk v n
  have he := h3 e
  have hf := h3 f
  have e1 : (FSg.mk (wayP k v (.of (n : Rat)) e.B) (wayP k v (.of (n : Rat)) e.A)).v = (e.v.map φ).turn := by rw [← he]; rfl
  have e2 : (FSg.mk (wayP k v (.of (n : Rat)) f.A) (wayP k v (.of (n : Rat)) f.B)).v = f.v.map φ := by rw [← hf]; rfl
  rw [leastF_q, e1, e2, leastD_turn, h1.least, leastF_q, h2, Rat.mul_comm]
theorem stays_most {k : Nat} (hk : k ≤ 3) (v : FP) (n : Int) (e f : FSg) : (mostF ⟨wayP k v (.of (n : Rat)) e.B, wayP k v (.of (n : Rat)) e.A⟩ ⟨wayP k v (.of (n : Rat)) f.A, wayP k v (.of (n : Rat)) f.B⟩).q = (mostF e f).q * (wayQ k n).q := by
  obtain ⟨φ, c, h1, h2, h3⟩ := stays_key k hk v n
  have he := h3 e
  have hf := h3 f
  have e1 : (FSg.mk (wayP k v (.of (n : Rat)) e.B) (wayP k v (.of (n : Rat)) e.A)).v = (e.v.map φ).turn := by rw [← he]; rfl
  have e2 : (FSg.mk (wayP k v (.of (n : Rat)) f.A) (wayP k v (.of (n : Rat)) f.B)).v = f.v.map φ := by rw [← hf]; rfl
  rw [mostF_q, e1, e2, mostD_turn, h1.most, mostF_q, h2, Rat.mul_comm]
theorem cmp0F {x y : FQ} (h : x.q = y.q) : cmpZ (x.q.num * y.q.den) (y.q.num * x.q.den) = 0 := (cmpQ_zero _ _).2 h
theorem cmp0 {a b : Rat} (h : a = b) : cmpZ (a.num * b.den) (b.num * a.den) = 0 := (cmpQ_zero a b).2 h

open List (map_take map_drop)
attribute [local push_cast] optK_some optK_none optK_ite optK_map optK_bind gOn stepK isMem evPure evMem evBin evUn evConv evLen evBuiltin evMinMax evSlice evBuild evAppend evIndex evIndexAddr evField evFieldAddr intBin strBin appDest AS.val AS.mem AS.elems AS.put AS.put' AS.eff AV.cells? AV.isCell AV.refs all_isByte take_byteV drop_byteV strOf_map bndOk bnd partAV ptrAdd killBox catA inOrder fillA setAt ofVal resB upd byteV List.head?_take List.head?_drop List.getElem?_map mkS_env mkS_box mkS_used entry_env entry_box entry_used lk stepD lookIds Oper.looksAt Op.operands Call.operands St.ids refsL renL_append ren renL renBox Box.refs iV i64V boolV dV_getElem dV_app dV_cons toNat_add2 toNat_add1
attribute [local simp ↓] numC_refs numC_isCell numC_cells numC_resB numC_resD numC_ren numC_closeC numC_isOwn
theorem way12_ok (k : Nat) (hk : k ≤ 3) (v p : FP) (m : FQ) (h : szV p + szV v + szQ m.q ≤ 10000) : Eval Try.prog 20 [ptAV p, .ip [i64V k], .ip (ptC v), .ip (ratC m)] (.ret (ptAV (wayP k v m p))) := by
  simp only [szV] at h
  rcases (by omega : k = 0 ∨ k = 1 ∨ k = 2 ∨ k = 3) with h | h | h | h
  · subst h
    refine Eval.intro Try.func20 rfl Try.call20 _ _ (Nat.le_of_ble_eq_true rfl) (by simp [-map_take,-map_drop, AV.refs, refsL, natAV, zAV, zC, ratAV, ratC, ptAV, ptC, sgAV, sgC, d3sAV, d3C, dC, dotAV, push_cast]) fun hs0 => ?_
    have e1 := addR_ok p.x v.x (by omega)
    have e2 := addR_ok p.y v.y (by omega)
    have hw : wayP 0 v m p = ⟨.of (p.x.q + v.x.q), .of (p.y.q + v.y.q)⟩ := rfl
    rw [hw]
    obtain ⟨a, ha⟩ : ∃ a, a = FQ.of (p.x.q + v.x.q) := ⟨_, rfl⟩
    obtain ⟨b, hb⟩ : ∃ a, a = FQ.of (p.y.q + v.y.q) := ⟨_, rfl⟩
    rw [← ha] at e1 ⊢
    rw [← hb] at e2 ⊢
    clear ha hb h hw
    repeat' (first
      | with_reducible first | apply thenW_n | apply thenW_ret | apply thenW_exit | apply thenW_panic | apply blockW_n | apply blockW_same | apply blockW_ret | apply blockW_panic | apply loopW_ret | apply loopW_exit | apply loopW_panic | apply joinW_ret | apply joinW_exit | apply joinW_panic | apply W_seq | apply W_block | apply W_skip | apply W_ret | apply W_exit | apply W_label
      | with_reducible refine blockW_other (by decide) ?_
      | with_reducible refine W_region (by first | decide | (with_unfolding_all rfl)) ?_
      | (rw [vcn]; (try simp [-map_take,-map_drop, push_cast, sgAV, sgC, ptAV, ptC, ratAV, ratC, zAV, zC]); try simp (disch := omega) only [i64_in, u64_in, shr64i])
      | with_reducible refine W_drawn mixed (by decide) (by kernel_rfl) ?_
      | (rw [vcnD]; (try simp [-map_take,-map_drop, push_cast, sgAV, sgC, ptAV, ptC, ratAV, ratC, zAV, zC]); try simp (disch := omega) only [i64_in, u64_in, shr64i])
      | (with_reducible refine W_condW ?_; (try simp [-map_take,-map_drop, AS.val, upd, resB, mkS_env, mkS_box, lk, entry_env, condW_true, condW_false, sgAV, sgC, ptAV, ptC, ratAV, ratC, zAV, zC]))
      | (with_reducible refine optK_dV (by first | omega | (simp [-map_take,-map_drop]; omega)) ?_)
      | with_reducible refine optK_dVh (by omega) ?_
      | refine And.intro (by first | omega | kernel_rfl) ?_
      | ((with_reducible refine condW_b (fun hc => ?_) (fun hc => ?_) <;> (try simp [-map_take,-map_drop, Int.ofNat_inj] at hc) <;> (try contradiction)))
      | fail)
    first | refine CallG_of (e1) ?_ ?_ rfl ?_ | refine callD_of (e1) ?_ ?_ rfl ?_
    · first | rfl | (simp [-map_take,-map_drop, natAV, numC, ← limbs.eq_1, push_cast, ratAV, ratC, zAV, zC]; done)
    · first | rfl | simp [-map_take,-map_drop, natAV, zAV, zC, ratAV, ratC, ptAV, ptC, sgAV, sgC, d3sAV, d3C, dC, dotAV, AV.refs, refsL, push_cast]
    try dsimp only
    repeat' (first
      | with_reducible first | apply thenW_n | apply thenW_ret | apply thenW_exit | apply thenW_panic | apply blockW_n | apply blockW_same | apply blockW_ret | apply blockW_panic | apply loopW_ret | apply loopW_exit | apply loopW_panic | apply joinW_ret | apply joinW_exit | apply joinW_panic | apply W_seq | apply W_block | apply W_skip | apply W_ret | apply W_exit | apply W_label
      | with_reducible refine blockW_other (by decide) ?_
      | with_reducible refine W_region (by first | decide | (with_unfolding_all rfl)) ?_
      | (rw [vcn]; (try simp [-map_take,-map_drop, push_cast, sgAV, sgC, ptAV, ptC, ratAV, ratC, zAV, zC]); try simp (disch := omega) only [i64_in, u64_in, shr64i])
      | with_reducible refine W_drawn mixed (by decide) (by kernel_rfl) ?_
      | (rw [vcnD]; (try simp [-map_take,-map_drop, push_cast, sgAV, sgC, ptAV, ptC, ratAV, ratC, zAV, zC]); try simp (disch := omega) only [i64_in, u64_in, shr64i])
      | (with_reducible refine W_condW ?_; (try simp [-map_take,-map_drop, AS.val, upd, resB, mkS_env, mkS_box, lk, entry_env, condW_true, condW_false, sgAV, sgC, ptAV, ptC, ratAV, ratC, zAV, zC]))
      | (with_reducible refine optK_dV (by first | omega | (simp [-map_take,-map_drop]; omega)) ?_)
      | with_reducible refine optK_dVh (by omega) ?_
      | refine And.intro (by first | omega | kernel_rfl) ?_
      | ((with_reducible refine condW_b (fun hc => ?_) (fun hc => ?_) <;> (try simp [-map_take,-map_drop, Int.ofNat_inj] at hc) <;> (try contradiction)))
      | fail)
    first | refine CallG_of (e2) ?_ ?_ rfl ?_ | refine callD_of (e2) ?_ ?_ rfl ?_
    · first | rfl | (simp [-map_take,-map_drop, natAV, numC, ← limbs.eq_1, push_cast, ratAV, ratC, zAV, zC]; done)
    · first | rfl | simp [-map_take,-map_drop, natAV, zAV, zC, ratAV, ratC, ptAV, ptC, sgAV, sgC, d3sAV, d3C, dC, dotAV, AV.refs, refsL, push_cast]
    try dsimp only
    repeat' (first
      | with_reducible first | apply thenW_n | apply thenW_ret | apply thenW_exit | apply thenW_panic | apply blockW_n | apply blockW_same | apply blockW_ret | apply blockW_panic | apply loopW_ret | apply loopW_exit | apply loopW_panic | apply joinW_ret | apply joinW_exit | apply joinW_panic | apply W_seq | apply W_block | apply W_skip | apply W_ret | apply W_exit | apply W_label
      | with_reducible refine blockW_other (by decide) ?_
      | with_reducible refine W_region (by first | decide | (with_unfolding_all rfl)) ?_
      | (rw [vcn]; (try simp [-map_take,-map_drop, push_cast, sgAV, sgC, ptAV, ptC, ratAV, ratC, zAV, zC]); try simp (disch := omega) only [i64_in, u64_in, shr64i])
      | with_reducible refine W_drawn mixed (by decide) (by kernel_rfl) ?_
      | (rw [vcnD]; (try simp [-map_take,-map_drop, push_cast, sgAV, sgC, ptAV, ptC, ratAV, ratC, zAV, zC]); try simp (disch := omega) only [i64_in, u64_in, shr64i])
      | (with_reducible refine W_condW ?_; (try simp [-map_take,-map_drop, AS.val, upd, resB, mkS_env, mkS_box, lk, entry_env, condW_true, condW_false, sgAV, sgC, ptAV, ptC, ratAV, ratC, zAV, zC]))
      | (with_reducible refine optK_dV (by first | omega | (simp [-map_take,-map_drop]; omega)) ?_)
      | with_reducible refine optK_dVh (by omega) ?_
      | refine And.intro (by first | omega | kernel_rfl) ?_
      | ((with_reducible refine condW_b (fun hc => ?_) (fun hc => ?_) <;> (try simp [-map_take,-map_drop, Int.ofNat_inj] at hc) <;> (try contradiction)))
      | fail)
    simp [-map_take,-map_drop, post, resAV, resAll, resOne, closeV, closeC, closeL, resD, resDL, push_cast, ptAV, ptC, ratAV, ratC, zAV, zC]
  · subst h
    refine Eval.intro Try.func20 rfl Try.call20 _ _ (Nat.le_of_ble_eq_true rfl) (by simp [-map_take,-map_drop, AV.refs, refsL, natAV, zAV, zC, ratAV, ratC, ptAV, ptC, sgAV, sgC, d3sAV, d3C, dC, dotAV, push_cast]) fun hs0 => ?_
    have e1 := negR_ok p.y (by omega)
    have hw : wayP 1 v m p = ⟨p.y.neg, p.x⟩ := rfl
    rw [hw]
    obtain ⟨a, ha⟩ : ∃ a, a = p.y.neg := ⟨_, rfl⟩
    rw [← ha] at e1 ⊢
    clear ha h hw
    repeat' (first
      | with_reducible first | apply thenW_n | apply thenW_ret | apply thenW_exit | apply thenW_panic | apply blockW_n | apply blockW_same | apply blockW_ret | apply blockW_panic | apply loopW_ret | apply loopW_exit | apply loopW_panic | apply joinW_ret | apply joinW_exit | apply joinW_panic | apply W_seq | apply W_block | apply W_skip | apply W_ret | apply W_exit | apply W_label
      | with_reducible refine blockW_other (by decide) ?_
      | with_reducible refine W_region (by first | decide | (with_unfolding_all rfl)) ?_
      | (rw [vcn]; (try simp [-map_take,-map_drop, push_cast, sgAV, sgC, ptAV, ptC, ratAV, ratC, zAV, zC]); try simp (disch := omega) only [i64_in, u64_in, shr64i])
      | with_reducible refine W_drawn mixed (by decide) (by kernel_rfl) ?_
      | (rw [vcnD]; (try simp [-map_take,-map_drop, push_cast, sgAV, sgC, ptAV, ptC, ratAV, ratC, zAV, zC]); try simp (disch := omega) only [i64_in, u64_in, shr64i])
      | (with_reducible refine W_condW ?_; (try simp [-map_take,-map_drop, AS.val, upd, resB, mkS_env, mkS_box, lk, entry_env, condW_true, condW_false, sgAV, sgC, ptAV, ptC, ratAV, ratC, zAV, zC]))
      | (with_reducible refine optK_dV (by first | omega | (simp [-map_take,-map_drop]; omega)) ?_)
      | with_reducible refine optK_dVh (by omega) ?_
      | refine And.intro (by first | omega | kernel_rfl) ?_
      | ((with_reducible refine condW_b (fun hc => ?_) (fun hc => ?_) <;> (try simp [-map_take,-map_drop, Int.ofNat_inj] at hc) <;> (try contradiction)))
      | fail)
    first | refine CallG_of (e1) ?_ ?_ rfl ?_ | refine callD_of (e1) ?_ ?_ rfl ?_
    · first | rfl | (simp [-map_take,-map_drop, natAV, numC, ← limbs.eq_1, push_cast, ratAV, ratC, zAV, zC]; done)
    · first | rfl | simp [-map_take,-map_drop, natAV, zAV, zC, ratAV, ratC, ptAV, ptC, sgAV, sgC, d3sAV, d3C, dC, dotAV, AV.refs, refsL, push_cast]
    try dsimp only
    repeat' (first
      | with_reducible first | apply thenW_n | apply thenW_ret | apply thenW_exit | apply thenW_panic | apply blockW_n | apply blockW_same | apply blockW_ret | apply blockW_panic | apply loopW_ret | apply loopW_exit | apply loopW_panic | apply joinW_ret | apply joinW_exit | apply joinW_panic | apply W_seq | apply W_block | apply W_skip | apply W_ret | apply W_exit | apply W_label
      | with_reducible refine blockW_other (by decide) ?_
      | with_reducible refine W_region (by first | decide | (with_unfolding_all rfl)) ?_
      | (rw [vcn]; (try simp [-map_take,-map_drop, push_cast, sgAV, sgC, ptAV, ptC, ratAV, ratC, zAV, zC]); try simp (disch := omega) only [i64_in, u64_in, shr64i])
      | with_reducible refine W_drawn mixed (by decide) (by kernel_rfl) ?_
      | (rw [vcnD]; (try simp [-map_take,-map_drop, push_cast, sgAV, sgC, ptAV, ptC, ratAV, ratC, zAV, zC]); try simp (disch := omega) only [i64_in, u64_in, shr64i])
      | (with_reducible refine W_condW ?_; (try simp [-map_take,-map_drop, AS.val, upd, resB, mkS_env, mkS_box, lk, entry_env, condW_true, condW_false, sgAV, sgC, ptAV, ptC, ratAV, ratC, zAV, zC]))
      | (with_reducible refine optK_dV (by first | omega | (simp [-map_take,-map_drop]; omega)) ?_)
      | with_reducible refine optK_dVh (by omega) ?_
      | refine And.intro (by first | omega | kernel_rfl) ?_
      | ((with_reducible refine condW_b (fun hc => ?_) (fun hc => ?_) <;> (try simp [-map_take,-map_drop, Int.ofNat_inj] at hc) <;> (try contradiction)))
      | fail)
    simp [-map_take,-map_drop, post, resAV, resAll, resOne, closeV, closeC, closeL, resD, resDL, push_cast, ptAV, ptC, ratAV, ratC, zAV, zC]
  · subst h
    refine Eval.intro Try.func20 rfl Try.call20 _ _ (Nat.le_of_ble_eq_true rfl) (by simp [-map_take,-map_drop, AV.refs, refsL, natAV, zAV, zC, ratAV, ratC, ptAV, ptC, sgAV, sgC, d3sAV, d3C, dC, dotAV, push_cast]) fun hs0 => ?_
    have e1 := negR_ok p.x (by omega)
    have hw : wayP 2 v m p = ⟨p.x.neg, p.y⟩ := rfl
    rw [hw]
    obtain ⟨a, ha⟩ : ∃ a, a = p.x.neg := ⟨_, rfl⟩
    rw [← ha] at e1 ⊢
    clear ha h hw
    repeat' (first
      | with_reducible first | apply thenW_n | apply thenW_ret | apply thenW_exit | apply thenW_panic | apply blockW_n | apply blockW_same | apply blockW_ret | apply blockW_panic | apply loopW_ret | apply loopW_exit | apply loopW_panic | apply joinW_ret | apply joinW_exit | apply joinW_panic | apply W_seq | apply W_block | apply W_skip | apply W_ret | apply W_exit | apply W_label
      | with_reducible refine blockW_other (by decide) ?_
      | with_reducible refine W_region (by first | decide | (with_unfolding_all rfl)) ?_
      | (rw [vcn]; (try simp [-map_take,-map_drop, push_cast, sgAV, sgC, ptAV, ptC, ratAV, ratC, zAV, zC]); try simp (disch := omega) only [i64_in, u64_in, shr64i])
      | with_reducible refine W_drawn mixed (by decide) (by kernel_rfl) ?_
      | (rw [vcnD]; (try simp [-map_take,-map_drop, push_cast, sgAV, sgC, ptAV, ptC, ratAV, ratC, zAV, zC]); try simp (disch := omega) only [i64_in, u64_in, shr64i])
      | (with_reducible refine W_condW ?_; (try simp [-map_take,-map_drop, AS.val, upd, resB, mkS_env, mkS_box, lk, entry_env, condW_true, condW_false, sgAV, sgC, ptAV, ptC, ratAV, ratC, zAV, zC]))
      | (with_reducible refine optK_dV (by first | omega | (simp [-map_take,-map_drop]; omega)) ?_)
      | with_reducible refine optK_dVh (by omega) ?_
      | refine And.intro (by first | omega | kernel_rfl) ?_
      | ((with_reducible refine condW_b (fun hc => ?_) (fun hc => ?_) <;> (try simp [-map_take,-map_drop, Int.ofNat_inj] at hc) <;> (try contradiction)))
      | fail)
    first | refine CallG_of (e1) ?_ ?_ rfl ?_ | refine callD_of (e1) ?_ ?_ rfl ?_
    · first | rfl | (simp [-map_take,-map_drop, natAV, numC, ← limbs.eq_1, push_cast, ratAV, ratC, zAV, zC]; done)
    · first | rfl | simp [-map_take,-map_drop, natAV, zAV, zC, ratAV, ratC, ptAV, ptC, sgAV, sgC, d3sAV, d3C, dC, dotAV, AV.refs, refsL, push_cast]
    try dsimp only
    repeat' (first
      | with_reducible first | apply thenW_n | apply thenW_ret | apply thenW_exit | apply thenW_panic | apply blockW_n | apply blockW_same | apply blockW_ret | apply blockW_panic | apply loopW_ret | apply loopW_exit | apply loopW_panic | apply joinW_ret | apply joinW_exit | apply joinW_panic | apply W_seq | apply W_block | apply W_skip | apply W_ret | apply W_exit | apply W_label
      | with_reducible refine blockW_other (by decide) ?_
      | with_reducible refine W_region (by first | decide | (with_unfolding_all rfl)) ?_
      | (rw [vcn]; (try simp [-map_take,-map_drop, push_cast, sgAV, sgC, ptAV, ptC, ratAV, ratC, zAV, zC]); try simp (disch := omega) only [i64_in, u64_in, shr64i])
      | with_reducible refine W_drawn mixed (by decide) (by kernel_rfl) ?_
      | (rw [vcnD]; (try simp [-map_take,-map_drop, push_cast, sgAV, sgC, ptAV, ptC, ratAV, ratC, zAV, zC]); try simp (disch := omega) only [i64_in, u64_in, shr64i])
      | (with_reducible refine W_condW ?_; (try simp [-map_take,-map_drop, AS.val, upd, resB, mkS_env, mkS_box, lk, entry_env, condW_true, condW_false, sgAV, sgC, ptAV, ptC, ratAV, ratC, zAV, zC]))
      | (with_reducible refine optK_dV (by first | omega | (simp [-map_take,-map_drop]; omega)) ?_)
      | with_reducible refine optK_dVh (by omega) ?_
      | refine And.intro (by first | omega | kernel_rfl) ?_
      | ((with_reducible refine condW_b (fun hc => ?_) (fun hc => ?_) <;> (try simp [-map_take,-map_drop, Int.ofNat_inj] at hc) <;> (try contradiction)))
      | fail)
    simp [-map_take,-map_drop, post, resAV, resAll, resOne, closeV, closeC, closeL, resD, resDL, push_cast, ptAV, ptC, ratAV, ratC, zAV, zC]
  · subst h
    refine Eval.intro Try.func20 rfl Try.call20 _ _ (Nat.le_of_ble_eq_true rfl) (by simp [-map_take,-map_drop, AV.refs, refsL, natAV, zAV, zC, ratAV, ratC, ptAV, ptC, sgAV, sgC, d3sAV, d3C, dC, dotAV, push_cast]) fun hs0 => ?_
    have e1 := mulR_ok p.x m (by omega)
    have e2 := mulR_ok p.y m (by omega)
    have hw : wayP 3 v m p = ⟨.of (p.x.q * m.q), .of (p.y.q * m.q)⟩ := rfl
    rw [hw]
    obtain ⟨a, ha⟩ : ∃ a, a = FQ.of (p.x.q * m.q) := ⟨_, rfl⟩
    obtain ⟨b, hb⟩ : ∃ a, a = FQ.of (p.y.q * m.q) := ⟨_, rfl⟩
    rw [← ha] at e1 ⊢
    rw [← hb] at e2 ⊢
    clear ha hb h hw
    repeat' (first
      | with_reducible first | apply thenW_n | apply thenW_ret | apply thenW_exit | apply thenW_panic | apply blockW_n | apply blockW_same | apply blockW_ret | apply blockW_panic | apply loopW_ret | apply loopW_exit | apply loopW_panic | apply joinW_ret | apply joinW_exit | apply joinW_panic | apply W_seq | apply W_block | apply W_skip | apply W_ret | apply W_exit | apply W_label
      | with_reducible refine blockW_other (by decide) ?_
      | with_reducible refine W_region (by first | decide | (with_unfolding_all rfl)) ?_
      | (rw [vcn]; (try simp [-map_take,-map_drop, push_cast, sgAV, sgC, ptAV, ptC, ratAV, ratC, zAV, zC]); try simp (disch := omega) only [i64_in, u64_in, shr64i])
      | with_reducible refine W_drawn mixed (by decide) (by kernel_rfl) ?_
      | (rw [vcnD]; (try simp [-map_take,-map_drop, push_cast, sgAV, sgC, ptAV, ptC, ratAV, ratC, zAV, zC]); try simp (disch := omega) only [i64_in, u64_in, shr64i])
      | (with_reducible refine W_condW ?_; (try simp [-map_take,-map_drop, AS.val, upd, resB, mkS_env, mkS_box, lk, entry_env, condW_true, condW_false, sgAV, sgC, ptAV, ptC, ratAV, ratC, zAV, zC]))
      | (with_reducible refine optK_dV (by first | omega | (simp [-map_take,-map_drop]; omega)) ?_)
      | with_reducible refine optK_dVh (by omega) ?_
      | refine And.intro (by first | omega | kernel_rfl) ?_
      | ((with_reducible refine condW_b (fun hc => ?_) (fun hc => ?_) <;> (try simp [-map_take,-map_drop, Int.ofNat_inj] at hc) <;> (try contradiction)))
      | fail)
    first | refine CallG_of (e1) ?_ ?_ rfl ?_ | refine callD_of (e1) ?_ ?_ rfl ?_
    · first | rfl | (simp [-map_take,-map_drop, natAV, numC, ← limbs.eq_1, push_cast, ratAV, ratC, zAV, zC]; done)
    · first | rfl | simp [-map_take,-map_drop, natAV, zAV, zC, ratAV, ratC, ptAV, ptC, sgAV, sgC, d3sAV, d3C, dC, dotAV, AV.refs, refsL, push_cast]
    try dsimp only
    repeat' (first
      | with_reducible first | apply thenW_n | apply thenW_ret | apply thenW_exit | apply thenW_panic | apply blockW_n | apply blockW_same | apply blockW_ret | apply blockW_panic | apply loopW_ret | apply loopW_exit | apply loopW_panic | apply joinW_ret | apply joinW_exit | apply joinW_panic | apply W_seq | apply W_block | apply W_skip | apply W_ret | apply W_exit | apply W_label
      | with_reducible refine blockW_other (by decide) ?_
      | with_reducible refine W_region (by first | decide | (with_unfolding_all rfl)) ?_
      | (rw [vcn]; (try simp [-map_take,-map_drop, push_cast, sgAV, sgC, ptAV, ptC, ratAV, ratC, zAV, zC]); try simp (disch := omega) only [i64_in, u64_in, shr64i])
      | with_reducible refine W_drawn mixed (by decide) (by kernel_rfl) ?_
      | (rw [vcnD]; (try simp [-map_take,-map_drop, push_cast, sgAV, sgC, ptAV, ptC, ratAV, ratC, zAV, zC]); try simp (disch := omega) only [i64_in, u64_in, shr64i])
      | (with_reducible refine W_condW ?_; (try simp [-map_take,-map_drop, AS.val, upd, resB, mkS_env, mkS_box, lk, entry_env, condW_true, condW_false, sgAV, sgC, ptAV, ptC, ratAV, ratC, zAV, zC]))
      | (with_reducible refine optK_dV (by first | omega | (simp [-map_take,-map_drop]; omega)) ?_)
      | with_reducible refine optK_dVh (by omega) ?_
      | refine And.intro (by first | omega | kernel_rfl) ?_
      | ((with_reducible refine condW_b (fun hc => ?_) (fun hc => ?_) <;> (try simp [-map_take,-map_drop, Int.ofNat_inj] at hc) <;> (try contradiction)))
      | fail)
    first | refine CallG_of (e2) ?_ ?_ rfl ?_ | refine callD_of (e2) ?_ ?_ rfl ?_
    · first | rfl | (simp [-map_take,-map_drop, natAV, numC, ← limbs.eq_1, push_cast, ratAV, ratC, zAV, zC]; done)
    · first | rfl | simp [-map_take,-map_drop, natAV, zAV, zC, ratAV, ratC, ptAV, ptC, sgAV, sgC, d3sAV, d3C, dC, dotAV, AV.refs, refsL, push_cast]
    try dsimp only
    repeat' (first
      | with_reducible first | apply thenW_n | apply thenW_ret | apply thenW_exit | apply thenW_panic | apply blockW_n | apply blockW_same | apply blockW_ret | apply blockW_panic | apply loopW_ret | apply loopW_exit | apply loopW_panic | apply joinW_ret | apply joinW_exit | apply joinW_panic | apply W_seq | apply W_block | apply W_skip | apply W_ret | apply W_exit | apply W_label
      | with_reducible refine blockW_other (by decide) ?_
      | with_reducible refine W_region (by first | decide | (with_unfolding_all rfl)) ?_
      | (rw [vcn]; (try simp [-map_take,-map_drop, push_cast, sgAV, sgC, ptAV, ptC, ratAV, ratC, zAV, zC]); try simp (disch := omega) only [i64_in, u64_in, shr64i])
      | with_reducible refine W_drawn mixed (by decide) (by kernel_rfl) ?_
      | (rw [vcnD]; (try simp [-map_take,-map_drop, push_cast, sgAV, sgC, ptAV, ptC, ratAV, ratC, zAV, zC]); try simp (disch := omega) only [i64_in, u64_in, shr64i])
      | (with_reducible refine W_condW ?_; (try simp [-map_take,-map_drop, AS.val, upd, resB, mkS_env, mkS_box, lk, entry_env, condW_true, condW_false, sgAV, sgC, ptAV, ptC, ratAV, ratC, zAV, zC]))
      | (with_reducible refine optK_dV (by first | omega | (simp [-map_take,-map_drop]; omega)) ?_)
      | with_reducible refine optK_dVh (by omega) ?_
      | refine And.intro (by first | omega | kernel_rfl) ?_
      | ((with_reducible refine condW_b (fun hc => ?_) (fun hc => ?_) <;> (try simp [-map_take,-map_drop, Int.ofNat_inj] at hc) <;> (try contradiction)))
      | fail)
    simp [-map_take,-map_drop, post, resAV, resAll, resOne, closeV, closeC, closeL, resD, resDL, push_cast, ptAV, ptC, ratAV, ratC, zAV, zC]
end Go.Fw

/- The law ReachStays comes to true: the walk. -/
-- VALS: zAV, zC, ratAV, ratC, ptAV, ptC, sgAV, sgC, d3sAV, d3C, dC, dotAV
namespace Go.Fw
open Go Go.Proofs Go.IntWalk
set_option linter.unusedSimpArgs false
set_option maxRecDepth 100000
set_option maxHeartbeats 20000000

open List (map_take map_drop)
attribute [local push_cast] optK_some optK_none optK_ite optK_map optK_bind gOn stepK isMem evPure evMem evBin evUn evConv evLen evBuiltin evMinMax evSlice evBuild evAppend evIndex evIndexAddr evField evFieldAddr intBin strBin appDest AS.val AS.mem AS.elems AS.put AS.put' AS.eff AV.cells? AV.isCell AV.refs all_isByte take_byteV drop_byteV strOf_map bndOk bnd partAV ptrAdd killBox catA inOrder fillA setAt ofVal resB upd byteV List.head?_take List.head?_drop List.getElem?_map mkS_env mkS_box mkS_used entry_env entry_box entry_used lk stepD lookIds Oper.looksAt Op.operands Call.operands St.ids refsL renL_append ren renL renBox Box.refs iV i64V boolV dV_getElem dV_app dV_cons toNat_add2 toNat_add1
attribute [local simp ↓] numC_refs numC_isCell numC_cells numC_resB numC_resD numC_ren numC_closeC numC_isOwn
theorem lawStays12_ok (a b c d y : Int × Int × Int) (n : Int) (ha : inD a) (hb : inD b) (hc : inD c) (hd : inD d) (hy : inD y) (hn : inI n) :
    Eval Try.prog 4 [dotAV a, dotAV b, dotAV c, dotAV d, dotAV y, i64V n] (.ret (.v (.bool true))) := by
  refine Eval.intro Try.func4 rfl Try.call4 _ _ (Nat.le_of_ble_eq_true rfl) (by simp [-map_take,-map_drop, AV.refs, refsL, natAV, zAV, zC, ratAV, ratC, ptAV, ptC, sgAV, sgC, d3sAV, d3C, dC, dotAV, push_cast]) fun hs0 => ?_
  have s1 := seg12_ok a b ha hb
  have s2 := seg12_ok c d hc hd
  have s3 := l11At_ok y.1 y.2.1 y.2.2 hy.1 hy.2
  have HA := HD.dot ha
  have HBd := HD.dot hb
  have HC := HD.dot hc
  have HDd := HD.dot hd
  have HY := HD.dot hy
  have ze := sz_dots ha hb
  have zf := sz_dots hc hd
  obtain ⟨A, h1⟩ : ∃ A, A = dotF a.1 a.2.1 a.2.2 := ⟨_, rfl⟩
  obtain ⟨B, h2⟩ : ∃ A, A = dotF b.1 b.2.1 b.2.2 := ⟨_, rfl⟩
  obtain ⟨C, h3⟩ : ∃ A, A = dotF c.1 c.2.1 c.2.2 := ⟨_, rfl⟩
  obtain ⟨D, h4⟩ : ∃ A, A = dotF d.1 d.2.1 d.2.2 := ⟨_, rfl⟩
  obtain ⟨Y, h5⟩ : ∃ A, A = dotF y.1 y.2.1 y.2.2 := ⟨_, rfl⟩
  have h12 : dotsF a b = ⟨A, B⟩ := by rw [h1, h2]; rfl
  have h34 : dotsF c d = ⟨C, D⟩ := by rw [h3, h4]; rfl
  rw [h12] at s1 ze
  rw [h34] at s2 zf
  rw [← h5] at s3 HY
  rw [← h1] at HA
  rw [← h2] at HBd
  rw [← h3] at HC
  rw [← h4] at HDd
  clear h1 h2 h3 h4 h5 h12 h34
  have zl := sz_least ⟨A, B⟩ ⟨C, D⟩
  have zl' := sz_least ⟨C, D⟩ ⟨A, B⟩
  have zo := sz_most ⟨A, B⟩ ⟨C, D⟩
  have zo' := sz_most ⟨C, D⟩ ⟨A, B⟩
  have zn : szQ ((n : Int) : Rat) ≤ 5 := szQ_int hn
  have zm := szQ_mul ((n : Int) : Rat) ((n : Int) : Rat)
  have r1 := ofZ_ok n hn
  have r2 := whole_ok n (by have := limbs_small (n := n.natAbs) (by unfold inI at hn; omega); omega)
  have r3 := ofZ_ok 1 (by omega)
  have r4 := whole_ok 1 (by have h3 := limbs_small (n := 1) (by omega); show (limbs 1).length ≤ 1000000; omega)
  have l1 := reachLeast_ok ⟨A, B⟩ ⟨C, D⟩ (by omega)
  have l2 := reachLeast_ok ⟨C, D⟩ ⟨A, B⟩ (by omega)
  have m1 := reachMost_ok ⟨A, B⟩ ⟨C, D⟩ (by omega)
  have m2 := reachMost_ok ⟨C, D⟩ ⟨A, B⟩ (by omega)
  have c1 := cmpR_ok (leastF ⟨C, D⟩ ⟨A, B⟩) (leastF ⟨A, B⟩ ⟨C, D⟩) (by omega)
  have c2 := cmpR_ok (mostF ⟨C, D⟩ ⟨A, B⟩) (mostF ⟨A, B⟩ ⟨C, D⟩) (by omega)
  rw [cmp0 (by rw [leastF_q, leastF_q, leastD_comm])] at c1
  rw [cmp0 (by rw [mostF_q, mostF_q, mostD_comm])] at c2
  have mm := mulR_ok (.of ((n : Int) : Rat)) (.of ((n : Int) : Rat)) (by simp only [FQ.of]; omega)
  have o5 : (FQ.of ((n : Int) : Rat)).q * (FQ.of ((n : Int) : Rat)).q = ((n : Int) : Rat) * ((n : Int) : Rat) := rfl
  rw [o5] at mm
  have z1 : szQ ((1 : Int) : Rat) ≤ 10 := by
    have h3 := limbs_small (n := 1) (by omega)
    show (limbs 1).length + (limbs 1).length ≤ 10
    omega
  have round : ∀ k, k ≤ 3 → ∃ (U V : FSg) (LL MM LK MK K : FQ), K = wayQ k n ∧
      Eval Try.prog 20 [ptAV B, .ip [i64V k], .ip (ptC Y), .ip (ratC (.of ((n : Int) : Rat)))] (.ret (ptAV U.A)) ∧
      Eval Try.prog 20 [ptAV A, .ip [i64V k], .ip (ptC Y), .ip (ratC (.of ((n : Int) : Rat)))] (.ret (ptAV U.B)) ∧
      Eval Try.prog 20 [ptAV C, .ip [i64V k], .ip (ptC Y), .ip (ratC (.of ((n : Int) : Rat)))] (.ret (ptAV V.A)) ∧
      Eval Try.prog 20 [ptAV D, .ip [i64V k], .ip (ptC Y), .ip (ratC (.of ((n : Int) : Rat)))] (.ret (ptAV V.B)) ∧
      Eval Try.prog 15 [sgAV U, sgAV V] (.ret (ratAV LL)) ∧
      Eval Try.prog 16 [sgAV U, sgAV V] (.ret (ratAV MM)) ∧
      Eval Try.prog 12 [ratAV (leastF ⟨A, B⟩ ⟨C, D⟩), ratAV K] (.ret (ratAV LK)) ∧
      Eval Try.prog 12 [ratAV (mostF ⟨A, B⟩ ⟨C, D⟩), ratAV K] (.ret (ratAV MK)) ∧
      Eval Try.prog 11 [ratAV LL, ratAV LK] (.ret (i64V 0)) ∧
      Eval Try.prog 11 [ratAV MM, ratAV MK] (.ret (i64V 0)) := by
    intro k hk
    have ya := HA.sz
    have yb := HBd.sz
    have yc := HC.sz
    have yd := HDd.sz
    have yy := HY.sz
    have wa := wayP_sz (k := k) hn HY HA
    have wb := wayP_sz (k := k) hn HY HBd
    have wc := wayP_sz (k := k) hn HY HC
    have wd := wayP_sz (k := k) hn HY HDd
    have zU : szS ⟨wayP k Y (.of ((n : Int) : Rat)) B, wayP k Y (.of ((n : Int) : Rat)) A⟩ ≤ 24 := by
      show szV (wayP k Y (.of ((n : Int) : Rat)) B) + szV (wayP k Y (.of ((n : Int) : Rat)) A) ≤ 24
      omega
    have zV : szS ⟨wayP k Y (.of ((n : Int) : Rat)) C, wayP k Y (.of ((n : Int) : Rat)) D⟩ ≤ 24 := by
      show szV (wayP k Y (.of ((n : Int) : Rat)) C) + szV (wayP k Y (.of ((n : Int) : Rat)) D) ≤ 24
      omega
    have zL := sz_least ⟨wayP k Y (.of ((n : Int) : Rat)) B, wayP k Y (.of ((n : Int) : Rat)) A⟩ ⟨wayP k Y (.of ((n : Int) : Rat)) C, wayP k Y (.of ((n : Int) : Rat)) D⟩
    have zM := sz_most ⟨wayP k Y (.of ((n : Int) : Rat)) B, wayP k Y (.of ((n : Int) : Rat)) A⟩ ⟨wayP k Y (.of ((n : Int) : Rat)) C, wayP k Y (.of ((n : Int) : Rat)) D⟩
    have zK : szQ (wayQ k n).q ≤ 20 := by
      unfold wayQ
      split
      · simp only [FQ.of]; omega
      · simp only [FQ.of]; omega
    have zLK := szQ_mul (leastF ⟨A, B⟩ ⟨C, D⟩).q (wayQ k n).q
    have zMK := szQ_mul (mostF ⟨A, B⟩ ⟨C, D⟩).q (wayQ k n).q
    refine ⟨⟨wayP k Y (.of ((n : Int) : Rat)) B, wayP k Y (.of ((n : Int) : Rat)) A⟩, ⟨wayP k Y (.of ((n : Int) : Rat)) C, wayP k Y (.of ((n : Int) : Rat)) D⟩, _, _, _, _, wayQ k n, rfl,
      way12_ok k hk Y B _ (by simp only [FQ.of]; omega), way12_ok k hk Y A _ (by simp only [FQ.of]; omega), way12_ok k hk Y C _ (by simp only [FQ.of]; omega), way12_ok k hk Y D _ (by simp only [FQ.of]; omega),
      reachLeast_ok _ _ (by omega), reachMost_ok _ _ (by omega), mulR_ok _ _ (by omega), mulR_ok _ _ (by omega), ?_, ?_⟩
    · have h := cmpR_ok (leastF ⟨wayP k Y (.of ((n : Int) : Rat)) B, wayP k Y (.of ((n : Int) : Rat)) A⟩ ⟨wayP k Y (.of ((n : Int) : Rat)) C, wayP k Y (.of ((n : Int) : Rat)) D⟩) (.of ((leastF ⟨A, B⟩ ⟨C, D⟩).q * (wayQ k n).q)) (by have h0 : szQ (FQ.of ((leastF ⟨A, B⟩ ⟨C, D⟩).q * (wayQ k n).q)).q = szQ ((leastF ⟨A, B⟩ ⟨C, D⟩).q * (wayQ k n).q) := rfl; omega)
      rw [cmp0F (x := leastF ⟨wayP k Y (.of ((n : Int) : Rat)) B, wayP k Y (.of ((n : Int) : Rat)) A⟩ ⟨wayP k Y (.of ((n : Int) : Rat)) C, wayP k Y (.of ((n : Int) : Rat)) D⟩) (y := .of ((leastF ⟨A, B⟩ ⟨C, D⟩).q * (wayQ k n).q)) (stays_least hk Y n ⟨A, B⟩ ⟨C, D⟩)] at h
      exact h
    · have h := cmpR_ok (mostF ⟨wayP k Y (.of ((n : Int) : Rat)) B, wayP k Y (.of ((n : Int) : Rat)) A⟩ ⟨wayP k Y (.of ((n : Int) : Rat)) C, wayP k Y (.of ((n : Int) : Rat)) D⟩) (.of ((mostF ⟨A, B⟩ ⟨C, D⟩).q * (wayQ k n).q)) (by have h0 : szQ (FQ.of ((mostF ⟨A, B⟩ ⟨C, D⟩).q * (wayQ k n).q)).q = szQ ((mostF ⟨A, B⟩ ⟨C, D⟩).q * (wayQ k n).q) := rfl; omega)
      rw [cmp0F (x := mostF ⟨wayP k Y (.of ((n : Int) : Rat)) B, wayP k Y (.of ((n : Int) : Rat)) A⟩ ⟨wayP k Y (.of ((n : Int) : Rat)) C, wayP k Y (.of ((n : Int) : Rat)) D⟩) (y := .of ((mostF ⟨A, B⟩ ⟨C, D⟩).q * (wayQ k n).q)) (stays_most hk Y n ⟨A, B⟩ ⟨C, D⟩)] at h
      exact h
  have hK3 : wayQ 3 n = .of (((n : Int) : Rat) * ((n : Int) : Rat)) := rfl
  have hK1 : ∀ k, k ≠ 3 → wayQ k n = .of ((1 : Int) : Rat) := fun k hk => by unfold wayQ; rw [if_neg hk]
  obtain ⟨L, hx⟩ : ∃ x, x = leastF ⟨A, B⟩ ⟨C, D⟩ := ⟨_, rfl⟩
  simp only [← hx] at l1 c1 round
  clear hx
  obtain ⟨L2, hx⟩ : ∃ x, x = leastF ⟨C, D⟩ ⟨A, B⟩ := ⟨_, rfl⟩
  rw [← hx] at l2 c1
  clear hx
  obtain ⟨O, hx⟩ : ∃ x, x = mostF ⟨A, B⟩ ⟨C, D⟩ := ⟨_, rfl⟩
  simp only [← hx] at m1 c2 round
  clear hx
  obtain ⟨O2, hx⟩ : ∃ x, x = mostF ⟨C, D⟩ ⟨A, B⟩ := ⟨_, rfl⟩
  rw [← hx] at m2 c2
  clear hx
  obtain ⟨M, hx⟩ : ∃ x, x = FQ.of ((n : Int) : Rat) := ⟨_, rfl⟩
  simp only [← hx] at r2 mm round
  clear hx
  obtain ⟨MM, hx⟩ : ∃ x, x = FQ.of (((n : Int) : Rat) * ((n : Int) : Rat)) := ⟨_, rfl⟩
  rw [← hx] at mm hK3
  clear hx
  obtain ⟨I, hx⟩ : ∃ x, x = FQ.of ((1 : Int) : Rat) := ⟨_, rfl⟩
  simp only [← hx] at r4 hK1
  clear hx
  clear zl zl' zo zo' zn zm ze zf z1 HA HBd HC HDd HY ha hb hc hd hy hn o5
  repeat' (first
    | with_reducible first | apply thenW_n | apply thenW_ret | apply thenW_exit | apply thenW_panic | apply blockW_n | apply blockW_same | apply blockW_ret | apply blockW_panic | apply loopW_ret | apply loopW_exit | apply loopW_panic | apply joinW_ret | apply joinW_exit | apply joinW_panic | apply W_seq | apply W_block | apply W_skip | apply W_ret | apply W_exit | apply W_label
    | with_reducible refine blockW_other (by decide) ?_
    | with_reducible refine W_region (by first | decide | (with_unfolding_all rfl)) ?_
    | (rw [vcn]; (try simp [-map_take,-map_drop, push_cast, dotAV]); try simp (disch := omega) only [i64_in, u64_in, shr64i])
    | with_reducible refine W_drawn mixed (by decide) (by kernel_rfl) ?_
    | (rw [vcnD]; (try simp [-map_take,-map_drop, push_cast, dotAV]); try simp (disch := omega) only [i64_in, u64_in, shr64i])
    | (with_reducible refine W_condW ?_; (try simp [-map_take,-map_drop, AS.val, upd, resB, mkS_env, mkS_box, lk, entry_env, condW_true, condW_false, dotAV]))
    | (with_reducible refine optK_dV (by first | omega | (simp [-map_take,-map_drop]; omega)) ?_)
    | with_reducible refine optK_dVh (by omega) ?_
    | refine And.intro (by first | omega | kernel_rfl) ?_
    | ((with_reducible refine condW_b (fun hc => ?_) (fun hc => ?_) <;> (try simp [-map_take,-map_drop, Int.ofNat_inj] at hc) <;> (try contradiction)))
    | fail)
  first | refine CallG_of (s1) ?_ ?_ rfl ?_ | refine callD_of (s1) ?_ ?_ rfl ?_
  · first | rfl | (simp [-map_take,-map_drop, natAV, numC, ← limbs.eq_1, push_cast, sgAV, sgC, ptAV, ptC, ratAV, ratC, zAV, zC, d3sAV, d3C, dC]; done)
  · first | rfl | simp [-map_take,-map_drop, natAV, zAV, zC, ratAV, ratC, ptAV, ptC, sgAV, sgC, d3sAV, d3C, dC, dotAV, AV.refs, refsL, push_cast]
  try dsimp only
  repeat' (first
    | with_reducible first | apply thenW_n | apply thenW_ret | apply thenW_exit | apply thenW_panic | apply blockW_n | apply blockW_same | apply blockW_ret | apply blockW_panic | apply loopW_ret | apply loopW_exit | apply loopW_panic | apply joinW_ret | apply joinW_exit | apply joinW_panic | apply W_seq | apply W_block | apply W_skip | apply W_ret | apply W_exit | apply W_label
    | with_reducible refine blockW_other (by decide) ?_
    | with_reducible refine W_region (by first | decide | (with_unfolding_all rfl)) ?_
    | (rw [vcn]; (try simp [-map_take,-map_drop, push_cast, sgAV, sgC, ptAV, ptC, ratAV, ratC, zAV, zC, d3sAV, d3C, dC, dotAV]); try simp (disch := omega) only [i64_in, u64_in, shr64i])
    | with_reducible refine W_drawn mixed (by decide) (by kernel_rfl) ?_
    | (rw [vcnD]; (try simp [-map_take,-map_drop, push_cast, sgAV, sgC, ptAV, ptC, ratAV, ratC, zAV, zC, d3sAV, d3C, dC, dotAV]); try simp (disch := omega) only [i64_in, u64_in, shr64i])
    | (with_reducible refine W_condW ?_; (try simp [-map_take,-map_drop, AS.val, upd, resB, mkS_env, mkS_box, lk, entry_env, condW_true, condW_false, sgAV, sgC, ptAV, ptC, ratAV, ratC, zAV, zC, d3sAV, d3C, dC, dotAV]))
    | (with_reducible refine optK_dV (by first | omega | (simp [-map_take,-map_drop]; omega)) ?_)
    | with_reducible refine optK_dVh (by omega) ?_
    | refine And.intro (by first | omega | kernel_rfl) ?_
    | ((with_reducible refine condW_b (fun hc => ?_) (fun hc => ?_) <;> (try simp [-map_take,-map_drop, Int.ofNat_inj] at hc) <;> (try contradiction)))
    | fail)
  first | refine CallG_of (s2) ?_ ?_ rfl ?_ | refine callD_of (s2) ?_ ?_ rfl ?_
  · first | rfl | (simp [-map_take,-map_drop, natAV, numC, ← limbs.eq_1, push_cast, sgAV, sgC, ptAV, ptC, ratAV, ratC, zAV, zC, d3sAV, d3C, dC]; done)
  · first | rfl | simp [-map_take,-map_drop, natAV, zAV, zC, ratAV, ratC, ptAV, ptC, sgAV, sgC, d3sAV, d3C, dC, dotAV, AV.refs, refsL, push_cast]
  try dsimp only
  repeat' (first
    | with_reducible first | apply thenW_n | apply thenW_ret | apply thenW_exit | apply thenW_panic | apply blockW_n | apply blockW_same | apply blockW_ret | apply blockW_panic | apply loopW_ret | apply loopW_exit | apply loopW_panic | apply joinW_ret | apply joinW_exit | apply joinW_panic | apply W_seq | apply W_block | apply W_skip | apply W_ret | apply W_exit | apply W_label
    | with_reducible refine blockW_other (by decide) ?_
    | with_reducible refine W_region (by first | decide | (with_unfolding_all rfl)) ?_
    | (rw [vcn]; (try simp [-map_take,-map_drop, push_cast, sgAV, sgC, ptAV, ptC, ratAV, ratC, zAV, zC, d3sAV, d3C, dC, dotAV]); try simp (disch := omega) only [i64_in, u64_in, shr64i])
    | with_reducible refine W_drawn mixed (by decide) (by kernel_rfl) ?_
    | (rw [vcnD]; (try simp [-map_take,-map_drop, push_cast, sgAV, sgC, ptAV, ptC, ratAV, ratC, zAV, zC, d3sAV, d3C, dC, dotAV]); try simp (disch := omega) only [i64_in, u64_in, shr64i])
    | (with_reducible refine W_condW ?_; (try simp [-map_take,-map_drop, AS.val, upd, resB, mkS_env, mkS_box, lk, entry_env, condW_true, condW_false, sgAV, sgC, ptAV, ptC, ratAV, ratC, zAV, zC, d3sAV, d3C, dC, dotAV]))
    | (with_reducible refine optK_dV (by first | omega | (simp [-map_take,-map_drop]; omega)) ?_)
    | with_reducible refine optK_dVh (by omega) ?_
    | refine And.intro (by first | omega | kernel_rfl) ?_
    | ((with_reducible refine condW_b (fun hc => ?_) (fun hc => ?_) <;> (try simp [-map_take,-map_drop, Int.ofNat_inj] at hc) <;> (try contradiction)))
    | fail)
  first | refine CallG_of (s3) ?_ ?_ rfl ?_ | refine callD_of (s3) ?_ ?_ rfl ?_
  · first | rfl | (simp [-map_take,-map_drop, natAV, numC, ← limbs.eq_1, push_cast, sgAV, sgC, ptAV, ptC, ratAV, ratC, zAV, zC]; done)
  · first | rfl | simp [-map_take,-map_drop, natAV, zAV, zC, ratAV, ratC, ptAV, ptC, sgAV, sgC, d3sAV, d3C, dC, dotAV, AV.refs, refsL, push_cast]
  try dsimp only
  repeat' (first
    | with_reducible first | apply thenW_n | apply thenW_ret | apply thenW_exit | apply thenW_panic | apply blockW_n | apply blockW_same | apply blockW_ret | apply blockW_panic | apply loopW_ret | apply loopW_exit | apply loopW_panic | apply joinW_ret | apply joinW_exit | apply joinW_panic | apply W_seq | apply W_block | apply W_skip | apply W_ret | apply W_exit | apply W_label
    | with_reducible refine blockW_other (by decide) ?_
    | with_reducible refine W_region (by first | decide | (with_unfolding_all rfl)) ?_
    | (rw [vcn]; (try simp [-map_take,-map_drop, push_cast, sgAV, sgC, ptAV, ptC, ratAV, ratC, zAV, zC]); try simp (disch := omega) only [i64_in, u64_in, shr64i])
    | with_reducible refine W_drawn mixed (by decide) (by kernel_rfl) ?_
    | (rw [vcnD]; (try simp [-map_take,-map_drop, push_cast, sgAV, sgC, ptAV, ptC, ratAV, ratC, zAV, zC]); try simp (disch := omega) only [i64_in, u64_in, shr64i])
    | (with_reducible refine W_condW ?_; (try simp [-map_take,-map_drop, AS.val, upd, resB, mkS_env, mkS_box, lk, entry_env, condW_true, condW_false, sgAV, sgC, ptAV, ptC, ratAV, ratC, zAV, zC]))
    | (with_reducible refine optK_dV (by first | omega | (simp [-map_take,-map_drop]; omega)) ?_)
    | with_reducible refine optK_dVh (by omega) ?_
    | refine And.intro (by first | omega | kernel_rfl) ?_
    | ((with_reducible refine condW_b (fun hc => ?_) (fun hc => ?_) <;> (try simp [-map_take,-map_drop, Int.ofNat_inj] at hc) <;> (try contradiction)))
    | fail)
  first | refine CallG_of (r1) ?_ ?_ rfl ?_ | refine callD_of (r1) ?_ ?_ rfl ?_
  · first | rfl | (simp [-map_take,-map_drop, natAV, numC, ← limbs.eq_1, push_cast, zAV, zC]; done)
  · first | rfl | simp [-map_take,-map_drop, natAV, zAV, zC, ratAV, ratC, ptAV, ptC, sgAV, sgC, d3sAV, d3C, dC, dotAV, AV.refs, refsL, push_cast]
  try dsimp only
  repeat' (first
    | with_reducible first | apply thenW_n | apply thenW_ret | apply thenW_exit | apply thenW_panic | apply blockW_n | apply blockW_same | apply blockW_ret | apply blockW_panic | apply loopW_ret | apply loopW_exit | apply loopW_panic | apply joinW_ret | apply joinW_exit | apply joinW_panic | apply W_seq | apply W_block | apply W_skip | apply W_ret | apply W_exit | apply W_label
    | with_reducible refine blockW_other (by decide) ?_
    | with_reducible refine W_region (by first | decide | (with_unfolding_all rfl)) ?_
    | (rw [vcn]; (try simp [-map_take,-map_drop, push_cast, zAV, zC]); try simp (disch := omega) only [i64_in, u64_in, shr64i])
    | with_reducible refine W_drawn mixed (by decide) (by kernel_rfl) ?_
    | (rw [vcnD]; (try simp [-map_take,-map_drop, push_cast, zAV, zC]); try simp (disch := omega) only [i64_in, u64_in, shr64i])
    | (with_reducible refine W_condW ?_; (try simp [-map_take,-map_drop, AS.val, upd, resB, mkS_env, mkS_box, lk, entry_env, condW_true, condW_false, zAV, zC]))
    | (with_reducible refine optK_dV (by first | omega | (simp [-map_take,-map_drop]; omega)) ?_)
    | with_reducible refine optK_dVh (by omega) ?_
    | refine And.intro (by first | omega | kernel_rfl) ?_
    | ((with_reducible refine condW_b (fun hc => ?_) (fun hc => ?_) <;> (try simp [-map_take,-map_drop, Int.ofNat_inj] at hc) <;> (try contradiction)))
    | fail)
  first | refine CallG_of (r2) ?_ ?_ rfl ?_ | refine callD_of (r2) ?_ ?_ rfl ?_
  · first | rfl | (simp [-map_take,-map_drop, natAV, numC, ← limbs.eq_1, push_cast, ratAV, ratC, zAV, zC]; done)
  · first | rfl | simp [-map_take,-map_drop, natAV, zAV, zC, ratAV, ratC, ptAV, ptC, sgAV, sgC, d3sAV, d3C, dC, dotAV, AV.refs, refsL, push_cast]
  try dsimp only
  repeat' (first
    | with_reducible first | apply thenW_n | apply thenW_ret | apply thenW_exit | apply thenW_panic | apply blockW_n | apply blockW_same | apply blockW_ret | apply blockW_panic | apply loopW_ret | apply loopW_exit | apply loopW_panic | apply joinW_ret | apply joinW_exit | apply joinW_panic | apply W_seq | apply W_block | apply W_skip | apply W_ret | apply W_exit | apply W_label
    | with_reducible refine blockW_other (by decide) ?_
    | with_reducible refine W_region (by first | decide | (with_unfolding_all rfl)) ?_
    | (rw [vcn]; (try simp [-map_take,-map_drop, push_cast, sgAV, sgC, ptAV, ptC, ratAV, ratC, zAV, zC]); try simp (disch := omega) only [i64_in, u64_in, shr64i])
    | with_reducible refine W_drawn mixed (by decide) (by kernel_rfl) ?_
    | (rw [vcnD]; (try simp [-map_take,-map_drop, push_cast, sgAV, sgC, ptAV, ptC, ratAV, ratC, zAV, zC]); try simp (disch := omega) only [i64_in, u64_in, shr64i])
    | (with_reducible refine W_condW ?_; (try simp [-map_take,-map_drop, AS.val, upd, resB, mkS_env, mkS_box, lk, entry_env, condW_true, condW_false, sgAV, sgC, ptAV, ptC, ratAV, ratC, zAV, zC]))
    | (with_reducible refine optK_dV (by first | omega | (simp [-map_take,-map_drop]; omega)) ?_)
    | with_reducible refine optK_dVh (by omega) ?_
    | refine And.intro (by first | omega | kernel_rfl) ?_
    | ((with_reducible refine condW_b (fun hc => ?_) (fun hc => ?_) <;> (try simp [-map_take,-map_drop, Int.ofNat_inj] at hc) <;> (try contradiction)))
    | fail)
  first | refine CallG_of (l1) ?_ ?_ rfl ?_ | refine callD_of (l1) ?_ ?_ rfl ?_
  · first | rfl | (simp [-map_take,-map_drop, natAV, numC, ← limbs.eq_1, push_cast, sgAV, sgC, ptAV, ptC, ratAV, ratC, zAV, zC]; done)
  · first | rfl | simp [-map_take,-map_drop, natAV, zAV, zC, ratAV, ratC, ptAV, ptC, sgAV, sgC, d3sAV, d3C, dC, dotAV, AV.refs, refsL, push_cast]
  try dsimp only
  repeat' (first
    | with_reducible first | apply thenW_n | apply thenW_ret | apply thenW_exit | apply thenW_panic | apply blockW_n | apply blockW_same | apply blockW_ret | apply blockW_panic | apply loopW_ret | apply loopW_exit | apply loopW_panic | apply joinW_ret | apply joinW_exit | apply joinW_panic | apply W_seq | apply W_block | apply W_skip | apply W_ret | apply W_exit | apply W_label
    | with_reducible refine blockW_other (by decide) ?_
    | with_reducible refine W_region (by first | decide | (with_unfolding_all rfl)) ?_
    | (rw [vcn]; (try simp [-map_take,-map_drop, push_cast, sgAV, sgC, ptAV, ptC, ratAV, ratC, zAV, zC]); try simp (disch := omega) only [i64_in, u64_in, shr64i])
    | with_reducible refine W_drawn mixed (by decide) (by kernel_rfl) ?_
    | (rw [vcnD]; (try simp [-map_take,-map_drop, push_cast, sgAV, sgC, ptAV, ptC, ratAV, ratC, zAV, zC]); try simp (disch := omega) only [i64_in, u64_in, shr64i])
    | (with_reducible refine W_condW ?_; (try simp [-map_take,-map_drop, AS.val, upd, resB, mkS_env, mkS_box, lk, entry_env, condW_true, condW_false, sgAV, sgC, ptAV, ptC, ratAV, ratC, zAV, zC]))
    | (with_reducible refine optK_dV (by first | omega | (simp [-map_take,-map_drop]; omega)) ?_)
    | with_reducible refine optK_dVh (by omega) ?_
    | refine And.intro (by first | omega | kernel_rfl) ?_
    | ((with_reducible refine condW_b (fun hc => ?_) (fun hc => ?_) <;> (try simp [-map_take,-map_drop, Int.ofNat_inj] at hc) <;> (try contradiction)))
    | fail)
  first | refine CallG_of (m1) ?_ ?_ rfl ?_ | refine callD_of (m1) ?_ ?_ rfl ?_
  · first | rfl | (simp [-map_take,-map_drop, natAV, numC, ← limbs.eq_1, push_cast, sgAV, sgC, ptAV, ptC, ratAV, ratC, zAV, zC]; done)
  · first | rfl | simp [-map_take,-map_drop, natAV, zAV, zC, ratAV, ratC, ptAV, ptC, sgAV, sgC, d3sAV, d3C, dC, dotAV, AV.refs, refsL, push_cast]
  try dsimp only
  repeat' (first
    | with_reducible first | apply thenW_n | apply thenW_ret | apply thenW_exit | apply thenW_panic | apply blockW_n | apply blockW_same | apply blockW_ret | apply blockW_panic | apply loopW_ret | apply loopW_exit | apply loopW_panic | apply joinW_ret | apply joinW_exit | apply joinW_panic | apply W_seq | apply W_block | apply W_skip | apply W_ret | apply W_exit | apply W_label
    | with_reducible refine blockW_other (by decide) ?_
    | with_reducible refine W_region (by first | decide | (with_unfolding_all rfl)) ?_
    | (rw [vcn]; (try simp [-map_take,-map_drop, push_cast, sgAV, sgC, ptAV, ptC, ratAV, ratC, zAV, zC]); try simp (disch := omega) only [i64_in, u64_in, shr64i])
    | with_reducible refine W_drawn mixed (by decide) (by kernel_rfl) ?_
    | (rw [vcnD]; (try simp [-map_take,-map_drop, push_cast, sgAV, sgC, ptAV, ptC, ratAV, ratC, zAV, zC]); try simp (disch := omega) only [i64_in, u64_in, shr64i])
    | (with_reducible refine W_condW ?_; (try simp [-map_take,-map_drop, AS.val, upd, resB, mkS_env, mkS_box, lk, entry_env, condW_true, condW_false, sgAV, sgC, ptAV, ptC, ratAV, ratC, zAV, zC]))
    | (with_reducible refine optK_dV (by first | omega | (simp [-map_take,-map_drop]; omega)) ?_)
    | with_reducible refine optK_dVh (by omega) ?_
    | refine And.intro (by first | omega | kernel_rfl) ?_
    | ((with_reducible refine condW_b (fun hc => ?_) (fun hc => ?_) <;> (try simp [-map_take,-map_drop, Int.ofNat_inj] at hc) <;> (try contradiction)))
    | fail)
  first | refine CallG_of (known12_ok) ?_ ?_ rfl ?_ | refine callD_of (known12_ok) ?_ ?_ rfl ?_
  · first | rfl | (simp [-map_take,-map_drop, natAV, numC, ← limbs.eq_1, push_cast]; done)
  · first | rfl | simp [-map_take,-map_drop, natAV, zAV, zC, ratAV, ratC, ptAV, ptC, sgAV, sgC, d3sAV, d3C, dC, dotAV, AV.refs, refsL, push_cast]
  try dsimp only
  repeat' (first
    | with_reducible first | apply thenW_n | apply thenW_ret | apply thenW_exit | apply thenW_panic | apply blockW_n | apply blockW_same | apply blockW_ret | apply blockW_panic | apply loopW_ret | apply loopW_exit | apply loopW_panic | apply joinW_ret | apply joinW_exit | apply joinW_panic | apply W_seq | apply W_block | apply W_skip | apply W_ret | apply W_exit | apply W_label
    | with_reducible refine blockW_other (by decide) ?_
    | with_reducible refine W_region (by first | decide | (with_unfolding_all rfl)) ?_
    | (rw [vcn]; (try simp [-map_take,-map_drop, push_cast, sgAV, sgC, ptAV, ptC, ratAV, ratC, zAV, zC]); try simp (disch := omega) only [i64_in, u64_in, shr64i])
    | with_reducible refine W_drawn mixed (by decide) (by kernel_rfl) ?_
    | (rw [vcnD]; (try simp [-map_take,-map_drop, push_cast, sgAV, sgC, ptAV, ptC, ratAV, ratC, zAV, zC]); try simp (disch := omega) only [i64_in, u64_in, shr64i])
    | (with_reducible refine W_condW ?_; (try simp [-map_take,-map_drop, AS.val, upd, resB, mkS_env, mkS_box, lk, entry_env, condW_true, condW_false, sgAV, sgC, ptAV, ptC, ratAV, ratC, zAV, zC]))
    | (with_reducible refine optK_dV (by first | omega | (simp [-map_take,-map_drop]; omega)) ?_)
    | with_reducible refine optK_dVh (by omega) ?_
    | refine And.intro (by first | omega | kernel_rfl) ?_
    | ((with_reducible refine condW_b (fun hc => ?_) (fun hc => ?_) <;> (try simp [-map_take,-map_drop, Int.ofNat_inj] at hc) <;> (try contradiction)))
    | fail)
  first | refine CallG_of (l2) ?_ ?_ rfl ?_ | refine callD_of (l2) ?_ ?_ rfl ?_
  · first | rfl | (simp [-map_take,-map_drop, natAV, numC, ← limbs.eq_1, push_cast, sgAV, sgC, ptAV, ptC, ratAV, ratC, zAV, zC]; done)
  · first | rfl | simp [-map_take,-map_drop, natAV, zAV, zC, ratAV, ratC, ptAV, ptC, sgAV, sgC, d3sAV, d3C, dC, dotAV, AV.refs, refsL, push_cast]
  try dsimp only
  repeat' (first
    | with_reducible first | apply thenW_n | apply thenW_ret | apply thenW_exit | apply thenW_panic | apply blockW_n | apply blockW_same | apply blockW_ret | apply blockW_panic | apply loopW_ret | apply loopW_exit | apply loopW_panic | apply joinW_ret | apply joinW_exit | apply joinW_panic | apply W_seq | apply W_block | apply W_skip | apply W_ret | apply W_exit | apply W_label
    | with_reducible refine blockW_other (by decide) ?_
    | with_reducible refine W_region (by first | decide | (with_unfolding_all rfl)) ?_
    | (rw [vcn]; (try simp [-map_take,-map_drop, push_cast, sgAV, sgC, ptAV, ptC, ratAV, ratC, zAV, zC]); try simp (disch := omega) only [i64_in, u64_in, shr64i])
    | with_reducible refine W_drawn mixed (by decide) (by kernel_rfl) ?_
    | (rw [vcnD]; (try simp [-map_take,-map_drop, push_cast, sgAV, sgC, ptAV, ptC, ratAV, ratC, zAV, zC]); try simp (disch := omega) only [i64_in, u64_in, shr64i])
    | (with_reducible refine W_condW ?_; (try simp [-map_take,-map_drop, AS.val, upd, resB, mkS_env, mkS_box, lk, entry_env, condW_true, condW_false, sgAV, sgC, ptAV, ptC, ratAV, ratC, zAV, zC]))
    | (with_reducible refine optK_dV (by first | omega | (simp [-map_take,-map_drop]; omega)) ?_)
    | with_reducible refine optK_dVh (by omega) ?_
    | refine And.intro (by first | omega | kernel_rfl) ?_
    | ((with_reducible refine condW_b (fun hc => ?_) (fun hc => ?_) <;> (try simp [-map_take,-map_drop, Int.ofNat_inj] at hc) <;> (try contradiction)))
    | fail)
  first | refine CallG_of (c1) ?_ ?_ rfl ?_ | refine callD_of (c1) ?_ ?_ rfl ?_
  · first | rfl | (simp [-map_take,-map_drop, natAV, numC, ← limbs.eq_1, push_cast, sgAV, sgC, ptAV, ptC, ratAV, ratC, zAV, zC]; done)
  · first | rfl | simp [-map_take,-map_drop, natAV, zAV, zC, ratAV, ratC, ptAV, ptC, sgAV, sgC, d3sAV, d3C, dC, dotAV, AV.refs, refsL, push_cast]
  try dsimp only
  repeat' (first
    | with_reducible first | apply thenW_n | apply thenW_ret | apply thenW_exit | apply thenW_panic | apply blockW_n | apply blockW_same | apply blockW_ret | apply blockW_panic | apply loopW_ret | apply loopW_exit | apply loopW_panic | apply joinW_ret | apply joinW_exit | apply joinW_panic | apply W_seq | apply W_block | apply W_skip | apply W_ret | apply W_exit | apply W_label
    | with_reducible refine blockW_other (by decide) ?_
    | with_reducible refine W_region (by first | decide | (with_unfolding_all rfl)) ?_
    | (rw [vcn]; (try simp [-map_take,-map_drop, push_cast, sgAV, sgC, ptAV, ptC, ratAV, ratC, zAV, zC]); try simp (disch := omega) only [i64_in, u64_in, shr64i])
    | with_reducible refine W_drawn mixed (by decide) (by kernel_rfl) ?_
    | (rw [vcnD]; (try simp [-map_take,-map_drop, push_cast, sgAV, sgC, ptAV, ptC, ratAV, ratC, zAV, zC]); try simp (disch := omega) only [i64_in, u64_in, shr64i])
    | (with_reducible refine W_condW ?_; (try simp [-map_take,-map_drop, AS.val, upd, resB, mkS_env, mkS_box, lk, entry_env, condW_true, condW_false, sgAV, sgC, ptAV, ptC, ratAV, ratC, zAV, zC]))
    | (with_reducible refine optK_dV (by first | omega | (simp [-map_take,-map_drop]; omega)) ?_)
    | with_reducible refine optK_dVh (by omega) ?_
    | refine And.intro (by first | omega | kernel_rfl) ?_
    | ((with_reducible refine condW_b (fun hc => ?_) (fun hc => ?_) <;> (try simp [-map_take,-map_drop, Int.ofNat_inj] at hc) <;> (try contradiction)))
    | fail)
  first | refine CallG_of (m2) ?_ ?_ rfl ?_ | refine callD_of (m2) ?_ ?_ rfl ?_
  · first | rfl | (simp [-map_take,-map_drop, natAV, numC, ← limbs.eq_1, push_cast, sgAV, sgC, ptAV, ptC, ratAV, ratC, zAV, zC]; done)
  · first | rfl | simp [-map_take,-map_drop, natAV, zAV, zC, ratAV, ratC, ptAV, ptC, sgAV, sgC, d3sAV, d3C, dC, dotAV, AV.refs, refsL, push_cast]
  try dsimp only
  repeat' (first
    | with_reducible first | apply thenW_n | apply thenW_ret | apply thenW_exit | apply thenW_panic | apply blockW_n | apply blockW_same | apply blockW_ret | apply blockW_panic | apply loopW_ret | apply loopW_exit | apply loopW_panic | apply joinW_ret | apply joinW_exit | apply joinW_panic | apply W_seq | apply W_block | apply W_skip | apply W_ret | apply W_exit | apply W_label
    | with_reducible refine blockW_other (by decide) ?_
    | with_reducible refine W_region (by first | decide | (with_unfolding_all rfl)) ?_
    | (rw [vcn]; (try simp [-map_take,-map_drop, push_cast, sgAV, sgC, ptAV, ptC, ratAV, ratC, zAV, zC]); try simp (disch := omega) only [i64_in, u64_in, shr64i])
    | with_reducible refine W_drawn mixed (by decide) (by kernel_rfl) ?_
    | (rw [vcnD]; (try simp [-map_take,-map_drop, push_cast, sgAV, sgC, ptAV, ptC, ratAV, ratC, zAV, zC]); try simp (disch := omega) only [i64_in, u64_in, shr64i])
    | (with_reducible refine W_condW ?_; (try simp [-map_take,-map_drop, AS.val, upd, resB, mkS_env, mkS_box, lk, entry_env, condW_true, condW_false, sgAV, sgC, ptAV, ptC, ratAV, ratC, zAV, zC]))
    | (with_reducible refine optK_dV (by first | omega | (simp [-map_take,-map_drop]; omega)) ?_)
    | with_reducible refine optK_dVh (by omega) ?_
    | refine And.intro (by first | omega | kernel_rfl) ?_
    | ((with_reducible refine condW_b (fun hc => ?_) (fun hc => ?_) <;> (try simp [-map_take,-map_drop, Int.ofNat_inj] at hc) <;> (try contradiction)))
    | fail)
  first | refine CallG_of (c2) ?_ ?_ rfl ?_ | refine callD_of (c2) ?_ ?_ rfl ?_
  · first | rfl | (simp [-map_take,-map_drop, natAV, numC, ← limbs.eq_1, push_cast, sgAV, sgC, ptAV, ptC, ratAV, ratC, zAV, zC]; done)
  · first | rfl | simp [-map_take,-map_drop, natAV, zAV, zC, ratAV, ratC, ptAV, ptC, sgAV, sgC, d3sAV, d3C, dC, dotAV, AV.refs, refsL, push_cast]
  try dsimp only
  repeat' (first
    | with_reducible first | apply thenW_n | apply thenW_ret | apply thenW_exit | apply thenW_panic | apply blockW_n | apply blockW_same | apply blockW_ret | apply blockW_panic | apply loopW_ret | apply loopW_exit | apply loopW_panic | apply joinW_ret | apply joinW_exit | apply joinW_panic | apply W_seq | apply W_skip | apply W_ret | apply W_exit | apply W_label
    | with_reducible refine blockW_other (by decide) ?_
    | with_reducible refine W_region (by first | decide | (with_unfolding_all rfl)) ?_
    | (rw [vcn]; (try simp [-map_take,-map_drop, push_cast, sgAV, sgC, ptAV, ptC, ratAV, ratC, zAV, zC]); try simp (disch := omega) only [i64_in, u64_in, shr64i])
    | with_reducible refine W_drawn mixed (by decide) (by kernel_rfl) ?_
    | (rw [vcnD]; (try simp [-map_take,-map_drop, push_cast, sgAV, sgC, ptAV, ptC, ratAV, ratC, zAV, zC]); try simp (disch := omega) only [i64_in, u64_in, shr64i])
    | (with_reducible refine W_condW ?_; (try simp [-map_take,-map_drop, AS.val, upd, resB, mkS_env, mkS_box, lk, entry_env, condW_true, condW_false, sgAV, sgC, ptAV, ptC, ratAV, ratC, zAV, zC]))
    | (with_reducible refine optK_dV (by first | omega | (simp [-map_take,-map_drop]; omega)) ?_)
    | with_reducible refine optK_dVh (by omega) ?_
    | refine And.intro (by first | omega | kernel_rfl) ?_
    | ((with_reducible refine condW_b (fun hc => ?_) (fun hc => ?_) <;> (try simp [-map_take,-map_drop, Int.ofNat_inj] at hc) <;> (try contradiction)))
    | fail)
  refine W_frz 17 (e := 32) (l := ptC Y) (by simp [-map_take,-map_drop, mkS_box, lk, upd, ptC, ratC, zC]) rfl ?_
  refine W_frz 18 (e := 30) (l := ratC M) (by simp [-map_take,-map_drop, mkS_box, lk, upd, ratC, zC]) rfl ?_
  repeat' (first
    | with_reducible first | apply thenW_n | apply thenW_ret | apply thenW_exit | apply thenW_panic | apply blockW_n | apply blockW_same | apply blockW_ret | apply blockW_panic | apply loopW_ret | apply loopW_exit | apply loopW_panic | apply joinW_ret | apply joinW_exit | apply joinW_panic | apply W_seq | apply W_block | apply W_skip | apply W_ret | apply W_exit | apply W_label
    | with_reducible refine blockW_other (by decide) ?_
    | with_reducible refine W_region (by first | decide | (with_unfolding_all rfl)) ?_
    | (rw [vcn]; (try simp [-map_take,-map_drop, push_cast, sgAV, sgC, ptAV, ptC, ratAV, ratC, zAV, zC]); try simp (disch := omega) only [i64_in, u64_in, shr64i])
    | with_reducible refine W_drawn mixed (by decide) (by kernel_rfl) ?_
    | (rw [vcnD]; (try simp [-map_take,-map_drop, push_cast, sgAV, sgC, ptAV, ptC, ratAV, ratC, zAV, zC]); try simp (disch := omega) only [i64_in, u64_in, shr64i])
    | (with_reducible refine W_condW ?_; (try simp [-map_take,-map_drop, AS.val, upd, resB, mkS_env, mkS_box, lk, entry_env, condW_true, condW_false, sgAV, sgC, ptAV, ptC, ratAV, ratC, zAV, zC]))
    | (with_reducible refine optK_dV (by first | omega | (simp [-map_take,-map_drop]; omega)) ?_)
    | with_reducible refine optK_dVh (by omega) ?_
    | refine And.intro (by first | omega | kernel_rfl) ?_
    | ((with_reducible refine condW_b (fun hc => ?_) (fun hc => ?_) <;> (try simp [-map_take,-map_drop, Int.ofNat_inj] at hc) <;> (try contradiction)))
    | fail)
  refine W_loopW (X := Nat) (fun k => [(13, .bp 13 0), (15, .bp 15 0), (17, .ip (ptC Y)), (18, .ip (ratC M)), (19, .bp 19 0), (20, .bp 20 0), (21, .bp 600 0)]) (fun k => [(13, .mut 34 (ptC A ++ ptC B)), (15, .mut 34 (ptC C ++ ptC D)), (19, .mut 30 (ratC L)), (20, .mut 30 (ratC O)), (600, .mut 3 [i64V k])])
    (fun k => 4 - k) (fun k => k ≤ 4) 0 (fun i => if i = 600 then 21 else i) (by omega) ⟨?_, ?_, ?_, ?_, ?_, ?_⟩ fun k hk => ?_
  all_goals first | (with_reducible refine W_id ?_) | (simp [-map_take,-map_drop, push_cast, dV_take, dV_drop, sgC, ptC, ratC, zC]; done) | (simp [-map_take,-map_drop, push_cast, dV_take, dV_drop, sgC, ptC, ratC, zC]; omega) | (intro i hi; simp [-map_take,-map_drop]; omega) | (intro i hi; dsimp only; (repeat' split) <;> omega) | (simp [-map_take,-map_drop, push_cast, dV_take, dV_drop, sgC, ptC, ratC, zC]; fail_if_success done)
  by_cases h4 : k = 4
  · subst h4
    repeat' (first
      | with_reducible first | apply thenW_n | apply thenW_ret | apply thenW_exit | apply thenW_panic | apply blockW_n | apply blockW_same | apply blockW_ret | apply blockW_panic | apply loopW_ret | apply loopW_exit | apply loopW_panic | apply joinW_ret | apply joinW_exit | apply joinW_panic | apply W_seq | apply W_block | apply W_skip | apply W_ret | apply W_exit | apply W_label
      | with_reducible refine blockW_other (by decide) ?_
      | with_reducible refine W_region (by first | decide | (with_unfolding_all rfl)) ?_
      | (rw [vcn]; (try simp [-map_take,-map_drop, push_cast, sgAV, sgC, ptAV, ptC, ratAV, ratC, zAV, zC]); try simp (disch := omega) only [i64_in, u64_in, shr64i])
      | with_reducible refine W_drawn mixed (by decide) (by kernel_rfl) ?_
      | (rw [vcnD]; (try simp [-map_take,-map_drop, push_cast, sgAV, sgC, ptAV, ptC, ratAV, ratC, zAV, zC]); try simp (disch := omega) only [i64_in, u64_in, shr64i])
      | (with_reducible refine W_condW ?_; (try simp [-map_take,-map_drop, AS.val, upd, resB, mkS_env, mkS_box, lk, entry_env, condW_true, condW_false, sgAV, sgC, ptAV, ptC, ratAV, ratC, zAV, zC]))
      | (with_reducible refine optK_dV (by first | omega | (simp [-map_take,-map_drop]; omega)) ?_)
      | with_reducible refine optK_dVh (by omega) ?_
      | refine And.intro (by first | omega | kernel_rfl) ?_
      | ((with_reducible refine condW_b (fun hc => ?_) (fun hc => ?_) <;> (try simp [-map_take,-map_drop, Int.ofNat_inj] at hc) <;> (try contradiction)))
      | fail)
    simp [-map_take,-map_drop, post, resAV, resAll, resOne, closeV, closeC, closeL, resD, resDL, push_cast]
  have g1 : ((k : Int) < 4) = True := eq_true (by omega)
  have g1' : (k < 4) = True := eq_true (by omega)
  have w1 : IntKind.i64.wrap ((k : Int) + 1) = ((k + 1 : Nat) : Int) := by rw [i64_in _ (by omega)]; omega
  obtain ⟨U, V, LL, MX, LK, MK, K, hK, y1, y2, y3, y4, y5, y6, y7, y8, y9, y10⟩ := round k (by omega)
  refine W_frz 600 (e := 3) (l := [i64V k]) (by simp [-map_take,-map_drop, mkS_box, lk]) rfl ?_
  repeat' (first
    | with_reducible first | apply thenW_n | apply thenW_ret | apply thenW_exit | apply thenW_panic | apply blockW_n | apply blockW_same | apply blockW_ret | apply blockW_panic | apply loopW_ret | apply loopW_exit | apply loopW_panic | apply joinW_ret | apply joinW_exit | apply joinW_panic | apply W_seq | apply W_block | apply W_skip | apply W_ret | apply W_exit | apply W_label
    | with_reducible refine blockW_other (by decide) ?_
    | with_reducible refine W_region (by first | decide | (with_unfolding_all rfl)) ?_
    | (rw [vcn]; (try simp [-map_take,-map_drop, push_cast, g1, g1', sgAV, sgC, ptAV, ptC, ratAV, ratC, zAV, zC]); try simp (disch := omega) only [i64_in, u64_in, shr64i])
    | with_reducible refine W_drawn mixed (by decide) (by kernel_rfl) ?_
    | (rw [vcnD]; (try simp [-map_take,-map_drop, push_cast, g1, g1', sgAV, sgC, ptAV, ptC, ratAV, ratC, zAV, zC]); try simp (disch := omega) only [i64_in, u64_in, shr64i])
    | (with_reducible refine W_condW ?_; (try simp [-map_take,-map_drop, AS.val, upd, resB, mkS_env, mkS_box, lk, entry_env, condW_true, condW_false, g1, g1', sgAV, sgC, ptAV, ptC, ratAV, ratC, zAV, zC]))
    | (with_reducible refine optK_dV (by first | omega | (simp [-map_take,-map_drop]; omega)) ?_)
    | with_reducible refine optK_dVh (by omega) ?_
    | refine And.intro (by first | omega | kernel_rfl) ?_
    | ((with_reducible refine condW_b (fun hc => ?_) (fun hc => ?_) <;> (try simp [-map_take,-map_drop, Int.ofNat_inj] at hc) <;> (try contradiction)))
    | fail)
  first | refine CallG_of (y1) ?_ ?_ rfl ?_ | refine callD_of (y1) ?_ ?_ rfl ?_
  · first | rfl | (simp [-map_take,-map_drop, natAV, numC, ← limbs.eq_1, push_cast, sgAV, sgC, ptAV, ptC, ratAV, ratC, zAV, zC]; done)
  · first | rfl | simp [-map_take,-map_drop, natAV, zAV, zC, ratAV, ratC, ptAV, ptC, sgAV, sgC, d3sAV, d3C, dC, dotAV, AV.refs, refsL, push_cast]
  try dsimp only
  repeat' (first
    | with_reducible first | apply thenW_n | apply thenW_ret | apply thenW_exit | apply thenW_panic | apply blockW_n | apply blockW_same | apply blockW_ret | apply blockW_panic | apply loopW_ret | apply loopW_exit | apply loopW_panic | apply joinW_ret | apply joinW_exit | apply joinW_panic | apply W_seq | apply W_block | apply W_skip | apply W_ret | apply W_exit | apply W_label
    | with_reducible refine blockW_other (by decide) ?_
    | with_reducible refine W_region (by first | decide | (with_unfolding_all rfl)) ?_
    | (rw [vcn]; (try simp [-map_take,-map_drop, push_cast, g1, g1', sgAV, sgC, ptAV, ptC, ratAV, ratC, zAV, zC]); try simp (disch := omega) only [i64_in, u64_in, shr64i])
    | with_reducible refine W_drawn mixed (by decide) (by kernel_rfl) ?_
    | (rw [vcnD]; (try simp [-map_take,-map_drop, push_cast, g1, g1', sgAV, sgC, ptAV, ptC, ratAV, ratC, zAV, zC]); try simp (disch := omega) only [i64_in, u64_in, shr64i])
    | (with_reducible refine W_condW ?_; (try simp [-map_take,-map_drop, AS.val, upd, resB, mkS_env, mkS_box, lk, entry_env, condW_true, condW_false, g1, g1', sgAV, sgC, ptAV, ptC, ratAV, ratC, zAV, zC]))
    | (with_reducible refine optK_dV (by first | omega | (simp [-map_take,-map_drop]; omega)) ?_)
    | with_reducible refine optK_dVh (by omega) ?_
    | refine And.intro (by first | omega | kernel_rfl) ?_
    | ((with_reducible refine condW_b (fun hc => ?_) (fun hc => ?_) <;> (try simp [-map_take,-map_drop, Int.ofNat_inj] at hc) <;> (try contradiction)))
    | fail)
  first | refine CallG_of (y2) ?_ ?_ rfl ?_ | refine callD_of (y2) ?_ ?_ rfl ?_
  · first | rfl | (simp [-map_take,-map_drop, natAV, numC, ← limbs.eq_1, push_cast, sgAV, sgC, ptAV, ptC, ratAV, ratC, zAV, zC]; done)
  · first | rfl | simp [-map_take,-map_drop, natAV, zAV, zC, ratAV, ratC, ptAV, ptC, sgAV, sgC, d3sAV, d3C, dC, dotAV, AV.refs, refsL, push_cast]
  try dsimp only
  repeat' (first
    | with_reducible first | apply thenW_n | apply thenW_ret | apply thenW_exit | apply thenW_panic | apply blockW_n | apply blockW_same | apply blockW_ret | apply blockW_panic | apply loopW_ret | apply loopW_exit | apply loopW_panic | apply joinW_ret | apply joinW_exit | apply joinW_panic | apply W_seq | apply W_block | apply W_skip | apply W_ret | apply W_exit | apply W_label
    | with_reducible refine blockW_other (by decide) ?_
    | with_reducible refine W_region (by first | decide | (with_unfolding_all rfl)) ?_
    | (rw [vcn]; (try simp [-map_take,-map_drop, push_cast, g1, g1', sgAV, sgC, ptAV, ptC, ratAV, ratC, zAV, zC]); try simp (disch := omega) only [i64_in, u64_in, shr64i])
    | with_reducible refine W_drawn mixed (by decide) (by kernel_rfl) ?_
    | (rw [vcnD]; (try simp [-map_take,-map_drop, push_cast, g1, g1', sgAV, sgC, ptAV, ptC, ratAV, ratC, zAV, zC]); try simp (disch := omega) only [i64_in, u64_in, shr64i])
    | (with_reducible refine W_condW ?_; (try simp [-map_take,-map_drop, AS.val, upd, resB, mkS_env, mkS_box, lk, entry_env, condW_true, condW_false, g1, g1', sgAV, sgC, ptAV, ptC, ratAV, ratC, zAV, zC]))
    | (with_reducible refine optK_dV (by first | omega | (simp [-map_take,-map_drop]; omega)) ?_)
    | with_reducible refine optK_dVh (by omega) ?_
    | refine And.intro (by first | omega | kernel_rfl) ?_
    | ((with_reducible refine condW_b (fun hc => ?_) (fun hc => ?_) <;> (try simp [-map_take,-map_drop, Int.ofNat_inj] at hc) <;> (try contradiction)))
    | fail)
  first | refine CallG_of (y3) ?_ ?_ rfl ?_ | refine callD_of (y3) ?_ ?_ rfl ?_
  · first | rfl | (simp [-map_take,-map_drop, natAV, numC, ← limbs.eq_1, push_cast, sgAV, sgC, ptAV, ptC, ratAV, ratC, zAV, zC]; done)
  · first | rfl | simp [-map_take,-map_drop, natAV, zAV, zC, ratAV, ratC, ptAV, ptC, sgAV, sgC, d3sAV, d3C, dC, dotAV, AV.refs, refsL, push_cast]
  try dsimp only
  repeat' (first
    | with_reducible first | apply thenW_n | apply thenW_ret | apply thenW_exit | apply thenW_panic | apply blockW_n | apply blockW_same | apply blockW_ret | apply blockW_panic | apply loopW_ret | apply loopW_exit | apply loopW_panic | apply joinW_ret | apply joinW_exit | apply joinW_panic | apply W_seq | apply W_block | apply W_skip | apply W_ret | apply W_exit | apply W_label
    | with_reducible refine blockW_other (by decide) ?_
    | with_reducible refine W_region (by first | decide | (with_unfolding_all rfl)) ?_
    | (rw [vcn]; (try simp [-map_take,-map_drop, push_cast, g1, g1', sgAV, sgC, ptAV, ptC, ratAV, ratC, zAV, zC]); try simp (disch := omega) only [i64_in, u64_in, shr64i])
    | with_reducible refine W_drawn mixed (by decide) (by kernel_rfl) ?_
    | (rw [vcnD]; (try simp [-map_take,-map_drop, push_cast, g1, g1', sgAV, sgC, ptAV, ptC, ratAV, ratC, zAV, zC]); try simp (disch := omega) only [i64_in, u64_in, shr64i])
    | (with_reducible refine W_condW ?_; (try simp [-map_take,-map_drop, AS.val, upd, resB, mkS_env, mkS_box, lk, entry_env, condW_true, condW_false, g1, g1', sgAV, sgC, ptAV, ptC, ratAV, ratC, zAV, zC]))
    | (with_reducible refine optK_dV (by first | omega | (simp [-map_take,-map_drop]; omega)) ?_)
    | with_reducible refine optK_dVh (by omega) ?_
    | refine And.intro (by first | omega | kernel_rfl) ?_
    | ((with_reducible refine condW_b (fun hc => ?_) (fun hc => ?_) <;> (try simp [-map_take,-map_drop, Int.ofNat_inj] at hc) <;> (try contradiction)))
    | fail)
  first | refine CallG_of (y4) ?_ ?_ rfl ?_ | refine callD_of (y4) ?_ ?_ rfl ?_
  · first | rfl | (simp [-map_take,-map_drop, natAV, numC, ← limbs.eq_1, push_cast, sgAV, sgC, ptAV, ptC, ratAV, ratC, zAV, zC]; done)
  · first | rfl | simp [-map_take,-map_drop, natAV, zAV, zC, ratAV, ratC, ptAV, ptC, sgAV, sgC, d3sAV, d3C, dC, dotAV, AV.refs, refsL, push_cast]
  try dsimp only
  repeat' (first
    | with_reducible first | apply thenW_n | apply thenW_ret | apply thenW_exit | apply thenW_panic | apply blockW_n | apply blockW_same | apply blockW_ret | apply blockW_panic | apply loopW_ret | apply loopW_exit | apply loopW_panic | apply joinW_ret | apply joinW_exit | apply joinW_panic | apply W_seq | apply W_block | apply W_skip | apply W_ret | apply W_exit | apply W_label
    | with_reducible refine blockW_other (by decide) ?_
    | with_reducible refine W_region (by first | decide | (with_unfolding_all rfl)) ?_
    | (rw [vcn]; (try simp [-map_take,-map_drop, push_cast, g1, g1', sgAV, sgC, ptAV, ptC, ratAV, ratC, zAV, zC]); try simp (disch := omega) only [i64_in, u64_in, shr64i])
    | with_reducible refine W_drawn mixed (by decide) (by kernel_rfl) ?_
    | (rw [vcnD]; (try simp [-map_take,-map_drop, push_cast, g1, g1', sgAV, sgC, ptAV, ptC, ratAV, ratC, zAV, zC]); try simp (disch := omega) only [i64_in, u64_in, shr64i])
    | (with_reducible refine W_condW ?_; (try simp [-map_take,-map_drop, AS.val, upd, resB, mkS_env, mkS_box, lk, entry_env, condW_true, condW_false, g1, g1', sgAV, sgC, ptAV, ptC, ratAV, ratC, zAV, zC]))
    | (with_reducible refine optK_dV (by first | omega | (simp [-map_take,-map_drop]; omega)) ?_)
    | with_reducible refine optK_dVh (by omega) ?_
    | refine And.intro (by first | omega | kernel_rfl) ?_
    | ((with_reducible refine condW_b (fun hc => ?_) (fun hc => ?_) <;> (try simp [-map_take,-map_drop, Int.ofNat_inj] at hc) <;> (try contradiction)))
    | fail)
  first | refine CallG_of (r3) ?_ ?_ rfl ?_ | refine callD_of (r3) ?_ ?_ rfl ?_
  · first | rfl | (simp [-map_take,-map_drop, natAV, numC, ← limbs.eq_1, push_cast, zAV, zC]; done)
  · first | rfl | simp [-map_take,-map_drop, natAV, zAV, zC, ratAV, ratC, ptAV, ptC, sgAV, sgC, d3sAV, d3C, dC, dotAV, AV.refs, refsL, push_cast]
  try dsimp only
  repeat' (first
    | with_reducible first | apply thenW_n | apply thenW_ret | apply thenW_exit | apply thenW_panic | apply blockW_n | apply blockW_same | apply blockW_ret | apply blockW_panic | apply loopW_ret | apply loopW_exit | apply loopW_panic | apply joinW_ret | apply joinW_exit | apply joinW_panic | apply W_seq | apply W_block | apply W_skip | apply W_ret | apply W_exit | apply W_label
    | with_reducible refine blockW_other (by decide) ?_
    | with_reducible refine W_region (by first | decide | (with_unfolding_all rfl)) ?_
    | (rw [vcn]; (try simp [-map_take,-map_drop, push_cast, zAV, zC]); try simp (disch := omega) only [i64_in, u64_in, shr64i])
    | with_reducible refine W_drawn mixed (by decide) (by kernel_rfl) ?_
    | (rw [vcnD]; (try simp [-map_take,-map_drop, push_cast, zAV, zC]); try simp (disch := omega) only [i64_in, u64_in, shr64i])
    | (with_reducible refine W_condW ?_; (try simp [-map_take,-map_drop, AS.val, upd, resB, mkS_env, mkS_box, lk, entry_env, condW_true, condW_false, zAV, zC]))
    | (with_reducible refine optK_dV (by first | omega | (simp [-map_take,-map_drop]; omega)) ?_)
    | with_reducible refine optK_dVh (by omega) ?_
    | refine And.intro (by first | omega | kernel_rfl) ?_
    | ((with_reducible refine condW_b (fun hc => ?_) (fun hc => ?_) <;> (try simp [-map_take,-map_drop, Int.ofNat_inj] at hc) <;> (try contradiction)))
    | fail)
  first | refine CallG_of (r4) ?_ ?_ rfl ?_ | refine callD_of (r4) ?_ ?_ rfl ?_
  · first | rfl | (simp [-map_take,-map_drop, natAV, numC, ← limbs.eq_1, push_cast, ratAV, ratC, zAV, zC]; done)
  · first | rfl | simp [-map_take,-map_drop, natAV, zAV, zC, ratAV, ratC, ptAV, ptC, sgAV, sgC, d3sAV, d3C, dC, dotAV, AV.refs, refsL, push_cast]
  try dsimp only
  repeat' (first
    | with_reducible apply W_seq
    | with_reducible refine W_region (by first | decide | (with_unfolding_all rfl)) ?_
    | (rw [vcn]; (try simp [-map_take,-map_drop, push_cast, sgAV, sgC, ptAV, ptC, ratAV, ratC, zAV, zC]); try simp (disch := omega) only [i64_in, u64_in, shr64i])
    | with_reducible refine W_drawn mixed (by decide) (by kernel_rfl) ?_
    | (rw [vcnD]; (try simp [-map_take,-map_drop, push_cast, sgAV, sgC, ptAV, ptC, ratAV, ratC, zAV, zC]); try simp (disch := omega) only [i64_in, u64_in, shr64i])
    | (with_reducible refine optK_dV (by first | omega | (simp [-map_take,-map_drop]; omega)) ?_)
    | with_reducible refine optK_dVh (by omega) ?_
    | refine And.intro (by first | omega | kernel_rfl) ?_
    | ((with_reducible refine condW_b (fun hc => ?_) (fun hc => ?_) <;> (try simp [-map_take,-map_drop, Int.ofNat_inj] at hc) <;> (try contradiction)))
    | fail)
  refine thenW_n ?_
  refine W_seq ?_
  refine W_joinQ (X := Unit) (fun _ => [(13, .bp 13 0), (15, .bp 15 0), (17, .ip (ptC Y)), (18, .ip (ratC M)), (19, .bp 19 0), (20, .bp 20 0), (21, .ip [i64V k]), (23, .bp 23 0), (24, .bp 24 0), (25, .bp 25 0)]) (fun _ => [(13, .mut 34 (ptC A ++ ptC B)), (15, .mut 34 (ptC C ++ ptC D)), (19, .mut 30 (ratC L)), (20, .mut 30 (ratC O)), (23, .mut 34 (sgC U)), (24, .mut 34 (sgC V)), (25, .mut 30 (ratC K))]) (fun _ => True) ?_ fun _ _ => ?_
  · by_cases h3 : k = 3
    · have g3 : (k = 3) = True := eq_true h3
      have g3' : ((k : Int) = 3) = True := eq_true (by omega)
      have hK' : K = MM := by rw [hK, h3, hK3]
      have gb : ((k : Int) == 3) = true := by rw [beq_iff_eq]; omega
      repeat' (first
        | with_reducible first | apply thenW_n | apply thenW_ret | apply thenW_exit | apply thenW_panic | apply blockW_n | apply blockW_same | apply blockW_ret | apply blockW_panic | apply loopW_ret | apply loopW_exit | apply loopW_panic | apply joinW_ret | apply joinW_exit | apply joinW_panic | apply W_seq | apply W_block | apply W_skip | apply W_ret | apply W_exit | apply W_label
        | with_reducible refine blockW_other (by decide) ?_
        | with_reducible refine W_region (by first | decide | (with_unfolding_all rfl)) ?_
        | (rw [vcn]; (try simp [-map_take,-map_drop, push_cast, g3, g3', gb, sgAV, sgC, ptAV, ptC, ratAV, ratC, zAV, zC]); try simp (disch := omega) only [i64_in, u64_in, shr64i])
        | with_reducible refine W_drawn mixed (by decide) (by kernel_rfl) ?_
        | (rw [vcnD]; (try simp [-map_take,-map_drop, push_cast, g3, g3', gb, sgAV, sgC, ptAV, ptC, ratAV, ratC, zAV, zC]); try simp (disch := omega) only [i64_in, u64_in, shr64i])
        | (with_reducible refine W_condW ?_; (try simp [-map_take,-map_drop, AS.val, upd, resB, mkS_env, mkS_box, lk, entry_env, condW_true, condW_false, g3, g3', gb, sgAV, sgC, ptAV, ptC, ratAV, ratC, zAV, zC]))
        | (with_reducible refine optK_dV (by first | omega | (simp [-map_take,-map_drop]; omega)) ?_)
        | with_reducible refine optK_dVh (by omega) ?_
        | refine And.intro (by first | omega | kernel_rfl) ?_
        | ((with_reducible refine condW_b (fun hc => ?_) (fun hc => ?_) <;> (try simp [-map_take,-map_drop, Int.ofNat_inj] at hc) <;> (try contradiction)))
        | fail)
      first | refine CallG_of (mm) ?_ ?_ rfl ?_ | refine callD_of (mm) ?_ ?_ rfl ?_
      · first | rfl | (simp [-map_take,-map_drop, natAV, numC, ← limbs.eq_1, push_cast, sgAV, sgC, ptAV, ptC, ratAV, ratC, zAV, zC]; done)
      · first | rfl | simp [-map_take,-map_drop, natAV, zAV, zC, ratAV, ratC, ptAV, ptC, sgAV, sgC, d3sAV, d3C, dC, dotAV, AV.refs, refsL, push_cast]
      try dsimp only
      repeat' (first
        | with_reducible first | apply thenW_n | apply thenW_ret | apply thenW_exit | apply thenW_panic | apply blockW_n | apply blockW_same | apply blockW_ret | apply blockW_panic | apply loopW_ret | apply loopW_exit | apply loopW_panic | apply joinW_ret | apply joinW_exit | apply joinW_panic | apply W_seq | apply W_block | apply W_skip | apply W_ret | apply W_exit | apply W_label
        | with_reducible refine blockW_other (by decide) ?_
        | with_reducible refine W_region (by first | decide | (with_unfolding_all rfl)) ?_
        | (rw [vcn]; (try simp [-map_take,-map_drop, push_cast, sgAV, sgC, ptAV, ptC, ratAV, ratC, zAV, zC]); try simp (disch := omega) only [i64_in, u64_in, shr64i])
        | with_reducible refine W_drawn mixed (by decide) (by kernel_rfl) ?_
        | (rw [vcnD]; (try simp [-map_take,-map_drop, push_cast, sgAV, sgC, ptAV, ptC, ratAV, ratC, zAV, zC]); try simp (disch := omega) only [i64_in, u64_in, shr64i])
        | (with_reducible refine W_condW ?_; (try simp [-map_take,-map_drop, AS.val, upd, resB, mkS_env, mkS_box, lk, entry_env, condW_true, condW_false, sgAV, sgC, ptAV, ptC, ratAV, ratC, zAV, zC]))
        | (with_reducible refine optK_dV (by first | omega | (simp [-map_take,-map_drop]; omega)) ?_)
        | with_reducible refine optK_dVh (by omega) ?_
        | refine And.intro (by first | omega | kernel_rfl) ?_
        | ((with_reducible refine condW_b (fun hc => ?_) (fun hc => ?_) <;> (try simp [-map_take,-map_drop, Int.ofNat_inj] at hc) <;> (try contradiction)))
        | fail)
      refine joinW_n () id trivial ⟨?_, ?_, ?_, ?_, ?_, ?_⟩
      · intro p hp
        simp only [List.mem_cons, List.not_mem_nil, or_false] at hp
        rcases hp with rfl | rfl | rfl | rfl | rfl | rfl | rfl | rfl | rfl | rfl <;> rfl
      all_goals first | (with_reducible refine W_id ?_) | (simp [-map_take,-map_drop, push_cast, dV_take, dV_drop, sgC, ptC, ratC, zC, hK']; done) | (simp [-map_take,-map_drop, push_cast, dV_take, dV_drop, sgC, ptC, ratC, zC, hK']; omega) | (intro i hi; simp [-map_take,-map_drop]; omega) | (intro i hi; dsimp only; (repeat' split) <;> omega) | (simp [-map_take,-map_drop, push_cast, dV_take, dV_drop, sgC, ptC, ratC, zC, hK']; fail_if_success done)
    · have g3 : (k = 3) = False := eq_false h3
      have g3' : ((k : Int) = 3) = False := eq_false (by omega)
      have hK' : K = I := by rw [hK, hK1 k h3]
      have gb : ((k : Int) == 3) = false := by rw [beq_eq_false_iff_ne]; omega
      repeat' (first
        | with_reducible first | apply thenW_n | apply thenW_ret | apply thenW_exit | apply thenW_panic | apply blockW_n | apply blockW_same | apply blockW_ret | apply blockW_panic | apply loopW_ret | apply loopW_exit | apply loopW_panic | apply joinW_ret | apply joinW_exit | apply joinW_panic | apply W_seq | apply W_block | apply W_skip | apply W_ret | apply W_exit | apply W_label
        | with_reducible refine blockW_other (by decide) ?_
        | with_reducible refine W_region (by first | decide | (with_unfolding_all rfl)) ?_
        | (rw [vcn]; (try simp [-map_take,-map_drop, push_cast, g3, g3', gb]); try simp (disch := omega) only [i64_in, u64_in, shr64i])
        | with_reducible refine W_drawn mixed (by decide) (by kernel_rfl) ?_
        | (rw [vcnD]; (try simp [-map_take,-map_drop, push_cast, g3, g3', gb]); try simp (disch := omega) only [i64_in, u64_in, shr64i])
        | (with_reducible refine W_condW ?_; (try simp [-map_take,-map_drop, AS.val, upd, resB, mkS_env, mkS_box, lk, entry_env, condW_true, condW_false, g3, g3', gb]))
        | (with_reducible refine optK_dV (by first | omega | (simp [-map_take,-map_drop]; omega)) ?_)
        | with_reducible refine optK_dVh (by omega) ?_
        | refine And.intro (by first | omega | kernel_rfl) ?_
        | ((with_reducible refine condW_b (fun hc => ?_) (fun hc => ?_) <;> (try simp [-map_take,-map_drop, Int.ofNat_inj] at hc) <;> (try contradiction)))
        | fail)
      refine joinW_n () id trivial ⟨?_, ?_, ?_, ?_, ?_, ?_⟩
      · intro p hp
        simp only [List.mem_cons, List.not_mem_nil, or_false] at hp
        rcases hp with rfl | rfl | rfl | rfl | rfl | rfl | rfl | rfl | rfl | rfl <;> rfl
      all_goals first | (with_reducible refine W_id ?_) | (simp [-map_take,-map_drop, push_cast, dV_take, dV_drop, sgC, ptC, ratC, zC, hK']; done) | (simp [-map_take,-map_drop, push_cast, dV_take, dV_drop, sgC, ptC, ratC, zC, hK']; omega) | (intro i hi; simp [-map_take,-map_drop]; omega) | (intro i hi; dsimp only; (repeat' split) <;> omega) | (simp [-map_take,-map_drop, push_cast, dV_take, dV_drop, sgC, ptC, ratC, zC, hK']; fail_if_success done)
  clear y1 y2 y3 y4 r1 r2 r3 r4 l1 l2 m1 m2 c1 c2 s1 s2 s3 hK hK1 hK3 mm
  repeat' (first
    | with_reducible first | apply thenW_n | apply thenW_ret | apply thenW_exit | apply thenW_panic | apply blockW_n | apply blockW_same | apply blockW_ret | apply blockW_panic | apply loopW_ret | apply loopW_exit | apply loopW_panic | apply joinW_ret | apply joinW_exit | apply joinW_panic | apply W_seq | apply W_block | apply W_skip | apply W_ret | apply W_exit | apply W_label
    | with_reducible refine blockW_other (by decide) ?_
    | with_reducible refine W_region (by first | decide | (with_unfolding_all rfl)) ?_
    | (rw [vcn]; (try simp [-map_take,-map_drop, push_cast, sgAV, sgC, ptAV, ptC, ratAV, ratC, zAV, zC]); try simp (disch := omega) only [i64_in, u64_in, shr64i])
    | with_reducible refine W_drawn mixed (by decide) (by kernel_rfl) ?_
    | (rw [vcnD]; (try simp [-map_take,-map_drop, push_cast, sgAV, sgC, ptAV, ptC, ratAV, ratC, zAV, zC]); try simp (disch := omega) only [i64_in, u64_in, shr64i])
    | (with_reducible refine W_condW ?_; (try simp [-map_take,-map_drop, AS.val, upd, resB, mkS_env, mkS_box, lk, entry_env, condW_true, condW_false, sgAV, sgC, ptAV, ptC, ratAV, ratC, zAV, zC]))
    | (with_reducible refine optK_dV (by first | omega | (simp [-map_take,-map_drop]; omega)) ?_)
    | with_reducible refine optK_dVh (by omega) ?_
    | refine And.intro (by first | omega | kernel_rfl) ?_
    | ((with_reducible refine condW_b (fun hc => ?_) (fun hc => ?_) <;> (try simp [-map_take,-map_drop, Int.ofNat_inj] at hc) <;> (try contradiction)))
    | fail)
  first | refine CallG_of (y5) ?_ ?_ rfl ?_ | refine callD_of (y5) ?_ ?_ rfl ?_
  · first | rfl | (simp [-map_take,-map_drop, natAV, numC, ← limbs.eq_1, push_cast, sgAV, sgC, ptAV, ptC, ratAV, ratC, zAV, zC]; done)
  · first | rfl | simp [-map_take,-map_drop, natAV, zAV, zC, ratAV, ratC, ptAV, ptC, sgAV, sgC, d3sAV, d3C, dC, dotAV, AV.refs, refsL, push_cast]
  try dsimp only
  repeat' (first
    | with_reducible first | apply thenW_n | apply thenW_ret | apply thenW_exit | apply thenW_panic | apply blockW_n | apply blockW_same | apply blockW_ret | apply blockW_panic | apply loopW_ret | apply loopW_exit | apply loopW_panic | apply joinW_ret | apply joinW_exit | apply joinW_panic | apply W_seq | apply W_block | apply W_skip | apply W_ret | apply W_exit | apply W_label
    | with_reducible refine blockW_other (by decide) ?_
    | with_reducible refine W_region (by first | decide | (with_unfolding_all rfl)) ?_
    | (rw [vcn]; (try simp [-map_take,-map_drop, push_cast, sgAV, sgC, ptAV, ptC, ratAV, ratC, zAV, zC]); try simp (disch := omega) only [i64_in, u64_in, shr64i])
    | with_reducible refine W_drawn mixed (by decide) (by kernel_rfl) ?_
    | (rw [vcnD]; (try simp [-map_take,-map_drop, push_cast, sgAV, sgC, ptAV, ptC, ratAV, ratC, zAV, zC]); try simp (disch := omega) only [i64_in, u64_in, shr64i])
    | (with_reducible refine W_condW ?_; (try simp [-map_take,-map_drop, AS.val, upd, resB, mkS_env, mkS_box, lk, entry_env, condW_true, condW_false, sgAV, sgC, ptAV, ptC, ratAV, ratC, zAV, zC]))
    | (with_reducible refine optK_dV (by first | omega | (simp [-map_take,-map_drop]; omega)) ?_)
    | with_reducible refine optK_dVh (by omega) ?_
    | refine And.intro (by first | omega | kernel_rfl) ?_
    | ((with_reducible refine condW_b (fun hc => ?_) (fun hc => ?_) <;> (try simp [-map_take,-map_drop, Int.ofNat_inj] at hc) <;> (try contradiction)))
    | fail)
  first | refine CallG_of (y7) ?_ ?_ rfl ?_ | refine callD_of (y7) ?_ ?_ rfl ?_
  · first | rfl | (simp [-map_take,-map_drop, natAV, numC, ← limbs.eq_1, push_cast, sgAV, sgC, ptAV, ptC, ratAV, ratC, zAV, zC]; done)
  · first | rfl | simp [-map_take,-map_drop, natAV, zAV, zC, ratAV, ratC, ptAV, ptC, sgAV, sgC, d3sAV, d3C, dC, dotAV, AV.refs, refsL, push_cast]
  try dsimp only
  repeat' (first
    | with_reducible first | apply thenW_n | apply thenW_ret | apply thenW_exit | apply thenW_panic | apply blockW_n | apply blockW_same | apply blockW_ret | apply blockW_panic | apply loopW_ret | apply loopW_exit | apply loopW_panic | apply joinW_ret | apply joinW_exit | apply joinW_panic | apply W_seq | apply W_block | apply W_skip | apply W_ret | apply W_exit | apply W_label
    | with_reducible refine blockW_other (by decide) ?_
    | with_reducible refine W_region (by first | decide | (with_unfolding_all rfl)) ?_
    | (rw [vcn]; (try simp [-map_take,-map_drop, push_cast, sgAV, sgC, ptAV, ptC, ratAV, ratC, zAV, zC]); try simp (disch := omega) only [i64_in, u64_in, shr64i])
    | with_reducible refine W_drawn mixed (by decide) (by kernel_rfl) ?_
    | (rw [vcnD]; (try simp [-map_take,-map_drop, push_cast, sgAV, sgC, ptAV, ptC, ratAV, ratC, zAV, zC]); try simp (disch := omega) only [i64_in, u64_in, shr64i])
    | (with_reducible refine W_condW ?_; (try simp [-map_take,-map_drop, AS.val, upd, resB, mkS_env, mkS_box, lk, entry_env, condW_true, condW_false, sgAV, sgC, ptAV, ptC, ratAV, ratC, zAV, zC]))
    | (with_reducible refine optK_dV (by first | omega | (simp [-map_take,-map_drop]; omega)) ?_)
    | with_reducible refine optK_dVh (by omega) ?_
    | refine And.intro (by first | omega | kernel_rfl) ?_
    | ((with_reducible refine condW_b (fun hc => ?_) (fun hc => ?_) <;> (try simp [-map_take,-map_drop, Int.ofNat_inj] at hc) <;> (try contradiction)))
    | fail)
  first | refine CallG_of (y9) ?_ ?_ rfl ?_ | refine callD_of (y9) ?_ ?_ rfl ?_
  · first | rfl | (simp [-map_take,-map_drop, natAV, numC, ← limbs.eq_1, push_cast, sgAV, sgC, ptAV, ptC, ratAV, ratC, zAV, zC]; done)
  · first | rfl | simp [-map_take,-map_drop, natAV, zAV, zC, ratAV, ratC, ptAV, ptC, sgAV, sgC, d3sAV, d3C, dC, dotAV, AV.refs, refsL, push_cast]
  try dsimp only
  repeat' (first
    | with_reducible first | apply thenW_n | apply thenW_ret | apply thenW_exit | apply thenW_panic | apply blockW_n | apply blockW_same | apply blockW_ret | apply blockW_panic | apply loopW_ret | apply loopW_exit | apply loopW_panic | apply joinW_ret | apply joinW_exit | apply joinW_panic | apply W_seq | apply W_block | apply W_skip | apply W_ret | apply W_exit | apply W_label
    | with_reducible refine blockW_other (by decide) ?_
    | with_reducible refine W_region (by first | decide | (with_unfolding_all rfl)) ?_
    | (rw [vcn]; (try simp [-map_take,-map_drop, push_cast, sgAV, sgC, ptAV, ptC, ratAV, ratC, zAV, zC]); try simp (disch := omega) only [i64_in, u64_in, shr64i])
    | with_reducible refine W_drawn mixed (by decide) (by kernel_rfl) ?_
    | (rw [vcnD]; (try simp [-map_take,-map_drop, push_cast, sgAV, sgC, ptAV, ptC, ratAV, ratC, zAV, zC]); try simp (disch := omega) only [i64_in, u64_in, shr64i])
    | (with_reducible refine W_condW ?_; (try simp [-map_take,-map_drop, AS.val, upd, resB, mkS_env, mkS_box, lk, entry_env, condW_true, condW_false, sgAV, sgC, ptAV, ptC, ratAV, ratC, zAV, zC]))
    | (with_reducible refine optK_dV (by first | omega | (simp [-map_take,-map_drop]; omega)) ?_)
    | with_reducible refine optK_dVh (by omega) ?_
    | refine And.intro (by first | omega | kernel_rfl) ?_
    | ((with_reducible refine condW_b (fun hc => ?_) (fun hc => ?_) <;> (try simp [-map_take,-map_drop, Int.ofNat_inj] at hc) <;> (try contradiction)))
    | fail)
  first | refine CallG_of (y6) ?_ ?_ rfl ?_ | refine callD_of (y6) ?_ ?_ rfl ?_
  · first | rfl | (simp [-map_take,-map_drop, natAV, numC, ← limbs.eq_1, push_cast, sgAV, sgC, ptAV, ptC, ratAV, ratC, zAV, zC]; done)
  · first | rfl | simp [-map_take,-map_drop, natAV, zAV, zC, ratAV, ratC, ptAV, ptC, sgAV, sgC, d3sAV, d3C, dC, dotAV, AV.refs, refsL, push_cast]
  try dsimp only
  repeat' (first
    | with_reducible first | apply thenW_n | apply thenW_ret | apply thenW_exit | apply thenW_panic | apply blockW_n | apply blockW_same | apply blockW_ret | apply blockW_panic | apply loopW_ret | apply loopW_exit | apply loopW_panic | apply joinW_ret | apply joinW_exit | apply joinW_panic | apply W_seq | apply W_block | apply W_skip | apply W_ret | apply W_exit | apply W_label
    | with_reducible refine blockW_other (by decide) ?_
    | with_reducible refine W_region (by first | decide | (with_unfolding_all rfl)) ?_
    | (rw [vcn]; (try simp [-map_take,-map_drop, push_cast, sgAV, sgC, ptAV, ptC, ratAV, ratC, zAV, zC]); try simp (disch := omega) only [i64_in, u64_in, shr64i])
    | with_reducible refine W_drawn mixed (by decide) (by kernel_rfl) ?_
    | (rw [vcnD]; (try simp [-map_take,-map_drop, push_cast, sgAV, sgC, ptAV, ptC, ratAV, ratC, zAV, zC]); try simp (disch := omega) only [i64_in, u64_in, shr64i])
    | (with_reducible refine W_condW ?_; (try simp [-map_take,-map_drop, AS.val, upd, resB, mkS_env, mkS_box, lk, entry_env, condW_true, condW_false, sgAV, sgC, ptAV, ptC, ratAV, ratC, zAV, zC]))
    | (with_reducible refine optK_dV (by first | omega | (simp [-map_take,-map_drop]; omega)) ?_)
    | with_reducible refine optK_dVh (by omega) ?_
    | refine And.intro (by first | omega | kernel_rfl) ?_
    | ((with_reducible refine condW_b (fun hc => ?_) (fun hc => ?_) <;> (try simp [-map_take,-map_drop, Int.ofNat_inj] at hc) <;> (try contradiction)))
    | fail)
  first | refine CallG_of (y8) ?_ ?_ rfl ?_ | refine callD_of (y8) ?_ ?_ rfl ?_
  · first | rfl | (simp [-map_take,-map_drop, natAV, numC, ← limbs.eq_1, push_cast, sgAV, sgC, ptAV, ptC, ratAV, ratC, zAV, zC]; done)
  · first | rfl | simp [-map_take,-map_drop, natAV, zAV, zC, ratAV, ratC, ptAV, ptC, sgAV, sgC, d3sAV, d3C, dC, dotAV, AV.refs, refsL, push_cast]
  try dsimp only
  repeat' (first
    | with_reducible first | apply thenW_n | apply thenW_ret | apply thenW_exit | apply thenW_panic | apply blockW_n | apply blockW_same | apply blockW_ret | apply blockW_panic | apply loopW_ret | apply loopW_exit | apply loopW_panic | apply joinW_ret | apply joinW_exit | apply joinW_panic | apply W_seq | apply W_block | apply W_skip | apply W_ret | apply W_exit | apply W_label
    | with_reducible refine blockW_other (by decide) ?_
    | with_reducible refine W_region (by first | decide | (with_unfolding_all rfl)) ?_
    | (rw [vcn]; (try simp [-map_take,-map_drop, push_cast, sgAV, sgC, ptAV, ptC, ratAV, ratC, zAV, zC]); try simp (disch := omega) only [i64_in, u64_in, shr64i])
    | with_reducible refine W_drawn mixed (by decide) (by kernel_rfl) ?_
    | (rw [vcnD]; (try simp [-map_take,-map_drop, push_cast, sgAV, sgC, ptAV, ptC, ratAV, ratC, zAV, zC]); try simp (disch := omega) only [i64_in, u64_in, shr64i])
    | (with_reducible refine W_condW ?_; (try simp [-map_take,-map_drop, AS.val, upd, resB, mkS_env, mkS_box, lk, entry_env, condW_true, condW_false, sgAV, sgC, ptAV, ptC, ratAV, ratC, zAV, zC]))
    | (with_reducible refine optK_dV (by first | omega | (simp [-map_take,-map_drop]; omega)) ?_)
    | with_reducible refine optK_dVh (by omega) ?_
    | refine And.intro (by first | omega | kernel_rfl) ?_
    | ((with_reducible refine condW_b (fun hc => ?_) (fun hc => ?_) <;> (try simp [-map_take,-map_drop, Int.ofNat_inj] at hc) <;> (try contradiction)))
    | fail)
  first | refine CallG_of (y10) ?_ ?_ rfl ?_ | refine callD_of (y10) ?_ ?_ rfl ?_
  · first | rfl | (simp [-map_take,-map_drop, natAV, numC, ← limbs.eq_1, push_cast, sgAV, sgC, ptAV, ptC, ratAV, ratC, zAV, zC]; done)
  · first | rfl | simp [-map_take,-map_drop, natAV, zAV, zC, ratAV, ratC, ptAV, ptC, sgAV, sgC, d3sAV, d3C, dC, dotAV, AV.refs, refsL, push_cast]
  try dsimp only
  repeat' (first
    | with_reducible first | apply thenW_n | apply thenW_ret | apply thenW_exit | apply thenW_panic | apply blockW_n | apply blockW_same | apply blockW_ret | apply blockW_panic | apply loopW_ret | apply loopW_exit | apply loopW_panic | apply joinW_ret | apply joinW_exit | apply joinW_panic | apply W_seq | apply W_block | apply W_skip | apply W_ret | apply W_exit | apply W_label
    | with_reducible refine blockW_other (by decide) ?_
    | with_reducible refine W_region (by first | decide | (with_unfolding_all rfl)) ?_
    | (rw [vcn]; (try simp [-map_take,-map_drop, push_cast, w1]); try simp (disch := omega) only [i64_in, u64_in, shr64i])
    | with_reducible refine W_drawn mixed (by decide) (by kernel_rfl) ?_
    | (rw [vcnD]; (try simp [-map_take,-map_drop, push_cast, w1]); try simp (disch := omega) only [i64_in, u64_in, shr64i])
    | (with_reducible refine W_condW ?_; (try simp [-map_take,-map_drop, AS.val, upd, resB, mkS_env, mkS_box, lk, entry_env, condW_true, condW_false, w1]))
    | (with_reducible refine optK_dV (by first | omega | (simp [-map_take,-map_drop]; omega)) ?_)
    | with_reducible refine optK_dVh (by omega) ?_
    | refine And.intro (by first | omega | kernel_rfl) ?_
    | ((with_reducible refine condW_b (fun hc => ?_) (fun hc => ?_) <;> (try simp [-map_take,-map_drop, Int.ofNat_inj] at hc) <;> (try contradiction)))
    | fail)
  refine loopW_n (k + 1) (fun i => if i = 600 then 21 else i) (by omega) (by omega) ⟨?_, ?_, ?_, ?_, ?_, ?_⟩
  all_goals first | (with_reducible refine W_id ?_) | (simp [-map_take,-map_drop, push_cast, dV_take, dV_drop, sgC, ptC, ratC, zC]; done) | (simp [-map_take,-map_drop, push_cast, dV_take, dV_drop, sgC, ptC, ratC, zC]; omega) | (intro i hi; simp [-map_take,-map_drop]; omega) | (intro i hi; dsimp only; (repeat' split) <;> omega) | (simp [-map_take,-map_drop, push_cast, dV_take, dV_drop, sgC, ptC, ratC, zC]; fail_if_success done)
end Go.Fw

/- ReachStays: every call of the law returns true. Printed by a program (wip/gen/entry.py). -/
namespace Go.Proofs.Ytjaohdeicocgnaa
open Go.ChangeShapes Go.WideShapes Go.ChangeAt Go.RowKit Go.Deep Go.Fw
open Go.ChangeMaps (open_string shut_string)
set_option linter.unusedVariables false

theorem walkRst (x0 : Int × Int × Int) (x1 : Int × Int × Int) (x2 : Int × Int × Int) (x3 : Int × Int × Int) (x4 : Int × Int × Int) (x5 : Int) (hx0 : inD x0) (hx1 : inD x1) (hx2 : inD x2) (hx3 : inD x3) (hx4 : inD x4) (hx5 : inI x5) (w : World) :
    Calls Try.prog 4 #[dotV x0, dotV x1, dotV x2, dotV x3, dotV x4, .int .i64 x5] w fun e w' => e = .returned (.bool true) ∧ Below w.heap.size w w' :=
  law_calls Try.call4 (lawStays12_ok x0 x1 x2 x3 x4 x5 hx0 hx1 hx2 hx3 hx4 hx5) w _ rfl ⟨⟨_, rfl, rep_dot w x0⟩, ⟨_, rfl, rep_dot w x1⟩, ⟨_, rfl, rep_dot w x2⟩, ⟨_, rfl, rep_dot w x3⟩, ⟨_, rfl, rep_dot w x4⟩, ⟨_, rfl, rfl, rfl⟩, trivial⟩

set_option maxRecDepth 100000 in
theorem liftedRst (os : Os) (started : os.Started) (H : Type) (enc : TypeId × Value → H) :
    ReturnsInHanded {} Try.checked os 4 .any (Rows.reachStaysSpec.pre6 enc Try.prog Try.f4 Rows.reachStaysRow.domain false) (Rows.reachStaysSpec.post enc Try.prog Try.f4 false true false false) := by
  refine returnsInHanded_of_change (C := Try.checked) own started (by kernel_rfl) Try.func4
    (ChangeSpec.witness6 (enc := enc) (C := Try.checked) false ⟨#[], #[.agg #[.int .i64 0, .int .i64 0, .int .i64 0], .agg #[.int .i64 0, .int .i64 0, .int .i64 0], .agg #[.int .i64 0, .int .i64 0, .int .i64 0], .agg #[.int .i64 0, .int .i64 0, .int .i64 0], .agg #[.int .i64 0, .int .i64 0, .int .i64 0], .int .i64 0], []⟩ 8 (by kernel_rfl) (by kernel_rfl) (by kernel_rfl) (by kernel_rfl)) ?_
  intro W base args ds gs before hval0 hW hcnd _
  have hW' := hW
  obtain ⟨p, q, hA0, hV, rfl, hfz, hnd⟩ := hW
  have hA : DataW.TrodAll enc Try.prog W 0 (fun _ => true) true Try.f4.params.toList args.toList ds p := hA0
  have hval : ∀ (j : Nat) t v, Try.f4.params[j]? = some t → args[j]? = some v → Value.okWide Try.prog W .any base t v := hval0
  rw [Try.params4] at hA hval
  obtain ⟨v0, vs0, d0, ds0, p0, q0, hargs, rfl, rfl, h0, r0⟩ := trodAll_cons hA
  obtain ⟨v1, vs1, d1, ds1, p1, q1, rfl, rfl, rfl, h1, r1⟩ := trodAll_cons r0
  obtain ⟨v2, vs2, d2, ds2, p2, q2, rfl, rfl, rfl, h2, r2⟩ := trodAll_cons r1
  obtain ⟨v3, vs3, d3, ds3, p3, q3, rfl, rfl, rfl, h3, r3⟩ := trodAll_cons r2
  obtain ⟨v4, vs4, d4, ds4, p4, q4, rfl, rfl, rfl, h4, r4⟩ := trodAll_cons r3
  obtain ⟨v5, vs5, d5, ds5, p5, q5, rfl, rfl, rfl, h5, r5⟩ := trodAll_cons r4
  obtain ⟨rfl, rfl, rfl⟩ := trodAll_nil r5
  obtain rfl : args = #[v0, v1, v2, v3, v4, v5] := by cases args; simp_all
  obtain ⟨rfl, rfl⟩ := trodVars_none hV
  obtain ⟨cs0, rfl, _⟩ := okWide_struct Try.underlying23 (hval 0 23 v0 rfl rfl)
  obtain ⟨cs1, rfl, _⟩ := okWide_struct Try.underlying23 (hval 1 23 v1 rfl rfl)
  obtain ⟨cs2, rfl, _⟩ := okWide_struct Try.underlying23 (hval 2 23 v2 rfl rfl)
  obtain ⟨cs3, rfl, _⟩ := okWide_struct Try.underlying23 (hval 3 23 v3 rfl rfl)
  obtain ⟨cs4, rfl, _⟩ := okWide_struct Try.underlying23 (hval 4 23 v4 rfl rfl)
  obtain ⟨x5, rfl⟩ := okWide_int Try.underlying3 (hval 5 3 v5 rfl rfl)
  have k0 := h0
  have k1 := h1
  have k2 := h2
  have k3 := h3
  have k4 := h4
  have k5 := h5
  have lt0 : ∀ x ∈ p0, x.block < W.heap.size := by obtain ⟨m, hm⟩ := k0; exact DataW.trod_lt m _ _ _ hm
  have lt1 : ∀ x ∈ p1, x.block < W.heap.size := by obtain ⟨m, hm⟩ := k1; exact DataW.trod_lt m _ _ _ hm
  have lt2 : ∀ x ∈ p2, x.block < W.heap.size := by obtain ⟨m, hm⟩ := k2; exact DataW.trod_lt m _ _ _ hm
  have lt3 : ∀ x ∈ p3, x.block < W.heap.size := by obtain ⟨m, hm⟩ := k3; exact DataW.trod_lt m _ _ _ hm
  have lt4 : ∀ x ∈ p4, x.block < W.heap.size := by obtain ⟨m, hm⟩ := k4; exact DataW.trod_lt m _ _ _ hm
  have lt5 : ∀ x ∈ p5, x.block < W.heap.size := by obtain ⟨m, hm⟩ := k5; exact DataW.trod_lt m _ _ _ hm
  obtain ⟨x0, hx0, e0⟩ : ∃ a : Int × Int × Int, inD a ∧ cs0.toList = [.int .i64 a.1, .int .i64 a.2.1, .int .i64 a.2.2] := by
    obtain ⟨fuel, hf⟩ := h0
    exact open_dot (by simpa [Value.cells] using hf)
  obtain ⟨x1, hx1, e1⟩ : ∃ a : Int × Int × Int, inD a ∧ cs1.toList = [.int .i64 a.1, .int .i64 a.2.1, .int .i64 a.2.2] := by
    obtain ⟨fuel, hf⟩ := h1
    exact open_dot (by simpa [Value.cells] using hf)
  obtain ⟨x2, hx2, e2⟩ : ∃ a : Int × Int × Int, inD a ∧ cs2.toList = [.int .i64 a.1, .int .i64 a.2.1, .int .i64 a.2.2] := by
    obtain ⟨fuel, hf⟩ := h2
    exact open_dot (by simpa [Value.cells] using hf)
  obtain ⟨x3, hx3, e3⟩ : ∃ a : Int × Int × Int, inD a ∧ cs3.toList = [.int .i64 a.1, .int .i64 a.2.1, .int .i64 a.2.2] := by
    obtain ⟨fuel, hf⟩ := h3
    exact open_dot (by simpa [Value.cells] using hf)
  obtain ⟨x4, hx4, e4⟩ : ∃ a : Int × Int × Int, inD a ∧ cs4.toList = [.int .i64 a.1, .int .i64 a.2.1, .int .i64 a.2.2] := by
    obtain ⟨fuel, hf⟩ := h4
    exact open_dot (by simpa [Value.cells] using hf)
  have hx5 : inI x5 := by
    obtain ⟨fuel, hf⟩ := h5
    exact open_inI (by simpa [Value.cells] using hf)
  obtain rfl := dot_arr e0
  obtain rfl := dot_arr e1
  obtain rfl := dot_arr e2
  obtain rfl := dot_arr e3
  obtain rfl := dot_arr e4
  clear hA0 hval0
  refine (walkRst x0 x1 x2 x3 x4 x5 hx0 hx1 hx2 hx3 hx4 hx5 W).mono fun e W' ⟨he, bel⟩ => ?_
  subst he
  exact ⟨_, rfl, _, _, _, [], _, [], hW', trodAll_mk1 (shut_bool Try.underlying4 _), (trodAll_cons_mk (Below.trod laidOut (by kernel_rfl) (of_decide_eq_true (by kernel_rfl)) k0 bel lt0) (trodAll_cons_mk (Below.trod laidOut (by kernel_rfl) (of_decide_eq_true (by kernel_rfl)) k1 bel lt1) (trodAll_cons_mk (Below.trod laidOut (by kernel_rfl) (of_decide_eq_true (by kernel_rfl)) k2 bel lt2) (trodAll_cons_mk (Below.trod laidOut (by kernel_rfl) (of_decide_eq_true (by kernel_rfl)) k3 bel lt3) (trodAll_cons_mk (Below.trod laidOut (by kernel_rfl) (of_decide_eq_true (by kernel_rfl)) k4 bel lt4) (trodAll_cons_mk (Below.trod laidOut (by kernel_rfl) (of_decide_eq_true (by kernel_rfl)) k5 bel lt5) trodAll_mk0)))))), rfl, bel.frame _, fun h => by cases h⟩

theorem rstNamed : Try.checked.prog.funcNamed Rows.reachStaysRow.func = some 4 := by kernel_rfl
theorem rstJoined : joinedFacts Try.checked.prog 4 Try.f4 Rows.reachStaysSpec Rows.reachStaysRow = true := by kernel_rfl
theorem rstInst : Try.f4.isInstance Try.checked.prog Rows.reachStaysRow.origin Rows.reachStaysRow.targs := of_decide_eq_true (by kernel_rfl)
theorem rstWrap : Try.f4.isWrapper Try.checked.prog Rows.reachStaysRow.wrapper Rows.reachStaysRow.mainSum := by unfold Func.isWrapper; first | (rw [if_pos (by decide +kernel)]; kernel_rfl) | (rw [if_neg (by decide +kernel)]; exact ⟨rfl, rfl⟩)

theorem reach_stays_law : Rows.ReachStaysSaid :=
  OpenClaim.holds_of_wide 4 Try.f4 rfl rfl rfl rfl rfl rfl rfl ⟨rfl, rfl, rfl, rfl, rfl⟩ rfl rfl rfl rfl rfl rstNamed Try.func4 rstJoined
    rstInst rstWrap
    (fun os started H enc _ => liftedRst os started H enc)

#print axioms reach_stays_law
end Go.Proofs.Ytjaohdeicocgnaa

/- plane: less, Cross, Dot, Side, Grid. -/
import Derived.Test.YtbabekaohfcjbaaR6
set_option linter.unusedSimpArgs false
set_option linter.unusedVariables false
-- VALS: zAV, zC, ratAV, ratC, ptAV, ptC
namespace Go.Fw
open Go Go.Proofs Go.IntWalk
set_option linter.unusedSimpArgs false
set_option maxRecDepth 100000
set_option maxHeartbeats 4000000

/-- A point of the program's. -/
structure FP where
  x : FQ
  y : FQ
def ptC (p : FP) : List AV := ratC p.x ++ ratC p.y
def ptAV (p : FP) : AV := .agg (ptC p)
def szV (p : FP) : Nat := szQ p.x.q + szQ p.y.q
def FP.sub (p q : FP) : FP := ⟨.of (p.x.q - q.x.q), .of (p.y.q - q.y.q)⟩

theorem szQ_sub (a b : Rat) : szQ (a - b) ≤ 2 * (szQ a + szQ b) + 1 := by
  rw [Rat.sub_eq_add_neg]
  have := szQ_add a (-b)
  rw [szQ_neg] at this
  exact this
theorem szV_sub (p q : FP) : szV (p.sub q) ≤ 2 * (szV p + szV q) + 2 := by
  have := szQ_sub p.x.q q.x.q
  have := szQ_sub p.y.q q.y.q
  show szQ (p.x.q - q.x.q) + szQ (p.y.q - q.y.q) ≤ _
  unfold szV; omega

open List (map_take map_drop)
attribute [local push_cast] optK_some optK_none optK_ite optK_map optK_bind gOn stepK isMem evPure evMem evBin evUn evConv evLen evBuiltin evMinMax evSlice evBuild evAppend evIndex evIndexAddr evField evFieldAddr intBin strBin appDest AS.val AS.mem AS.elems AS.put AS.put' AS.eff AV.cells? AV.isCell AV.refs all_isByte take_byteV drop_byteV strOf_map bndOk bnd partAV ptrAdd killBox catA inOrder fillA setAt ofVal resB upd byteV List.head?_take List.head?_drop List.getElem?_map mkS_env mkS_box mkS_used entry_env entry_box entry_used lk stepD lookIds Oper.looksAt Op.operands Call.operands St.ids refsL renL_append ren renL renBox Box.refs iV i64V boolV dV_getElem dV_app dV_cons toNat_add2 toNat_add1
attribute [local simp ↓] numC_refs numC_isCell numC_cells numC_resB numC_resD numC_ren numC_closeC numC_isOwn
theorem ptLess_ok (p q : FP) (h : szV p + szV q ≤ 200000) : Eval Try.prog 38 [ptAV p, ptAV q] (.ret (ptAV (p.sub q))) := by
  refine Eval.intro Try.func38 rfl Try.call38 _ _ (Nat.le_of_ble_eq_true rfl) (by simp [-map_take,-map_drop, AV.refs, refsL, natAV, zAV, zC, ratAV, ratC, ptAV, ptC, push_cast]) fun hs0 => ?_
  simp only [szV] at h
  have e1 := subR_ok p.x q.x (by omega)
  have e2 := subR_ok p.y q.y (by omega)
  obtain ⟨a, ha⟩ : ∃ a, a = FQ.of (p.x.q - q.x.q) := ⟨_, rfl⟩
  obtain ⟨b, hb⟩ : ∃ b, b = FQ.of (p.y.q - q.y.q) := ⟨_, rfl⟩
  have hpq : p.sub q = ⟨a, b⟩ := by rw [ha, hb]; rfl
  rw [hpq]
  rw [← ha] at e1
  rw [← hb] at e2
  clear ha hb
  repeat' (first
    | with_reducible first | apply thenW_n | apply W_seq
    | with_reducible refine W_region (by first | decide | (with_unfolding_all rfl)) ?_
    | (rw [vcn]; (try simp [-map_take,-map_drop, push_cast, ptAV, ptC, ratAV, ratC, zAV, zC]))
    | with_reducible refine W_drawn mixed (by decide) (by kernel_rfl) ?_
    | (rw [vcnD]; (try simp [-map_take,-map_drop, push_cast, ptAV, ptC, ratAV, ratC, zAV, zC]))
    | fail)
  refine callD_of (e1) rfl rfl rfl ?_
  try dsimp only
  repeat' (first
    | (rw [vcnD]; (try simp [-map_take,-map_drop, push_cast, ptAV, ptC, ratAV, ratC, zAV, zC]))
    | fail)
  refine callD_of (e2) rfl rfl rfl ?_
  try dsimp only
  repeat' (first
    | with_reducible first | apply thenW_n | apply W_ret
    | (rw [vcnD]; (try simp [-map_take,-map_drop, push_cast, ptAV, ptC, ratAV, ratC, zAV, zC]))
    | refine And.intro (by first | omega | kernel_rfl) ?_
    | fail)
  simp [-map_take,-map_drop, post, resAV, resAll, resOne, closeV, closeC, closeL, resD, resDL, push_cast, ptAV, ptC, ratAV, ratC, zAV, zC]

theorem grid_ok (x y : Int) (hx : -9223372036854775808 ≤ x ∧ x ≤ 9223372036854775807) (hy : -9223372036854775808 ≤ y ∧ y ≤ 9223372036854775807) : Eval Try.prog 28 [.agg [i64V x, i64V y]] (.ret (ptAV ⟨.of x, .of y⟩)) := by
  refine Eval.intro Try.func28 rfl Try.call28 _ _ (Nat.le_of_ble_eq_true rfl) (by simp [-map_take,-map_drop, AV.refs, refsL, natAV, zAV, zC, ratAV, ratC, ptAV, ptC, push_cast]) fun hs0 => ?_
  have h1 := limbs_small (n := x.natAbs) (by omega)
  have h2 := limbs_small (n := y.natAbs) (by omega)
  have e1 := whole_ok x (by omega)
  have e2 := whole_ok y (by omega)
  obtain ⟨a, ha⟩ : ∃ a, a = FQ.of (x : Rat) := ⟨_, rfl⟩
  obtain ⟨b, hb⟩ : ∃ b, b = FQ.of (y : Rat) := ⟨_, rfl⟩
  rw [← ha, ← hb]
  rw [← ha] at e1
  rw [← hb] at e2
  clear ha hb
  repeat' (first
    | with_reducible first | apply thenW_n | apply W_seq
    | with_reducible refine W_region (by first | decide | (with_unfolding_all rfl)) ?_
    | (rw [vcn]; (try simp [-map_take,-map_drop, push_cast]))
    | with_reducible refine W_drawn mixed (by decide) (by kernel_rfl) ?_
    | (rw [vcnD]; (try simp [-map_take,-map_drop, push_cast]))
    | fail)
  refine callD_of (ofZ_ok x hx) rfl rfl rfl ?_
  try dsimp only
  repeat' (first
    | (rw [vcnD]; (try simp [-map_take,-map_drop, push_cast]))
    | fail)
  refine callD_of (e1) rfl rfl rfl ?_
  try dsimp only
  repeat' (first
    | (rw [vcnD]; (try simp [-map_take,-map_drop, push_cast]))
    | fail)
  refine callD_of (ofZ_ok y hy) rfl rfl rfl ?_
  try dsimp only
  repeat' (first
    | (rw [vcnD]; (try simp [-map_take,-map_drop, push_cast]))
    | fail)
  refine callD_of (e2) rfl rfl rfl ?_
  try dsimp only
  repeat' (first
    | with_reducible first | apply thenW_n | apply W_ret
    | (rw [vcnD]; (try simp [-map_take,-map_drop, push_cast, ptAV, ptC, ratAV, ratC, zAV, zC]))
    | refine And.intro (by first | omega | kernel_rfl) ?_
    | fail)
  simp [-map_take,-map_drop, post, resAV, resAll, resOne, closeV, closeC, closeL, resD, resDL, push_cast, ptAV, ptC, ratAV, ratC, zAV, zC]

theorem cross_ok (a b c : FP) (h : szV a + szV b + szV c ≤ 10000) : Eval Try.prog 31 [ptAV a, ptAV b, ptAV c] (.ret (ratAV (.of ((b.x.q - a.x.q) * (c.y.q - a.y.q) - (b.y.q - a.y.q) * (c.x.q - a.x.q))))) := by
  refine Eval.intro Try.func31 rfl Try.call31 _ _ (Nat.le_of_ble_eq_true rfl) (by simp [-map_take,-map_drop, AV.refs, refsL, natAV, zAV, zC, ratAV, ratC, ptAV, ptC, push_cast]) fun hs0 => ?_
  have e1 := ptLess_ok b a (by omega)
  have e2 := ptLess_ok c a (by omega)
  have s1 := szV_sub b a
  have s2 := szV_sub c a
  obtain ⟨u, hu⟩ : ∃ u, u = b.sub a := ⟨_, rfl⟩
  obtain ⟨v, hv⟩ : ∃ v, v = c.sub a := ⟨_, rfl⟩
  have hr : (b.x.q - a.x.q) * (c.y.q - a.y.q) - (b.y.q - a.y.q) * (c.x.q - a.x.q) = u.x.q * v.y.q - u.y.q * v.x.q := by rw [hu, hv]; rfl
  rw [hr]
  rw [← hu] at e1 s1
  rw [← hv] at e2 s2
  simp only [szV] at s1 s2 h
  have m1 := szQ_mul u.x.q v.y.q
  have m2 := szQ_mul u.y.q v.x.q
  have e3 := mulR_ok u.x v.y (by omega)
  have e4 := mulR_ok u.y v.x (by omega)
  have e5 := subR_ok (.of (u.x.q * v.y.q)) (.of (u.y.q * v.x.q)) (by simp only [FQ.of]; omega)
  have hq : (FQ.of (u.x.q * v.y.q)).q - (FQ.of (u.y.q * v.x.q)).q = u.x.q * v.y.q - u.y.q * v.x.q := rfl
  rw [hq] at e5
  clear hr hu hv hq
  repeat' (first
    | with_reducible first | apply thenW_n | apply W_seq
    | with_reducible refine W_region (by first | decide | (with_unfolding_all rfl)) ?_
    | (rw [vcn]; (try simp [-map_take,-map_drop, push_cast, ptAV, ptC, ratAV, ratC, zAV, zC]))
    | with_reducible refine W_drawn mixed (by decide) (by kernel_rfl) ?_
    | (rw [vcnD]; (try simp [-map_take,-map_drop, push_cast, ptAV, ptC, ratAV, ratC, zAV, zC]))
    | fail)
  refine callD_of (e1) rfl rfl rfl ?_
  try dsimp only
  repeat' (first
    | (rw [vcnD]; (try simp [-map_take,-map_drop, push_cast, ptAV, ptC, ratAV, ratC, zAV, zC]))
    | fail)
  refine callD_of (e2) rfl rfl rfl ?_
  try dsimp only
  repeat' (first
    | with_reducible first | apply thenW_n | apply W_seq
    | with_reducible refine W_drawn mixed (by decide) (by kernel_rfl) ?_
    | (rw [vcnD]; (try simp [-map_take,-map_drop, push_cast, ptAV, ptC, ratAV, ratC, zAV, zC]))
    | refine And.intro (by first | omega | kernel_rfl) ?_
    | fail)
  refine callD_of (e3) rfl rfl rfl ?_
  try dsimp only
  repeat' (first
    | (rw [vcnD]; (try simp [-map_take,-map_drop, push_cast, ptAV, ptC]))
    | fail)
  refine callD_of (e4) rfl rfl rfl ?_
  try dsimp only
  repeat' (first
    | (rw [vcnD]; (try simp [-map_take,-map_drop, push_cast, ptAV, ptC]))
    | fail)
  refine callD_of (e5) rfl rfl rfl ?_
  try dsimp only
  repeat' (first
    | with_reducible first | apply thenW_n | apply W_ret
    | (rw [vcnD]; (try simp [-map_take,-map_drop, push_cast, ptAV, ptC, ratAV, ratC, zAV, zC]))
    | refine And.intro (by first | omega | kernel_rfl) ?_
    | fail)
  simp [-map_take,-map_drop, post, resAV, resAll, resOne, closeV, closeC, closeL, resD, resDL, push_cast, ratAV, ratC, zAV, zC]

end Go.Fw

/- plane: Dot, Side. -/
import Derived.Test.YtbabekaohfcjbaaR8
set_option linter.unusedSimpArgs false
set_option linter.unusedVariables false
-- VALS: zAV, zC, ratAV, ratC, ptAV, ptC
namespace Go.Fw
open Go Go.Proofs Go.IntWalk
set_option linter.unusedSimpArgs false
set_option maxRecDepth 100000
set_option maxHeartbeats 4000000

open List (map_take map_drop)
attribute [local push_cast] optK_some optK_none optK_ite optK_map optK_bind gOn stepK isMem evPure evMem evBin evUn evConv evLen evBuiltin evMinMax evSlice evBuild evAppend evIndex evIndexAddr evField evFieldAddr intBin strBin appDest AS.val AS.mem AS.elems AS.put AS.put' AS.eff AV.cells? AV.isCell AV.refs all_isByte take_byteV drop_byteV strOf_map bndOk bnd partAV ptrAdd killBox catA inOrder fillA setAt ofVal resB upd byteV List.head?_take List.head?_drop List.getElem?_map mkS_env mkS_box mkS_used entry_env entry_box entry_used lk stepD lookIds Oper.looksAt Op.operands Call.operands St.ids refsL renL_append ren renL renBox Box.refs iV i64V boolV dV_getElem dV_app dV_cons toNat_add2 toNat_add1
attribute [local simp ↓] numC_refs numC_isCell numC_cells numC_resB numC_resD numC_ren numC_closeC numC_isOwn
theorem dot_ok (a b c : FP) (h : szV a + szV b + szV c ≤ 10000) : Eval Try.prog 35 [ptAV a, ptAV b, ptAV c] (.ret (ratAV (.of ((b.x.q - a.x.q) * (c.x.q - a.x.q) + (b.y.q - a.y.q) * (c.y.q - a.y.q))))) := by
  refine Eval.intro Try.func35 rfl Try.call35 _ _ (Nat.le_of_ble_eq_true rfl) (by simp [-map_take,-map_drop, AV.refs, refsL, natAV, zAV, zC, ratAV, ratC, ptAV, ptC, push_cast]) fun hs0 => ?_
  have e1 := ptLess_ok b a (by omega)
  have e2 := ptLess_ok c a (by omega)
  have s1 := szV_sub b a
  have s2 := szV_sub c a
  obtain ⟨u, hu⟩ : ∃ u, u = b.sub a := ⟨_, rfl⟩
  obtain ⟨v, hv⟩ : ∃ v, v = c.sub a := ⟨_, rfl⟩
  have hr : (b.x.q - a.x.q) * (c.x.q - a.x.q) + (b.y.q - a.y.q) * (c.y.q - a.y.q) = u.x.q * v.x.q + u.y.q * v.y.q := by rw [hu, hv]; rfl
  rw [hr]
  rw [← hu] at e1 s1
  rw [← hv] at e2 s2
  simp only [szV] at s1 s2 h
  have m1 := szQ_mul u.x.q v.x.q
  have m2 := szQ_mul u.y.q v.y.q
  have e3 := mulR_ok u.x v.x (by omega)
  have e4 := mulR_ok u.y v.y (by omega)
  have e5 := addR_ok (.of (u.x.q * v.x.q)) (.of (u.y.q * v.y.q)) (by simp only [FQ.of]; omega)
  have hq : (FQ.of (u.x.q * v.x.q)).q + (FQ.of (u.y.q * v.y.q)).q = u.x.q * v.x.q + u.y.q * v.y.q := rfl
  rw [hq] at e5
  clear hr hu hv hq
  repeat' (first
    | with_reducible first | apply thenW_n | apply W_seq
    | with_reducible refine W_region (by first | decide | (with_unfolding_all rfl)) ?_
    | (rw [vcn]; (try simp [-map_take,-map_drop, push_cast, ptAV, ptC, ratAV, ratC, zAV, zC]))
    | with_reducible refine W_drawn mixed (by decide) (by kernel_rfl) ?_
    | (rw [vcnD]; (try simp [-map_take,-map_drop, push_cast, ptAV, ptC, ratAV, ratC, zAV, zC]))
    | fail)
  refine callD_of (e1) rfl rfl rfl ?_
  try dsimp only
  repeat' (first
    | (rw [vcnD]; (try simp [-map_take,-map_drop, push_cast, ptAV, ptC, ratAV, ratC, zAV, zC]))
    | fail)
  refine callD_of (e2) rfl rfl rfl ?_
  try dsimp only
  repeat' (first
    | with_reducible first | apply thenW_n | apply W_seq
    | with_reducible refine W_drawn mixed (by decide) (by kernel_rfl) ?_
    | (rw [vcnD]; (try simp [-map_take,-map_drop, push_cast, ptAV, ptC, ratAV, ratC, zAV, zC]))
    | refine And.intro (by first | omega | kernel_rfl) ?_
    | fail)
  refine callD_of (e3) rfl rfl rfl ?_
  try dsimp only
  repeat' (first
    | (rw [vcnD]; (try simp [-map_take,-map_drop, push_cast, ptAV, ptC]))
    | fail)
  refine callD_of (e4) rfl rfl rfl ?_
  try dsimp only
  repeat' (first
    | (rw [vcnD]; (try simp [-map_take,-map_drop, push_cast, ptAV, ptC]))
    | fail)
  refine callD_of (e5) rfl rfl rfl ?_
  try dsimp only
  repeat' (first
    | with_reducible first | apply thenW_n | apply W_ret
    | (rw [vcnD]; (try simp [-map_take,-map_drop, push_cast, ptAV, ptC, ratAV, ratC, zAV, zC]))
    | refine And.intro (by first | omega | kernel_rfl) ?_
    | fail)
  simp [-map_take,-map_drop, post, resAV, resAll, resOne, closeV, closeC, closeL, resD, resDL, push_cast, ratAV, ratC, zAV, zC]

/-- On which side of the way from a to b the point c lies. -/
def sideOf (a b c : FP) : Int :=
  let l := (b.x.q - a.x.q) * (c.y.q - a.y.q)
  let r := (b.y.q - a.y.q) * (c.x.q - a.x.q)
  cmpZ (l.num * r.den) (r.num * l.den)

theorem side_ok (a b c : FP) (h : szV a + szV b + szV c ≤ 10000) : Eval Try.prog 19 [ptAV a, ptAV b, ptAV c] (.ret (i64V (sideOf a b c))) := by
  refine Eval.intro Try.func19 rfl Try.call19 _ _ (Nat.le_of_ble_eq_true rfl) (by simp [-map_take,-map_drop, AV.refs, refsL, natAV, zAV, zC, ratAV, ratC, ptAV, ptC, push_cast]) fun hs0 => ?_
  have e1 := ptLess_ok b a (by omega)
  have e2 := ptLess_ok c a (by omega)
  have s1 := szV_sub b a
  have s2 := szV_sub c a
  obtain ⟨u, hu⟩ : ∃ u, u = b.sub a := ⟨_, rfl⟩
  obtain ⟨v, hv⟩ : ∃ v, v = c.sub a := ⟨_, rfl⟩
  have hr : sideOf a b c = cmpZ ((u.x.q * v.y.q).num * (u.y.q * v.x.q).den) ((u.y.q * v.x.q).num * (u.x.q * v.y.q).den) := by rw [hu, hv]; rfl
  rw [hr]
  rw [← hu] at e1 s1
  rw [← hv] at e2 s2
  simp only [szV] at s1 s2 h
  have m1 := szQ_mul u.x.q v.y.q
  have m2 := szQ_mul u.y.q v.x.q
  have e3 := mulR_ok u.x v.y (by omega)
  have e4 := mulR_ok u.y v.x (by omega)
  have e5 := cmpR_ok (.of (u.x.q * v.y.q)) (.of (u.y.q * v.x.q)) (by simp only [FQ.of]; omega)
  obtain ⟨k, hk⟩ : ∃ k, k = cmpZ ((u.x.q * v.y.q).num * (u.y.q * v.x.q).den) ((u.y.q * v.x.q).num * (u.x.q * v.y.q).den) := ⟨_, rfl⟩
  rw [← hk]
  have e5' : Eval Try.prog 43 [ratAV (.of (u.x.q * v.y.q)), ratAV (.of (u.y.q * v.x.q))] (.ret (i64V k)) := by rw [hk]; exact e5
  clear e5 hk
  clear hr hu hv
  repeat' (first
    | with_reducible first | apply thenW_n | apply W_seq
    | with_reducible refine W_region (by first | decide | (with_unfolding_all rfl)) ?_
    | (rw [vcn]; (try simp [-map_take,-map_drop, push_cast, ptAV, ptC, ratAV, ratC, zAV, zC]))
    | with_reducible refine W_drawn mixed (by decide) (by kernel_rfl) ?_
    | (rw [vcnD]; (try simp [-map_take,-map_drop, push_cast, ptAV, ptC, ratAV, ratC, zAV, zC]))
    | fail)
  refine callD_of (e1) rfl rfl rfl ?_
  try dsimp only
  repeat' (first
    | (rw [vcnD]; (try simp [-map_take,-map_drop, push_cast, ptAV, ptC, ratAV, ratC, zAV, zC]))
    | fail)
  refine callD_of (e2) rfl rfl rfl ?_
  try dsimp only
  repeat' (first
    | with_reducible first | apply thenW_n | apply W_seq
    | with_reducible refine W_drawn mixed (by decide) (by kernel_rfl) ?_
    | (rw [vcnD]; (try simp [-map_take,-map_drop, push_cast, ptAV, ptC, ratAV, ratC, zAV, zC]))
    | refine And.intro (by first | omega | kernel_rfl) ?_
    | fail)
  refine callD_of (e3) rfl rfl rfl ?_
  try dsimp only
  repeat' (first
    | (rw [vcnD]; (try simp [-map_take,-map_drop, push_cast, ptAV, ptC]))
    | fail)
  refine callD_of (e4) rfl rfl rfl ?_
  try dsimp only
  repeat' (first
    | (rw [vcnD]; (try simp [-map_take,-map_drop, push_cast, ptAV, ptC]))
    | fail)
  refine callD_of (e5') rfl rfl rfl ?_
  try dsimp only
  repeat' (first
    | with_reducible first | apply thenW_n | apply W_ret
    | (rw [vcnD]; (try simp [-map_take,-map_drop, push_cast, ptAV, ptC, ratAV, ratC, zAV, zC]))
    | refine And.intro (by first | omega | kernel_rfl) ?_
    | fail)
  simp [-map_take,-map_drop, post, resAV, resAll, resOne, closeV, closeC, closeL, resD, resDL, push_cast, ratAV, ratC, zAV, zC]

end Go.Fw

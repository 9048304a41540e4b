/- plane: Seg.at. -/
import Derived.Test.YtbabekaohfcjbaaR10
set_option linter.unusedSimpArgs false
set_option linter.unusedVariables false
-- VALS: zAV, zC, ratAV, ratC, ptAV, ptC, sgAV, sgC
namespace Go.Fw
open Go Go.Proofs Go.IntWalk
set_option linter.unusedSimpArgs false
set_option maxRecDepth 100000
set_option maxHeartbeats 4000000

/-- A segment of the program's. -/
structure FSg where
  A : FP
  B : FP
def sgC (s : FSg) : List AV := ptC s.A ++ ptC s.B
def sgAV (s : FSg) : AV := .agg (sgC s)
def FSg.at (s : FSg) (l : Rat) : FP := ⟨.of (s.A.x.q + (s.B.x.q - s.A.x.q) * l), .of (s.A.y.q + (s.B.y.q - s.A.y.q) * l)⟩

open List (map_take map_drop)
attribute [local push_cast] optK_some optK_none optK_ite optK_map optK_bind gOn stepK isMem evPure evMem evBin evUn evConv evLen evBuiltin evMinMax evSlice evBuild evAppend evIndex evIndexAddr evField evFieldAddr intBin strBin appDest AS.val AS.mem AS.elems AS.put AS.put' AS.eff AV.cells? AV.isCell AV.refs all_isByte take_byteV drop_byteV strOf_map bndOk bnd partAV ptrAdd killBox catA inOrder fillA setAt ofVal resB upd byteV List.head?_take List.head?_drop List.getElem?_map mkS_env mkS_box mkS_used entry_env entry_box entry_used lk stepD lookIds Oper.looksAt Op.operands Call.operands St.ids refsL renL_append ren renL renBox Box.refs iV i64V boolV dV_getElem dV_app dV_cons toNat_add2 toNat_add1
attribute [local simp ↓] numC_refs numC_isCell numC_cells numC_resB numC_resD numC_ren numC_closeC numC_isOwn
theorem at_ok (s : FSg) (l : FQ) (h : szV s.A + szV s.B ≤ 5000) (hl : szQ l.q ≤ 100000) : Eval Try.prog 44 [sgAV s, ratAV l] (.ret (ptAV (s.at l.q))) := by
  refine Eval.intro Try.func44 rfl Try.call44 _ _ (Nat.le_of_ble_eq_true rfl) (by simp [-map_take,-map_drop, AV.refs, refsL, natAV, zAV, zC, ratAV, ratC, ptAV, ptC, sgAV, sgC, push_cast]) fun hs0 => ?_
  have e1 := ptLess_ok s.B s.A (by omega)
  have s1 := szV_sub s.B s.A
  obtain ⟨u, hu⟩ : ∃ u, u = s.B.sub s.A := ⟨_, rfl⟩
  have hr : s.at l.q = ⟨.of (s.A.x.q + u.x.q * l.q), .of (s.A.y.q + u.y.q * l.q)⟩ := by rw [hu]; rfl
  rw [hr]
  rw [← hu] at e1 s1
  simp only [szV] at s1 h
  have m1 := szQ_mul u.x.q l.q
  have m2 := szQ_mul u.y.q l.q
  have e2 := mulR_ok u.x l (by omega)
  have e3 := mulR_ok u.y l (by omega)
  have e4 := addR_ok s.A.x (.of (u.x.q * l.q)) (by simp only [FQ.of]; omega)
  have e5 := addR_ok s.A.y (.of (u.y.q * l.q)) (by simp only [FQ.of]; omega)
  have h4 : (FQ.of (u.x.q * l.q)).q = u.x.q * l.q := rfl
  have h5 : (FQ.of (u.y.q * l.q)).q = u.y.q * l.q := rfl
  rw [h4] at e4
  rw [h5] at e5
  obtain ⟨a, ha⟩ : ∃ a, a = FQ.of (s.A.x.q + u.x.q * l.q) := ⟨_, rfl⟩
  obtain ⟨b, hb⟩ : ∃ b, b = FQ.of (s.A.y.q + u.y.q * l.q) := ⟨_, rfl⟩
  rw [← ha, ← hb]
  rw [← ha] at e4
  rw [← hb] at e5
  clear ha hb hr hu h4 h5
  repeat' (first
    | with_reducible first | apply thenW_n | apply W_seq
    | with_reducible refine W_region (by first | decide | (with_unfolding_all rfl)) ?_
    | (rw [vcn]; (try simp [-map_take,-map_drop, push_cast, sgAV, sgC, ptAV, ptC, ratAV, ratC, zAV, zC]))
    | fail)
  refine CallG_of (e1) rfl rfl rfl ?_
  try dsimp only
  repeat' (first
    | with_reducible first | apply thenW_n | apply W_seq
    | (rw [vcn]; (try simp [-map_take,-map_drop, push_cast, ptAV, ptC, ratAV, ratC, zAV, zC]))
    | with_reducible refine W_drawn mixed (by decide) (by kernel_rfl) ?_
    | (rw [vcnD]; (try simp [-map_take,-map_drop, push_cast, ptAV, ptC, ratAV, ratC, zAV, zC]))
    | fail)
  refine callD_of (e2) rfl rfl rfl ?_
  try dsimp only
  repeat' (first
    | (rw [vcnD]; (try simp [-map_take,-map_drop, push_cast, ptAV, ptC]))
    | fail)
  refine callD_of (e4) rfl rfl rfl ?_
  try dsimp only
  repeat' (first
    | (rw [vcnD]; (try simp [-map_take,-map_drop, push_cast, ptAV, ptC]))
    | fail)
  refine callD_of (e3) rfl rfl rfl ?_
  try dsimp only
  repeat' (first
    | (rw [vcnD]; (try simp [-map_take,-map_drop, push_cast, ptAV, ptC]))
    | fail)
  refine callD_of (e5) rfl rfl rfl ?_
  try dsimp only
  repeat' (first
    | with_reducible first | apply thenW_n | apply W_ret
    | (rw [vcnD]; (try simp [-map_take,-map_drop, push_cast, ptAV, ptC, ratAV, ratC, zAV, zC]))
    | refine And.intro (by first | omega | kernel_rfl) ?_
    | fail)
  simp [-map_take,-map_drop, post, resAV, resAll, resOne, closeV, closeC, closeL, resD, resDL, push_cast, ptAV, ptC, ratAV, ratC, zAV, zC]

end Go.Fw

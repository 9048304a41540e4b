/- frac: Div, Floor, Near. -/
import Derived.Test.YtbabekaohfcjbaaR4
set_option linter.unusedSimpArgs false
set_option linter.unusedVariables false
-- VALS: zAV, zC, ratAV, ratC
namespace Go.Fw
open Go Go.Proofs Go.IntWalk
set_option linter.unusedSimpArgs false
set_option maxRecDepth 100000
set_option maxHeartbeats 4000000

theorem divQ_eq (a b : Rat) : Rat.divInt (a.num * b.den) (a.den * b.num) = a / b := by
  rw [Rat.div_def, Rat.inv_def]
  have h : a = Rat.divInt a.num a.den := (Rat.num_divInt_den a).symm
  have h2 : a * Rat.divInt b.den b.num = Rat.divInt a.num a.den * Rat.divInt b.den b.num := by rw [← h]
  rw [h2, Rat.divInt_mul_divInt]

open List (map_take map_drop)
attribute [local push_cast] optK_some optK_none optK_ite optK_map optK_bind gOn stepK isMem evPure evMem evBin evUn evConv evLen evBuiltin evMinMax evSlice evBuild evAppend evIndex evIndexAddr evField evFieldAddr intBin strBin appDest AS.val AS.mem AS.elems AS.put AS.put' AS.eff AV.cells? AV.isCell AV.refs all_isByte take_byteV drop_byteV strOf_map bndOk bnd partAV ptrAdd killBox catA inOrder fillA setAt ofVal resB upd byteV List.head?_take List.head?_drop List.getElem?_map mkS_env mkS_box mkS_used entry_env entry_box entry_used lk stepD lookIds Oper.looksAt Op.operands Call.operands St.ids refsL renL_append ren renL renBox Box.refs iV i64V boolV dV_getElem dV_app dV_cons toNat_add2 toNat_add1
attribute [local simp ↓] numC_refs numC_isCell numC_cells numC_resB numC_resD numC_ren numC_closeC numC_isOwn
theorem divR_ok (a b : FQ) (hb : b.q.num ≠ 0) (h : szQ a.q + szQ b.q ≤ 400000) : Eval Try.prog 40 [ratAV a, ratAV b] (.ret (.tup [ratAV (.of (a.q / b.q)), i64V 0])) := by
  refine Eval.intro Try.func40 rfl Try.call40 _ _ (Nat.le_of_ble_eq_true rfl) (by simp [-map_take,-map_drop, AV.refs, refsL, natAV, zAV, zC, ratAV, ratC, push_cast]) fun hs0 => ?_
  have hu : (limbs a.q.num.natAbs).length + (limbs a.q.den).length + ((limbs b.q.num.natAbs).length + (limbs b.q.den).length) ≤ 400000 := h
  have ea := den_ok a (by omega)
  have eb := den_ok b (by omega)
  have h1 := limbs_mulI a.q.num b.q.den
  have h2 := limbs_mulI a.q.den b.q.num
  simp only [Int.natAbs_natCast] at h1 h2
  have em := mulZ_ok a.q.num b.q.den (by simp only [Int.natAbs_natCast]; omega)
  have ed := mulZ_ok a.q.den b.q.num (by simp only [Int.natAbs_natCast]; omega)
  have hne : (a.q.den : Int) * b.q.num ≠ 0 := by
    have := a.q.den_pos
    exact Int.mul_ne_zero (by omega) hb
  have el := make_ok (a.q.num * b.q.den) (a.q.den * b.q.num) hne (by omega)
  rw [divQ_eq] at el
  repeat' (first
    | with_reducible first | apply thenW_n | apply W_seq
    | with_reducible refine W_region (by first | decide | (with_unfolding_all rfl)) ?_
    | (rw [vcn]; (try simp [-map_take,-map_drop, push_cast, ratAV, ratC, zAV, zC]))
    | with_reducible refine W_drawn mixed (by decide) (by kernel_rfl) ?_
    | (rw [vcnD]; (try simp [-map_take,-map_drop, push_cast, ratAV, ratC, zAV, zC]))
    | fail)
  refine callD_of (eb) rfl rfl rfl ?_
  try dsimp only
  repeat' (first
    | (rw [vcnD]; (try simp [-map_take,-map_drop, push_cast, ratAV, ratC]))
    | fail)
  refine callD_of (em) rfl rfl rfl ?_
  try dsimp only
  repeat' (first
    | (rw [vcnD]; (try simp [-map_take,-map_drop, push_cast, ratAV, ratC]))
    | fail)
  refine callD_of (ea) rfl rfl rfl ?_
  try dsimp only
  repeat' (first
    | (rw [vcnD]; (try simp [-map_take,-map_drop, push_cast, ratAV, ratC]))
    | fail)
  refine callD_of (ed) rfl rfl rfl ?_
  try dsimp only
  repeat' (first
    | (rw [vcnD]; (try simp [-map_take,-map_drop, push_cast, ratAV, ratC]))
    | fail)
  refine callD_of (el) rfl rfl rfl ?_
  try dsimp only
  repeat' (first
    | with_reducible first | apply thenW_n | apply W_ret
    | (rw [vcnD]; (try simp [-map_take,-map_drop, push_cast, ratAV, ratC, zAV, zC]))
    | refine And.intro (by first | omega | kernel_rfl) ?_
    | fail)
  simp [-map_take,-map_drop, post, resAV, resAll, resOne, closeV, closeC, closeL, resD, resDL, push_cast, ratAV, ratC, zAV, zC]


/-- The nearest whole number; of two, the even one. -/
def nearQ (q : Rat) : Int :=
  if (q.num * 2 + q.den) % (q.den * 2) = 0 ∧ (q.num * 2 + q.den) / (q.den * 2) % 2 ≠ 0 then (q.num * 2 + q.den) / (q.den * 2) - 1 else (q.num * 2 + q.den) / (q.den * 2)

end Go.Fw

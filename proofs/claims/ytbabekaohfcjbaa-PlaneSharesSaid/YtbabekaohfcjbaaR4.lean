/- frac: Mul, Add, Sub, Cmp: the walks. -/
import Derived.Test.YtbabekaohfcjbaaR3
set_option linter.unusedSimpArgs false
set_option linter.unusedVariables false
-- VALS: zAV, zC, ratAV, ratC
namespace Go.Fw
open Go Go.Proofs Go.IntWalk
set_option linter.unusedSimpArgs false
set_option maxRecDepth 100000
set_option maxHeartbeats 4000000

open List (map_take map_drop)
attribute [local push_cast] optK_some optK_none optK_ite optK_map optK_bind gOn stepK isMem evPure evMem evBin evUn evConv evLen evBuiltin evMinMax evSlice evBuild evAppend evIndex evIndexAddr evField evFieldAddr intBin strBin appDest AS.val AS.mem AS.elems AS.put AS.put' AS.eff AV.cells? AV.isCell AV.refs all_isByte take_byteV drop_byteV strOf_map bndOk bnd partAV ptrAdd killBox catA inOrder fillA setAt ofVal resB upd byteV List.head?_take List.head?_drop List.getElem?_map mkS_env mkS_box mkS_used entry_env entry_box entry_used lk stepD lookIds Oper.looksAt Op.operands Call.operands St.ids refsL renL_append ren renL renBox Box.refs iV i64V boolV dV_getElem dV_app dV_cons toNat_add2 toNat_add1
attribute [local simp ↓] numC_refs numC_isCell numC_cells numC_resB numC_resD numC_ren numC_closeC numC_isOwn
theorem mulR_ok (a b : FQ) (h : szQ a.q + szQ b.q ≤ 400000) : Eval Try.prog 16 [ratAV a, ratAV b] (.ret (ratAV (.of (a.q * b.q)))) := by
  refine Eval.intro Try.func16 rfl Try.call16 _ _ (Nat.le_of_ble_eq_true rfl) (by simp [-map_take,-map_drop, AV.refs, refsL, natAV, zAV, zC, ratAV, ratC, push_cast]) fun hs0 => ?_
  have hu : (limbs a.q.num.natAbs).length + (limbs a.q.den).length + ((limbs b.q.num.natAbs).length + (limbs b.q.den).length) ≤ 400000 := h
  have ea := den_ok a (by omega)
  have eb := den_ok b (by omega)
  have h1 := limbs_mulI a.q.num b.q.num
  have h2 := limbs_mulI a.q.den b.q.den
  simp only [Int.natAbs_natCast] at h2
  have em := mulZ_ok a.q.num b.q.num (by omega)
  have ed := mulZ_ok a.q.den b.q.den (by simp only [Int.natAbs_natCast]; omega)
  have el := lowest_ok (a.q.num * b.q.num) (a.q.den * b.q.den) (den_mul_ne _ _) (by omega)
  rw [mulQ_eq] at el
  repeat' (first
    | with_reducible first | apply thenW_n | apply W_seq
    | with_reducible refine W_region (by first | decide | (with_unfolding_all rfl)) ?_
    | (rw [vcn]; (try simp [-map_take,-map_drop, push_cast, ratAV, ratC, zAV, zC]))
    | with_reducible refine W_drawn mixed (by decide) (by kernel_rfl) ?_
    | (rw [vcnD]; (try simp [-map_take,-map_drop, push_cast, ratAV, ratC, zAV, zC]))
    | fail)
  refine callD_of (em) rfl rfl rfl ?_
  try dsimp only
  repeat' (first
    | (rw [vcnD]; (try simp [-map_take,-map_drop, push_cast, ratAV, ratC, zAV, zC]))
    | fail)
  refine callD_of (ea) rfl rfl rfl ?_
  try dsimp only
  repeat' (first
    | (rw [vcnD]; (try simp [-map_take,-map_drop, push_cast, ratAV, ratC]))
    | fail)
  refine callD_of (eb) rfl rfl rfl ?_
  try dsimp only
  repeat' (first
    | (rw [vcnD]; (try simp [-map_take,-map_drop, push_cast, ratAV, ratC]))
    | fail)
  refine callD_of (ed) rfl rfl rfl ?_
  try dsimp only
  repeat' (first
    | (rw [vcnD]; (try simp [-map_take,-map_drop, push_cast, ratAV, ratC]))
    | fail)
  refine callD_of (el) rfl rfl rfl ?_
  try dsimp only
  repeat' (first
    | with_reducible first | apply thenW_n | apply W_ret
    | (rw [vcnD]; (try simp [-map_take,-map_drop, push_cast, ratAV, ratC, zAV, zC]))
    | refine And.intro (by first | omega | kernel_rfl) ?_
    | fail)
  simp [-map_take,-map_drop, post, resAV, resAll, resOne, closeV, closeC, closeL, resD, resDL, push_cast, ratAV, ratC, zAV, zC]

theorem addR_ok (a b : FQ) (h : szQ a.q + szQ b.q ≤ 200000) : Eval Try.prog 14 [ratAV a, ratAV b] (.ret (ratAV (.of (a.q + b.q)))) := by
  refine Eval.intro Try.func14 rfl Try.call14 _ _ (Nat.le_of_ble_eq_true rfl) (by simp [-map_take,-map_drop, AV.refs, refsL, natAV, zAV, zC, ratAV, ratC, push_cast]) fun hs0 => ?_
  have hu : (limbs a.q.num.natAbs).length + (limbs a.q.den).length + ((limbs b.q.num.natAbs).length + (limbs b.q.den).length) ≤ 200000 := h
  have ea := den_ok a (by omega)
  have eb := den_ok b (by omega)
  have h1 := limbs_mulI a.q.num b.q.den
  have h2 := limbs_mulI b.q.num a.q.den
  have h3 := limbs_mulI a.q.den b.q.den
  have h4 := limbs_addI (a.q.num * b.q.den) (b.q.num * a.q.den)
  simp only [Int.natAbs_natCast] at h1 h2 h3
  have em := mulZ_ok a.q.num b.q.den (by simp only [Int.natAbs_natCast]; omega)
  have en := mulZ_ok b.q.num a.q.den (by simp only [Int.natAbs_natCast]; omega)
  have ed := mulZ_ok a.q.den b.q.den (by simp only [Int.natAbs_natCast]; omega)
  have es := addZ_ok (a.q.num * b.q.den) (b.q.num * a.q.den) (by omega)
  have el := lowest_ok (a.q.num * b.q.den + b.q.num * a.q.den) (a.q.den * b.q.den) (den_mul_ne _ _) (by omega)
  rw [addQ_eq] at el
  repeat' (first
    | with_reducible first | apply thenW_n | apply W_seq
    | with_reducible refine W_region (by first | decide | (with_unfolding_all rfl)) ?_
    | (rw [vcn]; (try simp [-map_take,-map_drop, push_cast, ratAV, ratC, zAV, zC]))
    | with_reducible refine W_drawn mixed (by decide) (by kernel_rfl) ?_
    | (rw [vcnD]; (try simp [-map_take,-map_drop, push_cast, ratAV, ratC, zAV, zC]))
    | fail)
  refine callD_of (eb) rfl rfl rfl ?_
  try dsimp only
  repeat' (first
    | (rw [vcnD]; (try simp [-map_take,-map_drop, push_cast, ratAV, ratC]))
    | fail)
  refine callD_of (em) rfl rfl rfl ?_
  try dsimp only
  repeat' (first
    | (rw [vcnD]; (try simp [-map_take,-map_drop, push_cast, ratAV, ratC]))
    | fail)
  refine callD_of (ea) rfl rfl rfl ?_
  try dsimp only
  repeat' (first
    | (rw [vcnD]; (try simp [-map_take,-map_drop, push_cast, ratAV, ratC]))
    | fail)
  refine callD_of (en) rfl rfl rfl ?_
  try dsimp only
  repeat' (first
    | (rw [vcnD]; (try simp [-map_take,-map_drop, push_cast, ratAV, ratC]))
    | fail)
  refine callD_of (es) rfl rfl rfl ?_
  try dsimp only
  repeat' (first
    | (rw [vcnD]; (try simp [-map_take,-map_drop, push_cast, ratAV, ratC]))
    | fail)
  refine callD_of (ea) rfl rfl rfl ?_
  try dsimp only
  repeat' (first
    | (rw [vcnD]; (try simp [-map_take,-map_drop, push_cast, ratAV, ratC]))
    | fail)
  refine callD_of (eb) rfl rfl rfl ?_
  try dsimp only
  repeat' (first
    | (rw [vcnD]; (try simp [-map_take,-map_drop, push_cast, ratAV, ratC]))
    | fail)
  refine callD_of (ed) rfl rfl rfl ?_
  try dsimp only
  repeat' (first
    | (rw [vcnD]; (try simp [-map_take,-map_drop, push_cast, ratAV, ratC]))
    | fail)
  refine callD_of (el) rfl rfl rfl ?_
  try dsimp only
  repeat' (first
    | with_reducible first | apply thenW_n | apply W_ret
    | (rw [vcnD]; (try simp [-map_take,-map_drop, push_cast, ratAV, ratC, zAV, zC]))
    | refine And.intro (by first | omega | kernel_rfl) ?_
    | fail)
  simp [-map_take,-map_drop, post, resAV, resAll, resOne, closeV, closeC, closeL, resD, resDL, push_cast, ratAV, ratC, zAV, zC]

theorem subR_ok (a b : FQ) (h : szQ a.q + szQ b.q ≤ 200000) : Eval Try.prog 15 [ratAV a, ratAV b] (.ret (ratAV (.of (a.q - b.q)))) := by
  refine Eval.intro Try.func15 rfl Try.call15 _ _ (Nat.le_of_ble_eq_true rfl) (by simp [-map_take,-map_drop, AV.refs, refsL, natAV, zAV, zC, ratAV, ratC, push_cast]) fun hs0 => ?_
  have en := negR_ok b (by omega)
  have hs : szQ b.neg.q = szQ b.q := szQ_neg b.q
  have ea := addR_ok a b.neg (by omega)
  have hq : a.q + b.neg.q = a.q - b.q := (Rat.sub_eq_add_neg _ _).symm
  rw [hq] at ea
  repeat' (first
    | with_reducible first | apply thenW_n | apply W_seq
    | with_reducible refine W_region (by first | decide | (with_unfolding_all rfl)) ?_
    | (rw [vcn]; (try simp [-map_take,-map_drop, push_cast, ratAV, ratC, zAV, zC]))
    | with_reducible refine W_drawn mixed (by decide) (by kernel_rfl) ?_
    | (rw [vcnD]; (try simp [-map_take,-map_drop, push_cast, ratAV, ratC, zAV, zC]))
    | fail)
  refine callD_of (en) rfl rfl rfl ?_
  try dsimp only
  repeat' (first
    | (rw [vcnD]; (try simp [-map_take,-map_drop, push_cast, ratAV, ratC, zAV, zC]))
    | fail)
  refine callD_of (ea) rfl rfl rfl ?_
  try dsimp only
  repeat' (first
    | with_reducible first | apply thenW_n | apply W_ret
    | (rw [vcnD]; (try simp [-map_take,-map_drop, push_cast, ratAV, ratC, zAV, zC]))
    | refine And.intro (by first | omega | kernel_rfl) ?_
    | fail)
  simp [-map_take,-map_drop, post, resAV, resAll, resOne, closeV, closeC, closeL, resD, resDL, push_cast, ratAV, ratC, zAV, zC]

theorem cmpR_ok (a b : FQ) (h : szQ a.q + szQ b.q ≤ 200000) : Eval Try.prog 43 [ratAV a, ratAV b] (.ret (i64V (cmpZ (a.q.num * b.q.den) (b.q.num * a.q.den)))) := by
  refine Eval.intro Try.func43 rfl Try.call43 _ _ (Nat.le_of_ble_eq_true rfl) (by simp [-map_take,-map_drop, AV.refs, refsL, natAV, zAV, zC, ratAV, ratC, push_cast]) fun hs0 => ?_
  have hu : (limbs a.q.num.natAbs).length + (limbs a.q.den).length + ((limbs b.q.num.natAbs).length + (limbs b.q.den).length) ≤ 200000 := h
  have ea := den_ok a (by omega)
  have eb := den_ok b (by omega)
  have em := mulZ_ok a.q.num b.q.den (by simp only [Int.natAbs_natCast]; omega)
  have en := mulZ_ok b.q.num a.q.den (by simp only [Int.natAbs_natCast]; omega)
  have ec := cmpZ_ok (a.q.num * b.q.den) (b.q.num * a.q.den)
  repeat' (first
    | with_reducible first | apply thenW_n | apply W_seq
    | with_reducible refine W_region (by first | decide | (with_unfolding_all rfl)) ?_
    | (rw [vcn]; (try simp [-map_take,-map_drop, push_cast, ratAV, ratC, zAV, zC]))
    | with_reducible refine W_drawn mixed (by decide) (by kernel_rfl) ?_
    | (rw [vcnD]; (try simp [-map_take,-map_drop, push_cast, ratAV, ratC, zAV, zC]))
    | fail)
  refine callD_of (eb) rfl rfl rfl ?_
  try dsimp only
  repeat' (first
    | (rw [vcnD]; (try simp [-map_take,-map_drop, push_cast, ratAV, ratC]))
    | fail)
  refine callD_of (em) rfl rfl rfl ?_
  try dsimp only
  repeat' (first
    | (rw [vcnD]; (try simp [-map_take,-map_drop, push_cast, ratAV, ratC]))
    | fail)
  refine callD_of (ea) rfl rfl rfl ?_
  try dsimp only
  repeat' (first
    | (rw [vcnD]; (try simp [-map_take,-map_drop, push_cast, ratAV, ratC]))
    | fail)
  refine callD_of (en) rfl rfl rfl ?_
  try dsimp only
  repeat' (first
    | (rw [vcnD]; (try simp [-map_take,-map_drop, push_cast, ratAV, ratC]))
    | fail)
  refine callD_of (ec) rfl rfl rfl ?_
  try dsimp only
  repeat' (first
    | with_reducible first | apply thenW_n | apply W_ret
    | (rw [vcnD]; (try simp [-map_take,-map_drop, push_cast, ratAV, ratC, zAV, zC]))
    | refine And.intro (by first | omega | kernel_rfl) ?_
    | fail)
  simp [-map_take,-map_drop, post, resAV, resAll, resOne, closeV, closeC, closeL, resD, resDL, push_cast, ratAV, ratC, zAV, zC]
end Go.Fw

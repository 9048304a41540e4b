/- plane: Clip. -/
import Derived.Test.YtjaohdeicocgnaaU1
import Derived.Test.YtjaohdeicocgnaaR13
import Derived.Test.YtjaohdeicocgnaaPt
set_option linter.unusedSimpArgs false
set_option linter.unusedVariables false
-- VALS: zAV, zC, ratAV, ratC, ptAV, ptC, sgAV, sgC
namespace Go.Fw
open Go Go.Proofs Go.IntWalk
set_option linter.unusedSimpArgs false
set_option maxRecDepth 100000
set_option maxHeartbeats 8000000

theorem szQ_inv (a : Rat) : szQ a⁻¹ ≤ szQ a + 1 := by
  unfold szQ
  rw [Rat.num_inv, Rat.den_inv]
  have h1 : (a.num.sign * (a.den : Int)).natAbs ≤ a.den := by
    rw [Int.natAbs_mul, Int.natAbs_natCast]
    have h2 : (a.num.sign).natAbs ≤ 1 := by rw [Int.natAbs_sign]; split <;> omega
    have := Nat.mul_le_mul_right a.den h2
    omega
  have h3 := limbs_le h1
  split
  · have h4 : (limbs 1).length = 1 := by decide
    omega
  · omega
theorem ptsC_snoc (l : List FP) (p : FP) : ptsC (l ++ [p]) = ptsC l ++ ptC p := by simp [ptsC]
theorem sign_ge (q : Rat) : (0 ≤ q.num.sign) ↔ 0 ≤ q := by
  rw [sign_num]
  split
  · rename_i h; constructor
    · intro k; omega
    · intro k; grind
  · rename_i h
    constructor
    · intro _; grind
    · intro _; split <;> omega
theorem sign_mul_neg (a c : Rat) : a.num.sign * c.num.sign < 0 ↔ a * c < 0 := by
  rw [sign_num, sign_num]
  by_cases h1 : a < 0
  · rw [if_pos h1]
    by_cases h2 : c < 0
    · rw [if_pos h2]
      have := Rat.mul_pos (a := -a) (b := -c) (by grind) (by grind)
      constructor
      · intro k; omega
      · intro k; grind
    · rw [if_neg h2]
      by_cases h3 : 0 < c
      · rw [if_pos h3]
        have := Rat.mul_pos (a := -a) (b := c) (by grind) h3
        constructor
        · intro _; grind
        · intro _; omega
      · rw [if_neg h3]
        have : c = 0 := by grind
        subst this
        constructor
        · intro k; omega
        · intro k; grind
  · rw [if_neg h1]
    by_cases h0 : 0 < a
    · rw [if_pos h0]
      by_cases h2 : c < 0
      · rw [if_pos h2]
        have := Rat.mul_pos (a := a) (b := -c) h0 (by grind)
        constructor
        · intro _; grind
        · intro _; omega
      · rw [if_neg h2]
        by_cases h3 : 0 < c
        · rw [if_pos h3]
          have := Rat.mul_pos h0 h3
          constructor
          · intro k; omega
          · intro k; grind
        · rw [if_neg h3]
          have : c = 0 := by grind
          subst this
          constructor
          · intro k; omega
          · intro k; grind
    · rw [if_neg h0]
      have : a = 0 := by grind
      subst this
      constructor
      · intro k; omega
      · intro k; grind

open List (map_take map_drop)
attribute [local push_cast] optK_some optK_none optK_ite optK_map optK_bind gOn stepK isMem evPure evMem evBin evUn evConv evLen evBuiltin evMinMax evSlice evBuild evAppend evIndex evIndexAddr evField evFieldAddr intBin strBin appDest AS.val AS.mem AS.elems AS.put AS.put' AS.eff AV.cells? AV.isCell AV.refs all_isByte take_byteV drop_byteV strOf_map bndOk bnd partAV ptrAdd killBox catA inOrder fillA setAt ofVal resB upd byteV List.head?_take List.head?_drop List.getElem?_map mkS_env mkS_box mkS_used entry_env entry_box entry_used lk stepD lookIds Oper.looksAt Op.operands Call.operands St.ids refsL renL_append ren renL renBox Box.refs iV i64V boolV dV_getElem dV_app dV_cons toNat_add2 toNat_add1
attribute [local simp ↓] numC_refs numC_isCell numC_cells numC_resB numC_resD numC_ren numC_closeC numC_isOwn
end Go.Fw

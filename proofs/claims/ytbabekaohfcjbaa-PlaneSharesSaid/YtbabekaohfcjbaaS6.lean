/- reach.Square; weighted points (plain). -/
import Derived.Test.YtbabekaohfcjbaaR12
import Derived.Test.YtbabekaohfcjbaaSn
set_option linter.unusedSimpArgs false
set_option linter.unusedVariables false
-- VALS: zAV, zC, ratAV, ratC, ptAV, ptC, sgAV, sgC
namespace Go.Fw
open Go Go.Proofs Go.IntWalk
set_option linter.unusedSimpArgs false
set_option maxRecDepth 100000
set_option maxHeartbeats 4000000

def sqP (p q : FP) : Rat := (q.x.q - p.x.q) * (q.x.q - p.x.q) + (q.y.q - p.y.q) * (q.y.q - p.y.q)
open List (map_take map_drop)
attribute [local push_cast] optK_some optK_none optK_ite optK_map optK_bind gOn stepK isMem evPure evMem evBin evUn evConv evLen evBuiltin evMinMax evSlice evBuild evAppend evIndex evIndexAddr evField evFieldAddr intBin strBin appDest AS.val AS.mem AS.elems AS.put AS.put' AS.eff AV.cells? AV.isCell AV.refs all_isByte take_byteV drop_byteV strOf_map bndOk bnd partAV ptrAdd killBox catA inOrder fillA setAt ofVal resB upd byteV List.head?_take List.head?_drop List.getElem?_map mkS_env mkS_box mkS_used entry_env entry_box entry_used lk stepD lookIds Oper.looksAt Op.operands Call.operands St.ids refsL renL_append ren renL renBox Box.refs iV i64V boolV dV_getElem dV_app dV_cons toNat_add2 toNat_add1
attribute [local simp ↓] numC_refs numC_isCell numC_cells numC_resB numC_resD numC_ren numC_closeC numC_isOwn

def FP.zero : FP := ⟨FQ.zero, FQ.zero⟩
def accP (f : Nat → FP) (w : Nat → Rat) : Nat → FP
  | 0 => FP.zero
  | i + 1 => ⟨.of ((accP f w i).x.q + (f i).x.q * w i), .of ((accP f w i).y.q + (f i).y.q * w i)⟩
theorem acc_sz (f : Nat → FP) (w : Nat → Rat) (hf : ∀ j, szV (f j) ≤ 20) (hw : ∀ j, szQ (w j) ≤ 4) : ∀ i, szV (accP f w i) + 58 ≤ 60 * 2 ^ i
  | 0 => by
    have h : szV FP.zero = 2 := by kernel_rfl
    show szV FP.zero + 58 ≤ 60 * 2 ^ 0
    omega
  | i + 1 => by
    have ih := acc_sz f w hf hw i
    have h1 := szQ_add (accP f w i).x.q ((f i).x.q * w i)
    have h2 := szQ_add (accP f w i).y.q ((f i).y.q * w i)
    have h3 := szQ_mul (f i).x.q (w i)
    have h4 := szQ_mul (f i).y.q (w i)
    have h5 := hf i
    have h6 := hw i
    have h7 : szV (accP f w (i + 1)) = szQ ((accP f w i).x.q + (f i).x.q * w i) + szQ ((accP f w i).y.q + (f i).y.q * w i) := rfl
    unfold szV at ih h5
    rw [h7, Nat.pow_succ]
    omega

theorem half_sq {x : Rat} (h1 : 2 * x ≤ 1) (h2 : -1 ≤ 2 * x) : 4 * (x * x) ≤ 1 := by
  have := Rat.mul_nonneg (a := 1 - 2 * x) (b := 1 + 2 * x) (by grind) (by grind)
  grind
theorem weigh {a b : Rat} {w : Rat} (hw : 0 ≤ w) (h1 : 2 * (b - a) ≤ 1) (h2 : -1 ≤ 2 * (b - a)) : 2 * (b * w - a * w) ≤ w ∧ -w ≤ 2 * (b * w - a * w) := by
  have k1 := Rat.mul_nonneg (a := 1 - 2 * (b - a)) (b := w) (by grind) hw
  have k2 := Rat.mul_nonneg (a := 1 + 2 * (b - a)) (b := w) (by grind) hw
  constructor <;> grind

/-- Points that are moved by at most a half in each way, with the same weights. -/
theorem acc_near (f g : Nat → FP) (w : Nat → Rat) (hw : ∀ i, 0 ≤ w i) (hs : w 0 + w 1 + w 2 = 1)
    (hx : ∀ i, 2 * ((g i).x.q - (f i).x.q) ≤ 1 ∧ -1 ≤ 2 * ((g i).x.q - (f i).x.q)) (hy : ∀ i, 2 * ((g i).y.q - (f i).y.q) ≤ 1 ∧ -1 ≤ 2 * ((g i).y.q - (f i).y.q)) :
    2 * sqP (accP f w 3) (accP g w 3) ≤ 1 := by
  have x0 := weigh (hw 0) (hx 0).1 (hx 0).2
  have x1 := weigh (hw 1) (hx 1).1 (hx 1).2
  have x2 := weigh (hw 2) (hx 2).1 (hx 2).2
  have y0 := weigh (hw 0) (hy 0).1 (hy 0).2
  have y1 := weigh (hw 1) (hy 1).1 (hy 1).2
  have y2 := weigh (hw 2) (hy 2).1 (hy 2).2
  have ex : (accP g w 3).x.q - (accP f w 3).x.q = ((g 0).x.q * w 0 - (f 0).x.q * w 0) + ((g 1).x.q * w 1 - (f 1).x.q * w 1) + ((g 2).x.q * w 2 - (f 2).x.q * w 2) := by
    show (0 + (g 0).x.q * w 0 + (g 1).x.q * w 1 + (g 2).x.q * w 2) - (0 + (f 0).x.q * w 0 + (f 1).x.q * w 1 + (f 2).x.q * w 2) = _
    grind
  have ey : (accP g w 3).y.q - (accP f w 3).y.q = ((g 0).y.q * w 0 - (f 0).y.q * w 0) + ((g 1).y.q * w 1 - (f 1).y.q * w 1) + ((g 2).y.q * w 2 - (f 2).y.q * w 2) := by
    show (0 + (g 0).y.q * w 0 + (g 1).y.q * w 1 + (g 2).y.q * w 2) - (0 + (f 0).y.q * w 0 + (f 1).y.q * w 1 + (f 2).y.q * w 2) = _
    grind
  unfold sqP
  rw [ex, ey]
  generalize (g 0).x.q * w 0 - (f 0).x.q * w 0 = a0 at *
  generalize (g 1).x.q * w 1 - (f 1).x.q * w 1 = a1 at *
  generalize (g 2).x.q * w 2 - (f 2).x.q * w 2 = a2 at *
  generalize (g 0).y.q * w 0 - (f 0).y.q * w 0 = b0 at *
  generalize (g 1).y.q * w 1 - (f 1).y.q * w 1 = b1 at *
  generalize (g 2).y.q * w 2 - (f 2).y.q * w 2 = b2 at *
  have h1 := half_sq (x := a0 + a1 + a2) (by grind) (by grind)
  have h2 := half_sq (x := b0 + b1 + b2) (by grind) (by grind)
  grind
end Go.Fw

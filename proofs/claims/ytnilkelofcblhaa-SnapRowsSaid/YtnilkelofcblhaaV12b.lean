import Derived.Test.YtnilkelofcblhaaV1b
set_option linter.unusedSimpArgs false
set_option linter.unusedVariables false
/- The document's points (11): mul, sub, add, less, Side. -/
-- VALS: rAV, rC, dAV, dC, d3AV, d3C
namespace Go.Fw
open Go Go.Proofs Go.IntWalk
set_option linter.unusedSimpArgs false
set_option maxRecDepth 100000
set_option maxHeartbeats 20000000

/-- How many digits of 10000 it has. -/
def szD (z : Int) : Nat := (tens z.natAbs).length
theorem szD_mul (a b : Int) : szD (a * b) ≤ szD a + szD b := by
  unfold szD
  rw [Int.natAbs_mul]
  refine tens_len ?_
  rw [Nat.pow_add]
  exact Nat.mul_lt_mul'' (tens_lt_pow _) (tens_lt_pow _)
theorem szD_add (a b : Int) : szD (a + b) ≤ szD a + szD b + 1 := by
  unfold szD
  exact Nat.le_trans (tens_mono (Int.natAbs_add_le a b)) (tens_add_len _ _)
theorem szD_sub (a b : Int) : szD (a - b) ≤ szD a + szD b + 1 := by
  have h := szD_add a (-b)
  rw [← Int.sub_eq_add_neg] at h
  have e : szD (-b) = szD b := by unfold szD; rw [Int.natAbs_neg]
  omega
/-- A document's point. -/
structure DP where
  x : Int
  y : Int
  w : Int
def DP.av (p : DP) : AV := d3AV p.x p.y p.w
def szP3 (p : DP) : Nat := szD p.x + szD p.y + szD p.w
/-- The way from one to another one, by both denominators. -/
def lessX (a b : DP) : Int := b.x * a.w - a.x * b.w
def lessY (a b : DP) : Int := b.y * a.w - a.y * b.w
theorem sz_lessX (a b : DP) : szD (lessX a b) ≤ szP3 a + szP3 b + (szP3 a + szP3 b) + 1 := by
  have h1 := szD_mul b.x a.w
  have h2 := szD_mul a.x b.w
  have h3 := szD_sub (b.x * a.w) (a.x * b.w)
  unfold lessX szP3
  omega
theorem sz_lessY (a b : DP) : szD (lessY a b) ≤ szP3 a + szP3 b + (szP3 a + szP3 b) + 1 := by
  have h1 := szD_mul b.y a.w
  have h2 := szD_mul a.y b.w
  have h3 := szD_sub (b.y * a.w) (a.y * b.w)
  unfold lessY szP3
  omega

open List (map_take map_drop)
attribute [local push_cast] optK_some optK_none optK_ite optK_map optK_bind gOn stepK isMem evPure evMem evBin evUn evConv evLen evBuiltin evMinMax evSlice evBuild evAppend evIndex evIndexAddr evField evFieldAddr intBin strBin appDest AS.val AS.mem AS.elems AS.put AS.put' AS.eff AV.cells? AV.isCell AV.refs all_isByte take_byteV drop_byteV strOf_map bndOk bnd partAV ptrAdd killBox catA inOrder fillA setAt ofVal resB upd byteV List.head?_take List.head?_drop List.getElem?_map mkS_env mkS_box mkS_used entry_env entry_box entry_used lk stepD lookIds Oper.looksAt Op.operands Call.operands St.ids refsL renL_append ren renL renBox Box.refs iV i64V boolV dV_getElem dV_app dV_cons toNat_add2 toNat_add1
attribute [local simp ↓] numC_refs numC_isCell numC_cells numC_resB numC_resD numC_ren numC_closeC numC_isOwn




end Go.Fw

/- The document's points (11): Times, Cross, Cmp, Of, On. -/
-- VALS: rAV, rC, dAV, dC, d3AV, d3C
namespace Go.Fw
open Go Go.Proofs Go.IntWalk
set_option linter.unusedSimpArgs false
set_option maxRecDepth 100000
set_option maxHeartbeats 20000000

def ratD (n d : Int) : AV := .agg (dC n ++ dC d)
def denW (a b c : DP) : Int := (a.w * a.w) * (b.w * c.w)

open List (map_take map_drop)
attribute [local push_cast] optK_some optK_none optK_ite optK_map optK_bind gOn stepK isMem evPure evMem evBin evUn evConv evLen evBuiltin evMinMax evSlice evBuild evAppend evIndex evIndexAddr evField evFieldAddr intBin strBin appDest AS.val AS.mem AS.elems AS.put AS.put' AS.eff AV.cells? AV.isCell AV.refs all_isByte take_byteV drop_byteV strOf_map bndOk bnd partAV ptrAdd killBox catA inOrder fillA setAt ofVal resB upd byteV List.head?_take List.head?_drop List.getElem?_map mkS_env mkS_box mkS_used entry_env entry_box entry_used lk stepD lookIds Oper.looksAt Op.operands Call.operands St.ids refsL renL_append ren renL renBox Box.refs iV i64V boolV dV_getElem dV_app dV_cons toNat_add2 toNat_add1
attribute [local simp ↓] numC_refs numC_isCell numC_cells numC_resB numC_resD numC_ren numC_closeC numC_isOwn

end Go.Fw

/- The document's points (11): Cmp, On. -/
-- VALS: rAV, rC, dAV, dC, d3AV, d3C
namespace Go.Fw
open Go Go.Proofs Go.IntWalk
set_option linter.unusedSimpArgs false
set_option maxRecDepth 100000
set_option maxHeartbeats 20000000

def cmp3 (p q : DP) : Int := if cmpZ (p.x * q.w) (q.x * p.w) ≠ 0 then cmpZ (p.x * q.w) (q.x * p.w) else cmpZ (p.y * q.w) (q.y * p.w)
/-- A document's segment. -/
def DP.av2 (a b : DP) : AV := .agg (d3C a.x a.y a.w ++ d3C b.x b.y b.w)
def timesN (a b c : DP) : Int := lessX a b * lessX a c + lessY a b * lessY a c
def on3 (a b p : DP) : Bool := (cmpZ (lessX a b * lessY a p) (lessY a b * lessX a p) == 0) && decide ((timesN p a b).sign ≤ 0)

open List (map_take map_drop)
attribute [local push_cast] optK_some optK_none optK_ite optK_map optK_bind gOn stepK isMem evPure evMem evBin evUn evConv evLen evBuiltin evMinMax evSlice evBuild evAppend evIndex evIndexAddr evField evFieldAddr intBin strBin appDest AS.val AS.mem AS.elems AS.put AS.put' AS.eff AV.cells? AV.isCell AV.refs all_isByte take_byteV drop_byteV strOf_map bndOk bnd partAV ptrAdd killBox catA inOrder fillA setAt ofVal resB upd byteV List.head?_take List.head?_drop List.getElem?_map mkS_env mkS_box mkS_used entry_env entry_box entry_used lk stepD lookIds Oper.looksAt Op.operands Call.operands St.ids refsL renL_append ren renL renBox Box.refs iV i64V boolV dV_getElem dV_app dV_cons toNat_add2 toNat_add1
attribute [local simp ↓] numC_refs numC_isCell numC_cells numC_resB numC_resD numC_ren numC_closeC numC_isOwn

end Go.Fw

/- The document's lines (11): line, parallel. -/
-- VALS: rAV, rC, dAV, dC, d3AV, d3C
namespace Go.Fw
open Go Go.Proofs Go.IntWalk
set_option linter.unusedSimpArgs false
set_option maxRecDepth 100000
set_option maxHeartbeats 20000000

def lineA (a b : DP) : Int := a.y * b.w - b.y * a.w
def lineB (a b : DP) : Int := b.x * a.w - a.x * b.w
def lineC (a b : DP) : Int := b.x * a.y - a.x * b.y

open List (map_take map_drop)
attribute [local push_cast] optK_some optK_none optK_ite optK_map optK_bind gOn stepK isMem evPure evMem evBin evUn evConv evLen evBuiltin evMinMax evSlice evBuild evAppend evIndex evIndexAddr evField evFieldAddr intBin strBin appDest AS.val AS.mem AS.elems AS.put AS.put' AS.eff AV.cells? AV.isCell AV.refs all_isByte take_byteV drop_byteV strOf_map bndOk bnd partAV ptrAdd killBox catA inOrder fillA setAt ofVal resB upd byteV List.head?_take List.head?_drop List.getElem?_map mkS_env mkS_box mkS_used entry_env entry_box entry_used lk stepD lookIds Oper.looksAt Op.operands Call.operands St.ids refsL renL_append ren renL renBox Box.refs iV i64V boolV dV_getElem dV_app dV_cons toNat_add2 toNat_add1
attribute [local simp ↓] numC_refs numC_isCell numC_cells numC_resB numC_resD numC_ren numC_closeC numC_isOwn
end Go.Fw

/- The document's lines (11): parallel, Crossing. -/
-- VALS: rAV, rC, dAV, dC, d3AV, d3C
namespace Go.Fw
open Go Go.Proofs Go.IntWalk
set_option linter.unusedSimpArgs false
set_option maxRecDepth 100000
set_option maxHeartbeats 20000000

theorem sz_line (a b : DP) : szD (lineA a b) ≤ 2 * (szP3 a + szP3 b) + 1 ∧ szD (lineB a b) ≤ 2 * (szP3 a + szP3 b) + 1 ∧ szD (lineC a b) ≤ 2 * (szP3 a + szP3 b) + 1 := by
  have z1 := szD_mul a.y b.w
  have z2 := szD_mul b.y a.w
  have z3 := szD_mul b.x a.w
  have z4 := szD_mul a.x b.w
  have z5 := szD_mul b.x a.y
  have z6 := szD_mul a.x b.y
  have y1 := szD_sub (a.y * b.w) (b.y * a.w)
  have y2 := szD_sub (b.x * a.w) (a.x * b.w)
  have y3 := szD_sub (b.x * a.y) (a.x * b.y)
  unfold lineA lineB lineC szP3
  omega
def parB (a b c d : DP) : Bool := cmpZ (lineA a b * lineB c d) (lineB a b * lineA c d) == 0
def crW (a b c d : DP) : Int := lineA a b * lineB c d - lineB a b * lineA c d
def crX (a b c d : DP) : Int := lineC a b * lineB c d - lineB a b * lineC c d
def crY (a b c d : DP) : Int := lineA a b * lineC c d - lineC a b * lineA c d
def crossP (a b c d : DP) : DP := if (crW a b c d).sign < 0 then ⟨-crX a b c d, -crY a b c d, -crW a b c d⟩ else ⟨crX a b c d, crY a b c d, crW a b c d⟩

open List (map_take map_drop)
attribute [local push_cast] optK_some optK_none optK_ite optK_map optK_bind gOn stepK isMem evPure evMem evBin evUn evConv evLen evBuiltin evMinMax evSlice evBuild evAppend evIndex evIndexAddr evField evFieldAddr intBin strBin appDest AS.val AS.mem AS.elems AS.put AS.put' AS.eff AV.cells? AV.isCell AV.refs all_isByte take_byteV drop_byteV strOf_map bndOk bnd partAV ptrAdd killBox catA inOrder fillA setAt ofVal resB upd byteV List.head?_take List.head?_drop List.getElem?_map mkS_env mkS_box mkS_used entry_env entry_box entry_used lk stepD lookIds Oper.looksAt Op.operands Call.operands St.ids refsL renL_append ren renL renBox Box.refs iV i64V boolV dV_getElem dV_app dV_cons toNat_add2 toNat_add1
attribute [local simp ↓] numC_refs numC_isCell numC_cells numC_resB numC_resD numC_ren numC_closeC numC_isOwn

end Go.Fw

import Derived.Test.YtnilkelofcblhaaR1b
set_option linter.unusedSimpArgs false
set_option linter.unusedVariables false
/- plane: less, Cross, Dot, Side, Grid. -/
-- VALS: zAV, zC, ratAV, ratC, ptAV, ptC
namespace Go.Fw
open Go Go.Proofs Go.IntWalk
set_option linter.unusedSimpArgs false
set_option maxRecDepth 100000
set_option maxHeartbeats 4000000

/-- A point of the program's. -/
structure FP where
  x : FQ
  y : FQ
def ptC (p : FP) : List AV := ratC p.x ++ ratC p.y
def ptAV (p : FP) : AV := .agg (ptC p)
def szV (p : FP) : Nat := szQ p.x.q + szQ p.y.q
def FP.sub (p q : FP) : FP := ⟨.of (p.x.q - q.x.q), .of (p.y.q - q.y.q)⟩

theorem szQ_sub (a b : Rat) : szQ (a - b) ≤ 2 * (szQ a + szQ b) + 1 := by
  rw [Rat.sub_eq_add_neg]
  have := szQ_add a (-b)
  rw [szQ_neg] at this
  exact this
theorem szV_sub (p q : FP) : szV (p.sub q) ≤ 2 * (szV p + szV q) + 2 := by
  have := szQ_sub p.x.q q.x.q
  have := szQ_sub p.y.q q.y.q
  show szQ (p.x.q - q.x.q) + szQ (p.y.q - q.y.q) ≤ _
  unfold szV; omega

open List (map_take map_drop)
attribute [local push_cast] optK_some optK_none optK_ite optK_map optK_bind gOn stepK isMem evPure evMem evBin evUn evConv evLen evBuiltin evMinMax evSlice evBuild evAppend evIndex evIndexAddr evField evFieldAddr intBin strBin appDest AS.val AS.mem AS.elems AS.put AS.put' AS.eff AV.cells? AV.isCell AV.refs all_isByte take_byteV drop_byteV strOf_map bndOk bnd partAV ptrAdd killBox catA inOrder fillA setAt ofVal resB upd byteV List.head?_take List.head?_drop List.getElem?_map mkS_env mkS_box mkS_used entry_env entry_box entry_used lk stepD lookIds Oper.looksAt Op.operands Call.operands St.ids refsL renL_append ren renL renBox Box.refs iV i64V boolV dV_getElem dV_app dV_cons toNat_add2 toNat_add1
attribute [local simp ↓] numC_refs numC_isCell numC_cells numC_resB numC_resD numC_ren numC_closeC numC_isOwn



end Go.Fw

/- plane: Dot, Side. -/
-- VALS: zAV, zC, ratAV, ratC, ptAV, ptC
namespace Go.Fw
open Go Go.Proofs Go.IntWalk
set_option linter.unusedSimpArgs false
set_option maxRecDepth 100000
set_option maxHeartbeats 4000000

open List (map_take map_drop)
attribute [local push_cast] optK_some optK_none optK_ite optK_map optK_bind gOn stepK isMem evPure evMem evBin evUn evConv evLen evBuiltin evMinMax evSlice evBuild evAppend evIndex evIndexAddr evField evFieldAddr intBin strBin appDest AS.val AS.mem AS.elems AS.put AS.put' AS.eff AV.cells? AV.isCell AV.refs all_isByte take_byteV drop_byteV strOf_map bndOk bnd partAV ptrAdd killBox catA inOrder fillA setAt ofVal resB upd byteV List.head?_take List.head?_drop List.getElem?_map mkS_env mkS_box mkS_used entry_env entry_box entry_used lk stepD lookIds Oper.looksAt Op.operands Call.operands St.ids refsL renL_append ren renL renBox Box.refs iV i64V boolV dV_getElem dV_app dV_cons toNat_add2 toNat_add1
attribute [local simp ↓] numC_refs numC_isCell numC_cells numC_resB numC_resD numC_ren numC_closeC numC_isOwn

/-- On which side of the way from a to b the point c lies. -/
def sideOf (a b c : FP) : Int :=
  let l := (b.x.q - a.x.q) * (c.y.q - a.y.q)
  let r := (b.y.q - a.y.q) * (c.x.q - a.x.q)
  cmpZ (l.num * r.den) (r.num * l.den)


end Go.Fw

/- plane: first, Pt.Cmp. -/
-- VALS: zAV, zC, ratAV, ratC, ptAV, ptC
namespace Go.Fw
open Go Go.Proofs Go.IntWalk
set_option linter.unusedSimpArgs false
set_option maxRecDepth 100000
set_option maxHeartbeats 4000000

open List (map_take map_drop)
attribute [local push_cast] optK_some optK_none optK_ite optK_map optK_bind gOn stepK isMem evPure evMem evBin evUn evConv evLen evBuiltin evMinMax evSlice evBuild evAppend evIndex evIndexAddr evField evFieldAddr intBin strBin appDest AS.val AS.mem AS.elems AS.put AS.put' AS.eff AV.cells? AV.isCell AV.refs all_isByte take_byteV drop_byteV strOf_map bndOk bnd partAV ptrAdd killBox catA inOrder fillA setAt ofVal resB upd byteV List.head?_take List.head?_drop List.getElem?_map mkS_env mkS_box mkS_used entry_env entry_box entry_used lk stepD lookIds Oper.looksAt Op.operands Call.operands St.ids refsL renL_append ren renL renBox Box.refs iV i64V boolV dV_getElem dV_app dV_cons toNat_add2 toNat_add1
attribute [local simp ↓] numC_refs numC_isCell numC_cells numC_resB numC_resD numC_ren numC_closeC numC_isOwn

/-- The order of points. -/
def cmpP (p q : FP) : Int :=
  if cmpZ (p.x.q.num * q.x.q.den) (q.x.q.num * p.x.q.den) ≠ 0 then cmpZ (p.x.q.num * q.x.q.den) (q.x.q.num * p.x.q.den)
  else cmpZ (p.y.q.num * q.y.q.den) (q.y.q.num * p.y.q.den)

end Go.Fw

/- plane: Pt.Cmp. -/
-- VALS: zAV, zC, ratAV, ratC, ptAV, ptC
namespace Go.Fw
open Go Go.Proofs Go.IntWalk
set_option linter.unusedSimpArgs false
set_option maxRecDepth 100000
set_option maxHeartbeats 4000000
open List (map_take map_drop)
attribute [local push_cast] optK_some optK_none optK_ite optK_map optK_bind gOn stepK isMem evPure evMem evBin evUn evConv evLen evBuiltin evMinMax evSlice evBuild evAppend evIndex evIndexAddr evField evFieldAddr intBin strBin appDest AS.val AS.mem AS.elems AS.put AS.put' AS.eff AV.cells? AV.isCell AV.refs all_isByte take_byteV drop_byteV strOf_map bndOk bnd partAV ptrAdd killBox catA inOrder fillA setAt ofVal resB upd byteV List.head?_take List.head?_drop List.getElem?_map mkS_env mkS_box mkS_used entry_env entry_box entry_used lk stepD lookIds Oper.looksAt Op.operands Call.operands St.ids refsL renL_append ren renL renBox Box.refs iV i64V boolV dV_getElem dV_app dV_cons toNat_add2 toNat_add1
attribute [local simp ↓] numC_refs numC_isCell numC_cells numC_resB numC_resD numC_ren numC_closeC numC_isOwn


end Go.Fw

/- plane: Seg.at. -/
-- VALS: zAV, zC, ratAV, ratC, ptAV, ptC, sgAV, sgC
namespace Go.Fw
open Go Go.Proofs Go.IntWalk
set_option linter.unusedSimpArgs false
set_option maxRecDepth 100000
set_option maxHeartbeats 4000000

/-- A segment of the program's. -/
structure FSg where
  A : FP
  B : FP
def sgC (s : FSg) : List AV := ptC s.A ++ ptC s.B
def sgAV (s : FSg) : AV := .agg (sgC s)
def FSg.at (s : FSg) (l : Rat) : FP := ⟨.of (s.A.x.q + (s.B.x.q - s.A.x.q) * l), .of (s.A.y.q + (s.B.y.q - s.A.y.q) * l)⟩

open List (map_take map_drop)
attribute [local push_cast] optK_some optK_none optK_ite optK_map optK_bind gOn stepK isMem evPure evMem evBin evUn evConv evLen evBuiltin evMinMax evSlice evBuild evAppend evIndex evIndexAddr evField evFieldAddr intBin strBin appDest AS.val AS.mem AS.elems AS.put AS.put' AS.eff AV.cells? AV.isCell AV.refs all_isByte take_byteV drop_byteV strOf_map bndOk bnd partAV ptrAdd killBox catA inOrder fillA setAt ofVal resB upd byteV List.head?_take List.head?_drop List.getElem?_map mkS_env mkS_box mkS_used entry_env entry_box entry_used lk stepD lookIds Oper.looksAt Op.operands Call.operands St.ids refsL renL_append ren renL renBox Box.refs iV i64V boolV dV_getElem dV_app dV_cons toNat_add2 toNat_add1
attribute [local simp ↓] numC_refs numC_isCell numC_cells numC_resB numC_resD numC_ren numC_closeC numC_isOwn

end Go.Fw

/- plane: rising, within, On. -/
-- VALS: zAV, zC, ratAV, ratC, ptAV, ptC, sgAV, sgC
namespace Go.Fw
open Go Go.Proofs Go.IntWalk
set_option linter.unusedSimpArgs false
set_option maxRecDepth 100000
set_option maxHeartbeats 4000000
open List (map_take map_drop)
attribute [local push_cast] optK_some optK_none optK_ite optK_map optK_bind gOn stepK isMem evPure evMem evBin evUn evConv evLen evBuiltin evMinMax evSlice evBuild evAppend evIndex evIndexAddr evField evFieldAddr intBin strBin appDest AS.val AS.mem AS.elems AS.put AS.put' AS.eff AV.cells? AV.isCell AV.refs all_isByte take_byteV drop_byteV strOf_map bndOk bnd partAV ptrAdd killBox catA inOrder fillA setAt ofVal resB upd byteV List.head?_take List.head?_drop List.getElem?_map mkS_env mkS_box mkS_used entry_env entry_box entry_used lk stepD lookIds Oper.looksAt Op.operands Call.operands St.ids refsL renL_append ren renL renBox Box.refs iV i64V boolV dV_getElem dV_app dV_cons toNat_add2 toNat_add1
attribute [local simp ↓] numC_refs numC_isCell numC_cells numC_resB numC_resD numC_ren numC_closeC numC_isOwn

def risingF (s : FSg) : FSg := if 0 < cmpP s.A s.B then ⟨s.B, s.A⟩ else s
def withinF (s : FSg) (p : FP) : Bool := decide (cmpP (risingF s).A p ≤ 0) && decide (cmpP p (risingF s).B ≤ 0)
def onF (s : FSg) (p : FP) : Bool := withinF s p && (sideOf s.A s.B p == 0)
def szS (s : FSg) : Nat := szV s.A + szV s.B
theorem szS_rising (s : FSg) : szS (risingF s) = szS s := by
  unfold risingF
  split
  · unfold szS; simp only; omega
  · rfl



end Go.Fw

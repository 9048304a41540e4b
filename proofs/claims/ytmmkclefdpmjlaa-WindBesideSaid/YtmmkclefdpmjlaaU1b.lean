import Derived.Test.YtmmkclefdpmjlaaR8b
import Derived.Test.YtmmkclefdpmjlaaSn
import Derived.Test.YtmmkclefdpmjlaaFit
import Derived.Test.YtmmkclefdpmjlaaHb
set_option linter.unusedSimpArgs false
set_option linter.unusedVariables false
namespace Go.Fw
open Go Go.Proofs
def FP.v (p : FP) : V2 := ⟨p.x.q, p.y.q⟩
def FSg.v (s : FSg) : Sg := ⟨s.A.v, s.B.v⟩
theorem cmpP_eq (p q : FP) : cmpP p q = if lexLt p.v q.v then -1 else if lexLt q.v p.v then 1 else 0 := by
  unfold cmpP
  rw [cmpQ_eq, cmpQ_eq]
  unfold lexLt FP.v
  simp only
  by_cases h1 : p.x.q < q.x.q
  · simp [h1]
  · by_cases h2 : q.x.q < p.x.q
    · have h3 : ¬ p.x.q = q.x.q := by grind
      simp [h1, h2, h3]
    · have h3 : p.x.q = q.x.q := by grind
      simp only [h3, Rat.lt_irrefl, false_or, true_and, if_false, ne_eq, not_true, Int.reduceNeg]
theorem cmpP_neg (p q : FP) : cmpP p q < 0 ↔ lexLt p.v q.v := by
  rw [cmpP_eq]
  by_cases h : lexLt p.v q.v
  · simp [h]
  · rw [if_neg h]
    by_cases h2 : lexLt q.v p.v
    · rw [if_pos h2]; simp [h]
    · rw [if_neg h2]; simp [h]
theorem cmpP_pos (p q : FP) : 0 < cmpP p q ↔ lexLt q.v p.v := by
  rw [cmpP_eq]
  by_cases h : lexLt p.v q.v
  · have : ¬ lexLt q.v p.v := fun k => lexLt_irrefl (lexLt_trans h k)
    simp [h, this]
  · rw [if_neg h]
    by_cases h2 : lexLt q.v p.v
    · rw [if_pos h2]; simp [h2]
    · rw [if_neg h2]; simp [h2]
theorem cmpP_zero (p q : FP) : cmpP p q = 0 ↔ p.v = q.v := by
  constructor
  · intro h
    exact lex_anti (fun k => by have := (cmpP_neg p q).2 k; omega) (fun k => by have := (cmpP_pos p q).2 k; omega)
  · intro h
    have h1 : ¬ cmpP p q < 0 := fun k => by have := (cmpP_neg p q).1 k; rw [h] at this; exact lexLt_irrefl this
    have h2 : ¬ 0 < cmpP p q := fun k => by have := (cmpP_pos p q).1 k; rw [h] at this; exact lexLt_irrefl this
    omega
def clipF (s b : FSg) : List FP :=
  (if 0 ≤ cross b.A.v b.B.v s.A.v then [s.A] else []) ++ ((if cross b.A.v b.B.v s.A.v * cross b.A.v b.B.v s.B.v < 0 then [s.at (cross b.A.v b.B.v s.A.v / (cross b.A.v b.B.v s.A.v - cross b.A.v b.B.v s.B.v))] else []) ++ (if 0 ≤ cross b.A.v b.B.v s.B.v ∧ cmpP s.A s.B ≠ 0 then [s.B] else []))
def lowestF (p : FP) : List FP → FP
  | [] => p
  | q :: l => lowestF (if cmpP q p < 0 then q else p) l
def highestF (p : FP) : List FP → FP
  | [] => p
  | q :: l => highestF (if 0 < cmpP q p then q else p) l
def endsF (l : List FP) : List FP := match l with
  | [] => []
  | p :: r => if cmpP (lowestF p (p :: r)) (highestF p (p :: r)) = 0 then [lowestF p (p :: r)] else [lowestF p (p :: r), highestF p (p :: r)]
end Go.Fw
-- VALS: zAV, zC, ratAV, ratC, ptAV, ptC, sgAV, sgC
namespace Go.Fw
open Go Go.Proofs Go.IntWalk
set_option linter.unusedSimpArgs false
set_option maxRecDepth 100000
set_option maxHeartbeats 4000000
def sqP (p q : FP) : Rat := (q.x.q - p.x.q) * (q.x.q - p.x.q) + (q.y.q - p.y.q) * (q.y.q - p.y.q)
open List (map_take map_drop)
attribute [local push_cast] optK_some optK_none optK_ite optK_map optK_bind gOn stepK isMem evPure evMem evBin evUn evConv evLen evBuiltin evMinMax evSlice evBuild evAppend evIndex evIndexAddr evField evFieldAddr intBin strBin appDest AS.val AS.mem AS.elems AS.put AS.put' AS.eff AV.cells? AV.isCell AV.refs all_isByte take_byteV drop_byteV strOf_map bndOk bnd partAV ptrAdd killBox catA inOrder fillA setAt ofVal resB upd byteV List.head?_take List.head?_drop List.getElem?_map mkS_env mkS_box mkS_used entry_env entry_box entry_used lk stepD lookIds Oper.looksAt Op.operands Call.operands St.ids refsL renL_append ren renL renBox Box.refs iV i64V boolV dV_getElem dV_app dV_cons toNat_add2 toNat_add1
attribute [local simp ↓] numC_refs numC_isCell numC_cells numC_resB numC_resD numC_ren numC_closeC numC_isOwn
def FP.zero : FP := ⟨FQ.zero, FQ.zero⟩
def accP (f : Nat → FP) (w : Nat → Rat) : Nat → FP
  | 0 => FP.zero
  | i + 1 => ⟨.of ((accP f w i).x.q + (f i).x.q * w i), .of ((accP f w i).y.q + (f i).y.q * w i)⟩
end Go.Fw
namespace Go.Fw
open Go Go.Proofs
def bothF (s t : FSg) : List FP := [s.A, s.B, t.A, t.B].filter fun p => onF s p && onF t p
def meetF (s t : FSg) : List FP :=
  if crossW s.v t.v ≠ 0 then
    if s.v.part t.v < 0 ∨ 1 < s.v.part t.v ∨ s.v.part2 t.v < 0 ∨ 1 < s.v.part2 t.v then [] else [s.at (s.v.part t.v)]
  else endsF (bothF s t)
def toF (s : FSg) (p : FP) : FQ :=
  if 0 < dot s.A.v s.B.v p.v ∧ 0 < dot s.B.v s.A.v p.v then .of (cross s.A.v s.B.v p.v * cross s.A.v s.B.v p.v / sqP s.A s.B)
  else leastOf [.of (sqP s.A p), .of (sqP s.B p)]
def leastF (s t : FSg) : FQ := if meetF s t ≠ [] then FQ.zero else leastOf [toF s t.A, toF s t.B, toF t s.A, toF t s.B]
end Go.Fw
namespace Go.Fw
open Go Go.Proofs
def HP (p : FP) : Prop := HB p.x.q 72 12 ∧ HB p.y.q 72 12
def HS (s : FSg) : Prop := HP s.A ∧ HP s.B
theorem HP.sz {p : FP} (h : HP p) : szV p ≤ 8 := by
  have h1 := h.1.sz
  have h2 := h.2.sz
  unfold szV
  omega
theorem HS.sz {s : FSg} (h : HS s) : szS s ≤ 16 := by
  have h1 := h.1.sz
  have h2 := h.2.sz
  unfold szS
  omega
theorem HP.cross {a b c : FP} (ha : HP a) (hb : HP b) (hc : HP c) : HB (cross a.v b.v c.v) 219 96 := by
  have h1 := hb.1.sub ha.1 84 (by omega) (by omega)
  have h2 := hc.2.sub ha.2 84 (by omega) (by omega)
  have h3 := hb.2.sub ha.2 84 (by omega) (by omega)
  have h4 := hc.1.sub ha.1 84 (by omega) (by omega)
  exact (h1.mul h2).sub (h3.mul h4) 218 (by omega) (by omega)
theorem HS.at {s b : FSg} (hs : HS s) (hb : HS b) : szV (s.at (Go.Fw.cross b.A.v b.B.v s.A.v / (Go.Fw.cross b.A.v b.B.v s.A.v - Go.Fw.cross b.A.v b.B.v s.B.v))) ≤ 62 := by
  have u := HP.cross hb.1 hb.2 hs.1
  have v := HP.cross hb.1 hb.2 hs.2
  have l := u.div (u.sub v 315 (by omega) (by omega))
  have x1 := (hs.2.1.sub hs.1.1 84 (by omega) (by omega)).mul l
  have x2 := hs.1.1.add x1 509 (by omega) (by omega)
  have y1 := (hs.2.2.sub hs.1.2 84 (by omega) (by omega)).mul l
  have y2 := hs.1.2.add y1 509 (by omega) (by omega)
  have z1 := x2.sz
  have z2 := y2.sz
  have e1 : szV (s.at (Go.Fw.cross b.A.v b.B.v s.A.v / (Go.Fw.cross b.A.v b.B.v s.A.v - Go.Fw.cross b.A.v b.B.v s.B.v))) = szQ (s.A.x.q + (s.B.x.q - s.A.x.q) * (Go.Fw.cross b.A.v b.B.v s.A.v / (Go.Fw.cross b.A.v b.B.v s.A.v - Go.Fw.cross b.A.v b.B.v s.B.v))) + szQ (s.A.y.q + (s.B.y.q - s.A.y.q) * (Go.Fw.cross b.A.v b.B.v s.A.v / (Go.Fw.cross b.A.v b.B.v s.A.v - Go.Fw.cross b.A.v b.B.v s.B.v))) := rfl
  rw [e1]
  omega
end Go.Fw

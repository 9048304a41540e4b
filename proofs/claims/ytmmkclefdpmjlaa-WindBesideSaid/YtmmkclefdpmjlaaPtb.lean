import Derived.Test.YtmmkclefdpmjlaaR8b
import Derived.Test.YtmmkclefdpmjlaaS2
import Derived.Test.YtmmkclefdpmjlaaHb
set_option linter.unusedSimpArgs false
set_option linter.unusedVariables false
namespace Go.Fw
open Go Go.Proofs Go.IntWalk
def ptsC (l : List FP) : List AV := l.flatMap ptC
theorem ptC_len (p : FP) : (ptC p).length = 8 := rfl
theorem ptsC_len (l : List FP) : (ptsC l).length = l.length * 8 := by
  induction l with
  | nil => rfl
  | cons x t ih => simp [ptsC, ptC_len] at *; omega
theorem ptsC_refs (l : List FP) : refsL (ptsC l) = [] := by
  induction l with
  | nil => rfl
  | cons x t ih => show refsL (ptC x ++ ptsC t) = []; rw [refsL_append, ih]; rfl
theorem ptsC_drop (l : List FP) (i : Nat) : (ptsC l).drop (i * 8) = ptsC (l.drop i) := by
  induction l generalizing i with
  | nil => simp [ptsC]
  | cons x t ih =>
    cases i with
    | zero => simp
    | succ i =>
      have e : (i + 1) * 8 = (ptC x).length + i * 8 := by rw [ptC_len]; omega
      show (ptC x ++ ptsC t).drop _ = _
      rw [e, List.drop_append, Nat.add_sub_cancel_left, ih]
      simp
theorem ptsC_at (l : List FP) (i : Nat) (h : i < l.length) : ∃ t, (ptsC l).drop (i * 8) = ptC l[i] ++ t := by
  refine ⟨ptsC (l.drop (i + 1)), ?_⟩
  rw [ptsC_drop, List.drop_eq_getElem_cons h]
  rfl
end Go.Fw
namespace Go.Fw
open Go Go.Proofs
def FSg.tn (s : FSg) : FSg := ⟨s.B, s.A⟩
def gridF (x y : Int) : FP := ⟨.of x, .of y⟩
def gridsF (a b c d : Int) : FSg := ⟨gridF a b, gridF c d⟩
theorem HD.grid' {x : Int} (hx : inI x) : HB ((x : Int) : Rat) 64 1 := by
  unfold inI at hx
  exact HB.int (n := 64) (by omega)
def dotsF (a b : Int × Int × Int) : FSg := ⟨dotF a.1 a.2.1 a.2.2, dotF b.1 b.2.1 b.2.2⟩
def inD (a : Int × Int × Int) : Prop := inI a.1 ∧ inI a.2.1
def dotAV (a : Int × Int × Int) : AV := .agg [i64V a.1, i64V a.2.1, i64V a.2.2]
def mvP (v p : FP) : FP := ⟨.of (p.x.q + v.x.q), .of (p.y.q + v.y.q)⟩
def quP (p : FP) : FP := ⟨p.y.neg, p.x⟩
def grP (m : FQ) (p : FP) : FP := ⟨.of (p.x.q * m.q), .of (p.y.q * m.q)⟩
def miP (p : FP) : FP := ⟨p.x.neg, p.y⟩
theorem HB.dot {x d : Int} (hx : inI x) : HB (Rat.divInt x (underI d)) 64 6 := by
  have hu := underI_pos d
  unfold inI at hx
  exact HB.divInt (n := 64) (d := 6) (by omega) (by omega) (by omega)
def HD (p : FP) : Prop := HB p.x.q 64 6 ∧ HB p.y.q 64 6
theorem HD.dot {a : Int × Int × Int} (h : inD a) : HD (dotF a.1 a.2.1 a.2.2) := ⟨HB.dot h.1, HB.dot h.2⟩
theorem HD.grid {x y : Int} (hx : inI x) (hy : inI y) : HD (gridF x y) := ⟨(HD.grid' hx).mono (by omega) (by omega), (HD.grid' hy).mono (by omega) (by omega)⟩
theorem HD.sz {p : FP} (h : HD p) : szV p ≤ 8 := by
  have h1 := h.1.sz
  have h2 := h.2.sz
  unfold szV
  omega
end Go.Fw

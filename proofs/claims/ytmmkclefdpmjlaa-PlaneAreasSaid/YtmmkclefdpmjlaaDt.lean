/- Points by small numbers, as the laws have them. -/
import Derived.Test.YtmmkclefdpmjlaaS2
import Derived.Test.YtmmkclefdpmjlaaHb
import Derived.Test.YtmmkclefdpmjlaaR8b
set_option linter.unusedSimpArgs false
set_option linter.unusedVariables false
namespace Go.Fw
open Go Go.Proofs
def FSg.tn (s : FSg) : FSg := ⟨s.B, s.A⟩
def gridF (x y : Int) : FP := ⟨.of x, .of y⟩
def gridsF (a b c d : Int) : FSg := ⟨gridF a b, gridF c d⟩
theorem HD.grid' {x : Int} (hx : inI x) : HB ((x : Int) : Rat) 64 1 := by
  unfold inI at hx
  exact HB.int (n := 64) (by omega)
def dotsF (a b : Int × Int × Int) : FSg := ⟨dotF a.1 a.2.1 a.2.2, dotF b.1 b.2.1 b.2.2⟩
def inD (a : Int × Int × Int) : Prop := inI a.1 ∧ inI a.2.1
def dotAV (a : Int × Int × Int) : AV := .agg [i64V a.1, i64V a.2.1, i64V a.2.2]
def mvP (v p : FP) : FP := ⟨.of (p.x.q + v.x.q), .of (p.y.q + v.y.q)⟩
def quP (p : FP) : FP := ⟨p.y.neg, p.x⟩
def grP (m : FQ) (p : FP) : FP := ⟨.of (p.x.q * m.q), .of (p.y.q * m.q)⟩
def miP (p : FP) : FP := ⟨p.x.neg, p.y⟩
theorem HB.dot {x d : Int} (hx : inI x) : HB (Rat.divInt x (underI d)) 64 6 := by
  have hu := underI_pos d
  unfold inI at hx
  exact HB.divInt (n := 64) (d := 6) (by omega) (by omega) (by omega)
def HD (p : FP) : Prop := HB p.x.q 64 6 ∧ HB p.y.q 64 6
theorem HD.dot {a : Int × Int × Int} (h : inD a) : HD (dotF a.1 a.2.1 a.2.2) := ⟨HB.dot h.1, HB.dot h.2⟩
theorem HD.grid {x y : Int} (hx : inI x) (hy : inI y) : HD (gridF x y) := ⟨(HD.grid' hx).mono (by omega) (by omega), (HD.grid' hy).mono (by omega) (by omega)⟩
theorem HD.sz {p : FP} (h : HD p) : szV p ≤ 8 := by
  have h1 := h.1.sz
  have h2 := h.2.sz
  unfold szV
  omega
end Go.Fw

/- Points by small numbers, as the laws have them. -/
import Derived.Test.YtgpfebgjcbacnaaS2
import Derived.Test.YtgpfebgjcbacnaaHb
import Derived.Test.YtgpfebgjcbacnaaR12
set_option linter.unusedSimpArgs false
set_option linter.unusedVariables false
namespace Go.Fw
open Go Go.Proofs

def dotsF (a b : Int × Int × Int) : FSg := ⟨dotF a.1 a.2.1 a.2.2, dotF b.1 b.2.1 b.2.2⟩
/-- Its numbers are numbers of 64 bits. -/
def inD (a : Int × Int × Int) : Prop := inI a.1 ∧ inI a.2.1
def dotAV (a : Int × Int × Int) : AV := .agg [i64V a.1, i64V a.2.1, i64V a.2.2]
theorem HB.dot {x d : Int} (hx : inI x) : HB (Rat.divInt x (underI d)) 64 6 := by
  have hu := underI_pos d
  unfold inI at hx
  exact HB.divInt (n := 64) (d := 6) (by omega) (by omega) (by omega)
/-- Its numbers are those of a point by small numbers. -/
def HD (p : FP) : Prop := HB p.x.q 64 6 ∧ HB p.y.q 64 6
theorem HD.dot {a : Int × Int × Int} (h : inD a) : HD (dotF a.1 a.2.1 a.2.2) := ⟨HB.dot h.1, HB.dot h.2⟩
theorem HD.sz {p : FP} (h : HD p) : szV p ≤ 8 := by
  have h1 := h.1.sz
  have h2 := h.2.sz
  unfold szV
  omega
end Go.Fw

import Derived.Test.YtjaohdeicocgnaaS2
import Derived.Test.YtjaohdeicocgnaaHb
import Derived.Test.YtjaohdeicocgnaaR12
import Derived.Test.YtjaohdeicocgnaaLs
import Derived.Test.YtjaohdeicocgnaaU1
import Derived.Test.YtjaohdeicocgnaaS6
set_option linter.unusedSimpArgs false
set_option linter.unusedVariables false
/- Points by small numbers, as the laws have them. -/
namespace Go.Fw
open Go Go.Proofs

def FSg.tn (s : FSg) : FSg := ⟨s.B, s.A⟩
def gridF (x y : Int) : FP := ⟨.of x, .of y⟩
def gridsF (a b c d : Int) : FSg := ⟨gridF a b, gridF c d⟩
theorem HD.grid' {x : Int} (hx : inI x) : HB ((x : Int) : Rat) 64 1 := by
  unfold inI at hx
  exact HB.int (n := 64) (by omega)
def dotsF (a b : Int × Int × Int) : FSg := ⟨dotF a.1 a.2.1 a.2.2, dotF b.1 b.2.1 b.2.2⟩
/-- Its numbers are numbers of 64 bits. -/
def inD (a : Int × Int × Int) : Prop := inI a.1 ∧ inI a.2.1
def dotAV (a : Int × Int × Int) : AV := .agg [i64V a.1, i64V a.2.1, i64V a.2.2]
def mvP (v p : FP) : FP := ⟨.of (p.x.q + v.x.q), .of (p.y.q + v.y.q)⟩
def quP (p : FP) : FP := ⟨p.y.neg, p.x⟩
def grP (m : FQ) (p : FP) : FP := ⟨.of (p.x.q * m.q), .of (p.y.q * m.q)⟩
def miP (p : FP) : FP := ⟨p.x.neg, p.y⟩
theorem HB.dot {x d : Int} (hx : inI x) : HB (Rat.divInt x (underI d)) 64 6 := by
  have hu := underI_pos d
  unfold inI at hx
  exact HB.divInt (n := 64) (d := 6) (by omega) (by omega) (by omega)
/-- Its numbers are those of a point by small numbers. -/
def HD (p : FP) : Prop := HB p.x.q 64 6 ∧ HB p.y.q 64 6
theorem HD.dot {a : Int × Int × Int} (h : inD a) : HD (dotF a.1 a.2.1 a.2.2) := ⟨HB.dot h.1, HB.dot h.2⟩
theorem HD.grid {x y : Int} (hx : inI x) (hy : inI y) : HD (gridF x y) := ⟨(HD.grid' hx).mono (by omega) (by omega), (HD.grid' hy).mono (by omega) (by omega)⟩
theorem HD.sz {p : FP} (h : HD p) : szV p ≤ 8 := by
  have h1 := h.1.sz
  have h2 := h.2.sz
  unfold szV
  omega
end Go.Fw

/- Parts of a way. -/
namespace Go.Fw
open Go Go.Proofs

def sqC (p q : FP) (n : Int) : Int := cmpZ ((sqP p q).num * ((n : Rat) * (n : Rat)).den) (((n : Rat) * (n : Rat)).num * (sqP p q).den)
theorem sqC_neg (p q : FP) (n : Int) : sqC p q n < 0 ↔ sqD p.v q.v < (n : Rat) * (n : Rat) := lessQ_iff _ _
theorem hund19 (n : Int) : ∃ k : Nat, (IntKind.u64.wrap n).tmod 101 = (k : Int) ∧ k ≤ 100 := by
  rw [IntKind.wrap_u64, Int.tmod_eq_emod_of_nonneg (by omega)]
  exact ⟨(n % 18446744073709551616 % 101).toNat, by omega, by omega⟩

/-- A hundredth part of the way. -/
theorem on_part (s : FSg) {k : Nat} (h : k ≤ 100) : s.v.on (s.at (Rat.divInt k 100)).v := by
  refine (on_iff _ _).2 ⟨Rat.divInt k 100, ?_, ?_, rfl⟩
  · rw [Rat.divInt_eq_div, qle_div (by decide)]
    have : (0 : Rat) ≤ ((k : Int) : Rat) := Rat.intCast_nonneg.2 (by omega)
    grind
  · rw [Rat.divInt_eq_div, qdiv_le (by decide)]
    have : ((k : Int) : Rat) ≤ ((100 : Int) : Rat) := Rat.intCast_le_intCast.2 (by omega)
    grind
/-- Its numbers are those of a part of a way. -/
def HQ (p : FP) : Prop := HB p.x.q 85 25 ∧ HB p.y.q 85 25
theorem HQ.sz {p : FP} (h : HQ p) : szV p ≤ 8 := by
  have h1 := h.1.sz
  have h2 := h.2.sz
  unfold szV
  omega
theorem HQ.part {a b : Int × Int × Int} (ha : inD a) (hb : inD b) {k : Nat} (h : k ≤ 100) : HQ ((dotsF a b).at (Rat.divInt k 100)) := by
  have hk : HB (Rat.divInt k 100) 7 7 := HB.divInt (n := 7) (d := 7) (by omega) (by omega) (by omega)
  have a1 := HB.dot (d := a.2.2) ha.1
  have a2 := HB.dot (d := a.2.2) ha.2
  have b1 := HB.dot (d := b.2.2) hb.1
  have b2 := HB.dot (d := b.2.2) hb.2
  exact ⟨a1.add ((b1.sub a1 70 (by omega) (by omega)).mul hk) 84 (by omega) (by omega), a2.add ((b2.sub a2 70 (by omega) (by omega)).mul hk) 84 (by omega) (by omega)⟩
theorem HQ.sq {p q : FP} (hp : HQ p) (hq : HQ q) : szQ (sqP p q) ≤ 30 := by
  have h1 := hq.1.sub hp.1 110 (by omega) (by omega)
  have h2 := hq.2.sub hp.2 110 (by omega) (by omega)
  have h3 := (h1.mul h1).add (h2.mul h2) 322 (by omega) (by omega)
  have := h3.sz
  unfold sqP
  omega
end Go.Fw

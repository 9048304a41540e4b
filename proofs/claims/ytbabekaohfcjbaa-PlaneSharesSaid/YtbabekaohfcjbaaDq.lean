/- Parts of a way. -/
import Derived.Test.YtbabekaohfcjbaaDt
import Derived.Test.YtbabekaohfcjbaaLs
import Derived.Test.YtbabekaohfcjbaaU1
import Derived.Test.YtbabekaohfcjbaaS6
set_option linter.unusedSimpArgs false
set_option linter.unusedVariables false
namespace Go.Fw
open Go Go.Proofs

def sqC (p q : FP) (n : Int) : Int := cmpZ ((sqP p q).num * ((n : Rat) * (n : Rat)).den) (((n : Rat) * (n : Rat)).num * (sqP p q).den)
theorem sqC_neg (p q : FP) (n : Int) : sqC p q n < 0 ↔ sqD p.v q.v < (n : Rat) * (n : Rat) := lessQ_iff _ _
theorem hund19 (n : Int) : ∃ k : Nat, (IntKind.u64.wrap n).tmod 101 = (k : Int) ∧ k ≤ 100 := by
  rw [IntKind.wrap_u64, Int.tmod_eq_emod_of_nonneg (by omega)]
  exact ⟨(n % 18446744073709551616 % 101).toNat, by omega, by omega⟩

/-- A hundredth part of the way. -/
theorem on_part (s : FSg) {k : Nat} (h : k ≤ 100) : s.v.on (s.at (Rat.divInt k 100)).v := by
  refine (on_iff _ _).2 ⟨Rat.divInt k 100, ?_, ?_, rfl⟩
  · rw [Rat.divInt_eq_div, qle_div (by decide)]
    have : (0 : Rat) ≤ ((k : Int) : Rat) := Rat.intCast_nonneg.2 (by omega)
    grind
  · rw [Rat.divInt_eq_div, qdiv_le (by decide)]
    have : ((k : Int) : Rat) ≤ ((100 : Int) : Rat) := Rat.intCast_le_intCast.2 (by omega)
    grind
/-- Its numbers are those of a part of a way. -/
def HQ (p : FP) : Prop := HB p.x.q 85 25 ∧ HB p.y.q 85 25
theorem HQ.sz {p : FP} (h : HQ p) : szV p ≤ 8 := by
  have h1 := h.1.sz
  have h2 := h.2.sz
  unfold szV
  omega
theorem HQ.part {a b : Int × Int × Int} (ha : inD a) (hb : inD b) {k : Nat} (h : k ≤ 100) : HQ ((dotsF a b).at (Rat.divInt k 100)) := by
  have hk : HB (Rat.divInt k 100) 7 7 := HB.divInt (n := 7) (d := 7) (by omega) (by omega) (by omega)
  have a1 := HB.dot (d := a.2.2) ha.1
  have a2 := HB.dot (d := a.2.2) ha.2
  have b1 := HB.dot (d := b.2.2) hb.1
  have b2 := HB.dot (d := b.2.2) hb.2
  exact ⟨a1.add ((b1.sub a1 70 (by omega) (by omega)).mul hk) 84 (by omega) (by omega), a2.add ((b2.sub a2 70 (by omega) (by omega)).mul hk) 84 (by omega) (by omega)⟩
theorem HQ.sq {p q : FP} (hp : HQ p) (hq : HQ q) : szQ (sqP p q) ≤ 30 := by
  have h1 := hq.1.sub hp.1 110 (by omega) (by omega)
  have h2 := hq.2.sub hp.2 110 (by omega) (by omega)
  have h3 := (h1.mul h1).add (h2.mul h2) 322 (by omega) (by omega)
  have := h3.sz
  unfold sqP
  omega
end Go.Fw

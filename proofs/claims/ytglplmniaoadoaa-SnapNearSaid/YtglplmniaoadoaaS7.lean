/- The law SnapNear comes to true. -/
import Derived.Test.YtglplmniaoadoaaS6
-- VALS: zAV, zC, ratAV, ratC, ptAV, ptC, sgAV, sgC
namespace Go.Fw
open Go Go.Proofs Go.IntWalk
set_option linter.unusedSimpArgs false
set_option maxRecDepth 100000
set_option maxHeartbeats 4000000

structure D3 where
  x : Int
  y : Int
  d : Int
def D3.av (a : D3) : AV := .agg [i64V a.x, i64V a.y, i64V a.d]
def D3.pt (a : D3) : FP := dotF a.x a.y a.d
def D3.ok (a : D3) : Prop := inI a.x ∧ inI a.y

theorem divInt_hundred (k : Int) : Rat.divInt k 100 = (k : Rat) / 100 := by rw [Rat.divInt_eq_div]; rfl

/-- What the law asks, plain. -/
theorem snap_near (P1 P2 P3 : FP) (k0 k1 k2 : Int) (h0 : 0 ≤ k0) (h1 : 0 ≤ k1) (h2 : 0 ≤ k2) (hs : k0 + k1 + k2 = 100) 
    (f g : Nat → FP) (w : Nat → Rat) (hf0 : f 0 = P1) (hf1 : f 1 = P2) (hf2 : f 2 = P3)
    (hg : ∀ i, i < 3 → g i = ⟨.of (nearQ (f i).x.q : Rat), .of (nearQ (f i).y.q : Rat)⟩) (hgx : ∀ i, 3 ≤ i → g i = f i)
    (hw0 : w 0 = Rat.divInt k0 100) (hw1 : w 1 = Rat.divInt k1 100) (hw2 : w 2 = Rat.divInt k2 100) (hwx : ∀ i, 3 ≤ i → w i = 0) : 2 * sqP (accP f w 3) (accP g w 3) ≤ 1 := by
  have pos : ∀ k : Int, 0 ≤ k → (0 : Rat) ≤ Rat.divInt k 100 := fun k hk => Rat.divInt_nonneg hk (by omega)
  refine acc_near f g w ?_ ?_ ?_ ?_
  · intro i
    match i with
    | 0 => rw [hw0]; exact pos _ h0
    | 1 => rw [hw1]; exact pos _ h1
    | 2 => rw [hw2]; exact pos _ h2
    | i + 3 => rw [hwx _ (by omega)]; exact Rat.le_refl
  · rw [hw0, hw1, hw2, Rat.divInt_add_divInt _ _ (by omega) (by omega), Rat.divInt_add_divInt _ _ (by omega) (by omega)]
    have e : (k0 * 100 + k1 * 100) * 100 + k2 * (100 * 100) = 100 * 100 * 100 := by omega
    rw [e]
    exact Rat.divInt_self' (by decide)
  · intro i
    by_cases hi : i < 3
    · rw [hg i hi]
      have := near_half (f i).x.q
      show 2 * ((nearQ (f i).x.q : Rat) - (f i).x.q) ≤ 1 ∧ _ ≤ 2 * ((nearQ (f i).x.q : Rat) - (f i).x.q)
      grind
    · rw [hgx i (by omega)]; grind
  · intro i
    by_cases hi : i < 3
    · rw [hg i hi]
      have := near_half (f i).y.q
      show 2 * ((nearQ (f i).y.q : Rat) - (f i).y.q) ≤ 1 ∧ _ ≤ 2 * ((nearQ (f i).y.q : Rat) - (f i).y.q)
      grind
    · rw [hgx i (by omega)]; grind
end Go.Fw

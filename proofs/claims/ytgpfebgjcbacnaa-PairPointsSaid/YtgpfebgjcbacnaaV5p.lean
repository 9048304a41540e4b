/- PairPoints: the plain part, by the program's points. -/
import Derived.Test.YtgpfebgjcbacnaaV2
import Derived.Test.YtgpfebgjcbacnaaLs
set_option linter.unusedSimpArgs false
set_option linter.unusedVariables false
namespace Go.Fw
open Go Go.Proofs

theorem sideOf_eq (a b c : FP) : sideOf a b c = if cross a.v b.v c.v < 0 then -1 else if 0 < cross a.v b.v c.v then 1 else 0 := by
  unfold sideOf
  simp only
  rw [cmpQ_eq]
  unfold cross FP.v
  simp only
  generalize (b.x.q - a.x.q) * (c.y.q - a.y.q) = x
  generalize (b.y.q - a.y.q) * (c.x.q - a.x.q) = y
  by_cases h1 : x < y
  · rw [if_pos h1, if_pos (by grind)]
  · rw [if_neg h1, if_neg (show ¬ x - y < 0 by grind)]
    by_cases h2 : y < x
    · rw [if_pos h2, if_pos (by grind)]
    · rw [if_neg h2, if_neg (by grind)]
theorem sideOf_nn (a b c : FP) : 0 ≤ sideOf a b c ↔ 0 ≤ cross a.v b.v c.v := by
  rw [sideOf_eq]
  by_cases h1 : cross a.v b.v c.v < 0
  · rw [if_pos h1]; constructor
    · intro h; cases h
    · intro h; grind
  · rw [if_neg h1]
    have h3 : 0 ≤ cross a.v b.v c.v := by grind
    split <;> simp [h3]
theorem sideOf_np (a b c : FP) : sideOf a b c ≤ 0 ↔ 0 ≤ - cross a.v b.v c.v := by
  rw [sideOf_eq]
  by_cases h1 : cross a.v b.v c.v < 0
  · rw [if_pos h1]
    have h3 : 0 ≤ - cross a.v b.v c.v := by grind
    simp [h3]
  · rw [if_neg h1]
    by_cases h2 : 0 < cross a.v b.v c.v
    · rw [if_pos h2]; constructor
      · intro h; cases h
      · intro h; grind
    · rw [if_neg h2]
      have h3 : 0 ≤ - cross a.v b.v c.v := by grind
      simp [h3]

/-- How their ways go. -/
def wayC (e f : FSg) : Int := cmpZ ((dot e.A.v e.B.v f.B.v).num * (dot e.A.v e.B.v f.A.v).den) ((dot e.A.v e.B.v f.A.v).num * (dot e.A.v e.B.v f.B.v).den)
theorem wayC_neg (e f : FSg) : wayC e f < 0 ↔ (wayD e.v f.v).num.sign = -1 := by
  unfold wayC
  rw [cmpQ_eq, wayD_dot, sign_num]
  have h0 : dot e.v.A e.v.B f.v.B = dot e.A.v e.B.v f.B.v := rfl
  have h1 : dot e.v.A e.v.B f.v.A = dot e.A.v e.B.v f.A.v := rfl
  rw [h0, h1]
  generalize dot e.A.v e.B.v f.B.v = x
  generalize dot e.A.v e.B.v f.A.v = y
  by_cases h1 : x < y
  · rw [if_pos h1, if_pos (show x - y < 0 by grind)]; simp
  · rw [if_neg h1, if_neg (show ¬ x - y < 0 by grind)]
    by_cases h2 : y < x
    · rw [if_pos h2, if_pos (show 0 < x - y by grind)]; simp
    · rw [if_neg h2, if_neg (show ¬ 0 < x - y by grind)]; simp
theorem wayC_pos (e f : FSg) : 0 < wayC e f ↔ (wayD e.v f.v).num.sign = 1 := by
  unfold wayC
  rw [cmpQ_eq, wayD_dot, sign_num]
  have h0 : dot e.v.A e.v.B f.v.B = dot e.A.v e.B.v f.B.v := rfl
  have h1 : dot e.v.A e.v.B f.v.A = dot e.A.v e.B.v f.A.v := rfl
  rw [h0, h1]
  generalize dot e.A.v e.B.v f.B.v = x
  generalize dot e.A.v e.B.v f.A.v = y
  by_cases h1 : x < y
  · rw [if_pos h1, if_pos (show x - y < 0 by grind)]; simp
  · rw [if_neg h1, if_neg (show ¬ x - y < 0 by grind)]
    by_cases h2 : y < x
    · rw [if_pos h2, if_pos (show 0 < x - y by grind)]; simp
    · rw [if_neg h2, if_neg (show ¬ 0 < x - y by grind)]; simp

def sqC (p q : FP) (n : Int) : Int := cmpZ ((sqP p q).num * ((n : Rat) * (n : Rat)).den) (((n : Rat) * (n : Rat)).num * (sqP p q).den)
theorem sqC_neg (p q : FP) (n : Int) : sqC p q n < 0 ↔ sqD p.v q.v < (n : Rat) * (n : Rat) := lessQ_iff _ _
/-- Both are sides that do not lie in one line, and their points are near. -/
def twoB (e f : FSg) (p q : FP) (n : Int) : Bool :=
  (cmpP e.A e.B != 0) && ((cmpP f.A f.B != 0) && ((!((sideOf e.A e.B f.A == 0) && (sideOf e.A e.B f.B == 0))) && (decide (0 < n) && ((cmpP p q != 0) && decide (sqC p q n < 0)))))

theorem two_fits {k n : Int} {e f : FSg} {p q : FP} (h1 : 1 ≤ k) (h2 : k ≤ 6) (hp : e.v.on p.v) (hq : f.v.on q.v) (ht : twoB e f p q n = true) (h6 : (wayD e.v f.v).num.sign = ruleW k)
    (hF : 0 ≤ (if ruleF k < 0 then - cross f.A.v f.B.v p.v else cross f.A.v f.B.v p.v)) (hE : 0 ≤ (if ruleE k < 0 then - cross e.A.v e.B.v q.v else cross e.A.v e.B.v q.v)) : fitsB k e f n = true := by
  unfold twoB at ht
  simp only [Bool.and_eq_true, decide_eq_true_eq, bne_iff_ne, beq_iff_eq, Bool.not_eq_true', Bool.and_eq_false_iff, beq_eq_false_iff_ne] at ht
  obtain ⟨t1, t2, t3, t4, t5, t6⟩ := ht
  refine (fitsB_iff _ _ _ _).2 (points_fits h1 h2 t4 (fun h => t1 ((cmpP_zero _ _).2 h)) (fun h => t2 ((cmpP_zero _ _).2 h)) h6 (fun h => ?_) hp hq (fun h => t5 ((cmpP_zero _ _).2 h)) ((sqC_neg _ _ _).1 t6) hF hE)
  rcases t3 with t3 | t3
  · exact t3 ((sideOf_zero _ _ _).2 h.1)
  · exact t3 ((sideOf_zero _ _ _).2 h.2)
theorem two_12 {k n : Int} (hk : k = 1 ∨ k = 6) {e f : FSg} {p q : FP} (hp : e.v.on p.v) (hq : f.v.on q.v) (ht : twoB e f p q n = true) (hw : wayC e f < 0) (hF : 0 ≤ sideOf f.A f.B p) (hE : 0 ≤ sideOf e.A e.B q) : fitsB k e f n = true := by
  rw [wayC_neg] at hw
  rw [sideOf_nn] at hF hE
  rcases hk with rfl | rfl <;> exact two_fits (by omega) (by omega) hp hq ht hw hF hE
theorem two_34 {k n : Int} (hk : k = 2 ∨ k = 3 ∨ k = 4) {e f : FSg} {p q : FP} (hp : e.v.on p.v) (hq : f.v.on q.v) (ht : twoB e f p q n = true) (hw : wayC e f < 0) (hF : sideOf f.A f.B p ≤ 0) (hE : sideOf e.A e.B q ≤ 0) : fitsB k e f n = true := by
  rw [wayC_neg] at hw
  rw [sideOf_np] at hF hE
  rcases hk with rfl | rfl | rfl <;> exact two_fits (by omega) (by omega) hp hq ht hw hF hE
theorem two_5 {n : Int} {e f : FSg} {p q : FP} (hp : e.v.on p.v) (hq : f.v.on q.v) (ht : twoB e f p q n = true) (hw : 0 < wayC e f) (hF : 0 ≤ sideOf f.A f.B p) (hE : sideOf e.A e.B q ≤ 0) : fitsB 5 e f n = true := by
  rw [wayC_pos] at hw
  rw [sideOf_nn] at hF
  rw [sideOf_np] at hE
  exact two_fits (by omega) (by omega) hp hq ht hw hF hE
theorem fitsB_closer {k : Int} {e f : FSg} {n : Int} (h : fitsB k e f n = true) : closerB e f n = true :=
  (closerB_iff _ _ _).2 (fits_closer ((fitsB_iff _ _ _ _).1 h))

/-- A hundredth part of the way. -/
theorem on_part (s : FSg) {k : Nat} (h : k ≤ 100) : s.v.on (s.at (Rat.divInt k 100)).v := by
  refine (on_iff _ _).2 ⟨Rat.divInt k 100, ?_, ?_, rfl⟩
  · rw [Rat.divInt_eq_div, qle_div (by decide)]
    have : (0 : Rat) ≤ ((k : Int) : Rat) := Rat.intCast_nonneg.2 (by omega)
    grind
  · rw [Rat.divInt_eq_div, qdiv_le (by decide)]
    have : ((k : Int) : Rat) ≤ ((100 : Int) : Rat) := Rat.intCast_le_intCast.2 (by omega)
    grind
/-- Its numbers are those of a part of a way. -/
def HQ (p : FP) : Prop := HB p.x.q 85 25 ∧ HB p.y.q 85 25
theorem HQ.sz {p : FP} (h : HQ p) : szV p ≤ 8 := by
  have h1 := h.1.sz
  have h2 := h.2.sz
  unfold szV
  omega
theorem HQ.part {a b : Int × Int × Int} (ha : inD a) (hb : inD b) {k : Nat} (h : k ≤ 100) : HQ ((dotsF a b).at (Rat.divInt k 100)) := by
  have hk : HB (Rat.divInt k 100) 7 7 := HB.divInt (n := 7) (d := 7) (by omega) (by omega) (by omega)
  have a1 := HB.dot (d := a.2.2) ha.1
  have a2 := HB.dot (d := a.2.2) ha.2
  have b1 := HB.dot (d := b.2.2) hb.1
  have b2 := HB.dot (d := b.2.2) hb.2
  exact ⟨a1.add ((b1.sub a1 70 (by omega) (by omega)).mul hk) 84 (by omega) (by omega), a2.add ((b2.sub a2 70 (by omega) (by omega)).mul hk) 84 (by omega) (by omega)⟩
theorem HQ.sq {p q : FP} (hp : HQ p) (hq : HQ q) : szQ (sqP p q) ≤ 30 := by
  have h1 := hq.1.sub hp.1 110 (by omega) (by omega)
  have h2 := hq.2.sub hp.2 110 (by omega) (by omega)
  have h3 := (h1.mul h1).add (h2.mul h2) 322 (by omega) (by omega)
  have := h3.sz
  unfold sqP
  omega
theorem HP.dotq {a b c : FP} (ha : HP a) (hb : HP b) (hc : HP c) : szQ (Go.Fw.dot a.v b.v c.v) ≤ 30 := by
  have h1 := hb.1.sub ha.1 84 (by omega) (by omega)
  have h2 := hc.1.sub ha.1 84 (by omega) (by omega)
  have h3 := hb.2.sub ha.2 84 (by omega) (by omega)
  have h4 := hc.2.sub ha.2 84 (by omega) (by omega)
  have := ((h1.mul h2).add (h3.mul h4) 218 (by omega) (by omega)).sz
  unfold Go.Fw.dot
  show szQ ((b.x.q - a.x.q) * (c.x.q - a.x.q) + (b.y.q - a.y.q) * (c.y.q - a.y.q)) ≤ 30
  omega
end Go.Fw

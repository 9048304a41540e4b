/- The points beside a side's middle (plain): the law WindSides. -/
import Derived.Test.YtmmkclefdpmjlaaRp4
set_option linter.unusedSimpArgs false
set_option linter.unusedVariables false
namespace Go.Fw
open Go Go.Proofs
def upLV (a b : V2) : Bool := if sy b a = 0 then decide (sx b a < 0) else true
def upRV (a b : V2) : Bool := if sy b a = 0 then !decide (sx b a < 0) else true
def lfLV (a b : V2) : Bool := if sy b a = 0 then false else decide (sy b a < 0)
def lfRV (a b : V2) : Bool := if sy b a = 0 then false else decide (0 < sy b a)
def wantV (a b m A B : V2) : Int := if (Sg.mk A B).on m then (if cmpV A B = cmpV a b then 1 else -1) else 0
def chiV (a b m v : V2) : Int := if sy b a = 0 then (if sx b a < 0 then psiS (sx m v) (sy m v) else -psiS (sx m v) (sy m v)) else 0
theorem sg_neg {q : Rat} : sgQ q < 0 ↔ q < 0 := by
  rcases sgQ_cases q with ⟨h, e⟩ | ⟨h, e⟩ | ⟨h, e⟩ <;> rw [e] <;> constructor <;> intro k <;> first | exact h | (exfalso; grind) | omega
theorem sg_pos {q : Rat} : 0 < sgQ q ↔ 0 < q := by
  rcases sgQ_cases q with ⟨h, e⟩ | ⟨h, e⟩ | ⟨h, e⟩ <;> rw [e] <;> constructor <;> intro k <;> first | exact h | (exfalso; grind) | omega
theorem psi_one {m v : V2} (h1 : v.y = m.y) (h2 : m.x < v.x) : psiS (sx m v) (sy m v) = 1 := by
  unfold psiS
  rw [if_pos ⟨sgQ_zero.2 (by grind), sg_pos.2 (by grind)⟩]
theorem psi_zero {m v : V2} (h2 : v.x < m.x) : psiS (sx m v) (sy m v) = 0 := by
  unfold psiS
  rw [if_neg]
  rintro ⟨_, h⟩
  have := sg_pos.1 h
  grind
theorem way_up {A B m : V2} {l : Rat} (hl : 0 < l) (hl1 : l < 1) (hm : m.y = A.y + (B.y - A.y) * l) (h : A.y < B.y) : sy m A = -1 ∧ sy m B = 1 := by
  have h1 := Rat.mul_pos (a := B.y - A.y) (b := l) (by grind) hl
  have h2 := Rat.mul_pos (a := B.y - A.y) (b := 1 - l) (by grind) (by grind)
  exact ⟨sgQ_neg1.2 (by grind), sgQ_pos.2 (by grind)⟩
theorem way_down {A B m : V2} {l : Rat} (hl : 0 < l) (hl1 : l < 1) (hm : m.y = A.y + (B.y - A.y) * l) (h : B.y < A.y) : sy m A = 1 ∧ sy m B = -1 := by
  have h1 := Rat.mul_pos (a := A.y - B.y) (b := l) (by grind) hl
  have h2 := Rat.mul_pos (a := A.y - B.y) (b := 1 - l) (by grind) (by grind)
  exact ⟨sgQ_pos.2 (by grind), sgQ_neg1.2 (by grind)⟩
theorem way_x {A B m : V2} {l : Rat} (hl : 0 < l) (hl1 : l < 1) (hm : m.x = A.x + (B.x - A.x) * l) : (A.x < B.x → A.x < m.x ∧ m.x < B.x) ∧ (B.x < A.x → B.x < m.x ∧ m.x < A.x) := by
  constructor
  · intro h
    have h1 := Rat.mul_pos (a := B.x - A.x) (b := l) (by grind) hl
    have h2 := Rat.mul_pos (a := B.x - A.x) (b := 1 - l) (by grind) (by grind)
    exact ⟨by grind, by grind⟩
  · intro h
    have h1 := Rat.mul_pos (a := A.x - B.x) (b := l) (by grind) hl
    have h2 := Rat.mul_pos (a := A.x - B.x) (b := 1 - l) (by grind) (by grind)
    exact ⟨by grind, by grind⟩
theorem side_diff {a b m A B : V2} (hab : a ≠ b) (hm : cross a b m = 0) (hA : (Sg.mk A B).on m → cross a b A = 0 ∧ cross a b B = 0) (hno : (Sg.mk A B).on m → A ≠ m ∧ B ≠ m) :
    passV A B m (upLV a b) (lfLV a b) - passV A B m (upRV a b) (lfRV a b) = wantV a b m A B + (chiV a b m A - chiV a b m B) := by
  have hs := sgQ_cases (a.y - b.y)
  by_cases on : (Sg.mk A B).on m
  · have al : Along a b m A B := ⟨hab, (hA on).1, (hA on).2, hm, on, (hno on).1, (hno on).2⟩
    obtain ⟨l, hl0, hl1, hml⟩ := al.part
    obtain ⟨c, hc, hx, hy⟩ := al.dir
    obtain ⟨d1, d2⟩ := cmpV_dir hab hx hy
    have hmx := congrArg V2.x hml
    have hmy := congrArg V2.y hml
    simp only [Sg.pt] at hmx hmy
    have hk : sk A B m = 0 := ((on_signs A B m).1 on).1
    unfold wantV
    rw [if_pos on]
    rcases hs with ⟨h, e⟩ | ⟨h, e⟩ | ⟨h, e⟩
    · -- up
      have e' : sy b a = -1 := e
      have u1 : upLV a b = true := by unfold upLV; rw [e']; rfl
      have u2 : upRV a b = true := by unfold upRV; rw [e']; rfl
      have u3 : lfLV a b = true := by unfold lfLV; rw [e']; rfl
      have u4 : lfRV a b = false := by unfold lfRV; rw [e']; rfl
      have u5 : ∀ v, chiV a b m v = 0 := fun v => by unfold chiV; rw [e']; rfl
      rw [u1, u2, u3, u4, u5, u5]
      unfold passV
      rw [hk]
      rcases sgQ_cases c with ⟨hcn, _⟩ | ⟨hcz, _⟩ | ⟨hcp, _⟩
      · have := Rat.mul_pos (a := -c) (b := b.y - a.y) (by grind) (by grind)
        obtain ⟨w1, w2⟩ := way_down hl0 hl1 hmy (by grind)
        rw [w1, w2, if_neg (d2 hcn)]
        decide
      · exact absurd hcz hc
      · have := Rat.mul_pos (a := c) (b := b.y - a.y) hcp (by grind)
        obtain ⟨w1, w2⟩ := way_up hl0 hl1 hmy (by grind)
        rw [w1, w2, if_pos (d1 hcp)]
        decide
    · -- flat
      have e' : sy b a = 0 := e
      have hAB : B.y = A.y := by have : b.y - a.y = 0 := by grind
                                 rw [this, Rat.mul_zero] at hy; grind
      have hmA : m.y = A.y := by rw [hmy, hAB]; grind
      have s1 : sy m A = 0 := sgQ_zero.2 (by grind)
      have s2 : sy m B = 0 := sgQ_zero.2 (by grind)
      have p0 : ∀ u v, passV A B m u v = 0 := fun u v => by
        unfold passV
        rw [s1, s2, hk]
        cases u <;> cases v <;> decide
      rw [p0, p0]
      obtain ⟨x1, x2⟩ := way_x hl0 hl1 hmx
      have hxab : a.x ≠ b.x := fun k => hab (V2.ext' k (by grind))
      unfold chiV
      rw [if_pos e', if_pos e']
      by_cases east : sx b a < 0
      · have hab' : a.x < b.x := by have := sg_neg.1 east; grind
        rw [if_pos east, if_pos east]
        rcases sgQ_cases c with ⟨hcn, _⟩ | ⟨hcz, _⟩ | ⟨hcp, _⟩
        · have := Rat.mul_pos (a := -c) (b := b.x - a.x) (by grind) (by grind)
          have hlt : B.x < A.x := by grind
          obtain ⟨y1, y2⟩ := x2 hlt
          rw [if_neg (d2 hcn), psi_one (v := A) (by grind) y2, psi_zero (v := B) y1]
          rfl
        · exact absurd hcz hc
        · have := Rat.mul_pos (a := c) (b := b.x - a.x) hcp (by grind)
          have hlt : A.x < B.x := by grind
          obtain ⟨y1, y2⟩ := x1 hlt
          rw [if_pos (d1 hcp), psi_zero (v := A) y1, psi_one (v := B) (by grind) y2]
          rfl
      · have hab' : b.x < a.x := by
          have h1 : ¬ a.x - b.x < 0 := fun k => east (sg_neg.2 k)
          grind
        rw [if_neg east, if_neg east]
        rcases sgQ_cases c with ⟨hcn, _⟩ | ⟨hcz, _⟩ | ⟨hcp, _⟩
        · have := Rat.mul_pos (a := -c) (b := a.x - b.x) (by grind) (by grind)
          have hlt : A.x < B.x := by grind
          obtain ⟨y1, y2⟩ := x1 hlt
          rw [if_neg (d2 hcn), psi_zero (v := A) y1, psi_one (v := B) (by grind) y2]
          rfl
        · exact absurd hcz hc
        · have := Rat.mul_pos (a := c) (b := a.x - b.x) hcp (by grind)
          have hlt : B.x < A.x := by grind
          obtain ⟨y1, y2⟩ := x2 hlt
          rw [if_pos (d1 hcp), psi_one (v := A) (by grind) y2, psi_zero (v := B) y1]
          rfl
    · -- down
      have e' : sy b a = 1 := e
      have u1 : upLV a b = true := by unfold upLV; rw [e']; rfl
      have u2 : upRV a b = true := by unfold upRV; rw [e']; rfl
      have u3 : lfLV a b = false := by unfold lfLV; rw [e']; rfl
      have u4 : lfRV a b = true := by unfold lfRV; rw [e']; rfl
      have u5 : ∀ v, chiV a b m v = 0 := fun v => by unfold chiV; rw [e']; rfl
      rw [u1, u2, u3, u4, u5, u5]
      unfold passV
      rw [hk]
      rcases sgQ_cases c with ⟨hcn, _⟩ | ⟨hcz, _⟩ | ⟨hcp, _⟩
      · have := Rat.mul_pos (a := -c) (b := a.y - b.y) (by grind) (by grind)
        obtain ⟨w1, w2⟩ := way_up hl0 hl1 hmy (by grind)
        rw [w1, w2, if_neg (d2 hcn)]
        decide
      · exact absurd hcz hc
      · have := Rat.mul_pos (a := c) (b := a.y - b.y) hcp (by grind)
        obtain ⟨w1, w2⟩ := way_down hl0 hl1 hmy (by grind)
        rw [w1, w2, if_pos (d1 hcp)]
        decide
  · unfold wantV
    rw [if_neg on]
    rcases hs with ⟨h, e⟩ | ⟨h, e⟩ | ⟨h, e⟩
    · have e' : sy b a = -1 := e
      have u1 : upLV a b = true := by unfold upLV; rw [e']; rfl
      have u2 : upRV a b = true := by unfold upRV; rw [e']; rfl
      have u3 : lfLV a b = true := by unfold lfLV; rw [e']; rfl
      have u4 : lfRV a b = false := by unfold lfRV; rw [e']; rfl
      have u5 : ∀ v, chiV a b m v = 0 := fun v => by unfold chiV; rw [e']; rfl
      rw [u1, u2, u3, u4, u5, u5, pass_same on]
      omega
    · have e' : sy b a = 0 := e
      have f := pass_flat on
      unfold chiV
      rw [if_pos e', if_pos e']
      have u3 : lfLV a b = false := by unfold lfLV; rw [e']; rfl
      have u4 : lfRV a b = false := by unfold lfRV; rw [e']; rfl
      by_cases east : sx b a < 0
      · have u1 : upLV a b = true := by unfold upLV; rw [if_pos e', decide_eq_true east]
        have u2 : upRV a b = false := by unfold upRV; rw [if_pos e', decide_eq_true east]; rfl
        rw [u1, u2, u3, u4, if_pos east, if_pos east]
        omega
      · have u1 : upLV a b = false := by unfold upLV; rw [if_pos e', decide_eq_false east]
        have u2 : upRV a b = true := by unfold upRV; rw [if_pos e', decide_eq_false east]; rfl
        rw [u1, u2, u3, u4, if_neg east, if_neg east]
        omega
    · have e' : sy b a = 1 := e
      have u1 : upLV a b = true := by unfold upLV; rw [e']; rfl
      have u2 : upRV a b = true := by unfold upRV; rw [e']; rfl
      have u3 : lfLV a b = false := by unfold lfLV; rw [e']; rfl
      have u4 : lfRV a b = true := by unfold lfRV; rw [e']; rfl
      have u5 : ∀ v, chiV a b m v = 0 := fun v => by unfold chiV; rw [e']; rfl
      rw [u1, u2, u3, u4, u5, u5, pass_same on]
      omega
theorem sides_diff (l : List V2) {a b m : V2} (hab : a ≠ b) (hm : cross a b m = 0) (hA : ∀ i, i < l.length → hitV l m i → cross a b (l.getD i vnil) = 0 ∧ cross a b (l.getD ((i + 1) % l.length) vnil) = 0) (hno : ∀ i, i < l.length → hitV l m i → l.getD i vnil ≠ m ∧ l.getD ((i + 1) % l.length) vnil ≠ m) :
    ringS (fun A B => passV A B m (upLV a b) (lfLV a b)) l - ringS (fun A B => passV A B m (upRV a b) (lfRV a b)) l = sideS vnil (wantV a b m) l (List.range l.length) := by
  have e1 : sideS vnil (fun A B => passV A B m (upLV a b) (lfLV a b) + -passV A B m (upRV a b) (lfRV a b)) l (List.range l.length) = sideS vnil (fun A B => wantV a b m A B + (-chiV a b m B - -chiV a b m A)) l (List.range l.length) := by
    refine sideS_congr vnil _ _ l _ fun i hi => ?_
    have hi' := List.mem_range.1 hi
    have := side_diff hab hm (hA i hi') (hno i hi')
    omega
  rw [sideS_ring, sideS_ring, ringS_add (fun A B => passV A B m (upLV a b) (lfLV a b)) (fun A B => -passV A B m (upRV a b) (lfRV a b)), ringS_neg, ringS_add (wantV a b m) (fun A B => -chiV a b m B - -chiV a b m A), ringS_tele (fun v => -chiV a b m v)] at e1
  rw [sideS_ring]
  omega
end Go.Fw

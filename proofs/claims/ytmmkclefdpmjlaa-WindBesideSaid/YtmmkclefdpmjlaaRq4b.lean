import Derived.Test.YtmmkclefdpmjlaaRp7b
import Derived.Test.YtmmkclefdpmjlaaRp5b
import Derived.Test.YtmmkclefdpmjlaaRi1b
import Derived.Test.YtmmkclefdpmjlaaW4b
import Derived.Test.YtmmkclefdpmjlaaLs
import Derived.Test.YtmmkclefdpmjlaaU1b
set_option linter.unusedSimpArgs false
set_option linter.unusedVariables false
namespace Go.Fw
open Go Go.Proofs
theorem parts_q : ∀ k, 0 < (parts k).d ∧ 0 < (parts k).q
  | 0 => ⟨by decide, by decide +kernel⟩
  | k + 1 => by
    obtain ⟨h1, h2⟩ := parts_q k
    obtain ⟨h3, h4⟩ := mulD_q (b := ⟨1, 16⟩) h1 (by decide)
    refine ⟨h4, ?_⟩
    show 0 < (mulD (parts k) ⟨1, 16⟩).q
    rw [h3]
    exact Rat.mul_pos h2 (by decide +kernel)
theorem stp_v {a b : DP} {r : RD} (ha : 0 < a.w) (hb : 0 < b.w) (hr : 0 < r.d) : (stpD a b r).v = offD (mid3 a b).v (b.v.x - a.v.x) (b.v.y - a.v.y) r.q ∧ 0 < (stpD a b r).w := by
  have hm := mid3_w ha hb
  have x1 := subD_q (a := rdX b) (b := rdX a) hb ha
  have y1 := subD_q (a := rdY b) (b := rdY a) hb ha
  have x2 := mulD_q hr x1.2
  have y2 := mulD_q hr y1.2
  have x3 := subD_q (a := rdX (mid3 a b)) hm y2.2
  have y3 := addD_q (a := rdY (mid3 a b)) hm x2.2
  have hX : (stpX a b r).q = (mid3 a b).v.x - r.q * (b.v.y - a.v.y) := by
    show (subD (rdX (mid3 a b)) (mulD r (subD (rdY b) (rdY a)))).q = _
    rw [x3.1, y2.1, y1.1]
    rfl
  have hY : (stpY a b r).q = (mid3 a b).v.y + r.q * (b.v.x - a.v.x) := by
    show (addD (rdY (mid3 a b)) (mulD r (subD (rdX b) (rdX a)))).q = _
    rw [y3.1, x2.1, x1.1]
    rfl
  have dX : 0 < (stpX a b r).d := x3.2
  have dY : 0 < (stpY a b r).d := y3.2
  have dd := Int.mul_pos dX dY
  refine ⟨?_, dd⟩
  have e1 : (stpD a b r).v.x = (stpX a b r).q := by
    show (RD.mk ((stpX a b r).n * (stpY a b r).d) ((stpX a b r).d * (stpY a b r).d)).q = _
    refine q_of dd ?_
    rw [Rat.intCast_mul, Rat.intCast_mul, (stpX a b r).hn dX]
    grind
  have e2 : (stpD a b r).v.y = (stpY a b r).q := by
    show (RD.mk ((stpY a b r).n * (stpX a b r).d) ((stpX a b r).d * (stpY a b r).d)).q = _
    refine q_of dd ?_
    rw [Rat.intCast_mul, Rat.intCast_mul, (stpY a b r).hn dY]
    grind
  exact V2.ext' (by rw [e1, hX]; rfl) (by rw [e2, hY]; rfl)
theorem no_meet {s t : Sg} (h : meet s t = []) (X : V2) (h1 : s.on X) : ¬ t.on X := fun h2 => by
  have := (meet_iff s t X).2 ⟨h1, h2⟩
  rw [h] at this
  exact this
theorem on_line {a b m A : V2} (hab : a ≠ b) (hm : m = ⟨(a.x + b.x) * Rat.divInt 1 2, (a.y + b.y) * Rat.divInt 1 2⟩) (h : cross a b A = 0) : ∃ al, A = onD m (b.x - a.x) (b.y - a.y) al := by
  obtain ⟨u, hu⟩ := line_at (s := ⟨a, b⟩) hab h
  have h2 : Rat.divInt 1 2 = 1 / 2 := by rw [Rat.divInt_eq_div]; rfl
  refine ⟨u - 1 / 2, ?_⟩
  rw [hu, hm, h2]
  refine V2.ext' ?_ ?_
  · simp only [Sg.pt, onD]; grind
  · simp only [Sg.pt, onD]; grind
theorem off_not {m : V2} {dx dy t al be : Rat} (ht : 0 < t) (h : ¬ (dx = 0 ∧ dy = 0)) : ¬ (Sg.mk (onD m dx dy al) (onD m dx dy be)).on (offD m dx dy t) := by
  intro hit
  obtain ⟨u, _, _, h3⟩ := (on_iff _ _).1 hit
  simp only [Sg.pt, onD, offD] at h3
  have hx := congrArg V2.x h3
  have hy := congrArg V2.y h3
  simp only at hx hy
  have hp := Rat.mul_pos ht (sq2_pos h)
  obtain ⟨c, hc⟩ : ∃ c, c = al + (be - al) * u := ⟨_, rfl⟩
  have k1 : -(t * dy) = c * dx := by rw [hc]; grind
  have k2 : t * dx = c * dy := by rw [hc]; grind
  have k3 : t * (dx * dx + dy * dy) = (t * dx) * dx + (t * dy) * dy := by grind
  rw [k3, k2] at hp
  have k4 : (t * dy) * dy = -(c * dx) * dy := by rw [← k1]; grind
  rw [k4] at hp
  grind
theorem left_one (l : List DP) (hw : ∀ p ∈ l, 0 < p.w) (a b : DP) (ha : 0 < a.w) (hb : 0 < b.w) (hab : a.v ≠ b.v) (k : Nat) (hfree : freeAll l a b k = true) :
    (around3 l (stepP a b k)).1 = ringS (fun A B => passV A B (mid3 a b).v (upLV a.v b.v) (lfLV a.v b.v)) (vsD l) := by
  obtain ⟨hd, ht⟩ := parts_q k
  obtain ⟨hv, hpw⟩ := stp_v (r := parts k) ha hb hd
  have hm := mid3_w ha hb
  have hmv := mid3_v ha hb
  have hlen : (vsD l).length = l.length := by unfold vsD; rw [List.length_map]
  have hget : ∀ i, (vsD l).getD i vnil = (l.getD i nilD).v := fun i => map_getD nilD vnil DP.v nilD_v _ i
  have hpv : (stepP a b k).v = offD (mid3 a b).v (b.v.x - a.v.x) (b.v.y - a.v.y) (parts k).q := hv
  have hne : ¬ (b.v.x - a.v.x = 0 ∧ b.v.y - a.v.y = 0) := fun h => hab (V2.ext' (by grind) (by grind))
  have hside : ∀ i, i < l.length → (∃ al be, (l.getD i nilD).v = onD (mid3 a b).v (b.v.x - a.v.x) (b.v.y - a.v.y) al ∧ (l.getD ((i + 1) % l.length) nilD).v = onD (mid3 a b).v (b.v.x - a.v.x) (b.v.y - a.v.y) be) ∨
      (∀ X, (Sg.mk (mid3 a b).v (offD (mid3 a b).v (b.v.x - a.v.x) (b.v.y - a.v.y) (parts k).q)).on X → ¬ (Sg.mk (l.getD i nilD).v (l.getD ((i + 1) % l.length) nilD).v).on X) := by
    intro i hi
    have hf := List.all_eq_true.1 hfree i (List.mem_range.2 hi)
    unfold freeAt at hf
    have wA := DW.at hw i
    have wB := DW.at hw ((i + 1) % l.length)
    rcases (Bool.or_eq_true _ _).mp hf with h | h
    · unfold alongB at h
      rw [Bool.and_eq_true, decide_eq_true_eq, decide_eq_true_eq, side3_sk ha hb wA, side3_sk ha hb wB] at h
      obtain ⟨al, hal⟩ := on_line hab hmv (sgQ_zero.1 h.1)
      obtain ⟨be, hbe⟩ := on_line hab hmv (sgQ_zero.1 h.2)
      exact .inl ⟨al, be, hal, hbe⟩
    · have h0 := of_decide_eq_true h
      have hme := (meetR_v hm hpw wA wB).1
      have h1 : meet ⟨(mid3 a b).v, (stpD a b (parts k)).v⟩ ⟨(l.getD i nilD).v, (l.getD ((i + 1) % l.length) nilD).v⟩ = [] := by
        rw [← hme]
        have : meetR (mid3 a b) (stpD a b (parts k)) (l.getD i nilD) (l.getD ((i + 1) % l.length) nilD) = [] := List.eq_nil_of_length_eq_zero h0
        rw [this]; rfl
      rw [hv] at h1
      exact .inr fun X hX => no_meet h1 X hX
  have hno : ∀ i, i < l.length → ¬ hitV (vsD l) (stepP a b k).v i := by
    intro i hi hit
    unfold hitV at hit
    rw [hget, hget, hlen, hpv] at hit
    rcases hside i hi with ⟨al, be, e1, e2⟩ | h
    · rw [e1, e2] at hit
      exact off_not ht hne hit
    · exact h _ (on_last _ _) hit
  have har : around3 l (stepP a b k) = _ := around3_no hw (show 0 < (stepP a b k).w from hpw) hno
  rw [har]
  show ringS (fun A B => passV A B (stepP a b k).v true false) (vsD l) = _
  have e1 : sideS vnil (fun A B => passV A B (stepP a b k).v true false + -passV A B (mid3 a b).v (upLV a.v b.v) (lfLV a.v b.v)) (vsD l) (List.range (vsD l).length) = sideS vnil (fun A B => goH (mid3 a b).v (b.v.x - a.v.x) (b.v.y - a.v.y) (parts k).q B - goH (mid3 a b).v (b.v.x - a.v.x) (b.v.y - a.v.y) (parts k).q A) (vsD l) (List.range (vsD l).length) := by
    refine sideS_congr vnil _ _ (vsD l) _ fun i hi => ?_
    have hi' := List.mem_range.1 hi
    rw [hlen] at hi' ⊢
    rw [hget, hget, hpv]
    have := side_step ht hab (hside i hi')
    omega
  rw [sideS_ring, sideS_ring, ringS_add (fun A B => passV A B (stepP a b k).v true false) (fun A B => -passV A B (mid3 a b).v (upLV a.v b.v) (lfLV a.v b.v)), ringS_neg, ringS_tele (goH (mid3 a b).v (b.v.x - a.v.x) (b.v.y - a.v.y) (parts k).q)] at e1
  omega
end Go.Fw
namespace Go.Fw
open Go Go.Proofs
theorem num_eq (q : Rat) : q * (q.den : Rat) = (q.num : Rat) := by
  have h := (RD.mk q.num q.den).hn (by have := q.den_pos; show (0 : Int) < q.den; omega)
  have e : (RD.mk q.num q.den).q = q := Rat.num_divInt_den q
  rw [e] at h
  have e2 : (((q.den : Int)) : Rat) = (q.den : Rat) := rfl
  rw [← e2]
  exact h.symm
def VB (p : V2) (n d : Nat) : Prop := HB p.x n d ∧ HB p.y n d
theorem HB.min {a b : Rat} {n d : Nat} (ha : HB a n d) (hb : HB b n d) : HB (Min.min a b) n d := by
  rcases Rat.le_total (a := a) (b := b) with h | h
  · rw [Rat.min_def, if_pos h]; exact ha
  · by_cases k : a ≤ b
    · rw [Rat.min_def, if_pos k]; exact ha
    · rw [Rat.min_def, if_neg k]; exact hb
theorem sqD_bits {p q : V2} {n1 d1 n2 d2 : Nat} (hp : VB p n1 d1) (hq : VB q n2 d2) (n : Nat) (h1 : n1 + d2 ≤ n) (h2 : n2 + d1 ≤ n) : HB (sqD p q) (2 * (n + 1) + 2 * (d1 + d2) + 1) (4 * (d1 + d2)) := by
  have x := hp.1.sub hq.1 n h1 h2
  have y := hp.2.sub hq.2 n h1 h2
  have := (x.mul x).add (y.mul y) (2 * (n + 1) + 2 * (d1 + d2)) (by omega) (by omega)
  have e : sqD p q = (p.x - q.x) * (p.x - q.x) + (p.y - q.y) * (p.y - q.y) := by unfold sqD; grind
  rw [e]
  exact this.mono (by omega) (by omega)
theorem toD_bits {A B m : V2} (hA : VB A 64 1) (hB : VB B 64 1) (hm : VB m 73 15) : HB (toD ⟨A, B⟩ m) 400 300 := by
  unfold toD
  split
  · have x1 := hB.1.sub hA.1 65 (by omega) (by omega)
    have y1 := hB.2.sub hA.2 65 (by omega) (by omega)
    have x2 := hm.1.sub hA.1 79 (by omega) (by omega)
    have y2 := hm.2.sub hA.2 79 (by omega) (by omega)
    have c := (x1.mul y2).sub (y1.mul x2) 180 (by omega) (by omega)
    have hc : HB (cross A B m) 181 36 := c.mono (by omega) (by omega)
    have s := sqD_bits hA hB 65 (by omega) (by omega)
    exact ((hc.mul hc).div s).mono (by omega) (by omega)
  · exact ((sqD_bits hA hm 79 (by omega) (by omega)).mono (by omega) (by omega)).min ((sqD_bits hB hm 79 (by omega) (by omega)).mono (by omega) (by omega))
theorem HB.low {q : Rat} {n d : Nat} (h : HB q n d) (hq : 0 < q) : 1 ≤ q * ((2 ^ d : Nat) : Rat) := by
  have hn : 0 < q.num := by
    have h0 : 0 ≤ q.num := Rat.num_nonneg.2 (by grind)
    have h1 : q.num ≠ 0 := fun k => by have := Rat.num_eq_zero.1 k; grind
    omega
  have hd : (0 : Rat) < (q.den : Rat) := Rat.natCast_pos.2 q.den_pos
  have e : q * (q.den : Rat) = (q.num : Rat) := num_eq q
  have h1 : (1 : Rat) ≤ (q.num : Rat) := by
    have : ((1 : Int) : Rat) ≤ (q.num : Rat) := Rat.intCast_le_intCast.2 (by omega)
    exact this
  have h2 : (q.den : Rat) ≤ ((2 ^ d : Nat) : Rat) := Rat.natCast_le_natCast.2 (Nat.le_of_lt h.2)
  have h3 := Rat.mul_nonneg (a := q) (b := ((2 ^ d : Nat) : Rat) - (q.den : Rat)) (by grind) (by grind)
  grind
theorem HB.high {q : Rat} {n d : Nat} (h : HB q n d) (hq : 0 ≤ q) : q ≤ ((2 ^ n : Nat) : Rat) := by
  have hn : 0 ≤ q.num := Rat.num_nonneg.2 hq
  have hd : (1 : Rat) ≤ (q.den : Rat) := by
    have : ((1 : Nat) : Rat) ≤ (q.den : Rat) := Rat.natCast_le_natCast.2 q.den_pos
    exact this
  have e : q * (q.den : Rat) = (q.num : Rat) := num_eq q
  have h1 : (q.num : Rat) ≤ ((2 ^ n : Nat) : Rat) := by
    have h2 := h.1
    have : (q.num : Rat) ≤ (((2 ^ n : Nat) : Int) : Rat) := Rat.intCast_le_intCast.2 (by omega)
    exact this
  have h3 := Rat.mul_nonneg (a := q) (b := (q.den : Rat) - 1) hq (by grind)
  grind
theorem parts_small : ∀ k, (parts k).q * ((2 ^ k : Nat) : Rat) ≤ 1
  | 0 => by decide +kernel
  | k + 1 => by
    have ih := parts_small k
    obtain ⟨h1, h2⟩ := parts_q k
    have h3 := (mulD_q (b := ⟨1, 16⟩) h1 (by decide)).1
    have e : (parts (k + 1)).q = (parts k).q * Rat.divInt 1 16 := h3
    have h16 : Rat.divInt 1 16 = 1 / 16 := by rw [Rat.divInt_eq_div]; rfl
    have ep : ((2 ^ (k + 1) : Nat) : Rat) = ((2 ^ k : Nat) : Rat) * 2 := by rw [Nat.pow_succ, Rat.natCast_mul]; rfl
    rw [e, h16, ep]
    grind
end Go.Fw
namespace Go.Fw
open Go Go.Proofs
theorem far_free {A B m : V2} {dx dy : Rat} (hA : VB A 64 1) (hB : VB B 64 1) (hm : VB m 73 15) (hn : HB (dx * dx + dy * dy) 170 60) (hd0 : 0 ≤ dx * dx + dy * dy) (hno : ¬ (Sg.mk A B).on m) (X : V2) (hX : (Sg.mk m (offD m dx dy (parts 299).q)).on X) : ¬ (Sg.mk A B).on X := by
  intro hX2
  obtain ⟨u, hu0, hu1, hu⟩ := (on_iff _ _).1 hX
  obtain ⟨Q, hQ1, hQ2⟩ := toD_att ⟨A, B⟩ m
  have hpos : 0 < toD ⟨A, B⟩ m := by
    have h1 := sqD_nn Q m
    by_cases k : toD ⟨A, B⟩ m = 0
    · rw [k] at hQ2
      rw [sqD_zero hQ2] at hQ1
      exact absurd hQ1 hno
    · grind
  have h1 := (toD_bits hA hB hm).low hpos
  have h2 := toD_le ⟨A, B⟩ m X hX2
  obtain ⟨hdp, htp⟩ := parts_q 299
  have h3 := parts_small 299
  obtain ⟨t, ht⟩ : ∃ t, t = (parts 299).q := ⟨_, rfl⟩
  rw [← ht] at htp h3 hu
  obtain ⟨s, hs⟩ : ∃ s, s = dx * dx + dy * dy := ⟨_, rfl⟩
  have e1 : sqD X m = (u * t) * (u * t) * s := by
    rw [hu, hs]
    unfold sqD Sg.pt offD
    simp only
    grind
  rw [← hs] at hn hd0
  have h4 := hn.high hd0
  -- (u t)^2 s <= t^2 2^170, t 2^299 <= 1
  have ut0 : 0 ≤ u * t := Rat.mul_nonneg hu0 (by grind)
  have ut1 : u * t ≤ t := by
    have := Rat.mul_nonneg (a := 1 - u) (b := t) (by grind) (by grind)
    grind
  obtain ⟨w, hw⟩ : ∃ w, w = u * t := ⟨_, rfl⟩
  rw [← hw] at e1 ut0 ut1
  obtain ⟨P, hP⟩ : ∃ P : Rat, P = ((2 ^ 299 : Nat) : Rat) := ⟨_, rfl⟩
  have hPp : 0 < P := by rw [hP]; decide +kernel
  have c1 : ((2 ^ 300 : Nat) : Rat) * ((2 ^ 170 : Nat) : Rat) < P * P := by rw [hP]; decide +kernel
  rw [← hP] at h3
  have hwP : w * P ≤ 1 := by
    have := Rat.mul_nonneg (a := t - w) (b := P) (by grind) (by grind)
    grind
  have hwP0 : 0 ≤ w * P := Rat.mul_nonneg ut0 (by grind)
  have hwP2 : (w * P) * (w * P) ≤ 1 := by
    have := Rat.mul_nonneg (a := w * P) (b := 1 - w * P) hwP0 (by grind)
    grind
  have C0 : (0 : Rat) < ((2 ^ 300 : Nat) : Rat) := by decide +kernel
  generalize ((2 ^ 300 : Nat) : Rat) = C at *
  generalize ((2 ^ 170 : Nat) : Rat) = E at *
  have hs1 := Rat.mul_nonneg (a := w * w) (b := E - s) (Rat.mul_nonneg ut0 ut0) (by grind)
  rw [e1] at h2
  have g1 := Rat.mul_nonneg (a := w * w * s - toD ⟨A, B⟩ m) (b := C) (by grind) (by grind)
  have g2 := Rat.mul_nonneg (a := w * w * (E - s)) (b := C) hs1 (by grind)
  have hww : 0 ≤ w * w := Rat.mul_nonneg ut0 ut0
  have g3 := Rat.mul_nonneg (a := w * w) (b := P * P - C * E) hww (by grind)
  by_cases hz : w * w = 0
  · rw [hz] at g1 g2
    grind
  · have g4 := Rat.mul_pos (a := w * w) (b := P * P - C * E) (by grind) (by grind)
    grind
theorem leftFrom_all (l : List DP) (a b : DP) (V : Int) (hv : ∀ k, freeAll l a b k = true → (around3 l (stepP a b k)).1 = V) : ∀ f k, (∃ j, k ≤ j ∧ j < k + f ∧ freeAll l a b j = true) → leftFrom l a b f k = V
  | 0, k, ⟨j, h1, h2, _⟩ => by omega
  | f + 1, k, ⟨j, h1, h2, h3⟩ => by
    show (if freeAll l a b k = true then (around3 l (stepP a b k)).1 else leftFrom l a b f (k + 1)) = V
    by_cases h : freeAll l a b k = true
    · rw [if_pos h]; exact hv k h
    · rw [if_neg h]
      refine leftFrom_all l a b V hv f (k + 1) ⟨j, ?_, by omega, h3⟩
      by_cases e : j = k
      · subst e; exact absurd h3 h
      · omega
theorem left3_v (l : List DP) (hw : ∀ p ∈ l, 0 < p.w) (hl : ∀ p ∈ l, VB p.v 64 1) (a b : DP) (ha : 0 < a.w) (hb : 0 < b.w) (hab : a.v ≠ b.v) (hm : VB (mid3 a b).v 73 15)
    (hn : HB ((b.v.x - a.v.x) * (b.v.x - a.v.x) + (b.v.y - a.v.y) * (b.v.y - a.v.y)) 170 60)
    (hfair : ∀ i, i < l.length → hitV (vsD l) (mid3 a b).v i → cross a.v b.v (l.getD i nilD).v = 0 ∧ cross a.v b.v (l.getD ((i + 1) % l.length) nilD).v = 0) :
    left3 l a b = ringS (fun A B => passV A B (mid3 a b).v (upLV a.v b.v) (lfLV a.v b.v)) (vsD l) := by
  refine leftFrom_all l a b _ (fun k h => left_one l hw a b ha hb hab k h) 300 0 ⟨299, by omega, by omega, ?_⟩
  refine List.all_eq_true.2 fun i hi => ?_
  have hi' := List.mem_range.1 hi
  have wA := DW.at hw i
  have wB := DW.at hw ((i + 1) % l.length)
  obtain ⟨hd, ht⟩ := parts_q 299
  obtain ⟨hv, hpw⟩ := stp_v (r := parts 299) ha hb hd
  unfold freeAt
  rw [Bool.or_eq_true]
  by_cases al : alongB a b (l.getD i nilD) (l.getD ((i + 1) % l.length) nilD) = true
  · exact .inl al
  · right
    have hlen : (vsD l).length = l.length := by unfold vsD; rw [List.length_map]
    have hget : ∀ i, (vsD l).getD i vnil = (l.getD i nilD).v := fun i => map_getD nilD vnil DP.v nilD_v _ i
    have hno : ¬ (Sg.mk (l.getD i nilD).v (l.getD ((i + 1) % l.length) nilD).v).on (mid3 a b).v := fun h => al (by
      have hh : hitV (vsD l) (mid3 a b).v i := by unfold hitV; rw [hget, hget, hlen]; exact h
      obtain ⟨c1, c2⟩ := hfair i hi' hh
      unfold alongB
      rw [side3_sk ha hb wA, side3_sk ha hb wB]
      have d1 : sk a.v b.v (l.getD i nilD).v = 0 := sgQ_zero.2 c1
      have d2 : sk a.v b.v (l.getD ((i + 1) % l.length) nilD).v = 0 := sgQ_zero.2 c2
      rw [d1, d2]; rfl)
    have vb : ∀ i, i < l.length → VB (l.getD i nilD).v 64 1 := fun i hi => by
      rw [List.getD_eq_getElem?_getD, List.getElem?_eq_getElem hi]
      exact hl _ (List.getElem_mem hi)
    have hj : (i + 1) % l.length < l.length := Nat.mod_lt _ (by omega)
    have hd0 : 0 ≤ (b.v.x - a.v.x) * (b.v.x - a.v.x) + (b.v.y - a.v.y) * (b.v.y - a.v.y) := by
      have h1 := sq_nonneg' (b.v.x - a.v.x)
      have h2 := sq_nonneg' (b.v.y - a.v.y)
      grind
    have key := far_free (vb i hi') (vb _ hj) hm hn hd0 hno
    have hme := (meetR_v (mid3_w ha hb) hpw wA wB).1
    have hnil : meet ⟨(mid3 a b).v, (stpD a b (parts 299)).v⟩ ⟨(l.getD i nilD).v, (l.getD ((i + 1) % l.length) nilD).v⟩ = [] := by
      rw [hv]
      generalize hmm : meet ⟨(mid3 a b).v, offD (mid3 a b).v (b.v.x - a.v.x) (b.v.y - a.v.y) (parts 299).q⟩ ⟨(l.getD i nilD).v, (l.getD ((i + 1) % l.length) nilD).v⟩ = M
      have hl2 := meet_len ⟨(mid3 a b).v, offD (mid3 a b).v (b.v.x - a.v.x) (b.v.y - a.v.y) (parts 299).q⟩ ⟨(l.getD i nilD).v, (l.getD ((i + 1) % l.length) nilD).v⟩
      rw [hmm] at hl2
      match M, hl2, hmm with
      | [], _, _ => rfl
      | [x], _, e =>
        have := (meet_iff _ _ x).1 (by rw [e]; rfl)
        exact absurd this.2 (key x this.1)
      | [x, y], _, e =>
        have := (meet_iff _ _ x).1 (by rw [e]; exact on_first x y)
        exact absurd this.2 (key x this.1)
      | _ :: _ :: _ :: _, h, _ => exact absurd h (by simp)
    rw [hnil] at hme
    refine decide_eq_true ?_
    have h0 : (meetR (mid3 a b) (stpD a b (parts 299)) (l.getD i nilD) (l.getD ((i + 1) % l.length) nilD)).length = 0 := by
      have := congrArg List.length hme
      rwa [List.length_map] at this
    exact h0
end Go.Fw
namespace Go.Fw
open Go Go.Proofs
theorem sgQ_swap (x y : Rat) : sgQ (x - y) = -sgQ (y - x) := by rw [← sgQ_neg]; congr 1; grind
theorem swap_up {a b : V2} (h : a ≠ b) : upLV b a = upRV a b ∧ lfLV b a = lfRV a b := by
  have e1 : sy a b = -sy b a := sgQ_swap _ _
  have e2 : sx a b = -sx b a := sgQ_swap _ _
  have hz : ¬ (sx b a = 0 ∧ sy b a = 0) := fun ⟨h1, h2⟩ => h (V2.ext' (by have := sgQ_zero.1 h1; grind) (by have := sgQ_zero.1 h2; grind))
  unfold upLV upRV lfLV lfRV
  rw [e1, e2]
  generalize sx b a = x at *
  generalize sy b a = y at *
  constructor
  · by_cases k : y = 0
    · rw [if_pos (by omega), if_pos k]
      by_cases l : x < 0
      · rw [decide_eq_true l, decide_eq_false (by omega)]; rfl
      · rw [decide_eq_false l, decide_eq_true (by have : x ≠ 0 := fun e => hz ⟨e, k⟩; omega)]; rfl
    · rw [if_neg (by omega), if_neg k]
  · by_cases k : y = 0
    · rw [if_pos (by omega), if_pos k]
    · rw [if_neg (by omega), if_neg k]
      congr 1
      rw [eq_iff_iff]
      omega
theorem vb_grid {q : Int × Int} (h : inP q) : VB (gridD q).v 64 1 := by
  unfold inP inI at h
  have h1 : (1 : Int) ≠ 0 := by decide
  have h2 : (1 : Int).natAbs < 2 ^ 1 := by decide
  exact ⟨HB.divInt h1 (by show q.1.natAbs < _; omega) h2, HB.divInt h1 (by show q.2.natAbs < _; omega) h2⟩
theorem vb_dot {a : Int × Int × Int} (h : inD a) : VB (dotD a).v 64 6 := by
  have hu := underI_pos a.2.2
  have h1 := h.1
  have h2 := h.2
  unfold inI at h1 h2
  exact ⟨HB.divInt (by show underI a.2.2 ≠ 0; omega) (by show a.1.natAbs < _; omega) (by show (underI a.2.2).natAbs < _; omega), HB.divInt (by show underI a.2.2 ≠ 0; omega) (by show a.2.1.natAbs < _; omega) (by show (underI a.2.2).natAbs < _; omega)⟩
theorem vb_mid {a b : DP} (ha : 0 < a.w) (hb : 0 < b.w) (va : VB a.v 64 6) (vb : VB b.v 64 6) : VB (mid3 a b).v 73 15 := by
  rw [mid3_v ha hb]
  have hh : HB (Rat.divInt 1 2) 1 2 := HB.divInt (by decide) (by decide) (by decide)
  exact ⟨((va.1.add vb.1 70 (by omega) (by omega)).mul hh).mono (by omega) (by omega), ((va.2.add vb.2 70 (by omega) (by omega)).mul hh).mono (by omega) (by omega)⟩
theorem hb_way {a b : V2} (va : VB a 64 6) (vb : VB b 64 6) : HB ((b.x - a.x) * (b.x - a.x) + (b.y - a.y) * (b.y - a.y)) 170 60 := by
  have x := vb.1.sub va.1 70 (by omega) (by omega)
  have y := vb.2.sub va.2 70 (by omega) (by omega)
  exact ((x.mul x).add (y.mul y) 168 (by omega) (by omega)).mono (by omega) (by omega)
theorem beside_same (m : List (Int × Int)) (a b : Int × Int × Int) (hI : ∀ p ∈ m, inP p) (ha : inD a) (hb : inD b) (hm : m.length ≤ 30) (h : cmp3 (dotD a) (dotD b) = 0 ∨ (List.range m.length).all (fair3 (rowDg m) (dotD a) (dotD b)) = true) :
    (besideF (rowG m) ⟨dtF13 a, dtF13 b⟩).1 = (beside3 (rowDg m) (dotD a) (dotD b)).1 ∧ (besideF (rowG m) ⟨dtF13 a, dtF13 b⟩).2 = (beside3 (rowDg m) (dotD a) (dotD b)).2 := by
  have wa := dotD_w a
  have wb := dotD_w b
  have va := vb_dot ha
  have vb := vb_dot hb
  have sa : (dtF13 a).v = (dotD a).v := (dotD_v a).symm
  have sb : (dtF13 b).v = (dotD b).v := (dotD_v b).symm
  by_cases h0 : cmp3 (dotD a) (dotD b) = 0
  · have hv : (dotD a).v = (dotD b).v := cmpV_zero.1 (by rw [← cmp3_V wa wb]; exact h0)
    have hP : cmpP (dtF13 a) (dtF13 b) = 0 := (cmpP_zero _ _).2 (by rw [sa, sb]; exact hv)
    have e1 : besideF (rowG m) ⟨dtF13 a, dtF13 b⟩ = (0, 0) := by unfold besideF; rw [if_pos hP]
    have e2 : beside3 (rowDg m) (dotD a) (dotD b) = (0, 0) := by unfold beside3; rw [if_pos h0]
    rw [e1, e2]
    exact ⟨rfl, rfl⟩
  · have hfair := h.resolve_left h0
    have hab : (dotD a).v ≠ (dotD b).v := fun e => h0 (by rw [cmp3_V wa wb]; exact cmpV_zero.2 e)
    have hP : cmpP (dtF13 a) (dtF13 b) ≠ 0 := fun e => hab (by rw [← sa, ← sb]; exact (cmpP_zero _ _).1 e)
    have e1 : besideF (rowG m) ⟨dtF13 a, dtF13 b⟩ = (passSum (rowG m) (midF ⟨dtF13 a, dtF13 b⟩) (upL ⟨dtF13 a, dtF13 b⟩) (lfL ⟨dtF13 a, dtF13 b⟩) (List.range (rowG m).length), passSum (rowG m) (midF ⟨dtF13 a, dtF13 b⟩) (upR ⟨dtF13 a, dtF13 b⟩) (lfR ⟨dtF13 a, dtF13 b⟩) (List.range (rowG m).length)) := by unfold besideF; rw [if_neg hP]
    have e2 : beside3 (rowDg m) (dotD a) (dotD b) = (left3 (rowDg m) (dotD a) (dotD b), left3 (rowDg m) (dotD b) (dotD a)) := by unfold beside3; rw [if_neg h0]
    have hw := rowDg_w m
    have hM := mid3_w wa wb
    have hmv : (midF ⟨dtF13 a, dtF13 b⟩).v = (mid3 (dotD a) (dotD b)).v := by
      rw [mid3_v wa wb, ← sa, ← sb]
      rfl
    have hm2 : (mid3 (dotD b) (dotD a)).v = (mid3 (dotD a) (dotD b)).v := by
      rw [mid3_v wa wb, mid3_v wb wa]
      refine V2.ext' ?_ ?_
      · show (_ + _) * _ = (_ + _) * _; rw [Rat.add_comm]
      · show (_ + _) * _ = (_ + _) * _; rw [Rat.add_comm]
    have hl : ∀ p ∈ rowDg m, VB p.v 64 1 := fun p hp => by
      obtain ⟨q, hq, rfl⟩ := List.mem_map.1 hp
      exact vb_grid (hI q hq)
    have hlen : (vsD (rowDg m)).length = (rowDg m).length := by unfold vsD; rw [List.length_map]
    have hf1 : ∀ i, i < (rowDg m).length → hitV (vsD (rowDg m)) (mid3 (dotD a) (dotD b)).v i → cross (dotD a).v (dotD b).v ((rowDg m).getD i nilD).v = 0 ∧ cross (dotD a).v (dotD b).v ((rowDg m).getD ((i + 1) % (rowDg m).length) nilD).v = 0 := by
      intro i hi hit
      have hf := List.all_eq_true.1 hfair i (List.mem_range.2 (by rw [rowDg_len] at hi; exact hi))
      have ho := (hit3_v hw hM i).2 hit
      unfold hit3 at ho
      unfold fair3 at hf
      rw [ho] at hf
      have h0 : ∀ c : DP, 0 < c.w → side3 (dotD a) (dotD b) c = 0 → cross (dotD a).v (dotD b).v c.v = 0 := fun c hc h => by
        rw [side3_sk wa wb hc] at h
        exact sgQ_zero.1 h
      by_cases k1 : side3 (dotD a) (dotD b) ((rowDg m).getD i nilD) = 0
      · by_cases k2 : side3 (dotD a) (dotD b) ((rowDg m).getD ((i + 1) % (rowDg m).length) nilD) = 0
        · exact ⟨h0 _ (DW.at hw _) k1, h0 _ (DW.at hw _) k2⟩
        · rw [decide_eq_true k2] at hf; simp at hf
      · rw [decide_eq_true k1] at hf; simp at hf
    have hcs : ∀ x y c : V2, cross x y c = 0 → cross y x c = 0 := fun x y c h => by
      have e : cross y x c = -cross x y c := by unfold cross; grind
      rw [e, h]; rfl
    have L := left3_v (rowDg m) hw hl (dotD a) (dotD b) wa wb hab (vb_mid wa wb va vb) (hb_way va vb) hf1
    have R := left3_v (rowDg m) hw hl (dotD b) (dotD a) wb wa (fun e => hab e.symm) (vb_mid wb wa vb va) (hb_way vb va) (fun i hi hit => by
      rw [hm2] at hit
      obtain ⟨c1, c2⟩ := hf1 i hi hit
      exact ⟨hcs _ _ _ c1, hcs _ _ _ c2⟩)
    obtain ⟨w1, w2⟩ := swap_up hab
    rw [hm2, w1, w2] at R
    rw [e1, e2]
    refine ⟨?_, ?_⟩
    · show passSum (rowG m) (midF ⟨dtF13 a, dtF13 b⟩) (upL ⟨dtF13 a, dtF13 b⟩) (lfL ⟨dtF13 a, dtF13 b⟩) (List.range (rowG m).length) = left3 (rowDg m) (dotD a) (dotD b)
      rw [L, passSum_v, vs_same, hmv, upL_v, lfL_v]
      show ringS (fun A B => passV A B _ (upLV (dtF13 a).v (dtF13 b).v) (lfLV (dtF13 a).v (dtF13 b).v)) _ = _
      rw [sa, sb]
    · show passSum (rowG m) (midF ⟨dtF13 a, dtF13 b⟩) (upR ⟨dtF13 a, dtF13 b⟩) (lfR ⟨dtF13 a, dtF13 b⟩) (List.range (rowG m).length) = left3 (rowDg m) (dotD b) (dotD a)
      rw [R, passSum_v, vs_same, hmv, upR_v, lfR_v]
      show ringS (fun A B => passV A B _ (upRV (dtF13 a).v (dtF13 b).v) (lfRV (dtF13 a).v (dtF13 b).v)) _ = _
      rw [sa, sb]
end Go.Fw

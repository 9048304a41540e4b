import Derived.Test.YtmmkclefdpmjlaaV12b
import Derived.Test.YtmmkclefdpmjlaaU1b
import Derived.Test.YtmmkclefdpmjlaaPtb
import Derived.Test.YtmmkclefdpmjlaaV1b
set_option linter.unusedSimpArgs false
set_option linter.unusedVariables false
namespace Go.Fw
open Go Go.Proofs
def DP.v (p : DP) : V2 := ⟨Rat.divInt p.x p.w, Rat.divInt p.y p.w⟩
theorem rat_pos {w : Int} (h : 0 < w) : (0 : Rat) < (w : Rat) := Rat.intCast_pos.2 h
theorem dv_mul {x w : Int} (h : 0 < w) : (x : Rat) = Rat.divInt x w * (w : Rat) := by
  have h1 := rat_pos h
  rw [Rat.divInt_eq_div, Rat.div_mul_cancel (by grind)]
theorem dv_of {n d : Int} {q : Rat} (hd : 0 < d) (h : (n : Rat) = q * (d : Rat)) : Rat.divInt n d = q := by
  have h1 := rat_pos hd
  rw [Rat.divInt_eq_div, h, Rat.mul_div_cancel (by grind)]
theorem DP.vx (p : DP) (h : 0 < p.w) : (p.x : Rat) = p.v.x * (p.w : Rat) := dv_mul h
theorem DP.vy (p : DP) (h : 0 < p.w) : (p.y : Rat) = p.v.y * (p.w : Rat) := dv_mul h
theorem lessX_v {a b : DP} (ha : 0 < a.w) (hb : 0 < b.w) : (lessX a b : Rat) = (b.v.x - a.v.x) * ((a.w : Rat) * (b.w : Rat)) := by
  unfold lessX
  rw [Rat.intCast_sub, Rat.intCast_mul, Rat.intCast_mul, a.vx ha, b.vx hb]
  grind
theorem lessY_v {a b : DP} (ha : 0 < a.w) (hb : 0 < b.w) : (lessY a b : Rat) = (b.v.y - a.v.y) * ((a.w : Rat) * (b.w : Rat)) := by
  unfold lessY
  rw [Rat.intCast_sub, Rat.intCast_mul, Rat.intCast_mul, a.vy ha, b.vy hb]
  grind
theorem denW_pos {a b c : DP} (ha : 0 < a.w) (hb : 0 < b.w) (hc : 0 < c.w) : 0 < denW a b c := Int.mul_pos (Int.mul_pos ha ha) (Int.mul_pos hb hc)
theorem denW_v (a b c : DP) : (denW a b c : Rat) = ((a.w : Rat) * (a.w : Rat)) * ((b.w : Rat) * (c.w : Rat)) := by
  unfold denW
  rw [Rat.intCast_mul, Rat.intCast_mul, Rat.intCast_mul]
def crossN (a b c : DP) : Int := lessX a b * lessY a c - lessY a b * lessX a c
theorem crossN_v {a b c : DP} (ha : 0 < a.w) (hb : 0 < b.w) (hc : 0 < c.w) : (crossN a b c : Rat) = cross a.v b.v c.v * (denW a b c : Rat) := by
  unfold crossN
  rw [denW_v, Rat.intCast_sub, Rat.intCast_mul, Rat.intCast_mul, lessX_v ha hb, lessX_v ha hc, lessY_v ha hb, lessY_v ha hc]
  unfold cross
  grind
theorem timesN_v {a b c : DP} (ha : 0 < a.w) (hb : 0 < b.w) (hc : 0 < c.w) : (timesN a b c : Rat) = dot a.v b.v c.v * (denW a b c : Rat) := by
  unfold timesN
  rw [denW_v, Rat.intCast_add, Rat.intCast_mul, Rat.intCast_mul, lessX_v ha hb, lessX_v ha hc, lessY_v ha hb, lessY_v ha hc]
  unfold dot
  grind
theorem pos_of {n d : Int} {q : Rat} (hd : 0 < d) (h : (n : Rat) = q * (d : Rat)) : 0 < n ↔ 0 < q := by
  rw [← Rat.intCast_pos, h]
  exact Rat.mul_pos_iff_of_pos_right (rat_pos hd)
theorem neg_of {n d : Int} {q : Rat} (hd : 0 < d) (h : (n : Rat) = q * (d : Rat)) : n < 0 ↔ q < 0 := by
  rw [← Rat.intCast_neg_iff, h]
  exact Rat.mul_neg_iff_of_pos_right (rat_pos hd)
theorem cmpZ_sub (x y : Int) : cmpZ x y = if x - y < 0 then -1 else if 0 < x - y then 1 else 0 := by
  unfold cmpZ
  (repeat' split) <;> omega
theorem cmpZ_v {x y d : Int} {q : Rat} (hd : 0 < d) (h : ((x - y : Int) : Rat) = q * (d : Rat)) : cmpZ x y = if q < 0 then -1 else if 0 < q then 1 else 0 := by
  have h1 := pos_of hd h
  have h2 := neg_of hd h
  rw [cmpZ_sub]
  simp only [h1, h2]
theorem side3_v {a b c : DP} (ha : 0 < a.w) (hb : 0 < b.w) (hc : 0 < c.w) : cmpZ (lessX a b * lessY a c) (lessY a b * lessX a c) = if cross a.v b.v c.v < 0 then -1 else if 0 < cross a.v b.v c.v then 1 else 0 :=
  cmpZ_v (denW_pos ha hb hc) (crossN_v ha hb hc)
theorem sign_np (n : Int) : n.sign ≤ 0 ↔ ¬ 0 < n := by
  rcases sign_cases n with ⟨h1, h2⟩ | ⟨h1, h2⟩ | ⟨h1, h2⟩ <;> omega
theorem on3_v {a b p : DP} (ha : 0 < a.w) (hb : 0 < b.w) (hp : 0 < p.w) : on3 a b p = true ↔ (Sg.mk a.v b.v).on p.v := by
  rw [on_onR]
  unfold on3 Sg.onR
  rw [Bool.and_eq_true, decide_eq_true_eq, beq_iff_eq, side3_v ha hb hp, sign_np, pos_of (denW_pos hp ha hb) (timesN_v hp ha hb)]
  have e : (¬ 0 < dot p.v a.v b.v) ↔ dot p.v a.v b.v ≤ 0 := Rat.not_lt
  rw [e]
  refine and_congr_left fun _ => ?_
  show _ ↔ cross a.v b.v p.v = 0
  constructor
  · intro h
    by_cases h1 : cross a.v b.v p.v < 0
    · rw [if_pos h1] at h; omega
    · by_cases h2 : 0 < cross a.v b.v p.v
      · rw [if_neg h1, if_pos h2] at h; omega
      · grind
  · intro h
    rw [h]; rfl
theorem cmp3_v {p q : DP} (hp : 0 < p.w) (hq : 0 < q.w) : cmp3 p q = if lexLt p.v q.v then -1 else if lexLt q.v p.v then 1 else 0 := by
  have hd : 0 < p.w * q.w := Int.mul_pos hp hq
  have e1 := cmpZ_v (x := p.x * q.w) (y := q.x * p.w) (q := p.v.x - q.v.x) hd (by
    rw [Rat.intCast_sub, Rat.intCast_mul, Rat.intCast_mul, Rat.intCast_mul, p.vx hp, q.vx hq]; grind)
  have e2 := cmpZ_v (x := p.y * q.w) (y := q.y * p.w) (q := p.v.y - q.v.y) hd (by
    rw [Rat.intCast_sub, Rat.intCast_mul, Rat.intCast_mul, Rat.intCast_mul, p.vy hp, q.vy hq]; grind)
  unfold cmp3
  rw [e1, e2]
  unfold lexLt
  by_cases h1 : p.v.x < q.v.x
  · have h3 : p.v.x - q.v.x < 0 := by grind
    simp [h1, h3]
  · by_cases h2 : q.v.x < p.v.x
    · have h3 : ¬ p.v.x - q.v.x < 0 := by grind
      have h4 : 0 < p.v.x - q.v.x := by grind
      have h5 : ¬ p.v.x = q.v.x := by grind
      simp [h1, h2, h3, h4, h5]
    · have h3 : p.v.x = q.v.x := by grind
      have h6 : ¬ (0 : Rat) < 0 := Rat.lt_irrefl
      have h7 : q.v.x - q.v.x = 0 := by grind
      simp only [h3, h7, h6, Rat.lt_irrefl, false_or, true_and, if_false, ne_eq, not_true]
      by_cases h8 : p.v.y < q.v.y
      · have : p.v.y - q.v.y < 0 := by grind
        simp [h8, this]
      · by_cases h9 : q.v.y < p.v.y
        · have h10 : ¬ p.v.y - q.v.y < 0 := by grind
          have h11 : 0 < p.v.y - q.v.y := by grind
          simp [h8, h9, h10, h11]
        · have h10 : ¬ p.v.y - q.v.y < 0 := by grind
          have h11 : ¬ 0 < p.v.y - q.v.y := by grind
          simp [h8, h9, h10, h11]
theorem cmp3_neg {p q : DP} (hp : 0 < p.w) (hq : 0 < q.w) : cmp3 p q < 0 ↔ lexLt p.v q.v := by
  rw [cmp3_v hp hq]
  by_cases h : lexLt p.v q.v
  · simp [h]
  · rw [if_neg h]
    by_cases h2 : lexLt q.v p.v
    · rw [if_pos h2]; simp [h]
    · rw [if_neg h2]; simp [h]
theorem cmp3_pos {p q : DP} (hp : 0 < p.w) (hq : 0 < q.w) : 0 < cmp3 p q ↔ lexLt q.v p.v := by
  rw [cmp3_v hp hq]
  by_cases h : lexLt p.v q.v
  · have : ¬ lexLt q.v p.v := fun k => lexLt_irrefl (lexLt_trans h k)
    simp [h, this]
  · rw [if_neg h]
    by_cases h2 : lexLt q.v p.v
    · rw [if_pos h2]; simp [h2]
    · rw [if_neg h2]; simp [h2]
theorem cmp3_zero {p q : DP} (hp : 0 < p.w) (hq : 0 < q.w) : cmp3 p q = 0 ↔ p.v = q.v := by
  constructor
  · intro h
    exact lex_anti (fun k => by have := (cmp3_neg hp hq).2 k; omega) (fun k => by have := (cmp3_pos hp hq).2 k; omega)
  · intro h
    have h1 : ¬ cmp3 p q < 0 := fun k => by have := (cmp3_neg hp hq).1 k; rw [h] at this; exact lexLt_irrefl this
    have h2 : ¬ 0 < cmp3 p q := fun k => by have := (cmp3_pos hp hq).1 k; rw [h] at this; exact lexLt_irrefl this
    omega
theorem line_v {a b : DP} (ha : 0 < a.w) (hb : 0 < b.w) : (lineA a b : Rat) = (a.v.y - b.v.y) * ((a.w : Rat) * (b.w : Rat)) ∧ (lineB a b : Rat) = (b.v.x - a.v.x) * ((a.w : Rat) * (b.w : Rat)) ∧ (lineC a b : Rat) = (b.v.x * a.v.y - a.v.x * b.v.y) * ((a.w : Rat) * (b.w : Rat)) := by
  unfold lineA lineB lineC
  refine ⟨?_, ?_, ?_⟩
  · rw [Rat.intCast_sub, Rat.intCast_mul, Rat.intCast_mul, a.vy ha, b.vy hb]; grind
  · rw [Rat.intCast_sub, Rat.intCast_mul, Rat.intCast_mul, a.vx ha, b.vx hb]; grind
  · rw [Rat.intCast_sub, Rat.intCast_mul, Rat.intCast_mul, a.vx ha, b.vx hb, a.vy ha, b.vy hb]; grind
def w4 (a b c d : DP) : Int := (a.w * b.w) * (c.w * d.w)
theorem w4_pos {a b c d : DP} (ha : 0 < a.w) (hb : 0 < b.w) (hc : 0 < c.w) (hd : 0 < d.w) : 0 < w4 a b c d := Int.mul_pos (Int.mul_pos ha hb) (Int.mul_pos hc hd)
theorem w4_v (a b c d : DP) : (w4 a b c d : Rat) = ((a.w : Rat) * (b.w : Rat)) * ((c.w : Rat) * (d.w : Rat)) := by
  unfold w4; rw [Rat.intCast_mul, Rat.intCast_mul, Rat.intCast_mul]
theorem crW_v {a b c d : DP} (ha : 0 < a.w) (hb : 0 < b.w) (hc : 0 < c.w) (hd : 0 < d.w) : (crW a b c d : Rat) = crossW ⟨a.v, b.v⟩ ⟨c.v, d.v⟩ * (w4 a b c d : Rat) := by
  obtain ⟨l1, l2, l3⟩ := line_v ha hb
  obtain ⟨m1, m2, m3⟩ := line_v hc hd
  unfold crW
  rw [w4_v, Rat.intCast_sub, Rat.intCast_mul, Rat.intCast_mul, l1, l2, m1, m2]
  unfold crossW
  grind
theorem crX_v {a b c d : DP} (ha : 0 < a.w) (hb : 0 < b.w) (hc : 0 < c.w) (hd : 0 < d.w) : (crX a b c d : Rat) = ((b.v.x * a.v.y - a.v.x * b.v.y) * (d.v.x - c.v.x) - (b.v.x - a.v.x) * (d.v.x * c.v.y - c.v.x * d.v.y)) * (w4 a b c d : Rat) := by
  obtain ⟨l1, l2, l3⟩ := line_v ha hb
  obtain ⟨m1, m2, m3⟩ := line_v hc hd
  unfold crX
  rw [w4_v, Rat.intCast_sub, Rat.intCast_mul, Rat.intCast_mul, l2, l3, m2, m3]
  grind
theorem crY_v {a b c d : DP} (ha : 0 < a.w) (hb : 0 < b.w) (hc : 0 < c.w) (hd : 0 < d.w) : (crY a b c d : Rat) = ((a.v.y - b.v.y) * (d.v.x * c.v.y - c.v.x * d.v.y) - (b.v.x * a.v.y - a.v.x * b.v.y) * (c.v.y - d.v.y)) * (w4 a b c d : Rat) := by
  obtain ⟨l1, l2, l3⟩ := line_v ha hb
  obtain ⟨m1, m2, m3⟩ := line_v hc hd
  unfold crY
  rw [w4_v, Rat.intCast_sub, Rat.intCast_mul, Rat.intCast_mul, l1, l3, m1, m3]
  grind
theorem parB_v {a b c d : DP} (ha : 0 < a.w) (hb : 0 < b.w) (hc : 0 < c.w) (hd : 0 < d.w) : parB a b c d = true ↔ crossW ⟨a.v, b.v⟩ ⟨c.v, d.v⟩ = 0 := by
  unfold parB
  rw [beq_iff_eq, cmpZ_v (w4_pos ha hb hc hd) (crW_v ha hb hc hd)]
  generalize crossW ⟨a.v, b.v⟩ ⟨c.v, d.v⟩ = q
  constructor
  · intro h
    by_cases h1 : q < 0
    · rw [if_pos h1] at h; omega
    · by_cases h2 : 0 < q
      · rw [if_neg h1, if_pos h2] at h; omega
      · grind
  · intro h; rw [h]; rfl
theorem crossP_w {a b c d : DP} (ha : 0 < a.w) (hb : 0 < b.w) (hc : 0 < c.w) (hd : 0 < d.w) (h : crossW ⟨a.v, b.v⟩ ⟨c.v, d.v⟩ ≠ 0) : 0 < (crossP a b c d).w := by
  have h0 : crW a b c d ≠ 0 := fun k => by
    have e := crW_v ha hb hc hd
    have h1 := rat_pos (w4_pos ha hb hc hd)
    rw [k] at e
    have e0 : ((0 : Int) : Rat) = 0 := rfl
    rw [e0] at e
    rcases Rat.mul_eq_zero.1 e.symm with h2 | h2
    · exact h h2
    · grind
  unfold crossP
  have := sign_cases (crW a b c d)
  split
  · show 0 < -crW a b c d
    omega
  · show 0 < crW a b c d
    omega
theorem divInt_neg2 (n d : Int) : Rat.divInt (-n) (-d) = Rat.divInt n d := by
  rw [Rat.divInt_eq_div, Rat.divInt_eq_div, Rat.intCast_neg, Rat.intCast_neg]
  grind
theorem crossP_v {a b c d : DP} (ha : 0 < a.w) (hb : 0 < b.w) (hc : 0 < c.w) (hd : 0 < d.w) (h : crossW ⟨a.v, b.v⟩ ⟨c.v, d.v⟩ ≠ 0) : (crossP a b c d).v = (Sg.mk a.v b.v).pt ((Sg.mk a.v b.v).part ⟨c.v, d.v⟩) := by
  have e : (crossP a b c d).v = ⟨Rat.divInt (crX a b c d) (crW a b c d), Rat.divInt (crY a b c d) (crW a b c d)⟩ := by
    unfold crossP
    split
    · show V2.mk _ _ = _
      rw [divInt_neg2, divInt_neg2]
    · rfl
  rw [e, Rat.divInt_eq_div, Rat.divInt_eq_div, crW_v ha hb hc hd, crX_v ha hb hc hd, crY_v ha hb hc hd]
  have h1 := rat_pos (w4_pos ha hb hc hd)
  generalize (w4 a b c d : Rat) = k at *
  unfold Sg.pt Sg.part
  have hW : crossW ⟨a.v, b.v⟩ ⟨c.v, d.v⟩ = (b.v.x - a.v.x) * (d.v.y - c.v.y) - (b.v.y - a.v.y) * (d.v.x - c.v.x) := rfl
  generalize crossW ⟨a.v, b.v⟩ ⟨c.v, d.v⟩ = W at *
  have hk : k ≠ 0 := by grind
  have key : ∀ {x y z : Rat}, x = y * W + z → x * k / (W * k) = y + z / W := fun {x y z} e => by
    rw [e]; grind
  refine V2.ext' ?_ ?_
  · dsimp only
    rw [key (y := a.v.x) (z := (b.v.x - a.v.x) * ((c.v.x - a.v.x) * (d.v.y - c.v.y) - (c.v.y - a.v.y) * (d.v.x - c.v.x))) (by rw [hW]; grind)]
    grind
  · dsimp only
    rw [key (y := a.v.y) (z := (b.v.y - a.v.y) * ((c.v.x - a.v.x) * (d.v.y - c.v.y) - (c.v.y - a.v.y) * (d.v.x - c.v.x))) (by rw [hW]; grind)]
    grind
end Go.Fw
namespace Go.Fw
open Go Go.Proofs Go.IntWalk
def dotD (a : Int × Int × Int) : DP := ⟨a.1, a.2.1, underI a.2.2⟩
theorem dotD_w (a : Int × Int × Int) : 0 < (dotD a).w := by have := underI_pos a.2.2; show 0 < underI a.2.2; omega
theorem dotD_v (a : Int × Int × Int) : (dotD a).v = (dotF a.1 a.2.1 a.2.2).v := rfl
theorem at11_ok' (a : Int × Int × Int) (h : inD a) : Eval Try.prog 11 [dotAV a] (.ret (dotD a).av) := at11_ok a.1 a.2.1 a.2.2 h.1 h.2
theorem l11At_ok' (a : Int × Int × Int) (h : inD a) : Eval Try.prog 10 [dotAV a] (.ret (ptAV (dotF a.1 a.2.1 a.2.2))) := l11At_ok a.1 a.2.1 a.2.2 h.1 h.2
end Go.Fw

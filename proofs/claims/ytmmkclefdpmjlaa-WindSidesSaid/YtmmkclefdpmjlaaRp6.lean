/- The law WindSides (plain): the program's and the document's numbers. -/
import Derived.Test.YtmmkclefdpmjlaaRp5
import Derived.Test.YtmmkclefdpmjlaaRg6
set_option linter.unusedSimpArgs false
set_option linter.unusedVariables false
namespace Go.Fw
open Go Go.Proofs
def want3 (a b M A B : DP) : Int := if on3 A B M = true then (if cmp3 A B = cmp3 a b then 1 else -1) else 0
def touch3 (M A B : DP) : Bool := on3 A B M && (decide (cmp3 A M = 0) || decide (cmp3 B M = 0))
def wantSum (l : List DP) (a b : DP) (is : List Nat) : Int := sideS nilD (want3 a b (mid3 a b)) l is
def touchAt (l : List DP) (M : DP) (i : Nat) : Bool := touch3 M (l.getD i nilD) (l.getD ((i + 1) % l.length) nilD)
theorem want3_cases (a b M A B : DP) : want3 a b M A B = -1 ∨ want3 a b M A B = 0 ∨ want3 a b M A B = 1 := by
  unfold want3
  split
  · split
    · exact .inr (.inr rfl)
    · exact .inl rfl
  · exact .inr (.inl rfl)
theorem wantSum_bound (l : List DP) (a b : DP) (is : List Nat) : -(is.length : Int) ≤ wantSum l a b is ∧ wantSum l a b is ≤ is.length := by
  have := sideS_bound nilD (want3 a b (mid3 a b)) 1 l is (fun x y => by
    have := want3_cases a b (mid3 a b) x y
    omega)
  unfold wantSum
  omega
theorem mid3_w {a b : DP} (ha : 0 < a.w) (hb : 0 < b.w) : 0 < (mid3 a b).w := by
  have := Int.mul_pos ha hb
  show 0 < 2 * (a.w * b.w)
  omega
theorem mid3_v {a b : DP} (ha : 0 < a.w) (hb : 0 < b.w) : (mid3 a b).v = ⟨(a.v.x + b.v.x) * Rat.divInt 1 2, (a.v.y + b.v.y) * Rat.divInt 1 2⟩ := by
  have hm := mid3_w ha hb
  have h2 : Rat.divInt 1 2 = 1 / 2 := by rw [Rat.divInt_eq_div]; rfl
  have hx := (mid3 a b).vx hm
  have hy := (mid3 a b).vy hm
  have ex : ((mid3 a b).x : Rat) = a.x * b.w + b.x * a.w := by show (((a.x * b.w + b.x * a.w : Int)) : Rat) = _; rw [Rat.intCast_add, Rat.intCast_mul, Rat.intCast_mul]
  have ey : ((mid3 a b).y : Rat) = a.y * b.w + b.y * a.w := by show (((a.y * b.w + b.y * a.w : Int)) : Rat) = _; rw [Rat.intCast_add, Rat.intCast_mul, Rat.intCast_mul]
  have ew : ((mid3 a b).w : Rat) = 2 * (a.w * b.w) := by show (((2 * (a.w * b.w) : Int)) : Rat) = _; rw [Rat.intCast_mul, Rat.intCast_mul]; rfl
  have pa := rat_pos ha
  have pb := rat_pos hb
  have pab := Rat.mul_pos pa pb
  rw [ex, ew, a.vx ha, b.vx hb] at hx
  rw [ey, ew, a.vy ha, b.vy hb] at hy
  have key : ∀ u v : Rat, u * (2 * ((a.w : Rat) * b.w)) = v * (2 * ((a.w : Rat) * b.w)) → u = v := fun u v h => by
    have h1 : (2 * ((a.w : Rat) * b.w)) * (u - v) = 0 := by grind
    have h2 := (mul_zero_iff' (by grind)).1 h1
    grind
  refine V2.ext' ?_ ?_
  · show (mid3 a b).v.x = (a.v.x + b.v.x) * Rat.divInt 1 2
    refine key _ _ ?_
    rw [← hx, h2]
    grind
  · show (mid3 a b).v.y = (a.v.y + b.v.y) * Rat.divInt 1 2
    refine key _ _ ?_
    rw [← hy, h2]
    grind
theorem cmp3_V {p q : DP} (hp : 0 < p.w) (hq : 0 < q.w) : cmp3 p q = cmpV p.v q.v := cmp3_v hp hq
theorem cmpV_zero {a b : V2} : cmpV a b = 0 ↔ a = b := by
  constructor
  · intro h
    by_cases k : a = b
    · exact k
    · rcases cmpV_cases k with ⟨_, _, e⟩ | ⟨_, _, e⟩ <;> omega
  · intro h
    subst h
    unfold cmpV
    rw [if_neg lexLt_irrefl, if_neg lexLt_irrefl]
theorem want3_v {a b M A B : DP} (ha : 0 < a.w) (hb : 0 < b.w) (hM : 0 < M.w) (hA : 0 < A.w) (hB : 0 < B.w) : want3 a b M A B = wantV a.v b.v M.v A.v B.v := by
  have h := on3_v hA hB hM
  unfold want3 wantV
  rw [cmp3_V hA hB, cmp3_V ha hb]
  by_cases k : (Sg.mk A.v B.v).on M.v
  · rw [if_pos k, if_pos (h.2 k)]
  · rw [if_neg k, if_neg (fun e => k (h.1 e))]
theorem upL_v (s : FSg) : upL s = upLV s.A.v s.B.v := by unfold upL upLV; rw [cmpY_sg, cmpX_sg]
theorem upR_v (s : FSg) : upR s = upRV s.A.v s.B.v := by unfold upR upRV; rw [cmpY_sg, cmpX_sg]
theorem lfL_v (s : FSg) : lfL s = lfLV s.A.v s.B.v := by unfold lfL lfLV; rw [cmpY_sg]
theorem lfR_v (s : FSg) : lfR s = lfRV s.A.v s.B.v := by unfold lfR lfRV; rw [cmpY_sg]
theorem sides_law (m : List (Int × Int)) (a b : DP) (s : FSg) (ha : 0 < a.w) (hb : 0 < b.w) (hsa : s.A.v = a.v) (hsb : s.B.v = b.v) (hne : cmp3 a b ≠ 0) (hfair : (List.range (rowDg m).length).all (fair3 (rowDg m) a b) = true)
    (hno : ∀ i, i < (rowDg m).length → touchAt (rowDg m) (mid3 a b) i = false) : (besideF (rowG m) s).1 - (besideF (rowG m) s).2 = wantSum (rowDg m) a b (List.range (rowDg m).length) := by
  have hw := rowDg_w m
  have hM := mid3_w ha hb
  have hab : a.v ≠ b.v := fun h => hne (by rw [cmp3_V ha hb]; exact cmpV_zero.2 h)
  have hv := vs_same m
  have hlen : (vsD (rowDg m)).length = (rowDg m).length := by unfold vsD; rw [List.length_map]
  have hmv : (midF s).v = (mid3 a b).v := by
    rw [mid3_v ha hb, ← hsa, ← hsb]
    rfl
  have hcross : cross a.v b.v (mid3 a b).v = 0 := by
    rw [mid3_v ha hb]
    unfold cross
    simp only
    have h2 : Rat.divInt 1 2 = 1 / 2 := by rw [Rat.divInt_eq_div]; rfl
    rw [h2]
    grind
  have hget : ∀ i, (vsD (rowDg m)).getD i vnil = ((rowDg m).getD i nilD).v := fun i => map_getD nilD vnil DP.v nilD_v _ i
  have hP : cmpP s.A s.B ≠ 0 := fun h => hab (by rw [← hsa, ← hsb]; exact (cmpP_zero _ _).1 h)
  have e1 : besideF (rowG m) s = (passSum (rowG m) (midF s) (upL s) (lfL s) (List.range (rowG m).length), passSum (rowG m) (midF s) (upR s) (lfR s) (List.range (rowG m).length)) := by unfold besideF; rw [if_neg hP]
  rw [e1]
  show passSum (rowG m) (midF s) (upL s) (lfL s) (List.range (rowG m).length) - passSum (rowG m) (midF s) (upR s) (lfR s) (List.range (rowG m).length) = _
  rw [passSum_v, passSum_v, hv, hmv, upL_v, upR_v, lfL_v, lfR_v, hsa, hsb]
  rw [sides_diff (vsD (rowDg m)) hab hcross]
  · unfold wantSum
    unfold vsD
    rw [sideS_map nilD vnil _ DP.v nilD_v, List.length_map]
    exact (sideS_congr nilD _ _ _ _ fun i _ => want3_v ha hb hM (DW.at hw _) (DW.at hw _)).symm
  · intro i hi hit
    rw [hlen] at hi
    have hf := List.all_eq_true.1 hfair i (List.mem_range.2 hi)
    have ho := (hit3_v hw hM i).2 hit
    unfold hit3 at ho
    unfold fair3 at hf
    rw [ho] at hf
    rw [hget, hget, hlen]
    have h0 : ∀ c : DP, 0 < c.w → side3 a b c = 0 → cross a.v b.v c.v = 0 := fun c hc h => by
      rw [side3_sk ha hb hc] at h
      exact sgQ_zero.1 h
    by_cases k1 : side3 a b ((rowDg m).getD i nilD) = 0
    · by_cases k2 : side3 a b ((rowDg m).getD ((i + 1) % (rowDg m).length) nilD) = 0
      · exact ⟨h0 _ (DW.at hw _) k1, h0 _ (DW.at hw _) k2⟩
      · rw [decide_eq_true k2] at hf; simp at hf
    · rw [decide_eq_true k1] at hf; simp at hf
  · intro i hi hit
    rw [hlen] at hi
    have hf := hno i hi
    have ho := (hit3_v hw hM i).2 hit
    unfold hit3 at ho
    unfold touchAt touch3 at hf
    rw [ho] at hf
    rw [hget, hget, hlen]
    have h0 : ∀ c : DP, 0 < c.w → ¬ cmp3 c (mid3 a b) = 0 → c.v ≠ (mid3 a b).v := fun c hc h e => h (by rw [cmp3_V hc hM]; exact cmpV_zero.2 e)
    by_cases k1 : cmp3 ((rowDg m).getD i nilD) (mid3 a b) = 0
    · rw [decide_eq_true k1] at hf; simp at hf
    · by_cases k2 : cmp3 ((rowDg m).getD ((i + 1) % (rowDg m).length) nilD) (mid3 a b) = 0
      · rw [decide_eq_true k2] at hf; simp at hf
      · exact ⟨h0 _ (DW.at hw _) k1, h0 _ (DW.at hw _) k2⟩
end Go.Fw

import Derived.Test.YtmmkclefdpmjlaaRp4
import Derived.Test.YtmmkclefdpmjlaaRg6
set_option linter.unusedSimpArgs false
set_option linter.unusedVariables false
namespace Go.Fw
open Go Go.Proofs
def upLV (a b : V2) : Bool := if sy b a = 0 then decide (sx b a < 0) else true
def upRV (a b : V2) : Bool := if sy b a = 0 then !decide (sx b a < 0) else true
def lfLV (a b : V2) : Bool := if sy b a = 0 then false else decide (sy b a < 0)
def lfRV (a b : V2) : Bool := if sy b a = 0 then false else decide (0 < sy b a)
def wantV (a b m A B : V2) : Int := if (Sg.mk A B).on m then (if cmpV A B = cmpV a b then 1 else -1) else 0
def chiV (a b m v : V2) : Int := if sy b a = 0 then (if sx b a < 0 then psiS (sx m v) (sy m v) else -psiS (sx m v) (sy m v)) else 0
theorem sg_neg {q : Rat} : sgQ q < 0 ↔ q < 0 := by
  rcases sgQ_cases q with ⟨h, e⟩ | ⟨h, e⟩ | ⟨h, e⟩ <;> rw [e] <;> constructor <;> intro k <;> first | exact h | (exfalso; grind) | omega
theorem sg_pos {q : Rat} : 0 < sgQ q ↔ 0 < q := by
  rcases sgQ_cases q with ⟨h, e⟩ | ⟨h, e⟩ | ⟨h, e⟩ <;> rw [e] <;> constructor <;> intro k <;> first | exact h | (exfalso; grind) | omega
end Go.Fw
namespace Go.Fw
open Go Go.Proofs
def want3 (a b M A B : DP) : Int := if on3 A B M = true then (if cmp3 A B = cmp3 a b then 1 else -1) else 0
def touch3 (M A B : DP) : Bool := on3 A B M && (decide (cmp3 A M = 0) || decide (cmp3 B M = 0))
def wantSum (l : List DP) (a b : DP) (is : List Nat) : Int := sideS nilD (want3 a b (mid3 a b)) l is
def touchAt (l : List DP) (M : DP) (i : Nat) : Bool := touch3 M (l.getD i nilD) (l.getD ((i + 1) % l.length) nilD)
theorem mid3_w {a b : DP} (ha : 0 < a.w) (hb : 0 < b.w) : 0 < (mid3 a b).w := by
  have := Int.mul_pos ha hb
  show 0 < 2 * (a.w * b.w)
  omega
theorem mid3_v {a b : DP} (ha : 0 < a.w) (hb : 0 < b.w) : (mid3 a b).v = ⟨(a.v.x + b.v.x) * Rat.divInt 1 2, (a.v.y + b.v.y) * Rat.divInt 1 2⟩ := by
  have hm := mid3_w ha hb
  have h2 : Rat.divInt 1 2 = 1 / 2 := by rw [Rat.divInt_eq_div]; rfl
  have hx := (mid3 a b).vx hm
  have hy := (mid3 a b).vy hm
  have ex : ((mid3 a b).x : Rat) = a.x * b.w + b.x * a.w := by show (((a.x * b.w + b.x * a.w : Int)) : Rat) = _; rw [Rat.intCast_add, Rat.intCast_mul, Rat.intCast_mul]
  have ey : ((mid3 a b).y : Rat) = a.y * b.w + b.y * a.w := by show (((a.y * b.w + b.y * a.w : Int)) : Rat) = _; rw [Rat.intCast_add, Rat.intCast_mul, Rat.intCast_mul]
  have ew : ((mid3 a b).w : Rat) = 2 * (a.w * b.w) := by show (((2 * (a.w * b.w) : Int)) : Rat) = _; rw [Rat.intCast_mul, Rat.intCast_mul]; rfl
  have pa := rat_pos ha
  have pb := rat_pos hb
  have pab := Rat.mul_pos pa pb
  rw [ex, ew, a.vx ha, b.vx hb] at hx
  rw [ey, ew, a.vy ha, b.vy hb] at hy
  have key : ∀ u v : Rat, u * (2 * ((a.w : Rat) * b.w)) = v * (2 * ((a.w : Rat) * b.w)) → u = v := fun u v h => by
    have h1 : (2 * ((a.w : Rat) * b.w)) * (u - v) = 0 := by grind
    have h2 := (mul_zero_iff' (by grind)).1 h1
    grind
  refine V2.ext' ?_ ?_
  · show (mid3 a b).v.x = (a.v.x + b.v.x) * Rat.divInt 1 2
    refine key _ _ ?_
    rw [← hx, h2]
    grind
  · show (mid3 a b).v.y = (a.v.y + b.v.y) * Rat.divInt 1 2
    refine key _ _ ?_
    rw [← hy, h2]
    grind
theorem cmp3_V {p q : DP} (hp : 0 < p.w) (hq : 0 < q.w) : cmp3 p q = cmpV p.v q.v := cmp3_v hp hq
theorem cmpV_zero {a b : V2} : cmpV a b = 0 ↔ a = b := by
  constructor
  · intro h
    by_cases k : a = b
    · exact k
    · rcases cmpV_cases k with ⟨_, _, e⟩ | ⟨_, _, e⟩ <;> omega
  · intro h
    subst h
    unfold cmpV
    rw [if_neg lexLt_irrefl, if_neg lexLt_irrefl]
theorem upL_v (s : FSg) : upL s = upLV s.A.v s.B.v := by unfold upL upLV; rw [cmpY_sg, cmpX_sg]
theorem upR_v (s : FSg) : upR s = upRV s.A.v s.B.v := by unfold upR upRV; rw [cmpY_sg, cmpX_sg]
theorem lfL_v (s : FSg) : lfL s = lfLV s.A.v s.B.v := by unfold lfL lfLV; rw [cmpY_sg]
theorem lfR_v (s : FSg) : lfR s = lfRV s.A.v s.B.v := by unfold lfR lfRV; rw [cmpY_sg]
end Go.Fw

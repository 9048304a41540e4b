import Derived.Test.YtmmkclefdpmjlaaRg1b
import Derived.Test.YtmmkclefdpmjlaaRg4b
import Derived.Test.YtmmkclefdpmjlaaU1b
import Derived.Test.YtmmkclefdpmjlaaW1b
set_option linter.unusedSimpArgs false
set_option linter.unusedVariables false
namespace Go.Fw
open Go Go.Proofs
theorem cmpQ_sg (a b : Rat) : cmpZ (a.num * b.den) (b.num * a.den) = sgQ (a - b) := by
  rw [cmpQ_eq]
  unfold sgQ
  by_cases h : a < b
  · have h' : a - b < 0 := by grind
    rw [if_pos h, if_pos h']
  · have h' : ¬ a - b < 0 := by grind
    rw [if_neg h, if_neg h']
    by_cases k : b < a
    · have k' : 0 < a - b := by grind
      rw [if_pos k, if_pos k']
    · have k' : ¬ 0 < a - b := by grind
      rw [if_neg k, if_neg k']
theorem sideOf_sg (a b c : FP) : sideOf a b c = sk a.v b.v c.v := by
  unfold sideOf
  simp only
  rw [cmpQ_sg]
  rfl
theorem cmpY_sg (a p : FP) : cmpY a p = sy p.v a.v := by unfold cmpY; rw [cmpQ_sg]; rfl
theorem cmpX_sg (a p : FP) : cmpX a p = sx p.v a.v := by unfold cmpX; rw [cmpQ_sg]; rfl
theorem passesF_v (a b p : FP) (up left : Bool) : passesF a b p up left = passV a.v b.v p.v up left := by
  unfold passesF wayF
  rw [cmpY_sg, cmpY_sg, sideOf_sg]
  rfl
theorem sideS_map {α β : Type} (d : α) (e : β) (f : β → β → Int) (g : α → β) (hg : g d = e) (l : List α) (is : List Nat) : sideS e f (l.map g) is = sideS d (fun a b => f (g a) (g b)) l is := by
  have hm : ∀ i, (l.map g).getD i e = g (l.getD i d) := fun i => by
    rw [List.getD_eq_getElem?_getD, List.getD_eq_getElem?_getD, List.getElem?_map]
    cases l[i]? with
    | none => exact hg.symm
    | some a => rfl
  induction is using snocInd with
  | h0 => rfl
  | h1 is i ih => rw [sideS_snoc, sideS_snoc, ih, hm, hm, List.length_map]
def vnil : V2 := ⟨0, 0⟩
theorem nilF_v : nilF.v = vnil := rfl
theorem nilD_v : nilD.v = vnil := by
  show (⟨Rat.divInt 0 1, Rat.divInt 0 1⟩ : V2) = ⟨0, 0⟩
  rw [Rat.zero_divInt]
def vsF (l : List FP) : List V2 := l.map FP.v
def vsD (l : List DP) : List V2 := l.map DP.v
def hitV (l : List V2) (p : V2) (i : Nat) : Prop := (Sg.mk (l.getD i vnil) (l.getD ((i + 1) % l.length) vnil)).on p
theorem map_getD {α β : Type} (d : α) (e : β) (g : α → β) (hg : g d = e) (l : List α) (i : Nat) : (l.map g).getD i e = g (l.getD i d) := by
  rw [List.getD_eq_getElem?_getD, List.getD_eq_getElem?_getD, List.getElem?_map]
  cases l[i]? with
  | none => exact hg.symm
  | some a => rfl
theorem hitF_v (l : List FP) (p : FP) (i : Nat) : hitF l p i = true ↔ hitV (vsF l) p.v i := by
  unfold hitF hitV vsF
  rw [onF_iff, map_getD nilF vnil FP.v nilF_v, map_getD nilF vnil FP.v nilF_v, List.length_map]
  rfl
theorem passSum_v (l : List FP) (p : FP) (up left : Bool) : passSum l p up left (List.range l.length) = ringS (fun a b => passV a b p.v up left) (vsF l) := by
  have h := sideS_ring vnil (fun a b => passV a b p.v up left) (vsF l)
  rw [← h]
  unfold vsF
  rw [sideS_map nilF vnil _ FP.v nilF_v, List.length_map]
  unfold passSum
  exact sideS_congr nilF _ _ l _ fun i _ => passesF_v _ _ p up left
theorem aroundF_hit {l : List FP} {p : FP} (h : ∃ i, i < l.length ∧ hitV (vsF l) p.v i) : aroundF l p = (0, true) := by
  obtain ⟨i, h1, h2⟩ := h
  unfold aroundF
  rw [if_pos (List.any_eq_true.2 ⟨i, List.mem_range.2 h1, (hitF_v l p i).2 h2⟩)]
theorem aroundF_no {l : List FP} {p : FP} (h : ∀ i, i < l.length → ¬ hitV (vsF l) p.v i) : aroundF l p = (ringS (fun a b => passV a b p.v true false) (vsF l), false) := by
  unfold aroundF
  rw [if_neg]
  · exact congrArg (·, false) (passSum_v l p true false)
  · intro k
    obtain ⟨i, h1, h2⟩ := List.any_eq_true.1 k
    exact h i (List.mem_range.1 h1) ((hitF_v l p i).1 h2)
theorem quar3_v {p q : DP} (hp : 0 < p.w) (hq : 0 < q.w) : quar3 p q = quarS (sx p.v q.v) (sy p.v q.v) := by
  have hd : 0 < q.w * p.w := Int.mul_pos hq hp
  have e1 := cmpZ_v (x := q.x * p.w) (y := p.x * q.w) (q := q.v.x - p.v.x) hd (by
    rw [Rat.intCast_sub, Rat.intCast_mul, Rat.intCast_mul, Rat.intCast_mul, q.vx hq, p.vx hp]; grind)
  have e2 := cmpZ_v (x := q.y * p.w) (y := p.y * q.w) (q := q.v.y - p.v.y) hd (by
    rw [Rat.intCast_sub, Rat.intCast_mul, Rat.intCast_mul, Rat.intCast_mul, q.vy hq, p.vy hp]; grind)
  unfold quar3
  rw [e1, e2]
  rfl
theorem side3_sk {a b p : DP} (ha : 0 < a.w) (hb : 0 < b.w) (hp : 0 < p.w) : side3 a b p = sk a.v b.v p.v := side3_v ha hb hp
theorem turn3_v {p a b : DP} (hp : 0 < p.w) (ha : 0 < a.w) (hb : 0 < b.w) : turn3 p a b = turnV a.v b.v p.v := by
  unfold turn3
  rw [quar3_v hp ha, quar3_v hp hb, side3_sk ha hb hp]
  rfl
theorem DW.at {l : List DP} (h : ∀ p ∈ l, 0 < p.w) (i : Nat) : 0 < (l.getD i nilD).w := by
  rw [List.getD_eq_getElem?_getD]
  by_cases hi : i < l.length
  · rw [List.getElem?_eq_getElem hi]; exact h _ (List.getElem_mem hi)
  · rw [List.getElem?_eq_none (by omega)]; decide
theorem hit3_v {l : List DP} {p : DP} (h : ∀ p ∈ l, 0 < p.w) (hp : 0 < p.w) (i : Nat) : hit3 l p i = true ↔ hitV (vsD l) p.v i := by
  unfold hit3 hitV vsD
  rw [on3_v (DW.at h _) (DW.at h _) hp, map_getD nilD vnil DP.v nilD_v, map_getD nilD vnil DP.v nilD_v, List.length_map]
theorem around3_hit {l : List DP} {p : DP} (hw : ∀ p ∈ l, 0 < p.w) (hp : 0 < p.w) (h : ∃ i, i < l.length ∧ hitV (vsD l) p.v i) : around3 l p = (0, true) := by
  obtain ⟨i, h1, h2⟩ := h
  unfold around3
  rw [if_pos (List.any_eq_true.2 ⟨i, List.mem_range.2 h1, (hit3_v hw hp i).2 h2⟩)]
theorem around3_no {l : List DP} {p : DP} (hw : ∀ p ∈ l, 0 < p.w) (hp : 0 < p.w) (h : ∀ i, i < l.length → ¬ hitV (vsD l) p.v i) : around3 l p = (ringS (fun a b => passV a b p.v true false) (vsD l), false) := by
  have hno : ¬ (List.range l.length).any (hit3 l p) = true := by
    intro k
    obtain ⟨i, h1, h2⟩ := List.any_eq_true.1 k
    exact h i (List.mem_range.1 h1) ((hit3_v hw hp i).1 h2)
  unfold around3
  rw [if_neg hno]
  congr 1
  have e1 : turnSum l p (List.range l.length) = sideS vnil (fun a b => turnV a b p.v) (vsD l) (List.range l.length) := by
    unfold vsD
    rw [sideS_map nilD vnil _ DP.v nilD_v]
    unfold turnSum
    exact sideS_congr nilD _ _ l _ fun i _ => turn3_v hp (DW.at hw _) (DW.at hw _)
  have hl : l.length = (vsD l).length := by unfold vsD; rw [List.length_map]
  have e2 : sideS vnil (fun a b => turnV a b p.v) (vsD l) (List.range l.length) = sideS vnil (fun a b => (highS (sx p.v b) (sy p.v b) - highS (sx p.v a) (sy p.v a)) + 4 * passV a b p.v true false) (vsD l) (List.range l.length) := by
    refine sideS_congr vnil _ _ (vsD l) _ fun i hi => turn_pass ?_
    rw [← on_onR]
    exact h i (List.mem_range.1 hi)
  rw [e1, e2, hl, sideS_ring, ringS_add (fun a b => highS (sx p.v b) (sy p.v b) - highS (sx p.v a) (sy p.v a)) (fun a b => 4 * passV a b p.v true false), ringS_tele (fun a => highS (sx p.v a) (sy p.v a)), ringS_mul]
  generalize ringS (fun a b => passV a b p.v true false) (vsD l) = x
  rw [Int.zero_add, Int.mul_tdiv_cancel_left x (by decide)]
theorem around_same {l : List FP} {m : List DP} {p : FP} {q : DP} (hv : vsF l = vsD m) (hpq : p.v = q.v) (hw : ∀ p ∈ m, 0 < p.w) (hq : 0 < q.w) : aroundF l p = around3 m q := by
  have hl : l.length = m.length := by
    have := congrArg List.length hv
    unfold vsF vsD at this
    rwa [List.length_map, List.length_map] at this
  by_cases h : ∃ i, i < l.length ∧ hitV (vsF l) p.v i
  · rw [aroundF_hit h, around3_hit hw hq]
    obtain ⟨i, h1, h2⟩ := h
    exact ⟨i, by omega, by rw [← hv, ← hpq]; exact h2⟩
  · have h' : ∀ i, i < l.length → ¬ hitV (vsF l) p.v i := fun i hi k => h ⟨i, hi, k⟩
    rw [aroundF_no h', around3_no hw hq (fun i hi => by rw [← hv, ← hpq]; exact h' i (by omega)), hv, hpq]
end Go.Fw
namespace Go.Fw
open Go Go.Proofs
def hitI (p a b : V2) : Int := if (Sg.mk a b).on p then 1 else 0
theorem hitI_swap (p a b : V2) : hitI p b a = hitI p a b := by
  have h : (Sg.mk b a).on p ↔ (Sg.mk a b).on p := by
    rw [on_onR, on_onR]
    unfold Sg.onR
    have e1 : cross b a p = -cross a b p := by unfold cross; grind
    have e2 : dot p b a = dot p a b := by unfold dot; grind
    rw [e1, e2]
    constructor <;> intro h <;> exact ⟨by grind, h.2⟩
  unfold hitI
  by_cases k : (Sg.mk a b).on p
  · rw [if_pos k, if_pos (h.2 k)]
  · rw [if_neg k, if_neg (fun k' => k (h.1 k'))]
theorem sideS_pos {α : Type} (d : α) (f : α → α → Int) (hf : ∀ x y, 0 ≤ f x y) (l : List α) (is : List Nat) : 0 ≤ sideS d f l is ∧ (0 < sideS d f l is ↔ ∃ i ∈ is, 0 < f (l.getD i d) (l.getD ((i + 1) % l.length) d)) := by
  induction is using snocInd with
  | h0 => exact ⟨Int.le_refl _, ⟨fun h => absurd h (Int.lt_irrefl 0), fun ⟨i, h, _⟩ => by cases h⟩⟩
  | h1 is i ih =>
    obtain ⟨h1, h2⟩ := ih
    rw [sideS_snoc]
    have h3 := hf (l.getD i d) (l.getD ((i + 1) % l.length) d)
    refine ⟨by omega, ⟨fun h => ?_, ?_⟩⟩
    · by_cases k : 0 < sideS d f l is
      · obtain ⟨j, hj, hk⟩ := h2.1 k
        exact ⟨j, by simp [hj], hk⟩
      · exact ⟨i, by simp, by omega⟩
    · rintro ⟨j, hj, hk⟩
      rcases List.mem_append.1 hj with hj | hj
      · have := h2.2 ⟨j, hj, hk⟩
        omega
      · rw [List.mem_singleton.1 hj] at hk
        omega
theorem hits_iff (l : List V2) (p : V2) : (∃ i, i < l.length ∧ hitV l p i) ↔ 0 < ringS (hitI p) l := by
  have hp : ∀ x y, 0 ≤ hitI p x y := fun x y => by unfold hitI; split <;> decide
  have hq : ∀ x y, 0 < hitI p x y ↔ (Sg.mk x y).on p := fun x y => by
    unfold hitI
    split
    · rename_i h; exact ⟨fun _ => h, fun _ => by decide⟩
    · rename_i h; exact ⟨fun k => absurd k (by decide), fun k => absurd k h⟩
  rw [← sideS_ring vnil, (sideS_pos vnil (hitI p) hp l _).2]
  constructor
  · rintro ⟨i, h1, h2⟩
    exact ⟨i, List.mem_range.2 h1, (hq _ _).2 h2⟩
  · rintro ⟨i, h1, h2⟩
    exact ⟨i, List.mem_range.1 h1, (hq _ _).1 h2⟩
def aroundV (l : List V2) (p : V2) : Int × Bool := if 0 < ringS (hitI p) l then (0, true) else (ringS (fun a b => passV a b p true false) l, false)
theorem aroundF_v (l : List FP) (p : FP) : aroundF l p = aroundV (vsF l) p.v := by
  have hl : (vsF l).length = l.length := by unfold vsF; rw [List.length_map]
  unfold aroundV
  by_cases h : 0 < ringS (hitI p.v) (vsF l)
  · rw [if_pos h]
    obtain ⟨i, h1, h2⟩ := (hits_iff _ _).2 h
    exact aroundF_hit ⟨i, by omega, h2⟩
  · rw [if_neg h]
    exact aroundF_no fun i hi k => h ((hits_iff _ _).1 ⟨i, by omega, k⟩)
theorem around_rev (l : List V2) (p : V2) : aroundV l.reverse p = (-(aroundV l p).1, (aroundV l p).2) := by
  have e1 : ringS (hitI p) l.reverse = ringS (hitI p) l := by rw [ringS_rev]; exact ringS_congr _ _ (fun a b => hitI_swap p a b) l
  have e2 : ringS (fun a b => passV a b p true false) l.reverse = -ringS (fun a b => passV a b p true false) l := by
    rw [ringS_rev, ← ringS_neg]
    exact ringS_congr _ _ (fun a b => pass_swap a b p true) l
  unfold aroundV
  rw [e1, e2]
  split <;> rfl
theorem around_turn (x : V2) (r : List V2) (p : V2) : aroundV (r ++ [x]) p = aroundV (x :: r) p := by
  unfold aroundV
  rw [ringS_turn, ringS_turn]
theorem around_twice (l : List V2) (p : V2) : aroundV (l ++ l) p = (2 * (aroundV l p).1, (aroundV l p).2) := by
  unfold aroundV
  rw [ringS_twice, ringS_twice]
  by_cases h : 0 < ringS (hitI p) l
  · rw [if_pos h, if_pos (by omega)]; rfl
  · rw [if_neg h, if_neg (by omega)]
theorem around_off {l : List V2} {p : V2} (h : (aroundV l p).2 = false) : (aroundV l p).1 = ringS (fun a b => passV a b p true false) l := by
  unfold aroundV at h ⊢
  by_cases k : 0 < ringS (hitI p) l
  · rw [if_pos k] at h; cases h
  · rw [if_neg k]
theorem around_cut (a b c : List V2) (x y p : V2) (h1 : (aroundV (x :: b ++ [y]) p).2 = false) (h2 : (aroundV (a ++ x :: y :: c) p).2 = false) (h3 : (aroundV (a ++ x :: b ++ y :: c) p).2 = false) :
    (aroundV (x :: b ++ [y]) p).1 + (aroundV (a ++ x :: y :: c) p).1 = (aroundV (a ++ x :: b ++ y :: c) p).1 := by
  rw [around_off h1, around_off h2, around_off h3]
  exact ringS_cut _ (fun a b => pass_swap a b p true) a b c x y
theorem around_cut1 (a c : List V2) (x p : V2) (h1 : (aroundV [x] p).2 = false) (h2 : (aroundV (a ++ x :: x :: c) p).2 = false) (h3 : (aroundV (a ++ x :: c) p).2 = false) :
    (aroundV [x] p).1 + (aroundV (a ++ x :: x :: c) p).1 = (aroundV (a ++ x :: c) p).1 := by
  rw [around_off h1, around_off h2, around_off h3]
  exact ringS_cut1 _ (fun a => pass_self a p true false) a c x
theorem vs_append (l m : List (Int × Int)) : vsF (rowG (l ++ m)) = vsF (rowG l) ++ vsF (rowG m) := by unfold vsF rowG; rw [List.map_append, List.map_append]
theorem vs_reverse (l : List (Int × Int)) : vsF (rowG l.reverse) = (vsF (rowG l)).reverse := by unfold vsF rowG; rw [List.map_reverse, List.map_reverse]
theorem vs_cons (x : Int × Int) (l : List (Int × Int)) : vsF (rowG (x :: l)) = (gridP x).v :: vsF (rowG l) := rfl
theorem aroundF_rev (l : List (Int × Int)) (p : FP) : aroundF (rowG l.reverse) p = (-(aroundF (rowG l) p).1, (aroundF (rowG l) p).2) := by
  rw [aroundF_v, aroundF_v, vs_reverse, around_rev]
theorem aroundF_turn (x : Int × Int) (r : List (Int × Int)) (p : FP) : aroundF (rowG (r ++ [x])) p = aroundF (rowG (x :: r)) p := by
  rw [aroundF_v, aroundF_v, vs_append, vs_cons]
  exact around_turn _ _ _
theorem aroundF_twice (l : List (Int × Int)) (p : FP) : aroundF (rowG (l ++ l)) p = (2 * (aroundF (rowG l) p).1, (aroundF (rowG l) p).2) := by
  rw [aroundF_v, aroundF_v, vs_append, around_twice]
theorem aroundF_bound (l : List FP) (p : FP) : -(l.length : Int) ≤ (aroundF l p).1 ∧ (aroundF l p).1 ≤ l.length := by
  have h := windS_bound l p (List.range l.length)
  rw [List.length_range] at h
  unfold aroundF
  split
  · show -(l.length : Int) ≤ 0 ∧ (0 : Int) ≤ l.length; omega
  · exact h
def turnL (l : List (Int × Int)) (k : Nat) : List (Int × Int) := (List.range k).map fun i => l.getD ((i + 1) % l.length) (0, 0)
theorem turnL_all (x : Int × Int) (r : List (Int × Int)) : turnL (x :: r) (x :: r).length = r ++ [x] := by
  unfold turnL
  apply List.ext_getElem
  · simp
  · intro i h1 h2
    rw [List.getElem_map, List.getElem_range]
    have hi : i < r.length + 1 := by simpa using h2
    by_cases k : i < r.length
    · rw [Nat.mod_eq_of_lt (by simp; omega), List.getElem_append_left k, List.getD_eq_getElem?_getD, List.getElem?_cons_succ, List.getElem?_eq_getElem k]; rfl
    · have hk : i = r.length := by omega
      subst hk
      rw [List.length_cons, Nat.mod_self, List.getElem_append_right (Nat.le_refl _)]
      simp
theorem turnL_snoc (l : List (Int × Int)) (k : Nat) : turnL l (k + 1) = turnL l k ++ [l.getD ((k + 1) % l.length) (0, 0)] := by
  unfold turnL; rw [List.range_succ, List.map_append]; rfl
theorem turnL_around (l : List (Int × Int)) (p : FP) : aroundF (rowG (turnL l l.length)) p = aroundF (rowG l) p := by
  cases l with
  | nil => rfl
  | cons x r => rw [turnL_all, aroundF_turn]
end Go.Fw

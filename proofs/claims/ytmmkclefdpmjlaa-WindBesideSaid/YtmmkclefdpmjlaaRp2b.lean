import Derived.Test.YtmmkclefdpmjlaaRg1b
import Derived.Test.YtmmkclefdpmjlaaRg4b
import Derived.Test.YtmmkclefdpmjlaaU1b
import Derived.Test.YtmmkclefdpmjlaaW1b
set_option linter.unusedSimpArgs false
set_option linter.unusedVariables false
namespace Go.Fw
open Go Go.Proofs
theorem cmpQ_sg (a b : Rat) : cmpZ (a.num * b.den) (b.num * a.den) = sgQ (a - b) := by
  rw [cmpQ_eq]
  unfold sgQ
  by_cases h : a < b
  · have h' : a - b < 0 := by grind
    rw [if_pos h, if_pos h']
  · have h' : ¬ a - b < 0 := by grind
    rw [if_neg h, if_neg h']
    by_cases k : b < a
    · have k' : 0 < a - b := by grind
      rw [if_pos k, if_pos k']
    · have k' : ¬ 0 < a - b := by grind
      rw [if_neg k, if_neg k']
theorem sideOf_sg (a b c : FP) : sideOf a b c = sk a.v b.v c.v := by
  unfold sideOf
  simp only
  rw [cmpQ_sg]
  rfl
theorem cmpY_sg (a p : FP) : cmpY a p = sy p.v a.v := by unfold cmpY; rw [cmpQ_sg]; rfl
theorem cmpX_sg (a p : FP) : cmpX a p = sx p.v a.v := by unfold cmpX; rw [cmpQ_sg]; rfl
theorem passesF_v (a b p : FP) (up left : Bool) : passesF a b p up left = passV a.v b.v p.v up left := by
  unfold passesF wayF
  rw [cmpY_sg, cmpY_sg, sideOf_sg]
  rfl
theorem sideS_map {α β : Type} (d : α) (e : β) (f : β → β → Int) (g : α → β) (hg : g d = e) (l : List α) (is : List Nat) : sideS e f (l.map g) is = sideS d (fun a b => f (g a) (g b)) l is := by
  have hm : ∀ i, (l.map g).getD i e = g (l.getD i d) := fun i => by
    rw [List.getD_eq_getElem?_getD, List.getD_eq_getElem?_getD, List.getElem?_map]
    cases l[i]? with
    | none => exact hg.symm
    | some a => rfl
  induction is using snocInd with
  | h0 => rfl
  | h1 is i ih => rw [sideS_snoc, sideS_snoc, ih, hm, hm, List.length_map]
def vnil : V2 := ⟨0, 0⟩
theorem nilF_v : nilF.v = vnil := rfl
theorem nilD_v : nilD.v = vnil := by
  show (⟨Rat.divInt 0 1, Rat.divInt 0 1⟩ : V2) = ⟨0, 0⟩
  rw [Rat.zero_divInt]
def vsF (l : List FP) : List V2 := l.map FP.v
def vsD (l : List DP) : List V2 := l.map DP.v
def hitV (l : List V2) (p : V2) (i : Nat) : Prop := (Sg.mk (l.getD i vnil) (l.getD ((i + 1) % l.length) vnil)).on p
theorem map_getD {α β : Type} (d : α) (e : β) (g : α → β) (hg : g d = e) (l : List α) (i : Nat) : (l.map g).getD i e = g (l.getD i d) := by
  rw [List.getD_eq_getElem?_getD, List.getD_eq_getElem?_getD, List.getElem?_map]
  cases l[i]? with
  | none => exact hg.symm
  | some a => rfl
theorem passSum_v (l : List FP) (p : FP) (up left : Bool) : passSum l p up left (List.range l.length) = ringS (fun a b => passV a b p.v up left) (vsF l) := by
  have h := sideS_ring vnil (fun a b => passV a b p.v up left) (vsF l)
  rw [← h]
  unfold vsF
  rw [sideS_map nilF vnil _ FP.v nilF_v, List.length_map]
  unfold passSum
  exact sideS_congr nilF _ _ l _ fun i _ => passesF_v _ _ p up left
theorem quar3_v {p q : DP} (hp : 0 < p.w) (hq : 0 < q.w) : quar3 p q = quarS (sx p.v q.v) (sy p.v q.v) := by
  have hd : 0 < q.w * p.w := Int.mul_pos hq hp
  have e1 := cmpZ_v (x := q.x * p.w) (y := p.x * q.w) (q := q.v.x - p.v.x) hd (by
    rw [Rat.intCast_sub, Rat.intCast_mul, Rat.intCast_mul, Rat.intCast_mul, q.vx hq, p.vx hp]; grind)
  have e2 := cmpZ_v (x := q.y * p.w) (y := p.y * q.w) (q := q.v.y - p.v.y) hd (by
    rw [Rat.intCast_sub, Rat.intCast_mul, Rat.intCast_mul, Rat.intCast_mul, q.vy hq, p.vy hp]; grind)
  unfold quar3
  rw [e1, e2]
  rfl
theorem side3_sk {a b p : DP} (ha : 0 < a.w) (hb : 0 < b.w) (hp : 0 < p.w) : side3 a b p = sk a.v b.v p.v := side3_v ha hb hp
theorem turn3_v {p a b : DP} (hp : 0 < p.w) (ha : 0 < a.w) (hb : 0 < b.w) : turn3 p a b = turnV a.v b.v p.v := by
  unfold turn3
  rw [quar3_v hp ha, quar3_v hp hb, side3_sk ha hb hp]
  rfl
theorem DW.at {l : List DP} (h : ∀ p ∈ l, 0 < p.w) (i : Nat) : 0 < (l.getD i nilD).w := by
  rw [List.getD_eq_getElem?_getD]
  by_cases hi : i < l.length
  · rw [List.getElem?_eq_getElem hi]; exact h _ (List.getElem_mem hi)
  · rw [List.getElem?_eq_none (by omega)]; decide
theorem hit3_v {l : List DP} {p : DP} (h : ∀ p ∈ l, 0 < p.w) (hp : 0 < p.w) (i : Nat) : hit3 l p i = true ↔ hitV (vsD l) p.v i := by
  unfold hit3 hitV vsD
  rw [on3_v (DW.at h _) (DW.at h _) hp, map_getD nilD vnil DP.v nilD_v, map_getD nilD vnil DP.v nilD_v, List.length_map]
theorem around3_no {l : List DP} {p : DP} (hw : ∀ p ∈ l, 0 < p.w) (hp : 0 < p.w) (h : ∀ i, i < l.length → ¬ hitV (vsD l) p.v i) : around3 l p = (ringS (fun a b => passV a b p.v true false) (vsD l), false) := by
  have hno : ¬ (List.range l.length).any (hit3 l p) = true := by
    intro k
    obtain ⟨i, h1, h2⟩ := List.any_eq_true.1 k
    exact h i (List.mem_range.1 h1) ((hit3_v hw hp i).1 h2)
  unfold around3
  rw [if_neg hno]
  congr 1
  have e1 : turnSum l p (List.range l.length) = sideS vnil (fun a b => turnV a b p.v) (vsD l) (List.range l.length) := by
    unfold vsD
    rw [sideS_map nilD vnil _ DP.v nilD_v]
    unfold turnSum
    exact sideS_congr nilD _ _ l _ fun i _ => turn3_v hp (DW.at hw _) (DW.at hw _)
  have hl : l.length = (vsD l).length := by unfold vsD; rw [List.length_map]
  have e2 : sideS vnil (fun a b => turnV a b p.v) (vsD l) (List.range l.length) = sideS vnil (fun a b => (highS (sx p.v b) (sy p.v b) - highS (sx p.v a) (sy p.v a)) + 4 * passV a b p.v true false) (vsD l) (List.range l.length) := by
    refine sideS_congr vnil _ _ (vsD l) _ fun i hi => turn_pass ?_
    rw [← on_onR]
    exact h i (List.mem_range.1 hi)
  rw [e1, e2, hl, sideS_ring, ringS_add (fun a b => highS (sx p.v b) (sy p.v b) - highS (sx p.v a) (sy p.v a)) (fun a b => 4 * passV a b p.v true false), ringS_tele (fun a => highS (sx p.v a) (sy p.v a)), ringS_mul]
  generalize ringS (fun a b => passV a b p.v true false) (vsD l) = x
  rw [Int.zero_add, Int.mul_tdiv_cancel_left x (by decide)]
end Go.Fw
namespace Go.Fw
open Go Go.Proofs
def hitI (p a b : V2) : Int := if (Sg.mk a b).on p then 1 else 0
theorem hitI_swap (p a b : V2) : hitI p b a = hitI p a b := by
  have h : (Sg.mk b a).on p ↔ (Sg.mk a b).on p := by
    rw [on_onR, on_onR]
    unfold Sg.onR
    have e1 : cross b a p = -cross a b p := by unfold cross; grind
    have e2 : dot p b a = dot p a b := by unfold dot; grind
    rw [e1, e2]
    constructor <;> intro h <;> exact ⟨by grind, h.2⟩
  unfold hitI
  by_cases k : (Sg.mk a b).on p
  · rw [if_pos k, if_pos (h.2 k)]
  · rw [if_neg k, if_neg (fun k' => k (h.1 k'))]
def aroundV (l : List V2) (p : V2) : Int × Bool := if 0 < ringS (hitI p) l then (0, true) else (ringS (fun a b => passV a b p true false) l, false)
def turnL (l : List (Int × Int)) (k : Nat) : List (Int × Int) := (List.range k).map fun i => l.getD ((i + 1) % l.length) (0, 0)
end Go.Fw

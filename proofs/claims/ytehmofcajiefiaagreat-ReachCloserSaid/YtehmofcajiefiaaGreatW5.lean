/- The document's Meet and Clip are the program's (plain). -/
import Derived.Test.YtehmofcajiefiaaGreatW1b
import Derived.Test.YtehmofcajiefiaaGreatW4
set_option linter.unusedSimpArgs false
set_option linter.unusedVariables false
namespace Go.Fw
open Go Go.Proofs
theorem rat_nn {x y : Rat} (hx : x < 0) (hy : y < 0) : 0 < x * y := by
  have := Rat.mul_pos (a := -x) (b := -y) (by grind) (by grind)
  grind
theorem rat_pn {x y : Rat} (hx : 0 < x) (hy : y < 0) : x * y < 0 := by
  have := Rat.mul_pos (a := x) (b := -y) hx (by grind)
  grind
theorem rat_np {x y : Rat} (hx : x < 0) (hy : 0 < y) : x * y < 0 := by
  have := Rat.mul_pos (a := -x) (b := y) (by grind) hy
  grind
def lowR (p : DP) : List DP → DP
  | [] => p
  | q :: l => lowR (if cmp3 q p < 0 then q else p) l
def highR (p : DP) : List DP → DP
  | [] => p
  | q :: l => highR (if 0 < cmp3 q p then q else p) l
def bothR (a b c d : DP) (l : List DP) : List DP := l.filter fun p => on3 a b p && on3 c d p
theorem stepR_two (a b c d : DP) : ∀ (L : List DP) (l h : DP), L.foldl (stepR a b c d) [l, h] = [lowR l (bothR a b c d L), highR h (bothR a b c d L)] := by
  intro L
  induction L with
  | nil => intro l h; rfl
  | cons p L ih =>
    intro l h
    rw [List.foldl_cons]
    unfold stepR bothR
    rw [List.filter_cons]
    by_cases hp : on3 a b p = true ∧ on3 c d p = true
    · have hp' : (on3 a b p && on3 c d p) = true := by rw [hp.1, hp.2]; rfl
      rw [if_pos hp, if_pos hp']
      exact ih _ _
    · have hp' : ¬ (on3 a b p && on3 c d p) = true := by simpa [Bool.and_eq_true] using hp
      rw [if_neg hp, if_neg hp']
      exact ih _ _
theorem stepR_all (a b c d : DP) : ∀ (L : List DP), L.foldl (stepR a b c d) [] = match bothR a b c d L with
    | [] => []
    | p :: r => [lowR p (p :: r), highR p (p :: r)] := by
  intro L
  induction L with
  | nil => rfl
  | cons p L ih =>
    rw [List.foldl_cons]
    by_cases hp : on3 a b p = true ∧ on3 c d p = true
    · have hp' : (on3 a b p && on3 c d p) = true := by rw [hp.1, hp.2]; rfl
      have e1 : stepR a b c d [] p = [p, p] := by unfold stepR; rw [if_pos hp]
      have e2 : bothR a b c d (p :: L) = p :: bothR a b c d L := by unfold bothR; rw [List.filter_cons, if_pos hp']
      rw [e1, e2, stepR_two]
      have c0 := cmp3_self p
      simp only [lowR, highR, c0, Int.lt_irrefl, if_false]
    · have hp' : ¬ (on3 a b p && on3 c d p) = true := by simpa [Bool.and_eq_true] using hp
      have e1 : stepR a b c d [] p = [] := by unfold stepR; rw [if_neg hp]
      have e2 : bothR a b c d (p :: L) = bothR a b c d L := by unfold bothR; rw [List.filter_cons, if_neg hp']
      rw [e1, e2, ih]
def allP (l : List DP) : Prop := ∀ p ∈ l, 0 < p.w
theorem lowR_v : ∀ (l : List DP) (p : DP), 0 < p.w → allP l → (lowR p l).v = lowest p.v (l.map DP.v) ∧ 0 < (lowR p l).w := by
  intro l
  induction l with
  | nil => intro p hp _; exact ⟨rfl, hp⟩
  | cons q l ih =>
    intro p hp hl
    have hq := hl q (by simp)
    have hl' : allP l := fun x hx => hl x (List.mem_cons_of_mem _ hx)
    simp only [lowR, lowest, List.map_cons]
    unfold lowP
    by_cases h : cmp3 q p < 0
    · rw [if_pos h, if_pos ((cmp3_neg hq hp).1 h)]; exact ih q hq hl'
    · rw [if_neg h, if_neg (fun k => h ((cmp3_neg hq hp).2 k))]; exact ih p hp hl'
theorem highR_v : ∀ (l : List DP) (p : DP), 0 < p.w → allP l → (highR p l).v = highest p.v (l.map DP.v) ∧ 0 < (highR p l).w := by
  intro l
  induction l with
  | nil => intro p hp _; exact ⟨rfl, hp⟩
  | cons q l ih =>
    intro p hp hl
    have hq := hl q (by simp)
    have hl' : allP l := fun x hx => hl x (List.mem_cons_of_mem _ hx)
    simp only [highR, highest, List.map_cons]
    unfold highP
    by_cases h : 0 < cmp3 q p
    · rw [if_pos h, if_pos ((cmp3_pos hq hp).1 h)]; exact ih q hq hl'
    · rw [if_neg h, if_neg (fun k => h ((cmp3_pos hq hp).2 k))]; exact ih p hp hl'
theorem bothR_v {a b c d : DP} (ha : 0 < a.w) (hb : 0 < b.w) (hc : 0 < c.w) (hd : 0 < d.w) : (bothR a b c d [a, b, c, d]).map DP.v = both ⟨a.v, b.v⟩ ⟨c.v, d.v⟩ := by
  unfold bothR both
  have e : [(Sg.mk a.v b.v).A, (Sg.mk a.v b.v).B, (Sg.mk c.v d.v).A, (Sg.mk c.v d.v).B] = [a, b, c, d].map DP.v := rfl
  rw [e, List.filter_map]
  congr 1
  refine List.filter_congr fun p hp => ?_
  have hw : 0 < p.w := by
    simp only [List.mem_cons, List.not_mem_nil, or_false] at hp
    rcases hp with rfl | rfl | rfl | rfl <;> assumption
  show (on3 a b p && on3 c d p) = (decide ((Sg.mk a.v b.v).on p.v) && decide ((Sg.mk c.v d.v).on p.v))
  congr 1
  · rw [Bool.eq_iff_iff, on3_v ha hb hw, decide_eq_true_eq]
  · rw [Bool.eq_iff_iff, on3_v hc hd hw, decide_eq_true_eq]
theorem meetR_v {a b c d : DP} (ha : 0 < a.w) (hb : 0 < b.w) (hc : 0 < c.w) (hd : 0 < d.w) : (meetR a b c d).map DP.v = meet ⟨a.v, b.v⟩ ⟨c.v, d.v⟩ ∧ allP (meetR a b c d) := by
  unfold meetR meet
  by_cases h0 : crossW ⟨a.v, b.v⟩ ⟨c.v, d.v⟩ = 0
  · rw [if_pos ((parB_v ha hb hc hd).2 h0), if_neg (fun k => k h0), stepR_all, ← bothR_v ha hb hc hd]
    have hal : allP (bothR a b c d [a, b, c, d]) := fun p hp => by
      have := (List.mem_filter.1 hp).1
      simp only [List.mem_cons, List.not_mem_nil, or_false] at this
      rcases this with rfl | rfl | rfl | rfl <;> assumption
    generalize bothR a b c d [a, b, c, d] = K at *
    cases K with
    | nil => exact ⟨rfl, fun p hp => by cases hp⟩
    | cons p r =>
      have hp := hal p (by simp)
      obtain ⟨l1, l2⟩ := lowR_v (p :: r) p hp hal
      obtain ⟨u1, u2⟩ := highR_v (p :: r) p hp hal
      simp only [endR, List.map_cons, ends]
      rw [List.map_cons] at l1 u1
      rw [← l1, ← u1]
      by_cases hk : cmp3 (lowR p (p :: r)) (highR p (p :: r)) = 0
      · rw [if_pos hk, if_pos ((cmp3_zero l2 u2).1 hk)]
        exact ⟨rfl, fun x hx => by rw [List.mem_singleton.1 hx]; exact l2⟩
      · rw [if_neg hk, if_neg (fun e => hk ((cmp3_zero l2 u2).2 e))]
        refine ⟨rfl, fun x hx => ?_⟩
        simp only [List.mem_cons, List.not_mem_nil, or_false] at hx
        rcases hx with rfl | rfl <;> assumption
  · rw [if_neg (fun k => h0 ((parB_v ha hb hc hd).1 k)), if_pos h0]
    have hw := crossP_w ha hb hc hd h0
    have hv := crossP_v ha hb hc hd h0
    have o1 := on3_v ha hb hw
    have o2 := on3_v hc hd hw
    rw [hv] at o1 o2
    by_cases hon : on3 a b (crossP a b c d) = true ∧ on3 c d (crossP a b c d) = true
    · rw [if_pos hon]
      obtain ⟨_, _, q1, q2, q3, q4⟩ := crossW_pt (o1.1 hon.1) (o2.1 hon.2) h0
      rw [if_neg (by grind)]
      refine ⟨?_, fun x hx => by rw [List.mem_singleton.1 hx]; exact hw⟩
      show [(crossP a b c d).v] = _
      rw [hv]
    · rw [if_neg hon]
      refine ⟨?_, fun x hx => by cases hx⟩
      rw [if_pos]
      · rfl
      · refine Classical.byContradiction fun k => hon ⟨o1.2 ((on_iff _ _).2 ⟨_, by grind, by grind, rfl⟩), o2.2 ?_⟩
        rw [part_eq h0]
        exact (on_iff _ _).2 ⟨_, by grind, by grind, rfl⟩
theorem clipR_v {a b c d : DP} (ha : 0 < a.w) (hb : 0 < b.w) (hc : 0 < c.w) (hd : 0 < d.w) : (clipR a b c d).map DP.v = clip ⟨a.v, b.v⟩ ⟨c.v, d.v⟩ ∧ allP (clipR a b c d) := by
  have s1 : sd3 c d a = _ := side3_v hc hd ha
  have s2 : sd3 c d b = _ := side3_v hc hd hb
  have hW : crossW ⟨a.v, b.v⟩ ⟨c.v, d.v⟩ = cross c.v d.v a.v - cross c.v d.v b.v := by unfold crossW cross; grind
  have hP : (Sg.mk a.v b.v).part ⟨c.v, d.v⟩ = cross c.v d.v a.v / (cross c.v d.v a.v - cross c.v d.v b.v) := by
    rw [← hW]
    unfold Sg.part
    congr 1
    unfold cross
    grind
  have hx := crossP_v ha hb hc hd
  have hxw := crossP_w ha hb hc hd
  rw [hW] at hx hxw
  rw [hP] at hx
  have hab : a.v = b.v → cross c.v d.v a.v = cross c.v d.v b.v := fun e => by rw [e]
  have z0 := cmp3_zero ha hb
  unfold clipR clip
  show _ = clipW (cross c.v d.v a.v) (cross c.v d.v b.v) ⟨a.v, b.v⟩ ∧ _
  generalize cross c.v d.v a.v = x at *
  generalize cross c.v d.v b.v = y at *
  generalize sd3 c d a = u at *
  generalize sd3 c d b = v at *
  have sg : ∀ {u : Int} {x : Rat}, u = (if x < 0 then -1 else if 0 < x then 1 else 0) → (0 ≤ u ↔ 0 ≤ x) ∧ (u < 0 ↔ x < 0) ∧ (u = 0 ↔ x = 0) ∧ (0 < u ↔ 0 < x) := fun {u x} e => by
    by_cases h1 : x < 0
    · rw [if_pos h1] at e; subst e
      refine ⟨⟨fun h => by omega, fun h => by grind⟩, ⟨fun _ => h1, fun _ => by omega⟩, ⟨fun h => by omega, fun h => by grind⟩, ⟨fun h => by omega, fun h => by grind⟩⟩
    · rw [if_neg h1] at e
      by_cases h2 : 0 < x
      · rw [if_pos h2] at e; subst e
        refine ⟨⟨fun h => by grind, fun h => by omega⟩, ⟨fun h => by omega, fun h => by grind⟩, ⟨fun h => by omega, fun h => by grind⟩, ⟨fun h => h2, fun h => by omega⟩⟩
      · rw [if_neg h2] at e; subst e
        have : x = 0 := by grind
        refine ⟨⟨fun h => by grind, fun h => by omega⟩, ⟨fun h => by omega, fun h => by grind⟩, ⟨fun h => this, fun h => rfl⟩, ⟨fun h => by omega, fun h => by grind⟩⟩
  obtain ⟨a1, a2, a3, a4⟩ := sg s1
  obtain ⟨b1, b2, b3, b4⟩ := sg s2
  simp only [a1, a2, a3, a4, b1, b2, b3]
  unfold clipW
  dsimp only
  by_cases c1 : 0 ≤ x ∧ 0 ≤ y
  · have hm := Rat.mul_nonneg c1.1 c1.2
    rw [if_pos c1, if_pos c1.1, if_neg (c := x * y < 0) (by grind)]
    by_cases hk : cmp3 a b = 0
    · rw [if_pos hk, if_neg (fun k => k.2 (z0.1 hk))]
      exact ⟨rfl, fun p hp => by rw [List.mem_singleton.1 hp]; exact ha⟩
    · rw [if_neg hk, if_pos ⟨c1.2, fun e => hk (z0.2 e)⟩]
      refine ⟨rfl, fun p hp => ?_⟩
      simp only [List.mem_cons, List.not_mem_nil, or_false] at hp
      rcases hp with rfl | rfl <;> assumption
  rw [if_neg c1]
  by_cases c2 : x < 0 ∧ y < 0
  · have hm := rat_nn c2.1 c2.2
    rw [if_pos c2, if_neg (c := 0 ≤ x) (by grind), if_neg (c := x * y < 0) (by grind), if_neg (fun k => by grind)]
    exact ⟨rfl, fun p hp => by cases hp⟩
  rw [if_neg c2]
  by_cases c3 : x = 0
  · have hy : y < 0 := by grind
    rw [if_pos c3, if_pos (by grind), if_neg (c := x * y < 0) (by rw [c3, Rat.zero_mul]; exact Rat.lt_irrefl), if_neg (fun k => by grind)]
    exact ⟨rfl, fun p hp => by rw [List.mem_singleton.1 hp]; exact ha⟩
  rw [if_neg c3]
  by_cases c4 : y = 0
  · have hx0 : x < 0 := by grind
    rw [if_pos c4, if_neg (c := 0 ≤ x) (by grind), if_neg (c := x * y < 0) (by rw [c4, Rat.mul_zero]; exact Rat.lt_irrefl), if_pos ⟨by grind, fun e => by have := hab e; grind⟩]
    exact ⟨rfl, fun p hp => by rw [List.mem_singleton.1 hp]; exact hb⟩
  rw [if_neg c4]
  by_cases c5 : 0 < x
  · have hy : y < 0 := by grind
    have hm : x * y < 0 := rat_pn c5 hy
    rw [if_pos c5, if_pos (by grind), if_pos hm, if_neg (fun k => by grind)]
    have hne : x - y ≠ 0 := by grind
    refine ⟨?_, fun p hp => ?_⟩
    · show [a.v, (crossP a b c d).v] = _
      rw [hx hne]
      rfl
    · simp only [List.mem_cons, List.not_mem_nil, or_false] at hp
      rcases hp with rfl | rfl
      · exact ha
      · exact hxw hne
  · have hx0 : x < 0 := by grind
    have hy : 0 < y := by grind
    have hm : x * y < 0 := rat_np hx0 hy
    rw [if_neg c5, if_neg (c := 0 ≤ x) (by grind), if_pos hm, if_pos ⟨by grind, fun e => by have := hab e; grind⟩]
    have hne : x - y ≠ 0 := by grind
    refine ⟨?_, fun p hp => ?_⟩
    · show [(crossP a b c d).v, b.v] = _
      rw [hx hne]
      rfl
    · simp only [List.mem_cons, List.not_mem_nil, or_false] at hp
      rcases hp with rfl | rfl
      · exact hxw hne
      · exact hb
end Go.Fw

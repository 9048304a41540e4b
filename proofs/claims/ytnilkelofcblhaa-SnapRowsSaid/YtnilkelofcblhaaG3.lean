/- The document's box is the program's (plain). -/
import Derived.Test.YtnilkelofcblhaaG2
import Derived.Test.YtnilkelofcblhaaS4
import Derived.Test.YtnilkelofcblhaaSn
set_option linter.unusedSimpArgs false
set_option linter.unusedVariables false
namespace Go.Fw
open Go Go.Proofs

theorem floor_mono {a b : Rat} (h : a ≤ b) : a.floor ≤ b.floor := by
  rw [Rat.le_floor_iff]
  have := Rat.floor_le a
  grind
theorem floor_v (p : DP) (hw : 0 < p.w) : p.v.x.floor = p.x / p.w ∧ p.v.y.floor = p.y / p.w := ⟨floor_q hw, floor_q hw⟩
theorem up_v (p : DP) (hw : 0 < p.w) : upQ p.v.x = -((-p.x) / p.w) ∧ upQ p.v.y = -((-p.y) / p.w) := by
  have key : ∀ n : Int, upQ (Rat.divInt n p.w) = -((-n) / p.w) := fun n => by
    unfold upQ
    have e : -(Rat.divInt n p.w) = Rat.divInt (-n) p.w := (dv_of hw (by rw [Rat.intCast_neg, dv_mul (x := n) hw]; grind)).symm
    rw [e, floor_q hw]
  exact ⟨key _, key _⟩
theorem floor_le_up (a : Rat) : a.floor ≤ upQ a := by
  unfold upQ
  have h1 := Rat.floor_le a
  have h2 := Rat.floor_le (-a)
  rw [← Rat.intCast_le_intCast, Rat.intCast_neg]
  grind
theorem up_mono {a b : Rat} (h : a ≤ b) : upQ a ≤ upQ b := by
  unfold upQ
  have := floor_mono (a := -b) (b := -a) (by grind)
  omega
/-- The least and the greatest so far. -/
def loK (D : List DP) (F : DP → Int) (i : Nat) (a : Int) : Prop := (∃ p ∈ D.take i, a = F p) ∧ ∀ p ∈ D.take i, a ≤ F p
def hiK (D : List DP) (F : DP → Int) (i : Nat) (a : Int) : Prop := (∃ p ∈ D.take i, a = F p) ∧ ∀ p ∈ D.take i, F p ≤ a
theorem loK_step {D : List DP} {F : DP → Int} {i k : Nat} {a : Int} (hi : i < D.length) (hk : k < 2) (h : 0 < i → loK D F i a) : loK D F (i + 1) (bstep i k (F D[i]) a) := by
  unfold loK
  rw [List.take_succ_eq_append_getElem hi]
  have hm : ∀ p, p ∈ D.take i ++ [D[i]] ↔ p ∈ D.take i ∨ p = D[i] := fun p => by rw [List.mem_append, List.mem_singleton]
  simp only [hm]
  unfold bstep
  by_cases h0 : i = 0
  · subst h0
    rw [if_pos (.inl rfl)]
    refine ⟨⟨_, .inr rfl, rfl⟩, fun p hp => ?_⟩
    rcases hp with hp | rfl
    · simp at hp
    · exact Int.le_refl _
  · obtain ⟨⟨q, hq, e⟩, h2⟩ := h (by omega)
    by_cases hlt : F D[i] < a
    · rw [if_pos (.inr (.inl ⟨hk, hlt⟩))]
      refine ⟨⟨_, .inr rfl, rfl⟩, fun p hp => ?_⟩
      rcases hp with hp | rfl
      · have := h2 p hp; omega
      · exact Int.le_refl _
    · rw [if_neg (by omega)]
      refine ⟨⟨q, .inl hq, e⟩, fun p hp => ?_⟩
      rcases hp with hp | rfl
      · exact h2 p hp
      · omega
theorem hiK_step {D : List DP} {F : DP → Int} {i k : Nat} {a : Int} (hi : i < D.length) (hk : 1 < k) (h : 0 < i → hiK D F i a) : hiK D F (i + 1) (bstep i k (F D[i]) a) := by
  unfold hiK
  rw [List.take_succ_eq_append_getElem hi]
  have hm : ∀ p, p ∈ D.take i ++ [D[i]] ↔ p ∈ D.take i ∨ p = D[i] := fun p => by rw [List.mem_append, List.mem_singleton]
  simp only [hm]
  unfold bstep
  by_cases h0 : i = 0
  · subst h0
    rw [if_pos (.inl rfl)]
    refine ⟨⟨_, .inr rfl, rfl⟩, fun p hp => ?_⟩
    rcases hp with hp | rfl
    · simp at hp
    · exact Int.le_refl _
  · obtain ⟨⟨q, hq, e⟩, h2⟩ := h (by omega)
    by_cases hlt : a < F D[i]
    · rw [if_pos (.inr (.inr ⟨hk, hlt⟩))]
      refine ⟨⟨_, .inr rfl, rfl⟩, fun p hp => ?_⟩
      rcases hp with hp | rfl
      · have := h2 p hp; omega
      · exact Int.le_refl _
    · rw [if_neg (by omega)]
      refine ⟨⟨q, .inl hq, e⟩, fun p hp => ?_⟩
      rcases hp with hp | rfl
      · exact h2 p hp
      · omega
theorem boxN_all (D : List DP) : ∀ i, i ≤ D.length → ∀ a b c d, boxN D i = [a, b, c, d] → 0 < i →
    loK D (fun p => intR (p.x / p.w)) i a ∧ loK D (fun p => intR (p.y / p.w)) i b ∧ hiK D (fun p => intR (-((-p.x) / p.w))) i c ∧ hiK D (fun p => intR (-((-p.y) / p.w))) i d := by
  intro i
  induction i with
  | zero => intro _ _ _ _ _ _ h; omega
  | succ i ih =>
    intro hi a b c d h _
    rw [boxN_succ D i (by omega)] at h
    obtain ⟨a', b', c', d', h'⟩ := boxN_four D i
    have ih' := ih (by omega) a' b' c' d' h'
    rw [h'] at h
    have e1 : bstep i 0 (intR (D[i].x / D[i].w)) a' = a := by injection h
    have e2 : bstep i 1 (intR (D[i].y / D[i].w)) b' = b := by injection h with _ h; injection h
    have e3 : bstep i 2 (intR (-((-D[i].x) / D[i].w))) c' = c := by injection h with _ h; injection h with _ h; injection h
    have e4 : bstep i 3 (intR (-((-D[i].y) / D[i].w))) d' = d := by injection h with _ h; injection h with _ h; injection h with _ h; injection h
    rw [← e1, ← e2, ← e3, ← e4]
    exact ⟨loK_step (F := fun p => intR (p.x / p.w)) (by omega) (by omega) fun h0 => (ih' h0).1, loK_step (F := fun p => intR (p.y / p.w)) (by omega) (by omega) fun h0 => (ih' h0).2.1,
      hiK_step (F := fun p => intR (-((-p.x) / p.w))) (by omega) (by omega) fun h0 => (ih' h0).2.2.1, hiK_step (F := fun p => intR (-((-p.y) / p.w))) (by omega) (by omega) fun h0 => (ih' h0).2.2.2⟩

/-- The least number's floor. -/
theorem least_floor (X : List FQ) (D : List DP) (G : V2 → Rat) (hX : X.map (·.q) = D.map (fun p => G p.v)) (h0 : X ≠ []) : (∃ p ∈ D, (leastOf X).q.floor = (G p.v).floor) ∧ ∀ p ∈ D, (leastOf X).q.floor ≤ (G p.v).floor := by
  have hm := leastOf_mem X (List.length_pos_iff.2 h0)
  have h1 : (leastOf X).q ∈ X.map (·.q) := List.mem_map.2 ⟨_, hm, rfl⟩
  rw [hX] at h1
  obtain ⟨p, hp, e⟩ := List.mem_map.1 h1
  refine ⟨⟨p, hp, by rw [← e]⟩, fun p hp => ?_⟩
  have h2 : G p.v ∈ D.map (fun p => G p.v) := List.mem_map.2 ⟨p, hp, rfl⟩
  rw [← hX] at h2
  obtain ⟨x, hx, e⟩ := List.mem_map.1 h2
  rw [← e]
  exact floor_mono (leastOf_le X x hx)
theorem most_up (X : List FQ) (D : List DP) (G : V2 → Rat) (hX : X.map (·.q) = D.map (fun p => G p.v)) (h0 : X ≠ []) : (∃ p ∈ D, upQ (mostOf X).q = upQ (G p.v)) ∧ ∀ p ∈ D, upQ (G p.v) ≤ upQ (mostOf X).q := by
  have hm := mostOf_mem X (List.length_pos_iff.2 h0)
  have h1 : (mostOf X).q ∈ X.map (·.q) := List.mem_map.2 ⟨_, hm, rfl⟩
  rw [hX] at h1
  obtain ⟨p, hp, e⟩ := List.mem_map.1 h1
  refine ⟨⟨p, hp, by rw [← e]⟩, fun p hp => ?_⟩
  have h2 : G p.v ∈ D.map (fun p => G p.v) := List.mem_map.2 ⟨p, hp, rfl⟩
  rw [← hX] at h2
  obtain ⟨x, hx, e⟩ := List.mem_map.1 h2
  rw [← e]
  exact up_mono (le_mostOf X x hx)
theorem xsOf_q (S : List FSg) : (xsOf S).map (·.q) = (S.flatMap fun s => [s.A.v, s.B.v]).map V2.x := by
  induction S with
  | nil => rfl
  | cons s S ih =>
    have e1 : xsOf (s :: S) = [s.A.x, s.B.x] ++ xsOf S := rfl
    rw [e1, List.flatMap_cons, List.map_append, List.map_append, ih]
    rfl
theorem ysOf_q (S : List FSg) : (ysOf S).map (·.q) = (S.flatMap fun s => [s.A.v, s.B.v]).map V2.y := by
  induction S with
  | nil => rfl
  | cons s S ih =>
    have e1 : ysOf (s :: S) = [s.A.y, s.B.y] ++ ysOf S := rfl
    rw [e1, List.flatMap_cons, List.map_append, List.map_append, ih]
    rfl
theorem box_plain (S : List FSg) (D : List DP) (hv : D.map DP.v = S.flatMap (fun s => [s.A.v, s.B.v])) (hw : ∀ p ∈ D, 0 < p.w) (h0 : S ≠ []) {a b c d : Int} (hN : boxN D D.length = [a, b, c, d]) :
    (D.all okP = true → lowG S = some (a, b) ∧ highG S = some (c, d)) ∧ (D.all okP = false → lowG S = none ∨ highG S = none) := by
  have hX0 : xsOf S ≠ [] := fun k => by
    have := congrArg List.length k
    rw [xsOf_len] at this
    exact h0 (List.eq_nil_of_length_eq_zero (by simp at this; omega))
  have hY0 : ysOf S ≠ [] := fun k => by
    have := congrArg List.length k
    rw [ysOf_len] at this
    exact h0 (List.eq_nil_of_length_eq_zero (by simp at this; omega))
  have hX : (xsOf S).map (·.q) = D.map (fun p => p.v.x) := by rw [xsOf_q, ← hv, List.map_map]; rfl
  have hY : (ysOf S).map (·.q) = D.map (fun p => p.v.y) := by rw [ysOf_q, ← hv, List.map_map]; rfl
  have hD : 0 < D.length := by
    have := congrArg List.length hX
    rw [List.length_map, List.length_map, xsOf_len] at this
    have := List.length_pos_iff.2 h0
    omega
  obtain ⟨⟨p1, q1, r1⟩, s1⟩ := least_floor (xsOf S) D V2.x hX hX0
  obtain ⟨⟨p2, q2, r2⟩, s2⟩ := least_floor (ysOf S) D V2.y hY hY0
  obtain ⟨⟨p3, q3, r3⟩, s3⟩ := most_up (xsOf S) D V2.x hX hX0
  obtain ⟨⟨p4, q4, r4⟩, s4⟩ := most_up (ysOf S) D V2.y hY hY0
  obtain ⟨b1, b2, b3, b4⟩ := boxN_all D D.length (Nat.le_refl _) a b c d hN hD
  unfold loK at b1 b2
  unfold hiK at b3 b4
  rw [List.take_length] at b1 b2 b3 b4
  dsimp only at b1 b2 b3 b4
  have hin : ∀ z, inC z ↔ inR z := fun z => Iff.rfl
  unfold lowG highG gridZ
  generalize (leastOf (xsOf S)).q.floor = A at *
  generalize (leastOf (ysOf S)).q.floor = B at *
  generalize upQ (mostOf (xsOf S)).q = E at *
  generalize upQ (mostOf (ysOf S)).q = G at *
  constructor
  · intro hok
    have hall : ∀ p ∈ D, inR (p.x / p.w) ∧ inR (p.y / p.w) ∧ inR (-((-p.x) / p.w)) ∧ inR (-((-p.y) / p.w)) := fun p hp => by
      have := List.all_eq_true.1 hok p hp
      simpa [okP, mk4] using this
    have iR : ∀ z, inR z → intR z = z := fun z hz => by unfold intR; rw [if_pos hz]
    obtain ⟨⟨u1, v1, w1⟩, x1⟩ := b1
    obtain ⟨⟨u2, v2, w2⟩, x2⟩ := b2
    obtain ⟨⟨u3, v3, w3⟩, x3⟩ := b3
    obtain ⟨⟨u4, v4, w4⟩, x4⟩ := b4
    have eA : A = a := by
      have h1 := s1 u1 v1
      have h2 := x1 p1 q1
      rw [(floor_v u1 (hw _ v1)).1] at h1
      rw [(floor_v p1 (hw _ q1)).1] at r1
      rw [iR _ (hall p1 q1).1] at h2
      rw [iR _ (hall u1 v1).1] at w1
      omega
    have eB : B = b := by
      have h1 := s2 u2 v2
      have h2 := x2 p2 q2
      rw [(floor_v u2 (hw _ v2)).2] at h1
      rw [(floor_v p2 (hw _ q2)).2] at r2
      rw [iR _ (hall p2 q2).2.1] at h2
      rw [iR _ (hall u2 v2).2.1] at w2
      omega
    have eE : E = c := by
      have h1 := s3 u3 v3
      have h2 := x3 p3 q3
      rw [(up_v u3 (hw _ v3)).1] at h1
      rw [(up_v p3 (hw _ q3)).1] at r3
      rw [iR _ (hall p3 q3).2.2.1] at h2
      rw [iR _ (hall u3 v3).2.2.1] at w3
      omega
    have eG : G = d := by
      have h1 := s4 u4 v4
      have h2 := x4 p4 q4
      rw [(up_v u4 (hw _ v4)).2] at h1
      rw [(up_v p4 (hw _ q4)).2] at r4
      rw [iR _ (hall p4 q4).2.2.2] at h2
      rw [iR _ (hall u4 v4).2.2.2] at w4
      omega
    have iA : inR A := by rw [r1, (floor_v p1 (hw _ q1)).1]; exact (hall p1 q1).1
    have iB : inR B := by rw [r2, (floor_v p2 (hw _ q2)).2]; exact (hall p2 q2).2.1
    have iE : inR E := by rw [r3, (up_v p3 (hw _ q3)).1]; exact (hall p3 q3).2.2.1
    have iG : inR G := by rw [r4, (up_v p4 (hw _ q4)).2]; exact (hall p4 q4).2.2.2
    rw [if_pos ⟨(hin _).2 iA, (hin _).2 iB⟩, if_pos ⟨(hin _).2 iE, (hin _).2 iG⟩, eA, eB, eE, eG]
    exact ⟨rfl, rfl⟩
  · intro hok
    refine Classical.byContradiction fun hne => ?_
    have h1 : inR A ∧ inR B := Classical.byContradiction fun k => hne (.inl (if_neg (fun h => k ⟨(hin _).1 h.1, (hin _).1 h.2⟩)))
    have h2 : inR E ∧ inR G := Classical.byContradiction fun k => hne (.inr (if_neg (fun h => k ⟨(hin _).1 h.1, (hin _).1 h.2⟩)))
    have : D.all okP = true := List.all_eq_true.2 fun p hp => by
      have f1 := s1 p hp
      have f2 := s2 p hp
      have f3 := s3 p hp
      have f4 := s4 p hp
      have g1 := floor_le_up p.v.x
      have g2 := floor_le_up p.v.y
      rw [(floor_v p (hw _ hp)).1] at f1 g1
      rw [(floor_v p (hw _ hp)).2] at f2 g2
      rw [(up_v p (hw _ hp)).1] at f3 g1
      rw [(up_v p (hw _ hp)).2] at f4 g2
      unfold inR at h1 h2
      have k : inR (p.x / p.w) ∧ inR (p.y / p.w) ∧ inR (-((-p.x) / p.w)) ∧ inR (-((-p.y) / p.w)) := by unfold inR; omega
      simpa [okP, mk4] using k
    rw [this] at hok
    cases hok
end Go.Fw

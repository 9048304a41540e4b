/- gds, plain: what few says. -/
import Derived.Test.YtjgbikhnnkigpaaGp40
set_option linter.unusedSimpArgs false
set_option linter.unusedVariables false
namespace Go.Fw
open Go Go.Proofs Go.IntWalk
set_option linter.unusedSimpArgs false
set_option maxRecDepth 100000
theorem itemsG_mono : ∀ (xs : List Item) (s : Nat × Nat), s.1 ≤ (itemsG xs s).1
 | [], s => Nat.le_refl _
 | x :: xs, s => by
  rw [itemsG]
  split
  ·
   have := itemsG_mono xs (s.1 + 1 + min x.1.length 400 + min x.2.length 400, s.2 + bsum (x.1.take 400) + bsum (x.2.take 400))
   simp only at this
   omega
  · exact Nat.le_refl _
theorem bsum_end1 (k : UInt8) : bsum [(k, 0, [])] = 0 := rfl
theorem itemsG_eq : ∀ (xs : List Item) (s : Nat × Nat), (itemsG xs s).1 < 400 → itemsG xs s = (s.1 + (itemsF xs).length, s.2 + bsum (itemsF xs))
 | [], s, _ => rfl
 | x :: xs, s, h => by
  rw [itemsG] at h ⊢
  by_cases hs : s.1 < 400
  ·
   rw [if_pos hs] at h ⊢
   have hm := itemsG_mono xs (s.1 + 1 + min x.1.length 400 + min x.2.length 400, s.2 + bsum (x.1.take 400) + bsum (x.2.take 400))
   simp only at hm
   have h1 : x.1.length ≤ 400 := by omega
   have h2 : x.2.length ≤ 400 := by omega
   have h3 : x.1.take 400 = x.1 := List.take_of_length_le h1
   have h4 : x.2.take 400 = x.2 := List.take_of_length_le h2
   rw [itemsG_eq xs _ h, h3, h4]
   have hF : itemsF (x :: xs) = x.1 ++ (x.2 ++ ([(17, 0, [])] ++ itemsF xs)) := by simp [itemsF, itemF]
   rw [hF, bsum_app, bsum_app, bsum_app, bsum_end1]
   simp only [List.length_append, List.length_cons, List.length_nil, Prod.mk.injEq]
   omega
  ·
   rw [if_neg hs] at h
   exact absurd h hs
theorem cellsG_mono : ∀ (cs : List Cell) (s : Nat × Nat), s.1 ≤ (cellsG cs s).1
 | [], s => Nat.le_refl _
 | c :: cs, s => by
  rw [cellsG]
  split
  ·
   have h1 := itemsG_mono c.2 (s.1 + 1 + c.1.length, s.2 + bsum (c.1.take 400))
   have h2 := cellsG_mono cs (itemsG c.2 (s.1 + 1 + c.1.length, s.2 + bsum (c.1.take 400)))
   simp only at h1
   omega
  · exact Nat.le_refl _
theorem cellsG_eq : ∀ (cs : List Cell) (s : Nat × Nat), (cellsG cs s).1 < 400 → cellsG cs s = (s.1 + (cellsF cs).length, s.2 + bsum (cellsF cs))
 | [], s, _ => rfl
 | c :: cs, s, h => by
  rw [cellsG] at h ⊢
  by_cases hs : s.1 < 400
  ·
   rw [if_pos hs] at h ⊢
   have hm := cellsG_mono cs (itemsG c.2 (s.1 + 1 + c.1.length, s.2 + bsum (c.1.take 400)))
   have h5 : (itemsG c.2 (s.1 + 1 + c.1.length, s.2 + bsum (c.1.take 400))).1 < 400 := by omega
   have hm2 := itemsG_mono c.2 (s.1 + 1 + c.1.length, s.2 + bsum (c.1.take 400))
   simp only at hm2
   have h1 : c.1.length ≤ 400 := by omega
   have h3 : c.1.take 400 = c.1 := List.take_of_length_le h1
   rw [cellsG_eq cs _ h, itemsG_eq _ _ h5, h3]
   have hF : cellsF (c :: cs) = c.1 ++ (itemsF c.2 ++ ([(7, 0, [])] ++ cellsF cs)) := by simp [cellsF, cellF]
   rw [hF, bsum_app, bsum_app, bsum_app, bsum_end1]
   simp only [List.length_append, List.length_cons, List.length_nil, Prod.mk.injEq]
   omega
  ·
   rw [if_neg hs] at h
   exact absurd h hs
theorem few_law {t : Lib} (h : fewS t = true) : (flatS t).length ≤ 400 ∧ bsum (flatS t) < 300000 := by
 rw [fewS, decide_eq_true_eq] at h
 obtain ⟨h1, h2⟩ := h
 rw [fewP] at h1 h2
 have hm := cellsG_mono t.2 (t.1.length, bsum (t.1.take 400))
 simp only at hm
 have h3 : t.1.take 400 = t.1 := List.take_of_length_le (by omega)
 have e := cellsG_eq t.2 _ h1
 rw [e, h3] at h2
 rw [e] at h1
 simp only at h1 h2
 have hF : flatS t = t.1 ++ (cellsF t.2 ++ [(4, 0, [])]) := by simp [flatS]
 rw [hF, bsum_app, bsum_app, bsum_end1]
 simp only [List.length_append, List.length_cons, List.length_nil]
 omega
theorem joinB_bsum : ∀ (l : List Rec), joinOk l = true → (joinB l).length = bsum l + 4 * l.length
 | [], _ => rfl
 | r :: l, h => by
  unfold joinOk at h
  rw [List.all_cons, Bool.and_eq_true] at h
  have ih := joinB_bsum l h.2
  have e : joinB (r :: l) = recB r ++ joinB l := rfl
  have h1 := h.1
  simp only [recOk, Bool.and_eq_true, decide_eq_true_eq] at h1
  rw [e, List.length_append, ih, recB_len, bsum, List.length_cons]
  omega
theorem fit_flat {t : Lib} (h : LibFit t) : ∀ r ∈ flatS t, r.2.2.length ≤ 140737488355328 := by
 intro r hr
 obtain ⟨h1, _, h3⟩ := h
 simp only [flatS, List.mem_append, cellsF, List.mem_flatMap, List.mem_singleton] at hr
 rcases hr with (hr | ⟨c, hc, hr⟩) | rfl
 · exact h1.2 r hr
 ·
  obtain ⟨h4, _, h6⟩ := h3 c hc
  simp only [cellF, List.mem_append, itemsF, List.mem_flatMap, List.mem_singleton] at hr
  rcases hr with (hr | ⟨x, hx, hr⟩) | rfl
  · exact h4.2 r hr
  ·
   obtain ⟨h7, h8⟩ := h6 x hx
   simp only [itemF, List.mem_append, List.mem_singleton] at hr
   rcases hr with (hr | hr) | rfl
   · exact h7.2 r hr
   · exact h8.2 r hr
   · simp
  · simp
 · simp
end Go.Fw

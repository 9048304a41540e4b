/- gds, plain: what is written, read again. -/
import Derived.Test.YtjgbikhnnkigpaaGp41
import Derived.Test.YtjgbikhnnkigpaaGp34
import Derived.Test.YtjgbikhnnkigpaaQ4b
set_option linter.unusedSimpArgs false
set_option linter.unusedVariables false
namespace Go.Fw
open Go Go.Proofs Go.IntWalk
set_option linter.unusedSimpArgs false
set_option maxRecDepth 100000
set_option maxHeartbeats 2000000
theorem row_ne4 {L : List Rec} {ks : List Nat} {a : Nat} {p : List Rec × Nat} (h : rowS L a ks = some p) (hk : ∀ k ∈ ks, UInt8.ofNat k ≠ 4) : ∀ r ∈ p.1, r.1 ≠ 4 := fun r hr => by
  obtain ⟨k, h1, h2⟩ := row_kinds ks a p h r hr
  rw [h2]
  exact hk k h1
theorem part_ne4 {L : List Rec} {q : Option (List Nat)} {a : Nat} {p : List Rec × Nat} (h : partS L q a = some p) (hk : ∀ ks, q = some ks → ∀ k ∈ ks, UInt8.ofNat k ≠ 4) : ∀ r ∈ p.1, r.1 ≠ 4 := by
  cases q with
  | some ks => exact row_ne4 h (hk ks rfl)
  | none =>
    rw [partS, transS] at h
    split at h
    · exact row_ne4 h (by decide)
    · cases h
      intro r hr
      cases hr
theorem cat_ne4 {L : List Rec} : ∀ (ps : List (Option (List Nat))) (a : Nat) (p : List Rec × Nat), catS L ps a = some p → (∀ q ∈ ps, ∀ ks, q = some ks → ∀ k ∈ ks, UInt8.ofNat k ≠ 4) → ∀ r ∈ p.1, r.1 ≠ 4
  | [], a, p, h, _ => by
    cases h
    intro r hr
    cases hr
  | q :: ps, a, p, h, hk => by
    rw [catS] at h
    cases hq : partS L q a with
    | none => rw [hq] at h; cases h
    | some t =>
      obtain ⟨r1, a'⟩ := t
      rw [hq] at h
      simp only at h
      cases hc : catS L ps a' with
      | none => rw [hc] at h; cases h
      | some u =>
        obtain ⟨r2, a''⟩ := u
        rw [hc] at h
        cases h
        have h1 := part_ne4 hq (hk q (by simp))
        have h2 := cat_ne4 ps a' _ hc (fun q hq => hk q (by simp [hq]))
        intro r hr
        rcases List.mem_append.1 hr with hr | hr
        · exact h1 r hr
        · exact h2 r hr
theorem props_ne4 {L : List Rec} : ∀ (n a : Nat) (p : List Rec × Nat), L.length - a ≤ n → a ≤ L.length → propsS L a = some p → ∀ r ∈ p.1, r.1 ≠ 4 := by
  intro n
  induction n with
  | zero =>
    intro a p h1 h2 h
    rw [propsS_eq, if_neg (fun h => by have := seesS_lt h; omega)] at h
    cases h
    intro r hr
    cases hr
  | succ n ih =>
    intro a p h1 h2 h
    rw [propsS_eq] at h
    split at h
    · cases hr : rowS L a [43, 44] with
      | none => rw [hr] at h; cases h
      | some q =>
        obtain ⟨r1, a'⟩ := q
        rw [hr] at h
        have h3 := rowS_le hr h2
        have h4 := rowS_pos hr (by decide) h2
        have h5 := row_ne4 hr (by decide)
        simp only at h h3 h4 h5
        cases hp : propsS L a' with
        | none => rw [hp] at h; cases h
        | some t =>
          rw [hp] at h
          have := ih a' t (by omega) h3.1 hp
          cases h
          intro r hr
          rcases List.mem_append.1 hr with hr | hr
          · exact h5 r hr
          · exact this r hr
    · cases h
      intro r hr
      cases hr
theorem kinds_ne4 {k : UInt8} (h : itemKinds.contains k = true) : k ≠ 4 ∧ ∀ q ∈ itemParts k, ∀ ks, q = some ks → ∀ x ∈ ks, UInt8.ofNat x ≠ 4 := by
  have : k = 8 ∨ k = 9 ∨ k = 10 ∨ k = 11 ∨ k = 12 ∨ k = 21 ∨ k = 45 := by simpa [itemKinds] using h
  have key : ∀ l : List (Option (List Nat)), (l.all fun q => match q with | none => true | some ks => ks.all fun x => decide (UInt8.ofNat x ≠ 4)) = true → ∀ q ∈ l, ∀ ks, q = some ks → ∀ x ∈ ks, UInt8.ofNat x ≠ 4 := by
    intro l hl q hq ks hks x hx
    have h1 := List.all_eq_true.1 hl q hq
    rw [hks] at h1
    have h2 := List.all_eq_true.1 h1 x hx
    simpa using h2
  rcases this with rfl | rfl | rfl | rfl | rfl | rfl | rfl <;> exact ⟨by decide, key _ (by decide)⟩
theorem item_ne4 {L : List Rec} {a : Nat} {x : Item} {b : Nat} (hs : seesS L a itemKinds = true) (h : itemS L a = some (x, b)) : ∀ r ∈ itemF x, r.1 ≠ 4 := by
  have hlt := seesS_lt hs
  rw [itemS] at h
  cases hx : L[a]? with
  | none => rw [hx] at h; cases h
  | some r0 =>
    rw [sees_at hx] at hs
    obtain ⟨hk1, hk2⟩ := kinds_ne4 hs
    rw [hx] at h
    simp only at h
    cases hr : rowS L a [r0.1.toNat, 294, 303] with
    | none => rw [hr] at h; cases h
    | some q =>
      obtain ⟨f0, a1⟩ := q
      have hr1 := row_ne4 hr (fun k hk => by
        simp only [List.mem_cons, List.not_mem_nil, or_false] at hk
        rcases hk with rfl | rfl | rfl
        · rw [UInt8.ofNat_toNat]; exact hk1
        · decide
        · decide)
      have hr2 := rowS_le hr (by omega)
      rw [hr] at h
      simp only at h hr1 hr2
      cases hc : catS L (itemParts r0.1) a1 with
      | none => rw [hc] at h; cases h
      | some u =>
        obtain ⟨f1, a2⟩ := u
        have hc1 := cat_ne4 _ _ _ hc hk2
        have hc2 := catS_le _ _ _ hr2.1 hc
        rw [hc] at h
        simp only [endS] at h hc1 hc2
        cases hp : propsS L a2 with
        | none => rw [hp] at h; cases h
        | some v =>
          obtain ⟨ps, a3⟩ := v
          have hp1 := props_ne4 _ _ _ (Nat.le_refl _) hc2.2 hp
          rw [hp] at h
          simp only at h hp1
          cases hm : mustS L a3 0x11 with
          | none => rw [hm] at h; cases h
          | some e =>
            rw [hm] at h
            cases h
            intro r hr
            simp only [itemF, List.mem_append, List.mem_singleton] at hr
            rcases hr with ((hr | hr) | hr) | rfl
            · exact hr1 r hr
            · exact hc1 r hr
            · exact hp1 r hr
            · decide
theorem items_ne4 {L : List Rec} : ∀ (n a : Nat) (xs : List Item) (b : Nat), L.length - a ≤ n → itemsS L a = some (xs, b) → ∀ r ∈ itemsF xs, r.1 ≠ 4 := by
  intro n
  induction n with
  | zero =>
    intro a xs b h1 h
    rw [itemsS_eq, if_neg (fun h => by have := seesS_lt h; omega)] at h
    cases h
    intro r hr
    cases hr
  | succ n ih =>
    intro a xs b h1 h
    rw [itemsS_eq] at h
    split at h
    · rename_i hs
      have hlt := seesS_lt hs
      cases hi : itemS L a with
      | none => rw [hi] at h; cases h
      | some q =>
        obtain ⟨x, c⟩ := q
        have hp := itemS_le hi
        have he := item_ne4 hs hi
        rw [hi] at h
        simp only at h
        cases hq : itemsS L c with
        | none => rw [hq] at h; cases h
        | some u =>
          obtain ⟨ys, d⟩ := u
          rw [hq] at h
          cases h
          have h2 := ih c ys _ (by omega) hq
          intro r hr
          have e : itemsF (x :: ys) = itemF x ++ itemsF ys := by simp [itemsF]
          have hr : r ∈ itemsF (x :: ys) := hr
          rw [e] at hr
          rcases List.mem_append.1 hr with hr | hr
          · exact he r hr
          · exact h2 r hr
    · cases h
      intro r hr
      cases hr
theorem cells_ne4 {L : List Rec} : ∀ (n a : Nat) (cs : List Cell) (b : Nat), L.length - a ≤ n → cellsS L a = some (cs, b) → ∀ r ∈ cellsF cs, r.1 ≠ 4 := by
  intro n
  induction n with
  | zero =>
    intro a xs b h1 h
    rw [cellsS_eq, if_neg (fun h => by have := seesS_lt h; omega)] at h
    cases h
    intro r hr
    cases hr
  | succ n ih =>
    intro a xs b h1 h
    rw [cellsS_eq] at h
    split at h
    · rename_i hs
      have hlt := seesS_lt hs
      cases hi : cellS L a with
      | none => rw [hi] at h; cases h
      | some q =>
        obtain ⟨x, c⟩ := q
        have hp := cellS_le (by omega) hi
        rw [hi] at h
        simp only at h
        cases hq : cellsS L c with
        | none => rw [hq] at h; cases h
        | some u =>
          obtain ⟨ys, d⟩ := u
          rw [hq] at h
          cases h
          have h2 := ih c ys _ (by omega) hq
          have he : ∀ r ∈ cellF x, r.1 ≠ 4 := by
            rw [cellS] at hi
            cases hr : rowS L a [5, 6, 308] with
            | none => rw [hr] at hi; cases hi
            | some t =>
              obtain ⟨h0, a1⟩ := t
              have hr1 := row_ne4 hr (by decide)
              rw [hr] at hi
              simp only at hi hr1
              cases hit : itemsS L a1 with
              | none => rw [hit] at hi; cases hi
              | some v =>
                obtain ⟨its, a2⟩ := v
                have hi1 := items_ne4 _ _ _ _ (Nat.le_refl _) hit
                rw [hit] at hi
                simp only at hi
                cases he : mustS L a2 7 with
                | none => rw [he] at hi; cases hi
                | some e =>
                  rw [he] at hi
                  cases hi
                  intro r hr
                  simp only [cellF, List.mem_append, List.mem_singleton] at hr
                  rcases hr with (hr | hr) | rfl
                  · exact hr1 r hr
                  · exact hi1 r hr
                  · decide
          intro r hr
          have e : cellsF (x :: ys) = cellF x ++ cellsF ys := by simp [cellsF]
          have hr : r ∈ cellsF (x :: ys) := hr
          rw [e] at hr
          rcases List.mem_append.1 hr with hr | hr
          · exact he r hr
          · exact h2 r hr
    · cases h
      intro r hr
      cases hr
theorem many_ne4 {L : List Rec} {k : UInt8} (hk : k ≠ 4) : ∀ (n a : Nat) (r : List Rec) (b : Nat), L.length - a ≤ n → manyS L k a = some (r, b) → ∀ x ∈ r, x.1 ≠ 4 := by
  intro n
  induction n with
  | zero =>
    intro a r b h1 h
    rw [manyS_eq, if_neg (fun h => by have := seesS_lt h; omega)] at h
    cases h
    intro x hx
    cases hx
  | succ n ih =>
    intro a r b h1 h
    rw [manyS_eq] at h
    split at h
    · rename_i hs
      have hlt := seesS_lt hs
      cases hr : mustS L a k with
      | none => rw [hr] at h; cases h
      | some q =>
        have hq1 := (must_kind hr).2
        rw [hr] at h
        simp only at h
        cases hq : manyS L k (a + 1) with
        | none => rw [hq] at h; cases h
        | some u =>
          obtain ⟨r2, d⟩ := u
          rw [hq] at h
          cases h
          have h2 := ih (a + 1) r2 _ (by omega) hq
          intro x hx
          rcases List.mem_cons.1 hx with rfl | hx
          · rw [hq1]; exact hk
          · exact h2 x hx
    · cases h
      intro x hx
      cases hx
theorem mask_ne4 {L : List Rec} {a : Nat} {r : List Rec} {b : Nat} (h : maskS L a = some (r, b)) : ∀ x ∈ r, x.1 ≠ 4 := by
  rw [maskS] at h
  cases hr : mustS L a 0x36 with
  | none => rw [hr] at h; cases h
  | some r0 =>
    have h0 := (must_kind hr).2
    rw [hr] at h
    simp only at h
    cases hm : manyS L 0x37 (a + 1) with
    | none => rw [hm] at h; cases h
    | some q =>
      obtain ⟨ms, a2⟩ := q
      have h1 := many_ne4 (by decide) _ _ _ _ (Nat.le_refl _) hm
      rw [hm] at h
      simp only at h
      split at h
      · cases h8 : mustS L a2 0x38 with
        | none => rw [h8] at h; cases h
        | some r1 =>
          have h2 := (must_kind h8).2
          rw [h8] at h
          cases h
          intro x hx
          have hx : x ∈ r0 :: (ms ++ [r1]) := by simpa using hx
          rcases List.mem_cons.1 hx with rfl | hx
          · rw [h0]; decide
          · rcases List.mem_append.1 hx with hx | hx
            · exact h1 x hx
            · rw [List.mem_singleton.1 hx, h2]; decide
      · cases h
        intro x hx
        rcases List.mem_cons.1 hx with rfl | hx
        · rw [h0]; decide
        · exact h1 x hx
theorem head_ne4 {L : List Rec} {H : List Rec} {b : Nat} (h : headS L = some (H, b)) : ∀ x ∈ H, x.1 ≠ 4 := by
  rw [headS] at h
  cases hr : rowS L 0 headRow with
  | none => rw [hr] at h; cases h
  | some q =>
    obtain ⟨h0, a1⟩ := q
    have hr1 := row_ne4 hr (by decide)
    rw [hr] at h
    simp only at h hr1
    cases hm : (if seesS L a1 [0x36] = true then maskS L a1 else some ([], a1)) with
    | none => rw [hm] at h; cases h
    | some u =>
      obtain ⟨m, a2⟩ := u
      have hm1 : ∀ x ∈ m, x.1 ≠ 4 := by
        split at hm
        · exact mask_ne4 hm
        · cases hm
          intro x hx
          cases hx
      rw [hm] at h
      simp only at h
      cases h3 : mustS L a2 3 with
      | none => rw [h3] at h; cases h
      | some r =>
        have h4 := (must_kind h3).2
        rw [h3] at h
        cases h
        intro x hx
        have hx : x ∈ h0 ++ (m ++ [r]) := by simpa using hx
        rcases List.mem_append.1 hx with hx | hx
        · exact hr1 x hx
        · rcases List.mem_append.1 hx with hx | hx
          · exact hm1 x hx
          · rw [List.mem_singleton.1 hx, h4]; decide
theorem parse_ne4 {L : List Rec} {u : Lib} (h : parseS L = some u) : ∀ r ∈ u.1 ++ cellsF u.2, r.1 ≠ 4 := by
  rw [parseS] at h
  cases hl : libS L with
  | none => rw [hl] at h; cases h
  | some q =>
    obtain ⟨t, a⟩ := q
    rw [hl] at h
    simp only at h
    split at h
    · cases h
      rw [libS] at hl
      cases hh : headS L with
      | none => rw [hh] at hl; cases hl
      | some v =>
        obtain ⟨H, a1⟩ := v
        have h1 := head_ne4 hh
        rw [hh] at hl
        simp only at hl
        cases hc : cellsS L a1 with
        | none => rw [hc] at hl; cases hl
        | some w =>
          obtain ⟨cs, a2⟩ := w
          have h2 := cells_ne4 _ _ _ _ (Nat.le_refl _) hc
          rw [hc] at hl
          simp only at hl
          cases hm : mustS L a2 4 with
          | none => rw [hm] at hl; cases hl
          | some e =>
            rw [hm] at hl
            cases hl
            intro r hr
            rcases List.mem_append.1 hr with hr | hr
            · exact h1 r hr
            · exact h2 r hr
    · cases h
theorem nextRec_cut (r : Rec) (h : recOk r = true) (j : Nat) (hj : j < (recB r).length) : nextRec ((recB r).take j) = .error 7 := by
  rw [recB_len] at hj
  simp only [recOk, Bool.and_eq_true, decide_eq_true_eq] at h
  obtain ⟨p, q, hs, hpq⟩ := short_two r.2.2.length (by omega)
  have e : recB r = p :: q :: (r.1 :: r.2.1 :: r.2.2) := by rw [recB, hs]; rfl
  have hl : ((recB r).take j).length = j := by rw [List.length_take, recB_len]; omega
  unfold nextRec
  by_cases h2 : j < 2
  · rw [if_pos (by rw [hl]; exact h2)]
  · have g0 : ((recB r).take j).getD 0 0 = p := by rw [e]; obtain ⟨i, rfl⟩ : ∃ i, j = i + 1 := ⟨j - 1, by omega⟩; rfl
    have g1 : ((recB r).take j).getD 1 0 = q := by rw [e]; obtain ⟨i, rfl⟩ : ∃ i, j = i + 2 := ⟨j - 2, by omega⟩; rfl
    rw [if_neg (by rw [hl]; exact h2), g0, g1, hpq]
    simp only
    rw [if_neg (by omega), if_pos (by rw [hl]; omega)]
theorem recs_cut : ∀ (a : List Rec), (∀ r ∈ a, r.1 ≠ 4 ∧ recOk r = true) → ∀ j, j < (joinB (a ++ [endR])).length → recs ((joinB (a ++ [endR])).take j) = .error 7
  | [], _, j, hj => by
    have e : joinB ([] ++ [endR]) = recB endR := by simp [joinB]
    rw [e] at hj ⊢
    rw [recs_eq, nextRec_cut endR (by decide) j hj]
  | r :: a, h, j, hj => by
    have e : joinB (r :: a ++ [endR]) = recB r ++ joinB (a ++ [endR]) := by simp [joinB]
    rw [e] at hj ⊢
    obtain ⟨h4, hok⟩ := h r (by simp)
    by_cases hlt : j < (recB r).length
    · rw [List.take_append_of_le_length (by omega), recs_eq, nextRec_cut r hok j hlt]
    · obtain ⟨i, rfl⟩ : ∃ i, j = (recB r).length + i := ⟨j - (recB r).length, by omega⟩
      rw [List.length_append] at hj
      have e2 : (recB r ++ joinB (a ++ [endR])).take ((recB r).length + i) = recB r ++ (joinB (a ++ [endR])).take i := by
        rw [List.take_append, List.take_of_length_le (by omega), Nat.add_sub_cancel_left]
      rw [e2, recs_eq, nextRec_join r hok]
      simp only
      rw [if_neg h4, List.drop_left, recs_cut a (fun x hx => h x (by simp [hx])) i (by omega)]
theorem write_read {t : Lib} (hv : validS t = true) (hok : joinOk (flatS t) = true) (hl : (joinB (flatS t)).length ≤ 16000000) :
    (∀ k, k ≤ 100 → readS (joinB (flatS t) ++ List.replicate k 0) = some (t, (joinB (flatS t)).length)) ∧
    (∀ j, j < (joinB (flatS t)).length → readS ((joinB (flatS t)).take j) = none) ∧ readS (joinB (flatS t) ++ [0, 7]) = none ∧ 4 ≤ (joinB (flatS t)).length := by
  have hp : parseS (flatS t) = some t := (valid_iff t).1 hv
  have h4 := parse_ne4 hp
  obtain ⟨a, ha⟩ : ∃ a, a = t.1 ++ cellsF t.2 := ⟨_, rfl⟩
  have hF : flatS t = a ++ [endR] := by rw [ha]; rfl
  rw [← ha] at h4
  have hoks := List.all_eq_true.1 hok
  rw [hF] at hoks hl hp ⊢
  have hall : ∀ r ∈ a, r.1 ≠ 4 ∧ recOk r = true := fun r hr => ⟨h4 r hr, hoks r (by simp [hr])⟩
  have hlen : 4 ≤ (joinB (a ++ [endR])).length := by rw [joinB_end, List.length_append]; simp
  refine ⟨fun k hk => ?_, fun j hj => ?_, ?_, hlen⟩
  · rw [readS, split_ok a hall k (by omega)]
    simp only
    rw [hp]
    rfl
  · rw [readS, splitSpec, if_neg (by rw [List.length_take]; omega), recs_cut a hall j hj]
  · rw [readS, splitSpec, if_neg (by rw [List.length_append]; simp; omega), recs_all a hall]
    simp only
    rw [if_neg (by simp)]
end Go.Fw

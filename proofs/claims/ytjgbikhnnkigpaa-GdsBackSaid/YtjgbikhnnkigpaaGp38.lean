/- gds, plain: what is parsed, written again, is what was there. -/
import Derived.Test.YtjgbikhnnkigpaaGp34
import Derived.Test.YtjgbikhnnkigpaaQ4b
set_option linter.unusedSimpArgs false
set_option linter.unusedVariables false
namespace Go.Fw
open Go Go.Proofs Go.IntWalk
set_option linter.unusedSimpArgs false
set_option maxRecDepth 100000
set_option maxHeartbeats 2000000
theorem refR_end (k d : UInt8) (b : List UInt8) (hk : k = 4 ∨ k = 7 ∨ k = 17) (h : refR k d b = true) : d = 0 ∧ b = [] := by
  have e : refR k d b = (decide (d.toNat = 0) && decide (b.length = 0)) := by
    rcases hk with rfl | rfl | rfl <;> rfl
  rw [e] at h
  simp only [Bool.and_eq_true, decide_eq_true_eq] at h
  exact ⟨UInt8.toNat_inj.1 h.1, List.eq_nil_of_length_eq_zero h.2⟩
theorem must_end {L : List Rec} {a : Nat} {k : UInt8} {r : Rec} (hk : k = 4 ∨ k = 7 ∨ k = 17) (h : mustS L a k = some r) : r = (k, 0, []) := by
  obtain ⟨h1, h2⟩ := must_kind h
  obtain ⟨rk, rd, rb⟩ := r
  simp only at h2
  subst h2
  rw [mustS, h1] at h
  simp only at h
  split at h
  · rename_i hc
    obtain ⟨rfl, rfl⟩ := refR_end rk rd rb hk hc.2
    rfl
  · cases h
theorem item_flat {L : List Rec} {a : Nat} {x : Item} {b : Nat} (h : itemS L a = some (x, b)) : L.drop a = itemF x ++ L.drop b := by
  rw [itemS] at h
  cases hx : L[a]? with
  | none => rw [hx] at h; cases h
  | some r0 =>
    rw [hx] at h
    simp only at h
    cases hr : rowS L a [r0.1.toNat, 294, 303] with
    | none => rw [hr] at h; cases h
    | some q =>
      obtain ⟨f0, a1⟩ := q
      rw [hr] at h
      simp only at h
      cases hc : catS L (itemParts r0.1) a1 with
      | none => rw [hc] at h; cases h
      | some u =>
        obtain ⟨f1, a2⟩ := u
        rw [hc] at h
        simp only [endS] at h
        cases hp : propsS L a2 with
        | none => rw [hp] at h; cases h
        | some v =>
          obtain ⟨ps, a3⟩ := v
          rw [hp] at h
          simp only at h
          cases hm : mustS L a3 0x11 with
          | none => rw [hm] at h; cases h
          | some e =>
            rw [hm] at h
            cases h
            rw [row_drop hr, cat_drop _ _ _ _ hc, props_drop _ _ _ _ (Nat.le_refl _) hp, must_drop hm, must_end (.inr (.inr rfl)) hm]
            simp [itemF]
theorem items_flat {L : List Rec} : ∀ (n a : Nat) (xs : List Item) (b : Nat), L.length - a ≤ n → itemsS L a = some (xs, b) → L.drop a = itemsF xs ++ L.drop b := by
  intro n
  induction n with
  | zero =>
    intro a xs b h1 h
    rw [itemsS_eq, if_neg (fun h => by have := seesS_lt h; omega)] at h
    cases h
    rfl
  | succ n ih =>
    intro a xs b h1 h
    rw [itemsS_eq] at h
    split at h
    · rename_i hs
      have hlt := seesS_lt hs
      cases hi : itemS L a with
      | none => rw [hi] at h; cases h
      | some q =>
        obtain ⟨x, c⟩ := q
        have hp := itemS_le hi
        have he := item_flat hi
        rw [hi] at h
        simp only at h
        cases hq : itemsS L c with
        | none => rw [hq] at h; cases h
        | some u =>
          obtain ⟨ys, d⟩ := u
          rw [hq] at h
          cases h
          rw [he, ih c ys _ (by omega) hq]
          simp [itemsF]
    · cases h
      rfl
theorem cells_flat {L : List Rec} : ∀ (n a : Nat) (cs : List Cell) (b : Nat), L.length - a ≤ n → cellsS L a = some (cs, b) → L.drop a = cellsF cs ++ L.drop b := by
  intro n
  induction n with
  | zero =>
    intro a xs b h1 h
    rw [cellsS_eq, if_neg (fun h => by have := seesS_lt h; omega)] at h
    cases h
    rfl
  | succ n ih =>
    intro a xs b h1 h
    rw [cellsS_eq] at h
    split at h
    · rename_i hs
      have hlt := seesS_lt hs
      cases hi : cellS L a with
      | none => rw [hi] at h; cases h
      | some q =>
        obtain ⟨x, c⟩ := q
        have hp := cellS_le (by omega) hi
        rw [hi] at h
        simp only at h
        cases hq : cellsS L c with
        | none => rw [hq] at h; cases h
        | some u =>
          obtain ⟨ys, d⟩ := u
          rw [hq] at h
          cases h
          have hm := ih c ys _ (by omega) hq
          rw [cellS] at hi
          cases hr : rowS L a [5, 6, 308] with
          | none => rw [hr] at hi; cases hi
          | some t =>
            obtain ⟨h0, a1⟩ := t
            rw [hr] at hi
            simp only at hi
            cases hit : itemsS L a1 with
            | none => rw [hit] at hi; cases hi
            | some v =>
              obtain ⟨its, a2⟩ := v
              rw [hit] at hi
              simp only at hi
              cases he : mustS L a2 7 with
              | none => rw [he] at hi; cases hi
              | some e =>
                rw [he] at hi
                cases hi
                rw [row_drop hr, items_flat _ _ _ _ (Nat.le_refl _) hit, must_drop he, must_end (.inr (.inl rfl)) he, hm]
                simp [cellsF, cellF]
    · cases h
      rfl
theorem parse_flat {L : List Rec} {u : Lib} (h : parseS L = some u) : flatS u = L := by
  rw [parseS] at h
  cases hl : libS L with
  | none => rw [hl] at h; cases h
  | some q =>
    obtain ⟨t, a⟩ := q
    rw [hl] at h
    simp only at h
    split at h
    · rename_i ha
      cases h
      rw [libS] at hl
      cases hh : headS L with
      | none => rw [hh] at hl; cases hl
      | some v =>
        obtain ⟨H, a1⟩ := v
        rw [hh] at hl
        simp only at hl
        cases hc : cellsS L a1 with
        | none => rw [hc] at hl; cases hl
        | some w =>
          obtain ⟨cs, a2⟩ := w
          rw [hc] at hl
          simp only at hl
          cases hm : mustS L a2 4 with
          | none => rw [hm] at hl; cases hl
          | some e =>
            rw [hm] at hl
            cases hl
            have h1 := head_drop hh
            rw [cells_flat _ _ _ _ (Nat.le_refl _) hc, must_drop hm, must_end (.inl rfl) hm, ha, List.drop_length] at h1
            rw [flatS]
            simp only
            conv => rhs; rw [h1]
            simp
    · cases h
theorem next_join {r : List UInt8} {k d : UInt8} {b : List UInt8} {n : Nat} (h : nextRec r = .ok (k, d, b, n)) : recOk (k, d, b) = true ∧ r = recB (k, d, b) ++ r.drop n := by
  obtain ⟨h1, h2, h3, h4, h5, h6⟩ := nextRec_ok h
  have hlen : 4 ≤ r.length := by omega
  match r, hlen with
  | x :: y :: k' :: d' :: t, _ =>
    have e5 : k = k' := h5
    have e6 : d = d' := h6
    have hn : n = x.toNat * 256 + y.toNat := by
      unfold nextRec at h
      split at h
      · cases h
      · simp only at h
        split at h
        · cases h
        · split at h
          · cases h
          · cases h
            rfl
    have hx := x.toNat_lt
    have hy := y.toNat_lt
    obtain ⟨z, hz⟩ : ∃ z, n = z + 4 := ⟨n - 4, by omega⟩
    have hb : b = t.take z := by
      rw [h4, hz, List.drop_take]
      show ((x :: y :: k' :: d' :: t).drop 4).take (z + 4 - 4) = _
      simp
    have hbl : b.length = z := by
      rw [hb, List.length_take]
      simp only [List.length_cons] at h2
      omega
    have hok : recOk (k, d, b) = true := by
      rw [recOk]
      simp only [hbl, Bool.and_eq_true, decide_eq_true_eq]
      omega
    refine ⟨hok, ?_⟩
    obtain ⟨p, q, hs, hpq⟩ := short_two z (by omega)
    have hp := p.toNat_lt
    have hq := q.toNat_lt
    have hpx : p = x := UInt8.toNat_inj.1 (by omega)
    have hqy : q = y := UInt8.toNat_inj.1 (by omega)
    rw [recB]
    simp only [hbl]
    rw [hs, hpx, hqy, e5, e6, hb, hz]
    show x :: y :: k' :: d' :: t = x :: y :: k' :: d' :: (t.take z ++ t.drop z)
    rw [List.take_append_drop]
theorem recs_join : ∀ (n : Nat) (r : List UInt8) (l : List Rec) (q : List UInt8), r.length ≤ n → recs r = .ok (l, q) → r = joinB l ++ q ∧ joinOk l = true := by
  intro n
  induction n with
  | zero =>
    intro r l q h h'
    rw [recs_eq] at h'
    split at h'
    · cases h'
    · rename_i k d b m hn
      obtain ⟨h1, h2, _⟩ := nextRec_ok hn
      omega
  | succ n ih =>
    intro r l q h h'
    rw [recs_eq] at h'
    split at h'
    · cases h'
    · rename_i k d b m hn
      obtain ⟨h1, h2, _⟩ := nextRec_ok hn
      obtain ⟨h3, h4⟩ := next_join hn
      split at h'
      · cases h'
        exact ⟨h4.trans (by simp [joinB]), by simp [joinOk, h3]⟩
      · cases he : recs (r.drop m) with
        | error e => rw [he] at h'; cases h'
        | ok p =>
          obtain ⟨l2, q2⟩ := p
          rw [he] at h'
          cases h'
          obtain ⟨h5, h6⟩ := ih (r.drop m) _ _ (by rw [List.length_drop]; omega) he
          refine ⟨?_, ?_⟩
          · conv => lhs; rw [h4, h5]
            simp [joinB]
          · unfold joinOk at h6 ⊢
            rw [List.all_cons, h3, h6]
            rfl
theorem split_join {bs : List UInt8} {l : List Rec} {n : Nat} (h : splitSpec bs = .ok (l, n)) : n ≤ bs.length ∧ joinB l = bs.take n ∧ joinOk l = true := by
  unfold splitSpec at h
  split at h
  · cases h
  · split at h
    · cases h
    · rename_i l' q he
      split at h
      · cases h
        obtain ⟨h1, h2⟩ := recs_join _ _ _ _ (Nat.le_refl _) he
        refine ⟨by omega, ?_, h2⟩
        have hl := congrArg List.length h1
        rw [List.length_append] at hl
        have e : bs.length - q.length = (joinB l).length := by omega
        rw [e]
        conv => rhs; rw [h1]
        rw [List.take_left]
      · cases h
theorem read_back {bs : List UInt8} {t : Lib} {n : Nat} (h : readS bs = some (t, n)) : n ≤ bs.length ∧ (flatS t).length ≤ bs.length ∧ (∀ r ∈ flatS t, r.2.2.length ≤ bs.length) ∧ joinB (flatS t) = bs.take n ∧ validS t = true ∧
    writeAV t = .tup [.slc false 1 n ((bs.take n).map byteV), i64V 0] := by
  rw [readS] at h
  cases hs : splitSpec bs with
  | error e => rw [hs] at h; cases h
  | ok p =>
    obtain ⟨l, m⟩ := p
    rw [hs] at h
    simp only at h
    cases hp : parseS l with
    | none => rw [hp] at h; cases h
    | some u =>
      rw [hp] at h
      cases h
      have hf := parse_flat hp
      obtain ⟨h1, h2, h3⟩ := split_join hs
      obtain ⟨h4, h5, h6⟩ := split_small hs
      have hv : validS t = true := by
        rw [validS, hf, hp]
        exact libLike_refl t
      rw [hf]
      refine ⟨h1, h5, h6, h2, hv, ?_⟩
      have hl : (joinB l).length = n := by rw [h2, List.length_take]; omega
      rw [writeAV, if_pos hv, hf, if_neg (fun h => by omega), joinAV, if_pos h3, hl, h2]
end Go.Fw

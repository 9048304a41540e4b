/- gds, plain: the document's tree, step by step. -/
import Derived.Test.YtjgbikhnnkigpaaGp30b
set_option linter.unusedSimpArgs false
set_option linter.unusedVariables false
-- VALS: recAV
namespace Go.Fw
open Go Go.Proofs Go.IntWalk
set_option linter.unusedSimpArgs false
set_option maxRecDepth 100000
set_option maxHeartbeats 2000000
def rowV (a : Nat) (o : Option (List Rec × Nat)) : Int := match o with
 | none => -1
 | some p => ((p.2 - a : Nat) : Int)
theorem fitV_row (L : List Rec) (a : Nat) (ks : List Nat) (h : ∀ k ∈ ks, k < 512) : fitV L a (ks.map convK) = rowV a (rowS L a ks) := by
 rw [fitV, fit_row L ks a h]
 cases rowS L a ks <;> rfl
theorem fit_at (f : Bool) (L : List Rec) (a : Nat) (ks : List Nat) (K : List AV) (hK : K = (ks.map convK).map fun k : Nat => i64V (k : Int)) (hL : L.length ≤ 100000000) (hbody : ∀ r ∈ L, r.2.2.length ≤ 140737488355328) (ha : a ≤ L.length)
  (hl : ks.length ≤ 1000) (hk : ∀ k ∈ ks, k < 512) : Eval Try.prog 71 [.slc f 3 L.length (recsCells L), i64V (a : Int), .slc false 1 ks.length K] (.ret (i64V (rowV a (rowS L a ks)))) := by
 have h := fit_ok f false L a (ks.map convK) (by omega) hbody (by omega) (by simpa using hl) (fun k hk2 => by
  obtain ⟨x, hx, rfl⟩ := List.mem_map.1 hk2
  have := hk x hx
  unfold convK
  split <;> omega)
 rw [fitV_row L a ks hk, ← hK, List.length_map] at h
 exact h
theorem copied_cut (f : Bool) (L : List Rec) (a b : Nat) (hL : L.length ≤ 100000000) (hbody : ∀ r ∈ L, r.2.2.length ≤ 140737488355328) (ha : a ≤ b) (hb : b ≤ L.length) :
  Eval Try.prog 65 [.slc f 3 (b - a) (((recsCells L).drop (a * 3)).take ((b - a) * 3))] (.ret (rowsAV ((L.drop a).take (b - a)))) := by
 have h := (copied_ok f ((L.drop a).take (b - a)) (by simp; omega) (fun r hr => by
  have := hbody r (List.mem_of_mem_drop (List.mem_of_mem_take hr))
  omega)).frz1
 rw [List.length_take, List.length_drop, show min (b - a) (L.length - a) = b - a from by omega, ← recsCells_take, ← recsCells_drop] at h
 rw [rowsAV, List.length_take, List.length_drop, show min (b - a) (L.length - a) = b - a from by omega, ← recsCells_take, ← recsCells_drop]
 exact h
theorem copied_pre (f : Bool) (L : List Rec) (b : Nat) (hL : L.length ≤ 100000000) (hbody : ∀ r ∈ L, r.2.2.length ≤ 140737488355328) (hb : b ≤ L.length) :
  Eval Try.prog 65 [.slc f 3 b ((recsCells L).take (b * 3))] (.ret (rowsAV (L.take b))) := by
 have h := copied_cut f L 0 b hL hbody (Nat.zero_le _) hb
 simpa using h
theorem cut_of {L r : List Rec} {a b : Nat} (h : L.drop a = r ++ L.drop b) (hab : a ≤ L.length) (hb : b ≤ L.length) : a ≤ b ∧ (L.drop a).take (b - a) = r := by
 have hl := congrArg List.length h
 simp only [List.length_drop, List.length_append] at hl
 refine ⟨by omega, ?_⟩
 rw [h, show b - a = r.length from by omega, List.take_left]
theorem must_kind {L : List Rec} {a : Nat} {k : UInt8} {r : Rec} (h : mustS L a k = some r) : L[a]? = some r ∧ r.1 = k := by
 have h2 := (mustS_lt h).2
 refine ⟨h2, ?_⟩
 rw [mustS, h2] at h
 simp only at h
 split at h
 ·
  rename_i hc
  exact hc.1
 · cases h
theorem row_kinds {L : List Rec} : ∀ (ks : List Nat) (a : Nat) (p : List Rec × Nat), rowS L a ks = some p → ∀ r ∈ p.1, ∃ k ∈ ks, r.1 = UInt8.ofNat k
 | [], a, p, h, r, hr => by
  cases h
  cases hr
 | k :: ks, a, p, h, r, hr => by
  rw [rowS_cons] at h
  split at h
  ·
   cases hm : mustS L a (UInt8.ofNat k) with
   | none => rw [hm] at h; cases h
   | some r0 =>
    rw [hm, rowM] at h
    cases hq : rowS L (a + 1) ks with
    | none => rw [hq] at h; cases h
    | some q =>
     rw [hq] at h
     cases h
     rcases List.mem_cons.1 hr with rfl | hr
     · exact ⟨k, by simp, (must_kind hm).2⟩
     ·
      obtain ⟨k2, h1, h2⟩ := row_kinds ks (a + 1) q hq r hr
      exact ⟨k2, by simp [h1], h2⟩
  ·
   obtain ⟨k2, h1, h2⟩ := row_kinds ks a p h r hr
   exact ⟨k2, by simp [h1], h2⟩
theorem head_last {L : List Rec} {h0 : List Rec} {a1 : Nat} (h : rowS L 0 headRow = some (h0, a1)) : 0 < a1 ∧ ∃ r, L[a1 - 1]? = some r ∧ r.1 ≠ 54 := by
 have h1 := rowS_pos h (by decide) (Nat.zero_le _)
 have h2 := rowS_le h (Nat.zero_le _)
 have h3 := rowS_take L headRow 0 _ h
 simp only [Nat.sub_zero, List.drop_zero, Nat.zero_add] at h1 h2 h3
 refine ⟨h1, ?_⟩
 have hlt : a1 - 1 < L.length := by omega
 refine ⟨L[a1 - 1], List.getElem?_eq_getElem hlt, ?_⟩
 have hm : L[a1 - 1] ∈ h0 := by
  rw [h3.2, List.mem_take_iff_getElem]
  exact ⟨a1 - 1, by omega, rfl⟩
 obtain ⟨k, hk, e⟩ := row_kinds headRow 0 _ h _ hm
 rw [e]
 have : ∀ k ∈ headRow, UInt8.ofNat k ≠ 54 := by decide
 exact this k hk
theorem head_row {L : List Rec} {h0 : List Rec} {a1 : Nat} (h : rowS L 0 headRow = some (h0, a1)) :
  rowS L 0 (headRow ++ [310]) = if seesS L a1 [0x36] = true then (mustS L a1 0x36).map fun r => (h0 ++ [r], a1 + 1) else some (h0, a1) := by
 rw [rowS_app, h]
 show (rowS L a1 [310]).map _ = _
 rw [rowS_cons]
 by_cases hs : seesS L a1 [0x36] = true
 ·
  rw [if_pos hs, if_pos (.inr hs)]
  show (rowM L a1 [] (mustS L a1 0x36)).map _ = _
  cases mustS L a1 0x36 <;> rfl
 ·
  rw [if_neg hs, if_neg (fun e => e.elim (fun e => absurd e (by decide)) (fun e => hs e))]
  show some (h0 ++ [], a1) = _
  rw [List.append_nil]
theorem head_row0 {L : List Rec} (h : rowS L 0 headRow = none) : rowS L 0 (headRow ++ [310]) = none := by
 rw [rowS_app, h]
 rfl
theorem headD_eq {L : List Rec} {h0 : List Rec} {a1 : Nat} (h : rowS L 0 headRow = some (h0, a1)) :
  headS L = match (if seesS L a1 [0x36] = true then masksD L a1 else some ([], a1)) with
   | none => none
   | some (m, b) => (mustS L b 3).map fun r => (h0 ++ (m ++ [r]), b + 1) := by
 have h2 := rowS_le h (Nat.zero_le _)
 rw [headS, h]
 simp only
 by_cases hs : seesS L a1 [0x36] = true
 ·
  rw [if_pos hs, if_pos hs]
  have hm := masks_end L a1 h2.1
  cases hx : maskS L a1 with
  | none =>
   cases hy : masksD L a1 with
   | none => rfl
   | some q =>
    rw [hx, hy] at hm
    simp only at hm ⊢
    cases hz : mustS L q.2 3 with
    | none => rfl
    | some r =>
     rw [hz] at hm
     cases hm
  | some p =>
   cases hy : masksD L a1 with
   | none =>
    rw [hx, hy] at hm
    simp only at hm ⊢
    cases hz : mustS L p.2 3 with
    | none => rfl
    | some r =>
     rw [hz] at hm
     cases hm
   | some q =>
    rw [hx, hy] at hm
    simp only at hm ⊢
    cases hz : mustS L p.2 3 with
    | none =>
     rw [hz] at hm
     cases hw : mustS L q.2 3 with
     | none => rfl
     | some r =>
      rw [hw] at hm
      cases hm
    | some r =>
     rw [hz] at hm
     cases hw : mustS L q.2 3 with
     | none =>
      rw [hw] at hm
      cases hm
     | some r2 =>
      rw [hw] at hm
      simp only [Option.map_some, Option.some.injEq, Prod.mk.injEq] at hm
      simp only [Option.map_some, Option.some.injEq, Prod.mk.injEq]
      exact ⟨by rw [← hm.1]; simp, hm.2⟩
 ·
  rw [if_neg hs, if_neg hs]
  simp only
  cases mustS L a1 3 with
  | none => rfl
  | some r => simp
theorem manyDF_fuel (L : List Rec) (k : UInt8) : ∀ (f g a : Nat), L.length - a ≤ f → L.length - a ≤ g → manyDF L k f a = manyDF L k g a := by
 intro f
 induction f with
 | zero =>
  intro g a h1 h2
  cases g with
  | zero => rfl
  | succ g =>
   rw [manyDF, manyDF]
   cases hm : mustS L a k with
   | none => rfl
   | some r => have := (mustS_lt hm).1; omega
 | succ f ih =>
  intro g a h1 h2
  cases g with
  | zero =>
   rw [manyDF, manyDF]
   cases hm : mustS L a k with
   | none => rfl
   | some r => have := (mustS_lt hm).1; omega
  | succ g =>
   rw [manyDF, manyDF, ih g (a + 1) (by omega) (by omega)]
def manyD (L : List Rec) (k : UInt8) (a : Nat) : List Rec × Nat := manyDF L k L.length a
theorem manyD_eq (L : List Rec) (k : UInt8) (a : Nat) : manyD L k a = match mustS L a k with
  | none => ([], a)
  | some r => (r :: (manyD L k (a + 1)).1, (manyD L k (a + 1)).2) := by
 rw [manyD, manyDF_fuel L k L.length (L.length + 1) a (by omega) (by omega), manyDF]
 rfl
theorem row_one {L : List Rec} {a : Nat} (k : Nat) (hk : k < 256) : rowV a (rowS L a [k]) = match mustS L a (UInt8.ofNat k) with
  | none => -1
  | some _ => 1 := by
 rw [rowS_one L a k hk]
 cases mustS L a (UInt8.ofNat k) with
 | none => rfl
 | some r =>
  show ((a + 1 - a : Nat) : Int) = 1
  omega
theorem endE_step {L : List Rec} {a : Nat} {r : List Rec} {b : Nat} (h : rowS L a [43, 44] = some (r, b)) : endE L (propsS L a) = (endE L (propsS L b)).map fun p => (r ++ p.1, p.2) := by
 have hs : seesS L a [0x2b] = true := by
  by_cases hs : seesS L a [0x2b] = true
  · exact hs
  ·
   rw [row43_none hs] at h
   cases h
 rw [propsS_eq, if_pos hs, h, ← endE_map]
theorem endE_stop {L : List Rec} {a : Nat} (h : rowS L a [43, 44] = none) : endE L (propsS L a) = (mustS L a 17).map fun _ => ([], a + 1) := by
 rw [propsS_eq]
 by_cases hs : seesS L a [0x2b] = true
 ·
  rw [if_pos hs, h]
  rw [must_not hs (by decide)]
  rfl
 ·
  rw [if_neg hs]
  rfl
theorem endS_E (L : List Rec) (x : List Rec) (a : Nat) : endS L x a = (endE L (propsS L a)).map fun p => ((x, p.1), p.2) := by
 rw [endS]
 cases propsS L a with
 | none => rfl
 | some p =>
  obtain ⟨ps, b⟩ := p
  show _ = ((mustS L b 17).map _).map _
  simp only
  cases mustS L b 17 with
  | none => rfl
  | some r => rfl
theorem itemS_D {L : List Rec} {a : Nat} {r0 : Rec} (h0 : L[a]? = some r0) {ks kt : List Nat} (h : rowsP r0.1 false = some ks) (h2 : rowsP r0.1 true = some kt) :
  itemS L a = match orR (rowS L a ks) (rowS L a kt) with
   | none => none
   | some (f, b) => endS L f b := by
 rw [fields_eq L a r0.1 ks kt h h2, itemS, h0]
 simp only
 cases rowS L a [r0.1.toNat, 294, 303] with
 | none => rfl
 | some p =>
  obtain ⟨f0, a1⟩ := p
  show _ = match ((catS L (itemParts r0.1) a1).map _) with | none => none | some (f, b) => endS L f b
  simp only
  cases catS L (itemParts r0.1) a1 with
  | none => rfl
  | some q => rfl
theorem cellS_D {L : List Rec} {a : Nat} {h : List Rec} {a1 : Nat} (hr : rowS L a [5, 6, 308] = some (h, a1)) : cellS L a = (end7 L (itemsS L a1)).map fun p => ((h, p.1), p.2) := by
 rw [cellS, hr]
 simp only
 cases itemsS L a1 with
 | none => rfl
 | some p =>
  obtain ⟨xs, b⟩ := p
  show _ = ((mustS L b 7).map _).map _
  simp only
  cases mustS L b 7 with
  | none => rfl
  | some r => rfl
theorem end7_step {L : List Rec} {a : Nat} (hs : seesS L a itemKinds = true) : end7 L (itemsS L a) = match itemS L a with
  | none => none
  | some (x, b) => (end7 L (itemsS L b)).map fun p => (x :: p.1, p.2) := by
 rw [itemsS_eq, if_pos hs]
 cases itemS L a with
 | none => rfl
 | some p =>
  simp only
  rw [← end7_map]
theorem end7_stop {L : List Rec} {a : Nat} (hs : ¬ seesS L a itemKinds = true) : end7 L (itemsS L a) = (mustS L a 7).map fun _ => ([], a + 1) := by
 rw [itemsS_eq, if_neg hs]
 rfl
theorem must_kind_ne {L : List Rec} {a : Nat} {k : UInt8} {r : Rec} (h : L[a]? = some r) (hk : r.1 ≠ k) : mustS L a k = none := by
 cases hm : mustS L a k with
 | none => rfl
 | some q =>
  obtain ⟨h1, h2⟩ := must_kind hm
  rw [h] at h1
  cases h1
  exact absurd h2 hk
theorem rowsP_some {k : UInt8} (h : itemKinds.contains k = true) : ∃ ks kt, rowsP k false = some ks ∧ rowsP k true = some kt ∧ (∀ x ∈ ks, x < 512) ∧ (∀ x ∈ kt, x < 512) ∧ ks.length ≤ 1000 ∧ kt.length ≤ 1000 ∧ (∃ x t, ks = x :: t ∧ x < 256) ∧ (∃ x t, kt = x :: t ∧ x < 256) := by
 have : k = 8 ∨ k = 9 ∨ k = 10 ∨ k = 11 ∨ k = 12 ∨ k = 21 ∨ k = 45 := by simpa [itemKinds] using h
 rcases this with rfl | rfl | rfl | rfl | rfl | rfl | rfl <;> exact ⟨_, _, rfl, rfl, by decide, by decide, by decide, by decide, ⟨_, _, rfl, by decide⟩, ⟨_, _, rfl, by decide⟩⟩
theorem rowsP_none {k : UInt8} (h : ¬ itemKinds.contains k = true) (b : Bool) : rowsP k b = none := by
 have h2 : ¬ (k = 8 ∨ k = 9 ∨ k = 10 ∨ k = 11 ∨ k = 12 ∨ k = 21 ∨ k = 45) := by simpa [itemKinds] using h
 simp only [not_or] at h2
 obtain ⟨h8, h9, h10, h11, h12, h21, h45⟩ := h2
 have e : itemParts k = [] := by
  rw [itemParts, if_neg h8, if_neg h9, if_neg h10, if_neg h11, if_neg h12, if_neg h21, if_neg h45]
 rw [rowsP, e, if_neg h]
 rfl
end Go.Fw

/- What a new block, a store, an append, a freezing does to the tie. -/
import Derived.Test.YtjgbikhnnkigpaaFwB
set_option linter.unusedSimpArgs false
set_option linter.unusedVariables false
namespace Go.Fw
open Go Go.RowKit

def killBox (k : Option Nat) (f : Nat → Option Box) : Nat → Option Box :=
  match k with
  | some i => upd f i none
  | none => f

section
variable {C : Ctx} {M : Mem} {β : Loc} {s : AS} {w w' : World}

theorem heap_lt {w : World} {b : Nat} {x : Obj} (h : w.heap[b]? = some x) : b < w.heap.size := (Array.getElem?_eq_some_iff.1 h).1

theorem Rel.notnew (h : Rel C M β s w) {b : Nat} (hb : w.heap.size ≤ b) : M b = none := by
  cases hm : M b with
  | none => rfl
  | some cs =>
    obtain ⟨ty, fz, hh⟩ := h.mem b cs hm
    have := heap_lt hh
    omega

theorem killBox_some {k : Option Nat} {f : Nat → Option Box} {i : Nat} {x : Box} (h : killBox k f i = some x) : k ≠ some i ∧ f i = some x := by
  cases k with
  | none => exact ⟨by simp, h⟩
  | some j =>
    simp only [killBox, upd] at h
    split at h
    · cases h
    · rename_i hne; exact ⟨by simpa using Ne.symm hne, h⟩

theorem Rel.renew (h : Rel C M β s w) (kill : Option Nat) (d : Nat) (e : TypeId) (l' : List AV) (place : Option (Nat × Nat)) (row : Option Nat)
    (hd : ¬ s.used d ∨ (kill = some d ∧ place = β d))
    (hos : w'.os = w.os) (htape : w'.tape = w.tape) (hout : w'.output = w.output) (hsz : w.heap.size ≤ w'.heap.size)
    (hk : ∀ k, k < w.heap.size → some k ≠ row → w'.heap[k]? = w.heap[k]?)
    (hrow : ∀ b, row = some b → ∃ i e0 l0 n, kill = some i ∧ s.box i = some (.mut e0 l0) ∧ β i = some (b, n))
    (hnew : (place = none ∧ l' = []) ∨ ∃ g cur, place = some (g, cur.size) ∧ (∃ fz, w'.heap[g]? = some (.cells cur e fz) ∧ Free cur.size fz) ∧ RepAt M β l' cur 0 ∧ l'.length ≤ cur.size ∧ (w.heap.size ≤ g ∨ row = some g))
    (hr : ∀ j ∈ refsL l', s.used j) :
    Rel C M (upd β d place) { s with box := upd (killBox kill s.box) d (some (.mut e l')), used := fun i => i = d ∨ s.used i } w' ∧ ∀ id, s.used id → upd β d place id = β id := by
  have hβ : ∀ id, s.used id → upd β d place id = β id := by
    intro id hid
    by_cases he : id = d
    · subst he
      rcases hd with hd | ⟨_, hd⟩
      · exact absurd hid hd
      · simp [upd, hd]
    · simp [upd, he]
  have rowM : ∀ b, row = some b → M b = none ∧ (C.w0.heap.size ≤ b ∨ b ∈ C.ext) ∧ b < w.heap.size := by
    intro b hb
    obtain ⟨i, e0, l0, n, _, h2, h3⟩ := hrow b hb
    rcases h.mutb i e0 l0 h2 with ⟨hn, _⟩ | ⟨b', cs, k1, ⟨fz, k2, _⟩, _, _, k5, k6⟩
    · rw [hn] at h3; cases h3
    · rw [k1] at h3; cases h3; exact ⟨k5, k6, heap_lt k2⟩
  have usedOf : ∀ i x, s.box i = some x → s.used i := fun i x hx => h.useB i (by rw [hx]; simp)
  refine ⟨⟨?_, h.le, h.mnew, ?_, ?_, ?_, ?_, ?_, ?_, hos.trans h.os, htape.trans h.tape, hout.trans h.output, Nat.le_trans h.size hsz, ?_, fun i hi => ⟨.inr (h.pin i hi).1, (hβ i (h.pin i hi).1).trans (h.pin i hi).2⟩⟩, hβ⟩
  · intro b cs hb
    obtain ⟨ty, fz, hh⟩ := h.mem b cs hb
    refine ⟨ty, fz, ?_⟩
    rw [hk b (heap_lt hh) (fun he => by rw [(rowM b he.symm).1] at hb; cases hb)]
    exact hh
  · intro id e1 l1 h1 j hj
    simp only [upd] at h1
    split at h1
    · simp at h1; obtain ⟨rfl, rfl⟩ := h1; exact Or.inr (hr j hj)
    · exact Or.inr (h.refB id e1 l1 (killBox_some h1).2 j hj)
  · intro id h1
    by_cases he : id = d
    · subst he; exact Or.inl rfl
    · simp only [upd, he, if_false] at h1
      refine Or.inr (h.useB id ?_)
      intro h0
      apply h1
      cases kill with
      | none => exact h0
      | some i => simp only [killBox, upd]; split <;> first | rfl | exact h0
  · intro id e1 l1 h1
    by_cases he : id = d
    · subst he
      simp only [upd, if_true] at h1
      simp at h1
      obtain ⟨rfl, rfl⟩ := h1
      rcases hnew with ⟨hp, hl⟩ | ⟨g, cur, hp, hh, hrep, hlen, hg⟩
      · exact .inl ⟨by simp [upd, hp], hl⟩
      · refine .inr ⟨g, cur, by simp [upd, hp], hh, RepAt.mono (MemLe.refl M) _ _ _ (fun j hj => hβ j (hr j hj)) hrep, hlen, ?_, ?_⟩
        · rcases hg with hg | hg
          · exact h.notnew hg
          · exact (rowM g hg).1
        · rcases hg with hg | hg
          · exact .inl (Nat.le_trans h.size hg)
          · exact (rowM g hg).2.1
    · simp only [upd, he, if_false] at h1
      obtain ⟨hki, hb⟩ := killBox_some h1
      have hu := usedOf id _ hb
      rcases h.mutb id e1 l1 hb with ⟨hn, hl⟩ | ⟨b, cs, k1, ⟨fz, k2, kf⟩, k3, k4, k5, k6⟩
      · exact .inl ⟨by rw [hβ id hu]; exact hn, hl⟩
      · refine .inr ⟨b, cs, by rw [hβ id hu]; exact k1, ⟨fz, ?_, kf⟩, RepAt.mono (MemLe.refl M) _ _ _ (fun j hj => hβ j (h.refB id e1 l1 hb j hj)) k3, k4, k5, k6⟩
        rw [hk b (heap_lt k2) ?_]
        · exact k2
        · intro he2
          obtain ⟨i, e0, l0, n, j1, j2, j3⟩ := hrow b he2.symm
          exact hki (by rw [j1, h.inj i id e0 e1 l0 l1 b n cs.size j2 hb j3 k1])
  · intro id l1 h1
    by_cases he : id = d
    · subst he; simp [upd] at h1
    · simp only [upd, he, if_false] at h1
      obtain ⟨_, hb⟩ := killBox_some h1
      have hu := usedOf id _ hb
      rcases h.frzb id l1 hb with ⟨hn, hl⟩ | ⟨b, cs, k1, k2, k3⟩
      · exact .inl ⟨by rw [hβ id hu]; exact hn, hl⟩
      · exact .inr ⟨b, cs, by rw [hβ id hu]; exact k1, k2, k3⟩
  · intro id l1 h1
    by_cases he : id = d
    · subst he; simp [upd] at h1
    · simp only [upd, he, if_false] at h1
      exact h.frzr id l1 (killBox_some h1).2
  · -- no two boxes share a block
    have key : ∀ j e1 l1 b n, killBox kill s.box j = some (.mut e1 l1) → β j = some (b, n) → ∀ g cur, place = some (g, cur) → w'.heap.size = w'.heap.size → (w.heap.size ≤ g ∨ row = some g) → b ≠ g := by
      intro j e1 l1 b n h1 h2 g cur _ _ hg he
      subst he
      obtain ⟨hki, hb⟩ := killBox_some h1
      rcases h.mutb j e1 l1 hb with ⟨hn, _⟩ | ⟨b', cs, k1, ⟨fz, k2, _⟩, _⟩
      · rw [hn] at h2; cases h2
      · rw [k1] at h2; cases h2
        rcases hg with hg | hg
        · have := heap_lt k2; omega
        · obtain ⟨i, e0, l0, n', j1, j2, j3⟩ := hrow _ hg
          exact hki (by rw [j1, h.inj i j e0 e1 l0 l1 _ n' cs.size j2 hb j3 k1])
    intro i j e1 e2 l1 l2 b n n' hi hj hbi hbj
    by_cases hid : i = d <;> by_cases hjd : j = d
    · rw [hid, hjd]
    · exfalso
      subst hid
      simp only [upd, hjd, if_false] at hj hbj
      simp only [upd, if_true] at hbi
      rcases hnew with ⟨hp, _⟩ | ⟨g, cur, hp, _, _, _, hg⟩
      · rw [hp] at hbi; cases hbi
      · rw [hp] at hbi; cases hbi
        exact key j e2 l2 b n' hj hbj b _ hp rfl hg rfl
    · exfalso
      subst hjd
      simp only [upd, hid, if_false] at hi hbi
      simp only [upd, if_true] at hbj
      rcases hnew with ⟨hp, _⟩ | ⟨g, cur, hp, _, _, _, hg⟩
      · rw [hp] at hbj; cases hbj
      · rw [hp] at hbj; cases hbj
        exact key i e1 l1 b n hi hbi b _ hp rfl hg rfl
    · simp only [upd, hid, hjd, if_false] at hi hj hbi hbj
      exact h.inj i j e1 e2 l1 l2 b n n' (killBox_some hi).2 (killBox_some hj).2 hbi hbj
  · intro b hb hne
    rw [hk b (Nat.lt_of_lt_of_le hb h.size) ?_]
    · exact h.keep b hb hne
    · intro he
      have := (rowM b he.symm).2.1
      rcases this with h1 | h1
      · omega
      · exact hne h1

/-- A new block. -/
theorem Rel.alloc (h : Rel C M β s w) {d : Nat} (hd : ¬ s.used d) {e : TypeId} {cs : Array Value} {l : List AV} (hl : RepAt M β l cs 0) (hlen : l.length ≤ cs.size)
    (hr : ∀ j ∈ refsL l, s.used j) :
    Rel C M (upd β d (some (w.heap.size, cs.size))) { s with box := upd s.box d (some (.mut e l)), used := fun i => i = d ∨ s.used i } (w.alloc (.cells cs e)) ∧
      ∀ id, s.used id → upd β d (some (w.heap.size, cs.size)) id = β id :=
  h.renew (w' := w.alloc (.cells cs e)) none d e l (some (w.heap.size, cs.size)) none (.inl hd) rfl rfl rfl (by simp) (fun k hk _ => Below.heap_alloc w _ k hk) (fun b hb => by cases hb)
    (.inr ⟨w.heap.size, cs, rfl, ⟨(0, 0), heap_alloc_new w _, Free.zero _⟩, hl, hlen, .inl (Nat.le_refl _)⟩) hr

/-- A draw turns nothing. -/
theorem Rel.draw (h : Rel C M β s w) (hh : w'.heap = w.heap) (hos : w'.os = w.os) (htape : w'.tape = w.tape) (hout : w'.output = w.output) : Rel C M β s w' :=
  ⟨by rw [hh]; exact h.mem, h.le, h.mnew, h.refB, h.useB, by unfold MutOk; rw [hh]; exact h.mutb, h.frzb, h.frzr, h.inj, hos.trans h.os, htape.trans h.tape, hout.trans h.output, by rw [hh]; exact h.size, by rw [hh]; exact h.keep, h.pin⟩

/-- Fewer boxes. -/
theorem Rel.less (h : Rel C M β s w) {box' : Nat → Option Box} {used' : Nat → Prop} (hb : ∀ i x, box' i = some x → s.box i = some x) (hu : ∀ i x, box' i = some x → used' i)
    (hr : ∀ i e l, box' i = some (.mut e l) → ∀ j ∈ refsL l, used' j) (hpn : ∀ i, 1000000 ≤ i → used' i) (env' : Nat → AV) : Rel C M β ⟨env', box', used'⟩ w :=
  ⟨h.mem, h.le, h.mnew, fun i e l hi => hr i e l hi, fun i hi => by
      cases hx : box' i with
      | none => exact absurd hx hi
      | some x => exact hu i x hx,
    fun i e l hi => h.mutb i e l (hb i _ hi), fun i l hi => h.frzb i l (hb i _ hi), fun i l hi => h.frzr i l (hb i _ hi),
    fun i j e e' l l' b n n' hi hj => h.inj i j e e' l l' b n n' (hb i _ hi) (hb j _ hj), h.os, h.tape, h.output, h.size, h.keep, fun i hi => ⟨hpn i hi, (h.pin i hi).2⟩⟩

/-- A box that is written no more. -/
theorem Rel.freeze (h : Rel C M β s w) {id : Nat} {e : TypeId} {l : List AV} (hb : s.box id = some (.mut e l)) (hr : refsL l = []) :
    ∃ M', MemLe M M' ∧ Rel C M' β { s with box := upd s.box id (some (.frz l)) } w := by
  rcases h.mutb id e l hb with ⟨hn, hl⟩ | ⟨b, cs, k1, ⟨fz0, k2, _⟩, k3, k4, k5, k6⟩
  · refine ⟨M, MemLe.refl M, ⟨h.mem, h.le, h.mnew, ?_, ?_, ?_, ?_, ?_, ?_, h.os, h.tape, h.output, h.size, h.keep, h.pin⟩⟩
    · intro i e1 l1 hi; simp only [upd] at hi; split at hi
      · cases hi
      · exact h.refB i e1 l1 hi
    · intro i hi; simp only [upd] at hi; split at hi
      · rename_i he; subst he; exact h.useB i (by rw [hb]; simp)
      · exact h.useB i hi
    · intro i e1 l1 hi; simp only [upd] at hi; split at hi
      · cases hi
      · exact h.mutb i e1 l1 hi
    · intro i l1 hi; simp only [upd] at hi; split at hi
      · rename_i he; subst he; simp at hi; subst hi; exact .inl ⟨hn, hl⟩
      · exact h.frzb i l1 hi
    · intro i l1 hi; simp only [upd] at hi; split at hi
      · simp at hi; subst hi; exact hr
      · exact h.frzr i l1 hi
    · intro i j e1 e2 l1 l2 b n n' hi hj
      simp only [upd] at hi hj
      split at hi
      · cases hi
      · split at hj
        · cases hj
        · exact h.inj i j e1 e2 l1 l2 b n n' hi hj
  · have hM : MemLe M (upd M b (some cs)) := by
      intro b' cs' hb'
      by_cases he : b' = b
      · subst he; rw [k5] at hb'; cases hb'
      · simp [upd, he, hb']
    refine ⟨upd M b (some cs), hM, ⟨?_, h.le.trans hM, ?_, ?_, ?_, ?_, ?_, ?_, ?_, h.os, h.tape, h.output, h.size, h.keep, h.pin⟩⟩
    · intro b' cs' hb'
      simp only [upd] at hb'
      split at hb'
      · rename_i he; subst he; cases hb'; exact ⟨_, _, k2⟩
      · exact h.mem b' cs' hb'
    · intro b' hb'
      simp only [upd] at hb'
      split at hb'
      · rename_i he; subst he; exact k6
      · exact h.mnew b' hb'
    · intro i e1 l1 hi; simp only [upd] at hi; split at hi
      · cases hi
      · exact h.refB i e1 l1 hi
    · intro i hi; simp only [upd] at hi; split at hi
      · rename_i he; subst he; exact h.useB i (by rw [hb]; simp)
      · exact h.useB i hi
    · intro i e1 l1 hi; simp only [upd] at hi; split at hi
      · cases hi
      · rename_i hne
        rcases h.mutb i e1 l1 hi with ⟨j1, j2⟩ | ⟨b', cs', j1, j2, j3, j4, j5, j6⟩
        · exact .inl ⟨j1, j2⟩
        · have hbb : b' ≠ b := fun hx => by subst hx; exact hne (h.inj i id e1 e l1 l b' _ _ hi hb j1 k1)
          exact .inr ⟨b', cs', j1, j2, RepAt.mono hM _ _ _ (fun _ _ => rfl) j3, j4, by simp [upd, hbb, j5], j6⟩
    · intro i l1 hi; simp only [upd] at hi; split at hi
      · rename_i he; subst he; simp at hi; subst hi
        exact .inr ⟨b, cs, k1, by simp [upd], RepAt.mono hM _ _ _ (fun j hj => by rw [hr] at hj; cases hj) k3, k4⟩
      · rcases h.frzb i l1 hi with ⟨j1, j2⟩ | ⟨b', cs', j1, j2, j3, j4⟩
        · exact .inl ⟨j1, j2⟩
        · exact .inr ⟨b', cs', j1, hM b' cs' j2, RepAt.mono hM _ _ _ (fun _ _ => rfl) j3, j4⟩
    · intro i l1 hi; simp only [upd] at hi; split at hi
      · simp at hi; subst hi; exact hr
      · exact h.frzr i l1 hi
    · intro i j e1 e2 l1 l2 b n n' hi hj
      simp only [upd] at hi hj
      split at hi
      · cases hi
      · split at hj
        · cases hj
        · exact h.inj i j e1 e2 l1 l2 b n n' hi hj
end

end Go.Fw

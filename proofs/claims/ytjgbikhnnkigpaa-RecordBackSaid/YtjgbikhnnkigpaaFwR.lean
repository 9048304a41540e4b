/- A call that is handed boxes. -/
import Derived.Test.YtjgbikhnnkigpaaFwQ
set_option linter.unusedSimpArgs false
set_option linter.unusedVariables false
namespace Go.Fw
open Go Go.RowKit

def postB (P : Program) (fn : Func) (Q : Out → AS → Prop) : Exit → AS → Prop
  | .normal, s | .ret, s => optK (resAV P s fn.results.toList) fun r => Q (.ret (resD s.box r)) s
  | .panic l, s => Q (.pan l) s
  | _, _ => False

def entryB (args : List AV) (box : List (Nat × Box)) : AS := ⟨fun t => (args[t]?).getD (.tup []), lk box, fun i => 1000000 ≤ i⟩

/-- What a function does with the boxes that it is handed (their numbers begin at 1000000). -/
def WB (P : Program) (f : FuncId) (args : List AV) (box : List (Nat × Box)) (Q : Out → AS → Prop) : Prop :=
  ∃ fn c, P.funcs[f]? = some fn ∧ fn.body = some c ∧ Enters P f ∧ args.length ≤ fn.ntmps ∧ W P fn.ntmps c (entryB args box) (postB P fn Q)

/-- What the caller has behind the call. -/
def back (s : AS) (F : List Nat) (T : List (Nat × Box)) : AS :=
  ⟨s.env, fun i => match lk T i with
    | some B => some B
    | none => if F.contains i = true then none else s.box i, fun i => i ∈ T.map (·.1) ∨ s.used i⟩

section
variable {P : Program} {C : Ctx} {M : Mem} {β : Loc} {s : AS} {w : World} {nt : Nat} {a : Act} {Q : Exit → AS → Prop}

def extOf (β : Loc) (ρ : Nat → Nat) (box : List (Nat × Box)) : List Nat :=
  box.filterMap fun p => match p.2 with
    | .mut _ _ => (β (ρ p.1)).map (·.1)
    | .frz _ => none

theorem extOf_mem {β : Loc} {ρ : Nat → Nat} {box : List (Nat × Box)} {b : Nat} (h : b ∈ extOf β ρ box) : ∃ p ∈ box, ∃ e l n, p.2 = .mut e l ∧ β (ρ p.1) = some (b, n) := by
  unfold extOf at h
  rw [List.mem_filterMap] at h
  obtain ⟨p, hp, h⟩ := h
  refine ⟨p, hp, ?_⟩
  split at h
  · rename_i e l he
    cases hx : β (ρ p.1) with
    | none => rw [hx] at h; cases h
    | some x =>
      rw [hx] at h
      obtain ⟨b', n⟩ := x
      simp at h
      subst h
      exact ⟨e, l, n, he, rfl⟩
  · cases h

theorem mem_extOf {β : Loc} {ρ : Nat → Nat} {box : List (Nat × Box)} {p : Nat × Box} (hp : p ∈ box) {e : TypeId} {l : List AV} (he : p.2 = .mut e l) {b n : Nat} (hb : β (ρ p.1) = some (b, n)) : b ∈ extOf β ρ box := by
  unfold extOf
  rw [List.mem_filterMap]
  exact ⟨p, hp, by rw [he]; simp [hb]⟩

theorem lk_of_mem {α : Type} : ∀ {l : List (Nat × α)} {t : Nat}, t ∈ l.map (·.1) → ∃ x, lk l t = some x
  | [], _, h => by cases h
  | p :: r, t, h => by
    simp only [lk]
    by_cases he : p.1 = t
    · exact ⟨p.2, by simp [he]⟩
    · simp only [if_neg he]
      simp at h
      rcases h with h | h
      · exact absurd h.symm he
      · exact lk_of_mem (by simpa using h)

theorem lk_none {α : Type} {l : List (Nat × α)} {t : Nat} (h : lk l t = none) : t ∉ l.map (·.1) := fun hm => by
  obtain ⟨x, hx⟩ := lk_of_mem hm
  rw [h] at hx; cases hx

/-- A call that is handed boxes. -/
theorem CallV.boxes {f : FuncId} {args : List AV} {K : Out → AS → Prop} {Q : Out → AS → Prop} (args' : List AV) (box' : List (Nat × Box)) (ρ : Nat → Nat) (hargs : args = renL ρ args')
    (hb : ∀ p ∈ box', 1000000 ≤ p.1 ∧ s.box (ρ p.1) = some (renBox ρ p.2)) (hinj : ∀ p ∈ box', ∀ q ∈ box', ρ p.1 = ρ q.1 → p.1 = q.1)
    (hrefA : ∀ i ∈ refsL args', i ∈ box'.map (·.1)) (hrefB : ∀ p ∈ box', ∀ i ∈ p.2.refs, i ∈ box'.map (·.1))
    (hW : WB P f args' box' Q)
    (hK : ∀ out s', Q out s' → ∃ (T : List (Nat × Box)) (τ : Nat → Nat),
      (∀ p ∈ T, s'.box (τ p.1) = some (renBox τ p.2)) ∧ (∀ p ∈ T, ∀ q ∈ T, τ p.1 = τ q.1 → p.1 = q.1) ∧ (∀ p ∈ T, ∀ i ∈ p.2.refs, i ∈ T.map (·.1)) ∧
      (∀ p ∈ T, s.used p.1 → 1000000 ≤ τ p.1 ∧ ρ (τ p.1) = p.1) ∧
      (match out with
      | .ret v => ∃ v', v = ren τ v' ∧ (∀ i ∈ v'.refs, i ∈ T.map (·.1)) ∧ K (.ret v') (back s (box'.map fun p => ρ p.1) T)
      | .pan l => K (.pan l) (back s (box'.map fun p => ρ p.1) T))) : CallV P f args s K := by
  obtain ⟨fn, c, hf, hbd, hent, hlen, hW⟩ := hW
  intro C nt M β a w vs hR hS hvs hrep
  refine .inl ⟨hent, calls_of_wp hf hbd ?_⟩
  subst hargs
  have hrep' := repT_ren ρ args' vs 0 hrep
  rw [renL_length] at hvs
  have big : ∀ i ∈ box'.map (·.1), 1000000 ≤ i := fun i hi => by
    obtain ⟨p, hp, rfl⟩ := List.mem_map.1 hi
    exact (hb p hp).1
  have ext1 : ∀ b ∈ extOf β ρ box', M b = none ∧ (C.w0.heap.size ≤ b ∨ b ∈ C.ext) ∧ b < w.heap.size := by
    intro b hbe
    obtain ⟨p, hp, e, l, n, he, hbp⟩ := extOf_mem hbe
    have h1 := (hb p hp).2
    rw [he] at h1
    rcases hR.mutb _ _ _ h1 with ⟨k1, _⟩ | ⟨b', cs, k1, ⟨fz, k2, _⟩, _, _, k5, k6⟩
    · rw [k1] at hbp; cases hbp
    · rw [k1] at hbp; cases hbp; exact ⟨k5, k6, heap_lt k2⟩
  have hR' : Rel ⟨w, M, extOf β ρ box', fun i => β (ρ i)⟩ M (fun i => β (ρ i)) (entryB args' box') w := by
    refine { mem := hR.mem, le := MemLe.refl M, mnew := fun b hb => absurd rfl hb, refB := ?_, useB := ?_, mutb := ?_, frzb := ?_, frzr := ?_, inj := ?_, os := rfl, tape := rfl, output := rfl, size := Nat.le_refl _, keep := fun _ _ _ => rfl, pin := fun _ h => ⟨h, rfl⟩ }
    · intro i e l hi j hj
      exact big j (hrefB _ (lk_mem hi) j hj)
    · intro i hi
      simp only [entryB] at hi ⊢
      cases hx : lk box' i with
      | none => exact absurd hx hi
      | some B => exact big i (List.mem_map.2 ⟨_, lk_mem hx, rfl⟩)
    · intro i e l hi
      have hm := lk_mem hi
      rcases hR.mutb _ _ _ (hb _ hm).2 with ⟨k1, k2⟩ | ⟨b, cs, k1, k2, k3, k4, k5, k6⟩
      · refine .inl ⟨k1, ?_⟩
        cases l with
        | nil => rfl
        | cons => simp [renL] at k2
      · exact .inr ⟨b, cs, k1, k2, repAt_ren ρ l cs 0 k3, by rw [renL_length] at k4; exact k4, k5, .inr (mem_extOf hm rfl k1)⟩
    · intro i l hi
      exact hR.frzb _ l (hb _ (lk_mem hi)).2
    · intro i l hi
      exact hR.frzr _ l (hb _ (lk_mem hi)).2
    · intro i j e e' l l' b n n' hi hj hbi hbj
      exact hinj _ (lk_mem hi) _ (lk_mem hj) (hR.inj _ _ _ _ _ _ b n n' (hb _ (lk_mem hi)).2 (hb _ (lk_mem hj)).2 hbi hbj)
  have hS' : Slots fn.ntmps M (fun i => β (ρ i)) (entryB args' box') { tmps := vs ++ Array.replicate (fn.ntmps - vs.size) undef, defers := [] } := by
    refine ⟨rfl, by simp; omega, fun t => ?_, fun t id hid => ?_⟩
    · simp only [entryB]
      cases ht : args'[t]? with
      | none =>
        have hle : args'.length ≤ t := by simpa using ht
        simp only [Option.getD_none]
        have hu : (vs ++ Array.replicate (fn.ntmps - vs.size) undef).getD t undef = undef := by
          rw [Array.getD_eq_getD_getElem?, Array.getElem?_append_right (by omega), Array.getElem?_replicate]
          split <;> rfl
        rw [hu]
        exact ⟨#[], rfl, rfl, trivial⟩
      | some v =>
        simp only [Option.getD_some]
        obtain ⟨y, h1, h2⟩ := (RepT.iff args' vs 0).1 hrep' t v ht
        simp only [Nat.zero_add] at h1
        have hlt := (Array.getElem?_eq_some_iff.1 h1).1
        rw [Array.getD_eq_getD_getElem?, Array.getElem?_append_left hlt, h1]
        exact h2
    · simp only [entryB] at hid ⊢
      cases ht : args'[t]? with
      | none => rw [ht] at hid; simp [AV.refs, refsL] at hid
      | some v =>
        rw [ht] at hid
        exact big _ (hrefA _ (mem_refsL.2 ⟨v, List.mem_of_getElem? ht, hid⟩))
  refine wp_mono (hW _ M _ _ w hR' hS') ?_
  rintro e a' w' ⟨s', M', β', hp, h1, h2⟩
  -- back in the caller
  have fin : ∀ (T : List (Nat × Box)) (τ : Nat → Nat), (∀ p ∈ T, s'.box (τ p.1) = some (renBox τ p.2)) → (∀ p ∈ T, ∀ q ∈ T, τ p.1 = τ q.1 → p.1 = q.1) → (∀ p ∈ T, ∀ i ∈ p.2.refs, i ∈ T.map (·.1)) →
      (∀ p ∈ T, s.used p.1 → 1000000 ≤ τ p.1 ∧ ρ (τ p.1) = p.1) →
      Rel C M' (fun i => if i ∈ T.map (·.1) then β' (τ i) else β i) (back s (box'.map fun p => ρ p.1) T) w' ∧ Slots nt M' (fun i => if i ∈ T.map (·.1) then β' (τ i) else β i) (back s (box'.map fun p => ρ p.1) T) a := by
    intro T τ t1 t2 t3 t4
    have hβu : ∀ i, s.used i → (fun i => if i ∈ T.map (·.1) then β' (τ i) else β i) i = β i := by
      intro i hi
      simp only
      split
      · rename_i hm
        obtain ⟨p, hp, rfl⟩ := List.mem_map.1 hm
        obtain ⟨k1, k2⟩ := t4 p hp hi
        rw [(h1.pin _ k1).2]
        simp only [k2]
      · rfl
    have hβt : ∀ i, i ∈ T.map (·.1) → (fun i => if i ∈ T.map (·.1) then β' (τ i) else β i) i = β' (τ i) := fun i hi => by simp only [if_pos hi]
    have lkT : ∀ i B, lk T i = some B → i ∈ T.map (·.1) := fun i B hi => List.mem_map.2 ⟨_, lk_mem hi, rfl⟩
    have split_box : ∀ i B, (back s (box'.map fun p => ρ p.1) T).box i = some B → lk T i = some B ∨ (lk T i = none ∧ i ∉ (box'.map fun p => ρ p.1) ∧ s.box i = some B) := by
      intro i B hi
      simp only [back] at hi
      cases hx : lk T i with
      | some B' => rw [hx] at hi; exact .inl hi
      | none =>
        rw [hx] at hi
        simp only at hi
        split at hi
        · cases hi
        · rename_i hc
          exact .inr ⟨rfl, by simpa using hc, hi⟩
    have usedOf : ∀ i B, s.box i = some B → s.used i := fun i B hi => hR.useB i (by rw [hi]; simp)
    -- a box of the caller's that was not handed over
    have other : ∀ i e l b n, i ∉ (box'.map fun p => ρ p.1) → s.box i = some (.mut e l) → β i = some (b, n) → b < w.heap.size ∧ b ∉ extOf β ρ box' := by
      intro i e l b n hi hbx hbi
      refine ⟨?_, fun hbe => ?_⟩
      · rcases hR.mutb i e l hbx with ⟨k1, _⟩ | ⟨b', cs, k1, ⟨fz, k2, _⟩, _⟩
        · rw [k1] at hbi; cases hbi
        · rw [k1] at hbi; cases hbi; exact heap_lt k2
      · obtain ⟨p, hp, e', l', n', he, hbp⟩ := extOf_mem hbe
        have h3 := (hb p hp).2
        rw [he] at h3
        have := hR.inj _ _ _ _ _ _ b n n' hbx h3 hbi hbp
        exact hi (by rw [this]; exact List.mem_map.2 ⟨p, hp, rfl⟩)
    have mutT : ∀ i e l, lk T i = some (.mut e l) → s'.box (τ i) = some (.mut e (renL τ l)) := fun i e l hi => t1 _ (lk_mem hi)
    refine ⟨{ mem := h1.mem, le := hR.le.trans h1.le, mnew := ?_, refB := ?_, useB := ?_, mutb := ?_, frzb := ?_, frzr := ?_, inj := ?_, os := h1.os.trans hR.os, tape := h1.tape.trans hR.tape, output := h1.output.trans hR.output, size := Nat.le_trans hR.size h1.size, keep := ?_, pin := ?_ }, ⟨hS.dfr, hS.size, fun t => ?_, fun t i hi => .inr (hS.refE t i hi)⟩⟩
    · intro b hbn
      by_cases he : M' b = M b
      · rw [he] at hbn; exact hR.mnew b hbn
      · rcases h1.mnew b he with k | k
        · exact .inl (Nat.le_trans hR.size k)
        · exact (ext1 b k).2.1
    · intro i e l hi j hj
      rcases split_box i _ hi with k | ⟨_, _, k⟩
      · exact .inl (t3 _ (lk_mem k) j hj)
      · exact .inr (hR.refB i e l k j hj)
    · intro i hi
      cases hx : (back s (box'.map fun p => ρ p.1) T).box i with
      | none => exact absurd hx hi
      | some B =>
        rcases split_box i _ hx with k | ⟨_, _, k⟩
        · exact .inl (lkT i _ k)
        · exact .inr (usedOf i _ k)
    · intro i e l hi
      rcases split_box i _ hi with k | ⟨k0, k1, k⟩
      · have hm := lkT i _ k
        rcases h1.mutb _ _ _ (mutT i e l k) with ⟨q1, q2⟩ | ⟨b, cs, q1, q2, q3, q4, q5, q6⟩
        · refine .inl ⟨by rw [hβt i hm]; exact q1, ?_⟩
          cases l with
          | nil => rfl
          | cons => simp [renL] at q2
        · refine .inr ⟨b, cs, by rw [hβt i hm]; exact q1, q2, RepAt.mono (MemLe.refl M') _ _ _ (fun j hj => hβt j (t3 _ (lk_mem k) j hj)) (repAt_ren τ l cs 0 q3), by rw [renL_length] at q4; exact q4, q5, ?_⟩
          rcases q6 with q6 | q6
          · exact .inl (Nat.le_trans hR.size q6)
          · exact (ext1 b q6).2.1
      · have hu := usedOf i _ k
        rcases hR.mutb i e l k with ⟨q1, q2⟩ | ⟨b, cs, q1, ⟨fz, q2, qf⟩, q3, q4, q5, q6⟩
        · exact .inl ⟨by rw [hβu i hu]; exact q1, q2⟩
        · obtain ⟨o1, o2⟩ := other i e l b _ k1 k q1
          refine .inr ⟨b, cs, by rw [hβu i hu]; exact q1, ⟨fz, by rw [h1.keep b o1 o2]; exact q2, qf⟩, RepAt.mono h1.le _ _ _ (fun j hj => hβu j (hR.refB i e l k j hj)) q3, q4, ?_, q6⟩
          by_cases he : M' b = M b
          · rw [he]; exact q5
          · rcases h1.mnew b he with k2 | k2
            · simp only at k2; omega
            · exact absurd k2 o2
    · intro i l hi
      rcases split_box i _ hi with k | ⟨k0, k1, k⟩
      · have hm := lkT i _ k
        rcases h1.frzb _ _ (t1 _ (lk_mem k)) with ⟨q1, q2⟩ | ⟨b, cs, q1, q2⟩
        · exact .inl ⟨by rw [hβt i hm]; exact q1, q2⟩
        · exact .inr ⟨b, cs, by rw [hβt i hm]; exact q1, q2⟩
      · have hu := usedOf i _ k
        rcases hR.frzb i l k with ⟨q1, q2⟩ | ⟨b, cs, q1, q2, q3, q4⟩
        · exact .inl ⟨by rw [hβu i hu]; exact q1, q2⟩
        · exact .inr ⟨b, cs, by rw [hβu i hu]; exact q1, h1.le b cs q2, RepAt.mono h1.le _ _ _ (fun _ _ => rfl) q3, q4⟩
    · intro i l hi
      rcases split_box i _ hi with k | ⟨k0, k1, k⟩
      · exact h1.frzr _ _ (t1 _ (lk_mem k))
      · exact hR.frzr i l k
    · intro i j e e' l l' b n n' hi hj hbi hbj
      have mixed : ∀ i j e e' l l' b n n', lk T i = some (.mut e l) → (lk T j = none ∧ j ∉ (box'.map fun p => ρ p.1) ∧ s.box j = some (.mut e' l')) → β' (τ i) = some (b, n) → β j = some (b, n') → False := by
        intro i j e e' l l' b n n' hi ⟨_, hj1, hj2⟩ hbi hbj
        obtain ⟨o1, o2⟩ := other j e' l' b n' hj1 hj2 hbj
        rcases h1.mutb _ _ _ (mutT i e l hi) with ⟨q1, _⟩ | ⟨b', cs, q1, _, _, _, _, q6⟩
        · rw [q1] at hbi; cases hbi
        · rw [q1] at hbi; cases hbi
          rcases q6 with q6 | q6
          · simp only at q6; omega
          · exact o2 q6
      rcases split_box i _ hi with ki | ki <;> rcases split_box j _ hj with kj | kj
      · replace hbi := (hβt i (lkT i _ ki)).symm.trans hbi
        replace hbj := (hβt j (lkT j _ kj)).symm.trans hbj
        exact t2 _ (lk_mem ki) _ (lk_mem kj) (h1.inj _ _ _ _ _ _ b n n' (mutT i e l ki) (mutT j e' l' kj) hbi hbj)
      · replace hbi := (hβt i (lkT i _ ki)).symm.trans hbi
        replace hbj := (hβu j (usedOf j _ kj.2.2)).symm.trans hbj
        exact (mixed i j e e' l l' b n n' ki kj hbi hbj).elim
      · replace hbi := (hβu i (usedOf i _ ki.2.2)).symm.trans hbi
        replace hbj := (hβt j (lkT j _ kj)).symm.trans hbj
        exact (mixed j i e' e l' l b n' n kj ki hbj hbi).elim
      · replace hbi := (hβu i (usedOf i _ ki.2.2)).symm.trans hbi
        replace hbj := (hβu j (usedOf j _ kj.2.2)).symm.trans hbj
        exact hR.inj i j e e' l l' b n n' ki.2.2 kj.2.2 hbi hbj
    · intro b hb1 hb2
      have hlt : b < w.heap.size := Nat.lt_of_lt_of_le hb1 hR.size
      rw [h1.keep b hlt (fun hbe => by
        rcases (ext1 b hbe).2.1 with k | k
        · omega
        · exact hb2 k)]
      exact hR.keep b hb1 hb2
    · intro i hi
      have hu := (hR.pin i hi).1
      exact ⟨.inr hu, (hβu i hu).trans (hR.pin i hi).2⟩
    · exact Rep.mono h1.le _ _ (fun j hj => hβu j (hS.refE t j hj)) (hS.slot t)
  have hret : postB P fn Q .ret s' → bodyPost P fn (fun e w' => ∃ out s' M' β', K out s' ∧ Rel C M' β' s' w' ∧ Slots nt M' β' s' a ∧ EndRep M' β' s' out e) .ret a' w' := by
    rintro ⟨r, hr, hq⟩
    obtain ⟨y, k1, k2⟩ := results_ok (P := P) h1 h2 hr
    obtain ⟨T, τ, t1, t2, t3, t4, v', hv, t5, hk⟩ := hK _ _ hq
    obtain ⟨f1, f2⟩ := fin T τ t1 t2 t3 t4
    refine ⟨h2.dfr, y, k1, .ret v', _, M', _, hk, f1, f2, ?_, fun i hi => .inl (t5 i hi)⟩
    have h3 := (resD_ok h1 r y k2).rep
    rw [hv] at h3
    exact Rep.mono (MemLe.refl M') _ _ (fun i hi => by simp only [if_pos (t5 i hi)]) (rep_ren τ v' y h3)
  cases e with
  | ret => exact hret hp
  | normal => exact hret hp
  | panic l =>
    obtain ⟨T, τ, t1, t2, t3, t4, hk⟩ := hK _ _ hp
    obtain ⟨f1, f2⟩ := fin T τ t1 t2 t3 t4
    exact ⟨h2.dfr, .pan l, _, M', _, hk, f1, f2, rfl⟩
  | exit id => exact hp.elim
  | goto l => exact hp.elim
  | outgrown => exact hp.elim
end

end Go.Fw

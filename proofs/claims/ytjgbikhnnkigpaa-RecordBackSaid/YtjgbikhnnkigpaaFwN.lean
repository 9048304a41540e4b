/- Less is known; a loop; a box that is written no more; what a function hands over. -/
import Derived.Test.YtjgbikhnnkigpaaFwM
set_option linter.unusedSimpArgs false
set_option linter.unusedVariables false
namespace Go.Fw
open Go Go.RowKit

mutual
/-- Boxes under other numbers. -/
def ren (ρ : Nat → Nat) : AV → AV
  | .bp id off => .bp (ρ id) off
  | .bs id z off n => .bs (ρ id) z off n
  | .fn f l => .fn f (renL ρ l)
  | .agg l => .agg (renL ρ l)
  | .tup l => .tup (renL ρ l)
  | .v x => .v x
  | .slc f z n l => .slc f z n l
  | .ip l => .ip l
  | .own e z n l => .own e z n l
  | .junk => .junk
  | .unk => .unk
def renL (ρ : Nat → Nat) : List AV → List AV
  | [] => []
  | a :: l => ren ρ a :: renL ρ l
end

def renBox (ρ : Nat → Nat) : Box → Box
  | .mut e l => .mut e (renL ρ l)
  | .frz l => .frz l

theorem renL_length (ρ : Nat → Nat) : ∀ l, (renL ρ l).length = l.length
  | [] => rfl
  | a :: l => by simp [renL, renL_length ρ l]

mutual
theorem rep_ren {M : Mem} {β : Loc} (ρ : Nat → Nat) : ∀ (a : AV) (x : Value), Rep M β (ren ρ a) x → Rep M (fun i => β (ρ i)) a x
  | .v _, _, h => h
  | .slc _ _ _ _, _, h => h
  | .ip _, _, h => h
  | .bp _ _, _, h => h
  | .bs _ _ _ _, _, h => h
  | .fn _ l, _, ⟨vs, h1, h2, h3⟩ => ⟨vs, h1, by rw [h2, renL_length], repAt_ren ρ l vs 0 h3⟩
  | .agg l, _, ⟨vs, h1, h2, h3⟩ => ⟨vs, h1, by rw [h2, renL_length], repAt_ren ρ l vs 0 h3⟩
  | .tup l, _, ⟨vs, h1, h2, h3⟩ => ⟨vs, h1, by rw [h2, renL_length], repT_ren ρ l vs 0 h3⟩
  | .own _ _ _ _, _, h => h
  | .junk, _, h => h
  | .unk, _, h => h
theorem repAt_ren {M : Mem} {β : Loc} (ρ : Nat → Nat) : ∀ (l : List AV) (cs : Array Value) (o : Nat), RepAt M β (renL ρ l) cs o → RepAt M (fun i => β (ρ i)) l cs o
  | [], _, _, _ => trivial
  | a :: l, cs, o, ⟨⟨y, h1, h2, h3⟩, h4⟩ => ⟨⟨y, h1, h2, rep_ren ρ a y h3⟩, repAt_ren ρ l cs (o + 1) h4⟩
theorem repT_ren {M : Mem} {β : Loc} (ρ : Nat → Nat) : ∀ (l : List AV) (cs : Array Value) (o : Nat), RepT M β (renL ρ l) cs o → RepT M (fun i => β (ρ i)) l cs o
  | [], _, _, _ => trivial
  | a :: l, cs, o, ⟨⟨y, h1, h3⟩, h4⟩ => ⟨⟨y, h1, rep_ren ρ a y h3⟩, repT_ren ρ l cs (o + 1) h4⟩
end

def lk {α : Type} : List (Nat × α) → Nat → Option α
  | [], _ => none
  | p :: r, t => if p.1 = t then some p.2 else lk r t

theorem lk_mem {α : Type} : ∀ {l : List (Nat × α)} {t : Nat} {x : α}, lk l t = some x → (t, x) ∈ l
  | [], _, _, h => by cases h
  | p :: r, t, x, h => by
    simp only [lk] at h
    split at h
    · rename_i he; cases h; subst he; simp
    · exact List.mem_cons_of_mem _ (lk_mem h)

/-- A state that is told whole: these slots, these boxes. -/
def mkS (env : List (Nat × AV)) (box : List (Nat × Box)) : AS := ⟨fun t => (lk env t).getD .junk, lk box, fun i => i ∈ box.map (·.1) ∨ 1000000 ≤ i⟩

/-- The refs of a box's cells. -/
def Box.refs : Box → List Nat
  | .mut _ l => refsL l
  | .frz _ => []

/-- What the second state knows the first one knows. -/
def Wk (s : AS) (env : List (Nat × AV)) (box : List (Nat × Box)) (ρ : Nat → Nat) : Prop :=
  (∀ p ∈ env, resB s.box (s.env p.1) = ren ρ p.2) ∧ (∀ p ∈ box, s.box (ρ p.1) = some (renBox ρ p.2)) ∧ (∀ p ∈ box, ∀ q ∈ box, ρ p.1 = ρ q.1 → p.1 = q.1) ∧
  (∀ p ∈ env, ∀ i ∈ p.2.refs, i ∈ box.map (·.1)) ∧ (∀ p ∈ box, ∀ i ∈ p.2.refs, i ∈ box.map (·.1)) ∧ ∀ i, 1000000 ≤ i → ρ i = i

section
variable {P : Program} {C : Ctx} {M : Mem} {β : Loc} {s : AS} {w : World} {nt : Nat} {a : Act} {Q : Exit → AS → Prop}

theorem Rel.wk (h : Rel C M β s w) (hs : Slots nt M β s a) {env : List (Nat × AV)} {box : List (Nat × Box)} {ρ : Nat → Nat} (hw : Wk s env box ρ) :
    Rel C M (fun i => β (ρ i)) (mkS env box) w ∧ Slots nt M (fun i => β (ρ i)) (mkS env box) a := by
  obtain ⟨h1, h2, h3, h4, h5, h6⟩ := hw
  have hb : ∀ i B, lk box i = some B → s.box (ρ i) = some (renBox ρ B) := fun i B hi => h2 _ (lk_mem hi)
  refine ⟨⟨h.mem, h.le, h.mnew, ?_, ?_, ?_, ?_, ?_, ?_, h.os, h.tape, h.output, h.size, h.keep, fun i hi => ⟨.inr hi, by rw [h6 i hi]; exact (h.pin i hi).2⟩⟩, ⟨hs.dfr, hs.size, ?_, ?_⟩⟩
  · intro i e l hi j hj
    exact .inl (h5 _ (lk_mem hi) j hj)
  · intro i hi
    simp only [mkS] at hi ⊢
    cases hx : lk box i with
    | none => exact absurd hx hi
    | some B => exact .inl (List.mem_map.2 ⟨_, lk_mem hx, rfl⟩)
  · intro i e l hi
    rcases h.mutb (ρ i) e (renL ρ l) (hb i _ hi) with ⟨k1, k2⟩ | ⟨b, cs, k1, k2, k3, k4, k5, k6⟩
    · refine .inl ⟨k1, ?_⟩
      cases l with
      | nil => rfl
      | cons => simp [renL] at k2
    · exact .inr ⟨b, cs, k1, k2, repAt_ren ρ l cs 0 k3, by rw [renL_length] at k4; exact k4, k5, k6⟩
  · intro i l hi
    exact h.frzb (ρ i) l (hb i _ hi)
  · intro i l hi
    exact h.frzr (ρ i) l (hb i _ hi)
  · intro i j e e' l l' b n n' hi hj hbi hbj
    have := h.inj (ρ i) (ρ j) e e' _ _ b n n' (hb i _ hi) (hb j _ hj) hbi hbj
    exact h3 _ (lk_mem hi) _ (lk_mem hj) this
  · intro t
    simp only [mkS]
    cases ht : lk env t with
    | none => exact trivial
    | some v =>
      have hok := resB_ok h ⟨hs.slot t, hs.refE t⟩
      have := h1 _ (lk_mem ht)
      simp only at this
      rw [this] at hok
      exact rep_ren ρ v _ hok.rep
  · intro t i hi
    simp only [mkS] at hi ⊢
    cases ht : lk env t with
    | none => rw [ht] at hi; simp [AV.refs] at hi
    | some v => rw [ht] at hi; exact .inl (h4 _ (lk_mem ht) i hi)

theorem W_wk {c : Code} (env : List (Nat × AV)) (box : List (Nat × Box)) (ρ : Nat → Nat) (hw : Wk s env box ρ) (h : W P nt c (mkS env box) Q) : W P nt c s Q := by
  intro C M β a w hR hS
  obtain ⟨h1, h2⟩ := hR.wk hS hw
  exact h C M _ a w h1 h2

/-- A loop: its states are told by a parameter. -/
theorem W_loop {c : Code} {X : Type} (env : X → List (Nat × AV)) (box : X → List (Nat × Box)) (μ : X → Nat) (I : X → Prop) (x0 : X) (ρ0 : Nat → Nat) (h0 : I x0) (hs : Wk s (env x0) (box x0) ρ0)
    (round : ∀ x, I x → W P nt c (mkS (env x) (box x)) (fun e s' => match e with
      | .normal => ∃ x', μ x' < μ x ∧ I x' ∧ ∃ ρ, Wk s' (env x') (box x') ρ
      | e => Q e s')) : W P nt (.loop c) s Q := by
  refine W_wk (env x0) (box x0) ρ0 hs ?_
  intro C M β a w hR hS
  refine wp_loop_n (fun n a w => ∃ x, μ x = n ∧ I x ∧ ∃ M β, Rel C M β (mkS (env x) (box x)) w ∧ Slots nt M β (mkS (env x) (box x)) a) (n0 := μ x0) ⟨x0, rfl, h0, M, β, hR, hS⟩ ?_
  rintro n a w ⟨x, rfl, hx, M, β, hR, hS⟩
  refine wp_mono (round x hx C M β a w hR hS) ?_
  rintro e a' w' ⟨s', M', β', h1, h2, h3⟩
  cases e with
  | normal =>
    obtain ⟨x', hlt, hI, ρ, hw⟩ := h1
    obtain ⟨k1, k2⟩ := h2.wk h3 hw
    exact ⟨μ x', hlt, x', rfl, hI, M', _, k1, k2⟩
  | _ => exact ⟨s', M', β', h1, h2, h3⟩

/-- A box that is written no more. -/
theorem W_frz {c : Code} (id : Nat) {e : TypeId} {l : List AV} (hb : s.box id = some (.mut e l)) (hr : refsL l = []) (h : W P nt c { s with box := upd s.box id (some (.frz l)) } Q) : W P nt c s Q := by
  intro C M β a w hR hS
  obtain ⟨M', h1, h2⟩ := hR.freeze hb hr
  exact h C M' β a w h2 (hS.later h1 (fun _ _ => rfl) rfl (fun _ h => h))

/-- A nil slice as an empty box of one's own. -/
theorem W_nil {c : Code} (t id : Nat) (e : TypeId) (z : Nat) (hn : s.env t = .v (.slice none 0 0)) (hf : ¬ s.used id)
    (h : W P nt c ⟨upd s.env t (.bs id z 0 0), upd s.box id (some (.mut e [])), fun i => i = id ∨ s.used i⟩ Q) : W P nt c s Q := by
  intro C M β a w hR hS
  obtain ⟨r1, r2⟩ := hR.renew (w' := w) none id e [] none none (.inl hf) rfl rfl rfl (Nat.le_refl _) (fun _ _ _ => rfl) (fun _ hb => by cases hb) (.inl ⟨rfl, rfl⟩) (by simp [refsL])
  have hsl : Slots nt M (upd β id none) ⟨s.env, upd s.box id (some (.mut e [])), fun i => i = id ∨ s.used i⟩ a := hS.later (MemLe.refl M) r2 rfl (fun _ h => .inr h)
  refine h C M _ a w (r1.env rfl rfl) ⟨hsl.dfr, hsl.size, fun t' => ?_, fun t' i hi => ?_⟩
  · by_cases ht : t' = t
    · subst ht
      simp only [upd_same]
      have := hS.slot t'
      rw [hn] at this
      rw [this.1]
      exact ⟨none, 0, rfl, Nat.le_refl _, by simp [maxLen], fun h => absurd h (by omega)⟩
    · simp only [upd_ne _ _ ht]; exact hsl.slot t'
  · by_cases ht : t' = t
    · subst ht; simp only [upd_same, AV.refs, List.mem_singleton] at hi; exact .inl hi
    · simp only [upd_ne _ _ ht] at hi; exact hsl.refE t' i hi

/-- Something is forgotten, nothing is turned: other slots under the same memory. -/
theorem W_env {c : Code} (env' : Nat → AV) (he : ∀ t, env' t = .junk ∨ env' t = s.env t) (h : W P nt c ⟨env', s.box, s.used⟩ Q) : W P nt c s Q := by
  intro C M β a w hR hS
  refine h C M β a w (hR.env rfl rfl) ⟨hS.dfr, hS.size, fun t => ?_, fun t i hi => ?_⟩
  · rcases he t with h1 | h1
    · show Rep M β (env' t) _
      rw [h1]; trivial
    · show Rep M β (env' t) _
      rw [h1]; exact hS.slot t
  · rcases he t with h1 | h1
    · simp only [h1, AV.refs] at hi; cases hi
    · simp only [h1] at hi; exact hS.refE t i hi
end

end Go.Fw

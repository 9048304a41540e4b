/- Regions whose order is drawn: the order in the text stands for all. I: states by what has run. -/
import Derived.Test.YtjgbikhnnkigpaaFwS
set_option linter.unusedSimpArgs false
set_option linter.unusedVariables false
namespace Go.Fw
open Go Go.RowKit

/-- What an operation came to: its value, what it did to memory. -/
structure St where
  v : AV
  eff : Option Eff

def app (o : Oper) (st : St) (s : AS) : AS := match st.eff with
  | some f => (s.eff f).put o.dst st.v
  | none => s.put o.dst st.v

def St.touches (st : St) (id : Nat) : Prop := ∃ f, st.eff = some f ∧ (id = f.d ∨ f.kill = some id)
def St.fresh (st : St) (id : Nat) : Prop := ∃ f, st.eff = some f ∧ f.fresh = true ∧ id = f.d

theorem app_env_ne {o : Oper} {st : St} {s : AS} {t : Nat} (h : o.dst ≠ some t) : (app o st s).env t = s.env t := by
  have key : ∀ s' : AS, (s'.put o.dst st.v).env t = s'.env t := by
    intro s'
    cases hd : o.dst with
    | none => rfl
    | some d => simp only [AS.put]; exact upd_ne _ _ (fun he => h (by rw [hd, he]))
  unfold app
  split
  · rw [key]; rfl
  · exact key s

theorem app_env_eq {o : Oper} {st : St} {s : AS} {t : Nat} (h : o.dst = some t) : (app o st s).env t = st.v := by
  unfold app
  split <;> simp [h, AS.put, upd]

theorem app_box {o : Oper} {st : St} {s : AS} : (app o st s).box = match st.eff with
    | some f => (s.eff f).box
    | none => s.box := by
  unfold app
  split <;> simp [AS.put_box]

theorem app_used {o : Oper} {st : St} {s : AS} {id : Nat} : (app o st s).used id ↔ s.used id ∨ st.fresh id := by
  unfold app St.fresh
  split
  · rename_i f hf
    rw [AS.put_used]
    simp only [AS.eff]
    split
    · rename_i h; simp [hf, h]; exact Or.comm
    · rename_i h; simp [hf, h]
  · rename_i hf
    rw [AS.put_used]
    simp [hf]

theorem app_box_ne {o : Oper} {st : St} {s : AS} {id : Nat} (h : ¬ st.touches id) : (app o st s).box id = s.box id := by
  rw [app_box]
  cases hf : st.eff with
  | none => rfl
  | some f =>
    simp only [AS.eff]
    have h1 : id ≠ f.d := fun he => h ⟨f, hf, .inl he⟩
    rw [upd_ne _ _ h1]
    cases hk : f.kill with
    | none => rfl
    | some k => exact upd_ne _ _ (fun he => h ⟨f, hf, .inr (by rw [hk, he])⟩)

theorem app_box_eq {o : Oper} {st : St} {s s' : AS} {id : Nat} (h : st.touches id) : (app o st s).box id = (app o st s').box id := by
  rw [app_box, app_box]
  obtain ⟨f, hf, h⟩ := h
  simp only [hf, AS.eff]
  by_cases he : id = f.d
  · rw [he, upd_same, upd_same]
  · rw [upd_ne _ _ he, upd_ne _ _ he]
    rcases h with h | h
    · exact absurd h he
    · rw [h]; simp [killBox, upd]

/-- The state when these have run (in the order of the text). -/
def stZ (L : Nat → Bool) : Nat → List (Oper × St) → AS → AS
  | _, [], s => s
  | k, p :: z, s => stZ L (k + 1) z (if L k = true then app p.1 p.2 s else s)

theorem env_congr {L L' : Nat → Bool} {t : Nat} : ∀ (z : List (Oper × St)) (k : Nat) (s s' : AS), s.env t = s'.env t →
    (∀ i p, z[i]? = some p → p.1.dst = some t → L (k + i) = L' (k + i)) → (stZ L k z s).env t = (stZ L' k z s').env t
  | [], _, _, _, h, _ => h
  | p :: z, k, s, s', h, hL => by
    simp only [stZ]
    refine env_congr z (k + 1) _ _ ?_ (fun i q hi hd => by have := hL (i + 1) q (by simpa using hi) hd; rwa [show k + (i + 1) = k + 1 + i from by omega] at this)
    by_cases hd : p.1.dst = some t
    · have := hL 0 p (by simp) hd
      simp only [Nat.add_zero] at this
      rw [this]
      split
      · rw [app_env_eq hd, app_env_eq hd]
      · exact h
    · split <;> split <;> (try rw [app_env_ne hd]) <;> (try rw [app_env_ne hd]) <;> exact h

theorem box_congr {L L' : Nat → Bool} {id : Nat} : ∀ (z : List (Oper × St)) (k : Nat) (s s' : AS), s.box id = s'.box id →
    (∀ i p, z[i]? = some p → p.2.touches id → L (k + i) = L' (k + i)) → (stZ L k z s).box id = (stZ L' k z s').box id
  | [], _, _, _, h, _ => h
  | p :: z, k, s, s', h, hL => by
    simp only [stZ]
    refine box_congr z (k + 1) _ _ ?_ (fun i q hi hd => by have := hL (i + 1) q (by simpa using hi) hd; rwa [show k + (i + 1) = k + 1 + i from by omega] at this)
    by_cases hd : p.2.touches id
    · have := hL 0 p (by simp) hd
      simp only [Nat.add_zero] at this
      rw [this]
      split
      · exact app_box_eq hd
      · exact h
    · split <;> split <;> (try rw [app_box_ne hd]) <;> (try rw [app_box_ne hd]) <;> exact h

/-- One that ran last among those that write the slot. -/
theorem env_last {L : Nat → Bool} {t : Nat} : ∀ (z : List (Oper × St)) (k j : Nat) (p : Oper × St) (s : AS), z[j]? = some p → L (k + j) = true → p.1.dst = some t →
    (∀ i q, j < i → z[i]? = some q → q.1.dst = some t → L (k + i) = false) → (stZ L k z s).env t = p.2.v
  | [], _, _, _, _, h, _, _, _ => by simp at h
  | p :: z, k, 0, q, s, h, hl, hd, hn => by
    simp at h; subst h
    simp only [Nat.add_zero] at hl
    simp only [stZ, if_pos hl]
    rw [env_congr (L' := fun _ => false) z (k + 1) _ (app p.1 p.2 s) rfl (fun i q hi hq => by have := hn (i + 1) q (by omega) (by simpa using hi) hq; rwa [show k + (i + 1) = k + 1 + i from by omega] at this)]
    have key : ∀ (z : List (Oper × St)) (k : Nat) (s : AS), stZ (fun _ => false) k z s = s := by
      intro z
      induction z with
      | nil => intro k s; rfl
      | cons p z ih => intro k s; simp [stZ, ih]
    rw [key, app_env_eq hd]
  | p :: z, k, j + 1, q, s, h, hl, hd, hn => by
    simp only [stZ]
    exact env_last z (k + 1) j q _ (by simpa using h) (by rw [show k + 1 + j = k + (j + 1) from by omega]; exact hl) hd
      (fun i r hi hr hrd => by have := hn (i + 1) r (by omega) (by simpa using hr) hrd; rwa [show k + (i + 1) = k + 1 + i from by omega] at this)

theorem box_last {L : Nat → Bool} {id : Nat} : ∀ (z : List (Oper × St)) (k j : Nat) (p : Oper × St) (s s' : AS), z[j]? = some p → L (k + j) = true → p.2.touches id →
    (∀ i q, j < i → z[i]? = some q → q.2.touches id → L (k + i) = false) → (stZ L k z s).box id = (app p.1 p.2 s').box id
  | [], _, _, _, _, _, h, _, _, _ => by simp at h
  | p :: z, k, 0, q, s, s', h, hl, hd, hn => by
    simp at h; subst h
    simp only [Nat.add_zero] at hl
    simp only [stZ, if_pos hl]
    rw [box_congr (L' := fun _ => false) z (k + 1) _ (app p.1 p.2 s) rfl (fun i q hi hq => by have := hn (i + 1) q (by omega) (by simpa using hi) hq; rwa [show k + (i + 1) = k + 1 + i from by omega] at this)]
    have key : ∀ (z : List (Oper × St)) (k : Nat) (s : AS), stZ (fun _ => false) k z s = s := by
      intro z
      induction z with
      | nil => intro k s; rfl
      | cons p z ih => intro k s; simp [stZ, ih]
    rw [key]
    exact app_box_eq hd
  | p :: z, k, j + 1, q, s, s', h, hl, hd, hn => by
    simp only [stZ]
    exact box_last z (k + 1) j q _ s' (by simpa using h) (by rw [show k + 1 + j = k + (j + 1) from by omega]; exact hl) hd
      (fun i r hi hr hrd => by have := hn (i + 1) r (by omega) (by simpa using hr) hrd; rwa [show k + (i + 1) = k + 1 + i from by omega] at this)

theorem used_iff {L : Nat → Bool} {id : Nat} : ∀ (z : List (Oper × St)) (k : Nat) (s : AS), (stZ L k z s).used id ↔ s.used id ∨ ∃ i p, z[i]? = some p ∧ L (k + i) = true ∧ p.2.fresh id
  | [], k, s => by simp [stZ]
  | p :: z, k, s => by
    simp only [stZ]
    rw [used_iff z (k + 1)]
    have h1 : (if L k = true then app p.1 p.2 s else s).used id ↔ s.used id ∨ (L k = true ∧ p.2.fresh id) := by
      split
      · rename_i h; rw [app_used]; simp [h]
      · rename_i h; simp [h]
    rw [h1]
    constructor
    · rintro ((h | ⟨h, h'⟩) | ⟨i, q, h1, h2, h3⟩)
      · exact .inl h
      · exact .inr ⟨0, p, by simp, by simpa using h, h'⟩
      · exact .inr ⟨i + 1, q, by simpa using h1, by rw [show k + (i + 1) = k + 1 + i from by omega]; exact h2, h3⟩
    · rintro (h | ⟨i, q, h1, h2, h3⟩)
      · exact .inl (.inl h)
      · cases i with
        | zero => simp at h1; subst h1; exact .inl (.inr ⟨by simpa using h2, h3⟩)
        | succ i => exact .inr ⟨i, q, by simpa using h1, by rw [show k + 1 + i = k + (i + 1) from by omega]; exact h2, h3⟩

theorem AS.ext' {s s' : AS} (h1 : ∀ t, s.env t = s'.env t) (h2 : ∀ i, s.box i = s'.box i) (h3 : ∀ i, s.used i ↔ s'.used i) : s = s' := by
  obtain ⟨e, b, u⟩ := s
  obtain ⟨e', b', u'⟩ := s'
  simp only at h1 h2 h3
  have := funext h1
  have := funext h2
  have := funext fun i => propext (h3 i)
  subst_vars
  rfl

end Go.Fw

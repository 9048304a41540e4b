/- Cells that stand for a list; the abstract state; what ties it to a concrete one. -/
import Derived.Test.YtjgbikhnnkigpaaFwA
set_option linter.unusedSimpArgs false
set_option linter.unusedVariables false
namespace Go.Fw
open Go Go.RowKit

section
variable {M : Mem} {β : Loc}

theorem RepAt.iff : ∀ (l : List AV) (cs : Array Value) (o : Nat),
    RepAt M β l cs o ↔ ∀ i a, l[i]? = some a → ∃ y, cs[o + i]? = some y ∧ y.oneCell' = true ∧ Rep M β a y
  | [], cs, o => by simp [RepAt]
  | a :: l, cs, o => by
    simp only [RepAt]
    rw [RepAt.iff l cs (o + 1)]
    constructor
    · rintro ⟨h1, h2⟩ i b hb
      cases i with
      | zero => simp at hb; subst hb; simpa using h1
      | succ i => simp at hb; have := h2 i b hb; rwa [show o + 1 + i = o + (i + 1) from by omega] at this
    · intro h
      refine ⟨by simpa using h 0 a (by simp), fun i b hb => ?_⟩
      have := h (i + 1) b (by simpa using hb)
      rwa [show o + (i + 1) = o + 1 + i from by omega] at this

theorem RepT.iff : ∀ (l : List AV) (cs : Array Value) (o : Nat),
    RepT M β l cs o ↔ ∀ i a, l[i]? = some a → ∃ y, cs[o + i]? = some y ∧ Rep M β a y
  | [], cs, o => by simp [RepT]
  | a :: l, cs, o => by
    simp only [RepT]
    rw [RepT.iff l cs (o + 1)]
    constructor
    · rintro ⟨h1, h2⟩ i b hb
      cases i with
      | zero => simp at hb; subst hb; simpa using h1
      | succ i => simp at hb; have := h2 i b hb; rwa [show o + 1 + i = o + (i + 1) from by omega] at this
    · intro h
      refine ⟨by simpa using h 0 a (by simp), fun i b hb => ?_⟩
      have := h (i + 1) b (by simpa using hb)
      rwa [show o + (i + 1) = o + 1 + i from by omega] at this

theorem RepAt.drop {l : List AV} {cs : Array Value} {o : Nat} (h : RepAt M β l cs o) (k : Nat) : RepAt M β (l.drop k) cs (o + k) := by
  rw [RepAt.iff] at *
  intro i a ha
  rw [List.getElem?_drop] at ha
  have := h (k + i) a ha
  rwa [← Nat.add_assoc] at this

theorem RepAt.take {l : List AV} {cs : Array Value} {o : Nat} (h : RepAt M β l cs o) (k : Nat) : RepAt M β (l.take k) cs o := by
  rw [RepAt.iff] at *
  intro i a ha
  rw [List.getElem?_take] at ha
  split at ha
  · exact h i a ha
  · cases ha

theorem RepAt.append {l l' : List AV} {cs : Array Value} {o : Nat} (h : RepAt M β l cs o) (h' : RepAt M β l' cs (o + l.length)) : RepAt M β (l ++ l') cs o := by
  rw [RepAt.iff] at *
  intro i a ha
  by_cases hi : i < l.length
  · rw [List.getElem?_append_left hi] at ha; exact h i a ha
  · rw [List.getElem?_append_right (by omega)] at ha
    have := h' (i - l.length) a ha
    rwa [show o + l.length + (i - l.length) = o + i from by omega] at this

theorem RepAt.congr {l : List AV} {cs cs' : Array Value} {o o' : Nat} (h : RepAt M β l cs o) (hc : ∀ i, i < l.length → cs'[o' + i]? = cs[o + i]?) : RepAt M β l cs' o' := by
  rw [RepAt.iff] at *
  intro i a ha
  have hi : i < l.length := (List.getElem?_eq_some_iff.1 ha).1
  rw [hc i hi]
  exact h i a ha

theorem RepAt.le {l : List AV} {cs : Array Value} {o : Nat} (h : RepAt M β l cs o) (hl : 0 < l.length) : o + l.length ≤ cs.size := by
  rw [RepAt.iff] at h
  obtain ⟨y, hy, _⟩ := h (l.length - 1) l[l.length - 1] (by rw [List.getElem?_eq_getElem])
  have := (Array.getElem?_eq_some_iff.1 hy).1
  omega

/-- The cells themselves, as a list. -/
theorem RepAt.cells {l : List AV} {cs : Array Value} {o : Nat} (h : RepAt M β l cs o) :
    ∃ ys : List Value, ys.length = l.length ∧ (∀ j v, ys[j]? = some v → cs[o + j]? = some v) ∧ (∀ y ∈ ys, y.oneCell' = true) ∧ RepAt M β l ys.toArray 0 := by
  refine ⟨(cs.extract o (o + l.length)).toList, ?_, ?_, ?_, ?_⟩
  · rcases Nat.eq_zero_or_pos l.length with h0 | h0
    · simp [h0]
    · have := h.le h0
      simp; omega
  · intro j v hv
    rw [Array.getElem?_toList, Array.getElem?_extract] at hv
    split at hv
    · exact hv
    · cases hv
  · intro y hy
    obtain ⟨i, hi⟩ := List.getElem?_of_mem hy
    rw [Array.getElem?_toList, Array.getElem?_extract] at hi
    split at hi
    · rename_i hlt
      have h' := (RepAt.iff l cs o).1 h
      have hil : i < l.length := by omega
      obtain ⟨z, hz, h1, _⟩ := h' i l[i] (by rw [List.getElem?_eq_getElem])
      rw [hi] at hz; cases hz; exact h1
    · cases hi
  · refine h.congr fun i hi => ?_
    simp only [Array.toArray_toList, Nat.zero_add, Array.getElem?_extract]
    rcases Nat.eq_zero_or_pos l.length with h0 | h0
    · omega
    · have := h.le h0
      rw [if_pos (by omega)]
end

/-- What a number names: memory that may be written (its block's type, its cells), or no more. -/
inductive Box where
  | mut (e : TypeId) (l : List AV)
  | frz (l : List AV)

/-- The abstract state: the slots, the boxes, the numbers that may stand somewhere. -/
structure AS where
  env : Nat → AV
  box : Nat → Option Box
  used : Nat → Prop

def upd {α : Type} (f : Nat → α) (d : Nat) (x : α) : Nat → α := fun t => if t = d then x else f t

theorem upd_same {α : Type} (f : Nat → α) (d : Nat) (x : α) : upd f d x d = x := by simp [upd]
theorem upd_ne {α : Type} (f : Nat → α) {d t : Nat} (x : α) (h : t ≠ d) : upd f d x t = f t := by simp [upd, h]

/-- Where the walk began: the world, what could not change, the blocks that may. -/
structure Ctx where
  w0 : World
  M0 : Mem
  ext : List Nat
  β0 : Loc := noLoc

/-- No cell of the block is frozen. -/
def Free (n : Nat) (fz : Nat × Nat) : Prop := ∀ i, i < n → (fz.1 ≤ i && i < fz.2) = false

theorem Free.zero (n : Nat) : Free n (0, 0) := by intro i _; simp

/-- A box that may be written, in memory. -/
def MutOk (C : Ctx) (M : Mem) (β : Loc) (w : World) (id : Nat) (e : TypeId) (l : List AV) : Prop :=
  (β id = none ∧ l = []) ∨ ∃ b cs, β id = some (b, cs.size) ∧ (∃ fz, w.heap[b]? = some (.cells cs e fz) ∧ Free cs.size fz) ∧ RepAt M β l cs 0 ∧ l.length ≤ cs.size ∧
    M b = none ∧ (C.w0.heap.size ≤ b ∨ b ∈ C.ext)

/-- A box that is not written any more. -/
def FrzOk (M : Mem) (β : Loc) (id : Nat) (l : List AV) : Prop :=
  (β id = none ∧ l = []) ∨ ∃ b cs, β id = some (b, cs.size) ∧ M b = some cs ∧ RepAt M noLoc l cs 0 ∧ l.length ≤ cs.size

/-- The abstract state, less its slots, is the concrete one. -/
structure Rel (C : Ctx) (M : Mem) (β : Loc) (s : AS) (w : World) : Prop where
  mem : ∀ b cs, M b = some cs → ∃ ty fz, w.heap[b]? = some (.cells cs ty fz)
  le : MemLe C.M0 M
  mnew : ∀ b, M b ≠ C.M0 b → C.w0.heap.size ≤ b ∨ b ∈ C.ext
  refB : ∀ id e l, s.box id = some (.mut e l) → ∀ j ∈ refsL l, s.used j
  useB : ∀ id, s.box id ≠ none → s.used id
  mutb : ∀ id e l, s.box id = some (.mut e l) → MutOk C M β w id e l
  frzb : ∀ id l, s.box id = some (.frz l) → FrzOk M β id l
  frzr : ∀ id l, s.box id = some (.frz l) → refsL l = []
  inj : ∀ i j e e' l l' b n n', s.box i = some (.mut e l) → s.box j = some (.mut e' l') → β i = some (b, n) → β j = some (b, n') → i = j
  os : w.os = C.w0.os
  tape : w.tape = C.w0.tape
  output : w.output = C.w0.output
  size : C.w0.heap.size ≤ w.heap.size
  keep : ∀ b, b < C.w0.heap.size → b ∉ C.ext → w.heap[b]? = C.w0.heap[b]?
  pin : ∀ i, 1000000 ≤ i → s.used i ∧ β i = C.β0 i

/-- The slots are the concrete ones. -/
structure Slots (nt : Nat) (M : Mem) (β : Loc) (s : AS) (a : Act) : Prop where
  dfr : a.defers = []
  size : a.tmps.size = nt
  slot : ∀ t, Rep M β (s.env t) (a.tmps.getD t undef)
  refE : ∀ t, ∀ id ∈ (s.env t).refs, s.used id

def AS.put (s : AS) (d : Option Nat) (x : AV) : AS :=
  match d with
  | some d => { s with env := upd s.env d x }
  | none => s

theorem AS.put_box (s : AS) (d : Option Nat) (x : AV) : (s.put d x).box = s.box := by cases d <;> rfl
theorem AS.put_used (s : AS) (d : Option Nat) (x : AV) : (s.put d x).used = s.used := by cases d <;> rfl

/-- Rel looks at no slot. -/
theorem Rel.env {C : Ctx} {M : Mem} {β : Loc} {s s' : AS} {w : World} (h : Rel C M β s w) (hb : s'.box = s.box) (hu : s'.used = s.used) : Rel C M β s' w := by
  obtain ⟨e, b, u⟩ := s
  obtain ⟨e', b', u'⟩ := s'
  simp only at hb hu
  subst hb; subst hu
  exact ⟨h.mem, h.le, h.mnew, h.refB, h.useB, h.mutb, h.frzb, h.frzr, h.inj, h.os, h.tape, h.output, h.size, h.keep, h.pin⟩

theorem Rel.put {C : Ctx} {M : Mem} {β : Loc} {s : AS} {w : World} (h : Rel C M β s w) (d : Option Nat) (x : AV) : Rel C M β (s.put d x) w :=
  h.env (s.put_box d x) (s.put_used d x)

/-- A value that stands for no box and is told by M alone. -/
def dstOk (nt : Nat) : Option Nat → Bool
  | some d => decide (d < nt)
  | none => true

theorem Slots.put {nt : Nat} {M : Mem} {β : Loc} {s : AS} {a : Act} (h : Slots nt M β s a) {d : Option Nat} (hd : dstOk nt d = true) {x : AV} {v : Value}
    (hx : Rep M β x v) (hr : ∀ id ∈ x.refs, s.used id) : Slots nt M β (s.put d x) (a.put d v) := by
  cases d with
  | none => exact h
  | some d =>
    simp only [dstOk, decide_eq_true_eq] at hd
    refine ⟨h.dfr, by simp [Act.put, h.size], fun t => ?_, fun t => ?_⟩
    · by_cases ht : t = d
      · subst ht
        have hlt : t < a.tmps.size := by rw [h.size]; exact hd
        simp only [AS.put, upd_same, Act.put]
        rw [Array.getD_eq_getD_getElem?, Array.getElem?_setIfInBounds_self_of_lt hlt]
        exact hx
      · simp only [AS.put, upd_ne _ _ ht, Act.put]
        rw [Array.getD_eq_getD_getElem?, Array.getElem?_setIfInBounds_ne (Ne.symm ht), ← Array.getD_eq_getD_getElem?]
        exact h.slot t
    · by_cases ht : t = d
      · subst ht; simp only [AS.put, upd_same]; exact hr
      · simp only [AS.put, upd_ne _ _ ht]; exact h.refE t

/-- The slots in a later memory. -/
theorem Slots.later {nt : Nat} {M M' : Mem} {β β' : Loc} {s s' : AS} {a : Act} (h : Slots nt M β s a) (hM : MemLe M M') (hβ : ∀ id, s.used id → β' id = β id)
    (he : s'.env = s.env) (hu : ∀ id, s.used id → s'.used id) : Slots nt M' β' s' a :=
  ⟨h.dfr, h.size, fun t => by rw [he]; exact Rep.mono hM _ _ (fun id hi => hβ id (h.refE t id hi)) (h.slot t), fun t id hi => hu id (h.refE t id (by rw [← he]; exact hi))⟩

end Go.Fw

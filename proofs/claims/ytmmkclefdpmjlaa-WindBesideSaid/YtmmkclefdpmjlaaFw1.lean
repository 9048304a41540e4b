/- FwA, FwB, FwC, FwD, FwE, FwF, FwG, FwH, FwI, FwJ, FwK, FwL, put together. -/
import Derived.Orders
import Derived.Below
import Derived.Laws.Bits
import Derived.Laws.Strings
import Derived.Laws.BytesString
import Derived.Laws.StructEq
import Derived.ChangeKeysEq
import Derived.Laws.Build
import Derived.Laws.MakeOwn
import Derived.Maps.AppendAt
import Derived.RangeFuncNested
import Derived.RangeFuncCalls
import Derived.RangeFuncLeaves
import Derived.RangeFuncBound
import Derived.ControlIn
import Derived.OrdersIn
import Derived.TacticsIn
set_option linter.unusedSimpArgs false
set_option linter.unusedVariables false
namespace Go.Fw
open Go
inductive AV where
  | v (x : Value)
  | slc (full : Bool) (z n : Nat) (l : List AV)
  | ip (l : List AV)
  | bp (id off : Nat)
  | bs (id z off n : Nat)
  | fn (f : FuncId) (caps : List AV)
  | agg (l : List AV)
  | tup (l : List AV)
  | own (e : TypeId) (z n : Nat) (l : List AV)
  | junk
  | unk
  deriving Inhabited
mutual
def AV.refs : AV → List Nat
  | .bp id _ => [id]
  | .bs id _ _ _ => [id]
  | .fn _ l => refsL l
  | .agg l => refsL l
  | .tup l => refsL l
  | _ => []
def refsL : List AV → List Nat
  | [] => []
  | a :: l => a.refs ++ refsL l
end
abbrev Mem := Nat → Option (Array Value)
abbrev Loc := Nat → Option (Nat × Nat)
def noLoc : Loc := fun _ => none
mutual
def Rep (M : Mem) (β : Loc) : AV → Value → Prop
  | .v y, x => x = y ∧ y.oneCell' = true
  | .slc f z n l, x => ∃ a cap, x = .slice a n cap ∧ l.length = n * z ∧ n ≤ cap ∧ cap ≤ maxLen ∧ (f = true → cap = n) ∧ refsL l = [] ∧
      (0 < n → ∃ b o cs, a = some ⟨b, o, none⟩ ∧ M b = some cs ∧ RepAt M noLoc l cs o)
  | .ip l, x => ∃ b o cs, x = .pointer (some ⟨b, o, none⟩) ∧ M b = some cs ∧ refsL l = [] ∧ RepAt M noLoc l cs o
  | .bp id off, x => ∃ b s, β id = some (b, s) ∧ x = .pointer (some ⟨b, off, none⟩)
  | .bs id z off n, x => ∃ a cap, x = .slice a n cap ∧ n ≤ cap ∧ cap ≤ maxLen ∧
      (0 < cap → ∃ b s, β id = some (b, s) ∧ a = some ⟨b, off, none⟩ ∧ off + cap * z = s)
  | .fn f caps, x => ∃ vs : Array Value, x = .func (.func f) #[] vs ∧ vs.size = caps.length ∧ RepAt M β caps vs 0
  | .agg l, x => ∃ vs : Array Value, x = .agg vs ∧ vs.size = l.length ∧ RepAt M β l vs 0
  | .tup l, x => ∃ vs : Array Value, x = .tuple vs ∧ vs.size = l.length ∧ RepT M β l vs 0
  | .own _ _ _ _, _ => False
  | .junk, _ => True
  | .unk, x => ∃ b : Bool, x = .bool b
def RepAt (M : Mem) (β : Loc) : List AV → Array Value → Nat → Prop
  | [], _, _ => True
  | a :: l, cs, o => (∃ y, cs[o]? = some y ∧ y.oneCell' = true ∧ Rep M β a y) ∧ RepAt M β l cs (o + 1)
def RepT (M : Mem) (β : Loc) : List AV → Array Value → Nat → Prop
  | [], _, _ => True
  | a :: l, cs, o => (∃ y, cs[o]? = some y ∧ Rep M β a y) ∧ RepT M β l cs (o + 1)
end
def MemLe (M M' : Mem) : Prop := ∀ b cs, M b = some cs → M' b = some cs
theorem MemLe.refl (M : Mem) : MemLe M M := fun _ _ h => h
theorem MemLe.trans {M M' M'' : Mem} (h : MemLe M M') (k : MemLe M' M'') : MemLe M M'' := fun b cs e => k b cs (h b cs e)
mutual
theorem Rep.mono {M M' : Mem} {β β' : Loc} (hM : MemLe M M') : ∀ (a : AV) (x : Value), (∀ id ∈ a.refs, β' id = β id) → Rep M β a x → Rep M' β' a x
  | .v _, _, _, h => h
  | .slc _ _ _ l, _, _, ⟨a, cap, h1, h2, h3, h4, h5, hr0, h6⟩ => ⟨a, cap, h1, h2, h3, h4, h5, hr0, fun hn => by
      obtain ⟨b, o, cs, ha, hb, hc⟩ := h6 hn
      exact ⟨b, o, cs, ha, hM b cs hb, RepAt.mono hM l cs o (fun _ _ => rfl) hc⟩⟩
  | .ip l, _, _, ⟨b, o, cs, h1, h2, hr0, h3⟩ => ⟨b, o, cs, h1, hM b cs h2, hr0, RepAt.mono hM l cs o (fun _ _ => rfl) h3⟩
  | .bp id off, _, hr, ⟨b, s, h1, h2⟩ => ⟨b, s, (hr id (by simp [AV.refs])).trans h1, h2⟩
  | .bs id _ _ _, _, hr, ⟨a, cap, h1, h2, h3, h4⟩ => ⟨a, cap, h1, h2, h3, fun hc => by
      obtain ⟨b, s, k1, k2, k3⟩ := h4 hc
      exact ⟨b, s, (hr id (by simp [AV.refs])).trans k1, k2, k3⟩⟩
  | .fn _ l, _, hr, ⟨vs, h1, h2, h3⟩ => ⟨vs, h1, h2, RepAt.mono hM l vs 0 (by simpa [AV.refs] using hr) h3⟩
  | .agg l, _, hr, ⟨vs, h1, h2, h3⟩ => ⟨vs, h1, h2, RepAt.mono hM l vs 0 (by simpa [AV.refs] using hr) h3⟩
  | .tup l, _, hr, ⟨vs, h1, h2, h3⟩ => ⟨vs, h1, h2, RepT.mono hM l vs 0 (by simpa [AV.refs] using hr) h3⟩
  | .own _ _ _ _, _, _, h => h.elim
  | .junk, _, _, _ => trivial
  | .unk, _, _, h => h
theorem RepAt.mono {M M' : Mem} {β β' : Loc} (hM : MemLe M M') : ∀ (l : List AV) (cs : Array Value) (o : Nat), (∀ id ∈ refsL l, β' id = β id) → RepAt M β l cs o → RepAt M' β' l cs o
  | [], _, _, _, _ => trivial
  | a :: l, cs, o, hr, ⟨⟨y, h1, h2, h3⟩, h4⟩ =>
    ⟨⟨y, h1, h2, Rep.mono hM a y (fun id hi => hr id (by simp [refsL, hi])) h3⟩, RepAt.mono hM l cs (o + 1) (fun id hi => hr id (by simp [refsL, hi])) h4⟩
theorem RepT.mono {M M' : Mem} {β β' : Loc} (hM : MemLe M M') : ∀ (l : List AV) (cs : Array Value) (o : Nat), (∀ id ∈ refsL l, β' id = β id) → RepT M β l cs o → RepT M' β' l cs o
  | [], _, _, _, _ => trivial
  | a :: l, cs, o, hr, ⟨⟨y, h1, h3⟩, h4⟩ =>
    ⟨⟨y, h1, Rep.mono hM a y (fun id hi => hr id (by simp [refsL, hi])) h3⟩, RepT.mono hM l cs (o + 1) (fun id hi => hr id (by simp [refsL, hi])) h4⟩
end
end Go.Fw
namespace Go.Fw
open Go Go.RowKit
section
variable {M : Mem} {β : Loc}
theorem RepAt.iff : ∀ (l : List AV) (cs : Array Value) (o : Nat),
    RepAt M β l cs o ↔ ∀ i a, l[i]? = some a → ∃ y, cs[o + i]? = some y ∧ y.oneCell' = true ∧ Rep M β a y
  | [], cs, o => by simp [RepAt]
  | a :: l, cs, o => by
    simp only [RepAt]
    rw [RepAt.iff l cs (o + 1)]
    constructor
    · rintro ⟨h1, h2⟩ i b hb
      cases i with
      | zero => simp at hb; subst hb; simpa using h1
      | succ i => simp at hb; have := h2 i b hb; rwa [show o + 1 + i = o + (i + 1) from by omega] at this
    · intro h
      refine ⟨by simpa using h 0 a (by simp), fun i b hb => ?_⟩
      have := h (i + 1) b (by simpa using hb)
      rwa [show o + (i + 1) = o + 1 + i from by omega] at this
theorem RepT.iff : ∀ (l : List AV) (cs : Array Value) (o : Nat),
    RepT M β l cs o ↔ ∀ i a, l[i]? = some a → ∃ y, cs[o + i]? = some y ∧ Rep M β a y
  | [], cs, o => by simp [RepT]
  | a :: l, cs, o => by
    simp only [RepT]
    rw [RepT.iff l cs (o + 1)]
    constructor
    · rintro ⟨h1, h2⟩ i b hb
      cases i with
      | zero => simp at hb; subst hb; simpa using h1
      | succ i => simp at hb; have := h2 i b hb; rwa [show o + 1 + i = o + (i + 1) from by omega] at this
    · intro h
      refine ⟨by simpa using h 0 a (by simp), fun i b hb => ?_⟩
      have := h (i + 1) b (by simpa using hb)
      rwa [show o + (i + 1) = o + 1 + i from by omega] at this
theorem RepAt.drop {l : List AV} {cs : Array Value} {o : Nat} (h : RepAt M β l cs o) (k : Nat) : RepAt M β (l.drop k) cs (o + k) := by
  rw [RepAt.iff] at *
  intro i a ha
  rw [List.getElem?_drop] at ha
  have := h (k + i) a ha
  rwa [← Nat.add_assoc] at this
theorem RepAt.take {l : List AV} {cs : Array Value} {o : Nat} (h : RepAt M β l cs o) (k : Nat) : RepAt M β (l.take k) cs o := by
  rw [RepAt.iff] at *
  intro i a ha
  rw [List.getElem?_take] at ha
  split at ha
  · exact h i a ha
  · cases ha
theorem RepAt.append {l l' : List AV} {cs : Array Value} {o : Nat} (h : RepAt M β l cs o) (h' : RepAt M β l' cs (o + l.length)) : RepAt M β (l ++ l') cs o := by
  rw [RepAt.iff] at *
  intro i a ha
  by_cases hi : i < l.length
  · rw [List.getElem?_append_left hi] at ha; exact h i a ha
  · rw [List.getElem?_append_right (by omega)] at ha
    have := h' (i - l.length) a ha
    rwa [show o + l.length + (i - l.length) = o + i from by omega] at this
theorem RepAt.congr {l : List AV} {cs cs' : Array Value} {o o' : Nat} (h : RepAt M β l cs o) (hc : ∀ i, i < l.length → cs'[o' + i]? = cs[o + i]?) : RepAt M β l cs' o' := by
  rw [RepAt.iff] at *
  intro i a ha
  have hi : i < l.length := (List.getElem?_eq_some_iff.1 ha).1
  rw [hc i hi]
  exact h i a ha
theorem RepAt.le {l : List AV} {cs : Array Value} {o : Nat} (h : RepAt M β l cs o) (hl : 0 < l.length) : o + l.length ≤ cs.size := by
  rw [RepAt.iff] at h
  obtain ⟨y, hy, _⟩ := h (l.length - 1) l[l.length - 1] (by rw [List.getElem?_eq_getElem])
  have := (Array.getElem?_eq_some_iff.1 hy).1
  omega
theorem RepAt.cells {l : List AV} {cs : Array Value} {o : Nat} (h : RepAt M β l cs o) :
    ∃ ys : List Value, ys.length = l.length ∧ (∀ j v, ys[j]? = some v → cs[o + j]? = some v) ∧ (∀ y ∈ ys, y.oneCell' = true) ∧ RepAt M β l ys.toArray 0 := by
  refine ⟨(cs.extract o (o + l.length)).toList, ?_, ?_, ?_, ?_⟩
  · rcases Nat.eq_zero_or_pos l.length with h0 | h0
    · simp [h0]
    · have := h.le h0
      simp; omega
  · intro j v hv
    rw [Array.getElem?_toList, Array.getElem?_extract] at hv
    split at hv
    · exact hv
    · cases hv
  · intro y hy
    obtain ⟨i, hi⟩ := List.getElem?_of_mem hy
    rw [Array.getElem?_toList, Array.getElem?_extract] at hi
    split at hi
    · rename_i hlt
      have h' := (RepAt.iff l cs o).1 h
      have hil : i < l.length := by omega
      obtain ⟨z, hz, h1, _⟩ := h' i l[i] (by rw [List.getElem?_eq_getElem])
      rw [hi] at hz; cases hz; exact h1
    · cases hi
  · refine h.congr fun i hi => ?_
    simp only [Array.toArray_toList, Nat.zero_add, Array.getElem?_extract]
    rcases Nat.eq_zero_or_pos l.length with h0 | h0
    · omega
    · have := h.le h0
      rw [if_pos (by omega)]
end
inductive Box where
  | mut (e : TypeId) (l : List AV)
  | frz (l : List AV)
structure AS where
  env : Nat → AV
  box : Nat → Option Box
  used : Nat → Prop
def upd {α : Type} (f : Nat → α) (d : Nat) (x : α) : Nat → α := fun t => if t = d then x else f t
theorem upd_same {α : Type} (f : Nat → α) (d : Nat) (x : α) : upd f d x d = x := by simp [upd]
theorem upd_ne {α : Type} (f : Nat → α) {d t : Nat} (x : α) (h : t ≠ d) : upd f d x t = f t := by simp [upd, h]
structure Ctx where
  w0 : World
  M0 : Mem
  ext : List Nat
  β0 : Loc := noLoc
def Free (n : Nat) (fz : Nat × Nat) : Prop := ∀ i, i < n → (fz.1 ≤ i && i < fz.2) = false
theorem Free.zero (n : Nat) : Free n (0, 0) := by intro i _; simp
def MutOk (C : Ctx) (M : Mem) (β : Loc) (w : World) (id : Nat) (e : TypeId) (l : List AV) : Prop :=
  (β id = none ∧ l = []) ∨ ∃ b cs, β id = some (b, cs.size) ∧ (∃ fz, w.heap[b]? = some (.cells cs e fz) ∧ Free cs.size fz) ∧ RepAt M β l cs 0 ∧ l.length ≤ cs.size ∧
    M b = none ∧ (C.w0.heap.size ≤ b ∨ b ∈ C.ext)
def FrzOk (M : Mem) (β : Loc) (id : Nat) (l : List AV) : Prop :=
  (β id = none ∧ l = []) ∨ ∃ b cs, β id = some (b, cs.size) ∧ M b = some cs ∧ RepAt M noLoc l cs 0 ∧ l.length ≤ cs.size
structure Rel (C : Ctx) (M : Mem) (β : Loc) (s : AS) (w : World) : Prop where
  mem : ∀ b cs, M b = some cs → ∃ ty fz, w.heap[b]? = some (.cells cs ty fz)
  le : MemLe C.M0 M
  mnew : ∀ b, M b ≠ C.M0 b → C.w0.heap.size ≤ b ∨ b ∈ C.ext
  refB : ∀ id e l, s.box id = some (.mut e l) → ∀ j ∈ refsL l, s.used j
  useB : ∀ id, s.box id ≠ none → s.used id
  mutb : ∀ id e l, s.box id = some (.mut e l) → MutOk C M β w id e l
  frzb : ∀ id l, s.box id = some (.frz l) → FrzOk M β id l
  frzr : ∀ id l, s.box id = some (.frz l) → refsL l = []
  inj : ∀ i j e e' l l' b n n', s.box i = some (.mut e l) → s.box j = some (.mut e' l') → β i = some (b, n) → β j = some (b, n') → i = j
  os : w.os = C.w0.os
  tape : w.tape = C.w0.tape
  output : w.output = C.w0.output
  size : C.w0.heap.size ≤ w.heap.size
  keep : ∀ b, b < C.w0.heap.size → b ∉ C.ext → w.heap[b]? = C.w0.heap[b]?
  pin : ∀ i, 1000000 ≤ i → s.used i ∧ β i = C.β0 i
structure NT where
  n : Nat
  dfr : List Deferred
  round : Option Nat
instance instNT (k : Nat) : OfNat NT k := ⟨⟨k, [], none⟩⟩
instance : Coe Nat NT := ⟨fun k => ⟨k, [], none⟩⟩
def NT.F (nt : NT) : Fence := { Fence.wide with round := nt.round }
structure Slots (nt : NT) (M : Mem) (β : Loc) (s : AS) (a : Act) : Prop where
  dfr : a.defers = nt.dfr
  size : a.tmps.size = nt.n
  slot : ∀ t, Rep M β (s.env t) (a.tmps.getD t undef)
  refE : ∀ t, ∀ id ∈ (s.env t).refs, s.used id
def AS.put (s : AS) (d : Option Nat) (x : AV) : AS :=
  match d with
  | some d => { s with env := upd s.env d x }
  | none => s
theorem AS.put_box (s : AS) (d : Option Nat) (x : AV) : (s.put d x).box = s.box := by cases d <;> rfl
theorem AS.put_used (s : AS) (d : Option Nat) (x : AV) : (s.put d x).used = s.used := by cases d <;> rfl
theorem Rel.env {C : Ctx} {M : Mem} {β : Loc} {s s' : AS} {w : World} (h : Rel C M β s w) (hb : s'.box = s.box) (hu : s'.used = s.used) : Rel C M β s' w := by
  obtain ⟨e, b, u⟩ := s
  obtain ⟨e', b', u'⟩ := s'
  simp only at hb hu
  subst hb; subst hu
  exact ⟨h.mem, h.le, h.mnew, h.refB, h.useB, h.mutb, h.frzb, h.frzr, h.inj, h.os, h.tape, h.output, h.size, h.keep, h.pin⟩
theorem Rel.put {C : Ctx} {M : Mem} {β : Loc} {s : AS} {w : World} (h : Rel C M β s w) (d : Option Nat) (x : AV) : Rel C M β (s.put d x) w :=
  h.env (s.put_box d x) (s.put_used d x)
def dstOk (nt : NT) : Option Nat → Bool
  | some d => decide (d < nt.n)
  | none => true
theorem Slots.put {nt : NT} {M : Mem} {β : Loc} {s : AS} {a : Act} (h : Slots nt M β s a) {d : Option Nat} (hd : dstOk nt d = true) {x : AV} {v : Value}
    (hx : Rep M β x v) (hr : ∀ id ∈ x.refs, s.used id) : Slots nt M β (s.put d x) (a.put d v) := by
  cases d with
  | none => exact h
  | some d =>
    simp only [dstOk, decide_eq_true_eq] at hd
    refine ⟨h.dfr, by simp [Act.put, h.size], fun t => ?_, fun t => ?_⟩
    · by_cases ht : t = d
      · subst ht
        have hlt : t < a.tmps.size := by rw [h.size]; exact hd
        simp only [AS.put, upd_same, Act.put]
        rw [Array.getD_eq_getD_getElem?, Array.getElem?_setIfInBounds_self_of_lt hlt]
        exact hx
      · simp only [AS.put, upd_ne _ _ ht, Act.put]
        rw [Array.getD_eq_getD_getElem?, Array.getElem?_setIfInBounds_ne (Ne.symm ht), ← Array.getD_eq_getD_getElem?]
        exact h.slot t
    · by_cases ht : t = d
      · subst ht; simp only [AS.put, upd_same]; exact hr
      · simp only [AS.put, upd_ne _ _ ht]; exact h.refE t
theorem Slots.later {nt : NT} {M M' : Mem} {β β' : Loc} {s s' : AS} {a : Act} (h : Slots nt M β s a) (hM : MemLe M M') (hβ : ∀ id, s.used id → β' id = β id)
    (he : s'.env = s.env) (hu : ∀ id, s.used id → s'.used id) : Slots nt M' β' s' a :=
  ⟨h.dfr, h.size, fun t => by rw [he]; exact Rep.mono hM _ _ (fun id hi => hβ id (h.refE t id hi)) (h.slot t), fun t id hi => hu id (h.refE t id (by rw [← he]; exact hi))⟩
end Go.Fw
namespace Go.Fw
open Go Go.RowKit
def killBox (k : Option Nat) (f : Nat → Option Box) : Nat → Option Box :=
  match k with
  | some i => upd f i none
  | none => f
section
variable {C : Ctx} {M : Mem} {β : Loc} {s : AS} {w w' : World}
theorem heap_lt {w : World} {b : Nat} {x : Obj} (h : w.heap[b]? = some x) : b < w.heap.size := (Array.getElem?_eq_some_iff.1 h).1
theorem Rel.notnew (h : Rel C M β s w) {b : Nat} (hb : w.heap.size ≤ b) : M b = none := by
  cases hm : M b with
  | none => rfl
  | some cs =>
    obtain ⟨ty, fz, hh⟩ := h.mem b cs hm
    have := heap_lt hh
    omega
theorem killBox_some {k : Option Nat} {f : Nat → Option Box} {i : Nat} {x : Box} (h : killBox k f i = some x) : k ≠ some i ∧ f i = some x := by
  cases k with
  | none => exact ⟨by simp, h⟩
  | some j =>
    simp only [killBox, upd] at h
    split at h
    · cases h
    · rename_i hne; exact ⟨by simpa using Ne.symm hne, h⟩
theorem Rel.renew (h : Rel C M β s w) (kill : Option Nat) (d : Nat) (e : TypeId) (l' : List AV) (place : Option (Nat × Nat)) (row : Option Nat)
    (hd : ¬ s.used d ∨ (kill = some d ∧ place = β d))
    (hos : w'.os = w.os) (htape : w'.tape = w.tape) (hout : w'.output = w.output) (hsz : w.heap.size ≤ w'.heap.size)
    (hk : ∀ k, k < w.heap.size → some k ≠ row → w'.heap[k]? = w.heap[k]?)
    (hrow : ∀ b, row = some b → ∃ i e0 l0 n, kill = some i ∧ s.box i = some (.mut e0 l0) ∧ β i = some (b, n))
    (hnew : (place = none ∧ l' = []) ∨ ∃ g cur, place = some (g, cur.size) ∧ (∃ fz, w'.heap[g]? = some (.cells cur e fz) ∧ Free cur.size fz) ∧ RepAt M β l' cur 0 ∧ l'.length ≤ cur.size ∧ (w.heap.size ≤ g ∨ row = some g))
    (hr : ∀ j ∈ refsL l', s.used j) :
    Rel C M (upd β d place) { s with box := upd (killBox kill s.box) d (some (.mut e l')), used := fun i => i = d ∨ s.used i } w' ∧ ∀ id, s.used id → upd β d place id = β id := by
  have hβ : ∀ id, s.used id → upd β d place id = β id := by
    intro id hid
    by_cases he : id = d
    · subst he
      rcases hd with hd | ⟨_, hd⟩
      · exact absurd hid hd
      · simp [upd, hd]
    · simp [upd, he]
  have rowM : ∀ b, row = some b → M b = none ∧ (C.w0.heap.size ≤ b ∨ b ∈ C.ext) ∧ b < w.heap.size := by
    intro b hb
    obtain ⟨i, e0, l0, n, _, h2, h3⟩ := hrow b hb
    rcases h.mutb i e0 l0 h2 with ⟨hn, _⟩ | ⟨b', cs, k1, ⟨fz, k2, _⟩, _, _, k5, k6⟩
    · rw [hn] at h3; cases h3
    · rw [k1] at h3; cases h3; exact ⟨k5, k6, heap_lt k2⟩
  have usedOf : ∀ i x, s.box i = some x → s.used i := fun i x hx => h.useB i (by rw [hx]; simp)
  refine ⟨⟨?_, h.le, h.mnew, ?_, ?_, ?_, ?_, ?_, ?_, hos.trans h.os, htape.trans h.tape, hout.trans h.output, Nat.le_trans h.size hsz, ?_, fun i hi => ⟨.inr (h.pin i hi).1, (hβ i (h.pin i hi).1).trans (h.pin i hi).2⟩⟩, hβ⟩
  · intro b cs hb
    obtain ⟨ty, fz, hh⟩ := h.mem b cs hb
    refine ⟨ty, fz, ?_⟩
    rw [hk b (heap_lt hh) (fun he => by rw [(rowM b he.symm).1] at hb; cases hb)]
    exact hh
  · intro id e1 l1 h1 j hj
    simp only [upd] at h1
    split at h1
    · simp at h1; obtain ⟨rfl, rfl⟩ := h1; exact Or.inr (hr j hj)
    · exact Or.inr (h.refB id e1 l1 (killBox_some h1).2 j hj)
  · intro id h1
    by_cases he : id = d
    · subst he; exact Or.inl rfl
    · simp only [upd, he, if_false] at h1
      refine Or.inr (h.useB id ?_)
      intro h0
      apply h1
      cases kill with
      | none => exact h0
      | some i => simp only [killBox, upd]; split <;> first | rfl | exact h0
  · intro id e1 l1 h1
    by_cases he : id = d
    · subst he
      simp only [upd, if_true] at h1
      simp at h1
      obtain ⟨rfl, rfl⟩ := h1
      rcases hnew with ⟨hp, hl⟩ | ⟨g, cur, hp, hh, hrep, hlen, hg⟩
      · exact .inl ⟨by simp [upd, hp], hl⟩
      · refine .inr ⟨g, cur, by simp [upd, hp], hh, RepAt.mono (MemLe.refl M) _ _ _ (fun j hj => hβ j (hr j hj)) hrep, hlen, ?_, ?_⟩
        · rcases hg with hg | hg
          · exact h.notnew hg
          · exact (rowM g hg).1
        · rcases hg with hg | hg
          · exact .inl (Nat.le_trans h.size hg)
          · exact (rowM g hg).2.1
    · simp only [upd, he, if_false] at h1
      obtain ⟨hki, hb⟩ := killBox_some h1
      have hu := usedOf id _ hb
      rcases h.mutb id e1 l1 hb with ⟨hn, hl⟩ | ⟨b, cs, k1, ⟨fz, k2, kf⟩, k3, k4, k5, k6⟩
      · exact .inl ⟨by rw [hβ id hu]; exact hn, hl⟩
      · refine .inr ⟨b, cs, by rw [hβ id hu]; exact k1, ⟨fz, ?_, kf⟩, RepAt.mono (MemLe.refl M) _ _ _ (fun j hj => hβ j (h.refB id e1 l1 hb j hj)) k3, k4, k5, k6⟩
        rw [hk b (heap_lt k2) ?_]
        · exact k2
        · intro he2
          obtain ⟨i, e0, l0, n, j1, j2, j3⟩ := hrow b he2.symm
          exact hki (by rw [j1, h.inj i id e0 e1 l0 l1 b n cs.size j2 hb j3 k1])
  · intro id l1 h1
    by_cases he : id = d
    · subst he; simp [upd] at h1
    · simp only [upd, he, if_false] at h1
      obtain ⟨_, hb⟩ := killBox_some h1
      have hu := usedOf id _ hb
      rcases h.frzb id l1 hb with ⟨hn, hl⟩ | ⟨b, cs, k1, k2, k3⟩
      · exact .inl ⟨by rw [hβ id hu]; exact hn, hl⟩
      · exact .inr ⟨b, cs, by rw [hβ id hu]; exact k1, k2, k3⟩
  · intro id l1 h1
    by_cases he : id = d
    · subst he; simp [upd] at h1
    · simp only [upd, he, if_false] at h1
      exact h.frzr id l1 (killBox_some h1).2
  · -- no two boxes share a block
    have key : ∀ j e1 l1 b n, killBox kill s.box j = some (.mut e1 l1) → β j = some (b, n) → ∀ g cur, place = some (g, cur) → w'.heap.size = w'.heap.size → (w.heap.size ≤ g ∨ row = some g) → b ≠ g := by
      intro j e1 l1 b n h1 h2 g cur _ _ hg he
      subst he
      obtain ⟨hki, hb⟩ := killBox_some h1
      rcases h.mutb j e1 l1 hb with ⟨hn, _⟩ | ⟨b', cs, k1, ⟨fz, k2, _⟩, _⟩
      · rw [hn] at h2; cases h2
      · rw [k1] at h2; cases h2
        rcases hg with hg | hg
        · have := heap_lt k2; omega
        · obtain ⟨i, e0, l0, n', j1, j2, j3⟩ := hrow _ hg
          exact hki (by rw [j1, h.inj i j e0 e1 l0 l1 _ n' cs.size j2 hb j3 k1])
    intro i j e1 e2 l1 l2 b n n' hi hj hbi hbj
    by_cases hid : i = d <;> by_cases hjd : j = d
    · rw [hid, hjd]
    · exfalso
      subst hid
      simp only [upd, hjd, if_false] at hj hbj
      simp only [upd, if_true] at hbi
      rcases hnew with ⟨hp, _⟩ | ⟨g, cur, hp, _, _, _, hg⟩
      · rw [hp] at hbi; cases hbi
      · rw [hp] at hbi; cases hbi
        exact key j e2 l2 b n' hj hbj b _ hp rfl hg rfl
    · exfalso
      subst hjd
      simp only [upd, hid, if_false] at hi hbi
      simp only [upd, if_true] at hbj
      rcases hnew with ⟨hp, _⟩ | ⟨g, cur, hp, _, _, _, hg⟩
      · rw [hp] at hbj; cases hbj
      · rw [hp] at hbj; cases hbj
        exact key i e1 l1 b n hi hbi b _ hp rfl hg rfl
    · simp only [upd, hid, hjd, if_false] at hi hj hbi hbj
      exact h.inj i j e1 e2 l1 l2 b n n' (killBox_some hi).2 (killBox_some hj).2 hbi hbj
  · intro b hb hne
    rw [hk b (Nat.lt_of_lt_of_le hb h.size) ?_]
    · exact h.keep b hb hne
    · intro he
      have := (rowM b he.symm).2.1
      rcases this with h1 | h1
      · omega
      · exact hne h1
theorem Rel.alloc (h : Rel C M β s w) {d : Nat} (hd : ¬ s.used d) {e : TypeId} {cs : Array Value} {l : List AV} (hl : RepAt M β l cs 0) (hlen : l.length ≤ cs.size)
    (hr : ∀ j ∈ refsL l, s.used j) :
    Rel C M (upd β d (some (w.heap.size, cs.size))) { s with box := upd s.box d (some (.mut e l)), used := fun i => i = d ∨ s.used i } (w.alloc (.cells cs e)) ∧
      ∀ id, s.used id → upd β d (some (w.heap.size, cs.size)) id = β id :=
  h.renew (w' := w.alloc (.cells cs e)) none d e l (some (w.heap.size, cs.size)) none (.inl hd) rfl rfl rfl (by simp) (fun k hk _ => Below.heap_alloc w _ k hk) (fun b hb => by cases hb)
    (.inr ⟨w.heap.size, cs, rfl, ⟨(0, 0), heap_alloc_new w _, Free.zero _⟩, hl, hlen, .inl (Nat.le_refl _)⟩) hr
theorem Rel.draw (h : Rel C M β s w) (hh : w'.heap = w.heap) (hos : w'.os = w.os) (htape : w'.tape = w.tape) (hout : w'.output = w.output) : Rel C M β s w' :=
  ⟨by rw [hh]; exact h.mem, h.le, h.mnew, h.refB, h.useB, by unfold MutOk; rw [hh]; exact h.mutb, h.frzb, h.frzr, h.inj, hos.trans h.os, htape.trans h.tape, hout.trans h.output, by rw [hh]; exact h.size, by rw [hh]; exact h.keep, h.pin⟩
theorem Rel.less (h : Rel C M β s w) {box' : Nat → Option Box} {used' : Nat → Prop} (hb : ∀ i x, box' i = some x → s.box i = some x) (hu : ∀ i x, box' i = some x → used' i)
    (hr : ∀ i e l, box' i = some (.mut e l) → ∀ j ∈ refsL l, used' j) (hpn : ∀ i, 1000000 ≤ i → used' i) (env' : Nat → AV) : Rel C M β ⟨env', box', used'⟩ w :=
  ⟨h.mem, h.le, h.mnew, fun i e l hi => hr i e l hi, fun i hi => by
      cases hx : box' i with
      | none => exact absurd hx hi
      | some x => exact hu i x hx,
    fun i e l hi => h.mutb i e l (hb i _ hi), fun i l hi => h.frzb i l (hb i _ hi), fun i l hi => h.frzr i l (hb i _ hi),
    fun i j e e' l l' b n n' hi hj => h.inj i j e e' l l' b n n' (hb i _ hi) (hb j _ hj), h.os, h.tape, h.output, h.size, h.keep, fun i hi => ⟨hpn i hi, (h.pin i hi).2⟩⟩
theorem Rel.freeze (h : Rel C M β s w) {id : Nat} {e : TypeId} {l : List AV} (hb : s.box id = some (.mut e l)) (hr : refsL l = []) :
    ∃ M', MemLe M M' ∧ Rel C M' β { s with box := upd s.box id (some (.frz l)) } w := by
  rcases h.mutb id e l hb with ⟨hn, hl⟩ | ⟨b, cs, k1, ⟨fz0, k2, _⟩, k3, k4, k5, k6⟩
  · refine ⟨M, MemLe.refl M, ⟨h.mem, h.le, h.mnew, ?_, ?_, ?_, ?_, ?_, ?_, h.os, h.tape, h.output, h.size, h.keep, h.pin⟩⟩
    · intro i e1 l1 hi; simp only [upd] at hi; split at hi
      · cases hi
      · exact h.refB i e1 l1 hi
    · intro i hi; simp only [upd] at hi; split at hi
      · rename_i he; subst he; exact h.useB i (by rw [hb]; simp)
      · exact h.useB i hi
    · intro i e1 l1 hi; simp only [upd] at hi; split at hi
      · cases hi
      · exact h.mutb i e1 l1 hi
    · intro i l1 hi; simp only [upd] at hi; split at hi
      · rename_i he; subst he; simp at hi; subst hi; exact .inl ⟨hn, hl⟩
      · exact h.frzb i l1 hi
    · intro i l1 hi; simp only [upd] at hi; split at hi
      · simp at hi; subst hi; exact hr
      · exact h.frzr i l1 hi
    · intro i j e1 e2 l1 l2 b n n' hi hj
      simp only [upd] at hi hj
      split at hi
      · cases hi
      · split at hj
        · cases hj
        · exact h.inj i j e1 e2 l1 l2 b n n' hi hj
  · have hM : MemLe M (upd M b (some cs)) := by
      intro b' cs' hb'
      by_cases he : b' = b
      · subst he; rw [k5] at hb'; cases hb'
      · simp [upd, he, hb']
    refine ⟨upd M b (some cs), hM, ⟨?_, h.le.trans hM, ?_, ?_, ?_, ?_, ?_, ?_, ?_, h.os, h.tape, h.output, h.size, h.keep, h.pin⟩⟩
    · intro b' cs' hb'
      simp only [upd] at hb'
      split at hb'
      · rename_i he; subst he; cases hb'; exact ⟨_, _, k2⟩
      · exact h.mem b' cs' hb'
    · intro b' hb'
      simp only [upd] at hb'
      split at hb'
      · rename_i he; subst he; exact k6
      · exact h.mnew b' hb'
    · intro i e1 l1 hi; simp only [upd] at hi; split at hi
      · cases hi
      · exact h.refB i e1 l1 hi
    · intro i hi; simp only [upd] at hi; split at hi
      · rename_i he; subst he; exact h.useB i (by rw [hb]; simp)
      · exact h.useB i hi
    · intro i e1 l1 hi; simp only [upd] at hi; split at hi
      · cases hi
      · rename_i hne
        rcases h.mutb i e1 l1 hi with ⟨j1, j2⟩ | ⟨b', cs', j1, j2, j3, j4, j5, j6⟩
        · exact .inl ⟨j1, j2⟩
        · have hbb : b' ≠ b := fun hx => by subst hx; exact hne (h.inj i id e1 e l1 l b' _ _ hi hb j1 k1)
          exact .inr ⟨b', cs', j1, j2, RepAt.mono hM _ _ _ (fun _ _ => rfl) j3, j4, by simp [upd, hbb, j5], j6⟩
    · intro i l1 hi; simp only [upd] at hi; split at hi
      · rename_i he; subst he; simp at hi; subst hi
        exact .inr ⟨b, cs, k1, by simp [upd], RepAt.mono hM _ _ _ (fun j hj => by rw [hr] at hj; cases hj) k3, k4⟩
      · rcases h.frzb i l1 hi with ⟨j1, j2⟩ | ⟨b', cs', j1, j2, j3, j4⟩
        · exact .inl ⟨j1, j2⟩
        · exact .inr ⟨b', cs', j1, hM b' cs' j2, RepAt.mono hM _ _ _ (fun _ _ => rfl) j3, j4⟩
    · intro i l1 hi; simp only [upd] at hi; split at hi
      · simp at hi; subst hi; exact hr
      · exact h.frzr i l1 hi
    · intro i j e1 e2 l1 l2 b n n' hi hj
      simp only [upd] at hi hj
      split at hi
      · cases hi
      · split at hj
        · cases hj
        · exact h.inj i j e1 e2 l1 l2 b n n' hi hj
end
end Go.Fw
namespace Go.Fw
open Go Go.RowKit
def AV.isCell : AV → Bool
  | .agg _ | .tup _ | .own _ _ _ _ | .junk => false
  | _ => true
def AV.cells? : AV → Option (List AV)
  | .agg l => some l
  | a => if a.isCell then some [a] else none
def ofVal : Value → AV
  | .agg cs => if cs.toList.all (·.oneCell') then .agg (cs.toList.map .v) else .junk
  | .tuple cs => if cs.size = 0 then .tup [] else .junk
  | x => .v x
def resB (box : Nat → Option Box) : AV → AV
  | .bs id z off n => match box id with
    | some (.frz l) => if off + n * z ≤ l.length then .slc false z n ((l.drop off).take (n * z)) else .junk
    | _ => .bs id z off n
  | .bp id off => match box id with
    | some (.frz l) => .ip (l.drop off)
    | _ => .bp id off
  | a => a
def AS.val (s : AS) : Operand → AV
  | .tmp t => resB s.box (s.env t)
  | .const c => ofVal c
  | .func f => .fn f []
  | .global _ => .junk
section
variable {C : Ctx} {M : Mem} {β : Loc} {s : AS} {w : World} {nt : NT} {a : Act}
structure Ok (M : Mem) (β : Loc) (s : AS) (v : AV) (x : Value) : Prop where
  rep : Rep M β v x
  ref : ∀ id ∈ v.refs, s.used id
theorem refsL_map_v (l : List Value) : refsL (l.map .v) = [] := by
  induction l with
  | nil => rfl
  | cons a l ih => simp [refsL, AV.refs, ih]
theorem mem_refsL {l : List AV} {j : Nat} : j ∈ refsL l ↔ ∃ a ∈ l, j ∈ a.refs := by
  induction l with
  | nil => simp [refsL]
  | cons a l ih => simp [refsL, ih]
theorem refsL_sub {l l' : List AV} (h : ∀ a ∈ l', a ∈ l) {j : Nat} (hj : j ∈ refsL l') : j ∈ refsL l := by
  rw [mem_refsL] at *
  obtain ⟨a, ha, hj⟩ := hj
  exact ⟨a, h a ha, hj⟩
theorem refsL_nil_sub {l l' : List AV} (h : ∀ a ∈ l', a ∈ l) (hl : refsL l = []) : refsL l' = [] := by
  rw [List.eq_nil_iff_forall_not_mem]
  intro j hj
  have := refsL_sub h hj
  rw [hl] at this
  cases this
theorem oneCell_of_cell {M : Mem} {β : Loc} {v : AV} {x : Value} (hc : v.isCell = true) (h : Rep M β v x) : x.oneCell' = true := by
  cases v <;> simp only [AV.isCell] at hc <;> simp only [Rep] at h
  case v y => obtain ⟨rfl, h⟩ := h; exact h
  case slc => obtain ⟨_, _, rfl, _⟩ := h; rfl
  case ip => obtain ⟨_, _, _, rfl, _⟩ := h; rfl
  case bp => obtain ⟨_, _, _, rfl⟩ := h; rfl
  case bs => obtain ⟨_, _, rfl, _⟩ := h; rfl
  case fn => obtain ⟨_, rfl, _⟩ := h; rfl
  case unk => obtain ⟨_, rfl⟩ := h; rfl
  all_goals cases hc
theorem cells_one {x : Value} (h : x.oneCell' = true) : x.cells = #[x] := by
  cases x <;> first | rfl | (simp [Value.oneCell'] at h)
theorem repAt_v (l : List Value) (h : l.all (·.oneCell') = true) : RepAt M β (l.map .v) l.toArray 0 := by
  rw [RepAt.iff]
  intro i a ha
  rw [List.getElem?_map] at ha
  cases hl : l[i]? with
  | none => rw [hl] at ha; cases ha
  | some y =>
    rw [hl] at ha
    simp at ha
    subst ha
    have h1 : y.oneCell' = true := List.all_eq_true.1 h y (List.mem_of_getElem? hl)
    exact ⟨y, by simpa using hl, h1, rfl, h1⟩
theorem ofVal_ok (c : Value) : Ok M β s (ofVal c) c := by
  cases c <;> simp only [ofVal]
  case agg cs =>
    split
    · rename_i h
      refine ⟨⟨cs, rfl, by simp, ?_⟩, by simp [AV.refs, refsL_map_v]⟩
      have := repAt_v (M := M) (β := β) cs.toList h
      simpa using this
    · exact ⟨trivial, by simp [AV.refs]⟩
  case tuple cs =>
    split
    · rename_i h; exact ⟨⟨cs, rfl, by simpa using h, trivial⟩, by simp [AV.refs, refsL]⟩
    · exact ⟨trivial, by simp [AV.refs]⟩
  all_goals exact ⟨⟨rfl, rfl⟩, by simp [AV.refs]⟩
theorem resB_ok (h : Rel C M β s w) {v : AV} {x : Value} (hv : Ok M β s v x) : Ok M β s (resB s.box v) x := by
  cases v <;> simp only [resB] <;> try exact hv
  case bs id z off n =>
    split
    · rename_i l hb
      split
      · rename_i hle
        obtain ⟨a, cap, rfl, h1, h2, h3⟩ := hv.rep
        have hf := h.frzb id l hb
        refine ⟨⟨a, cap, rfl, by simp; omega, h1, h2, by simp, ?_, fun hn => ?_⟩, by simp [AV.refs]⟩
        · rcases hf with ⟨_, rfl⟩ | ⟨b, cs, _, _, h5, _⟩
          · simp [refsL]
          · have hr : refsL l = [] := by
              have := h.frzr id l hb
              exact this
            exact refsL_nil_sub (fun a ha => List.mem_of_mem_drop (List.mem_of_mem_take ha)) hr
        · obtain ⟨b, sz, k1, k2, _⟩ := h3 (by omega)
          rcases hf with ⟨hn', _⟩ | ⟨b', cs, k3, k4, k5, _⟩
          · rw [hn'] at k1; cases k1
          · rw [k3] at k1; cases k1
            exact ⟨b, off, cs, k2, k4, by have := (k5.drop off).take (n * z); simpa using this⟩
      · exact ⟨trivial, by simp [AV.refs]⟩
    · exact hv
  case bp id off =>
    split
    · rename_i l hb
      obtain ⟨b, sz, k1, rfl⟩ := hv.rep
      rcases h.frzb id l hb with ⟨hn', _⟩ | ⟨b', cs, k3, k4, k5, _⟩
      · rw [hn'] at k1; cases k1
      · rw [k3] at k1; cases k1
        exact ⟨⟨b, off, cs, rfl, k4, refsL_nil_sub (fun a ha => List.mem_of_mem_drop ha) (h.frzr id l hb), by have := k5.drop off; simpa using this⟩, by simp [AV.refs]⟩
    · exact hv
theorem val_ok (h : Rel C M β s w) (hs : Slots nt M β s a) (o : Operand) : Ok M β s (s.val o) (a.eval o) := by
  cases o with
  | tmp t => exact resB_ok h ⟨hs.slot t, hs.refE t⟩
  | const c => exact ofVal_ok c
  | func f => exact ⟨⟨#[], rfl, rfl, trivial⟩, by simp [AS.val, AV.refs, refsL]⟩
  | global g => exact ⟨trivial, by simp [AS.val, AV.refs]⟩
end
end Go.Fw
namespace Go.Fw
open Go Go.RowKit
def szP (P : Program) (t : TypeId) : Option Nat := (P.info? t).map (·.size)
def isAggD : TypeDesc → Bool
  | .struct _ | .array _ _ => true
  | _ => false
def aggP (P : Program) (t : TypeId) : Option Bool := (P.underlying t).map isAggD
def elemP (P : Program) (t : TypeId) : Option TypeId := match P.underlying t with
  | some (.slice e) => some e
  | _ => none
def arrP (P : Program) (t : TypeId) : Option (Nat × TypeId) := match P.underlying t with
  | some (.array n e) => some (n, e)
  | _ => none
def intP (P : Program) (t : TypeId) : Option IntKind := match P.underlying t with
  | some (.int k) => some k
  | _ => none
def strP (P : Program) (t : TypeId) : Bool := match P.underlying t with
  | some .string => true
  | _ => false
def fieldP (P : Program) (t : TypeId) (f : Nat) : Option (Nat × TypeId) := match P.underlying t with
  | some (.struct fs) => (fs[f]?).map fun d => (d.offset, d.type)
  | _ => none
theorem szP_spec {P : Program} {t n : Nat} (h : szP P t = some n) (w : World) : (sizeOf t).run P w = .ok n w := by
  unfold szP at h
  cases hi : P.info? t with
  | none => simp [hi] at h
  | some i => simp [hi] at h; subst h; simp [sizeOf, typeInfo, hi]
theorem aggP_spec {P : Program} {t : Nat} {b : Bool} (h : aggP P t = some b) (w : World) : (isAgg t).run P w = .ok b w := by
  unfold aggP at h
  cases hi : P.underlying t with
  | none => simp [hi] at h
  | some d =>
    simp [hi] at h
    subst h
    cases d <;> simp [isAgg, run_underlying hi, isAggD]
theorem elemP_spec {P : Program} {t e : Nat} (h : elemP P t = some e) : P.underlying t = some (.slice e) := by
  unfold elemP at h
  split at h
  · rename_i hu; cases h; exact hu
  · cases h
theorem arrP_spec {P : Program} {t n e : Nat} (h : arrP P t = some (n, e)) : P.underlying t = some (.array n e) := by
  unfold arrP at h
  split at h
  · rename_i hu; cases h; exact hu
  · cases h
theorem intP_spec {P : Program} {t : Nat} {k : IntKind} (h : intP P t = some k) : P.underlying t = some (.int k) := by
  unfold intP at h
  split at h
  · rename_i hu; cases h; exact hu
  · cases h
theorem strP_spec {P : Program} {t : Nat} (h : strP P t = true) : P.underlying t = some .string := by
  unfold strP at h
  split at h
  · rename_i hu; exact hu
  · cases h
theorem fieldP_spec {P : Program} {t f o : Nat} {ft : TypeId} (h : fieldP P t f = some (o, ft)) : ∃ fs fd, P.underlying t = some (.struct fs) ∧ fs[f]? = some fd ∧ fd.offset = o ∧ fd.type = ft := by
  unfold fieldP at h
  split at h
  · rename_i fs hu
    cases hf : fs[f]? with
    | none => simp [hf] at h
    | some fd => simp [hf] at h; exact ⟨fs, fd, hu, hf, h.1, h.2⟩
  · cases h
def partAV (P : Program) (t : TypeId) (l : List AV) : Option AV :=
  match aggP P t, szP P t with
  | some true, some n => if n ≤ l.length then some (.agg (l.take n)) else none
  | some false, some _ => l.head?
  | _, _ => none
def AS.mem (s : AS) : AV → Option (List AV)
  | .ip l => some l
  | .bp id off => match s.box id with
    | some (.mut _ l) => some (l.drop off)
    | _ => none
  | _ => none
def ptrAdd : AV → Nat → Option AV
  | .ip l, k => some (.ip (l.drop k))
  | .bp id off, k => some (.bp id (off + k))
  | _, _ => none
section
variable {P : Program} {C : Ctx} {M : Mem} {β : Loc} {s : AS} {w : World} {nt : NT} {a : Act}
theorem mem_ok (h : Rel C M β s w) {v : AV} {x : Value} (hv : Ok M β s v x) {l : List AV} (hl : s.mem v = some l) :
    ∃ b o cs ty fz, x = .pointer (some ⟨b, o, none⟩) ∧ w.heap[b]? = some (.cells cs ty fz) ∧ RepAt M β l cs o ∧ ∀ j ∈ refsL l, s.used j := by
  cases v <;> simp only [AS.mem] at hl <;> try (cases hl; done)
  case ip l' =>
    simp only [Option.some.injEq] at hl
    subst hl
    obtain ⟨b, o, cs, rfl, h1, h2, h3⟩ := hv.rep
    obtain ⟨ty, fz, hh⟩ := h.mem b cs h1
    exact ⟨b, o, cs, ty, fz, rfl, hh, RepAt.mono (MemLe.refl M) _ _ _ (fun j hj => by rw [h2] at hj; cases hj) h3, fun j hj => by rw [h2] at hj; cases hj⟩
  case bp id off =>
    obtain ⟨b, sz, k1, rfl⟩ := hv.rep
    split at hl
    · rename_i e l' hb
      simp only [Option.some.injEq] at hl
      subst hl
      rcases h.mutb id e l' hb with ⟨hn, _⟩ | ⟨b', cs, k2, ⟨fz, k3, _⟩, k4, _⟩
      · rw [hn] at k1; cases k1
      · rw [k2] at k1; cases k1
        exact ⟨b, off, cs, e, fz, rfl, k3, by have := k4.drop off; simpa using this, fun j hj => h.refB id e l' hb j (refsL_sub (fun a ha => List.mem_of_mem_drop ha) hj)⟩
    · cases hl
theorem head_ok {l : List AV} {cs : Array Value} {o : Nat} {v : AV} (h : RepAt M β l cs o) (hv : l.head? = some v) : ∃ y, cs[o]? = some y ∧ Rep M β v y := by
  cases l with
  | nil => cases hv
  | cons a l => simp at hv; subst hv; obtain ⟨⟨y, h1, _, h3⟩, _⟩ := h; exact ⟨y, h1, h3⟩
theorem cell_of {b o : Nat} {cs : Array Value} {ty : TypeId} {fz : Nat × Nat} {y : Value} (hh : w.heap[b]? = some (.cells cs ty fz)) (h : cs[o]? = some y) : w.cell? ⟨b, o, none⟩ = some y := by
  simp [World.cell?, hh, h]
theorem agg_ok {l : List AV} {cs : Array Value} {o n : Nat} (h : RepAt M β l cs o) (hn : n ≤ l.length) :
    ∃ ys : List Value, ys.length = n ∧ (∀ j y, ys[j]? = some y → cs[o + j]? = some y) ∧ Rep M β (.agg (l.take n)) (.agg ys.toArray) := by
  obtain ⟨ys, h1, h2, _, h4⟩ := (h.take n).cells
  have hlen : ys.length = n := by rw [h1, List.length_take]; omega
  exact ⟨ys, hlen, h2, ys.toArray, rfl, by simp [h1], h4⟩
theorem load_ok (h : Rel C M β s w) {v : AV} {x : Value} (hv : Ok M β s v x) {l : List AV} (hl : s.mem v = some l) {t : TypeId} {r : AV} (hr : partAV P t l = some r) :
    ∃ y, (Instr.loadAt t x).run P w = .ok y w ∧ Ok M β s r y := by
  obtain ⟨b, o, cs, ty, fz, rfl, hh, hrep, href⟩ := mem_ok h hv hl
  unfold partAV at hr
  split at hr
  · rename_i n ha hn
    split at hr
    · rename_i hle
      cases hr
      obtain ⟨ys, h1, h2, h3⟩ := agg_ok hrep hle
      have hld := run_loadCells_list (P := P) w ⟨b, o, none⟩ ys (fun j y hy => by rw [Addr.add_lit]; exact cell_of hh (h2 j y hy))
      rw [h1] at hld
      refine ⟨.agg ys.toArray, ?_, h3, fun id hid => href id (refsL_sub (fun a ha => List.mem_of_mem_take ha) (by simpa [AV.refs] using hid))⟩
      simp [Instr.loadAt, Instr.sureAddr, loadVar, aggP_spec ha, szP_spec hn, hld]
    · cases hr
  · rename_i n ha hn
    obtain ⟨y, h1, h2⟩ := head_ok hrep hr
    refine ⟨y, ?_, h2, fun id hid => href id (mem_refsL.2 ⟨r, List.mem_of_mem_head? hr, hid⟩)⟩
    simp [Instr.loadAt, Instr.sureAddr, loadVar, aggP_spec ha, cell_of hh h1]
  · cases hr
theorem part_ok {vs : Array Value} {l : List AV} (hvs : vs.size = l.length) (h : RepAt M β l vs 0) (href : ∀ j ∈ refsL l, s.used j) {t : TypeId} {o : Nat} {r : AV}
    (hr : partAV P t (l.drop o) = some r) : ∃ y, (part t vs o).run P w = .ok y w ∧ Ok M β s r y := by
  have hd := h.drop o
  simp only [Nat.zero_add] at hd
  unfold partAV at hr
  split at hr
  · rename_i n ha hn
    split at hr
    · rename_i hle
      cases hr
      refine ⟨.agg (vs.extract o (o + n)), by simp [part, aggP_spec ha, szP_spec hn], ⟨vs.extract o (o + n), rfl, ?_, ?_⟩, fun id hid => href id (refsL_sub (fun a ha => List.mem_of_mem_drop (List.mem_of_mem_take ha)) (by simpa [AV.refs] using hid))⟩
      · simp at hle ⊢; omega
      · refine (hd.take n).congr fun i hi => ?_
        simp at hi hle
        simp only [Nat.zero_add, Array.getElem?_extract]
        rw [if_pos (by omega)]
    · cases hr
  · rename_i n ha hn
    obtain ⟨y, h1, h2⟩ := head_ok hd hr
    refine ⟨y, by simp [part, aggP_spec ha, h1], h2, fun id hid => href id (mem_refsL.2 ⟨r, List.mem_of_mem_drop (List.mem_of_mem_head? hr), hid⟩)⟩
  · cases hr
theorem ptrAdd_ok {v r : AV} {x : Value} (hv : Ok M β s v x) {k : Nat} (hr : ptrAdd v k = some r) :
    ∃ b o, x = .pointer (some ⟨b, o, none⟩) ∧ Ok M β s r (.pointer (some ⟨b, o + k, none⟩)) := by
  cases v <;> simp only [ptrAdd] at hr <;> try (cases hr; done)
  case ip l =>
    cases hr
    obtain ⟨b, o, cs, rfl, h1, h2, h3⟩ := hv.rep
    exact ⟨b, o, rfl, ⟨b, o + k, cs, rfl, h1, refsL_nil_sub (fun a ha => List.mem_of_mem_drop ha) h2, h3.drop k⟩, by simp [AV.refs]⟩
  case bp id off =>
    cases hr
    obtain ⟨b, sz, k1, rfl⟩ := hv.rep
    exact ⟨b, off, rfl, ⟨b, sz, k1, rfl⟩, fun j hj => hv.ref j (by simpa [AV.refs] using hj)⟩
def evFieldAddr (P : Program) (t : TypeId) (v : AV) (f : Nat) : Option AV :=
  match fieldP P t f with
  | some (o, ft) => match szP P ft with
    | some n => if n = 0 then none else ptrAdd v o
    | none => none
  | none => none
theorem fieldAddr_ok {v r : AV} {x : Value} (hv : Ok M β s v x) {t : TypeId} {f : Nat} (hr : evFieldAddr P t v f = some r) :
    ∃ y, (Instr.fieldAt t x f).run P w = .ok y w ∧ Ok M β s r y := by
  unfold evFieldAddr at hr
  split at hr
  · rename_i o ft hf
    obtain ⟨fs, fd, hu, hfd, ho, hft⟩ := fieldP_spec hf
    split at hr
    · rename_i n hn
      split at hr
      · cases hr
      · rename_i hn0
        obtain ⟨b, o', rfl, hok⟩ := ptrAdd_ok hv hr
        refine ⟨_, ?_, hok⟩
        subst ho hft
        simp [Instr.fieldAt, run_underlying hu, hfd, Instr.sureAddr, fieldPlace, szP_spec hn, hn0, Addr.add_lit]
    · cases hr
  · cases hr
def evField (P : Program) (t : TypeId) (v : AV) (f : Nat) : Option AV :=
  match fieldP P t f, v with
  | some (o, ft), .agg l => partAV P ft (l.drop o)
  | _, _ => none
theorem field_ok {v r : AV} {x : Value} (hv : Ok M β s v x) {t : TypeId} {f : Nat} (hr : evField P t v f = some r) :
    ∃ y, (Instr.field t x f).run P w = .ok y w ∧ Ok M β s r y := by
  unfold evField at hr
  split at hr
  · rename_i o ft l hf
    obtain ⟨fs, fd, hu, hfd, ho, hft⟩ := fieldP_spec hf
    obtain ⟨vs, rfl, h1, h2⟩ := hv.rep
    obtain ⟨y, hy, hok⟩ := part_ok (P := P) (w := w) h1 h2 (fun j hj => hv.ref j (by simpa [AV.refs] using hj)) hr
    refine ⟨y, ?_, hok⟩
    subst ho hft
    simp [Instr.field, run_underlying hu, hfd, asAgg, hy]
  · cases hr
def evIndexAddr (P : Program) (t : TypeId) (v i : AV) : Option AV :=
  match i with
  | .v (.int _ k) =>
    match v with
    | .slc _ z n l => if (elemP P t).bind (szP P) = some z ∧ 0 ≤ k ∧ k < n then some (.ip ((l.drop (k.toNat * z)).take z)) else none
    | .bs id z off n => if (elemP P t).bind (szP P) = some z ∧ 0 ≤ k ∧ k < n then some (.bp id (off + k.toNat * z)) else none
    | .ip l => match arrP P t with
      | some (n, e) => match szP P e with
        | some z => if 0 ≤ k ∧ k < n then some (.ip ((l.drop (k.toNat * z)).take z)) else none
        | none => none
      | none => none
    | .bp id off => match arrP P t with
      | some (n, e) => match szP P e with
        | some z => if 0 ≤ k ∧ k < n then some (.bp id (off + k.toNat * z)) else none
        | none => none
      | none => none
    | _ => none
  | _ => none
theorem bind_szP {P : Program} {t z : Nat} (h : (elemP P t).bind (szP P) = some z) : ∃ e, P.underlying t = some (.slice e) ∧ szP P e = some z := by
  cases he : elemP P t with
  | none => simp [he] at h
  | some e => simp [he] at h; exact ⟨e, elemP_spec he, h⟩
theorem indexAddr_ok {v i r : AV} {x y : Value} (hv : Ok M β s v x) (hi : Ok M β s i y) {t : TypeId} (hr : evIndexAddr P t v i = some r) :
    ∃ u, (Instr.indexAt t x y).run P w = .ok u w ∧ Ok M β s r u := by
  unfold evIndexAddr at hr
  split at hr
  · rename_i kk k
    obtain ⟨rfl, _⟩ := hi.rep
    split at hr
    · rename_i z n l
      split at hr
      · rename_i hc
        obtain ⟨hz, hk0, hkn⟩ := hc
        cases hr
        obtain ⟨e, hu, hsz⟩ := bind_szP hz
        obtain ⟨ad, cap, rfl, h1, h2, h3, h4, h5, h6⟩ := hv.rep
        obtain ⟨b, o, cs, rfl, h7, h8⟩ := h6 (by omega)
        refine ⟨.pointer (some ⟨b, o + k.toNat * z, none⟩), ?_, ⟨b, o + k.toNat * z, cs, rfl, h7, ?_, ((h8.drop _).take z)⟩, by simp [AV.refs]⟩
        · simp [Instr.indexAt, asIntOf, run_underlying hu, hk0, hkn, szP_spec hsz, Addr.add_lit]
        · exact refsL_nil_sub (fun a ha => List.mem_of_mem_drop (List.mem_of_mem_take ha)) h5
      · cases hr
    · rename_i id z off n
      split at hr
      · rename_i hc
        obtain ⟨hz, hk0, hkn⟩ := hc
        cases hr
        obtain ⟨e, hu, hsz⟩ := bind_szP hz
        obtain ⟨ad, cap, rfl, h1, h2, h3⟩ := hv.rep
        obtain ⟨b, sz, h4, rfl, h5⟩ := h3 (by omega)
        refine ⟨.pointer (some ⟨b, off + k.toNat * z, none⟩), ?_, ⟨b, sz, h4, rfl⟩, fun j hj => hv.ref j (by simpa [AV.refs] using hj)⟩
        simp [Instr.indexAt, asIntOf, run_underlying hu, hk0, hkn, szP_spec hsz, Addr.add_lit]
      · cases hr
    · rename_i l
      split at hr
      · rename_i n e ha
        split at hr
        · rename_i z hz
          split at hr
          · rename_i hc
            cases hr
            obtain ⟨b, o, cs, rfl, h1, h2, h3⟩ := hv.rep
            have hu := arrP_spec ha
            refine ⟨.pointer (some ⟨b, o + k.toNat * z, none⟩), ?_, ⟨b, o + k.toNat * z, cs, rfl, h1, ?_, ((h3.drop _).take z)⟩, by simp [AV.refs]⟩
            · simp [Instr.indexAt, asIntOf, run_underlying hu, Instr.sureAddr, hc.1, hc.2, szP_spec hz, Addr.add_lit]
            · exact refsL_nil_sub (fun a ha => List.mem_of_mem_drop (List.mem_of_mem_take ha)) h2
          · cases hr
        · cases hr
      · cases hr
    · rename_i id off
      split at hr
      · rename_i n e ha
        split at hr
        · rename_i z hz
          split at hr
          · rename_i hc
            cases hr
            obtain ⟨b, sz, h1, rfl⟩ := hv.rep
            have hu := arrP_spec ha
            refine ⟨.pointer (some ⟨b, off + k.toNat * z, none⟩), ?_, ⟨b, sz, h1, rfl⟩, fun j hj => hv.ref j (by simpa [AV.refs] using hj)⟩
            simp [Instr.indexAt, asIntOf, run_underlying hu, Instr.sureAddr, hc.1, hc.2, szP_spec hz, Addr.add_lit]
          · cases hr
        · cases hr
      · cases hr
    · cases hr
  · cases hr
def evIndex (P : Program) (t : TypeId) (v i : AV) : Option AV :=
  match v, i with
  | .v (.string b), .v (.int _ k) => if strP P t = true then (if 0 ≤ k ∧ k < b.size then some (.v (.int .u8 (b.data.toList.getD k.toNat 0).toNat)) else none) else none
  | .agg l, .v (.int _ k) => match arrP P t with
    | some (n, e) => match szP P e with
      | some z => if 0 ≤ k ∧ k < n then partAV P e (l.drop (k.toNat * z)) else none
      | none => none
    | none => none
  | _, _ => none
theorem index_ok {v i r : AV} {x y : Value} (hv : Ok M β s v x) (hi : Ok M β s i y) {t : TypeId} (hr : evIndex P t v i = some r) :
    ∃ u, (Instr.index t x y).run P w = .ok u w ∧ Ok M β s r u := by
  unfold evIndex at hr
  split at hr
  · rename_i b kk k
    obtain ⟨rfl, _⟩ := hv.rep
    obtain ⟨rfl, _⟩ := hi.rep
    split at hr
    · rename_i hs
      split at hr
      · rename_i hc
        cases hr
        have hlt : k.toNat < b.data.size := by have := hc.2; show k.toNat < b.size; omega
        have hg : b[k.toNat]? = some b.data[k.toNat] := by
          rw [getElem?_pos b k.toNat hlt]; rfl
        refine ⟨.int .u8 b.data[k.toNat].toNat, ?_, ⟨?_, rfl⟩, by simp [AV.refs]⟩
        · simp [Instr.index, asIntOf, run_underlying (strP_spec hs), hc.1, hg]
        · simp [List.getD, Array.getElem?_eq_getElem hlt]
      · cases hr
    · cases hr
  · rename_i l kk k
    obtain ⟨rfl, _⟩ := hi.rep
    split at hr
    · rename_i n e ha
      split at hr
      · rename_i z hz
        split at hr
        · rename_i hc
          obtain ⟨vs, rfl, h1, h2⟩ := hv.rep
          obtain ⟨u, hu, hok⟩ := part_ok (P := P) (w := w) h1 h2 (fun j hj => hv.ref j (by simpa [AV.refs] using hj)) hr
          refine ⟨u, ?_, hok⟩
          simp [Instr.index, asIntOf, run_underlying (arrP_spec ha), hc.1, hc.2, szP_spec hz, hu]
        · cases hr
      · cases hr
    · cases hr
  · cases hr
end
end Go.Fw
namespace Go.Fw
open Go Go.RowKit
def bAnd (k : IntKind) (a b : Int) : Int := k.wrap (BitVec.ofInt k.bits a &&& BitVec.ofInt k.bits b).toNat
def bOr (k : IntKind) (a b : Int) : Int := k.wrap (BitVec.ofInt k.bits a ||| BitVec.ofInt k.bits b).toNat
def bXor (k : IntKind) (a b : Int) : Int := k.wrap (BitVec.ofInt k.bits a ^^^ BitVec.ofInt k.bits b).toNat
def bAndNot (k : IntKind) (a b : Int) : Int := k.wrap (BitVec.ofInt k.bits a &&& ~~~BitVec.ofInt k.bits b).toNat
def shlI (k : IntKind) (a b : Int) : Int := k.wrap (a * 2 ^ (min b.toNat k.bits))
def shrI (k : IntKind) (a b : Int) : Int := a.fdiv (2 ^ (min b.toNat k.bits))
def intBin (op : BinOp) (k : IntKind) (a b : Int) : Option Value :=
  match op with
  | .add => some (.int k (k.wrap (a + b)))
  | .sub => some (.int k (k.wrap (a - b)))
  | .mul => some (.int k (k.wrap (a * b)))
  | .quo => if b = 0 then none else some (.int k (k.wrap (a.tdiv b)))
  | .rem => if b = 0 then none else some (.int k (a.tmod b))
  | .and => some (.int k (bAnd k a b))
  | .or => some (.int k (bOr k a b))
  | .xor => some (.int k (bXor k a b))
  | .andNot => some (.int k (bAndNot k a b))
  | .eql => some (.bool (a == b))
  | .neq => some (.bool (a != b))
  | .lss => some (.bool (decide (a < b)))
  | .leq => some (.bool (decide (a ≤ b)))
  | .gtr => some (.bool (decide (b < a)))
  | .geq => some (.bool (decide (b ≤ a)))
  | _ => none
def strBin (op : BinOp) (a b : ByteArray) : Option Value :=
  match op with
  | .add => if a.size + b.size ≤ 9223372036854775807 then some (.string (a ++ b)) else none
  | .eql => some (.bool (a.data.toList == b.data.toList))
  | .neq => some (.bool !(a.data.toList == b.data.toList))
  | _ => none
def boolP (P : Program) (t : TypeId) : Bool := match P.underlying t with
  | some .bool => true
  | _ => false
def eqAt (P : Program) (e : TypeId) (x y : Value) : Option Bool :=
  match P.underlying e, x, y with
  | some (.int _), .int k a, .int k' b => if k = k' then some (a == b) else none
  | some .bool, .bool a, .bool b => some (a == b)
  | some .string, .string a, .string b => some (a.data.toList == b.data.toList)
  | _, _, _ => none
def eqFieldsA (P : Program) (l l' : List AV) : List Field → Option Bool
  | [] => some true
  | f :: fs => if f.name = "_" then none else
    match l[f.offset]?, l'[f.offset]?, aggP P f.type with
    | some (.v x), some (.v y), some false => match eqAt P f.type x y, eqFieldsA P l l' fs with
      | some b, some r => some (b && r)
      | _, _ => none
    | _, _, _ => none
def eqItemsA (P : Program) (e : TypeId) (l l' : List AV) : List Nat → Option Bool
  | [] => some true
  | i :: is =>
    match l[i]?, l'[i]?, aggP P e with
    | some (.v x), some (.v y), some false => match eqAt P e x y, eqItemsA P e l l' is with
      | some b, some r => some (b && r)
      | _, _ => none
    | _, _, _ => none
def aggEq (P : Program) (t : TypeId) (l l' : List AV) : Option Bool :=
  if P.eqGuardType P.depth t = true then none else
  match P.underlying t with
  | some (.struct fs) => if P.stoodInHeld t = true then none else eqFieldsA P l l' fs.toList
  | some (.array n e) => if szP P e = some 1 then eqItemsA P e l l' (List.range n) else none
  | _ => none
def evBin (P : Program) (op : BinOp) (t : TypeId) (x y : AV) : Option AV :=
  match x, y with
  | .v (.int k a), .v (.int k' b) =>
    match op with
    | .shl => if b < 0 then none else some (.v (.int k (shlI k a b)))
    | .shr => if b < 0 then none else some (.v (.int k (shrI k a b)))
    | op => if k = k' then (intBin op k a b).map .v else none
  | .v (.string a), .v (.string b) => (strBin op a b).map .v
  | .v (.bool a), .v (.bool b) => if boolP P t = true then (match op with
    | .eql => some (.v (.bool (a == b)))
    | .neq => some (.v (.bool (!(a == b))))
    | _ => none) else none
  | .agg l, .agg l' => match op with
    | .eql => (aggEq P t l l').map fun b => .v (.bool b)
    | .neq => (aggEq P t l l').map fun b => .v (.bool (!b))
    | _ => none
  | .slc _ _ n _, .v (.slice none 0 0) => if (elemP P t).isSome = true then (match op with
    | .eql => some (if 0 < n then .v (.bool false) else .unk)
    | .neq => some (if 0 < n then .v (.bool true) else .unk)
    | _ => none) else none
  | .bs _ _ _ n, .v (.slice none 0 0) => if (elemP P t).isSome = true then (match op with
    | .eql => some (if 0 < n then .v (.bool false) else .unk)
    | .neq => some (if 0 < n then .v (.bool true) else .unk)
    | _ => none) else none
  | .v (.slice none 0 0), .v (.slice none 0 0) => if (elemP P t).isSome = true then (match op with
    | .eql => some (.v (.bool true))
    | .neq => some (.v (.bool false))
    | _ => none) else none
  | _, _ => none
def evUn (op : UnOp) (x : AV) : Option AV :=
  match op, x with
  | .neg, .v (.int k n) => some (.v (.int k (k.wrap (0 - n))))
  | .not, .v (.bool b) => some (.v (.bool (!b)))
  | .xor, .v (.int k n) => some (.v (.int k (k.wrap (BitVec.ofInt k.bits (if k.signed then -1 else k.max) ^^^ BitVec.ofInt k.bits n).toNat)))
  | _, _ => none
section
variable {P : Program} {C : Ctx} {M : Mem} {β : Loc} {s : AS} {w : World} {nt : NT} {a : Act}
theorem intBin_ok {op : BinOp} {k : IntKind} {a b : Int} {r : Value} (t : TypeId) (hr : intBin op k a b = some r) :
    (binOp op t (.int k a) (.int k b)).run P w = .ok r w ∧ r.oneCell' = true := by
  cases op <;> simp only [intBin] at hr <;> try (cases hr; done)
  case quo => split at hr <;> cases hr; rename_i h0; simp [binOp, Op.intDiv, h0, Value.oneCell']
  case rem => split at hr <;> cases hr; rename_i h0; simp [binOp, Op.intDiv, h0, Value.oneCell']
  all_goals (cases hr; simp [binOp, Op.intArith, Op.intBits, Op.intCmp, Value.oneCell', bAnd, bOr, bXor, bAndNot])
theorem strBin_ok {op : BinOp} {a b : ByteArray} {r : Value} (t : TypeId) (hr : strBin op a b = some r) :
    (binOp op t (.string a) (.string b)).run P w = .ok r w ∧ r.oneCell' = true := by
  cases op <;> simp only [strBin] at hr <;> try (cases hr; done)
  case add =>
    split at hr <;> cases hr
    rename_i h0
    have : ¬ (9223372036854775807 : Int) < ((a.size : Int) + (b.size : Int)) := by omega
    simp [binOp, Op.stringOp, IntKind.max, IntKind.signed, IntKind.bits, this, Value.oneCell']
  all_goals (cases hr; simp [binOp, Op.stringOp, ByteArray.toList_eq, Value.oneCell'])
theorem eqAt_ok {e : TypeId} {x y : Value} {b : Bool} (d : Nat) (hr : eqAt P e x y = some b) : (Op.equalIn (d + 1) e x y).run P w = .ok b w := by
  unfold eqAt at hr
  split at hr
  · rename_i k' k a k2 b' hu
    split at hr <;> cases hr
    rename_i hk
    subst hk
    exact run_equalIn_int w d e k k' a b' hu
  · rename_i a b' hu
    cases hr
    exact run_equalIn_bool' w d e a b' hu
  · rename_i a b' hu
    cases hr
    rw [run_equalIn_string w d e a b' hu, ByteArray.toList_eq, ByteArray.toList_eq]
  · cases hr
theorem rep_v_at {l : List AV} {vs : Array Value} (h : RepAt M β l vs 0) {i : Nat} {x : Value} (hi : l[i]? = some (.v x)) : vs[i]? = some x := by
  obtain ⟨y, h1, _, h3⟩ := (RepAt.iff l vs 0).1 h i _ hi
  simp only [Nat.zero_add] at h1
  rw [h1, h3.1]
theorem eqFieldsA_ok {l l' : List AV} {vs vs' : Array Value} (h : RepAt M β l vs 0) (h' : RepAt M β l' vs' 0) (d : Nat) : ∀ (fs : List Field) (b : Bool), eqFieldsA P l l' fs = some b →
    (Op.eqFields (d + 1) vs vs' fs).run P w = .ok b w
  | [], b, hr => by simp [eqFieldsA] at hr; subst hr; simp [Op.eqFields]
  | f :: fs, b, hr => by
    simp only [eqFieldsA] at hr
    split at hr
    · cases hr
    · rename_i hn
      split at hr
      · rename_i x y hx hy ha
        split at hr
        · rename_i b1 r1 he hf
          cases hr
          have ih := eqFieldsA_ok h h' d fs r1 hf
          have e1 : (part f.type vs f.offset).run P w = .ok x w := by simp [part, aggP_spec ha, rep_v_at h hx]
          have e2 : (part f.type vs' f.offset).run P w = .ok y w := by simp [part, aggP_spec ha, rep_v_at h' hy]
          simp only [Op.eqFields]
          rw [if_pos (by simpa using hn)]
          simp only [Sem.run_bind, e1, e2, Result.andThen_ok, eqAt_ok d he]
          cases b1 <;> simp [ih]
        · cases hr
      · cases hr
theorem eqItemsA_ok {e : TypeId} {l l' : List AV} {vs vs' : Array Value} (h : RepAt M β l vs 0) (h' : RepAt M β l' vs' 0) (d : Nat) : ∀ (is : List Nat) (b : Bool), eqItemsA P e l l' is = some b →
    (Op.eqItems (d + 1) e 1 vs vs' is).run P w = .ok b w
  | [], b, hr => by simp [eqItemsA] at hr; subst hr; simp [Op.eqItems]
  | i :: is, b, hr => by
    simp only [eqItemsA] at hr
    split at hr
    · rename_i x y hx hy ha
      split at hr
      · rename_i b1 r1 he hf
        cases hr
        have ih := eqItemsA_ok h h' d is r1 hf
        have e1 : (part e vs (i * 1)).run P w = .ok x w := by simp [part, aggP_spec ha, rep_v_at h hx]
        have e2 : (part e vs' (i * 1)).run P w = .ok y w := by simp [part, aggP_spec ha, rep_v_at h' hy]
        simp only [Op.eqItems, Sem.run_bind, e1, e2, Result.andThen_ok, eqAt_ok d he]
        cases b1 <;> simp [ih]
      · cases hr
    · cases hr
theorem aggEq_ok {t : TypeId} {l l' : List AV} {vs vs' : Array Value} (h : RepAt M β l vs 0) (h' : RepAt M β l' vs' 0) {b : Bool} (hr : aggEq P t l l' = some b) :
    P.eqGuardType P.depth t = false ∧ (Op.equalIn 10000 t (.agg vs) (.agg vs')).run P w = .ok b w := by
  unfold aggEq at hr
  split at hr
  · cases hr
  · rename_i hg
    refine ⟨by simpa using hg, ?_⟩
    split at hr
    · rename_i fs hu
      split at hr
      · cases hr
      · rename_i hp
        have hf : P.fieldsOf t = fs := by simp [Program.fieldsOf, hu]
        rw [run_equalIn_struct w 9999 t vs vs' (by rw [hf]; exact hu) (by simpa using hp), hf]
        exact eqFieldsA_ok h h' 9998 _ _ hr
    · rename_i n e hu
      split at hr
      · rename_i hz
        unfold szP at hz
        cases hi : P.info? e with
        | none => simp [hi] at hz
        | some i =>
          simp [hi] at hz
          have hc : P.cellsOf e = 1 := by simp [Program.cellsOf, hi, hz]
          rw [run_equalIn_array w 9999 vs vs' hu hi, hc]
          exact eqItemsA_ok h h' 9998 _ _ hr
      · cases hr
    · cases hr
theorem eql_some_nil (d : Nat) {t e : TypeId} (hu : P.underlying t = some (.slice e)) (ad : Addr) (n cap : Nat) :
    (Op.equalIn (d + 1) t (.slice (some ad) n cap) (.slice none 0 0)).run P w = .ok false w := by
  simp [Op.equalIn, run_underlying hu]
theorem eql_nil_nil (d : Nat) {t e : TypeId} (hu : P.underlying t = some (.slice e)) (n cap : Nat) :
    (Op.equalIn (d + 1) t (.slice none n cap) (.slice none 0 0)).run P w = .ok true w := by
  simp [Op.equalIn, run_underlying hu]
theorem eql_nil_ok {op : BinOp} {t : TypeId} {n cap : Nat} {ad : Option Addr} {r : AV} {b1 b2 : AV} (hn : 0 < n → ∃ a, ad = some a) (he : (elemP P t).isSome = true)
    (hb : b1 = (if 0 < n then .v (.bool false) else .unk) ∧ b2 = (if 0 < n then .v (.bool true) else .unk))
    (hr : (match op with | .eql => some b1 | .neq => some b2 | _ => none) = some r) (ox oy : Operand) :
    ∃ z, (do eqGuard op t ox oy (.slice ad n cap) (.slice none 0 0); binOp op t (.slice ad n cap) (.slice none 0 0) : Sem Value).run P w = .ok z w ∧ Ok M β s r z := by
  obtain ⟨e, he⟩ := Option.isSome_iff_exists.1 he
  have hu := elemP_spec he
  have hg : (eqGuard op t ox oy (.slice ad n cap) (.slice none 0 0)).run P w = .ok () w := by cases op <;> simp [eqGuard]
  obtain ⟨c, hc, hq⟩ : ∃ c : Bool, (0 < n → c = false) ∧ (Op.equalIn 10000 t (.slice ad n cap) (.slice none 0 0)).run P w = .ok c w := by
    cases ad with
    | none => exact ⟨true, fun h => (by obtain ⟨a, ha⟩ := hn h; cases ha), eql_nil_nil 9999 hu _ _⟩
    | some a => exact ⟨false, fun _ => rfl, eql_some_nil 9999 hu _ _ _⟩
  have hok : ∀ d : Bool, Ok M β s (if 0 < n then .v (.bool (if d = true then !false else false)) else .unk) (.bool (if d = true then !c else c)) := by
    intro d
    by_cases h0 : 0 < n
    · rw [if_pos h0, hc h0]; exact ⟨⟨rfl, rfl⟩, by simp [AV.refs]⟩
    · rw [if_neg h0]; exact ⟨⟨_, rfl⟩, by simp [AV.refs]⟩
  obtain ⟨rfl, rfl⟩ := hb
  cases op <;> simp only [Option.some.injEq, reduceCtorEq] at hr <;> subst hr
  · refine ⟨.bool c, ?_, hok false⟩
    simp only [Sem.run_bind, hg, Result.andThen_ok, binOp, Op.equal, Op.maxDepth, hq, Sem.run_pure]
  · refine ⟨.bool (!c), ?_, hok true⟩
    simp only [Sem.run_bind, hg, Result.andThen_ok, binOp, Op.equal, Op.maxDepth, hq, Sem.run_pure]
theorem bin_ok {x y r : AV} {u v : Value} (hx : Ok M β s x u) (hy : Ok M β s y v) {op : BinOp} {t : TypeId} (hr : evBin P op t x y = some r) (ox oy : Operand) :
    ∃ z, (do eqGuard op t ox oy u v; binOp op t u v : Sem Value).run P w = .ok z w ∧ Ok M β s r z := by
  unfold evBin at hr
  split at hr
  · rename_i k a k' b
    obtain ⟨rfl, _⟩ := hx.rep
    obtain ⟨rfl, _⟩ := hy.rep
    have hg : (eqGuard op t ox oy (.int k a) (.int k' b)).run P w = .ok () w := by cases op <;> simp [eqGuard]
    split at hr
    · split at hr
      · cases hr
      · rename_i h0
        cases hr
        refine ⟨_, ?_, ⟨rfl, rfl⟩, by simp [AV.refs]⟩
        simp only [Sem.run_bind, hg, Result.andThen_ok]
        simp [binOp, Op.shift, h0, shlI, shrI]
    · split at hr
      · cases hr
      · rename_i h0
        cases hr
        refine ⟨_, ?_, ⟨rfl, rfl⟩, by simp [AV.refs]⟩
        simp only [Sem.run_bind, hg, Result.andThen_ok]
        simp [binOp, Op.shift, h0, shlI, shrI]
    · split at hr
      · rename_i hk
        subst hk
        cases hi : intBin op k a b with
        | none => simp [hi] at hr
        | some z =>
          simp [hi] at hr
          subst hr
          obtain ⟨h3, h4⟩ := intBin_ok (P := P) (w := w) t hi
          refine ⟨z, ?_, ⟨rfl, h4⟩, by simp [AV.refs]⟩
          simp only [Sem.run_bind, hg, Result.andThen_ok, h3]
      · cases hr
  · rename_i a b
    obtain ⟨rfl, _⟩ := hx.rep
    obtain ⟨rfl, _⟩ := hy.rep
    have hg : (eqGuard op t ox oy (.string a) (.string b)).run P w = .ok () w := by cases op <;> simp [eqGuard]
    cases hi : strBin op a b with
    | none => simp [hi] at hr
    | some z =>
      simp [hi] at hr
      subst hr
      obtain ⟨h3, h4⟩ := strBin_ok (P := P) (w := w) t hi
      refine ⟨z, ?_, ⟨rfl, h4⟩, by simp [AV.refs]⟩
      simp only [Sem.run_bind, hg, Result.andThen_ok, h3]
  · rename_i a b
    obtain ⟨rfl, _⟩ := hx.rep
    obtain ⟨rfl, _⟩ := hy.rep
    have hg : (eqGuard op t ox oy (.bool a) (.bool b)).run P w = .ok () w := by cases op <;> simp [eqGuard]
    split at hr
    · rename_i hb
      have hu : P.underlying t = some .bool := by
        unfold boolP at hb
        split at hb
        · rename_i hu; exact hu
        · cases hb
      have he := run_equalIn_bool' (P := P) w 9999 t a b hu
      split at hr <;> cases hr
      · refine ⟨.bool (a == b), ?_, ⟨rfl, rfl⟩, by simp [AV.refs]⟩
        simp only [Sem.run_bind, hg, Result.andThen_ok, binOp, Op.equal, Op.maxDepth, he, Sem.run_pure]
      · refine ⟨.bool (!(a == b)), ?_, ⟨rfl, rfl⟩, by simp [AV.refs]⟩
        simp only [Sem.run_bind, hg, Result.andThen_ok, binOp, Op.equal, Op.maxDepth, he, Sem.run_pure]
    · cases hr
  · rename_i l l'
    obtain ⟨vs, rfl, _, h1⟩ := hx.rep
    obtain ⟨vs', rfl, _, h2⟩ := hy.rep
    split at hr
    · cases hi : aggEq P t l l' with
      | none => simp [hi] at hr
      | some b =>
        simp [hi] at hr
        subst hr
        obtain ⟨h3, h4⟩ := aggEq_ok (P := P) (w := w) h1 h2 hi
        refine ⟨.bool b, ?_, ⟨rfl, rfl⟩, by simp [AV.refs]⟩
        simp only [Sem.run_bind, run_eqGuard_agg w _ t ox oy vs vs' h3, Result.andThen_ok, run_eql_struct, h4]
    · cases hi : aggEq P t l l' with
      | none => simp [hi] at hr
      | some b =>
        simp [hi] at hr
        subst hr
        obtain ⟨h3, h4⟩ := aggEq_ok (P := P) (w := w) h1 h2 hi
        refine ⟨.bool (!b), ?_, ⟨rfl, rfl⟩, by simp [AV.refs]⟩
        simp only [Sem.run_bind, run_eqGuard_agg w _ t ox oy vs vs' h3, Result.andThen_ok, run_neq_struct, h4]
    · cases hr
  · rename_i f z n l
    obtain ⟨rfl, _⟩ := hy.rep
    obtain ⟨ad, cap, rfl, _, _, _, _, _, h6⟩ := hx.rep
    split at hr
    · rename_i he
      exact eql_nil_ok (fun hn => (by obtain ⟨b, o, cs, h, _⟩ := h6 hn; exact ⟨_, h⟩)) he ⟨rfl, rfl⟩ hr ox oy
    · cases hr
  · rename_i id z off n
    obtain ⟨rfl, _⟩ := hy.rep
    obtain ⟨ad, cap, rfl, h1, _, h6⟩ := hx.rep
    split at hr
    · rename_i he
      exact eql_nil_ok (fun hn => (by obtain ⟨b, o, _, h, _⟩ := h6 (Nat.lt_of_lt_of_le hn h1); exact ⟨_, h⟩)) he ⟨rfl, rfl⟩ hr ox oy
    · cases hr
  · obtain ⟨rfl, _⟩ := hx.rep
    obtain ⟨rfl, _⟩ := hy.rep
    split at hr
    · rename_i he
      obtain ⟨e, he⟩ := Option.isSome_iff_exists.1 he
      have hu := elemP_spec he
      have hg : (eqGuard op t ox oy (.slice none 0 0) (.slice none 0 0)).run P w = .ok () w := by cases op <;> simp [eqGuard]
      have hq : (Op.equalIn 10000 t (.slice none 0 0) (.slice none 0 0)).run P w = .ok true w := eql_nil_nil 9999 hu 0 0
      split at hr <;> cases hr
      · refine ⟨.bool true, ?_, ⟨rfl, rfl⟩, by simp [AV.refs]⟩
        simp only [Sem.run_bind, hg, Result.andThen_ok, binOp, Op.equal, Op.maxDepth, hq, Sem.run_pure]
      · refine ⟨.bool false, ?_, ⟨rfl, rfl⟩, by simp [AV.refs]⟩
        simp only [Sem.run_bind, hg, Result.andThen_ok, binOp, Op.equal, Op.maxDepth, hq, Sem.run_pure]
        rfl
    · cases hr
  · cases hr
theorem un_ok {x r : AV} {u : Value} (hx : Ok M β s x u) {op : UnOp} (hr : evUn op x = some r) :
    ∃ z, (Op.unary op u).run P w = .ok z w ∧ Ok M β s r z := by
  unfold evUn at hr
  split at hr <;> cases hr
  · obtain ⟨rfl, _⟩ := hx.rep
    exact ⟨_, by simp [Op.unary, Op.intArith], ⟨rfl, rfl⟩, by simp [AV.refs]⟩
  · obtain ⟨rfl, _⟩ := hx.rep
    exact ⟨_, by simp [Op.unary], ⟨rfl, rfl⟩, by simp [AV.refs]⟩
  · obtain ⟨rfl, _⟩ := hx.rep
    exact ⟨_, by simp [Op.unary, Op.intBits], ⟨rfl, rfl⟩, by simp [AV.refs]⟩
end
end Go.Fw
namespace Go.Fw
open Go Go.RowKit
def AS.elems (s : AS) (z : Nat) : AV → Option (Nat × List AV)
  | .slc _ z' n l => if z' = z then some (n, l) else none
  | .bs id z' off n => if z' = z then (match s.box id with
    | some (.mut _ l) => if off + n * z ≤ l.length then some (n, (l.drop off).take (n * z)) else none
    | _ => none) else none
  | .v (.slice none 0 0) => some (0, [])
  | _ => none
def AV.isByte : AV → Bool
  | .v (.int .u8 _) => true
  | _ => false
def AV.byte : AV → UInt8
  | .v (.int _ n) => UInt8.ofNat n.toNat
  | _ => 0
def AV.int : AV → Int
  | .v (.int _ n) => n
  | _ => 0
def strOf (l : List AV) : ByteArray := ⟨(l.map AV.byte).toArray⟩
def bndOk : Option AV → Bool
  | none => true
  | some (.v (.int _ k)) => decide (0 ≤ k)
  | _ => false
def bnd (d : Nat) : Option AV → Nat
  | some (.v (.int _ k)) => k.toNat
  | _ => d
def evSlice (P : Program) (t : TypeId) (x : AV) (lo hi mx : Option AV) : Option AV :=
  match x with
  | .v (.string b) => if strP P t = true ∧ mx.isNone = true ∧ bndOk lo = true ∧ bndOk hi = true ∧ bnd 0 lo ≤ bnd b.size hi ∧ bnd b.size hi ≤ b.size then
      some (.v (.string (b.extract (bnd 0 lo) (bnd b.size hi)))) else none
  | .v (.slice none 0 0) => if (elemP P t).bind (szP P) ≠ none ∧ mx.isNone = true ∧ bndOk lo = true ∧ bndOk hi = true ∧ bnd 0 lo = 0 ∧ bnd 0 hi = 0 then some (.v (.slice none 0 0)) else none
  | .slc _ z n l =>
    if (elemP P t).bind (szP P) = some z ∧ bndOk lo = true ∧ bndOk hi = true ∧ bndOk mx = true ∧ bnd 0 lo ≤ bnd n hi ∧ bnd n hi ≤ n ∧ (mx.isSome = true → bnd n mx = bnd n hi ∧ hi.isSome = true) then
      some (.slc mx.isSome z (bnd n hi - bnd 0 lo) ((l.drop (bnd 0 lo * z)).take ((bnd n hi - bnd 0 lo) * z))) else none
  | .bs id z off n =>
    if (elemP P t).bind (szP P) = some z ∧ bndOk lo = true ∧ bndOk hi = true ∧ mx.isNone = true ∧ bnd 0 lo ≤ bnd n hi ∧ bnd n hi ≤ n then
      some (.bs id z (off + bnd 0 lo * z) (bnd n hi - bnd 0 lo)) else none
  | _ => none
def setAt (l : List AV) (o : Nat) (cs : List AV) : List AV := l.take o ++ cs ++ l.drop (o + cs.length)
def fillA (place : Nat → Option (Nat × Nat)) (l : List AV) : List (Nat × AV) → Option (List AV)
  | [] => some l
  | (i, v) :: rest =>
    match place i, v.cells? with
    | some (o, n), some cs => if cs.length = n ∧ o + n ≤ l.length then fillA place (setAt l o cs) rest else none
    | _, _ => none
def zeroP (P : Program) (t : TypeId) : Option (List Value) :=
  match (P.info? t).bind (·.zero) with
  | some z => if z.cells.toList.all (·.oneCell') = true then some z.cells.toList else none
  | none => none
def evBuild (P : Program) (t : TypeId) (parts : List (Nat × AV)) : Option AV :=
  match zeroP P t with
  | none => none
  | some zs =>
    match P.underlying t with
    | some (.struct fs) => if fs.toList.all (fun f => (szP P f.type).isSome) = true then
        (fillA (fun i => (fs[i]?).bind fun f => (szP P f.type).map fun n => (f.offset, n)) (zs.map .v) parts).map .agg else none
    | some (.array _ e) => match szP P e with
      | some z => (fillA (fun i => some (i * z, z)) (zs.map .v) parts).map .agg
      | none => none
    | _ => none
def evConv (P : Program) (s : AS) (src dst : TypeId) (x : AV) : Option AV :=
  match x with
  | .v (.int _ n) => if (P.underlying src).isSome = true then (intP P dst).map fun k => .v (.int k (k.wrap n)) else none
  | .v (.string b) => if (P.underlying src).isSome = true ∧ strP P dst = true then some (.v (.string b)) else none
  | x => if (elemP P src).bind (intP P) = some .u8 ∧ strP P dst = true then (match s.elems 1 x with
    | some (_, l) => if l.all AV.isByte = true then some (.v (.string (strOf l))) else none
    | none => none) else none
section
variable {P : Program} {C : Ctx} {M : Mem} {β : Loc} {s : AS} {w : World} {nt : NT} {a : Act}
theorem elems_ok (h : Rel C M β s w) {v : AV} {x : Value} (hv : Ok M β s v x) {z n : Nat} {l : List AV} (he : s.elems z v = some (n, l)) :
    ∃ ad cap, x = .slice ad n cap ∧ l.length = n * z ∧ n ≤ cap ∧ cap ≤ maxLen ∧ (∀ j ∈ refsL l, s.used j) ∧
      ∃ ys : List Value, ys.length = l.length ∧ RepAt M β l ys.toArray 0 ∧ (∀ y ∈ ys, y.oneCell' = true) ∧
        (0 < n → ∃ b o, ad = some ⟨b, o, none⟩ ∧ ∀ j y, ys[j]? = some y → w.cell? ⟨b, o + j, none⟩ = some y) := by
  unfold AS.elems at he
  split at he
  · rename_i f z' n' l'
    split at he
    · rename_i hz
      subst hz
      cases he
      obtain ⟨ad, cap, rfl, h1, h2, h3, h4, h5, h6⟩ := hv.rep
      refine ⟨ad, cap, rfl, h1, h2, h3, fun j hj => (by rw [h5] at hj; cases hj), ?_⟩
      rcases Nat.eq_zero_or_pos n with h0 | h0
      · subst h0
        have : l = [] := List.eq_nil_of_length_eq_zero (by simpa using h1)
        subst this
        exact ⟨[], rfl, trivial, by simp, fun h => absurd h (by omega)⟩
      · obtain ⟨b, o, cs, rfl, h7, h8⟩ := h6 h0
        obtain ⟨ty, fz, hh⟩ := h.mem b cs h7
        obtain ⟨ys, k1, k2, k3, k4⟩ := h8.cells
        exact ⟨ys, k1, RepAt.mono (MemLe.refl M) _ _ _ (fun j hj => by rw [h5] at hj; cases hj) k4, k3, fun _ => ⟨b, o, rfl, fun j y hy => cell_of hh (k2 j y hy)⟩⟩
    · cases he
  · rename_i id z' off n'
    split at he
    · rename_i hz
      subst hz
      split at he
      · rename_i e l' hb
        split at he
        · rename_i hle
          cases he
          obtain ⟨ad, cap, rfl, h1, h2, h3⟩ := hv.rep
          refine ⟨ad, cap, rfl, by simp; omega, h1, h2, fun j hj => h.refB id e l' hb j (refsL_sub (fun a ha => List.mem_of_mem_drop (List.mem_of_mem_take ha)) hj), ?_⟩
          rcases Nat.eq_zero_or_pos n with h0 | h0
          · subst h0
            exact ⟨[], by simp, by simp [RepAt], by simp, fun h => absurd h (by omega)⟩
          · obtain ⟨b, sz, h4, rfl, h5⟩ := h3 (by omega)
            rcases h.mutb id e l' hb with ⟨hn, _⟩ | ⟨b', cs, k1, ⟨fz, k2, _⟩, k3, _⟩
            · rw [hn] at h4; cases h4
            · rw [k1] at h4; cases h4
              have hd := (k3.drop off).take (n * z')
              simp only [Nat.zero_add] at hd
              obtain ⟨ys, j1, j2, j3, j4⟩ := hd.cells
              exact ⟨ys, j1, j4, j3, fun _ => ⟨b, off, rfl, fun j y hy => cell_of k2 (j2 j y hy)⟩⟩
        · cases he
      · cases he
    · cases he
  · cases he
    obtain ⟨rfl, _⟩ := hv.rep
    exact ⟨none, 0, rfl, by simp, Nat.le_refl _, by simp [maxLen], by simp [refsL], [], rfl, trivial, by simp, fun h => absurd h (by omega)⟩
  · cases he
theorem foldl_push (ns : List Int) : ∀ (r : ByteArray), ns.foldl (fun r n => r.push (UInt8.ofNat n.toNat)) r = ⟨r.data ++ (ns.map fun n => UInt8.ofNat n.toNat).toArray⟩ := by
  induction ns with
  | nil => intro r; simp
  | cons n ns ih =>
    intro r
    rw [List.foldl_cons, ih]
    congr 1
    apply Array.ext'
    simp [ByteArray.push]
theorem bytes_list {l : List AV} {ys : List Value} (h : RepAt M β l ys.toArray 0) (hl : ys.length = l.length) (hb : l.all AV.isByte = true) :
    ys = (l.map AV.int).map (Value.int .u8) := by
  apply List.ext_getElem?
  intro i
  rw [List.getElem?_map, List.getElem?_map]
  cases hi : l[i]? with
  | none =>
    simp
    rw [List.getElem?_eq_none_iff] at hi
    omega
  | some v =>
    obtain ⟨y, h1, _, h3⟩ := (RepAt.iff _ _ _).1 h i v hi
    simp only [Nat.zero_add, List.getElem?_toArray] at h1
    rw [h1]
    have := List.all_eq_true.1 hb v (List.mem_of_getElem? hi)
    cases v with
    | v x =>
      cases x <;> simp only [AV.isByte] at this <;> try (cases this; done)
      rename_i k n
      cases k <;> simp at this
      obtain ⟨rfl, _⟩ := h3
      rfl
    | _ => simp [AV.isByte] at this
theorem strOf_eq {l : List AV} (hb : l.all AV.isByte = true) : ((l.map AV.int).foldl (fun r n => r.push (UInt8.ofNat n.toNat)) ByteArray.empty) = strOf l := by
  rw [foldl_push]
  unfold strOf
  congr 1
  apply Array.ext'
  simp only [Array.toList_append, ByteArray.data_empty, List.map_map]
  simp
  intro v hv
  have := List.all_eq_true.1 hb v hv
  cases v with
  | v x => cases x <;> simp only [AV.isByte] at this <;> first | (cases this; done) | rfl
  | _ => simp [AV.isByte] at this
theorem conv_ok (h : Rel C M β s w) {x r : AV} {u : Value} (hx : Ok M β s x u) {src dst : TypeId} (hr : evConv P s src dst x = some r) :
    ∃ z, (convert src dst u).run P w = .ok z w ∧ Ok M β s r z := by
  unfold evConv at hr
  split at hr
  · rename_i kk n
    obtain ⟨rfl, _⟩ := hx.rep
    split at hr
    · rename_i hs
      obtain ⟨d, hd⟩ := Option.isSome_iff_exists.1 hs
      cases hk : intP P dst with
      | none => simp [hk] at hr
      | some k =>
        simp [hk] at hr
        subst hr
        refine ⟨.int k (k.wrap n), ?_, ⟨rfl, rfl⟩, by simp [AV.refs]⟩
        simp only [convert, Sem.run_bind, run_underlying hd, run_underlying (intP_spec hk), Result.andThen_ok]
        simp [Conv.intToInt]
    · cases hr
  · rename_i b
    obtain ⟨rfl, _⟩ := hx.rep
    split at hr
    · rename_i hc
      obtain ⟨hs, hd⟩ := hc
      obtain ⟨d, hd'⟩ := Option.isSome_iff_exists.1 hs
      cases hr
      refine ⟨.string b, ?_, ⟨rfl, rfl⟩, by simp [AV.refs]⟩
      simp only [convert, Sem.run_bind, run_underlying hd', run_underlying (strP_spec hd), Result.andThen_ok]
      simp
    · cases hr
  · split at hr
    · rename_i hc
      obtain ⟨hs, hd⟩ := hc
      split at hr
      · rename_i n l hel
        split at hr
        · rename_i hb
          cases hr
          cases hee : elemP P src with
          | none => simp [hee] at hs
          | some e =>
            simp [hee] at hs
            obtain ⟨ad, cap, rfl, h1, h2, _, _, ys, h3, h4, h5, h6⟩ := elems_ok h hx hel
            simp only [Nat.mul_one] at h1
            refine ⟨.string (strOf l), ?_, ⟨rfl, rfl⟩, by simp [AV.refs]⟩
            rw [run_convert_bytes_string w src dst e ad n cap (elemP_spec hee) (intP_spec hs) (strP_spec hd)]
            rcases Nat.eq_zero_or_pos n with h0 | h0
            · have hl : l = [] := List.eq_nil_of_length_eq_zero (by omega)
              subst hl
              subst h0
              cases ad with
              | none => simp [Conv.bytesToString, strOf]; rfl
              | some ad =>
                have := run_bytesToString (P := P) w ad 0 cap [] (by simp [loadCells, loadCellsFrom])
                rw [this]; rfl
            · obtain ⟨b, o, rfl, h7⟩ := h6 h0
              have hys := bytes_list h4 h3 hb
              have hld := run_loadCells_list (P := P) w ⟨b, o, none⟩ ys (fun j y hy => by rw [Addr.add_lit]; exact h7 j y hy)
              rw [h3, h1, hys] at hld
              rw [run_bytesToString w _ n cap (l.map AV.int) hld, strOf_eq hb]
        · cases hr
      · cases hr
    · cases hr
theorem bnd_run {o : Option AV} {x : Option Value} (hx : match o, x with | some v, some u => Rep M β v u | none, none => True | _, _ => False) (hb : bndOk o = true) (d : Nat) :
    (x = none ∧ o = none ∧ bnd d o = d) ∨ ∃ k i, x = some (.int k i) ∧ 0 ≤ i ∧ i.toNat = bnd d o ∧ o.isSome = true := by
  cases o with
  | none => cases x with
    | none => exact .inl ⟨rfl, rfl, rfl⟩
    | some u => exact hx.elim
  | some v =>
    cases x with
    | none => exact hx.elim
    | some u =>
      right
      cases v with
      | v y =>
        cases y <;> simp only [bndOk] at hb <;> try (cases hb; done)
        rename_i k i
        obtain ⟨rfl, _⟩ := hx
        exact ⟨k, i, rfl, by simpa using hb, rfl, rfl⟩
      | _ => simp [bndOk] at hb
def OkO (M : Mem) (β : Loc) (o : Option AV) (x : Option Value) : Prop := match o, x with | some v, some u => Rep M β v u | none, none => True | _, _ => False
theorem bounds_run (b : Bool) {n cap : Nat} (hnc : n ≤ cap) {lo hi : Option AV} {lo' hi' : Option Value} (hlo : OkO M β lo lo') (hhi : OkO M β hi hi') (h1 : bndOk lo = true) (h2 : bndOk hi = true)
    (h3 : bnd 0 lo ≤ bnd n hi) (h4 : bnd n hi ≤ n) : (Instr.sliceBounds b n cap lo' hi' none).run P w = .ok (bnd 0 lo, bnd n hi, cap) w := by
  rcases bnd_run hlo h1 0 with ⟨rfl, rfl, e1⟩ | ⟨k, i, rfl, i0, e1, _⟩ <;> rcases bnd_run hhi h2 n with ⟨rfl, rfl, e2⟩ | ⟨k', i', rfl, i0', e2, _⟩
  · simp [Instr.sliceBounds, e1, e2]
  · rw [← e2] at h3 h4 ⊢
    have : i' ≤ (cap : Int) := by omega
    simp [Instr.sliceBounds, Instr.sliceBound, asIntOf, i0', this, e1]
  · rw [← e1] at h3 ⊢
    rw [e2] at h3 ⊢
    have : i ≤ (n : Int) := by omega
    simp [Instr.sliceBounds, Instr.sliceBound, asIntOf, i0, this]
  · rw [← e1, ← e2] at h3
    rw [← e2] at h4
    rw [← e1, ← e2]
    have t1 : i' ≤ (cap : Int) := by omega
    have t2 : i ≤ i' := by omega
    have t3 : i ≤ (i'.toNat : Int) := by omega
    simp [Instr.sliceBounds, Instr.sliceBound, asIntOf, i0, i0', t1]
    intro hh
    omega
theorem bounds_run_max {n cap : Nat} (hnc : n ≤ cap) {lo hi mx : Option AV} {lo' hi' mx' : Option Value} (hlo : OkO M β lo lo') (hhi : OkO M β hi hi') (hmx : OkO M β mx mx')
    (h1 : bndOk lo = true) (h2 : bndOk hi = true) (h2' : bndOk mx = true)
    (h3 : bnd 0 lo ≤ bnd n hi) (h4 : bnd n hi ≤ n) (h5 : mx.isSome = true) (h6 : bnd n mx = bnd n hi) (h7 : hi.isSome = true) :
    (Instr.sliceBounds true n cap lo' hi' mx').run P w = .ok (bnd 0 lo, bnd n hi, bnd n hi) w := by
  rcases bnd_run hmx h2' n with ⟨rfl, rfl, _⟩ | ⟨k2, i2, rfl, i02, e3, _⟩
  · simp at h5
  rcases bnd_run hhi h2 n with ⟨rfl, rfl, _⟩ | ⟨k', i', rfl, i0', e2, _⟩
  · simp at h7
  rw [h6, ← e2] at e3
  have e4 : i2 = i' := by omega
  subst e4
  rw [← e2] at h3 h4 ⊢
  have t1 : i2 ≤ (cap : Int) := by omega
  rcases bnd_run hlo h1 0 with ⟨rfl, rfl, e1⟩ | ⟨k, i, rfl, i0, e1, _⟩
  · simp [Instr.sliceBounds, Instr.sliceBound, asIntOf, i02, t1, e1]
    intro hh
    omega
  · rw [← e1] at h3 ⊢
    simp [Instr.sliceBounds, Instr.sliceBound, asIntOf, i02, t1, i0]
    rw [if_pos (by omega), if_pos (by omega)]
theorem sliceAt_eq {t : TypeId} {d : TypeDesc} (hu : P.underlying t = some d) (hd : ∀ n e, d ≠ .array n e) (x : Value) (lo hi mx : Option Value) :
    (Instr.sliceAt t x lo hi mx).run P w = (Instr.slice t x lo hi mx).run P w := by
  simp only [Instr.sliceAt, Sem.run_bind, run_underlying hu, Result.andThen_ok]
theorem slice_ok {x r : AV} {u : Value} (hx : Ok M β s x u) {t : TypeId} {lo hi mx : Option AV} {lo' hi' mx' : Option Value}
    (hlo : OkO M β lo lo') (hhi : OkO M β hi hi') (hmx : OkO M β mx mx') (hr : evSlice P t x lo hi mx = some r) :
    ∃ y, (Instr.sliceAt t u lo' hi' mx').run P w = .ok y w ∧ Ok M β s r y := by
  unfold evSlice at hr
  split at hr
  · rename_i b
    obtain ⟨rfl, _⟩ := hx.rep
    split at hr
    · rename_i hc
      obtain ⟨c1, c2, c3, c4, c5, c6⟩ := hc
      cases hr
      have hu := strP_spec c1
      have hm : mx' = none := by
        cases mx with
        | none => cases mx' with
          | none => rfl
          | some => exact hmx.elim
        | some => simp at c2
      subst hm
      have hb := bounds_run (P := P) (w := w) false (Nat.le_refl b.size) hlo hhi c3 c4 c5 c6
      refine ⟨.string (b.extract (bnd 0 lo) (bnd b.size hi)), ?_, ⟨rfl, rfl⟩, by simp [AV.refs]⟩
      rw [sliceAt_eq hu (by intro n e he; cases he)]
      simp [Instr.slice, run_underlying hu, hb]
    · cases hr
  · obtain ⟨rfl, _⟩ := hx.rep
    split at hr
    · rename_i hc
      obtain ⟨c0, c2, c3, c4, c5, c6⟩ := hc
      cases hr
      have hm : mx' = none := by
        cases mx with
        | none => cases mx' with
          | none => rfl
          | some => exact hmx.elim
        | some => simp at c2
      subst hm
      cases hz : (elemP P t).bind (szP P) with
      | none => exact absurd hz c0
      | some z =>
        obtain ⟨e, hu, hsz⟩ := bind_szP hz
        have hb := bounds_run (P := P) (w := w) true (Nat.le_refl 0) hlo hhi c3 c4 (by omega) (by omega)
        refine ⟨.slice none 0 0, ?_, ⟨rfl, rfl⟩, by simp [AV.refs]⟩
        rw [sliceAt_eq hu (by intro n e he; cases he)]
        simp [Instr.slice, run_underlying hu, hb, szP_spec hsz, c5, c6]
    · cases hr
  · rename_i f z n l
    split at hr
    · rename_i hc
      obtain ⟨c0, c1, c2, c3, c4, c5, c6⟩ := hc
      cases hr
      obtain ⟨e, hu, hsz⟩ := bind_szP c0
      obtain ⟨ad, cap, rfl, h1, h2, h3, h4, h5, h6⟩ := hx.rep
      have main : ∀ m, bnd n hi ≤ m → m ≤ cap → (mx.isSome = true → m = bnd n hi) → (Instr.sliceBounds true n cap lo' hi' mx').run P w = .ok (bnd 0 lo, bnd n hi, m) w →
          ∃ y, (Instr.sliceAt t (.slice ad n cap) lo' hi' mx').run P w = .ok y w ∧ Ok M β s (.slc mx.isSome z (bnd n hi - bnd 0 lo) ((l.drop (bnd 0 lo * z)).take ((bnd n hi - bnd 0 lo) * z))) y := by
        intro m hm1 hm2 hm3 hb
        refine ⟨.slice (if m = bnd 0 lo then ad else ad.map (·.add (bnd 0 lo * z))) (bnd n hi - bnd 0 lo) (m - bnd 0 lo), ?_, ⟨_, _, rfl, ?_, by omega, by omega, fun hf => by rw [hm3 hf], ?_, fun hn => ?_⟩, by simp [AV.refs]⟩
        · rw [sliceAt_eq hu (by intro n e he; cases he)]
          simp [Instr.slice, run_underlying hu, hb, szP_spec hsz]
        · have : (bnd n hi - bnd 0 lo) * z ≤ (n - bnd 0 lo) * z := Nat.mul_le_mul_right z (by omega)
          have e1 : n * z - bnd 0 lo * z = (n - bnd 0 lo) * z := by rw [Nat.sub_mul]
          simp; omega
        · exact refsL_nil_sub (fun a ha => List.mem_of_mem_drop (List.mem_of_mem_take ha)) h5
        · obtain ⟨b, o, cs, rfl, h7, h8⟩ := h6 (by omega)
          refine ⟨b, o + bnd 0 lo * z, cs, ?_, h7, (h8.drop _).take _⟩
          rw [if_neg (by omega)]
          simp [Addr.add_lit]
      cases hmxx : mx with
      | none =>
        subst hmxx
        have hm : mx' = none := by
          cases mx' with
          | none => rfl
          | some => exact hmx.elim
        subst hm
        exact main cap (by omega) (Nat.le_refl _) (by simp) (bounds_run true h2 hlo hhi c1 c2 c4 c5)
      | some mv =>
        have c6' := c6 (by rw [hmxx]; rfl)
        rw [← hmxx]
        exact main (bnd n hi) (Nat.le_refl _) (by omega) (fun _ => rfl) (bounds_run_max h2 hlo hhi hmx c1 c2 c3 c4 c5 (by rw [hmxx]; rfl) c6'.1 c6'.2)
    · cases hr
  · rename_i id z off n
    split at hr
    · rename_i hc
      obtain ⟨c0, c1, c2, c3, c4, c5⟩ := hc
      cases hr
      have hm : mx' = none := by
        cases mx with
        | none => cases mx' with
          | none => rfl
          | some => exact hmx.elim
        | some => simp at c3
      subst hm
      obtain ⟨e, hu, hsz⟩ := bind_szP c0
      obtain ⟨ad, cap, rfl, h1, h2, h3⟩ := hx.rep
      have hb := bounds_run (P := P) (w := w) true h1 hlo hhi c1 c2 c4 c5
      refine ⟨.slice (if cap = bnd 0 lo then ad else ad.map (·.add (bnd 0 lo * z))) (bnd n hi - bnd 0 lo) (cap - bnd 0 lo), ?_, ⟨_, _, rfl, by omega, by omega, fun hn => ?_⟩, fun j hj => hx.ref j (by simpa [AV.refs] using hj)⟩
      · rw [sliceAt_eq hu (by intro n e he; cases he)]
        simp [Instr.slice, run_underlying hu, hb, szP_spec hsz]
      · obtain ⟨b, sz, k1, rfl, k3⟩ := h3 (by omega)
        refine ⟨b, sz, k1, ?_, ?_⟩
        · rw [if_neg (by omega)]
          simp [Addr.add_lit]
        · rw [← k3, Nat.sub_mul]
          have : bnd 0 lo * z ≤ cap * z := Nat.mul_le_mul_right z (by omega)
          omega
    · cases hr
  · cases hr
end
end Go.Fw
namespace Go.Fw
open Go Go.RowKit
theorem foldl_set (off : Nat) : ∀ (c : List Value) (k : Nat) (vs : Array Value) (i : Nat),
    ((c.zipIdx k).foldl (fun cs p => cs.setIfInBounds (off + p.2) p.1) vs)[i]? = if off + k ≤ i ∧ i < off + k + c.length ∧ i < vs.size then c[i - off - k]? else vs[i]?
  | [], k, vs, i => by simp; omega
  | x :: c, k, vs, i => by
    rw [List.zipIdx_cons, List.foldl_cons, foldl_set off c (k + 1)]
    simp only [Array.size_setIfInBounds, List.length_cons]
    by_cases h1 : off + (k + 1) ≤ i ∧ i < off + (k + 1) + c.length ∧ i < vs.size
    · rw [if_pos h1, if_pos (by omega), show i - off - k = (i - off - (k + 1)) + 1 from by omega, List.getElem?_cons_succ]
    · rw [if_neg h1]
      by_cases h2 : i = off + k
      · subst h2
        by_cases h3 : off + k < vs.size
        · rw [if_pos (by omega)]
          simp [h3]
        · rw [if_neg (by omega)]
          rw [Array.getElem?_eq_none (by simp; omega), Array.getElem?_eq_none (by omega)]
      · rw [Array.getElem?_setIfInBounds_ne (Ne.symm h2)]
        by_cases h3 : off + k ≤ i ∧ i < off + k + (c.length + 1) ∧ i < vs.size
        · omega
        · rw [if_neg h3]
theorem size_foldl_set (off : Nat) : ∀ (c : List (Value × Nat)) (vs : Array Value), (c.foldl (fun cs p => cs.setIfInBounds (off + p.2) p.1) vs).size = vs.size
  | [], vs => rfl
  | x :: c, vs => by rw [List.foldl_cons, size_foldl_set off c]; simp
theorem setAt_get (l cs : List AV) (o : Nat) (h : o + cs.length ≤ l.length) (i : Nat) : (setAt l o cs)[i]? = if o ≤ i ∧ i < o + cs.length then cs[i - o]? else l[i]? := by
  unfold setAt
  by_cases h1 : i < o
  · rw [List.append_assoc, List.getElem?_append_left (by simp; omega), List.getElem?_take, if_pos h1, if_neg (by omega)]
  · by_cases h2 : i < o + cs.length
    · rw [List.getElem?_append_left (by simp; omega), List.getElem?_append_right (by simp; omega), if_pos (by omega)]
      congr 1
      simp; omega
    · rw [List.getElem?_append_right (by simp; omega), if_neg (by omega), List.getElem?_drop]
      congr 1
      simp; omega
theorem setAt_length (l cs : List AV) (o : Nat) (h : o + cs.length ≤ l.length) : (setAt l o cs).length = l.length := by
  simp [setAt]; omega
theorem setAt_refs {l cs : List AV} {o j : Nat} (hj : j ∈ refsL (setAt l o cs)) : j ∈ refsL l ∨ j ∈ refsL cs := by
  rw [mem_refsL] at hj
  obtain ⟨a, ha, hj⟩ := hj
  unfold setAt at ha
  rw [List.mem_append, List.mem_append] at ha
  rcases ha with (ha | ha) | ha
  · exact .inl (mem_refsL.2 ⟨a, List.mem_of_mem_take ha, hj⟩)
  · exact .inr (mem_refsL.2 ⟨a, ha, hj⟩)
  · exact .inl (mem_refsL.2 ⟨a, List.mem_of_mem_drop ha, hj⟩)
section
variable {P : Program} {C : Ctx} {M : Mem} {β : Loc} {s : AS} {w : World} {nt : NT} {a : Act}
theorem cells_ok {v : AV} {x : Value} (hv : Rep M β v x) {cs : List AV} (hc : v.cells? = some cs) :
    RepAt M β cs x.cells 0 ∧ x.cells.size = cs.length ∧ refsL cs = v.refs ∧ ∀ y ∈ x.cells.toList, y.oneCell' = true := by
  have key : ∀ l (vs : Array Value), vs.size = l.length → RepAt M β l vs 0 → ∀ y ∈ vs.toList, y.oneCell' = true := by
    intro l vs hs h y hy
    obtain ⟨i, hi⟩ := List.getElem?_of_mem hy
    rw [Array.getElem?_toList] at hi
    have hlt : i < l.length := by have := (Array.getElem?_eq_some_iff.1 hi).1; omega
    obtain ⟨z, h1, h2, _⟩ := (RepAt.iff l vs 0).1 h i l[i] (by rw [List.getElem?_eq_getElem])
    simp only [Nat.zero_add] at h1
    rw [hi] at h1; cases h1; exact h2
  have one : v.isCell = true → (some [v] : Option (List AV)) = some cs → RepAt M β cs x.cells 0 ∧ x.cells.size = cs.length ∧ refsL cs = v.refs ∧ ∀ y ∈ x.cells.toList, y.oneCell' = true := by
    intro h1 h2
    cases h2
    have ho := oneCell_of_cell h1 hv
    rw [cells_one ho]
    exact ⟨⟨⟨x, by simp, ho, hv⟩, trivial⟩, by simp, by simp [refsL], by simp [ho]⟩
  cases v <;> simp only [AV.cells?] at hc
  case agg l =>
    cases hc
    obtain ⟨vs, rfl, h1, h2⟩ := hv
    exact ⟨h2, h1, by simp [AV.refs], key _ _ h1 h2⟩
  all_goals
    split at hc
    · exact one (by assumption) hc
    · cases hc
theorem fill_ok (place : Nat → Option (Nat × Nat)) : ∀ (parts : List (Nat × AV)) (ps : List (Nat × Value)) (l r : List AV) (vs : Array Value),
    ps.length = parts.length → (∀ (i : Nat) (p : Nat × AV) (q : Nat × Value), parts[i]? = some p → ps[i]? = some q → q.1 = p.1 ∧ Ok M β s p.2 q.2) →
    RepAt M β l vs 0 → vs.size = l.length → (∀ j ∈ refsL l, s.used j) → fillA place l parts = some r →
    ∃ us, Instr.fill place vs ps = some us ∧ RepAt M β r us 0 ∧ us.size = r.length ∧ ∀ j ∈ refsL r, s.used j
  | [], ps, l, r, vs, hl, _, h1, h2, h3, hr => by
    have : ps = [] := List.eq_nil_of_length_eq_zero (by simpa using hl)
    subst this
    simp [fillA] at hr
    subst hr
    exact ⟨vs, rfl, h1, h2, h3⟩
  | (i, v) :: rest, ps, l, r, vs, hl, hp, h1, h2, h3, hr => by
    cases ps with
    | nil => simp at hl
    | cons q ps =>
      obtain ⟨j, x⟩ := q
      obtain ⟨hj, hv⟩ := hp 0 (i, v) (j, x) rfl rfl
      simp only at hj hv
      subst hj
      simp only [fillA] at hr
      split at hr
      · rename_i o n cs hpl hcs
        split at hr
        · rename_i hc
          obtain ⟨hn, hon⟩ := hc
          subst hn
          obtain ⟨k1, k2, k3, _⟩ := cells_ok hv.rep hcs
          have hsz : (x.cells.zipIdx.foldl (fun cs p => cs.setIfInBounds (o + p.2) p.1) vs).size = vs.size := by
            rw [← Array.foldl_toList, Array.toList_zipIdx]; exact size_foldl_set o _ vs
          have hrep : RepAt M β (setAt l o cs) (x.cells.zipIdx.foldl (fun cs p => cs.setIfInBounds (o + p.2) p.1) vs) 0 := by
            rw [RepAt.iff]
            intro m a' ha
            rw [setAt_get l cs o hon] at ha
            simp only [Nat.zero_add]
            rw [← Array.foldl_toList, Array.toList_zipIdx, foldl_set o x.cells.toList 0 vs m]
            simp only [Nat.add_zero, Array.length_toList, Nat.sub_zero]
            split at ha
            · rename_i hc
              rw [if_pos (by omega)]
              have := (RepAt.iff cs x.cells 0).1 k1 (m - o) a' ha
              simpa using this
            · rename_i hc
              rw [if_neg (by omega)]
              have := (RepAt.iff l vs 0).1 h1 m a' ha
              simpa using this
          obtain ⟨us, u1, u2, u3, u4⟩ := fill_ok place rest ps (setAt l o cs) r _ (by simpa using hl) (fun m p q hm hq => hp (m + 1) p q hm hq) hrep
            (by rw [hsz, h2, setAt_length l cs o hon]) (fun j hj => by
              rcases setAt_refs hj with hj | hj
              · exact h3 j hj
              · exact hv.ref j (by rw [← k3]; exact hj)) hr
          refine ⟨us, ?_, u2, u3, u4⟩
          rw [Instr.fill]
          simp only [hpl]
          split
          · rename_i hbad
            simp only [ne_eq, Bool.or_eq_true, decide_eq_true_eq] at hbad
            omega
          · exact u1
        · cases hr
      · cases hr
theorem zeroP_spec {t : TypeId} {zs : List Value} (h : zeroP P t = some zs) : ∃ z, (zeroValue t).run P w = .ok z w ∧ z.cells.toList = zs ∧ zs.all (·.oneCell') = true := by
  unfold zeroP at h
  cases hi : P.info? t with
  | none => simp [hi] at h
  | some i =>
    simp only [hi, Option.bind_some] at h
    cases hz : i.zero with
    | none => simp [hz] at h
    | some z =>
      simp only [hz] at h
      split at h
      · rename_i ha; cases h; exact ⟨z, by simp [zeroValue, typeInfo, hi, hz], rfl, ha⟩
      · cases h
theorem mapM_places (fs : List Field) (h : fs.all (fun f => (szP P f.type).isSome) = true) :
    (fs.mapM (fun f => do pure (f.offset, ← sizeOf f.type) : Field → Sem (Nat × Nat))).run P w = .ok (fs.map fun f => (f.offset, (szP P f.type).getD 0)) w := by
  induction fs with
  | nil => simp
  | cons f fs ih =>
    simp only [List.all_cons, Bool.and_eq_true] at h
    obtain ⟨n, hn⟩ := Option.isSome_iff_exists.1 h.1
    simp only [List.mapM_cons, Sem.run_bind, szP_spec hn, Result.andThen_ok, Sem.run_pure, ih h.2, List.map_cons, hn, Option.getD_some]
theorem mapM_places' (fs : Array Field) (h : fs.toList.all (fun f => (szP P f.type).isSome) = true) :
    (fs.mapM (fun f => do pure (f.offset, ← sizeOf f.type) : Field → Sem (Nat × Nat))).run P w = .ok (fs.map fun f => (f.offset, (szP P f.type).getD 0)) w := by
  rw [Array.mapM_eq_mapM_toList, Sem.run_map, mapM_places fs.toList h]
  simp only [Result.andThen_ok]
  congr 1
  apply Array.ext'
  simp
theorem build_ok {t : TypeId} {parts : List (Nat × AV)} {ps : List (Nat × Value)} (hl : ps.length = parts.length)
    (hp : ∀ (i : Nat) (p : Nat × AV) (q : Nat × Value), parts[i]? = some p → ps[i]? = some q → q.1 = p.1 ∧ Ok M β s p.2 q.2) {r : AV} (hr : evBuild P t parts = some r) :
    ∃ y, (Instr.build t ps.toArray).run P w = .ok y w ∧ Ok M β s r y := by
  unfold evBuild at hr
  split at hr
  · cases hr
  · rename_i zs hz
    obtain ⟨z, hz1, hz2, hz3⟩ := zeroP_spec (P := P) (w := w) hz
    have hrep : RepAt M β (zs.map .v) z.cells 0 := by
      have := repAt_v (M := M) (β := β) zs hz3
      rw [← hz2] at this ⊢
      simpa using this
    have hsz : z.cells.size = (zs.map AV.v).length := by rw [← hz2]; simp
    split at hr
    · rename_i fs hu
      split at hr
      · rename_i hall
        cases hf : fillA (fun i => (fs[i]?).bind fun f => (szP P f.type).map fun n => (f.offset, n)) (zs.map .v) parts with
        | none => simp [hf] at hr
        | some r' =>
          simp [hf] at hr
          subst hr
          obtain ⟨us, u1, u2, u3, u4⟩ := fill_ok _ parts ps (zs.map .v) r' z.cells hl hp hrep hsz (fun j hj => by rw [refsL_map_v] at hj; cases hj) hf
          refine ⟨.agg us, ?_, ⟨us, rfl, u3, u2⟩, fun j hj => u4 j (by simpa [AV.refs] using hj)⟩
          have hplace : (fun (x : Nat) => (fs.map fun (f : Field) => (f.offset, (szP P f.type).getD 0))[x]?) = (fun (i : Nat) => (fs[i]?).bind fun (f : Field) => (szP P f.type).map fun n => (f.offset, n)) := by
            funext i
            rw [Array.getElem?_map]
            cases hfi : fs[i]? with
            | none => rfl
            | some f =>
              have := List.all_eq_true.1 hall f (by rw [Array.mem_toList_iff]; exact Array.mem_of_getElem? hfi)
              obtain ⟨n, hn⟩ := Option.isSome_iff_exists.1 this
              simp [hn]
          simp only [Instr.build, Sem.run_bind, hz1, Result.andThen_ok, run_underlying hu, mapM_places' fs hall]
          rw [hplace, u1]
          rfl
      · cases hr
    · rename_i n e hu
      split at hr
      · rename_i z' hz'
        cases hf : fillA (fun i => some (i * z', z')) (zs.map .v) parts with
        | none => simp [hf] at hr
        | some r' =>
          simp [hf] at hr
          subst hr
          obtain ⟨us, u1, u2, u3, u4⟩ := fill_ok _ parts ps (zs.map .v) r' z.cells hl hp hrep hsz (fun j hj => by rw [refsL_map_v] at hj; cases hj) hf
          refine ⟨.agg us, ?_, ⟨us, rfl, u3, u2⟩, fun j hj => u4 j (by simpa [AV.refs] using hj)⟩
          simp only [Instr.build, Sem.run_bind, hz1, Result.andThen_ok, run_underlying hu, szP_spec hz']
          rw [u1]
          rfl
      · cases hr
    · cases hr
end
end Go.Fw
namespace Go.Fw
open Go Go.RowKit
def evLen (P : Program) (t : TypeId) (x : AV) : Option AV :=
  match x with
  | .v (.string b) => if strP P t = true then some (.v (.int .i64 b.size)) else none
  | .v (.slice none 0 0) => if (elemP P t).isSome = true then some (.v (.int .i64 0)) else none
  | .slc _ _ n _ => if (elemP P t).isSome = true then some (.v (.int .i64 n)) else none
  | .bs _ _ _ n => if (elemP P t).isSome = true then some (.v (.int .i64 n)) else none
  | _ => none
def evMinMax (isMax : Bool) : AV → List AV → Option AV
  | x, [] => some x
  | .v (.int k a), .v (.int _ b) :: rest => evMinMax isMax (.v (.int k (if isMax = true then (if a < b then b else a) else (if b < a then b else a)))) rest
  | _, _ => none
def evBuiltin (P : Program) (b : Builtin) (args : List AV) (ts : List TypeId) : Option AV :=
  match b, args, ts with
  | .len, [x], [t] => evLen P t x
  | .min, .v (.int k a) :: rest, _ => evMinMax false (.v (.int k a)) rest
  | .max, .v (.int k a) :: rest, _ => evMinMax true (.v (.int k a)) rest
  | _, _, _ => none
def evPure (P : Program) (s : AS) : Op → Option AV
  | .move x => some (s.val x)
  | .assign x => some (s.val x)
  | .pick c x y => match s.val c with
    | .v (.bool b) => some (if b = true then s.val x else s.val y)
    | _ => none
  | .load t p => (s.mem (s.val p)).bind (partAV P t)
  | .nilCheck x => match s.val x with
    | .ip l => some (.ip l)
    | .bp id off => some (.bp id off)
    | .fn f l => some (.fn f l)
    | _ => none
  | .binOp op t x y _ => evBin P op t (s.val x) (s.val y)
  | .unOp op _ x => evUn op (s.val x)
  | .convert src dst x => evConv P s src dst (s.val x)
  | .fieldAddr t x f => evFieldAddr P t (s.val x) f
  | .field t x f => evField P t (s.val x) f
  | .indexAddr t x i => evIndexAddr P t (s.val x) (s.val i)
  | .index t x i => evIndex P t (s.val x) (s.val i)
  | .slice t x lo hi mx => evSlice P t (s.val x) (lo.map s.val) (hi.map s.val) (mx.map s.val)
  | .build t parts => evBuild P t (parts.toList.map fun p => (p.1, s.val p.2))
  | .extract x i => match s.val x with
    | .tup l => l[i]?
    | _ => none
  | .makeFunc (.func f) first caps => if first.size = 0 ∧ (caps.toList.map s.val).all AV.isCell = true then some (.fn f (caps.toList.map s.val)) else none
  | .makeInterface t x => if P.concrete t = true then (match s.val x with
    | .v y => some (.v (.iface t y))
    | .agg [] => some (.v (.iface t (.agg #[])))
    | _ => none) else none
  | .call c => match c.callee with
    | .builtin b => evBuiltin P b (c.args.toList.map s.val) c.argTypes.toList
    | _ => none
  | _ => none
section
variable {P : Program} {C : Ctx} {M : Mem} {β : Loc} {s : AS} {w : World} {nt : NT} {a : Act}
theorem ok_v {x : Value} (h : x.oneCell' = true) : Ok M β s (.v x) x := ⟨⟨rfl, h⟩, by simp [AV.refs]⟩
theorem len_ok {x r : AV} {u : Value} (hx : Ok M β s x u) {t rt : TypeId} (hr : evLen P t x = some r) :
    ∃ y, (Builtin.len_ #[t] rt #[u]).run P w = .ok y w ∧ Ok M β s r y := by
  have sl : ∀ (ad : Option Addr) (n cap : Nat), (elemP P t).isSome = true → (Builtin.len_ #[t] rt #[.slice ad n cap]).run P w = .ok (goInt n) w := by
    intro ad n cap he
    obtain ⟨e, he⟩ := Option.isSome_iff_exists.1 he
    simp [Builtin.len_, run_underlying (elemP_spec he)]
  unfold evLen at hr
  split at hr
  · split at hr
    · rename_i b hs
      cases hr
      obtain ⟨rfl, _⟩ := hx.rep
      exact ⟨_, by simp [Builtin.len_, run_underlying (strP_spec hs), goInt], ok_v rfl⟩
    · cases hr
  · split at hr
    · rename_i hs
      cases hr
      obtain ⟨rfl, _⟩ := hx.rep
      exact ⟨_, sl _ _ _ hs, ok_v rfl⟩
    · cases hr
  · split at hr
    · rename_i hs
      cases hr
      obtain ⟨ad, cap, rfl, _⟩ := hx.rep
      exact ⟨_, sl _ _ _ hs, ok_v rfl⟩
    · cases hr
  · split at hr
    · rename_i hs
      cases hr
      obtain ⟨ad, cap, rfl, _⟩ := hx.rep
      exact ⟨_, sl _ _ _ hs, ok_v rfl⟩
    · cases hr
  · cases hr
theorem min_run (k : IntKind) : ∀ (l : List AV) (us : List Value) (x : Int) (r : AV), us.length = l.length → (∀ (i : Nat) (p : AV) (q : Value), l[i]? = some p → us[i]? = some q → Ok M β s p q) →
    evMinMax false (.v (.int k x)) l = some r → ∃ y, (us.foldlM Builtin.min2 (.int k x)).run P w = .ok y w ∧ Ok M β s r y
  | [], us, x, r, hl, _, hr => by
    have : us = [] := List.eq_nil_of_length_eq_zero (by simpa using hl)
    subst this
    simp [evMinMax] at hr
    subst hr
    exact ⟨_, rfl, ok_v rfl⟩
  | p :: l, us, x, r, hl, hp, hr => by
    cases us with
    | nil => simp at hl
    | cons u us =>
      have h0 := hp 0 p u rfl rfl
      cases p with
      | v y =>
        cases y <;> simp only [evMinMax] at hr <;> try (cases hr; done)
        rename_i k' b
        obtain ⟨rfl, _⟩ := h0.rep
        obtain ⟨y, h1, h2⟩ := min_run k l us _ r (by simpa using hl) (fun i p q hp' hq' => hp (i + 1) p q hp' hq') hr
        refine ⟨y, ?_, h2⟩
        simp only [List.foldlM_cons, Sem.run_bind, Builtin.min2, Sem.run_pure, Result.andThen_ok]
        simpa using h1
      | _ => simp [evMinMax] at hr
theorem max_run (k : IntKind) : ∀ (l : List AV) (us : List Value) (x : Int) (r : AV), us.length = l.length → (∀ (i : Nat) (p : AV) (q : Value), l[i]? = some p → us[i]? = some q → Ok M β s p q) →
    evMinMax true (.v (.int k x)) l = some r → ∃ y, (us.foldlM Builtin.max2 (.int k x)).run P w = .ok y w ∧ Ok M β s r y
  | [], us, x, r, hl, _, hr => by
    have : us = [] := List.eq_nil_of_length_eq_zero (by simpa using hl)
    subst this
    simp [evMinMax] at hr
    subst hr
    exact ⟨_, rfl, ok_v rfl⟩
  | p :: l, us, x, r, hl, hp, hr => by
    cases us with
    | nil => simp at hl
    | cons u us =>
      have h0 := hp 0 p u rfl rfl
      cases p with
      | v y =>
        cases y <;> simp only [evMinMax] at hr <;> try (cases hr; done)
        rename_i k' b
        obtain ⟨rfl, _⟩ := h0.rep
        obtain ⟨y, h1, h2⟩ := max_run k l us _ r (by simpa using hl) (fun i p q hp' hq' => hp (i + 1) p q hp' hq') hr
        refine ⟨y, ?_, h2⟩
        simp only [List.foldlM_cons, Sem.run_bind, Builtin.max2, Sem.run_pure, Result.andThen_ok]
        simpa using h1
      | _ => simp [evMinMax] at hr
theorem bltin_ok {b : Builtin} {l : List AV} {us : List Value} (hl : us.length = l.length) (hp : ∀ (i : Nat) (p : AV) (q : Value), l[i]? = some p → us[i]? = some q → Ok M β s p q)
    {ts : List TypeId} {rt : TypeId} {r : AV} (hr : evBuiltin P b l ts = some r) : ∃ y, (∀ cs, (builtin b ts.toArray rt cs us.toArray).run P w = .ok (.value y) w) ∧ Ok M β s r y := by
  unfold evBuiltin at hr
  split at hr
  · rename_i x t
    match us, hl with
    | [u], _ =>
      obtain ⟨y, h1, h2⟩ := len_ok (P := P) (w := w) (rt := rt) (hp 0 x u rfl rfl) hr
      exact ⟨y, fun _ => by simp [builtin, h1], h2⟩
  · rename_i k x rest
    cases us with
    | nil => simp at hl
    | cons u us =>
      obtain ⟨rfl, _⟩ := (hp 0 _ u rfl rfl).rep
      obtain ⟨y, h1, h2⟩ := min_run (P := P) (w := w) k rest us x r (by simpa using hl) (fun i p q hp' hq' => hp (i + 1) p q hp' hq') hr
      exact ⟨y, fun _ => by simp [builtin, Builtin.min_, h1], h2⟩
  · rename_i k x rest
    cases us with
    | nil => simp at hl
    | cons u us =>
      obtain ⟨rfl, _⟩ := (hp 0 _ u rfl rfl).rep
      obtain ⟨y, h1, h2⟩ := max_run (P := P) (w := w) k rest us x r (by simpa using hl) (fun i p q hp' hq' => hp (i + 1) p q hp' hq') hr
      exact ⟨y, fun _ => by simp [builtin, Builtin.max_, h1], h2⟩
  · cases hr
theorem okO_map (h : Rel C M β s w) (hs : Slots nt M β s a) (o : Option Operand) : OkO M β (o.map s.val) (o.map a.eval) := by
  cases o with
  | none => trivial
  | some o => exact (val_ok h hs o).rep
theorem map_val_ok (h : Rel C M β s w) (hs : Slots nt M β s a) (os : List Operand) (i : Nat) (p : AV) (q : Value) (hp : (os.map s.val)[i]? = some p) (hq : (os.map a.eval)[i]? = some q) : Ok M β s p q := by
  rw [List.getElem?_map] at hp hq
  cases ho : os[i]? with
  | none => rw [ho] at hp; cases hp
  | some o => rw [ho] at hp hq; cases hp; cases hq; exact val_ok h hs o
theorem pure_ok (h : Rel C M β s w) (hs : Slots nt M β s a) (o : Oper) {r : AV} (hr : evPure P s o.op = some r) :
    ∃ y, (execOp a.eval o).run P w = .ok (.value y) w ∧ Ok M β s r y := by
  obtain ⟨dst, op, ty, pos, after, guard⟩ := o
  simp only at hr
  cases op <;> simp only [evPure] at hr <;> try (cases hr; done)
  case move x => cases hr; exact ⟨_, rfl, val_ok h hs x⟩
  case assign x => cases hr; exact ⟨_, rfl, val_ok h hs x⟩
  case pick c x y =>
    split at hr
    · rename_i b hb
      cases hr
      have hc := (val_ok h hs c)
      rw [hb] at hc
      have hc' := hc.rep.1
      cases b
      · exact ⟨_, by simp [execOp, hc', asBool], val_ok h hs y⟩
      · exact ⟨_, by simp [execOp, hc', asBool], val_ok h hs x⟩
    · cases hr
  case load t p =>
    cases hm : s.mem (s.val p) with
    | none => simp [hm] at hr
    | some l =>
      simp [hm] at hr
      obtain ⟨y, h1, h2⟩ := load_ok (P := P) h (val_ok h hs p) hm hr
      exact ⟨y, by simp [execOp, h1], h2⟩
  case nilCheck x =>
    have hx := val_ok h hs x
    split at hr
    · rename_i l hl
      cases hr
      rw [hl] at hx
      obtain ⟨b, o, cs, he, _⟩ := hx.rep
      exact ⟨a.eval x, by simp [execOp, he], hx⟩
    · rename_i id off hl
      cases hr
      rw [hl] at hx
      obtain ⟨b, sz, _, he⟩ := hx.rep
      exact ⟨a.eval x, by simp [execOp, he], hx⟩
    · rename_i f l hl
      cases hr
      rw [hl] at hx
      obtain ⟨vs, he, _⟩ := hx.rep
      exact ⟨a.eval x, by simp [execOp, he], hx⟩
    · cases hr
  case binOp op t x y yt =>
    obtain ⟨z, h1, h2⟩ := bin_ok (P := P) (w := w) (val_ok h hs x) (val_ok h hs y) hr x y
    exact ⟨z, by simp only [execOp, Sem.run_bind] at h1 ⊢; rw [h1]; rfl, h2⟩
  case unOp op t x =>
    obtain ⟨z, h1, h2⟩ := un_ok (P := P) (w := w) (val_ok h hs x) hr
    exact ⟨z, by simp [execOp, h1], h2⟩
  case convert src dst x =>
    obtain ⟨z, h1, h2⟩ := conv_ok (P := P) h (val_ok h hs x) hr
    exact ⟨z, by simp [execOp, h1], h2⟩
  case fieldAddr t x f =>
    obtain ⟨z, h1, h2⟩ := fieldAddr_ok (P := P) (w := w) (val_ok h hs x) hr
    exact ⟨z, by simp [execOp, h1], h2⟩
  case field t x f =>
    obtain ⟨z, h1, h2⟩ := field_ok (P := P) (w := w) (val_ok h hs x) hr
    exact ⟨z, by simp [execOp, h1], h2⟩
  case indexAddr t x i =>
    obtain ⟨z, h1, h2⟩ := indexAddr_ok (P := P) (w := w) (val_ok h hs x) (val_ok h hs i) hr
    exact ⟨z, by simp [execOp, h1], h2⟩
  case index t x i =>
    obtain ⟨z, h1, h2⟩ := index_ok (P := P) (w := w) (val_ok h hs x) (val_ok h hs i) hr
    exact ⟨z, by simp [execOp, h1], h2⟩
  case slice t x lo hi mx =>
    obtain ⟨z, h1, h2⟩ := slice_ok (P := P) (w := w) (val_ok h hs x) (okO_map h hs lo) (okO_map h hs hi) (okO_map h hs mx) hr
    exact ⟨z, by simp [execOp, h1], h2⟩
  case build t parts =>
    obtain ⟨z, h1, h2⟩ := build_ok (P := P) (w := w) (s := s) (M := M) (β := β) (parts := parts.toList.map fun p => (p.1, s.val p.2)) (ps := parts.toList.map fun p => (p.1, a.eval p.2)) (by simp)
      (fun i p q hp hq => by
        rw [List.getElem?_map] at hp hq
        cases ho : parts.toList[i]? with
        | none => rw [ho] at hp; cases hp
        | some o => rw [ho] at hp hq; cases hp; cases hq; exact ⟨rfl, val_ok h hs o.2⟩) hr
    refine ⟨z, ?_, h2⟩
    have e : (parts.map fun x => match x with | (i, x) => (i, a.eval x)) = (parts.toList.map fun p => (p.1, a.eval p.2)).toArray := by
      apply Array.ext'
      simp
    simp only [execOp, Sem.run_bind]
    rw [e, h1]
    rfl
  case extract x i =>
    have hx := val_ok h hs x
    split at hr
    · rename_i l hl
      rw [hl] at hx
      obtain ⟨vs, he, h1, h2⟩ := hx.rep
      obtain ⟨y, h3, h4⟩ := (RepT.iff l vs 0).1 h2 i r hr
      simp only [Nat.zero_add] at h3
      refine ⟨y, by simp [execOp, he, Instr.extract, h3], h4, fun j hj => hx.ref j ?_⟩
      simp only [AV.refs]
      exact mem_refsL.2 ⟨r, List.mem_of_getElem? hr, hj⟩
    · cases hr
  case makeFunc fn first caps =>
    cases fn <;> simp only at hr <;> try (cases hr; done)
    rename_i f
    split at hr
    · rename_i hc
      cases hr
      refine ⟨.func (.func f) #[] (caps.map a.eval), ?_, ⟨caps.map a.eval, rfl, by simp, ?_⟩, ?_⟩
      · have : first = #[] := by simpa using hc.1
        subst this
        simp [execOp, Instr.makeFunc]
      · rw [RepAt.iff]
        intro i v hv
        rw [List.getElem?_map] at hv
        cases ho : caps.toList[i]? with
        | none => rw [ho] at hv; cases hv
        | some o =>
          rw [ho] at hv
          simp at hv
          subst hv
          have hok := val_ok h hs o
          have hcell : (s.val o).isCell = true := List.all_eq_true.1 hc.2 _ (List.mem_map.2 ⟨o, List.mem_of_getElem? ho, rfl⟩)
          have ho' : caps[i]? = some o := by simpa using ho
          exact ⟨a.eval o, by simp [ho'], oneCell_of_cell hcell hok.rep, hok.rep⟩
      · intro j hj
        simp only [AV.refs] at hj
        obtain ⟨v, hv, hj⟩ := mem_refsL.1 hj
        obtain ⟨o, _, rfl⟩ := List.mem_map.1 hv
        exact (val_ok h hs o).ref j hj
    · cases hr
  case makeInterface t x =>
    have hx := val_ok h hs x
    split at hr
    · rename_i hc
      split at hr
      · rename_i y hy
        cases hr
        rw [hy] at hx
        refine ⟨_, ?_, ok_v rfl⟩
        simp [execOp, hx.rep.1, run_makeInterface w t y hc]
      · rename_i hy
        cases hr
        rw [hy] at hx
        obtain ⟨vs, he, h1, _⟩ := hx.rep
        have : vs = #[] := by simpa using h1
        subst this
        refine ⟨_, ?_, ok_v rfl⟩
        simp [execOp, he, run_makeInterface w t _ hc]
      · cases hr
    · cases hr
  case call c =>
    split at hr
    · rename_i b hb
      obtain ⟨y, h1, h2⟩ := bltin_ok (P := P) (w := w) (s := s) (M := M) (β := β) (us := c.args.toList.map a.eval) (rt := ty) (by simp)
        (map_val_ok h hs c.args.toList) hr
      refine ⟨y, ?_, h2⟩
      have e : c.args.map a.eval = (c.args.toList.map a.eval).toArray := by apply Array.ext'; simp
      simp only [execOp, resolve, hb, Sem.run_bind, Sem.run_pure, Result.andThen_ok, invoke]
      rw [e]
      exact h1 _
    · cases hr
end
end Go.Fw
namespace Go.Fw
open Go Go.RowKit
structure Eff where
  v : AV
  kill : Option Nat
  d : Nat
  e : TypeId
  l : List AV
  fresh : Bool
def AS.eff (s : AS) (f : Eff) : AS :=
  ⟨s.env, upd (killBox f.kill s.box) f.d (some (.mut f.e f.l)), if f.fresh = true then (fun i => i = f.d ∨ s.used i) else s.used⟩
def bytesP (P : Program) (t : TypeId) : Option Nat := (P.info? t).map (·.bytes)
def inOrder : Nat → List (Nat × AV) → Bool
  | _, [] => true
  | k, p :: r => p.1 == k && inOrder (k + 1) r
def catA (z : Nat) : List (Nat × AV) → Option (List AV)
  | [] => some []
  | p :: r => match p.2.cells?, catA z r with
    | some cs, some l => if cs.length = z then some (cs ++ l) else none
    | _, _ => none
def byteV (c : UInt8) : AV := .v (.int .u8 c.toNat)
def appDest (s : AS) (e : TypeId) (z : Nat) : AV → Option (Nat × List AV × Option Nat)
  | .bs id z' off n => match s.box id with
    | some (.mut e' l) => if z' = z ∧ off = 0 ∧ e' = e ∧ n * z = l.length then some (n, l, some id) else none
    | _ => none
  | .v (.slice none 0 0) => some (0, [], none)
  | .slc true z' n _ => if z' = z ∧ n = 0 then some (0, [], none) else none
  | _ => none
def evAppend (P : Program) (s : AS) (d : Nat) (args : List AV) (ts : List TypeId) : Option Eff :=
  match args, ts with
  | [x, y], [t, u] =>
    match elemP P t with
    | some e => match szP P e, bytesP P e, zeroP P e with
      | some z, some b, some zs => match appDest s e z x, s.elems z y with
        | some (n, l, k), some (m, l') =>
          if t = u ∧ 0 < z ∧ zs.length = z ∧ (n + m) * b ≤ 140737488355328 ∧ n + m ≤ 9223372036854775807 then
            some ⟨.bs (if k = some d then d + 1000 else d) z 0 (n + m), k, if k = some d then d + 1000 else d, e, l ++ l', true⟩ else none
        | _, _ => none
      | _, _, _ => none
    | none => none
  | _, _ => none
def evMem (P : Program) (s : AS) (dst : Option Nat) : Op → Option Eff
  | .alloc t => match dst, zeroP P t with
    | some d, some zs => some ⟨.bp d 0, none, d, t, zs.map .v, true⟩
    | _, _ => none
  | .box t x => match dst, (s.val x).cells? with
    | some d, some cs => some ⟨.bp d 0, none, d, t, cs, true⟩
    | _, _ => none
  | .buildSlice t n parts => match dst, elemP P t with
    | some d, some e => match szP P e, zeroP P e, catA ((szP P e).getD 0) (parts.toList.map fun p => (p.1, s.val p.2)) with
      | some z, some zs, some l => if zs.length = z ∧ parts.size = n ∧ inOrder 0 (parts.toList.map fun p => (p.1, s.val p.2)) = true ∧ n * z ≤ 16777216 ∧ 0 < z then
          some ⟨.bs d z 0 n, none, d, e, l, true⟩ else none
      | _, _, _ => none
    | _, _ => none
  | .makeSlice t n c => match dst, elemP P t, s.val n, s.val c with
    | some d, some e, .v (.int _ n), .v (.int _ c) => match szP P e, bytesP P e, zeroP P e with
      | some 1, some b, some [x] => if 0 ≤ n ∧ n ≤ c ∧ (b : Int) * c ≤ 281474976710656 ∧ c ≤ 9223372036854775807 then
          some ⟨.bs d 1 0 n.toNat, none, d, e, List.replicate n.toNat (.v x), true⟩ else none
      | _, _, _ => none
    | _, _, _, _ => none
  | .store t p x => match dst, s.val p, (s.val x).cells? with
    | none, .bp id off, some cs => match s.box id with
      | some (.mut e l) => if szP P t = some cs.length ∧ off + cs.length ≤ l.length then some ⟨.tup [], some id, id, e, setAt l off cs, false⟩ else none
      | _ => none
    | _, _, _ => none
  | .convert src ty x => match dst, s.val x, elemP P ty with
    | some d, .v (.string b), some e => if strP P src = true ∧ intP P e = some .u8 ∧ b.size ≤ 9223372036854775807 then
        some ⟨.bs d 1 0 b.size, none, d, e, b.data.toList.map byteV, true⟩ else none
    | _, _, _ => none
  | .call c => match dst, c.callee with
    | some d, .builtin .append => evAppend P s d (c.args.toList.map s.val) c.argTypes.toList
    | _, _ => none
  | _ => none
theorem run_storeCells_free (P : Program) (g o : Nat) (t : TypeId) (fz : Nat × Nat) : ∀ (vs : List Value) (i : Nat) (cur : Array Value) (w : World), w.heap[g]? = some (.cells cur t fz) → Free cur.size fz →
    o + i + vs.length ≤ cur.size → (∀ v ∈ vs, v.oneCell' = true) →
    (storeCells ⟨g, o, none⟩ vs i).run P w = .ok () (w.setRow g (cur.toList.take (o + i) ++ vs ++ cur.toList.drop (o + i + vs.length)).toArray)
  | [], i, cur, w, hg, _, _, _ => by
    simp only [storeCells, List.append_nil, List.length_nil, Nat.add_zero, List.take_append_drop, Array.toArray_toList]
    rw [setRow_self w g cur t fz hg]
    rfl
  | v :: rest, i, cur, w, hg, hf, hl, h1 => by
    have hi : o + i < cur.size := by simp at hl; omega
    have hadd : (⟨g, o, none⟩ : Addr).add i = ⟨g, o + i, none⟩ := Addr.add_lit g o i
    have hcell : w.cell? ⟨g, o + i, none⟩ = some cur[o + i] := by simp [World.cell?, hg, hi]
    have hfro : w.frozen? ⟨g, o + i, none⟩ = false := by
      have := hf (o + i) hi
      simp only [World.frozen?, hg]
      exact this
    have hst : (store ((⟨g, o, none⟩ : Addr).add i) v).run P w = .ok () (w.setRow g (cur.setIfInBounds (o + i) v)) := by
      rw [hadd, run_store P w _ v _ (h1 v (by simp)), hcell]
      simp [hfro, setCell_eq_setRow w g (o + i) cur t fz v hg]
    have ih := run_storeCells_free P g o t fz rest (i + 1) (cur.setIfInBounds (o + i) v) (w.setRow g (cur.setIfInBounds (o + i) v)) (setRow_heap w g cur _ t _ hg) (by simpa using hf) (by simp at hl ⊢; omega) (fun x hx => h1 x (by simp [hx]))
    simp only [storeCells, Sem.run_bind, hst, Result.andThen_ok, ih, setRow_setRow]
    congr 3
    have e := list_seg_step cur.toList (o + i) v rest (by simp at hl ⊢; omega)
    simpa [Array.toList_setIfInBounds, Nat.add_assoc] using e
section
variable {P : Program} {C : Ctx} {M : Mem} {β : Loc} {s : AS} {w : World} {nt : NT} {a : Act}
def After (C : Ctx) (M : Mem) (β : Loc) (s : AS) (f : Eff) (r : Result Next) : Prop :=
  ∃ y w' β', (r = .ok (.value y) w' ∨ (r = .ok .skip w' ∧ y = undef)) ∧ Rel C M β' (s.eff f) w' ∧ (∀ id, s.used id → β' id = β id) ∧ Rep M β' f.v y ∧ ∀ id ∈ f.v.refs, (s.eff f).used id
theorem after_new (h : Rel C M β s w) {d : Nat} (hd : ¬ s.used d) {e : TypeId} {cs : Array Value} {l : List AV} (hl : RepAt M β l cs 0) (hlen : l.length ≤ cs.size)
    (hr : ∀ j ∈ refsL l, s.used j) {v : AV} (hv : v.refs = [d]) {r : Result Next} {y : Value} (hrun : r = .ok (.value y) (w.alloc (.cells cs e)))
    (hy : Rep M (upd β d (some (w.heap.size, cs.size))) v y) : After C M β s ⟨v, none, d, e, l, true⟩ r := by
  obtain ⟨h1, h2⟩ := h.alloc hd (e := e) hl hlen hr
  exact ⟨y, _, _, .inl hrun, h1.env rfl rfl, h2, hy, fun id hid => by rw [hv] at hid; simp at hid; subst hid; exact .inl rfl⟩
theorem alloc_ok (h : Rel C M β s w) {t d : Nat} (hd : ¬ s.used d) {zs : List Value} (hz : zeroP P t = some zs) (o : Oper) (ho : o.op = .alloc t) :
    After C M β s ⟨.bp d 0, none, d, t, zs.map .v, true⟩ ((execOp a.eval o).run P w) := by
  obtain ⟨z, h1, h2, h3⟩ := zeroP_spec (P := P) (w := w) hz
  subst h2
  have hrep : RepAt M β (z.cells.toList.map .v) z.cells 0 := by simpa using repAt_v (M := M) (β := β) z.cells.toList h3
  refine after_new (cs := z.cells) h hd hrep (by simp) (fun j hj => by rw [refsL_map_v] at hj; cases hj) rfl (y := .pointer (some ⟨w.heap.size, 0, none⟩)) ?_ ⟨w.heap.size, z.cells.size, by simp [upd], rfl⟩
  simp [execOp, ho, Instr.alloc, h1, newVar, newRow]
theorem box_ok (h : Rel C M β s w) (hs : Slots nt M β s a) {t d : Nat} (hd : ¬ s.used d) {x : Operand} {cs : List AV} (hc : (s.val x).cells? = some cs) (o : Oper) (ho : o.op = .box t x) :
    After C M β s ⟨.bp d 0, none, d, t, cs, true⟩ ((execOp a.eval o).run P w) := by
  have hx := val_ok h hs x
  obtain ⟨h1, h2, h3, _⟩ := cells_ok hx.rep hc
  refine after_new h hd h1 (by omega) (fun j hj => hx.ref j (by rw [← h3]; exact hj)) rfl (y := .pointer (some ⟨w.heap.size, 0, none⟩)) ?_ ⟨w.heap.size, (a.eval x).cells.size, by simp [upd], rfl⟩
  simp [execOp, ho, Instr.box, newVar, newRow]
theorem store_ok (h : Rel C M β s w) (hs : Slots nt M β s a) {t : TypeId} {p x : Operand} {id off : Nat} (hp : s.val p = .bp id off) {cs : List AV} (hc : (s.val x).cells? = some cs)
    {e : TypeId} {l : List AV} (hb : s.box id = some (.mut e l)) (hsz : szP P t = some cs.length) (hle : off + cs.length ≤ l.length) (o : Oper) (ho : o.op = .store t p x) :
    After C M β s ⟨.tup [], some id, id, e, setAt l off cs, false⟩ ((execOp a.eval o).run P w) := by
  have hx := val_ok h hs x
  have hpp := val_ok h hs p
  rw [hp] at hpp
  obtain ⟨b, sz, k1, hpv⟩ := hpp.rep
  obtain ⟨c1, c2, c3, c4⟩ := cells_ok hx.rep hc
  rcases h.mutb id e l hb with ⟨hn, _⟩ | ⟨b', cur, k2, ⟨fz, k3, kf⟩, k4, k5, k6, k7⟩
  · rw [hn] at k1; cases k1
  · rw [k2] at k1; cases k1
    have hst := run_storeCells_free P b off e fz (a.eval x).cells.toList 0 cur w k3 kf (by simp; omega) c4
    simp only [Nat.add_zero] at hst
    let new := (cur.toList.take off ++ (a.eval x).cells.toList ++ cur.toList.drop (off + (a.eval x).cells.toList.length)).toArray
    have hns : new.size = cur.size := by simp [new]; omega
    have hrep : RepAt M β (setAt l off cs) new 0 := by
      rw [RepAt.iff]
      intro i v hv
      rw [setAt_get l cs off hle] at hv
      simp only [Nat.zero_add, new, List.getElem?_toArray]
      by_cases h1 : off ≤ i ∧ i < off + cs.length
      · rw [if_pos h1] at hv
        have := (RepAt.iff cs _ 0).1 c1 (i - off) v hv
        rw [List.append_assoc, List.getElem?_append_right (by simp; omega), List.getElem?_append_left (by simp; omega)]
        simp only [Nat.zero_add, List.length_take, Array.length_toList, Array.getElem?_toList] at this ⊢
        rwa [show min off cur.size = off from by omega]
      · rw [if_neg h1] at hv
        have := (RepAt.iff l _ 0).1 k4 i v hv
        simp only [Nat.zero_add] at this
        by_cases h2 : i < off
        · rw [List.append_assoc, List.getElem?_append_left (by simp; omega), List.getElem?_take, if_pos h2]
          simpa using this
        · rw [List.getElem?_append_right (by simp; omega), List.getElem?_drop]
          simp only [List.length_append, List.length_take, Array.length_toList, Array.getElem?_toList]
          rw [show off + (a.eval x).cells.size + (i - (min off cur.size + (a.eval x).cells.size)) = i from by omega]
          exact this
    have hRel := h.renew (w' := w.setRow b new) (some id) id e (setAt l off cs) (β id) (some b) (.inr ⟨rfl, rfl⟩) rfl rfl rfl (by simp [World.setRow]) (fun k _ hk => setRow_other w b k _ (fun he => hk (by rw [he])))
      (fun b' hb' => by cases hb'; exact ⟨id, e, l, cur.size, rfl, hb, k2⟩)
      (.inr ⟨b, new, by rw [hns]; exact k2, ⟨fz, setRow_heap w b cur new e fz k3, by rw [hns]; exact kf⟩, hrep, by rw [setAt_length l cs off hle]; omega, .inr rfl⟩)
      (fun j hj => by
        rcases setAt_refs hj with hj | hj
        · exact h.refB id e l hb j hj
        · exact hx.ref j (by rw [← c3]; exact hj))
    refine ⟨undef, w.setRow b new, upd β id (β id), .inr ⟨?_, rfl⟩, ?_, hRel.2, ⟨#[], rfl, rfl, trivial⟩, by simp [AV.refs, refsL]⟩
    · have hcs : (a.eval x).cells.size = cs.length := c2
      simp [execOp, ho, Instr.storeAt, hpv, Instr.sureAddr, storeVar, szP_spec hsz, hcs, hst, new]
    · refine hRel.1.less (fun i x hx => hx) (fun i x hx => ?_) (fun i e' l' hi j hj => ?_) (fun i hi => (h.pin i hi).1) _
      · rcases hRel.1.useB i (by rw [hx]; simp) with h1 | h1
        · subst h1; exact h.useB i (by rw [hb]; simp)
        · exact h1
      · rcases hRel.1.refB i e' l' hi j hj with h1 | h1
        · subst h1; exact h.useB j (by rw [hb]; simp)
        · exact h1
theorem catA_len {z : Nat} : ∀ (ps : List (Nat × AV)) (l : List AV), catA z ps = some l → l.length = ps.length * z
  | [], l, h => by simp [catA] at h; subst h; simp
  | p :: r, l, h => by
    simp only [catA] at h
    split at h
    · rename_i cs l' hc hl
      split at h
      · rename_i hz
        cases h
        simp [catA_len r l' hl, hz, Nat.add_mul]; omega
      · cases h
    · cases h
theorem fillA_cat {z : Nat} : ∀ (ps : List (Nat × AV)) (done zr l : List AV) (k : Nat), done.length = k * z → zr.length = ps.length * z → inOrder k ps = true → catA z ps = some l →
    fillA (fun i => some (i * z, z)) (done ++ zr) ps = some (done ++ l)
  | [], done, zr, l, k, _, h2, _, h4 => by
    simp [catA] at h4
    subst h4
    have : zr = [] := List.eq_nil_of_length_eq_zero (by simpa using h2)
    subst this
    rfl
  | p :: r, done, zr, l, k, h1, h2, h3, h4 => by
    simp only [inOrder, Bool.and_eq_true, beq_iff_eq] at h3
    simp only [catA] at h4
    split at h4
    · rename_i cs l' hc hl
      split at h4
      · rename_i hz
        cases h4
        obtain ⟨i, v⟩ := p
        simp only at h3 hc
        obtain ⟨rfl, h3⟩ := h3
        simp only [List.length_cons, Nat.add_mul] at h2
        have hset : setAt (done ++ zr) (i * z) cs = (done ++ cs) ++ zr.drop z := by
          unfold setAt
          rw [← h1, List.take_left, hz, List.drop_append]
          simp
        simp only [fillA, hc]
        rw [if_pos ⟨hz, by simp; omega⟩, hset]
        rw [fillA_cat r (done ++ cs) (zr.drop z) l' (i + 1) (by simp [h1, hz, Nat.add_mul]) (by simp; omega) h3 hl]
        simp
      · cases h4
    · cases h4
theorem catA_refs {z : Nat} : ∀ (ps : List (Nat × AV)) (l : List AV), catA z ps = some l → (∀ p ∈ ps, ∀ j ∈ p.2.refs, s.used j) → (∀ p ∈ ps, ∀ cs, p.2.cells? = some cs → refsL cs = p.2.refs) → ∀ j ∈ refsL l, s.used j
  | [], l, h, _, _ => by simp [catA] at h; subst h; simp [refsL]
  | p :: r, l, h, h1, h2 => by
    simp only [catA] at h
    split at h
    · rename_i cs l' hc hl
      split at h
      · cases h
        intro j hj
        obtain ⟨v, hv, hj⟩ := mem_refsL.1 hj
        rcases List.mem_append.1 hv with hv | hv
        · exact h1 p (by simp) j (by rw [← h2 p (by simp) cs hc]; exact mem_refsL.2 ⟨v, hv, hj⟩)
        · exact catA_refs r l' hl (fun q hq => h1 q (by simp [hq])) (fun q hq => h2 q (by simp [hq])) j (mem_refsL.2 ⟨v, hv, hj⟩)
      · cases h
    · cases h
theorem zero_row (zc : Array Value) (n : Nat) (hz : zc.toList.all (·.oneCell') = true) (hn : n = 0 ∨ 0 < zc.size) :
    RepAt M β (((Array.range n).map (zc[· % zc.size]!)).toList.map .v) ((Array.range n).map (zc[· % zc.size]!)) 0 := by
  have := repAt_v (M := M) (β := β) ((Array.range n).map (zc[· % zc.size]!)).toList (by
    rw [List.all_eq_true]
    intro x hx
    simp only [Array.toList_map, List.mem_map] at hx
    obtain ⟨i, hi, rfl⟩ := hx
    rcases hn with rfl | hn
    · simp at hi
    · have hlt : i % zc.size < zc.size := Nat.mod_lt _ hn
      rw [getElem!_pos zc _ hlt]
      exact List.all_eq_true.1 hz _ (by simp))
  rwa [Array.toArray_toList] at this
theorem buildSlice_ok (h : Rel C M β s w) (hs : Slots nt M β s a) {t d n e z : Nat} (hd : ¬ s.used d) {parts : Array (Nat × Operand)} {zs : List Value} {l : List AV}
    (he : elemP P t = some e) (hsz : szP P e = some z) (hz : zeroP P e = some zs) (hc : catA z (parts.toList.map fun p => (p.1, s.val p.2)) = some l)
    (hzl : zs.length = z) (hn : parts.size = n) (ho : inOrder 0 (parts.toList.map fun p => (p.1, s.val p.2)) = true) (h24 : n * z ≤ 16777216) (hz0 : 0 < z) (o : Oper) (hop : o.op = .buildSlice t n parts) :
    After C M β s ⟨.bs d z 0 n, none, d, e, l, true⟩ ((execOp a.eval o).run P w) := by
  obtain ⟨zv, h1, h2, h3⟩ := zeroP_spec (P := P) (w := w) hz
  subst h2
  have hzz : zv.cells.size = z := by simpa using hzl
  have hlen : l.length = n * z := by rw [catA_len _ _ hc]; simp [hn]
  have href : ∀ j ∈ refsL l, s.used j := catA_refs _ _ hc
    (fun p hp j hj => by obtain ⟨q, _, rfl⟩ := List.mem_map.1 hp; exact (val_ok h hs q.2).ref j hj)
    (fun p hp cs hcs => by obtain ⟨q, _, rfl⟩ := List.mem_map.1 hp; exact (cells_ok (val_ok h hs q.2).rep hcs).2.2.1)
  have hn24 : n ≤ 16777216 := Nat.le_trans (Nat.le_mul_of_pos_right n hz0) h24
  let zc : Array Value := if n * z = 0 then #[] else zv.cells
  have hzc1 : zc.toList.all (·.oneCell') = true := by
    simp only [zc]
    split
    · rfl
    · exact h3
  have hzc2 : n * z = 0 ∨ 0 < zc.size := by
    by_cases h0 : n * z = 0
    · exact .inl h0
    · right
      simp only [zc, h0, if_false, hzz]
      exact hz0
  have hrow := zero_row (M := M) (β := β) zc (n * z) hzc1 hzc2
  let row := (Array.range (n * z)).map (zc[· % zc.size]!)
  have hrs : row.size = n * z := by simp [row]
  have hfa : fillA (fun i => some (i * z, z)) (row.toList.map .v) (parts.toList.map fun p => (p.1, s.val p.2)) = some l := by
    have := fillA_cat (parts.toList.map fun p => (p.1, s.val p.2)) [] (row.toList.map .v) l 0 (by simp) (by simp [hrs, hn]) ho hc
    simpa using this
  obtain ⟨us, u1, u2, u3, u4⟩ := fill_ok (s := s) (M := M) (β := β) (fun i => some (i * z, z)) (parts.toList.map fun p => (p.1, s.val p.2)) (parts.toList.map fun p => (p.1, a.eval p.2)) (row.toList.map .v) l row (by simp)
    (fun i p q hp hq => by
        rw [List.getElem?_map] at hp hq
        cases ho : parts.toList[i]? with
        | none => rw [ho] at hp; cases hp
        | some o => rw [ho] at hp hq; cases hp; cases hq; exact ⟨rfl, val_ok h hs o.2⟩) hrow (by simp) (fun j hj => by rw [refsL_map_v] at hj; cases hj) hfa
  refine after_new h hd u2 (by omega) href rfl (y := .slice (some ⟨w.heap.size, 0, none⟩) n n) ?_ ⟨_, n, rfl, Nat.le_refl _, by simp only [maxLen]; omega, fun _ => ⟨w.heap.size, us.size, by simp [upd], rfl, by omega⟩⟩
  have e1 : (parts.map fun x => match x with | (i, x) => (i, a.eval x)) = (parts.toList.map fun p => (p.1, a.eval p.2)).toArray := by
    apply Array.ext'
    simp
  have hrun : (Instr.buildSlice t n (parts.map fun x => match x with | (i, x) => (i, a.eval x))).run P w = .ok (.slice (some ⟨w.heap.size, 0, none⟩) n n) (w.alloc (.cells us e)) := by
    rw [e1]
    simp only [Instr.buildSlice, Sem.run_bind, run_underlying (elemP_spec he), Result.andThen_ok, szP_spec hsz]
    rw [if_neg (by omega)]
    have hfill : Instr.fill (fun i => some (i * z, z)) ((Array.range (n * z)).map (zc[· % zc.size]!)) (parts.toList.map fun p => (p.1, a.eval p.2)) = some us := u1
    by_cases h0 : n * z = 0
    · simp only [zc, h0, if_true] at hfill
      simp only [h0, if_true, Sem.run_bind, Sem.run_pure, Result.andThen_ok]
      rw [hfill]
      rfl
    · simp only [zc, h0, if_false] at hfill
      simp only [h0, if_false, Sem.run_bind, Sem.run_pure, h1, Result.andThen_ok]
      rw [hfill]
      rfl
  simp only [execOp, hop, Sem.run_bind, hrun, Result.andThen_ok, Sem.run_pure]
end
end Go.Fw
namespace Go.Fw
open Go Go.RowKit
section
variable {P : Program} {C : Ctx} {M : Mem} {β : Loc} {s : AS} {w : World} {nt : NT} {a : Act}
theorem info_of {e z b : Nat} {zs : List Value} (h1 : szP P e = some z) (h2 : bytesP P e = some b) (h3 : zeroP P e = some zs) :
    ∃ i zv, P.info? e = some i ∧ i.size = z ∧ i.bytes = b ∧ i.zero = some zv ∧ zv.cells.toList = zs := by
  unfold szP at h1
  unfold bytesP at h2
  unfold zeroP at h3
  cases hi : P.info? e with
  | none => simp [hi] at h1
  | some i =>
    simp [hi] at h1 h2
    simp only [hi, Option.bind_some] at h3
    cases hz : i.zero with
    | none => simp [hz] at h3
    | some zv =>
      simp only [hz] at h3
      split at h3
      · cases h3; exact ⟨i, zv, rfl, h1, h2, hz, rfl⟩
      · cases h3
theorem makeSlice_ok (h : Rel C M β s w) {t d e b : Nat} (hd : ¬ s.used d) {x : Value} {n c : Operand} {kn kc : IntKind} {N Cc : Int} (hn : a.eval n = .int kn N) (hc : a.eval c = .int kc Cc)
    (he : elemP P t = some e) (hsz : szP P e = some 1) (hb : bytesP P e = some b) (hz : zeroP P e = some [x]) (h0 : 0 ≤ N) (h1 : N ≤ Cc) (h2 : (b : Int) * Cc ≤ 281474976710656) (h3 : Cc ≤ 9223372036854775807)
    (o : Oper) (ho : o.op = .makeSlice t n c) :
    After C M β s ⟨.bs d 1 0 N.toNat, none, d, e, List.replicate N.toNat (.v x), true⟩ ((execOp a.eval o).run P w) := by
  obtain ⟨i, zv, hi, e1, e2, e3, e4⟩ := info_of hsz hb hz
  have hx1 : x.oneCell' = true := by
    obtain ⟨zv', h1, h2, h3⟩ := zeroP_spec (P := P) (w := w) hz
    simpa using h3
  have hzc : zv.cells = #[x] := by apply Array.ext'; simpa using e4
  have hrun := run_make (P := P) w t e i zv (elemP_spec he) hi e3 kn kc N Cc h0 h1 (by rw [e2]; exact h2) h3
  rw [e1, hzc, Nat.mul_one] at hrun
  have hcell : ∀ j, j < Cc.toNat → (madeCells #[x] Cc.toNat)[j]? = some x := by
    intro j hj
    simp only [madeCells, Array.getElem?_map]
    rw [Array.getElem?_eq_getElem (by simpa using hj)]
    simp [Nat.mod_one]
  have hsize : (madeCells #[x] Cc.toNat).size = Cc.toNat := size_madeCells _ _
  refine after_new h hd (cs := madeCells #[x] Cc.toNat) ?_ (by rw [hsize]; simp; omega) ?_ rfl (y := .slice (some ⟨w.heap.size, 0, none⟩) N.toNat Cc.toNat) ?_
    ⟨_, Cc.toNat, rfl, by omega, by simp only [maxLen]; omega, fun _ => ⟨w.heap.size, (madeCells #[x] Cc.toNat).size, by simp [upd], rfl, by rw [hsize]; omega⟩⟩
  · rw [RepAt.iff]
    intro j v hv
    rw [List.getElem?_replicate] at hv
    split at hv
    · cases hv
      exact ⟨x, by rw [Nat.zero_add]; exact hcell j (by omega), hx1, rfl, hx1⟩
    · cases hv
  · intro j hj
    obtain ⟨v, hv, hj⟩ := mem_refsL.1 hj
    rw [List.eq_of_mem_replicate hv] at hj
    cases hj
  · simp only [execOp, ho, Sem.run_bind, hn, hc, hrun, Result.andThen_ok, Sem.run_pure]
theorem bytes_ok (h : Rel C M β s w) {src t d e : Nat} (hd : ¬ s.used d) {x : Operand} {b : ByteArray} (hx : a.eval x = .string b) (hs : strP P src = true) (he : elemP P t = some e) (hk : intP P e = some .u8)
    (hb : b.size ≤ 9223372036854775807) (o : Oper) (ho : o.op = .convert src t x) :
    After C M β s ⟨.bs d 1 0 b.size, none, d, e, b.data.toList.map byteV, true⟩ ((execOp a.eval o).run P w) := by
  let cap := (Question.appendCap b.size 0 e).cut (w.tape w.drawn (.appendCap b.size 0 e))
  have hge : b.size ≤ cap := by simp only [cap, Question.cut]; omega
  have hcm : cap ≤ maxLen := by
    have hlt := Nat.mod_lt (w.tape w.drawn (.appendCap b.size 0 e)) (show 0 < 2 ^ 63 - b.size by omega)
    simp only [cap, Question.cut, maxLen]
    omega
  let cs : Array Value := (b.data.map fun c => Value.int .u8 c.toNat) ++ Array.replicate (cap - b.size) (.int .u8 0)
  have hbs : b.data.size = b.size := rfl
  have hcs : cs.size = cap := by simp [cs, hbs]; omega
  let w1 : World := w.drew.alloc (.cells cs e)
  have hd1 := h.draw (w' := w.drew) rfl rfl rfl rfl
  let w2 : World := w1.freeze ⟨w.heap.size, cs.size, none⟩ 1
  have hw1 : w1.heap[w.heap.size]? = some (.cells cs e) := heap_alloc_new w.drew _
  have hfz : ∃ fz, w2.heap[w.heap.size]? = some (.cells cs e fz) ∧ Free cs.size fz := by
    refine ⟨(cs.size, cs.size + 1), ?_, fun i hi => by simp; omega⟩
    simp [w2, World.freeze, Array.getElem?_modify, hw1]
  have hrun : (execOp a.eval o).run P w = .ok (.value (.slice (some ⟨w.heap.size, 0, none⟩) b.size cap)) w2 := by
    have e1 : (convert src t (.string b)).run P w = (Conv.stringToBytes e b).run P w := by
      simp [convert, run_underlying (strP_spec hs), run_underlying (elemP_spec he), run_underlying (intP_spec hk)]
    have e2 : (Conv.stringToBytes e b).run P w = .ok (.slice (some ⟨w.heap.size, 0, none⟩) b.size cap) w2 := by
      have hsh : w1.shape? w.heap.size = some (e, cs.size) := by simp [World.shape?, hw1]
      have hm : (markStringish ⟨w.heap.size, 0, none⟩).run P w1 = .ok () w2 := by
        simp [markStringish, hsh, w2]
      have hnr : (newRow e cs).run P w.drew = .ok ⟨w.heap.size, 0, none⟩ w1 := rfl
      have hch : (choose (.appendCap b.size 0 e)).run P w = .ok cap w.drew := by
        simp [run_choose, Question.forced, cap]
      unfold Conv.stringToBytes
      rw [Sem.run_bind, hch, Result.andThen_ok]
      simp only [Sem.run_bind]
      have hnr' : (newRow e ((b.data.map fun b => Value.int .u8 b.toNat) ++ Array.replicate (cap - b.size) (.int .u8 0))).run P w.drew = .ok ⟨w.heap.size, 0, none⟩ w1 := hnr
      rw [hnr', Result.andThen_ok, hm]
      rfl
    simp only [execOp, ho, Sem.run_bind, hx, e1, e2, Result.andThen_ok, Sem.run_pure]
  have hrep : RepAt M β (b.data.toList.map byteV) cs 0 := by
    rw [RepAt.iff]
    intro j v hv
    rw [List.getElem?_map] at hv
    cases hj : b.data.toList[j]? with
    | none => rw [hj] at hv; cases hv
    | some c =>
      rw [hj] at hv
      cases hv
      rw [Array.getElem?_toList] at hj
      refine ⟨.int .u8 c.toNat, ?_, rfl, rfl, rfl⟩
      simp only [cs, Nat.zero_add]
      rw [Array.getElem?_append_left (by simp; exact (Array.getElem?_eq_some_iff.1 hj).1), Array.getElem?_map, hj]
      rfl
  have hk1 : ∀ k, k < w.heap.size → w2.heap[k]? = w.heap[k]? := by
    intro k hk
    simp only [w2, World.freeze, Nat.one_ne_zero, if_false, Array.getElem?_modify]
    rw [if_neg (by omega)]
    exact Below.heap_alloc w.drew _ k hk
  have hR := h.renew (w' := w2) none d e (b.data.toList.map byteV) (some (w.heap.size, cs.size)) none (.inl hd) rfl rfl rfl (by simp [w2, World.freeze, w1]) (fun k hk _ => hk1 k hk) (fun _ hb => by cases hb)
    (.inr ⟨w.heap.size, cs, rfl, hfz, hrep, by rw [hcs]; simp [hbs]; exact hge, .inl (Nat.le_refl _)⟩)
    (fun j hj => by
      obtain ⟨v, hv, hj⟩ := mem_refsL.1 hj
      obtain ⟨c, _, rfl⟩ := List.mem_map.1 hv
      simp [byteV, AV.refs] at hj)
  refine ⟨_, w2, _, .inl hrun, hR.1.env rfl rfl, hR.2, ⟨_, cap, rfl, hge, hcm, fun _ => ⟨w.heap.size, cs.size, by simp [upd], rfl, by rw [hcs]; omega⟩⟩, fun id hid => by simp [AV.refs] at hid; subst hid; exact .inl rfl⟩
theorem firstCells_run {z m c : Nat} {ad : Option Addr} {ys : List Value} (hl : ys.length = m * z) (h : 0 < m → ∃ b o, ad = some ⟨b, o, none⟩ ∧ ∀ j y, ys[j]? = some y → w.cell? ⟨b, o + j, none⟩ = some y) :
    (Builtin.firstCells z m (.slice ad m c)).run P w = .ok ys.toArray w := by
  rcases Nat.eq_zero_or_pos m with h0 | h0
  · subst h0
    have : ys = [] := List.eq_nil_of_length_eq_zero (by simpa using hl)
    subst this
    cases ad <;> simp [Builtin.firstCells, loadCells, loadCellsFrom]
  · obtain ⟨b, o, rfl, h1⟩ := h h0
    exact run_firstCells_some w z m _ m c ys hl (fun j y hy => by rw [Addr.add_lit]; exact h1 j y hy)
theorem append_room {t ty e z : Nat} {i : TypeInfo} (ht : P.underlying t = some (.slice e)) (hi : P.info? e = some i) (hz : i.size = z) {g n cap : Nat} {cur : Array Value} {fz : Nat × Nat}
    (hg : w.heap[g]? = some (.cells cur e fz)) (hf : Free cur.size fz) {ad : Option Addr} {m c : Nat} {ys : List Value} (hl : ys.length = m * z) (h1 : ∀ y ∈ ys, y.oneCell' = true)
    (hsrc : 0 < m → ∃ b o, ad = some ⟨b, o, none⟩ ∧ ∀ j y, ys[j]? = some y → w.cell? ⟨b, o + j, none⟩ = some y) (hroom : n + m ≤ cap) (hfit : n * z + ys.length ≤ cur.size) :
    (Builtin.append_ #[t, t] ty #[.slice (some ⟨g, 0, none⟩) n cap, .slice ad m c]).run P w =
      .ok (.slice (some ⟨g, 0, none⟩) (n + m) cap) (w.setRow g (cur.toList.take (n * z) ++ ys ++ cur.toList.drop (n * z + ys.length)).toArray) := by
  subst hz
  have hfc := firstCells_run (P := P) (c := c) hl hsrc
  have hst := run_storeCells_free P g (n * i.size) e fz ys 0 cur w hg hf (by simpa using hfit) h1
  simp only [Nat.add_zero] at hst
  simp [Builtin.append_, run_underlying ht, sizeOf, typeInfo, hi, Builtin.lenOf, hroom, hfc, Addr.add_lit, hst]
theorem append_none {t ty e : Nat} {i : TypeInfo} (ht : P.underlying t = some (.slice e)) (hi : P.info? e = some i) {ad ad2 : Option Addr} {c : Nat} :
    (Builtin.append_ #[t, t] ty #[.slice ad 0 0, .slice ad2 0 c]).run P w = .ok (.slice ad 0 0) w := by
  have hfc := firstCells_run (P := P) (w := w) (z := i.size) (m := 0) (c := c) (ad := ad2) (ys := []) (by simp) (fun h => absurd h (by omega))
  cases ad <;> simp [Builtin.append_, run_underlying ht, sizeOf, typeInfo, hi, Builtin.lenOf, hfc, storeCells]
theorem append_grow {t ty e z b : Nat} {i : TypeInfo} {zv : Value} (ht : P.underlying t = some (.slice e)) (hi : P.info? e = some i) (hz : i.size = z) (hb : i.bytes = b) (hzv : i.zero = some zv) (hzs : zv.cells.size = z)
    {ad ad2 : Option Addr} {n cap m c : Nat} {xs ys : List Value} (hx : xs.length = n * z) (hy : ys.length = m * z)
    (hdst : 0 < n → ∃ g, ad = some ⟨g, 0, none⟩ ∧ ∀ j y, xs[j]? = some y → w.cell? ⟨g, 0 + j, none⟩ = some y) (hn0 : n = 0 → cap = 0 ∨ ∃ g, ad = some ⟨g, 0, none⟩)
    (hsrc : 0 < m → ∃ b o, ad2 = some ⟨b, o, none⟩ ∧ ∀ j y, ys[j]? = some y → w.cell? ⟨b, o + j, none⟩ = some y)
    (hgrow : cap < n + m) (hncap : n ≤ cap) (hbytes : (n + m) * b ≤ 140737488355328) (h63 : n + m ≤ 9223372036854775807) :
    ∃ cap' rest, n + m ≤ cap' ∧ cap' ≤ maxLen ∧ (xs.toArray ++ ys.toArray ++ rest : Array Value).size = cap' * z ∧
      (Builtin.append_ #[t, t] ty #[.slice ad n cap, .slice ad2 m c]).run P w = .ok (.slice (some ⟨w.heap.size, 0, none⟩) (n + m) cap') (w.drew.alloc (.cells (xs.toArray ++ ys.toArray ++ rest) e)) := by
  subst hz hb
  obtain ⟨sb, so, rfl, hs⟩ := hsrc (by omega)
  refine ⟨grownCap w (n + m) cap e, Builtin.zeroCells zv.cells (grownCap w (n + m) cap e - (n + m)), grownCap_ge _ _ _ _, grownCap_le_maxLen _ _ _ _ (by simp only [maxLen]; omega), ?_, ?_⟩
  · have hge := grownCap_ge w (n + m) cap e
    simp only [Array.size_append, List.size_toArray, size_zeroCells, hzs, hx, hy, ← Nat.add_mul]
    congr 1
    omega
  · have hfits : Builtin.nextslicecap (n + m) cap * i.bytes ≤ 281474976710656 := growslice_fits (by omega) hbytes
    cases ad with
    | none =>
      have hn : n = 0 := by
        rcases Nat.eq_zero_or_pos n with h | h
        · exact h
        · obtain ⟨g, hg, _⟩ := hdst h; cases hg
      subst hn
      have hc : cap = 0 := by
        rcases hn0 rfl with h | ⟨g, hg⟩
        · exact h
        · cases hg
      subst hc
      have hxs : xs = [] := List.eq_nil_of_length_eq_zero (by simpa using hx)
      subst hxs
      have := run_append_nil (P := P) w t ty e i zv ht hi hzv ⟨sb, so, none⟩ m c ys hy (fun j y hj => by rw [Addr.add_lit]; exact hs j y hj) (by omega) (by omega) (by have := hbytes; simp only [Nat.zero_add] at this; omega)
      simpa using this
    | some ad =>
      refine run_append_grow (P := P) w t ty e i zv ht hi hzv ad n cap xs hx (fun j y hj => ?_) ⟨sb, so, none⟩ m c ys hy (fun j y hj => by rw [Addr.add_lit]; exact hs j y hj) hgrow (by omega) hfits
      have hn : 0 < n := by
        rcases Nat.eq_zero_or_pos n with h | h
        · subst h
          have hxs : xs = [] := List.eq_nil_of_length_eq_zero (by simpa using hx)
          subst hxs; simp at hj
        · exact h
      obtain ⟨g, hg, hcell⟩ := hdst hn
      cases hg
      rw [Addr.add_lit]
      exact hcell j y hj
end
end Go.Fw
namespace Go.Fw
open Go Go.RowKit
section
variable {P : Program} {C : Ctx} {M : Mem} {β : Loc} {s : AS} {w : World} {nt : NT} {a : Act}
theorem append_ok (h : Rel C M β s w) {x y : AV} {u v : Value} (hx : Ok M β s x u) (hy : Ok M β s y v) {t ty e z b d n m : Nat} {zs : List Value} {k : Option Nat} {l l' : List AV}
    (he : elemP P t = some e) (hsz : szP P e = some z) (hb : bytesP P e = some b) (hz : zeroP P e = some zs) (hd : appDest s e z x = some (n, l, k)) (hs : s.elems z y = some (m, l'))
    (hz0 : 0 < z) (hzl : zs.length = z) (hbytes : (n + m) * b ≤ 140737488355328) (h63 : n + m ≤ 9223372036854775807) (hfr : ¬ s.used d) :
    ∃ r w' β', (Builtin.append_ #[t, t] ty #[u, v]).run P w = .ok r w' ∧ Rel C M β' (s.eff ⟨.bs d z 0 (n + m), k, d, e, l ++ l', true⟩) w' ∧ (∀ id, s.used id → β' id = β id) ∧ Rep M β' (.bs d z 0 (n + m)) r := by
  obtain ⟨i, zv, hi, e1, e2, e3, e4⟩ := info_of hsz hb hz
  have hu := elemP_spec he
  have hzs : zv.cells.size = z := by rw [← hzl, ← e4]; simp
  obtain ⟨ad2, c2, rfl, q1, q2, q3, q4, ys, q5, q6, q7, q8⟩ := elems_ok h hy hs
  have hyl : ys.length = m * z := by rw [q5, q1]
  -- where there was no room at all
  have bare : ∀ (ad : Option Addr), l = [] → n = 0 → (∀ i, k = some i → ∃ e0, s.box i = some (.mut e0 [])) → u = .slice ad 0 0 →
      ∃ r w' β', (Builtin.append_ #[t, t] ty #[u, .slice ad2 m c2]).run P w = .ok r w' ∧ Rel C M β' (s.eff ⟨.bs d z 0 (n + m), k, d, e, l ++ l', true⟩) w' ∧ (∀ id, s.used id → β' id = β id) ∧ Rep M β' (.bs d z 0 (n + m)) r := by
    intro ad hl hn hk hu'
    subst hl hn hu'
    simp only [Nat.zero_add, List.nil_append] at *
    rcases Nat.eq_zero_or_pos m with h0 | h0
    · subst h0
      have hl' : l' = [] := List.eq_nil_of_length_eq_zero (by simpa using q1)
      subst hl'
      obtain ⟨r1, r2⟩ := h.renew (w' := w) k d e [] none none (.inl hfr) rfl rfl rfl (Nat.le_refl _) (fun _ _ _ => rfl) (fun _ hb => by cases hb) (.inl ⟨rfl, rfl⟩) (by simp [refsL])
      exact ⟨.slice ad 0 0, w, _, append_none hu hi, r1.env rfl rfl, r2, ⟨ad, 0, rfl, Nat.le_refl _, by simp [maxLen], fun h => absurd h (by omega)⟩⟩
    · obtain ⟨cap', rest, g1, g2, g3, g4⟩ := append_grow (w := w) (ty := ty) (ad := ad) (c := c2) (xs := []) (n := 0) (cap := 0) hu hi e1 e2 e3 hzs (by simp) hyl (fun h => absurd h (by omega)) (fun _ => .inl rfl) q8 (by omega) (Nat.le_refl _) (by simpa using hbytes) (by simpa using h63)
      simp only [Nat.zero_add] at g1 g3 g4
      have hrep : RepAt M β l' ([].toArray ++ ys.toArray ++ rest : Array Value) 0 := by
        refine q6.congr fun j hj => ?_
        rw [Array.getElem?_append_left (by simp; omega), Array.getElem?_append_right (by simp)]
        simp
      obtain ⟨r1, r2⟩ := h.renew (w' := w.drew.alloc (.cells ([].toArray ++ ys.toArray ++ rest) e)) k d e l' (some (w.heap.size, ([].toArray ++ ys.toArray ++ rest : Array Value).size)) none (.inl hfr) rfl rfl rfl (by simp)
        (fun k hk _ => Below.heap_alloc w.drew _ k hk) (fun _ hb => by cases hb) (.inr ⟨w.heap.size, _, rfl, ⟨(0, 0), heap_alloc_new w.drew _, Free.zero _⟩, hrep, by simp; omega, .inl (Nat.le_refl _)⟩) q4
      exact ⟨_, _, _, g4, r1.env rfl rfl, r2, ⟨_, cap', rfl, g1, g2, fun _ => ⟨w.heap.size, _, upd_same _ _ _, rfl, by rw [Nat.zero_add]; exact g3.symm⟩⟩⟩
  unfold appDest at hd
  split at hd
  · rename_i id z' off n'
    split at hd
    · rename_i e' l1 hbox
      split at hd
      · rename_i hc
        obtain ⟨rfl, rfl, rfl, hnl⟩ := hc
        cases hd
        obtain ⟨ad, cap, rfl, k1, k2, k3⟩ := hx.rep
        rcases Nat.eq_zero_or_pos cap with h0 | h0
        · subst h0
          have hn : n = 0 := by omega
          subst hn
          have hl : l = [] := List.eq_nil_of_length_eq_zero (by simpa using hnl.symm)
          exact bare ad hl rfl (fun i hi => by cases hi; exact ⟨e', by rw [hbox, hl]⟩) rfl
        · obtain ⟨g, sz, j1, rfl, j2⟩ := k3 h0
          rcases h.mutb id e' l hbox with ⟨hn, _⟩ | ⟨g', cur, p1, ⟨fz, p2, pf⟩, p3, p4, p5, p6⟩
          · rw [hn] at j1; cases j1
          · rw [p1] at j1; cases j1
            simp only [Nat.zero_add] at j2
            by_cases hroom : n + m ≤ cap
            · have hfit : n * z' + ys.length ≤ cur.size := by rw [← j2, hyl, ← Nat.add_mul]; exact Nat.mul_le_mul_right _ hroom
              have hrun := append_room (w := w) (ty := ty) (c := c2) hu hi e1 p2 pf hyl q7 q8 hroom hfit
              let new := (cur.toList.take (n * z') ++ ys ++ cur.toList.drop (n * z' + ys.length)).toArray
              have hns : new.size = cur.size := by simp [new]; omega
              have hrep : RepAt M β (l ++ l') new 0 := by
                refine RepAt.append (p3.congr fun j hj => ?_) (q6.congr fun j hj => ?_)
                · simp only [new, Nat.zero_add, List.getElem?_toArray]
                  rw [List.append_assoc, List.getElem?_append_left (by simp; omega), List.getElem?_take, if_pos (by omega)]
                  simp
                · simp only [new, Nat.zero_add, List.getElem?_toArray]
                  rw [← hnl, List.append_assoc, List.getElem?_append_right (by simp; omega), List.getElem?_append_left (by simp; omega)]
                  congr 1
                  simp; omega
              obtain ⟨r1, r2⟩ := h.renew (w' := w.setRow g new) (some id) d e' (l ++ l') (some (g, cur.size)) (some g) (.inl hfr) rfl rfl rfl (by simp [World.setRow])
                (fun k _ hk => setRow_other w g k _ (fun he => hk (by rw [he]))) (fun b' hb' => by cases hb'; exact ⟨id, e', l, cur.size, rfl, hbox, p1⟩)
                (.inr ⟨g, new, by rw [hns], ⟨fz, setRow_heap w g cur new e' fz p2, by rw [hns]; exact pf⟩, hrep, by rw [hns, List.length_append, ← hnl, q1, ← j2, ← Nat.add_mul]; exact Nat.mul_le_mul_right _ hroom, .inr rfl⟩)
                (fun j hj => by
                  obtain ⟨v, hv, hj⟩ := mem_refsL.1 hj
                  rcases List.mem_append.1 hv with hv | hv
                  · exact h.refB id e' l hbox j (mem_refsL.2 ⟨v, hv, hj⟩)
                  · exact q4 j (mem_refsL.2 ⟨v, hv, hj⟩))
              exact ⟨_, _, _, hrun, r1.env rfl rfl, r2, ⟨_, cap, rfl, hroom, k2, fun _ => ⟨g, cur.size, by simp [upd], rfl, by omega⟩⟩⟩
            · obtain ⟨xs, x1, x2, x3, x4⟩ := p3.cells
              obtain ⟨cap', rest, g1, g2, g3, g4⟩ := append_grow (w := w) (ty := ty) (ad := some ⟨g, 0, none⟩) (c := c2) (xs := xs) (n := n) (cap := cap) hu hi e1 e2 e3 hzs (by rw [x1, hnl]) hyl
                (fun _ => ⟨g, rfl, fun j y hj => cell_of p2 (x2 j y hj)⟩) (fun _ => .inr ⟨g, rfl⟩) q8 (by omega) k1 hbytes h63
              have hrep : RepAt M β (l ++ l') (xs.toArray ++ ys.toArray ++ rest : Array Value) 0 := by
                refine RepAt.append (x4.congr fun j hj => ?_) (q6.congr fun j hj => ?_)
                · rw [Array.append_assoc, Array.getElem?_append_left (by simp; omega)]
                · rw [Array.getElem?_append_left (by simp; omega), Array.getElem?_append_right (by simp; omega)]
                  congr 1
                  simp; omega
              obtain ⟨r1, r2⟩ := h.renew (w' := w.drew.alloc (.cells (xs.toArray ++ ys.toArray ++ rest) e')) (some id) d e' (l ++ l') (some (w.heap.size, (xs.toArray ++ ys.toArray ++ rest : Array Value).size)) none (.inl hfr) rfl rfl rfl (by simp)
                (fun k hk _ => Below.heap_alloc w.drew _ k hk) (fun _ hb => by cases hb)
                (.inr ⟨w.heap.size, _, rfl, ⟨(0, 0), heap_alloc_new w.drew _, Free.zero _⟩, hrep, by simp; omega, .inl (Nat.le_refl _)⟩)
                (fun j hj => by
                  obtain ⟨v, hv, hj⟩ := mem_refsL.1 hj
                  rcases List.mem_append.1 hv with hv | hv
                  · exact h.refB id e' l hbox j (mem_refsL.2 ⟨v, hv, hj⟩)
                  · exact q4 j (mem_refsL.2 ⟨v, hv, hj⟩))
              exact ⟨_, _, _, g4, r1.env rfl rfl, r2, ⟨_, cap', rfl, g1, g2, fun _ => ⟨w.heap.size, _, upd_same _ _ _, rfl, by rw [Nat.zero_add]; exact g3.symm⟩⟩⟩
      · cases hd
    · cases hd
  · cases hd
    obtain ⟨rfl, _⟩ := hx.rep
    exact bare none rfl rfl (fun i hi => by cases hi) rfl
  · rename_i z' n' l1
    split at hd
    · rename_i hc
      obtain ⟨rfl, rfl⟩ := hc
      cases hd
      obtain ⟨ad, cap, rfl, k1, k2, k3, k4, _⟩ := hx.rep
      have hc0 : cap = 0 := k4 rfl
      subst hc0
      exact bare ad rfl rfl (fun i hi => by cases hi) rfl
    · cases hd
  · cases hd
theorem mem_step (h : Rel C M β s w) (hs : Slots nt M β s a) (o : Oper) {f : Eff} (hf : evMem P s o.dst o.op = some f) (hfr : f.fresh = true → ¬ s.used f.d) :
    After C M β s f ((execOp a.eval o).run P w) := by
  obtain ⟨dst, op, ty, pos, after, guard⟩ := o
  simp only at hf
  cases op <;> simp only [evMem] at hf <;> try (cases hf; done)
  case alloc t =>
    split at hf
    · rename_i d zs hz
      cases hf
      exact alloc_ok h (hfr rfl) hz _ rfl
    · cases hf
  case box t x =>
    split at hf
    · rename_i d cs hc
      cases hf
      exact box_ok h hs (hfr rfl) hc _ rfl
    · cases hf
  case buildSlice t n parts =>
    split at hf
    · rename_i d e he
      split at hf
      · rename_i z zs l hsz hz hc
        split at hf
        · rename_i hcond
          obtain ⟨c1, c2, c3, c4, c5⟩ := hcond
          cases hf
          rw [hsz] at hc
          exact buildSlice_ok h hs (hfr rfl) he hsz hz hc c1 c2 c3 c4 c5 _ rfl
        · cases hf
      · cases hf
    · cases hf
  case store t p x =>
    split at hf
    · rename_i id off cs hp hc
      split at hf
      · rename_i e l hb
        split at hf
        · rename_i hcond
          cases hf
          exact store_ok h hs hp hc hb hcond.1 hcond.2 _ rfl
        · cases hf
      · cases hf
    · cases hf
  case makeSlice t n c =>
    split at hf
    · rename_i d e kn N kc Cc he hn hc
      split at hf
      · rename_i b x hsz hb hz
        split at hf
        · rename_i hcond
          obtain ⟨c1, c2, c3, c4⟩ := hcond
          cases hf
          have hn' := val_ok h hs n
          rw [hn] at hn'
          have hc' := val_ok h hs c
          rw [hc] at hc'
          exact makeSlice_ok h (hfr rfl) hn'.rep.1 hc'.rep.1 he hsz hb hz c1 c2 c3 c4 _ rfl
        · cases hf
      · cases hf
    · cases hf
  case convert src t x =>
    split at hf
    · rename_i d b e hx he
      split at hf
      · rename_i hcond
        obtain ⟨c1, c2, c3⟩ := hcond
        cases hf
        have hx' := val_ok h hs x
        rw [hx] at hx'
        exact bytes_ok h (hfr rfl) hx'.rep.1 c1 he c2 c3 _ rfl
      · cases hf
    · cases hf
  case call c =>
    split at hf
    · rename_i d hcl
      unfold evAppend at hf
      split at hf
      · rename_i x y t u hargs hts
        split at hf
        · rename_i e he
          split at hf
          · rename_i z b zs hsz hb hz
            split at hf
            · rename_i n l k m l' hd hel
              split at hf
              · rename_i hcond
                obtain ⟨rfl, c1, c2, c3, c4⟩ := hcond
                cases hf
                have hlen : c.args.toList.length = 2 := by have := congrArg List.length hargs; simpa using this
                obtain ⟨o1, o2, hao⟩ : ∃ o1 o2, c.args.toList = [o1, o2] := by
                  match hm : c.args.toList, hlen with
                  | [o1, o2], _ => exact ⟨o1, o2, rfl⟩
                rw [hao] at hargs
                simp at hargs
                obtain ⟨rfl, rfl⟩ := hargs
                obtain ⟨r, w', β', r1, r2, r3, r4⟩ := append_ok (ty := ty) h (val_ok h hs o1) (val_ok h hs o2) he hsz hb hz hd hel c1 c2 c3 c4 (hfr rfl)
                refine ⟨r, w', β', .inl ?_, r2, r3, r4, fun id hid => by simp [AV.refs] at hid; subst hid; exact .inl rfl⟩
                have ea : c.args.map a.eval = #[a.eval o1, a.eval o2] := by apply Array.ext'; simp [hao]
                have et : c.argTypes = #[t, t] := by apply Array.ext'; simpa using hts
                simp only [execOp, resolve, hcl, Sem.run_bind, Sem.run_pure, Result.andThen_ok, invoke, builtin, ea, et, r1]
              · cases hf
            · cases hf
          · cases hf
        · cases hf
      · cases hf
    · cases hf
end
end Go.Fw

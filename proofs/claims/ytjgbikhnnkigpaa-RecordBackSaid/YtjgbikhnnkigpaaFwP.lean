/- Into a body; a call by what it comes to. -/
import Derived.Test.YtjgbikhnnkigpaaFwO
set_option linter.unusedSimpArgs false
set_option linter.unusedVariables false
namespace Go.Fw
open Go Go.RowKit

mutual
/-- No slice is longer than a slice can be. -/
def AV.small : AV → Prop
  | .slc _ _ n l => n ≤ 9223372036854775807 ∧ smallL l
  | .ip l => smallL l
  | .agg l => smallL l
  | .tup l => smallL l
  | .fn _ l => smallL l
  | _ => True
def smallL : List AV → Prop
  | [] => True
  | a :: l => a.small ∧ smallL l
end

mutual
theorem Rep.small {M : Mem} {β : Loc} : ∀ (a : AV) (x : Value), Rep M β a x → a.small
  | .v _, _, _ => trivial
  | .slc _ z n l, _, ⟨ad, cap, _, h1, h2, h3, _, _, h4⟩ => ⟨by simp only [maxLen] at h3; omega, by
      rcases Nat.eq_zero_or_pos n with h0 | h0
      · subst h0
        have : l = [] := List.eq_nil_of_length_eq_zero (by simpa using h1)
        subst this
        trivial
      · obtain ⟨b, o, cs, _, _, h5⟩ := h4 h0
        exact RepAt.small l cs o h5⟩
  | .ip l, _, ⟨_, o, cs, _, _, _, h⟩ => RepAt.small l cs o h
  | .bp _ _, _, _ => trivial
  | .bs _ _ _ _, _, _ => trivial
  | .fn _ l, _, ⟨vs, _, _, h⟩ => RepAt.small l vs 0 h
  | .agg l, _, ⟨vs, _, _, h⟩ => RepAt.small l vs 0 h
  | .tup l, _, ⟨vs, _, _, h⟩ => RepT.small l vs 0 h
  | .own _ _ _ _, _, _ => trivial
  | .junk, _, _ => trivial
  | .unk, _, _ => trivial
theorem RepAt.small {M : Mem} {β : Loc} : ∀ (l : List AV) (cs : Array Value) (o : Nat), RepAt M β l cs o → smallL l
  | [], _, _, _ => trivial
  | a :: l, cs, o, ⟨⟨y, _, _, h3⟩, h4⟩ => ⟨Rep.small a y h3, RepAt.small l cs (o + 1) h4⟩
theorem RepT.small {M : Mem} {β : Loc} : ∀ (l : List AV) (cs : Array Value) (o : Nat), RepT M β l cs o → smallL l
  | [], _, _, _ => trivial
  | a :: l, cs, o, ⟨⟨y, _, h3⟩, h4⟩ => ⟨Rep.small a y h3, RepT.small l cs (o + 1) h4⟩
end

/-- The boxes are written no more. -/
def frzS : List Nat → AS → AS
  | [], s => s
  | id :: F, s => frzS F (match s.box id with
    | some (.mut _ l) => { s with box := upd s.box id (some (.frz l)) }
    | _ => s)
def frzOk : List Nat → AS → Prop
  | [], _ => True
  | id :: F, s => (match s.box id with
    | some (.mut _ l) => refsL l = []
    | _ => True) ∧ frzOk F (match s.box id with
    | some (.mut _ l) => { s with box := upd s.box id (some (.frz l)) }
    | _ => s)

/-- What was handed over becomes boxes of one's own. -/
def adoptLK (d : Nat) : Nat → List AV → AS → (List AV → AS → Prop) → Prop
  | _, [], s, k => k [] s
  | i, .own e z n l :: r, s, k => ¬ s.used (d + 10000 * i) ∧
      adoptLK d (i + 1) r ⟨s.env, upd s.box (d + 10000 * i) (some (.mut e l)), fun j => j = d + 10000 * i ∨ s.used j⟩ (fun r' s' => k (.bs (d + 10000 * i) z 0 n :: r') s')
  | i, a :: r, s, k => adoptLK d (i + 1) r s (fun r' s' => k (a :: r') s')
def adoptK (d : Nat) : AV → AS → (AV → AS → Prop) → Prop
  | .own e z n l, s, k => ¬ s.used d ∧ k (.bs d z 0 n) ⟨s.env, upd s.box d (some (.mut e l)), fun j => j = d ∨ s.used j⟩
  | .tup l, s, k => adoptLK d 0 l s (fun l' s' => k (.tup l') s')
  | a, s, k => k a s

section
variable {P : Program} {C : Ctx} {M : Mem} {β : Loc} {s : AS} {w : World} {nt : Nat} {a : Act} {Q : Exit → AS → Prop}

theorem RepT.mono' {M' : Mem} (hM : MemLe M M') {l : List AV} {vs : Array Value} {o : Nat} {β' : Loc} (hr : refsL l = []) (h : RepT M β l vs o) : RepT M' β' l vs o :=
  RepT.mono hM l vs o (fun j hj => by rw [hr] at hj; cases hj) h

/-- A body is what the function does. -/
theorem Eval.intro {f : FuncId} {fn : Func} {c : Code} (hf : P.funcs[f]? = some fn) (hb : fn.body = some c) (hent : Enters P f) (args : List AV) (out : Out) (hlen : args.length ≤ fn.ntmps) (hrefs : refsL args = [])
    (h : smallL args → W P fn.ntmps c (entry args) (post P fn out)) : Eval P f args out := by
  refine fun M w vs hM hvs hrep => .inl ⟨hent, ?_⟩
  refine calls_of_wp hf hb ?_
  have hR : Rel ⟨w, M, [], noLoc⟩ M noLoc (entry args) w :=
    { mem := hM, le := MemLe.refl M, mnew := fun b hb => absurd rfl hb, refB := fun _ _ _ h => (by cases h), useB := fun _ h => absurd rfl h, mutb := fun _ _ _ h => (by cases h), frzb := fun _ _ h => (by cases h), frzr := fun _ _ h => (by cases h), inj := fun _ _ _ _ _ _ _ _ _ h => (by cases h), os := rfl, tape := rfl, output := rfl, size := Nat.le_refl _, keep := fun _ _ _ => rfl, pin := fun _ h => ⟨h, rfl⟩ }
  have hS : Slots fn.ntmps M noLoc (entry args) { tmps := vs ++ Array.replicate (fn.ntmps - vs.size) undef, defers := [] } := by
    refine ⟨rfl, by simp; omega, fun t => ?_, fun t id hid => ?_⟩
    · simp only [entry]
      cases ht : args[t]? with
      | none =>
        have hle : args.length ≤ t := by simpa using ht
        simp only [Option.getD_none]
        have hu : (vs ++ Array.replicate (fn.ntmps - vs.size) undef).getD t undef = undef := by
          rw [Array.getD_eq_getD_getElem?, Array.getElem?_append_right (by omega), Array.getElem?_replicate]
          split <;> rfl
        rw [hu]
        exact ⟨#[], rfl, rfl, trivial⟩
      | some v =>
        simp only [Option.getD_some]
        obtain ⟨y, h1, h2⟩ := (RepT.iff args vs 0).1 hrep t v ht
        simp only [Nat.zero_add] at h1
        have hlt := (Array.getElem?_eq_some_iff.1 h1).1
        rw [Array.getD_eq_getD_getElem?, Array.getElem?_append_left hlt, h1]
        exact h2
    · simp only [entry] at hid
      cases ht : args[t]? with
      | none => rw [ht] at hid; simp [AV.refs, refsL] at hid
      | some v =>
        rw [ht] at hid
        have : id ∈ refsL args := mem_refsL.2 ⟨v, List.mem_of_getElem? ht, hid⟩
        rw [hrefs] at this
        cases this
  refine wp_mono (h (RepT.small args vs 0 hrep) _ M noLoc _ w hR hS) ?_
  rintro e a' w' ⟨s', M', β', hp, h1, h2⟩
  have hfin : MemLe M M' ∧ MemOk M' w' ∧ (∀ b, b < w.heap.size → M' b = M b) ∧ Below w.heap.size w w' := by
    refine ⟨h1.le, h1.mem, fun b hb => ?_, h1.os, h1.tape, h1.output, h1.size, fun b hb => h1.keep b hb (by simp)⟩
    by_cases he : M' b = M b
    · exact he
    · rcases h1.mnew b he with h3 | h3
      · exact absurd hb (by simp at h3; omega)
      · cases h3
  have hret : post P fn out .ret s' → bodyPost P fn (fun e w' => ∃ M', MemLe M M' ∧ MemOk M' w' ∧ (∀ b, b < w.heap.size → M' b = M b) ∧ Below w.heap.size w w' ∧ EndO M' w' w.heap.size out e) .ret a' w' := by
    rintro ⟨r, hr, v, hv, rfl, hn⟩
    obtain ⟨y, k1, k2⟩ := results_ok (P := P) h1 h2 hr
    obtain ⟨bl, k3, k4, k5⟩ := closeV_ok h1 rfl (resD_ok h1 r y k2) hn hv
    exact ⟨h2.dfr, y, k1, M', hfin.1, hfin.2.1, hfin.2.2.1, hfin.2.2.2, bl, k3, k4, k5⟩
  cases e with
  | ret => exact hret hp
  | normal => exact hret hp
  | panic l =>
    have : out = .pan l := hp
    subst this
    exact ⟨h2.dfr, M', hfin.1, hfin.2.1, hfin.2.2.1, hfin.2.2.2, rfl⟩
  | exit id => exact hp.elim
  | goto l => exact hp.elim
  | outgrown => exact hp.elim

/-- Behind a call nothing that was known has turned. -/
theorem Rel.call (h : Rel C M β s w) {M' : Mem} {w' : World} (h1 : MemLe M M') (h2 : MemOk M' w') (h3 : ∀ b, b < w.heap.size → M' b = M b) (h4 : Below w.heap.size w w') : Rel C M' β s w' := by
  refine ⟨h2, h.le.trans h1, fun b hb => ?_, h.refB, h.useB, fun i e l hi => ?_, fun i l hi => ?_, h.frzr, h.inj, h4.os.trans h.os, h4.tape.trans h.tape, h4.output.trans h.output, Nat.le_trans h.size h4.size, fun b hb hne => (h4.block b (Nat.lt_of_lt_of_le hb h.size)).trans (h.keep b hb hne), h.pin⟩
  · rcases Nat.lt_or_ge b w.heap.size with hlt | hge
    · rw [h3 b hlt] at hb; exact h.mnew b hb
    · exact .inl (Nat.le_trans h.size hge)
  · rcases h.mutb i e l hi with ⟨k1, k2⟩ | ⟨b, cs, k1, ⟨fz, k2, kf⟩, k3, k4, k5, k6⟩
    · exact .inl ⟨k1, k2⟩
    · exact .inr ⟨b, cs, k1, ⟨fz, (h4.block b (heap_lt k2)).trans k2, kf⟩, RepAt.mono h1 _ _ _ (fun _ _ => rfl) k3, k4, by rw [h3 b (heap_lt k2)]; exact k5, k6⟩
  · rcases h.frzb i l hi with ⟨k1, k2⟩ | ⟨b, cs, k1, k2, k3, k4⟩
    · exact .inl ⟨k1, k2⟩
    · exact .inr ⟨b, cs, k1, h1 b cs k2, RepAt.mono h1 _ _ _ (fun _ _ => rfl) k3, k4⟩

/-- A block that was handed over becomes a box. -/
theorem Rel.adopt (h : Rel C M β s w) {id : Nat} (hid : ¬ s.used id) {e : TypeId} {l : List AV} (hr : refsL l = []) {place : Option (Nat × Nat)}
    (hp : (place = none ∧ l = []) ∨ ∃ b cs, place = some (b, cs.size) ∧ (∃ fz, w.heap[b]? = some (.cells cs e fz) ∧ Free cs.size fz) ∧ RepAt M noLoc l cs 0 ∧ l.length ≤ cs.size ∧ M b = none ∧ C.w0.heap.size ≤ b ∧
      ∀ j e' l' n, s.box j = some (.mut e' l') → β j ≠ some (b, n)) :
    Rel C M (upd β id place) ⟨s.env, upd s.box id (some (.mut e l)), fun j => j = id ∨ s.used j⟩ w ∧ ∀ j, s.used j → upd β id place j = β j := by
  have hβ : ∀ j, s.used j → upd β id place j = β j := fun j hj => by
    simp only [upd]
    split
    · rename_i he; subst he; exact absurd hj hid
    · rfl
  have usedOf : ∀ i x, s.box i = some x → s.used i := fun i x hx => h.useB i (by rw [hx]; simp)
  refine ⟨⟨h.mem, h.le, h.mnew, ?_, ?_, ?_, ?_, ?_, ?_, h.os, h.tape, h.output, h.size, h.keep, fun i hi => ⟨.inr (h.pin i hi).1, (hβ i (h.pin i hi).1).trans (h.pin i hi).2⟩⟩, hβ⟩
  · intro i e1 l1 hi j hj
    simp only [upd] at hi
    split at hi
    · simp at hi; obtain ⟨rfl, rfl⟩ := hi; rw [hr] at hj; cases hj
    · exact .inr (h.refB i e1 l1 hi j hj)
  · intro i hi
    simp only [upd] at hi
    split at hi
    · exact .inl (by assumption)
    · exact .inr (h.useB i hi)
  · intro i e1 l1 hi
    by_cases he : i = id
    · subst he
      simp only [upd, if_true] at hi
      simp at hi
      obtain ⟨rfl, rfl⟩ := hi
      rcases hp with ⟨h1, h2⟩ | ⟨b, cs, h1, h2, h3, h4, h5, h6, _⟩
      · exact .inl ⟨by simp [upd, h1], h2⟩
      · exact .inr ⟨b, cs, by simp [upd, h1], h2, RepAt.mono (MemLe.refl M) _ _ _ (fun j hj => by rw [hr] at hj; cases hj) h3, h4, h5, .inl h6⟩
    · simp only [upd, he, if_false] at hi
      rcases h.mutb i e1 l1 hi with ⟨k1, k2⟩ | ⟨b, cs, k1, k2, k3, k4⟩
      · exact .inl ⟨by rw [hβ i (usedOf i _ hi)]; exact k1, k2⟩
      · exact .inr ⟨b, cs, by rw [hβ i (usedOf i _ hi)]; exact k1, k2, RepAt.mono (MemLe.refl M) _ _ _ (fun j hj => hβ j (h.refB i e1 l1 hi j hj)) k3, k4⟩
  · intro i l1 hi
    by_cases he : i = id
    · subst he; simp [upd] at hi
    · simp only [upd, he, if_false] at hi
      rcases h.frzb i l1 hi with ⟨k1, k2⟩ | ⟨b, cs, k1, k2⟩
      · exact .inl ⟨by rw [hβ i (usedOf i _ hi)]; exact k1, k2⟩
      · exact .inr ⟨b, cs, by rw [hβ i (usedOf i _ hi)]; exact k1, k2⟩
  · intro i l1 hi
    by_cases he : i = id
    · subst he; simp [upd] at hi
    · simp only [upd, he, if_false] at hi
      exact h.frzr i l1 hi
  · intro i j e1 e2 l1 l2 b n n' hi hj hbi hbj
    by_cases hid' : i = id <;> by_cases hjd : j = id
    · rw [hid', hjd]
    · exfalso
      subst hid'
      simp only [upd, hjd, if_false] at hj hbj
      simp only [upd, if_true] at hbi
      rcases hp with ⟨h1, _⟩ | ⟨b', cs, h1, _, _, _, _, _, h7⟩
      · rw [h1] at hbi; cases hbi
      · rw [h1] at hbi; cases hbi; exact h7 j e2 l2 n' hj hbj
    · exfalso
      subst hjd
      simp only [upd, hid', if_false] at hi hbi
      simp only [upd, if_true] at hbj
      rcases hp with ⟨h1, _⟩ | ⟨b', cs, h1, _, _, _, _, _, h7⟩
      · rw [h1] at hbj; cases hbj
      · rw [h1] at hbj; cases hbj; exact h7 i e1 l1 n hi hbi
    · simp only [upd, hid', hjd, if_false] at hi hj hbi hbj
      exact h.inj i j e1 e2 l1 l2 b n n' hi hj hbi hbj

theorem own_place {e : TypeId} {z n : Nat} {l : List AV} {x : Value} {bl : List Nat} (h : RepC M w (.own e z n l) x bl) :
    refsL l = [] ∧ ∃ ad cap place, x = .slice ad n cap ∧ n ≤ cap ∧ cap ≤ maxLen ∧ (0 < cap → ∃ b sz, place = some (b, sz) ∧ ad = some ⟨b, 0, none⟩ ∧ 0 + cap * z = sz) ∧
      ((place = none ∧ l = [] ∧ bl = []) ∨ ∃ b cs, bl = [b] ∧ place = some (b, cs.size) ∧ (∃ fz, w.heap[b]? = some (.cells cs e fz) ∧ Free cs.size fz) ∧ RepAt M noLoc l cs 0 ∧ l.length ≤ cs.size ∧ M b = none) := by
  obtain ⟨h1, h2, ad, cap, rfl, h3, h4, h5⟩ := h
  refine ⟨h2, ad, cap, ?_⟩
  rcases h5 with ⟨h0, hb⟩ | ⟨b, cs, fz, hb, rfl, k1, k2, k3, k4, k5⟩
  · subst h0
    have hn : n = 0 := by omega
    subst hn
    exact ⟨none, rfl, h3, h4, fun h => absurd h (by omega), .inl ⟨rfl, List.eq_nil_of_length_eq_zero (by simpa using h1), hb⟩⟩
  · exact ⟨some (b, cs.size), rfl, h3, h4, fun _ => ⟨b, cs.size, rfl, rfl, by omega⟩, .inr ⟨b, cs, hb, rfl, ⟨fz, k1, k2⟩, k4, by rw [h1, k3]; exact Nat.mul_le_mul_right _ h3, k5⟩⟩

/-- The results of a call, one by one, become the caller's. -/
theorem adoptL_ok (d : Nat) (K : List AV → AS → Prop) : ∀ (l : List AV) (i : Nat) (s : AS) (β : Loc) (vs : Array Value) (o : Nat) (bl : List Nat) (k : List AV → AS → Prop),
    Rel C M β s w → Slots nt M β s a → RepCL M w l vs o bl → bl.Nodup → (∀ b ∈ bl, C.w0.heap.size ≤ b ∧ ∀ j e l n, s.box j = some (.mut e l) → β j ≠ some (b, n)) → adoptLK d i l s k →
    ∃ l' s' β', k l' s' ∧ Rel C M β' s' w ∧ Slots nt M β' s' a ∧ RepT M β' l' vs o ∧ l'.length = l.length ∧ (∀ j ∈ refsL l', s'.used j) ∧ (∀ j, s.used j → β' j = β j ∧ s'.used j)
  | [], i, s, β, vs, o, bl, k, hR, hS, _, _, _, hk => ⟨[], s, β, hk, hR, hS, trivial, rfl, by simp [refsL], fun j hj => ⟨rfl, hj⟩⟩
  | v :: r, i, s, β, vs, o, bl, k, hR, hS, ⟨y, b1, b2, hy, hv, hr, hbl⟩, hn, hb, hk => by
    subst hbl
    rw [List.nodup_append] at hn
    obtain ⟨n1, n2, n3⟩ := hn
    have plain : adoptLK d (i + 1) r s (fun r' s' => k (v :: r') s') → Rep M noLoc v y → v.refs = [] →
        ∃ l' s' β', k l' s' ∧ Rel C M β' s' w ∧ Slots nt M β' s' a ∧ RepT M β' l' vs o ∧ l'.length = (v :: r).length ∧ (∀ j ∈ refsL l', s'.used j) ∧ (∀ j, s.used j → β' j = β j ∧ s'.used j) := by
      intro hk hv1 hv2
      obtain ⟨l', s', β', q1, q2, q3, q4, q5, q6, q7⟩ := adoptL_ok d K r (i + 1) s β vs (o + 1) b2 _ hR hS hr n2 (fun b hb2 => hb b (by simp [hb2])) hk
      exact ⟨v :: l', s', β', q1, q2, q3, ⟨⟨y, hy, noRefs_rep hv1 hv2 β'⟩, q4⟩, by simp [q5], fun j hj => by simp only [refsL, hv2, List.nil_append] at hj; exact q6 j hj, q7⟩
    cases v with
    | own e z n l =>
      simp only [adoptLK] at hk
      obtain ⟨hfr, hk⟩ := hk
      obtain ⟨p1, ad, cap, place, rfl, p2, p3, p4, p5⟩ := own_place hv
      obtain ⟨r1, r2⟩ := hR.adopt (e := e) (l := l) hfr p1 (place := place) (by
        rcases p5 with ⟨q1, q2, _⟩ | ⟨b, cs, q0, q1, q2, q3, q4, q5⟩
        · exact .inl ⟨q1, q2⟩
        · have hbb := hb b (by simp [q0])
          exact .inr ⟨b, cs, q1, q2, q3, q4, q5, hbb.1, hbb.2⟩)
      have hS1 : Slots nt M (upd β (d + 10000 * i) place) ⟨s.env, upd s.box (d + 10000 * i) (some (.mut e l)), fun j => j = d + 10000 * i ∨ s.used j⟩ a := hS.later (MemLe.refl M) r2 rfl (fun _ h => .inr h)
      obtain ⟨l', s', β', q1, q2, q3, q4, q5, q6, q7⟩ := adoptL_ok d K r (i + 1) _ _ vs (o + 1) b2 _ r1 hS1 hr n2 (fun b hb2 => ⟨(hb b (by simp [hb2])).1, fun j e' l'' n' hj hbj => by
          simp only [upd] at hj hbj
          split at hj
          · rename_i he
            rw [if_pos he] at hbj
            rcases p5 with ⟨q1, _⟩ | ⟨b', cs, q0, q1, _⟩
            · rw [q1] at hbj; cases hbj
            · rw [q1] at hbj; cases hbj
              exact n3 b (by simp [q0]) b hb2 rfl
          · rename_i he
            rw [if_neg he] at hbj
            exact (hb b (by simp [hb2])).2 j e' l'' n' hj hbj⟩) hk
      refine ⟨.bs (d + 10000 * i) z 0 n :: l', s', β', q1, q2, q3, ⟨⟨_, hy, ad, cap, rfl, p2, p3, fun hc => ?_⟩, q4⟩, by simp [q5], fun j hj => ?_, fun j hj => ?_⟩
      · obtain ⟨b, sz, t1, t2, t3⟩ := p4 hc
        refine ⟨b, sz, ?_, t2, t3⟩
        rw [(q7 (d + 10000 * i) (.inl rfl)).1]
        simp [upd, t1]
      · simp only [refsL, AV.refs, List.cons_append, List.nil_append, List.mem_cons] at hj
        rcases hj with hj | hj
        · subst hj; exact (q7 _ (.inl rfl)).2
        · exact q6 j hj
      · obtain ⟨t1, t2⟩ := q7 j (.inr hj)
        exact ⟨t1.trans (r2 j hj), t2⟩
    | _ =>
      simp only [adoptLK] at hk
      exact plain hk hv.1 hv.2.1

theorem frzS_ok : ∀ (F : List Nat) (s : AS) (M : Mem), frzOk F s → Rel C M β s w → Slots nt M β s a → ∃ M', MemLe M M' ∧ Rel C M' β (frzS F s) w ∧ Slots nt M' β (frzS F s) a ∧ (frzS F s).used = s.used
  | [], s, M, _, hR, hS => ⟨M, MemLe.refl M, hR, hS, rfl⟩
  | id :: F, s, M, hF, hR, hS => by
    obtain ⟨h1, h2⟩ := hF
    simp only [frzS]
    cases hb : s.box id with
    | none =>
      rw [hb] at h2
      exact frzS_ok F s M h2 hR hS
    | some B =>
      rw [hb] at h1 h2
      cases B with
      | frz l => exact frzS_ok F s M h2 hR hS
      | _ =>
        rename_i e l
        obtain ⟨M1, k1, k2⟩ := hR.freeze hb h1
        obtain ⟨M2, k3, k4, k5, k6⟩ := frzS_ok F _ M1 h2 k2 (hS.later k1 (fun _ _ => rfl) rfl (fun _ h => h))
        exact ⟨M2, k1.trans k3, k4, k5, k6⟩

/-- A call by what it comes to. -/
theorem CallV.pure {f : FuncId} {args : List AV} {K : Out → AS → Prop} (d : Nat) {out : Out} (hev : Eval P f (resDL (frzS (refsL args) s).box args) out) (hfr : frzOk (refsL args) s)
    (hrefs : refsL (resDL (frzS (refsL args) s).box args) = [])
    (hK : match (generalizing := false) out with
      | .ret v => adoptK d v (frzS (refsL args) s) (fun v' s' => K (.ret v') s')
      | .pan l => K (.pan l) (frzS (refsL args) s)) : CallV P f args s K := by
  refine fun C nt M β a w vs hR hS hvs hrep => ?_
  obtain ⟨M1, m1, hR1, hS1, hu⟩ := frzS_ok (C := C) (β := β) (w := w) (nt := nt) (a := a) (refsL args) s M hfr hR hS
  have hrep1 : RepT M1 β (resDL (frzS (refsL args) s).box args) vs 0 := by
    have hT : Rel C M1 β ⟨(frzS (refsL args) s).env, (frzS (refsL args) s).box, fun _ => True⟩ w := { hR1 with refB := fun _ _ _ _ _ _ => trivial, useB := fun _ _ => trivial, pin := fun i hi => ⟨trivial, (hR1.pin i hi).2⟩ }
    exact (resDL_t hT args vs 0 (RepT.mono m1 _ _ _ (fun _ _ => rfl) hrep) (fun _ _ => trivial)).1
  refine Ends.mono (hev M1 w vs hR1.mem (by rw [resDL_length]; exact hvs) (RepT.mono' (MemLe.refl M1) hrefs hrep1)) ?_
  rintro e w' ⟨M', q1, q2, q3, q4, q5⟩
  have hR2 := hR1.call q1 q2 q3 q4
  have hS2 : Slots nt M' β (frzS (refsL args) s) a := hS1.later q1 (fun _ _ => rfl) rfl (fun _ h => h)
  cases out with
  | pan l =>
    cases e with
    | panicked l' => obtain rfl : l' = l := q5; exact ⟨.pan l', _, M', β, hK, hR2, hS2, rfl⟩
    | returned x => exact q5.elim
    | outgrown => exact q5.elim
  | ret v =>
    cases e with
    | panicked l' => exact q5.elim
    | outgrown => exact q5.elim
    | returned x =>
      obtain ⟨bl, b1, b2, b3⟩ := q5
      have fresh : ∀ b ∈ bl, C.w0.heap.size ≤ b ∧ ∀ j e l n, (frzS (refsL args) s).box j = some (.mut e l) → β j ≠ some (b, n) := by
        intro b hb
        refine ⟨Nat.le_trans hR1.size (b3 b hb), fun j e l n hj hbj => ?_⟩
        rcases hR1.mutb j e l hj with ⟨hn, _⟩ | ⟨b', cs, k1, ⟨fz, k2, _⟩, _⟩
        · rw [hn] at hbj; cases hbj
        · rw [k1] at hbj; cases hbj
          have := heap_lt k2
          have := b3 b hb
          omega
      have plain : K (.ret v) (frzS (refsL args) s) → RepC M' w' v x bl → (∀ e z n l, v ≠ .own e z n l) → ∃ out s' M'' β', K out s' ∧ Rel C M'' β' s' w' ∧ Slots nt M'' β' s' a ∧ EndRep M'' β' s' out (.returned x) := by
        intro hk hv hne
        refine ⟨.ret v, _, M', β, hk, hR2, hS2, ?_⟩
        cases v with
        | own e z n l => exact absurd rfl (hne e z n l)
        | _ => exact ⟨noRefs_rep hv.1 hv.2.1 β, fun j hj => by rw [hv.2.1] at hj; cases hj⟩
      cases v with
      | tup l =>
        obtain ⟨vs', rfl, c1, c2⟩ := b1
        obtain ⟨l', s', β', t1, t2, t3, t4, t5, t6, _⟩ := adoptL_ok d (fun _ _ => True) l 0 _ β vs' 0 bl _ hR2 hS2 c2 b2 fresh hK
        exact ⟨.ret (.tup l'), s', M', β', t1, t2, t3, ⟨vs', rfl, by rw [c1, t5], t4⟩, fun j hj => t6 j (by simpa [AV.refs] using hj)⟩
      | own e z n l =>
        obtain ⟨hfrs, hk⟩ := hK
        have hbl : RepCL M' w' [.own e z n l] #[x] 0 bl := ⟨x, bl, [], rfl, b1, rfl, by simp⟩
        obtain ⟨l', s', β', t1, t2, t3, t4, t5, t6, _⟩ := adoptL_ok d (fun _ _ => True) [.own e z n l] 0 _ β #[x] 0 bl (fun l' s' => match l' with | [v'] => K (.ret v') s' | _ => False) hR2 hS2 hbl b2 fresh ⟨by simpa using hfrs, by simpa [adoptLK] using hk⟩
        match l', t1, t4, t6 with
        | [v'], t1, ⟨⟨y, h1, h2⟩, _⟩, t6 =>
          simp at h1
          subst h1
          exact ⟨.ret v', s', M', β', t1, t2, t3, h2, fun j hj => t6 j (by simp [refsL, hj])⟩
      | _ => exact plain hK b1 (by intro e z n l he; cases he)
end

end Go.Fw

/- Regions whose order is drawn. III: any order comes to the same. -/
import Derived.Test.YtjgbikhnnkigpaaFwU
set_option linter.unusedSimpArgs false
set_option linter.unusedVariables false
namespace Go.Fw
open Go Go.RowKit

def edgesOf (o : Oper) : List Nat := (o.after.toList.filter fun e => Region.binds .any e).map (·.on)

/-- Who comes before whom, closed. -/
def ancs (ops : List Oper) : List (List Nat) :=
  ops.foldl (fun acc o => acc ++ [((edgesOf o).flatMap fun i => i :: acc.getD i []).eraseDups]) []

def ordered (A : List (List Nat)) (i j : Nat) : Bool := (A.getD j []).contains i || (A.getD i []).contains j

/-- A region's order: edges go back; the closure is one; no slot is written twice; whoever reads a slot that is written here stands in order with the writer. -/
def ordOk (ops : List Oper) (A : List (List Nat)) : Bool :=
  (List.range ops.length).all fun j => match ops[j]? with
    | none => true
    | some o => (edgesOf o).all (fun i => decide (i < j)) &&
      (A.getD j []).all (fun i => decide (i < j) && ((edgesOf o).contains i || (edgesOf o).any fun k => (A.getD k []).contains i)) &&
      (List.range ops.length).all fun i => match ops[i]? with
        | none => true
        | some p => i == j || ((match p.dst with
          | some t => !(o.looksAt ops.toArray).contains t || ordered A i j
          | none => true) && (p.dst.isNone || p.dst != o.dst))

/-- What is written in memory by one and looked at or written by another stands in order. -/
def memOk (A : List (List Nat)) (acc : List (List Nat × List Nat)) : Bool :=
  (List.range acc.length).all fun i => match acc[i]? with
    | none => true
    | some (_, ti) => ti.isEmpty || (List.range acc.length).all fun j => match acc[j]? with
      | none => true
      | some (lj, tj) => i == j || ordered A i j || ti.all fun id => !lj.contains id && !tj.contains id

def St.ids (st : St) : List Nat := match st.eff with
  | some f => f.d :: f.kill.toList
  | none => []

theorem St.mem_ids {st : St} {id : Nat} : st.touches id ↔ id ∈ st.ids := by
  unfold St.touches St.ids
  cases st.eff with
  | none => simp
  | some f =>
    simp only [Option.some.injEq, exists_eq_left', List.mem_cons, Option.mem_toList]

def lookIds (ops : List Oper) (o : Oper) (s : AS) : List Nat := refsL ((o.looksAt ops.toArray).map s.env)

/-- A run in the order of the text. -/
def Run (P : Program) (ops : List Oper) (z : List (Oper × St)) (s0 : AS) : Prop :=
  ∀ j p, z[j]? = some p → valid P ops p.1 p.2 (stZ (fun i => decide (i < j)) 0 z s0)

section
variable {P : Program} {C : Ctx} {M : Mem} {β : Loc} {s s0 : AS} {w : World} {nt : Nat} {a : Act} {Q : Exit → AS → Prop}

structure Ord (ops : Array Oper) (A : List (List Nat)) : Prop where
  back : ∀ (j : Nat) o, ops[j]? = some o → ∀ i ∈ edgesOf o, i < j
  ancLt : ∀ (j : Nat) o, ops[j]? = some o → ∀ i ∈ A.getD j [], i < j ∧ (i ∈ edgesOf o ∨ ∃ k ∈ edgesOf o, i ∈ A.getD k [])
  dist : ∀ (i j : Nat) p o, ops[i]? = some p → ops[j]? = some o → i ≠ j → ∀ t, p.dst = some t → o.dst ≠ some t
  look : ∀ (i j : Nat) p o, ops[i]? = some p → ops[j]? = some o → i ≠ j → ∀ t, p.dst = some t → t ∈ o.looksAt ops → i ∈ A.getD j [] ∨ j ∈ A.getD i []

theorem Ord.of {ops : Array Oper} {A : List (List Nat)} (h : ordOk ops.toList A = true) : Ord ops A := by
  have get : ∀ (j : Nat) o, ops[j]? = some o → j < ops.size ∧ ops.toList[j]? = some o := fun j o ho => ⟨(Array.getElem?_eq_some_iff.1 ho).1, by simpa using ho⟩
  unfold ordOk at h
  simp only [List.all_eq_true, List.mem_range, Array.length_toList] at h
  have h1 : ∀ (j : Nat) o, ops[j]? = some o → _ := fun j o ho => by
    have := h j (get j o ho).1
    rw [(get j o ho).2] at this
    exact this
  refine ⟨fun j o ho i hi => ?_, fun j o ho i hi => ?_, fun i j p o hi hj hne t ht ho => ?_, fun i j p o hi hj hne t ht hl => ?_⟩
  · have := h1 j o ho
    simp only [Bool.and_eq_true, List.all_eq_true, decide_eq_true_eq] at this
    exact this.1.1 i hi
  · have := h1 j o ho
    simp only [Bool.and_eq_true, List.all_eq_true, decide_eq_true_eq] at this
    have := this.1.2 i hi
    refine ⟨this.1, ?_⟩
    have h2 := this.2
    simp only [Bool.or_eq_true, List.any_eq_true, List.contains_iff_mem] at h2
    exact h2
  · have := h1 j o hj
    simp only [Bool.and_eq_true, List.all_eq_true, List.mem_range] at this
    have := this.2 i (get i p hi).1
    rw [(get i p hi).2] at this
    simp [hne, ht, ho] at this
  · have := h1 j o hj
    simp only [Bool.and_eq_true, List.all_eq_true, List.mem_range] at this
    have := this.2 i (get i p hi).1
    rw [(get i p hi).2] at this
    simp only [ht, Bool.or_eq_true, beq_iff_eq, hne, false_or, Bool.and_eq_true, Bool.not_eq_true', Array.toArray_toList] at this
    have h2 := this.1
    unfold ordered at h2
    simp only [Bool.or_eq_true, List.contains_iff_mem] at h2
    rcases h2 with h2 | h2
    · simp [hl] at h2
    · exact h2

structure MemOrd (ops : List Oper) (A : List (List Nat)) (z : List (Oper × St)) (s0 : AS) : Prop where
  look : ∀ (i j : Nat) p q, z[i]? = some p → z[j]? = some q → i ≠ j → ∀ id, p.2.touches id → id ∈ lookIds ops q.1 (stZ (fun i => decide (i < j)) 0 z s0) → i ∈ A.getD j [] ∨ j ∈ A.getD i []
  both : ∀ (i j : Nat) p q, z[i]? = some p → z[j]? = some q → i ≠ j → ∀ id, p.2.touches id → q.2.touches id → i ∈ A.getD j [] ∨ j ∈ A.getD i []

/-- The listed ones are closed downwards. -/
theorem closed_anc {ops : Array Oper} {A : List (List Nat)} (hA : Ord ops A) {L : Nat → Bool} (hL : ∀ j o, ops[j]? = some o → L j = true → ∀ i ∈ edgesOf o, L i = true) :
    ∀ (n j : Nat) o, j < n → ops[j]? = some o → (∀ i ∈ edgesOf o, L i = true) → ∀ i ∈ A.getD j [], L i = true := by
  intro n
  induction n with
  | zero => intro j o hj; omega
  | succ n ih =>
    intro j o hj ho he i hi
    obtain ⟨h1, h2⟩ := hA.ancLt j o ho i hi
    rcases h2 with h2 | ⟨k, hk, h2⟩
    · exact he i h2
    · have hkj := hA.back j o ho k hk
      have hks : k < ops.size := Nat.lt_trans hkj (Array.getElem?_eq_some_iff.1 ho).1
      have hko : ops[k]? = some ops[k] := Array.getElem?_eq_getElem hks
      exact ih k _ (by omega) hko (hL k _ hko (he k hk)) i h2

/-- The drawn region: from a run in the order of the text. -/
theorem any_order {ops : Array Oper} {A : List (List Nat)} {z : List (Oper × St)} (hz : z.map (·.1) = ops.toList) (hd : ∀ o ∈ ops, dstOk nt o.dst = true) (hA : Ord ops A) (hM : MemOrd ops.toList A z s0) (hrun : Run P ops.toList z s0)
    (hQ : Q .normal (stZ (fun _ => true) 0 z s0)) :
    ∀ (fuel : Nat) (listed : Array Bool) (M : Mem) (β : Loc) (a : Act) (w : World), listed.size = ops.size →
      (∀ j o, ops[j]? = some o → listed.getD j false = true → ∀ i ∈ edgesOf o, listed.getD i false = true) →
      (ops.size ≤ fuel + (List.range ops.size).countP fun i => listed.getD i false) →
      Rel C M β (stZ (fun i => listed.getD i false) 0 z s0) w → Slots nt M β (stZ (fun i => listed.getD i false) 0 z s0) a →
      wpAny P .any ops (lift C nt Q) fuel listed a w := by
  have hzl : z.length = ops.size := by rw [← Array.length_toList, ← hz]; simp
  have zop : ∀ (j : Nat) (p : Oper × St), z[j]? = some p → ops[j]? = some p.1 := fun j p hp => by
    have : (z.map (·.1))[j]? = some p.1 := by simp [hp]
    rw [hz] at this; simpa using this
  have zget : ∀ (j : Nat) (o : Oper), ops[j]? = some o → ∃ st, z[j]? = some (o, st) := fun j o ho => by
    have hj : j < z.length := by rw [hzl]; exact (Array.getElem?_eq_some_iff.1 ho).1
    have h1 : z[j]? = some z[j] := List.getElem?_eq_getElem hj
    have h2 := zop j _ h1
    rw [ho] at h2
    cases h2
    exact ⟨_, h1⟩
  have done : ∀ (listed : Array Bool) (M : Mem) (β : Loc) (a : Act) (w : World), listed.size = ops.size → Region.ready .any ops listed = [] →
      Rel C M β (stZ (fun i => listed.getD i false) 0 z s0) w → Slots nt M β (stZ (fun i => listed.getD i false) 0 z s0) a → lift C nt Q .normal a w := by
    intro listed M β a w hsz hr hR hS
    have all : ∀ n j, j < n → j < ops.size → listed.getD j false = true := by
      intro n
      induction n with
      | zero => intro j hj; omega
      | succ n ih =>
        intro j hj hjs
        have ho : ops[j]? = some ops[j] := Array.getElem?_eq_getElem hjs
        cases hl : listed.getD j false with
        | true => rfl
        | false =>
          exfalso
          have hmem : j ∈ Region.ready .any ops listed := by
            rw [mem_ready]
            refine ⟨?_, ops[j], ho, fun e he hb => ?_⟩
            · have hjl : j < listed.size := by omega
              rw [Array.getD_eq_getD_getElem?, Array.getElem?_eq_getElem hjl] at hl ⊢
              exact hl
            · have hi : e.on ∈ edgesOf ops[j] := by
                unfold edgesOf
                exact List.mem_map.2 ⟨e, List.mem_filter.2 ⟨by simpa using he, hb⟩, rfl⟩
              have := hA.back j _ ho e.on hi
              exact ih e.on (by omega) (by omega)
          rw [hr] at hmem
          cases hmem
    have heq : stZ (fun i => listed.getD i false) 0 z s0 = stZ (fun _ => true) 0 z s0 := by
      have lt : ∀ (i : Nat) (p : Oper × St), z[i]? = some p → listed.getD (0 + i) false = true := fun i p hp => by
        have : i < z.length := (List.getElem?_eq_some_iff.1 hp).1
        rw [Nat.zero_add]
        exact all (i + 1) i (by omega) (by omega)
      refine AS.ext' (fun t => env_congr z 0 s0 s0 rfl fun i p hp _ => lt i p hp) (fun id => box_congr z 0 s0 s0 rfl fun i p hp _ => lt i p hp) (fun id => ?_)
      rw [used_iff, used_iff]
      constructor
      · rintro (h | ⟨i, p, h1, _, h3⟩)
        · exact .inl h
        · exact .inr ⟨i, p, h1, rfl, h3⟩
      · rintro (h | ⟨i, p, h1, _, h3⟩)
        · exact .inl h
        · exact .inr ⟨i, p, h1, lt i p h1, h3⟩
    rw [heq] at hR hS
    exact ⟨_, M, β, hQ, hR, hS⟩
  intro fuel
  induction fuel with
  | zero =>
    intro listed M β a w hsz hcl hcnt hR hS
    have hnil : Region.ready .any ops listed = [] := by
      rw [List.eq_nil_iff_forall_not_mem]
      intro j hj
      rw [mem_ready] at hj
      obtain ⟨h1, o, ho, _⟩ := hj
      have hjs : j < ops.size := (Array.getElem?_eq_some_iff.1 ho).1
      have hle : (List.range ops.size).countP (fun i => listed.getD i false) = (List.range ops.size).length := by
        have := List.countP_le_length (p := fun i => listed.getD i false) (l := List.range ops.size)
        simp at this ⊢
        simp at hcnt
        omega
      rw [List.countP_eq_length] at hle
      have := hle j (List.mem_range.2 hjs)
      have hjl : j < listed.size := by omega
      rw [Array.getD_eq_getD_getElem?, Array.getElem?_eq_getElem hjl] at h1 this
      simp at h1 this
      rw [h1] at this
      cases this
    exact ⟨hnil, done listed M β a w hsz hnil hR hS⟩
  | succ fuel ih =>
    intro listed M β a w hsz hcl hcnt hR hS
    refine ⟨fun hnil => done listed M β a w hsz hnil hR hS, fun j hj => ?_⟩
    rw [mem_ready] at hj
    obtain ⟨hj0, o, ho, hedge⟩ := hj
    have hjs : j < ops.size := (Array.getElem?_eq_some_iff.1 ho).1
    have hjl : j < listed.size := by omega
    have hj1 : listed.getD j false = false := by
      rw [Array.getD_eq_getD_getElem?, Array.getElem?_eq_getElem hjl] at hj0 ⊢
      exact hj0
    obtain ⟨st, hst⟩ := zget j o ho
    have hedges : ∀ i ∈ edgesOf o, listed.getD i false = true := by
      intro i hi
      unfold edgesOf at hi
      obtain ⟨e, he, rfl⟩ := List.mem_map.1 hi
      obtain ⟨he, hb⟩ := List.mem_filter.1 he
      exact hedge e (by simpa using he) hb
    have hancs : ∀ i ∈ A.getD j [], listed.getD i false = true := closed_anc hA (L := fun i => listed.getD i false) hcl (j + 1) j o (Nat.lt_succ_self _) ho hedges
    -- who stands in order with j is listed just if it stands before
    have key : ∀ (i : Nat) (p : Oper × St), z[i]? = some p → (i ∈ A.getD j [] ∨ j ∈ A.getD i []) → listed.getD i false = decide (i < j) := by
      intro i p hp hor
      have hpo := zop i p hp
      rcases hor with h | h
      · have hlt := (hA.ancLt j o ho i h).1
        rw [hancs i h, decide_eq_true hlt]
      · have hlt := (hA.ancLt i _ hpo j h).1
        rw [decide_eq_false (by omega)]
        cases hl : listed.getD i false with
        | false => rfl
        | true =>
          have := closed_anc hA (L := fun i => listed.getD i false) hcl (i + 1) i _ (Nat.lt_succ_self _) hpo (hcl i _ hpo hl) j h
          rw [hj1] at this
          cases this
    have self : ∀ p : Oper × St, z[j]? = some p → listed.getD j false = decide (j < j) := fun p _ => by rw [hj1]; simp
    have hval := hrun j _ hst
    have hag : Agree (o.looksAt ops) (stZ (fun i => listed.getD i false) 0 z s0) (stZ (fun i => decide (i < j)) 0 z s0) := by
      refine ⟨fun t ht => ?_, fun t ht id hid => ?_⟩
      · refine env_congr z 0 s0 s0 rfl fun i p hp hdt => ?_
        rw [Nat.zero_add]
        by_cases hij : i = j
        · subst hij; exact self p hp
        · exact key i p hp (hA.look i j _ o (zop i p hp) ho hij t hdt ht)
      · refine box_congr z 0 s0 s0 rfl fun i p hp htc => ?_
        rw [Nat.zero_add]
        by_cases hij : i = j
        · subst hij; exact self p hp
        · refine key i p hp (hM.look i j p _ hp hst hij id htc ?_)
          unfold lookIds
          rw [mem_refsL]
          exact ⟨_, List.mem_map.2 ⟨t, by simpa using ht, rfl⟩, hid⟩
    have hfresh : ∀ d, st.fresh d → ¬ (stZ (fun i => decide (i < j)) 0 z s0).used d → ¬ (stZ (fun i => listed.getD i false) 0 z s0).used d := by
      intro d hfd hnu hu
      rw [used_iff] at hu
      rcases hu with hu | ⟨i, p, hp, hl, hfr⟩
      · exact hnu ((used_iff z 0 s0).2 (.inl hu))
      · rw [Nat.zero_add] at hl
        have hij : i ≠ j := fun he => by subst he; rw [hj1] at hl; cases hl
        rcases Nat.lt_or_gt_of_ne hij with hlt | hgt
        · exact hnu ((used_iff z 0 s0).2 (.inr ⟨i, p, hp, by simpa using hlt, hfr⟩))
        · have hvi := hrun i p hp
          have hui : (stZ (fun k => decide (k < i)) 0 z s0).used d := (used_iff z 0 s0).2 (.inr ⟨j, _, hst, by simpa using hgt, hfd⟩)
          -- i drew a number that was taken
          obtain ⟨f, hf, hff, rfl⟩ := hfr
          rcases hvi with ⟨_, hvi⟩ | ⟨_, hvi⟩
          · rw [hvi] at hf; cases hf
          · have hs : stepOk P p.1 p.2 (stZ (fun k => decide (k < i)) 0 z s0) → False := by
              intro hs
              unfold stepOk at hs
              split at hs
              · obtain ⟨f', _, h2, h3⟩ := hs
                rw [h3] at hf
                cases hf
                exact h2 hff hui
              · obtain ⟨v, _, h3⟩ := hs
                rw [h3] at hf; cases hf
            split at hvi
            · split at hvi
              · obtain ⟨_, _, _, _, _, _, h⟩ := hvi
                rcases h with ⟨_, h⟩ | ⟨e, zz, n, l, d, _, h2, h3⟩
                · rw [h] at hf; cases hf
                · rw [h3] at hf; cases hf; exact h2 hui
              · exact hs hvi
            · exact hvi
            · exact hs hvi
    have hv := valid_agree hval hag hfresh
    refine valid_wpOp ho (hd o (Array.mem_of_getElem? ho)) hv hR hS fun a' w' M' β' hR' hS' => ?_
    have hcomm : app o st (stZ (fun i => listed.getD i false) 0 z s0) = stZ (fun i => (listed.setIfInBounds j true).getD i false) 0 z s0 := by
      have setne : ∀ i, i ≠ j → (listed.setIfInBounds j true).getD i false = listed.getD i false := fun i hi => getD_set_ne false (Ne.symm hi)
      have seteq : (listed.setIfInBounds j true).getD j false = true := by simp [hjl]
      refine AS.ext' (fun t => ?_) (fun id => ?_) (fun id => ?_)
      · by_cases hdt : o.dst = some t
        · rw [app_env_eq hdt]
          refine (env_last z 0 j (o, st) s0 hst (by rw [Nat.zero_add]; exact seteq) hdt fun i q hi hq hqd => ?_).symm
          exact absurd hqd (hA.dist j i o _ ho (zop i q hq) (by omega) t hdt)
        · rw [app_env_ne hdt]
          refine env_congr z 0 s0 s0 rfl fun i p hp hpd => ?_
          rw [Nat.zero_add]
          by_cases hij : i = j
          · subst hij
            rw [hst] at hp; cases hp
            exact absurd hpd hdt
          · exact (setne i hij).symm
      · by_cases htc : st.touches id
        · refine (box_last z 0 j (o, st) s0 _ hst (by rw [Nat.zero_add]; exact seteq) htc fun i q hi hq hqt => ?_).symm
          rw [Nat.zero_add, setne i (by omega)]
          have := key i q hq (hM.both i j q _ hq hst (by omega) id hqt htc)
          rw [this]
          simp; omega
        · rw [app_box_ne htc]
          refine box_congr z 0 s0 s0 rfl fun i p hp hpt => ?_
          rw [Nat.zero_add]
          by_cases hij : i = j
          · subst hij
            rw [hst] at hp; cases hp
            exact absurd hpt htc
          · exact (setne i hij).symm
      · rw [app_used, used_iff, used_iff]
        constructor
        · rintro ((h | ⟨i, p, h1, h2, h3⟩) | h)
          · exact .inl h
          · refine .inr ⟨i, p, h1, ?_, h3⟩
            exact getD_set_true h2
          · exact .inr ⟨j, _, hst, by rw [Nat.zero_add]; exact seteq, h⟩
        · rintro (h | ⟨i, p, h1, h2, h3⟩)
          · exact .inl (.inl h)
          · rw [Nat.zero_add] at h2
            by_cases hij : i = j
            · subst hij
              rw [hst] at h1; cases h1
              exact .inr h3
            · exact .inl (.inr ⟨i, p, h1, by rw [Nat.zero_add, ← setne i hij]; exact h2, h3⟩)
    rw [hcomm] at hR' hS'
    refine ih _ M' β' a' w' (by simp [hsz]) ?_ ?_ hR' hS'
    · intro i p hp hl k hk
      by_cases hij : i = j
      · subst hij
        rw [ho] at hp; cases hp
        exact getD_set_true (hedges k hk)
      · rw [getD_set_ne false (Ne.symm hij)] at hl
        exact getD_set_true (hcl i p hp hl k hk)
    · have hcount : (List.range ops.size).countP (fun i => listed.getD i false) + 1 ≤ (List.range ops.size).countP (fun i => (listed.setIfInBounds j true).getD i false) := by
        have gen : ∀ l : List Nat, l.Nodup → j ∈ l → l.countP (fun i => listed.getD i false) + 1 ≤ l.countP (fun i => (listed.setIfInBounds j true).getD i false) := by
          intro l
          have mono : ∀ l : List Nat, l.countP (fun i => listed.getD i false) ≤ l.countP (fun i => (listed.setIfInBounds j true).getD i false) := fun l =>
            List.countP_mono_left fun x _ hx => getD_set_true hx
          induction l with
          | nil => intro _ h; cases h
          | cons x l ihl =>
            intro hnd hm
            rw [List.nodup_cons] at hnd
            by_cases hx : x = j
            · subst hx
              rw [List.countP_cons, List.countP_cons]
              have := mono l
              have e2 : (listed.setIfInBounds x true).getD x false = true := by simp [hjl]
              simp only [hj1, e2, if_true, Bool.false_eq_true, if_false]
              omega
            · have hm' : j ∈ l := by simpa [Ne.symm hx] using hm
              have := ihl hnd.2 hm'
              rw [List.countP_cons, List.countP_cons, getD_set_ne false (Ne.symm hx)]
              omega
        exact gen _ List.nodup_range (List.mem_range.2 hjs)
      omega
end

end Go.Fw

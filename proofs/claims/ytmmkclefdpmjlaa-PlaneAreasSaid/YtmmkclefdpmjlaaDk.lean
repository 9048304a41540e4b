/- Drawn regions in which a box's number is carried about between writes: who only hands a value on looks at no box (nothing is frozen here). Most of it is the text of Fw2, turned by a program. -/
import Derived.Test.YtmmkclefdpmjlaaFw3
set_option linter.unusedSimpArgs false
set_option linter.unusedVariables false
namespace Go.Fw
open Go Go.RowKit
def lightOp (o : Oper) : Bool := match o.op with
  | .move _ => true
  | .assign _ => true
  | .indexAddr _ _ _ => true
  | _ => false
def lookK (ops : List Oper) (o : Oper) (s : AS) : List Nat := if lightOp o = true then [] else lookIds ops o s
section
variable {P : Program} {C : Ctx} {M : Mem} {β : Loc} {s s' s0 : AS} {w : World} {nt : NT} {a : Act} {Q : Exit → AS → Prop}
theorem resB_nofrz {box : Nat → Option Box} (h : ∀ id l, box id ≠ some (.frz l)) (v : AV) : resB box v = v := by
  unfold resB
  split
  · split
    · rename_i hb; exact absurd hb (h _ _)
    · rfl
  · split
    · rename_i hb; exact absurd hb (h _ _)
    · rfl
  · rfl
theorem app_nofrz {o : Oper} {st : St} (h : ∀ id l, s.box id ≠ some (.frz l)) : ∀ id l, (app o st s).box id ≠ some (.frz l) := by
  intro id l
  unfold app
  split
  · rename_i f _
    rw [AS.put_box]
    simp only [AS.eff, upd]
    split
    · intro k; cases k
    · cases f.kill with
      | none => exact h id l
      | some i =>
        simp only [killBox, upd]
        split
        · intro k; cases k
        · exact h id l
  · rw [AS.put_box]; exact h id l
theorem stZ_nofrz {L : Nat → Bool} : ∀ (z : List (Oper × St)) (k : Nat) (s : AS), (∀ id l, s.box id ≠ some (.frz l)) → ∀ id l, (stZ L k z s).box id ≠ some (.frz l)
  | [], _, _, h => h
  | p :: z, k, s, h => by
    simp only [stZ]
    refine stZ_nofrz z (k + 1) _ ?_
    split
    · exact app_nofrz h
    · exact h
theorem valid_light {ops : Array Oper} {o : Oper} {st : St} (hl : lightOp o = true) (h : valid P ops.toList o st s') (he : ∀ t ∈ o.looksAt ops, s.env t = s'.env t)
    (hf : ∀ id l, s.box id ≠ some (.frz l)) (hf' : ∀ id l, s'.box id ≠ some (.frz l)) : valid P ops.toList o st s := by
  have hop : ∀ x ∈ o.op.operands, ∀ t, x = .tmp t → t ∈ o.looksAt ops := fun x hx t he => by
    subst he
    exact List.mem_append_left _ (List.mem_filterMap.2 ⟨.tmp t, by simpa using hx, rfl⟩)
  have hv : ∀ x ∈ o.op.operands, s.val x = s'.val x := fun x hx => by
    cases x with
    | tmp t =>
      simp only [AS.val]
      rw [resB_nofrz hf, resB_nofrz hf', he t (hop _ hx t rfl)]
    | _ => rfl
  have hg : gOn ops.toList o s = gOn ops.toList o s' := by
    unfold gOn
    cases hgd : o.guard with
    | none => rfl
    | some gw =>
      obtain ⟨j, want⟩ := gw
      simp only []
      have e : ops.toList[j]? = ops[j]? := by simp
      rw [e]
      cases hd : (ops[j]?).bind (·.dst) with
      | none => rfl
      | some d =>
        simp only []
        rw [he d (List.mem_append_right _ (by rw [hgd]; simp [hd]))]
  have hstep : stepOk P o st s' → stepOk P o st s := by
    intro h
    unfold lightOp at hl
    unfold stepOk at *
    split at hl
    · rename_i x hx
      rw [hx] at h ⊢
      simp only [isMem, evPure, Bool.false_eq_true, if_false] at h ⊢
      rw [hv x (by rw [hx]; simp [Op.operands])]; exact h
    · rename_i x hx
      rw [hx] at h ⊢
      simp only [isMem, evPure, Bool.false_eq_true, if_false] at h ⊢
      rw [hv x (by rw [hx]; simp [Op.operands])]; exact h
    · rename_i t x i hx
      rw [hx] at h ⊢
      simp only [isMem, evPure, Bool.false_eq_true, if_false] at h ⊢
      rw [hv x (by rw [hx]; simp [Op.operands]), hv i (by rw [hx]; simp [Op.operands])]; exact h
    · cases hl
  unfold valid at *
  rw [hg]
  rcases h with h | ⟨h1, h2⟩
  · exact .inl h
  · refine .inr ⟨h1, ?_⟩
    unfold lightOp at hl
    split at h2
    · rename_i c hc; rw [hc] at hl; cases hl
    · exact h2.elim
    · exact hstep h2
structure MemOrdK (ops : List Oper) (A : List (List Nat)) (z : List (Oper × St)) (s0 : AS) : Prop where
  look : ∀ (i j : Nat) p q, z[i]? = some p → z[j]? = some q → i ≠ j → ∀ id, p.2.touches id → id ∈ lookK ops q.1 (stZ (fun i => decide (i < j)) 0 z s0) → i ∈ A.getD j [] ∨ j ∈ A.getD i []
  both : ∀ (i j : Nat) p q, z[i]? = some p → z[j]? = some q → i ≠ j → ∀ id, p.2.touches id → q.2.touches id → i ∈ A.getD j [] ∨ j ∈ A.getD i []
theorem any_orderK {ops : Array Oper} {A : List (List Nat)} {z : List (Oper × St)} (hz : z.map (·.1) = ops.toList) (hd : ∀ o ∈ ops, dstOk nt o.dst = true) (hA : Ord ops A) (hM : MemOrdK ops.toList A z s0) (hrun : Run P ops.toList z s0)
    (hF : ∀ id l, s0.box id ≠ some (.frz l)) (hQ : Q .normal (stZ (fun _ => true) 0 z s0)) :
    ∀ (fuel : Nat) (listed : Array Bool) (M : Mem) (β : Loc) (a : Act) (w : World), listed.size = ops.size →
      (∀ j o, ops[j]? = some o → listed.getD j false = true → ∀ i ∈ edgesOf o, listed.getD i false = true) →
      (ops.size ≤ fuel + (List.range ops.size).countP fun i => listed.getD i false) →
      Rel C M β (stZ (fun i => listed.getD i false) 0 z s0) w → Slots nt M β (stZ (fun i => listed.getD i false) 0 z s0) a →
      wpAnyIn nt.F 0 P .any ops (lift C nt Q) fuel listed a w := by
  have hzl : z.length = ops.size := by rw [← Array.length_toList, ← hz]; simp
  have zop : ∀ (j : Nat) (p : Oper × St), z[j]? = some p → ops[j]? = some p.1 := fun j p hp => by
    have : (z.map (·.1))[j]? = some p.1 := by simp [hp]
    rw [hz] at this; simpa using this
  have zget : ∀ (j : Nat) (o : Oper), ops[j]? = some o → ∃ st, z[j]? = some (o, st) := fun j o ho => by
    have hj : j < z.length := by rw [hzl]; exact (Array.getElem?_eq_some_iff.1 ho).1
    have h1 : z[j]? = some z[j] := List.getElem?_eq_getElem hj
    have h2 := zop j _ h1
    rw [ho] at h2
    cases h2
    exact ⟨_, h1⟩
  have done : ∀ (listed : Array Bool) (M : Mem) (β : Loc) (a : Act) (w : World), listed.size = ops.size → Region.ready .any ops listed = [] →
      Rel C M β (stZ (fun i => listed.getD i false) 0 z s0) w → Slots nt M β (stZ (fun i => listed.getD i false) 0 z s0) a → lift C nt Q .normal a w := by
    intro listed M β a w hsz hr hR hS
    have all : ∀ n j, j < n → j < ops.size → listed.getD j false = true := by
      intro n
      induction n with
      | zero => intro j hj; omega
      | succ n ih =>
        intro j hj hjs
        have ho : ops[j]? = some ops[j] := Array.getElem?_eq_getElem hjs
        cases hl : listed.getD j false with
        | true => rfl
        | false =>
          exfalso
          have hmem : j ∈ Region.ready .any ops listed := by
            rw [mem_ready]
            refine ⟨?_, ops[j], ho, fun e he hb => ?_⟩
            · have hjl : j < listed.size := by omega
              rw [Array.getD_eq_getD_getElem?, Array.getElem?_eq_getElem hjl] at hl ⊢
              exact hl
            · have hi : e.on ∈ edgesOf ops[j] := by
                unfold edgesOf
                exact List.mem_map.2 ⟨e, List.mem_filter.2 ⟨by simpa using he, hb⟩, rfl⟩
              have := hA.back j _ ho e.on hi
              exact ih e.on (by omega) (by omega)
          rw [hr] at hmem
          cases hmem
    have heq : stZ (fun i => listed.getD i false) 0 z s0 = stZ (fun _ => true) 0 z s0 := by
      have lt : ∀ (i : Nat) (p : Oper × St), z[i]? = some p → listed.getD (0 + i) false = true := fun i p hp => by
        have : i < z.length := (List.getElem?_eq_some_iff.1 hp).1
        rw [Nat.zero_add]
        exact all (i + 1) i (by omega) (by omega)
      refine AS.ext' (fun t => env_congr z 0 s0 s0 rfl fun i p hp _ => lt i p hp) (fun id => box_congr z 0 s0 s0 rfl fun i p hp _ => lt i p hp) (fun id => ?_)
      rw [used_iff, used_iff]
      constructor
      · rintro (h | ⟨i, p, h1, _, h3⟩)
        · exact .inl h
        · exact .inr ⟨i, p, h1, rfl, h3⟩
      · rintro (h | ⟨i, p, h1, _, h3⟩)
        · exact .inl h
        · exact .inr ⟨i, p, h1, lt i p h1, h3⟩
    rw [heq] at hR hS
    exact ⟨_, M, β, hQ, hR, hS⟩
  intro fuel
  induction fuel with
  | zero =>
    intro listed M β a w hsz hcl hcnt hR hS
    have hnil : Region.ready .any ops listed = [] := by
      rw [List.eq_nil_iff_forall_not_mem]
      intro j hj
      rw [mem_ready] at hj
      obtain ⟨h1, o, ho, _⟩ := hj
      have hjs : j < ops.size := (Array.getElem?_eq_some_iff.1 ho).1
      have hle : (List.range ops.size).countP (fun i => listed.getD i false) = (List.range ops.size).length := by
        have := List.countP_le_length (p := fun i => listed.getD i false) (l := List.range ops.size)
        simp at this ⊢
        simp at hcnt
        omega
      rw [List.countP_eq_length] at hle
      have := hle j (List.mem_range.2 hjs)
      have hjl : j < listed.size := by omega
      rw [Array.getD_eq_getD_getElem?, Array.getElem?_eq_getElem hjl] at h1 this
      simp at h1 this
      rw [h1] at this
      cases this
    exact ⟨hnil, done listed M β a w hsz hnil hR hS⟩
  | succ fuel ih =>
    intro listed M β a w hsz hcl hcnt hR hS
    refine ⟨fun hnil => done listed M β a w hsz hnil hR hS, fun j hj => ?_⟩
    rw [mem_ready] at hj
    obtain ⟨hj0, o, ho, hedge⟩ := hj
    have hjs : j < ops.size := (Array.getElem?_eq_some_iff.1 ho).1
    have hjl : j < listed.size := by omega
    have hj1 : listed.getD j false = false := by
      rw [Array.getD_eq_getD_getElem?, Array.getElem?_eq_getElem hjl] at hj0 ⊢
      exact hj0
    obtain ⟨st, hst⟩ := zget j o ho
    have hedges : ∀ i ∈ edgesOf o, listed.getD i false = true := by
      intro i hi
      unfold edgesOf at hi
      obtain ⟨e, he, rfl⟩ := List.mem_map.1 hi
      obtain ⟨he, hb⟩ := List.mem_filter.1 he
      exact hedge e (by simpa using he) hb
    have hancs : ∀ i ∈ A.getD j [], listed.getD i false = true := closed_anc hA (L := fun i => listed.getD i false) hcl (j + 1) j o (Nat.lt_succ_self _) ho hedges
    -- who stands in order with j is listed just if it stands before
    have key : ∀ (i : Nat) (p : Oper × St), z[i]? = some p → (i ∈ A.getD j [] ∨ j ∈ A.getD i []) → listed.getD i false = decide (i < j) := by
      intro i p hp hor
      have hpo := zop i p hp
      rcases hor with h | h
      · have hlt := (hA.ancLt j o ho i h).1
        rw [hancs i h, decide_eq_true hlt]
      · have hlt := (hA.ancLt i _ hpo j h).1
        rw [decide_eq_false (by omega)]
        cases hl : listed.getD i false with
        | false => rfl
        | true =>
          have := closed_anc hA (L := fun i => listed.getD i false) hcl (i + 1) i _ (Nat.lt_succ_self _) hpo (hcl i _ hpo hl) j h
          rw [hj1] at this
          cases this
    have self : ∀ p : Oper × St, z[j]? = some p → listed.getD j false = decide (j < j) := fun p _ => by rw [hj1]; simp
    have hval := hrun j _ hst
    have henv : ∀ t ∈ o.looksAt ops, (stZ (fun i => listed.getD i false) 0 z s0).env t = (stZ (fun i => decide (i < j)) 0 z s0).env t := fun t ht => by
      refine env_congr z 0 s0 s0 rfl fun i p hp hdt => ?_
      rw [Nat.zero_add]
      by_cases hij : i = j
      · subst hij; exact self p hp
      · exact key i p hp (hA.look i j _ o (zop i p hp) ho hij t hdt ht)
    have hag : lightOp o = false → Agree (o.looksAt ops) (stZ (fun i => listed.getD i false) 0 z s0) (stZ (fun i => decide (i < j)) 0 z s0) := by
      intro hnl
      refine ⟨henv, fun t ht id hid => ?_⟩
      · refine box_congr z 0 s0 s0 rfl fun i p hp htc => ?_
        rw [Nat.zero_add]
        by_cases hij : i = j
        · subst hij; exact self p hp
        · refine key i p hp (hM.look i j p _ hp hst hij id htc ?_)
          unfold lookK
          rw [if_neg (by rw [hnl]; decide)]
          unfold lookIds
          rw [mem_refsL]
          exact ⟨_, List.mem_map.2 ⟨t, by simpa using ht, rfl⟩, hid⟩
    have hfresh : ∀ d, st.fresh d → ¬ (stZ (fun i => decide (i < j)) 0 z s0).used d → ¬ (stZ (fun i => listed.getD i false) 0 z s0).used d := by
      intro d hfd hnu hu
      rw [used_iff] at hu
      rcases hu with hu | ⟨i, p, hp, hl, hfr⟩
      · exact hnu ((used_iff z 0 s0).2 (.inl hu))
      · rw [Nat.zero_add] at hl
        have hij : i ≠ j := fun he => by subst he; rw [hj1] at hl; cases hl
        rcases Nat.lt_or_gt_of_ne hij with hlt | hgt
        · exact hnu ((used_iff z 0 s0).2 (.inr ⟨i, p, hp, by simpa using hlt, hfr⟩))
        · have hvi := hrun i p hp
          have hui : (stZ (fun k => decide (k < i)) 0 z s0).used d := (used_iff z 0 s0).2 (.inr ⟨j, _, hst, by simpa using hgt, hfd⟩)
          -- i drew a number that was taken
          obtain ⟨f, hf, hff, rfl⟩ := hfr
          rcases hvi with ⟨_, hvi⟩ | ⟨_, hvi⟩
          · rw [hvi] at hf; cases hf
          · have hs : stepOk P p.1 p.2 (stZ (fun k => decide (k < i)) 0 z s0) → False := by
              intro hs
              unfold stepOk at hs
              split at hs
              · obtain ⟨f', _, h2, h3⟩ := hs
                rw [h3] at hf
                cases hf
                exact h2 hff hui
              · obtain ⟨v, _, h3⟩ := hs
                rw [h3] at hf; cases hf
            split at hvi
            · split at hvi
              · obtain ⟨_, _, _, h⟩ := hvi
                rcases h with ⟨_, _, _, ⟨_, h⟩ | ⟨e, zz, n, l, d, _, h2, h3⟩⟩ | ⟨_, e, l, d, r, _, _, _, _, _, _, h2, h3⟩
                · rw [h] at hf; cases hf
                · rw [h3] at hf; cases hf; exact h2 hui
                · rw [h3] at hf; cases hf; exact h2 hui
              · exact hs hvi
            · exact hvi
            · exact hs hvi
    have hv : valid P ops.toList o st (stZ (fun i => listed.getD i false) 0 z s0) := by
      cases hl : lightOp o with
      | false => exact valid_agree hval (hag hl) hfresh
      | true => exact valid_light hl hval henv (stZ_nofrz z 0 s0 hF) (stZ_nofrz z 0 s0 hF)
    refine valid_wpOp ho (hd o (Array.mem_of_getElem? ho)) hv hR hS fun a' w' M' β' hR' hS' => ?_
    have hcomm : app o st (stZ (fun i => listed.getD i false) 0 z s0) = stZ (fun i => (listed.setIfInBounds j true).getD i false) 0 z s0 := by
      have setne : ∀ i, i ≠ j → (listed.setIfInBounds j true).getD i false = listed.getD i false := fun i hi => getD_set_ne false (Ne.symm hi)
      have seteq : (listed.setIfInBounds j true).getD j false = true := by simp [hjl]
      refine AS.ext' (fun t => ?_) (fun id => ?_) (fun id => ?_)
      · by_cases hdt : o.dst = some t
        · rw [app_env_eq hdt]
          refine (env_last z 0 j (o, st) s0 hst (by rw [Nat.zero_add]; exact seteq) hdt fun i q hi hq hqd => ?_).symm
          exact absurd hqd (hA.dist j i o _ ho (zop i q hq) (by omega) t hdt)
        · rw [app_env_ne hdt]
          refine env_congr z 0 s0 s0 rfl fun i p hp hpd => ?_
          rw [Nat.zero_add]
          by_cases hij : i = j
          · subst hij
            rw [hst] at hp; cases hp
            exact absurd hpd hdt
          · exact (setne i hij).symm
      · by_cases htc : st.touches id
        · refine (box_last z 0 j (o, st) s0 _ hst (by rw [Nat.zero_add]; exact seteq) htc fun i q hi hq hqt => ?_).symm
          rw [Nat.zero_add, setne i (by omega)]
          have := key i q hq (hM.both i j q _ hq hst (by omega) id hqt htc)
          rw [this]
          simp; omega
        · rw [app_box_ne htc]
          refine box_congr z 0 s0 s0 rfl fun i p hp hpt => ?_
          rw [Nat.zero_add]
          by_cases hij : i = j
          · subst hij
            rw [hst] at hp; cases hp
            exact absurd hpt htc
          · exact (setne i hij).symm
      · rw [app_used, used_iff, used_iff]
        constructor
        · rintro ((h | ⟨i, p, h1, h2, h3⟩) | h)
          · exact .inl h
          · refine .inr ⟨i, p, h1, ?_, h3⟩
            exact getD_set_true h2
          · exact .inr ⟨j, _, hst, by rw [Nat.zero_add]; exact seteq, h⟩
        · rintro (h | ⟨i, p, h1, h2, h3⟩)
          · exact .inl (.inl h)
          · rw [Nat.zero_add] at h2
            by_cases hij : i = j
            · subst hij
              rw [hst] at h1; cases h1
              exact .inr h3
            · exact .inl (.inr ⟨i, p, h1, by rw [Nat.zero_add, ← setne i hij]; exact h2, h3⟩)
    rw [hcomm] at hR' hS'
    refine ih _ M' β' a' w' (by simp [hsz]) ?_ ?_ hR' hS'
    · intro i p hp hl k hk
      by_cases hij : i = j
      · subst hij
        rw [ho] at hp; cases hp
        exact getD_set_true (hedges k hk)
      · rw [getD_set_ne false (Ne.symm hij)] at hl
        exact getD_set_true (hcl i p hp hl k hk)
    · have hcount : (List.range ops.size).countP (fun i => listed.getD i false) + 1 ≤ (List.range ops.size).countP (fun i => (listed.setIfInBounds j true).getD i false) := by
        have gen : ∀ l : List Nat, l.Nodup → j ∈ l → l.countP (fun i => listed.getD i false) + 1 ≤ l.countP (fun i => (listed.setIfInBounds j true).getD i false) := by
          intro l
          have mono : ∀ l : List Nat, l.countP (fun i => listed.getD i false) ≤ l.countP (fun i => (listed.setIfInBounds j true).getD i false) := fun l =>
            List.countP_mono_left fun x _ hx => getD_set_true hx
          induction l with
          | nil => intro _ h; cases h
          | cons x l ihl =>
            intro hnd hm
            rw [List.nodup_cons] at hnd
            by_cases hx : x = j
            · subst hx
              rw [List.countP_cons, List.countP_cons]
              have := mono l
              have e2 : (listed.setIfInBounds x true).getD x false = true := by simp [hjl]
              simp only [hj1, e2, if_true, Bool.false_eq_true, if_false]
              omega
            · have hm' : j ∈ l := by simpa [Ne.symm hx] using hm
              have := ihl hnd.2 hm'
              rw [List.countP_cons, List.countP_cons, getD_set_ne false (Ne.symm hx)]
              omega
        exact gen _ List.nodup_range (List.mem_range.2 hjs)
      omega
end
def vcnDK (P : Program) (ops : List Oper) (A : List (List Nat)) (Q : AS → Prop) : List Oper → AS → List (List Nat × List Nat) → Prop
  | [], s, acc => memOk A acc = true ∧ Q s
  | o :: r, s, acc => optK (gOn ops o s) fun g =>
      if g = true then
        match o.op with
        | .call c => match c.callee with
          | .value f => callD P o (s.val f) (c.args.toList.map s.val) s fun s' ids => vcnDK P ops A Q r s' (acc ++ [(lookK ops o s, ids)])
          | _ => stepD P o s fun s' ids => vcnDK P ops A Q r s' (acc ++ [(lookK ops o s, ids)])
        | .panic _ => False
        | _ => stepD P o s fun s' ids => vcnDK P ops A Q r s' (acc ++ [(lookK ops o s, ids)])
      else vcnDK P ops A Q r (s.put o.dst (.tup [])) (acc ++ [(lookK ops o s, [])])
section
variable {P : Program} {s : AS} {nt : NT} {Q : Exit → AS → Prop}
def accOfK (ops : List Oper) : List (Oper × St) → AS → List (List Nat × List Nat)
  | [], _ => []
  | p :: z, s => (lookK ops p.1 s, p.2.ids) :: accOfK ops z (app p.1 p.2 s)
theorem accOfK_at {ops : List Oper} : ∀ (z : List (Oper × St)) (k : Nat) (s : AS) (j : Nat) (p : Oper × St), z[j]? = some p → (accOfK ops z s)[j]? = some (lookK ops p.1 (stZ (fun i => decide (i < k + j)) k z s), p.2.ids)
  | [], _, _, _, _, h => by simp at h
  | q :: z, k, s, 0, p, h => by
    simp at h; subst h
    rw [stZ_none _ k s (fun i => by simp)]
    rfl
  | q :: z, k, s, j + 1, p, h => by
    simp only [stZ, accOfK, List.getElem?_cons_succ]
    rw [if_pos (by simp), show k + (j + 1) = k + 1 + j from by omega]
    exact accOfK_at z (k + 1) _ j p (by simpa using h)
theorem accOfK_length {ops : List Oper} : ∀ (z : List (Oper × St)) (s : AS), (accOfK ops z s).length = z.length
  | [], _ => rfl
  | p :: z, s => by simp [accOfK, accOfK_length z]
theorem MemOrdK.of {ops : List Oper} {A : List (List Nat)} {z : List (Oper × St)} {s0 : AS} (h : memOk A (accOfK ops z s0) = true) : MemOrdK ops A z s0 := by
  have key : ∀ (i j : Nat) (p q : Oper × St), z[i]? = some p → z[j]? = some q → i ≠ j → ∀ id, p.2.touches id →
      (i ∈ A.getD j [] ∨ j ∈ A.getD i []) ∨ (id ∉ lookK ops q.1 (stZ (fun i => decide (i < j)) 0 z s0) ∧ id ∉ q.2.ids) := by
    intro i j p q hi hj hne id ht
    have ei := accOfK_at (ops := ops) z 0 s0 i p hi
    have ej := accOfK_at (ops := ops) z 0 s0 j q hj
    simp only [Nat.zero_add] at ei ej
    unfold memOk at h
    simp only [List.all_eq_true, List.mem_range, accOfK_length] at h
    have h1 := h i (List.getElem?_eq_some_iff.1 hi).1
    rw [ei] at h1
    simp only [Bool.or_eq_true, List.all_eq_true, List.mem_range] at h1
    have hid := St.mem_ids.1 ht
    rcases h1 with h1 | h1
    · rw [List.isEmpty_iff.1 h1] at hid; cases hid
    · have h2 := h1 j (List.getElem?_eq_some_iff.1 hj).1
      rw [ej] at h2
      simp only [Bool.or_eq_true, beq_iff_eq, hne, false_or, List.all_eq_true, Bool.and_eq_true, Bool.not_eq_true'] at h2
      rcases h2 with h2 | h2
      · unfold ordered at h2
        simp only [Bool.or_eq_true, List.contains_iff_mem] at h2
        exact .inl h2
      · have := h2 id hid
        simp at this
        exact .inr this
  refine ⟨fun i j p q hi hj hne id ht hl => ?_, fun i j p q hi hj hne id ht ht' => ?_⟩
  · rcases key i j p q hi hj hne id ht with k | k
    · exact k
    · exact absurd hl k.1
  · rcases key i j p q hi hj hne id ht with k | k
    · exact k
    · exact absurd (St.mem_ids.1 ht') k.2
theorem vcnDK_run {ops : List Oper} {A : List (List Nat)} {Q : AS → Prop} : ∀ (l : List Oper) (s : AS) (acc : List (List Nat × List Nat)), vcnDK P ops A Q l s acc →
    ∃ z : List (Oper × St), z.map (·.1) = l ∧ RunL P ops z s ∧ memOk A (acc ++ accOfK ops z s) = true ∧ Q (stZ (fun _ => true) 0 z s)
  | [], s, acc, ⟨h1, h2⟩ => ⟨[], rfl, trivial, by simpa [accOfK] using h1, h2⟩
  | o :: r, s, acc, h => by
    have off : ∀ (z : List (Oper × St)) (k : Nat) (s : AS), stZ (fun _ => true) k z s = stZ (fun _ => true) 0 z s := by
      intro z
      induction z with
      | nil => intro k s; rfl
      | cons p z ih => intro k s; simp only [stZ, if_true]; rw [ih (k + 1), ih (0 + 1)]
    have fin : ∀ st : St, valid P ops o st s → vcnDK P ops A Q r (app o st s) (acc ++ [(lookK ops o s, st.ids)]) →
        ∃ z : List (Oper × St), z.map (·.1) = o :: r ∧ RunL P ops z s ∧ memOk A (acc ++ accOfK ops z s) = true ∧ Q (stZ (fun _ => true) 0 z s) := by
      intro st hv hk
      obtain ⟨z, k1, k2, k3, k4⟩ := vcnDK_run r _ _ hk
      refine ⟨(o, st) :: z, by simp [k1], ⟨hv, k2⟩, ?_, ?_⟩
      · simpa [accOfK, List.append_assoc] using k3
      · simp only [stZ, if_true]
        rw [off]; exact k4
    simp only [vcnDK] at h
    obtain ⟨g, hg, h⟩ := h
    cases g with
    | false =>
      simp only [Bool.false_eq_true, if_false] at h
      exact fin ⟨.tup [], none⟩ (.inl ⟨hg, rfl⟩) h
    | true =>
      simp only [if_true] at h
      have hstep : stepD P o s (fun s' ids => vcnDK P ops A Q r s' (acc ++ [(lookK ops o s, ids)])) → (∀ st, stepOk P o st s → valid P ops o st s) → ∃ z : List (Oper × St), z.map (·.1) = o :: r ∧ RunL P ops z s ∧ memOk A (acc ++ accOfK ops z s) = true ∧ Q (stZ (fun _ => true) 0 z s) := fun hk hval => by
        obtain ⟨st, h1, h2⟩ := stepD_run hk
        exact fin st (hval st h1) h2
      split at h
      · rename_i c hc
        split at h
        · rename_i f hf
          obtain ⟨fid, caps, e1, h⟩ := h
          rcases h with ⟨rr, e2, e3, e4⟩ | ⟨id, e, l, d, rr, e2, e3, e4, e5, e6, e7, e8, e9⟩
          · rcases e4 with ⟨e4, e5⟩ | ⟨e, z, n, l, d, e4, e5, e6⟩
            · refine fin ⟨rr, none⟩ (.inr ⟨hg, ?_⟩) e5
              simp only [hc, hf]
              exact ⟨fid, caps, e1, .inl ⟨e2, rr, e3, .inl ⟨e4, rfl⟩⟩⟩
            · refine fin ⟨.bs d z 0 n, some ⟨.bs d z 0 n, none, d, e, l, true⟩⟩ (.inr ⟨hg, ?_⟩) e6
              simp only [hc, hf]
              exact ⟨fid, caps, e1, .inl ⟨e2, rr, e3, .inr ⟨e, z, n, l, d, e4, e5, rfl⟩⟩⟩
          · refine fin ⟨rr, some ⟨rr, some id, d, 0, [], true⟩⟩ (.inr ⟨hg, ?_⟩) e9
            simp only [hc, hf]
            exact ⟨fid, caps, e1, .inr ⟨id, e, l, d, rr, e2, e3, e4, e5, e6, e7, e8, rfl⟩⟩
        · rename_i hf
          refine hstep h fun st hs => .inr ⟨hg, ?_⟩
          simp only [hc]
          first
            | exact hs
            | (split
               · rename_i f hf2; exact absurd hf2 (hf f)
               · exact hs)
      · exact h.elim
      · rename_i h1 h2
        refine hstep h fun st hs => .inr ⟨hg, ?_⟩
        first
          | exact hs
          | (split
             · rename_i c hc; exact absurd hc (h1 c)
             · rename_i x hx; exact absurd hx (h2 x)
             · exact hs)
theorem W_drawnK {id : Nat} {ops : Array Oper} (hm : P.follows .mixedOrders = true) (hd : ops.toList.all (fun o => dstOk nt o.dst) = true) (hA : ordOk ops.toList (ancs ops.toList) = true) (hF : ∀ id l, s.box id ≠ some (.frz l))
    (h : vcnDK P ops.toList (ancs ops.toList) (Q .normal) ops.toList s []) : W P nt (.region id ops true) s Q := by
  intro C M β a w hR hS
  obtain ⟨z, k1, k2, k3, k4⟩ := vcnDK_run _ _ _ h
  refine wpIn_region_any hm ?_
  have hrep : ∀ i, (Array.replicate ops.size false).getD i false = false := fun i => by
    rw [Array.getD_eq_getD_getElem?, Array.getElem?_replicate]
    split <;> rfl
  have hs0 : stZ (fun i => (Array.replicate ops.size false).getD i false) 0 z s = s := stZ_none z 0 s (fun i => hrep _)
  have hR' := hR.draw (w' := { w with drawn := w.drawn + 1 }) rfl rfl rfl rfl
  refine any_orderK k1 (fun o ho => List.all_eq_true.1 hd o (by simpa using ho)) (Ord.of hA) (MemOrdK.of (by simpa using k3)) (fun j p hp => by have := runL_at z 0 s k2 j p hp; rwa [Nat.zero_add] at this) hF k4
    ops.size _ M β a _ (by simp) (fun j o _ hl => by rw [hrep] at hl; cases hl) (Nat.le_add_right _ _) (by rw [hs0]; exact hR') (by rw [hs0]; exact hS)end
end Go.Fw

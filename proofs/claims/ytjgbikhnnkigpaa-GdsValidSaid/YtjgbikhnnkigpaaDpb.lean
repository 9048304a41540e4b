import Derived.Test.YtjgbikhnnkigpaaNbb
set_option linter.unusedSimpArgs false
set_option linter.unusedVariables false
set_option linter.unusedVariables false
set_option linter.unusedSimpArgs false
namespace Go.Fw
open Go Go.RowKit
def Meth (P : Program) (f : FuncId) (args : List AV) (e : TypeId) (l : List AV) (PP : List PanicEntry → Prop) (r : Option (AV × List AV)) : Prop :=
  WB P f args [(1000000, .mut e l)] (fun out s' => match r with
    | some (v, l') => out = .ret v ∧ s'.box 1000000 = some (.mut e l')
    | none => ∃ pl, out = .pan pl ∧ PP pl)
def frzK (ks : Option (Nat × TypeId × List AV)) (box : Nat → Option Box) : Nat → Option Box := match ks with
  | none => box
  | some (k, _, lk) => upd box k (some (.frz lk))
def keyK (ks : Option (Nat × TypeId × List AV)) : Option Nat := ks.map (·.1)
structure MethOk (P : Program) (PP : List PanicEntry → Prop) (fid : FuncId) (args : List AV) (s : AS) (id : Nat) (ks : Option (Nat × TypeId × List AV)) (e : TypeId) (l : List AV) (r : Option (AV × List AV)) (args' : List AV) : Prop where
  box : s.box id = some (.mut e l)
  plain : refsL l = []
  mem : id ∈ refsL args
  refs : ∀ i ∈ refsL args, i = id ∨ ∃ k ek lk, ks = some (k, ek, lk) ∧ i = k
  keys : ∀ k ek lk, ks = some (k, ek, lk) → k ≠ id ∧ s.box k = some (.mut ek lk) ∧ refsL lk = [] ∧ k ∈ refsL args
  args : resDL (frzK ks s.box) args = renL (fun i => if i = 1000000 then id else i) args'
  refs' : ∀ i ∈ refsL args', i = 1000000
  meth : Meth P fid args' e l PP r
  res : ∀ v l', r = some (v, l') → v.refs = [] ∧ refsL l' = []
theorem methMk {P : Program} {PP : List PanicEntry → Prop} {fid : FuncId} {args : List AV} {s : AS} {id : Nat} {ks : Option (Nat × TypeId × List AV)} {e : TypeId} {l : List AV} {r : Option (AV × List AV)} {args' : List AV} (hm : Meth P fid args' e l PP r)
    (h : s.box id = some (.mut e l) ∧ refsL l = [] ∧ id ∈ refsL args ∧ (∀ i ∈ refsL args, i = id ∨ ∃ k ek lk, ks = some (k, ek, lk) ∧ i = k) ∧ (∀ k ek lk, ks = some (k, ek, lk) → k ≠ id ∧ s.box k = some (.mut ek lk) ∧ refsL lk = [] ∧ k ∈ refsL args) ∧
      resDL (frzK ks s.box) args = renL (fun i => if i = 1000000 then id else i) args' ∧ (∀ i ∈ refsL args', i = 1000000) ∧ ∀ v l', r = some (v, l') → v.refs = [] ∧ refsL l' = []) : MethOk P PP fid args s id ks e l r args' :=
  ⟨h.1, h.2.1, h.2.2.1, h.2.2.2.1, h.2.2.2.2.1, h.2.2.2.2.2.1, h.2.2.2.2.2.2.1, hm, h.2.2.2.2.2.2.2⟩
section
variable {P : Program} {C : Ctx} {M : Mem} {β : Loc} {s s' s0 : AS} {w : World} {nt : NT} {a : Act} {Q : Exit → AS → Prop} {PP : List PanicEntry → Prop}
theorem later_frzK (ks : Option (Nat × TypeId × List AV)) (h : ∀ k ek lk, ks = some (k, ek, lk) → s.box k = some (.mut ek lk) ∧ refsL lk = []) : Later s { s with box := frzK ks s.box } := by
  cases ks with
  | none => exact Later.refl s
  | some p =>
    obtain ⟨k, ek, lk⟩ := p
    obtain ⟨h1, h2⟩ := h k ek lk rfl
    exact later_frz1 k h1 h2
theorem methOk_call {fid : FuncId} {args args' : List AV} {id : Nat} {ks : Option (Nat × TypeId × List AV)} {e : TypeId} {l : List AV} {r : Option (AV × List AV)} (h : MethOk P PP fid args s id ks e l r args') {K : Out → AS → Prop}
    (hk : ∀ v l', r = some (v, l') → K (.ret v) ⟨s.env, upd (killBox (keyK ks) s.box) id (some (.mut e l')), s.used⟩) (hp : r = none → ∀ pl s', PP pl → K (.pan pl) s') : CallV P fid args s K := by
  intro C nt M β a w vs hR hS hvs hrep
  obtain ⟨M1, m1, hR1, hS1⟩ := later_frzK ks (fun k ek lk hk => ⟨(h.keys k ek lk hk).2.1, (h.keys k ek lk hk).2.2.1⟩) C M β w nt a hR hS
  have hused : ∀ j ∈ refsL args, s.used j := fun j hj => by
    rcases h.refs j hj with rfl | ⟨k, ek, lk, h1, rfl⟩
    · exact hR.useB j (by rw [h.box]; simp)
    · exact hR.useB j (by rw [(h.keys j ek lk h1).2.1]; simp)
  have hrep1 := (resDL_t hR1 args vs 0 (RepT.mono m1 _ _ _ (fun _ _ => rfl) hrep) hused).1
  have hbox1 : frzK ks s.box id = some (.mut e l) := by
    cases ks with
    | none => exact h.box
    | some p =>
      obtain ⟨k, ek, lk⟩ := p
      have := (h.keys k ek lk rfl).1
      simp only [frzK, upd]
      rw [if_neg (fun hh => this hh.symm)]
      exact h.box
  have hcall : CallV P fid (resDL (frzK ks s.box) args) { s with box := frzK ks s.box } (fun out s' => (∃ v l', r = some (v, l') ∧ out = .ret v ∧ s' = back { s with box := frzK ks s.box } [id] [(id, .mut e l')]) ∨ (r = none ∧ ∃ pl, out = .pan pl ∧ PP pl)) := by
    refine CallV.boxes args' [(1000000, .mut e l)] (fun i => if i = 1000000 then id else i) h.args ?_ ?_ ?_ ?_ h.meth ?_
    · intro p hp
      simp at hp
      subst hp
      refine ⟨Nat.le_refl _, ?_⟩
      simp only [if_true, renBox]
      rw [hbox1, renL_id _ l h.plain]
    · intro p hp q hq _
      simp at hp hq
      rw [hp, hq]
    · intro i hi
      rw [h.refs' i hi]; simp
    · intro p hp i hi
      simp at hp
      subst hp
      simp [Box.refs, h.plain] at hi
    · intro out s' hq
      cases hr : r with
      | none =>
        rw [hr] at hq
        obtain ⟨pl, rfl, hpl⟩ := hq
        refine ⟨[], fun i => i, by simp, by simp, by simp, by simp, .inr ⟨rfl, pl, rfl, hpl⟩⟩
      | some p =>
        obtain ⟨v, l'⟩ := p
        rw [hr] at hq
        obtain ⟨rfl, hs'⟩ := hq
        obtain ⟨hv, hl'⟩ := h.res v l' hr
        have hv' : ∀ ρ, ren ρ v = v := fun ρ => by
          have := renL_id ρ [v] (by simp [refsL, hv])
          simpa [renL] using this
        refine ⟨[(id, .mut e l')], fun i => if i = id then 1000000 else i, ?_, ?_, ?_, ?_, v, (hv' _).symm, by simp [hv], .inl ⟨v, l', rfl, rfl, by simp⟩⟩
        · intro p hp
          simp at hp
          subst hp
          simp only [if_true, renBox]
          rw [hs', renL_id _ l' hl']
        · intro p hp q hq _
          simp at hp hq
          rw [hp, hq]
        · intro p hp i hi
          simp at hp
          subst hp
          simp [Box.refs, hl'] at hi
        · intro p hp _
          simp at hp
          subst hp
          simp
  refine (hcall C nt M1 β a w vs hR1 hS1 (by rw [hvs, resDL_length]) hrep1).mono ?_
  rintro e' w' ⟨out, s', M', β', hK, hR', hS', hE⟩
  rcases hK with ⟨v, l', hr, rfl, rfl⟩ | ⟨hr, pl, rfl, hpl⟩
  · obtain ⟨hv, hl'⟩ := h.res v l' hr
    have hne : ∀ i x, upd (killBox (keyK ks) s.box) id (some (.mut e l')) i = some x → i = id ∧ x = .mut e l' ∨ i ≠ id ∧ s.box i = some x ∧ frzK ks s.box i = some x := fun i x hi => by
      simp only [upd] at hi
      split at hi
      · rename_i he; cases hi; exact .inl ⟨he, rfl⟩
      · rename_i he
        refine .inr ⟨he, ?_⟩
        cases ks with
        | none => exact ⟨hi, hi⟩
        | some p =>
          obtain ⟨k, ek, lk⟩ := p
          simp only [keyK, Option.map_some, killBox, upd] at hi
          split at hi
          · cases hi
          · rename_i hk; refine ⟨hi, ?_⟩; simp only [frzK, upd]; rw [if_neg hk]; exact hi
    refine ⟨.ret v, _, M', β', hk v l' hr, hR'.less (fun i x hi => ?_) (fun i x hi => ?_) (fun i e1 l1 hi j hj => ?_) (fun i hi => (hR.pin i hi).1) s.env, ⟨hS'.dfr, hS'.size, hS'.slot, hS.refE⟩, ?_⟩
    · rcases hne i x hi with ⟨rfl, rfl⟩ | ⟨h1, h2, h3⟩
      · simp [back, lk]
      · simp only [back, lk]
        rw [if_neg (fun hh => h1 hh.symm)]
        simp [h1, h3]
    · rcases hne i x hi with ⟨rfl, _⟩ | ⟨h1, h2, h3⟩
      · exact hR.useB i (by rw [h.box]; simp)
      · exact hR.useB i (by rw [h2]; simp)
    · rcases hne i _ hi with ⟨rfl, hx⟩ | ⟨h1, h2, h3⟩
      · cases hx; rw [hl'] at hj; cases hj
      · exact hR.refB i e1 l1 h2 j hj
    · cases e' with
      | returned x =>
        have hok : Ok M' β' _ v x := hE
        exact ⟨hok.rep, fun i hi => by rw [hv] at hi; cases hi⟩
      | panicked l' => exact hE
      | outgrown => exact hE
  · exact ⟨.pan pl, s', M', β', hp hr pl s' hpl, hR', hS', hE⟩
theorem CallG_meth {fid : FuncId} {caps args args' : List AV} {K : Out → AS → Prop} {id : Nat} {ks : Option (Nat × TypeId × List AV)} {e : TypeId} {l : List AV} {v : AV} {l' : List AV} (h : MethOk P PP fid (args ++ caps) s id ks e l (some (v, l')) args')
    (hk : K (.ret v) ⟨s.env, upd (killBox (keyK ks) s.box) id (some (.mut e l')), s.used⟩) : CallG P (.fn fid caps) args s K :=
  methOk_call h (fun v2 l2 h2 => by cases h2; exact hk) (fun h => by cases h)
theorem CallG_methP {fid : FuncId} {caps args args' : List AV} {K : Out → AS → Prop} {id : Nat} {ks : Option (Nat × TypeId × List AV)} {e : TypeId} {l : List AV} (h : MethOk P PP fid (args ++ caps) s id ks e l none args')
    (hp : ∀ pl s', PP pl → K (.pan pl) s') : CallG P (.fn fid caps) args s K :=
  methOk_call h (fun v2 l2 h2 => by cases h2) (fun _ => hp)
end
def callOkP (P : Program) (PP : List PanicEntry → Prop) (f : AV) (args : List AV) (st : St) (dm : Bool) (s : AS) : Prop :=
  (callOk P f args st s ∧ dm = false) ∨ ∃ fid caps id ks e l r args', f = .fn fid caps ∧ MethOk P PP fid (args ++ caps) s id ks e l r args' ∧
    ((dm = false ∧ ∃ v l', r = some (v, l') ∧ st = ⟨v, some ⟨v, keyK ks, id, e, l', false⟩⟩) ∨ (dm = true ∧ r = none ∧ ∃ v, st = ⟨v, some ⟨v, keyK ks, id, e, l, false⟩⟩))
def validP (P : Program) (PP : List PanicEntry → Prop) (ops : List Oper) (o : Oper) (st : St) (dm : Bool) (s : AS) : Prop :=
  (gOn ops o s = some false ∧ st = ⟨.tup [], none⟩ ∧ dm = false) ∨
  (gOn ops o s = some true ∧ match o.op with
    | .call c => match c.callee with
      | .value f => callOkP P PP (s.val f) (c.args.toList.map s.val) st dm s
      | _ => stepOk P o st s ∧ dm = false
    | .panic _ => False
    | _ => stepOk P o st s ∧ dm = false)
def isAppP (PP : List PanicEntry → Prop) (dm : Bool) (o : Oper) (st : St) (s : AS) : Exit → AS → Prop
  | .normal, s' => dm = false ∧ s' = app o st s
  | .panic l, _ => PP l
  | _, _ => False
section
variable {P : Program} {C : Ctx} {M : Mem} {β : Loc} {s s' s0 : AS} {w : World} {nt : NT} {a : Act} {Q : Exit → AS → Prop} {PP : List PanicEntry → Prop}
theorem callOkP_callG {o : Oper} {f : AV} {args : List AV} {st : St} {dm : Bool} (h : callOkP P PP f args st dm s) (Q : Exit → AS → Prop) (hQ : dm = false → Q .normal (app o st s)) (hP : ∀ pl s', PP pl → Q (.panic pl) s') :
    CallG P f args s (fun out s' => match out with
      | .ret v => Q .normal (s'.put o.dst v)
      | .pan l => Q (.panic l) s') := by
  rcases h with ⟨h, hd⟩ | ⟨fid, caps, id, ks, e, l, r, args', rfl, h, hs⟩
  · exact callOk_callG h Q (hQ hd)
  · refine methOk_call h (fun v l' hr => ?_) (fun _ => hP)
    rcases hs with ⟨hd, v2, l2, h2, rfl⟩ | ⟨_, h2, _⟩
    · rw [hr] at h2
      cases h2
      exact hQ hd
    · rw [hr] at h2; cases h2
theorem stepOk_app {o : Oper} {st : St} {dm : Bool} (h : stepOk P o st s) (hd : dm = false) : stepK P o s (isAppP PP dm o st s .normal) := by
  subst hd
  unfold stepOk at h
  unfold stepK
  split
  · rename_i hm
    rw [if_pos hm] at h
    obtain ⟨f, h1, h2, rfl⟩ := h
    exact ⟨f, h1, h2, rfl, rfl⟩
  · rename_i hm
    rw [if_neg hm] at h
    obtain ⟨v, h1, rfl⟩ := h
    exact ⟨v, h1, rfl, rfl⟩
theorem validP_vcn {ops : List Oper} {o : Oper} {st : St} {dm : Bool} (h : validP P PP ops o st dm s) : vcn P ops (isAppP PP dm o st s) [o] s := by
  rcases h with ⟨hg, rfl, rfl⟩ | ⟨hg, h⟩
  · exact ⟨false, hg, by simp [vcn, isAppP, app]⟩
  · refine ⟨true, hg, ?_⟩
    simp only [if_true]
    split at h
    · rename_i c hc
      try simp only [hc]
      split at h
      · rename_i f hf
        try simp only [hf]
        exact callOkP_callG h (isAppP PP dm o st s) (fun hd => ⟨hd, rfl⟩) (fun _ _ hp => hp)
      · rename_i hf
        have := stepOk_app h.1 h.2 (PP := PP)
        first
          | exact this
          | (split
             · rename_i f hf2; exact absurd hf2 (hf f)
             · exact this)
    · exact h.elim
    · rename_i h1 h2
      have := stepOk_app h.1 h.2 (PP := PP)
      first
        | exact this
        | (split
           · rename_i c hc; exact absurd hc (h1 c)
           · rename_i x hx; exact absurd hx (h2 x)
           · exact this)
theorem validP_wpOp {dm : Bool} {ops : Array Oper} {o : Oper} {st : St} {i : Nat} (hi : ops[i]? = some o) (hd : dstOk nt o.dst = true) (h : validP P PP ops.toList o st dm s) (hR : Rel C M β s w) (hS : Slots nt M β s a)
    {K : Act → World → Prop} {Q : Exit → Act → World → Prop} (hP : ∀ pl s' M' β' a' w', PP pl → Rel C M' β' s' w' → Slots nt M' β' s' a' → Q (.panic pl) a' w') (hK : dm = false → ∀ a' w' M' β', Rel C M' β' (app o st s) w' → Slots nt M' β' (app o st s) a' → K a' w') : wpOpIn nt.F 0 P ops Q i K a w := by
  have h1 := vcn_wp (nt := nt) (Q := isAppP PP dm o st s) ops [o] s M β a w (by simpa using hd) hR hS (validP_vcn h)
  have hn : ∀ a w, lift C nt (isAppP PP dm o st s) .normal a w → K a w := by
    rintro a w ⟨s', M', β', ⟨hd, rfl⟩, k1, k2⟩
    exact hK hd a w M' β' k1 k2
  have hlets : ¬ LetsOut (lift C nt (isAppP PP dm o st s)) := by
    rintro ⟨a, w, s', M', β', hf, _⟩
    exact hf
  unfold wpOpIn
  simp only [hi]
  unfold wpListIn at h1
  split
  · rename_i hw
    rw [if_pos hw] at h1
    refine wpIn_monoQ (fun a w hk => ?_) ?_ (fun hl => absurd hl hlets) h1
    · unfold wpListIn at hk; exact hn a w hk
    · rintro c a w ⟨s', M', β', hf, k1, k2⟩; exact hP c s' M' β' a w hf k1 k2
  · rename_i hw
    rw [if_neg hw] at h1
    obtain ⟨h0, h1⟩ := h1
    unfold wpListIn at h1
    exact ⟨h0, hn _ _ h1⟩
theorem MethOk.agree {fid : FuncId} {args args' : List AV} {id : Nat} {ks : Option (Nat × TypeId × List AV)} {e : TypeId} {l : List AV} {r : Option (AV × List AV)} (h : MethOk P PP fid args s' id ks e l r args')
    (hb : ∀ i ∈ refsL args, s.box i = s'.box i) : MethOk P PP fid args s id ks e l r args' := by
  refine ⟨by rw [hb id h.mem]; exact h.box, h.plain, h.mem, h.refs, fun k ek lk hk => ?_, ?_, h.refs', h.meth, h.res⟩
  · obtain ⟨h1, h2, h3, h4⟩ := h.keys k ek lk hk
    exact ⟨h1, by rw [hb k h4]; exact h2, h3, h4⟩
  · rw [← h.args]
    refine resDL_agree _ _ _ fun i hi => ?_
    cases ks with
    | none => exact hb i hi
    | some p =>
      obtain ⟨k, ek, lk⟩ := p
      simp only [frzK, upd]
      split
      · rfl
      · exact hb i hi
theorem validP_agree {dm : Bool} {ops : Array Oper} {o : Oper} {st : St} (h : validP P PP ops.toList o st dm s') (ha : Agree (o.looksAt ops) s s') (hu : ∀ d, st.fresh d → ¬ s'.used d → ¬ s.used d) : validP P PP ops.toList o st dm s := by
  have hop : ∀ x ∈ o.op.operands, ∀ t, x = .tmp t → t ∈ o.looksAt ops := fun x hx t he => by
    subst he
    exact List.mem_append_left _ (List.mem_filterMap.2 ⟨.tmp t, by simpa using hx, rfl⟩)
  have hv : ∀ x ∈ o.op.operands, s.val x = s'.val x := fun x hx => (ha.val (hop x hx)).1
  have hb : ∀ x ∈ o.op.operands, ∀ id ∈ (s'.val x).refs, s.box id = s'.box id := fun x hx => (ha.val (hop x hx)).2
  have hg : gOn ops.toList o s = gOn ops.toList o s' := by
    unfold gOn
    cases hgd : o.guard with
    | none => rfl
    | some gw =>
      obtain ⟨j, want⟩ := gw
      simp only []
      have e : ops.toList[j]? = ops[j]? := by simp
      rw [e]
      cases hd : (ops[j]?).bind (·.dst) with
      | none => rfl
      | some d =>
        simp only []
        rw [ha.env d (List.mem_append_right _ (by rw [hgd]; simp [hd]))]
  have hstep : stepOk P o st s' → stepOk P o st s := by
    intro h
    unfold stepOk at *
    split
    · rename_i hm
      rw [if_pos hm] at h
      obtain ⟨f, h1, h2, rfl⟩ := h
      exact ⟨f, by rw [evMem_agree hv hb]; exact h1, fun hf => hu f.d ⟨f, rfl, hf, rfl⟩ (h2 hf), rfl⟩
    · rename_i hm
      rw [if_neg hm] at h
      obtain ⟨v, h1, rfl⟩ := h
      exact ⟨v, by rw [evPure_agree hv hb]; exact h1, rfl⟩
  unfold validP at *
  rw [hg]
  rcases h with h | ⟨h1, h2⟩
  · exact .inl h
  · refine .inr ⟨h1, ?_⟩
    split at h2
    · rename_i c hc
      have hv' : ∀ x ∈ c.operands, s.val x = s'.val x := fun x hx => hv x (by rw [hc]; simpa [Op.operands] using hx)
      split at h2
      · rename_i f hf
        have e1 : s.val f = s'.val f := hv' f (by simp [Call.operands, hf])
        have e2 : c.args.toList.map s.val = c.args.toList.map s'.val := map_agree fun x hx => hv' x (by simp [Call.operands, hx])
        rcases h2 with ⟨⟨fid, caps, k1, h2⟩, hdm⟩ | ⟨fid, caps, id, ks, e, l, r, args', k1, hm, hs⟩
        rotate_left
        · refine .inr ⟨fid, caps, id, ks, e, l, r, args', by rw [e1]; exact k1, ?_, hs⟩
          rw [e2]
          refine hm.agree fun i hi => ?_
          rw [mem_refsL] at hi
          obtain ⟨v, hv1, hv2⟩ := hi
          rcases List.mem_append.1 hv1 with hv1 | hv1
          · obtain ⟨x, hx, rfl⟩ := List.mem_map.1 hv1
            exact hb x (by rw [hc]; simp only [Op.operands, Call.operands, hf]; simp at hx ⊢; exact .inr hx) i hv2
          · refine hb f (by rw [hc]; simp [Op.operands, Call.operands, hf]) i ?_
            rw [k1]
            simp only [AV.refs]
            exact mem_refsL.2 ⟨v, hv1, hv2⟩
        refine .inl ⟨⟨fid, caps, by rw [e1]; exact k1, ?_⟩, hdm⟩
        rw [e2]
        rcases h2 with ⟨k2, r, k3, k4⟩ | ⟨id, e, l, d, r, k2, k3, k4, k5, k6, k7, k8, rfl⟩
        · refine .inl ⟨k2, r, k3, ?_⟩
          rcases k4 with k4 | ⟨e, z, n, l, d, q1, q2, rfl⟩
          · exact .inl k4
          · exact .inr ⟨e, z, n, l, d, q1, hu d ⟨_, rfl, rfl, rfl⟩ q2, rfl⟩
        · have hb' : ∀ x ∈ c.operands, ∀ id ∈ (s'.val x).refs, s.box id = s'.box id := fun x hx => hb x (by rw [hc]; simpa [Op.operands] using hx)
          have hid : id ∈ refsL (c.args.toList.map s'.val ++ caps) := by rw [k2]; simp
          have hbx : s.box id = s'.box id := by
            rw [mem_refsL] at hid
            obtain ⟨v, hv1, hv2⟩ := hid
            rcases List.mem_append.1 hv1 with hv1 | hv1
            · obtain ⟨x, hx, rfl⟩ := List.mem_map.1 hv1
              exact hb' x (by simp only [Call.operands, hf]; simp at hx ⊢; exact .inr hx) id hv2
            · refine hb' f (by simp [Call.operands, hf]) id ?_
              rw [k1]
              simp only [AV.refs]
              exact mem_refsL.2 ⟨v, hv1, hv2⟩
          have hres : resDL (upd s.box id (some (.frz l))) (c.args.toList.map s'.val ++ caps) = resDL (upd s'.box id (some (.frz l))) (c.args.toList.map s'.val ++ caps) := by
            refine resDL_agree _ _ _ fun i hi => ?_
            rw [k2] at hi
            simp only [List.mem_singleton] at hi
            subst hi
            simp [upd]
          exact .inr ⟨id, e, l, d, r, k2, by rw [hbx]; exact k3, k4, by rw [hres]; exact k5, by rw [hres]; exact k6, k7, hu d ⟨_, rfl, rfl, rfl⟩ k8, rfl⟩
      · rename_i hf
        exact ⟨hstep h2.1, h2.2⟩
    · exact h2.elim
    · rename_i k1 k2
      exact ⟨hstep h2.1, h2.2⟩
def RunP (P : Program) (PP : List PanicEntry → Prop) (ops : List Oper) (z : List (Oper × St)) (dm : Nat → Bool) (s0 : AS) : Prop :=
  ∀ j p, z[j]? = some p → validP P PP ops p.1 p.2 (dm j) (stZ (fun i => decide (i < j)) 0 z s0)
theorem any_orderP {dm : Nat → Bool} {ops : Array Oper} {A : List (List Nat)} {z : List (Oper × St)} (hz : z.map (·.1) = ops.toList) (hd : ∀ o ∈ ops, dstOk nt o.dst = true) (hA : Ord ops A) (hM : MemOrd ops.toList A z s0) (hrun : RunP P PP ops.toList z dm s0) (hP : ∀ pl s, PP pl → Q (.panic pl) s)
    (hQ : (∀ j, j < z.length → dm j = false) → Q .normal (stZ (fun _ => true) 0 z s0)) :
    ∀ (fuel : Nat) (listed : Array Bool) (M : Mem) (β : Loc) (a : Act) (w : World), listed.size = ops.size →
      (∀ j o, ops[j]? = some o → listed.getD j false = true → ∀ i ∈ edgesOf o, listed.getD i false = true) →
      (ops.size ≤ fuel + (List.range ops.size).countP fun i => listed.getD i false) → (∀ j, dm j = true → listed.getD j false = false) →
      Rel C M β (stZ (fun i => listed.getD i false) 0 z s0) w → Slots nt M β (stZ (fun i => listed.getD i false) 0 z s0) a →
      wpAnyIn nt.F 0 P .any ops (lift C nt Q) fuel listed a w := by
  have hzl : z.length = ops.size := by rw [← Array.length_toList, ← hz]; simp
  have zop : ∀ (j : Nat) (p : Oper × St), z[j]? = some p → ops[j]? = some p.1 := fun j p hp => by
    have : (z.map (·.1))[j]? = some p.1 := by simp [hp]
    rw [hz] at this; simpa using this
  have zget : ∀ (j : Nat) (o : Oper), ops[j]? = some o → ∃ st, z[j]? = some (o, st) := fun j o ho => by
    have hj : j < z.length := by rw [hzl]; exact (Array.getElem?_eq_some_iff.1 ho).1
    have h1 : z[j]? = some z[j] := List.getElem?_eq_getElem hj
    have h2 := zop j _ h1
    rw [ho] at h2
    cases h2
    exact ⟨_, h1⟩
  have done : ∀ (listed : Array Bool) (M : Mem) (β : Loc) (a : Act) (w : World), listed.size = ops.size → Region.ready .any ops listed = [] → (∀ j, dm j = true → listed.getD j false = false) →
      Rel C M β (stZ (fun i => listed.getD i false) 0 z s0) w → Slots nt M β (stZ (fun i => listed.getD i false) 0 z s0) a → lift C nt Q .normal a w := by
    intro listed M β a w hsz hr hdm hR hS
    have all : ∀ n j, j < n → j < ops.size → listed.getD j false = true := by
      intro n
      induction n with
      | zero => intro j hj; omega
      | succ n ih =>
        intro j hj hjs
        have ho : ops[j]? = some ops[j] := Array.getElem?_eq_getElem hjs
        cases hl : listed.getD j false with
        | true => rfl
        | false =>
          exfalso
          have hmem : j ∈ Region.ready .any ops listed := by
            rw [mem_ready]
            refine ⟨?_, ops[j], ho, fun e he hb => ?_⟩
            · have hjl : j < listed.size := by omega
              rw [Array.getD_eq_getD_getElem?, Array.getElem?_eq_getElem hjl] at hl ⊢
              exact hl
            · have hi : e.on ∈ edgesOf ops[j] := by
                unfold edgesOf
                exact List.mem_map.2 ⟨e, List.mem_filter.2 ⟨by simpa using he, hb⟩, rfl⟩
              have := hA.back j _ ho e.on hi
              exact ih e.on (by omega) (by omega)
          rw [hr] at hmem
          cases hmem
    have heq : stZ (fun i => listed.getD i false) 0 z s0 = stZ (fun _ => true) 0 z s0 := by
      have lt : ∀ (i : Nat) (p : Oper × St), z[i]? = some p → listed.getD (0 + i) false = true := fun i p hp => by
        have : i < z.length := (List.getElem?_eq_some_iff.1 hp).1
        rw [Nat.zero_add]
        exact all (i + 1) i (by omega) (by omega)
      refine AS.ext' (fun t => env_congr z 0 s0 s0 rfl fun i p hp _ => lt i p hp) (fun id => box_congr z 0 s0 s0 rfl fun i p hp _ => lt i p hp) (fun id => ?_)
      rw [used_iff, used_iff]
      constructor
      · rintro (h | ⟨i, p, h1, _, h3⟩)
        · exact .inl h
        · exact .inr ⟨i, p, h1, rfl, h3⟩
      · rintro (h | ⟨i, p, h1, _, h3⟩)
        · exact .inl h
        · exact .inr ⟨i, p, h1, lt i p h1, h3⟩
    rw [heq] at hR hS
    refine ⟨_, M, β, hQ fun j hj => ?_, hR, hS⟩
    cases hd : dm j with
    | false => rfl
    | true =>
      have h1 := hdm j hd
      rw [all (j + 1) j (by omega) (by omega)] at h1
      cases h1
  intro fuel
  induction fuel with
  | zero =>
    intro listed M β a w hsz hcl hcnt hdm hR hS
    have hnil : Region.ready .any ops listed = [] := by
      rw [List.eq_nil_iff_forall_not_mem]
      intro j hj
      rw [mem_ready] at hj
      obtain ⟨h1, o, ho, _⟩ := hj
      have hjs : j < ops.size := (Array.getElem?_eq_some_iff.1 ho).1
      have hle : (List.range ops.size).countP (fun i => listed.getD i false) = (List.range ops.size).length := by
        have := List.countP_le_length (p := fun i => listed.getD i false) (l := List.range ops.size)
        simp at this ⊢
        simp at hcnt
        omega
      rw [List.countP_eq_length] at hle
      have := hle j (List.mem_range.2 hjs)
      have hjl : j < listed.size := by omega
      rw [Array.getD_eq_getD_getElem?, Array.getElem?_eq_getElem hjl] at h1 this
      simp at h1 this
      rw [h1] at this
      cases this
    exact ⟨hnil, done listed M β a w hsz hnil hdm hR hS⟩
  | succ fuel ih =>
    intro listed M β a w hsz hcl hcnt hdm hR hS
    refine ⟨fun hnil => done listed M β a w hsz hnil hdm hR hS, fun j hj => ?_⟩
    rw [mem_ready] at hj
    obtain ⟨hj0, o, ho, hedge⟩ := hj
    have hjs : j < ops.size := (Array.getElem?_eq_some_iff.1 ho).1
    have hjl : j < listed.size := by omega
    have hj1 : listed.getD j false = false := by
      rw [Array.getD_eq_getD_getElem?, Array.getElem?_eq_getElem hjl] at hj0 ⊢
      exact hj0
    obtain ⟨st, hst⟩ := zget j o ho
    have hedges : ∀ i ∈ edgesOf o, listed.getD i false = true := by
      intro i hi
      unfold edgesOf at hi
      obtain ⟨e, he, rfl⟩ := List.mem_map.1 hi
      obtain ⟨he, hb⟩ := List.mem_filter.1 he
      exact hedge e (by simpa using he) hb
    have hancs : ∀ i ∈ A.getD j [], listed.getD i false = true := closed_anc hA (L := fun i => listed.getD i false) hcl (j + 1) j o (Nat.lt_succ_self _) ho hedges
    -- who stands in order with j is listed just if it stands before
    have key : ∀ (i : Nat) (p : Oper × St), z[i]? = some p → (i ∈ A.getD j [] ∨ j ∈ A.getD i []) → listed.getD i false = decide (i < j) := by
      intro i p hp hor
      have hpo := zop i p hp
      rcases hor with h | h
      · have hlt := (hA.ancLt j o ho i h).1
        rw [hancs i h, decide_eq_true hlt]
      · have hlt := (hA.ancLt i _ hpo j h).1
        rw [decide_eq_false (by omega)]
        cases hl : listed.getD i false with
        | false => rfl
        | true =>
          have := closed_anc hA (L := fun i => listed.getD i false) hcl (i + 1) i _ (Nat.lt_succ_self _) hpo (hcl i _ hpo hl) j h
          rw [hj1] at this
          cases this
    have self : ∀ p : Oper × St, z[j]? = some p → listed.getD j false = decide (j < j) := fun p _ => by rw [hj1]; simp
    have hval := hrun j _ hst
    have hag : Agree (o.looksAt ops) (stZ (fun i => listed.getD i false) 0 z s0) (stZ (fun i => decide (i < j)) 0 z s0) := by
      refine ⟨fun t ht => ?_, fun t ht id hid => ?_⟩
      · refine env_congr z 0 s0 s0 rfl fun i p hp hdt => ?_
        rw [Nat.zero_add]
        by_cases hij : i = j
        · subst hij; exact self p hp
        · exact key i p hp (hA.look i j _ o (zop i p hp) ho hij t hdt ht)
      · refine box_congr z 0 s0 s0 rfl fun i p hp htc => ?_
        rw [Nat.zero_add]
        by_cases hij : i = j
        · subst hij; exact self p hp
        · refine key i p hp (hM.look i j p _ hp hst hij id htc ?_)
          unfold lookIds
          rw [mem_refsL]
          exact ⟨_, List.mem_map.2 ⟨t, by simpa using ht, rfl⟩, hid⟩
    have hfresh : ∀ d, st.fresh d → ¬ (stZ (fun i => decide (i < j)) 0 z s0).used d → ¬ (stZ (fun i => listed.getD i false) 0 z s0).used d := by
      intro d hfd hnu hu
      rw [used_iff] at hu
      rcases hu with hu | ⟨i, p, hp, hl, hfr⟩
      · exact hnu ((used_iff z 0 s0).2 (.inl hu))
      · rw [Nat.zero_add] at hl
        have hij : i ≠ j := fun he => by subst he; rw [hj1] at hl; cases hl
        rcases Nat.lt_or_gt_of_ne hij with hlt | hgt
        · exact hnu ((used_iff z 0 s0).2 (.inr ⟨i, p, hp, by simpa using hlt, hfr⟩))
        · have hvi := hrun i p hp
          have hui : (stZ (fun k => decide (k < i)) 0 z s0).used d := (used_iff z 0 s0).2 (.inr ⟨j, _, hst, by simpa using hgt, hfd⟩)
          -- i drew a number that was taken
          obtain ⟨f, hf, hff, rfl⟩ := hfr
          rcases hvi with ⟨_, hvi, _⟩ | ⟨_, hvi⟩
          · rw [hvi] at hf; cases hf
          · have hs : stepOk P p.1 p.2 (stZ (fun k => decide (k < i)) 0 z s0) → False := by
              intro hs
              unfold stepOk at hs
              split at hs
              · obtain ⟨f', _, h2, h3⟩ := hs
                rw [h3] at hf
                cases hf
                exact h2 hff hui
              · obtain ⟨v, _, h3⟩ := hs
                rw [h3] at hf; cases hf
            split at hvi
            · split at hvi
              · rcases hvi with ⟨hvi, _⟩ | ⟨_, _, _, _, _, _, _, _, _, _, hst2⟩
                rotate_left
                · rcases hst2 with ⟨_, _, _, _, h3⟩ | ⟨_, _, _, h3⟩
                  · rw [h3] at hf; cases hf; cases hff
                  · rw [h3] at hf; cases hf; cases hff
                obtain ⟨_, _, _, h⟩ := hvi
                rcases h with ⟨_, _, _, ⟨_, h⟩ | ⟨e, zz, n, l, d, _, h2, h3⟩⟩ | ⟨_, e, l, d, r, _, _, _, _, _, _, h2, h3⟩
                · rw [h] at hf; cases hf
                · rw [h3] at hf; cases hf; exact h2 hui
                · rw [h3] at hf; cases hf; exact h2 hui
              · exact hs hvi.1
            · exact hvi
            · exact hs hvi.1
    have hv := validP_agree hval hag hfresh
    refine validP_wpOp ho (hd o (Array.mem_of_getElem? ho)) hv hR hS (fun pl s' M' β' a' w' hpl k1 k2 => ⟨s', M', β', hP pl s' hpl, k1, k2⟩) fun hdj a' w' M' β' hR' hS' => ?_
    have hcomm : app o st (stZ (fun i => listed.getD i false) 0 z s0) = stZ (fun i => (listed.setIfInBounds j true).getD i false) 0 z s0 := by
      have setne : ∀ i, i ≠ j → (listed.setIfInBounds j true).getD i false = listed.getD i false := fun i hi => getD_set_ne false (Ne.symm hi)
      have seteq : (listed.setIfInBounds j true).getD j false = true := by simp [hjl]
      refine AS.ext' (fun t => ?_) (fun id => ?_) (fun id => ?_)
      · by_cases hdt : o.dst = some t
        · rw [app_env_eq hdt]
          refine (env_last z 0 j (o, st) s0 hst (by rw [Nat.zero_add]; exact seteq) hdt fun i q hi hq hqd => ?_).symm
          exact absurd hqd (hA.dist j i o _ ho (zop i q hq) (by omega) t hdt)
        · rw [app_env_ne hdt]
          refine env_congr z 0 s0 s0 rfl fun i p hp hpd => ?_
          rw [Nat.zero_add]
          by_cases hij : i = j
          · subst hij
            rw [hst] at hp; cases hp
            exact absurd hpd hdt
          · exact (setne i hij).symm
      · by_cases htc : st.touches id
        · refine (box_last z 0 j (o, st) s0 _ hst (by rw [Nat.zero_add]; exact seteq) htc fun i q hi hq hqt => ?_).symm
          rw [Nat.zero_add, setne i (by omega)]
          have := key i q hq (hM.both i j q _ hq hst (by omega) id hqt htc)
          rw [this]
          simp; omega
        · rw [app_box_ne htc]
          refine box_congr z 0 s0 s0 rfl fun i p hp hpt => ?_
          rw [Nat.zero_add]
          by_cases hij : i = j
          · subst hij
            rw [hst] at hp; cases hp
            exact absurd hpt htc
          · exact (setne i hij).symm
      · rw [app_used, used_iff, used_iff]
        constructor
        · rintro ((h | ⟨i, p, h1, h2, h3⟩) | h)
          · exact .inl h
          · refine .inr ⟨i, p, h1, ?_, h3⟩
            exact getD_set_true h2
          · exact .inr ⟨j, _, hst, by rw [Nat.zero_add]; exact seteq, h⟩
        · rintro (h | ⟨i, p, h1, h2, h3⟩)
          · exact .inl (.inl h)
          · rw [Nat.zero_add] at h2
            by_cases hij : i = j
            · subst hij
              rw [hst] at h1; cases h1
              exact .inr h3
            · exact .inl (.inr ⟨i, p, h1, by rw [Nat.zero_add, ← setne i hij]; exact h2, h3⟩)
    rw [hcomm] at hR' hS'
    refine ih _ M' β' a' w' (by simp [hsz]) ?_ ?_ ?_ hR' hS'
    · intro i p hp hl k hk
      by_cases hij : i = j
      · subst hij
        rw [ho] at hp; cases hp
        exact getD_set_true (hedges k hk)
      · rw [getD_set_ne false (Ne.symm hij)] at hl
        exact getD_set_true (hcl i p hp hl k hk)
    · have hcount : (List.range ops.size).countP (fun i => listed.getD i false) + 1 ≤ (List.range ops.size).countP (fun i => (listed.setIfInBounds j true).getD i false) := by
        have gen : ∀ l : List Nat, l.Nodup → j ∈ l → l.countP (fun i => listed.getD i false) + 1 ≤ l.countP (fun i => (listed.setIfInBounds j true).getD i false) := by
          intro l
          have mono : ∀ l : List Nat, l.countP (fun i => listed.getD i false) ≤ l.countP (fun i => (listed.setIfInBounds j true).getD i false) := fun l =>
            List.countP_mono_left fun x _ hx => getD_set_true hx
          induction l with
          | nil => intro _ h; cases h
          | cons x l ihl =>
            intro hnd hm
            rw [List.nodup_cons] at hnd
            by_cases hx : x = j
            · subst hx
              rw [List.countP_cons, List.countP_cons]
              have := mono l
              have e2 : (listed.setIfInBounds x true).getD x false = true := by simp [hjl]
              simp only [hj1, e2, if_true, Bool.false_eq_true, if_false]
              omega
            · have hm' : j ∈ l := by simpa [Ne.symm hx] using hm
              have := ihl hnd.2 hm'
              rw [List.countP_cons, List.countP_cons, getD_set_ne false (Ne.symm hx)]
              omega
        exact gen _ List.nodup_range (List.mem_range.2 hjs)
      omega
    · intro i hi
      by_cases hij : i = j
      · subst hij; rw [hdj] at hi; cases hi
      · rw [getD_set_ne false (Ne.symm hij)]; exact hdm i hi
end
def callDP (P : Program) (PP : List PanicEntry → Prop) (o : Oper) (f : AV) (args : List AV) (s : AS) (k : Bool → AS → List Nat → Prop) : Prop :=
  callD P o f args s (k false) ∨ ∃ fid caps id ks e l r args', f = .fn fid caps ∧ MethOk P PP fid (args ++ caps) s id ks e l r args' ∧
    ((∃ v l', r = some (v, l') ∧ k false ((s.eff ⟨v, keyK ks, id, e, l', false⟩).put o.dst v) (id :: (keyK ks).toList)) ∨ (r = none ∧ ∃ v, k true ((s.eff ⟨v, keyK ks, id, e, l, false⟩).put o.dst v) (id :: (keyK ks).toList)))
@[congr] theorem callDP_congr {P : Program} {PP : List PanicEntry → Prop} {o : Oper} {f f' : AV} {l l' : List AV} {s : AS} {k : Bool → AS → List Nat → Prop} (h : f = f') (h2 : l = l') : callDP P PP o f l s k = callDP P PP o f' l' s k := by rw [h, h2]
def vcnDP (P : Program) (PP : List PanicEntry → Prop) (ops : List Oper) (A : List (List Nat)) (Q : AS → Prop) : Bool → List Oper → AS → List (List Nat × List Nat) → Prop
  | dm, [], s, acc => memOk A acc = true ∧ (dm = true ∨ Q s)
  | dm, o :: r, s, acc => optK (gOn ops o s) fun g =>
      if g = true then
        match o.op with
        | .call c => match c.callee with
          | .value f => callDP P PP o (s.val f) (c.args.toList.map s.val) s fun d s' ids => vcnDP P PP ops A Q (dm || d) r s' (acc ++ [(lookIds ops o s, ids)])
          | _ => stepD P o s fun s' ids => vcnDP P PP ops A Q dm r s' (acc ++ [(lookIds ops o s, ids)])
        | .panic _ => False
        | _ => stepD P o s fun s' ids => vcnDP P PP ops A Q dm r s' (acc ++ [(lookIds ops o s, ids)])
      else vcnDP P PP ops A Q dm r (s.put o.dst (.tup [])) (acc ++ [(lookIds ops o s, [])])
section
variable {P : Program} {s : AS} {nt : NT} {Q : Exit → AS → Prop} {PP : List PanicEntry → Prop}
theorem callDP_d {o : Oper} {f : AV} {args : List AV} {k : Bool → AS → List Nat → Prop} (h : callD P o f args s (k false)) : callDP P PP o f args s k := .inl h
theorem callDP_meth {o : Oper} {fid : FuncId} {caps args args' : List AV} {k : Bool → AS → List Nat → Prop} {id : Nat} {ks : Option (Nat × TypeId × List AV)} {e : TypeId} {l : List AV} {v : AV} {l' : List AV}
    (h : MethOk P PP fid (args ++ caps) s id ks e l (some (v, l')) args') (hk : k false ((s.eff ⟨v, keyK ks, id, e, l', false⟩).put o.dst v) (id :: (keyK ks).toList)) : callDP P PP o (.fn fid caps) args s k :=
  .inr ⟨fid, caps, id, ks, e, l, _, args', rfl, h, .inl ⟨v, l', rfl, hk⟩⟩
theorem callDP_dies {o : Oper} {fid : FuncId} {caps args args' : List AV} {k : Bool → AS → List Nat → Prop} {id : Nat} {ks : Option (Nat × TypeId × List AV)} {e : TypeId} {l : List AV} (v : AV)
    (h : MethOk P PP fid (args ++ caps) s id ks e l none args') (hk : k true ((s.eff ⟨v, keyK ks, id, e, l, false⟩).put o.dst v) (id :: (keyK ks).toList)) : callDP P PP o (.fn fid caps) args s k :=
  .inr ⟨fid, caps, id, ks, e, l, _, args', rfl, h, .inr ⟨rfl, v, hk⟩⟩
def RunLP (P : Program) (PP : List PanicEntry → Prop) (ops : List Oper) : List (Oper × St × Bool) → AS → Prop
  | [], _ => True
  | p :: z, s => validP P PP ops p.1 p.2.1 p.2.2 s ∧ RunLP P PP ops z (app p.1 p.2.1 s)
def cutZ (z : List (Oper × St × Bool)) : List (Oper × St) := z.map fun p => (p.1, p.2.1)
theorem runLP_at {ops : List Oper} : ∀ (z : List (Oper × St × Bool)) (k : Nat) (s : AS), RunLP P PP ops z s → ∀ (j : Nat) (p : Oper × St × Bool), z[j]? = some p → validP P PP ops p.1 p.2.1 p.2.2 (stZ (fun i => decide (i < k + j)) k (cutZ z) s)
  | [], _, _, _, _, _, h => by simp at h
  | q :: z, k, s, ⟨h1, h2⟩, 0, p, h => by
    simp at h; subst h
    rw [stZ_none _ k s (fun i => by simp)]
    exact h1
  | q :: z, k, s, ⟨h1, h2⟩, j + 1, p, h => by
    simp only [cutZ, List.map_cons, stZ]
    rw [if_pos (by simp), show k + (j + 1) = k + 1 + j from by omega]
    exact runLP_at z (k + 1) _ h2 j p (by simpa using h)
theorem vcnDP_run {ops : List Oper} {A : List (List Nat)} {Q : AS → Prop} : ∀ (dm : Bool) (l : List Oper) (s : AS) (acc : List (List Nat × List Nat)), vcnDP P PP ops A Q dm l s acc →
    ∃ z : List (Oper × St × Bool), z.map (·.1) = l ∧ RunLP P PP ops z s ∧ memOk A (acc ++ accOf ops (cutZ z) s) = true ∧ (dm = true ∨ (∃ p ∈ z, p.2.2 = true) ∨ Q (stZ (fun _ => true) 0 (cutZ z) s))
  | dm, [], s, acc, ⟨h1, h2⟩ => ⟨[], rfl, trivial, by simpa [accOf, cutZ] using h1, Or.elim h2 .inl (fun h => .inr (.inr h))⟩
  | dm, o :: r, s, acc, h => by
    have off : ∀ (z : List (Oper × St)) (k : Nat) (s : AS), stZ (fun _ => true) k z s = stZ (fun _ => true) 0 z s := by
      intro z
      induction z with
      | nil => intro k s; rfl
      | cons p z ih => intro k s; simp only [stZ, if_true]; rw [ih (k + 1), ih (0 + 1)]
    have fin : ∀ (st : St) (d : Bool), validP P PP ops o st d s → vcnDP P PP ops A Q (dm || d) r (app o st s) (acc ++ [(lookIds ops o s, st.ids)]) →
        ∃ z : List (Oper × St × Bool), z.map (·.1) = o :: r ∧ RunLP P PP ops z s ∧ memOk A (acc ++ accOf ops (cutZ z) s) = true ∧ (dm = true ∨ (∃ p ∈ z, p.2.2 = true) ∨ Q (stZ (fun _ => true) 0 (cutZ z) s)) := by
      intro st d hv hk
      obtain ⟨z, k1, k2, k3, k4⟩ := vcnDP_run (dm || d) r _ _ hk
      refine ⟨(o, st, d) :: z, by simp [k1], ⟨hv, k2⟩, ?_, ?_⟩
      · simpa [accOf, cutZ, List.append_assoc] using k3
      · rcases k4 with k4 | ⟨p, hp, hpd⟩ | k4
        · cases dm with
          | true => exact .inl rfl
          | false => exact .inr (.inl ⟨_, List.mem_cons_self, by simpa using k4⟩)
        · exact .inr (.inl ⟨p, List.mem_cons_of_mem _ hp, hpd⟩)
        · refine .inr (.inr ?_)
          simp only [cutZ, List.map_cons, stZ, if_true]
          rw [off]; exact k4
    simp only [vcnDP] at h
    obtain ⟨g, hg, h⟩ := h
    cases g with
    | false =>
      simp only [Bool.false_eq_true, if_false] at h
      exact fin ⟨.tup [], none⟩ false (.inl ⟨hg, rfl, rfl⟩) (by rw [Bool.or_false]; exact h)
    | true =>
      simp only [if_true] at h
      have hstep : stepD P o s (fun s' ids => vcnDP P PP ops A Q dm r s' (acc ++ [(lookIds ops o s, ids)])) → (∀ st, stepOk P o st s → validP P PP ops o st false s) → ∃ z : List (Oper × St × Bool), z.map (·.1) = o :: r ∧ RunLP P PP ops z s ∧ memOk A (acc ++ accOf ops (cutZ z) s) = true ∧ (dm = true ∨ (∃ p ∈ z, p.2.2 = true) ∨ Q (stZ (fun _ => true) 0 (cutZ z) s)) := fun hk hval => by
        obtain ⟨st, h1, h2⟩ := stepD_run hk
        exact fin st false (hval st h1) (by rw [Bool.or_false]; exact h2)
      split at h
      · rename_i c hc
        split at h
        · rename_i f hf
          rcases h with ⟨fid, caps, e1, h⟩ | ⟨fid, caps, id, ks, e, l, rr, args', e1, hm, h⟩
          · rcases h with ⟨rr, e2, e3, e4⟩ | ⟨id, e, l, d, rr, e2, e3, e4, e5, e6, e7, e8, e9⟩
            · rcases e4 with ⟨e4, e5⟩ | ⟨e, z, n, l, d, e4, e5, e6⟩
              · refine fin ⟨rr, none⟩ false (.inr ⟨hg, ?_⟩) e5
                simp only [hc, hf]
                exact .inl ⟨⟨fid, caps, e1, .inl ⟨e2, rr, e3, .inl ⟨e4, rfl⟩⟩⟩, rfl⟩
              · refine fin ⟨.bs d z 0 n, some ⟨.bs d z 0 n, none, d, e, l, true⟩⟩ false (.inr ⟨hg, ?_⟩) e6
                simp only [hc, hf]
                exact .inl ⟨⟨fid, caps, e1, .inl ⟨e2, rr, e3, .inr ⟨e, z, n, l, d, e4, e5, rfl⟩⟩⟩, rfl⟩
            · refine fin ⟨rr, some ⟨rr, some id, d, 0, [], true⟩⟩ false (.inr ⟨hg, ?_⟩) e9
              simp only [hc, hf]
              exact .inl ⟨⟨fid, caps, e1, .inr ⟨id, e, l, d, rr, e2, e3, e4, e5, e6, e7, e8, rfl⟩⟩, rfl⟩
          · rcases h with ⟨v, l', hr, hk⟩ | ⟨hr, v, hk⟩
            · refine fin ⟨v, some ⟨v, keyK ks, id, e, l', false⟩⟩ false (.inr ⟨hg, ?_⟩) hk
              simp only [hc, hf]
              exact .inr ⟨fid, caps, id, ks, e, l, rr, args', e1, hm, .inl ⟨rfl, v, l', hr, rfl⟩⟩
            · refine fin ⟨v, some ⟨v, keyK ks, id, e, l, false⟩⟩ true (.inr ⟨hg, ?_⟩) hk
              simp only [hc, hf]
              exact .inr ⟨fid, caps, id, ks, e, l, rr, args', e1, hm, .inr ⟨rfl, hr, v, rfl⟩⟩
        · rename_i hf
          refine hstep h fun st hs => .inr ⟨hg, ?_⟩
          simp only [hc]
          first
            | exact ⟨hs, rfl⟩
            | exact ⟨hs, trivial⟩
            | (split
               · rename_i f hf2; exact absurd hf2 (hf f)
               · exact ⟨hs, rfl⟩)
      · exact h.elim
      · rename_i h1 h2
        refine hstep h fun st hs => .inr ⟨hg, ?_⟩
        first
          | exact ⟨hs, rfl⟩
          | (split
             · rename_i c hc; exact absurd hc (h1 c)
             · rename_i x hx; exact absurd hx (h2 x)
             · exact ⟨hs, rfl⟩)
theorem W_drawnP (PP : List PanicEntry → Prop) {id : Nat} {ops : Array Oper} (hm : P.follows .mixedOrders = true) (hd : ops.toList.all (fun o => dstOk nt o.dst) = true) (hA : ordOk ops.toList (ancs ops.toList) = true)
    (hP : ∀ pl s, PP pl → Q (.panic pl) s) (h : vcnDP P PP ops.toList (ancs ops.toList) (Q .normal) false ops.toList s []) : W P nt (.region id ops true) s Q := by
  intro C M β a w hR hS
  obtain ⟨z, k1, k2, k3, k4⟩ := vcnDP_run _ _ _ _ h
  refine wpIn_region_any hm ?_
  have hrep : ∀ i, (Array.replicate ops.size false).getD i false = false := fun i => by
    rw [Array.getD_eq_getD_getElem?, Array.getElem?_replicate]
    split <;> rfl
  have hs0 : stZ (fun i => (Array.replicate ops.size false).getD i false) 0 (cutZ z) s = s := stZ_none (cutZ z) 0 s (fun i => hrep _)
  have hR' := hR.draw (w' := { w with drawn := w.drawn + 1 }) rfl rfl rfl rfl
  have hcut : ∀ (j : Nat) (p : Oper × St), (cutZ z)[j]? = some p → ∃ q, z[j]? = some q ∧ p = (q.1, q.2.1) := fun j p hp => by
    unfold cutZ at hp
    rw [List.getElem?_map] at hp
    cases hq : z[j]? with
    | none => rw [hq] at hp; cases hp
    | some q => rw [hq] at hp; exact ⟨q, rfl, by simpa using hp.symm⟩
  refine any_orderP (z := cutZ z) (PP := PP) (dm := fun j => ((z[j]?).map (·.2.2)).getD false) (by rw [cutZ, List.map_map]; exact k1) (fun o ho => List.all_eq_true.1 hd o (by simpa using ho)) (Ord.of hA) (MemOrd.of (by simpa using k3))
    (fun j p hp => by
      obtain ⟨q, hq, rfl⟩ := hcut j p hp
      have := runLP_at z 0 s k2 j q hq
      rw [Nat.zero_add] at this
      simp only [hq, Option.map_some, Option.getD_some]
      exact this) hP ?_
    ops.size _ M β a _ (by simp) (fun j o _ hl => by rw [hrep] at hl; cases hl) (Nat.le_add_right _ _) (fun j _ => hrep j) (by rw [hs0]; exact hR') (by rw [hs0]; exact hS)
  intro hall
  rcases k4 with k4 | ⟨p, hp, hpd⟩ | k4
  · cases k4
  · exfalso
    obtain ⟨j, hj⟩ := List.getElem?_of_mem hp
    have := hall j (by unfold cutZ; rw [List.length_map]; exact (List.getElem?_eq_some_iff.1 hj).1)
    rw [hj] at this
    simp [hpd] at this
  · exact k4
end
end Go.Fw
set_option linter.unusedVariables false
set_option linter.unusedSimpArgs false
namespace Go.Fw
open Go Go.RowKit
def MethO (P : Program) (f : FuncId) (args : List AV) (e : TypeId) (l : List AV) (PP : List PanicEntry → Prop) (e2 : TypeId) (z : Nat) (r : Option (Nat × List AV × List AV)) : Prop :=
  WB P f args [(1000000, .mut e l)] (fun out s' => match r with
    | some (n, cells, l') => ∃ j, j ≠ 1000000 ∧ out = .ret (.bs j z 0 n) ∧ s'.box j = some (.mut e2 cells) ∧ s'.box 1000000 = some (.mut e l')
    | none => ∃ pl, out = .pan pl ∧ PP pl)
section
variable {P : Program} {C : Ctx} {M : Mem} {β : Loc} {s s' s0 : AS} {w : World} {nt : NT} {a : Act} {Q : Exit → AS → Prop} {PP : List PanicEntry → Prop}
theorem Meth.any {PP' : List PanicEntry → Prop} {f : FuncId} {args : List AV} {e : TypeId} {l : List AV} {r : AV × List AV} (h : Meth P f args e l PP (some r)) : Meth P f args e l PP' (some r) := by
  obtain ⟨v, l'⟩ := r
  exact h
theorem W_post {c : Code} {Q' : Exit → AS → Prop} (h : W P nt c s Q) (hq : ∀ e s', Q e s' → ∃ s'', Later s' s'' ∧ Q' e s'') : W P nt c s Q' := by
  intro C M β a w hR hS
  refine wpIn_mono (h C M β a w hR hS) ?_
  rintro e a' w' ⟨s', M', β', h1, h2, h3⟩
  obtain ⟨s'', h4, h5⟩ := hq e s' h1
  obtain ⟨M2, _, k1, k2⟩ := h4 C M' β' w' nt a' h2 h3
  exact ⟨s'', M2, β', h5, k1, k2⟩
theorem resB_bs {box : Nat → Option Box} {v : AV} {j z o n : Nat} (h : resB box v = .bs j z o n) : v = .bs j z o n := by
  unfold resB at h
  split at h
  · split at h
    · split at h <;> cases h
    · exact h
  · split at h
    · cases h
    · exact h
  · exact h
theorem resD_bs {box : Nat → Option Box} {v : AV} {j z o n : Nat} (h : resD box v = .bs j z o n) : v = .bs j z o n := by
  cases v with
  | bs => exact resB_bs (box := box) h
  | bp =>
    have := resB_bs (box := box) (v := .bp _ _) h
    cases this
  | _ => simp [resD] at h
theorem MethO.frz {f : FuncId} {args : List AV} {e : TypeId} {l : List AV} {e2 : TypeId} {z : Nat} {r : Option (Nat × List AV × List AV)} (h : MethO P f args e l PP e2 z r) (hr : ∀ fn, P.funcs[f]? = some fn → ∃ t, fn.results.toList = [.tmp t])
    (hc : ∀ n cells l', r = some (n, cells, l') → refsL cells = [] ∧ cells.length = n * z) :
    Meth P f args e l PP (r.map fun p => (.slc false z p.1 p.2.1, p.2.2)) := by
  obtain ⟨fn, c, hf, hb, hent, hlen, hW⟩ := h
  refine ⟨fn, c, hf, hb, hent, hlen, W_post hW fun ex s' hq => ?_⟩
  obtain ⟨t, ht⟩ := hr fn hf
  cases r with
  | none =>
    refine ⟨s', Later.refl s', ?_⟩
    cases ex with
    | panic pl => exact hq
    | normal => obtain ⟨rv, h1, pl, h2, _⟩ := hq; cases h2
    | ret => obtain ⟨rv, h1, pl, h2, _⟩ := hq; cases h2
    | exit => exact hq.elim
    | goto => exact hq.elim
    | outgrown => exact hq.elim
  | some p =>
    obtain ⟨n, cells, l'⟩ := p
    obtain ⟨hc1, hc2⟩ := hc n cells l' rfl
    have key : (∃ rv, resAV P s' fn.results.toList = some rv ∧ ∃ j, j ≠ 1000000 ∧ Out.ret (resD s'.box rv) = .ret (.bs j z 0 n) ∧ s'.box j = some (.mut e2 cells) ∧ s'.box 1000000 = some (.mut e l')) →
        ∃ s'', Later s' s'' ∧ ∃ rv, resAV P s'' fn.results.toList = some rv ∧ Out.ret (resD s''.box rv) = .ret (.slc false z n cells) ∧ s''.box 1000000 = some (.mut e l') := by
      rintro ⟨rv, h1, j, hj, h2, h3, h4⟩
      refine ⟨{ s' with box := upd s'.box j (some (.frz cells)) }, later_frz1 j h3 hc1, ?_⟩
      rw [ht] at h1 ⊢
      simp only [resAV, resAll, resOne, Option.map_some, Option.some.injEq] at h1
      subst h1
      have h5 := resB_bs (resD_bs (Out.ret.inj h2))
      refine ⟨_, rfl, ?_, ?_⟩
      · simp only [AS.val, h5, resB, upd, if_true]
        rw [if_pos (by omega)]
        simp only [resD]
        rw [List.drop_zero, List.take_of_length_le (by omega)]
      · simp only [upd]
        rw [if_neg (fun hh => hj hh.symm)]
        exact h4
    cases ex with
    | panic pl => obtain ⟨j, _, h2, _⟩ := hq; cases h2
    | normal =>
      obtain ⟨s'', k1, rv, k2, k3, k4⟩ := key hq
      exact ⟨s'', k1, rv, k2, k3, k4⟩
    | ret =>
      obtain ⟨s'', k1, rv, k2, k3, k4⟩ := key hq
      exact ⟨s'', k1, rv, k2, k3, k4⟩
    | exit => exact hq.elim
    | goto => exact hq.elim
    | outgrown => exact hq.elim
theorem Meth.sub {f : FuncId} {args : List AV} {e : TypeId} {l l' : List AV} {v v' : AV} (h : Meth P f args e l PP (some (v, l'))) (hs : Sub v v') (hv' : v'.refs = []) (hd : ∀ box, resD box v' = v') (hb : ∀ box, resB box v' = v') (hr : ∀ fn, P.funcs[f]? = some fn → ∃ t, fn.results.toList = [.tmp t])
    (hvv : ∀ box a, resD box (resB box a) = v → a = v) : Meth P f args e l PP (some (v', l')) := by
  obtain ⟨fn, c, hf, hbd, hent, hlen, hW⟩ := h
  refine ⟨fn, c, hf, hbd, hent, hlen, W_post hW fun ex s' hq => ?_⟩
  obtain ⟨t, ht⟩ := hr fn hf
  have key : (∃ rv, resAV P s' fn.results.toList = some rv ∧ Out.ret (resD s'.box rv) = .ret v ∧ s'.box 1000000 = some (.mut e l')) →
      ∃ s'', Later s' s'' ∧ ∃ rv, resAV P s'' fn.results.toList = some rv ∧ Out.ret (resD s''.box rv) = .ret v' ∧ s''.box 1000000 = some (.mut e l') := by
    rintro ⟨rv, h1, h2, h4⟩
    rw [ht] at h1
    simp only [resAV, resAll, resOne, Option.map_some, Option.some.injEq] at h1
    subst h1
    have hev : s'.env t = v := hvv _ _ (Out.ret.inj h2)
    refine ⟨⟨upd s'.env t v', s'.box, s'.used⟩, ?_, v', ?_, ?_, h4⟩
    · intro C M β w nt a hR hS
      refine ⟨M, MemLe.refl M, hR.env rfl rfl, hS.dfr, hS.size, fun t' => ?_, fun t' id hid => ?_⟩
      · by_cases htt : t' = t
        · subst htt
          simp only [upd_same]
          refine hs.1 M β _ ?_
          rw [← hev]
          exact hS.slot t'
        · simp only [upd_ne _ _ htt]; exact hS.slot t'
      · by_cases htt : t' = t
        · subst htt
          simp only [upd_same] at hid
          rw [hv'] at hid
          cases hid
        · simp only [upd_ne _ _ htt] at hid; exact hS.refE t' id hid
    · rw [ht]
      simp only [resAV, resAll, resOne, Option.map_some, AS.val, upd_same, hb]
    · simp only [hd]
  cases ex with
  | panic pl => obtain ⟨h2, _⟩ := hq; cases h2
  | normal =>
    obtain ⟨s'', k1, rv, k2, k3, k4⟩ := key hq
    exact ⟨s'', k1, rv, k2, k3, k4⟩
  | ret =>
    obtain ⟨s'', k1, rv, k2, k3, k4⟩ := key hq
    exact ⟨s'', k1, rv, k2, k3, k4⟩
  | exit => exact hq.elim
  | goto => exact hq.elim
  | outgrown => exact hq.elim
theorem nil_sub (z : Nat) : Sub (.v (.slice none 0 0)) (.slc false z 0 []) := by
  refine ⟨fun M β x hx => ?_, fun i hi => by simp [AV.refs] at hi⟩
  obtain ⟨rfl, _⟩ := hx
  exact ⟨none, 0, rfl, by simp, Nat.le_refl _, by simp [maxLen], (fun h => by cases h), rfl, fun h => absurd h (by omega)⟩
theorem resB_v {box : Nat → Option Box} {v : AV} {x : Value} (h : resB box v = .v x) : v = .v x := by
  unfold resB at h
  split at h
  · split at h
    · split at h <;> cases h
    · exact h
  · split at h
    · cases h
    · exact h
  · exact h
theorem resD_v {box : Nat → Option Box} {v : AV} {x : Value} (h : resD box v = .v x) : v = .v x := by
  cases v with
  | bs =>
    have := resB_v (box := box) (v := .bs _ _ _ _) h
    cases this
  | bp =>
    have := resB_v (box := box) (v := .bp _ _) h
    cases this
  | v => exact h
  | _ => simp [resD] at h
theorem nil_back (box : Nat → Option Box) (a : AV) (h : resD box (resB box a) = .v (.slice none 0 0)) : a = .v (.slice none 0 0) := resB_v (resD_v h)
structure MethOkO (P : Program) (PP : List PanicEntry → Prop) (fid : FuncId) (args : List AV) (s : AS) (id : Nat) (ks : Option (Nat × TypeId × List AV)) (e : TypeId) (l : List AV) (e2 : TypeId) (z n : Nat) (cells l' : List AV) (args' : List AV) : Prop where
  box : s.box id = some (.mut e l)
  plain : refsL l = []
  mem : id ∈ refsL args
  refs : ∀ i ∈ refsL args, i = id ∨ ∃ k ek lk, ks = some (k, ek, lk) ∧ i = k
  keys : ∀ k ek lk, ks = some (k, ek, lk) → k ≠ id ∧ s.box k = some (.mut ek lk) ∧ refsL lk = [] ∧ k ∈ refsL args
  args : resDL (frzK ks s.box) args = renL (fun i => if i = 1000000 then id else i) args'
  refs' : ∀ i ∈ refsL args', i = 1000000
  meth : MethO P fid args' e l PP e2 z (some (n, cells, l'))
  res : refsL cells = [] ∧ refsL l' = []
theorem CallG_methO {fid : FuncId} {caps args args' : List AV} {K : Out → AS → Prop} (d : Nat) {id : Nat} {ks : Option (Nat × TypeId × List AV)} {e : TypeId} {l : List AV} {e2 : TypeId} {z n : Nat} {cells l' : List AV}
    (h : MethOkO P PP fid (args ++ caps) s id ks e l e2 z n cells l' args') (hd : ¬ s.used d)
    (hk : K (.ret (.bs d z 0 n)) ⟨s.env, upd (upd (killBox (keyK ks) s.box) id (some (.mut e l'))) d (some (.mut e2 cells)), fun i => i = d ∨ s.used i⟩) : CallG P (.fn fid caps) args s K := by
  intro C nt M β a w vs hR hS hvs hrep
  obtain ⟨M1, m1, hR1, hS1⟩ := later_frzK ks (fun k ek lk hk => ⟨(h.keys k ek lk hk).2.1, (h.keys k ek lk hk).2.2.1⟩) C M β w nt a hR hS
  have uid : s.used id := hR.useB id (by rw [h.box]; simp)
  have hdid : d ≠ id := fun hh => hd (hh ▸ uid)
  have hused : ∀ j ∈ refsL (args ++ caps), s.used j := fun j hj => by
    rcases h.refs j hj with rfl | ⟨k, ek, lk, h1, rfl⟩
    · exact uid
    · exact hR.useB j (by rw [(h.keys j ek lk h1).2.1]; simp)
  have hrep1 := (resDL_t hR1 (args ++ caps) vs 0 (RepT.mono m1 _ _ _ (fun _ _ => rfl) hrep) hused).1
  have hbox1 : frzK ks s.box id = some (.mut e l) := by
    cases ks with
    | none => exact h.box
    | some p =>
      obtain ⟨k, ek, lk⟩ := p
      have := (h.keys k ek lk rfl).1
      simp only [frzK, upd]
      rw [if_neg (fun hh => this hh.symm)]
      exact h.box
  obtain ⟨hcl, hl'⟩ := h.res
  have hcall : CallV P fid (resDL (frzK ks s.box) (args ++ caps)) { s with box := frzK ks s.box } (fun out s' => out = .ret (.bs d z 0 n) ∧ s' = back { s with box := frzK ks s.box } [id] [(id, .mut e l'), (d, .mut e2 cells)]) := by
    refine CallV.boxes args' [(1000000, .mut e l)] (fun i => if i = 1000000 then id else i) h.args ?_ ?_ ?_ ?_ h.meth ?_
    · intro p hp
      simp at hp
      subst hp
      refine ⟨Nat.le_refl _, ?_⟩
      simp only [if_true, renBox]
      rw [hbox1, renL_id _ l h.plain]
    · intro p hp q hq _
      simp at hp hq
      rw [hp, hq]
    · intro i hi
      rw [h.refs' i hi]; simp
    · intro p hp i hi
      simp at hp
      subst hp
      simp [Box.refs, h.plain] at hi
    · rintro out s' ⟨j, hj, rfl, h1, h2⟩
      have hidd : ¬ id = d := fun hh => hdid hh.symm
      refine ⟨[(id, .mut e l'), (d, .mut e2 cells)], fun i => if i = id then 1000000 else if i = d then j else i, ?_, ?_, ?_, ?_, .bs d z 0 n, ?_, ?_, rfl, by simp⟩
      · intro p hp
        simp at hp
        rcases hp with rfl | rfl
        · simp only [if_true, renBox]
          rw [h2, renL_id _ l' hl']
        · simp only [renBox]
          rw [renL_id _ cells hcl]
          simp [hdid, h1]
      · intro p hp q hq hh
        simp at hp hq
        have hj' : ¬ 1000000 = j := fun k => hj k.symm
        rcases hp with rfl | rfl <;> rcases hq with rfl | rfl <;> simp [hdid, hidd, hj, hj'] at hh ⊢
      · intro p hp i hi
        simp at hp
        rcases hp with rfl | rfl
        · simp [Box.refs, hl'] at hi
        · simp [Box.refs, hcl] at hi
      · intro p hp hu
        simp at hp
        rcases hp with rfl | rfl
        · simp
        · exact absurd hu hd
      · simp [ren, hdid]
      · intro i hi
        simp [AV.refs] at hi
        rw [hi]; simp
  refine (hcall C nt M1 β a w vs hR1 hS1 (by rw [hvs, resDL_length]) hrep1).mono ?_
  rintro e' w' ⟨out, s', M', β', ⟨rfl, rfl⟩, hR', hS', hE⟩
  have hne : ∀ i b, upd (upd (killBox (keyK ks) s.box) id (some (.mut e l'))) d (some (.mut e2 cells)) i = some b →
      (back { s with box := frzK ks s.box } [id] [(id, .mut e l'), (d, .mut e2 cells)]).box i = some b ∧ (i = d ∨ s.used i) ∧ ∀ e1 l1, b = .mut e1 l1 → ∀ j ∈ refsL l1, s.used j := fun i b hi => by
    simp only [upd] at hi
    simp only [back, lk]
    by_cases h1 : i = d
    · rw [if_pos h1] at hi
      cases hi
      subst h1
      rw [if_neg (fun hh => hdid hh.symm), if_pos rfl]
      refine ⟨rfl, .inl rfl, fun e1 l1 hb j hj => ?_⟩
      cases hb; rw [hcl] at hj; cases hj
    · rw [if_neg h1] at hi
      rw [if_neg (fun hh : d = i => h1 hh.symm)]
      by_cases h2 : i = id
      · subst h2
        rw [if_pos rfl] at hi
        cases hi
        rw [if_pos rfl]
        refine ⟨rfl, .inr uid, fun e1 l1 hb j hj => ?_⟩
        cases hb; rw [hl'] at hj; cases hj
      · rw [if_neg h2] at hi
        rw [if_neg (fun hh : id = i => h2 hh.symm)]
        simp only [List.contains_cons, List.contains_nil, Bool.or_false, beq_iff_eq]
        rw [if_neg h2]
        have h3 : s.box i = some b ∧ frzK ks s.box i = some b := by
          cases ks with
          | none => exact ⟨hi, hi⟩
          | some p =>
            obtain ⟨k, ek, lk⟩ := p
            simp only [keyK, Option.map_some, killBox, upd] at hi
            split at hi
            · cases hi
            · rename_i h4
              refine ⟨hi, ?_⟩
              simp only [frzK, upd]
              rw [if_neg h4]
              exact hi
        refine ⟨h3.2, .inr (hR.useB i (by rw [h3.1]; simp)), fun e1 l1 hb j hj => ?_⟩
        subst hb
        exact hR.refB i e1 l1 h3.1 j hj
  refine ⟨.ret (.bs d z 0 n), _, M', β', hk, hR'.less (fun i b hi => (hne i b hi).1) (fun i b hi => (hne i b hi).2.1) (fun i e1 l1 hi j hj => .inr ((hne i _ hi).2.2 e1 l1 rfl j hj)) (fun i hi => .inr (hR.pin i hi).1) s.env, ⟨hS'.dfr, hS'.size, hS'.slot, fun t i hi => .inr (hS.refE t i hi)⟩, ?_⟩
  cases e' with
  | returned y =>
    have hok : Ok M' β' _ (.bs d z 0 n) y := hE
    exact ⟨hok.rep, fun i hi => by simp [AV.refs] at hi; exact .inl hi⟩
  | panicked l' => exact hE
  | outgrown => exact hE
theorem W_nilCell {c : Code} (id k d : Nat) (e2 : TypeId) (z : Nat) {e : TypeId} {l : List AV} (hb : s.box id = some (.mut e l)) (hk : l[k]? = some (.v (.slice none 0 0))) (hd : ¬ s.used d)
    (h : W P nt c ⟨s.env, upd (upd s.box id (some (.mut e (l.set k (.bs d z 0 0))))) d (some (.mut e2 [])), fun i => i = d ∨ s.used i⟩ Q) : W P nt c s Q := by
  intro C M β a w hR hS
  have uid : s.used id := hR.useB id (by rw [hb]; simp)
  have hdid : d ≠ id := fun hh => hd (hh ▸ uid)
  obtain ⟨hR2, hβ⟩ := hR.adopt (id := d) (e := e2) (l := []) hd rfl (place := none) (.inl ⟨rfl, rfl⟩)
  have hbox : ∀ i b, upd (upd s.box id (some (.mut e (l.set k (.bs d z 0 0))))) d (some (.mut e2 [])) i = some b → i = id ∧ b = .mut e (l.set k (.bs d z 0 0)) ∨ i ≠ id ∧ upd s.box d (some (.mut e2 [])) i = some b := fun i b hi => by
    simp only [upd] at hi ⊢
    by_cases h1 : i = d
    · rw [if_pos h1] at hi
      refine .inr ⟨fun hh => hdid (h1.symm.trans hh), ?_⟩
      rw [if_pos h1]; exact hi
    · rw [if_neg h1] at hi
      by_cases h2 : i = id
      · rw [if_pos h2] at hi
        cases hi
        exact .inl ⟨h2, rfl⟩
      · rw [if_neg h2] at hi
        refine .inr ⟨h2, ?_⟩
        rw [if_neg h1]; exact hi
  have hbid : upd s.box d (some (.mut e2 [])) id = some (.mut e l) := by
    simp only [upd]
    rw [if_neg (fun hh => hdid hh.symm)]
    exact hb
  have hset : ∀ j ∈ refsL (l.set k (.bs d z 0 0)), j = d ∨ j ∈ refsL l := fun j hj => by
    obtain ⟨v, hv, hjv⟩ := mem_refsL.1 hj
    rcases List.mem_or_eq_of_mem_set hv with h1 | h1
    · exact .inr (mem_refsL.2 ⟨v, h1, hjv⟩)
    · rw [h1] at hjv
      simp [AV.refs] at hjv
      exact .inl hjv
  have hnew : ∀ (M : Mem) (β : Loc) (cs : Array Value), RepAt M β l cs 0 → RepAt M β (l.set k (.bs d z 0 0)) cs 0 := by
    intro M β cs hr
    rw [RepAt.iff] at hr ⊢
    intro i b hib
    rw [List.getElem?_set] at hib
    split at hib
    · rename_i hki
      subst hki
      split at hib
      · cases hib
        obtain ⟨y, h1, h2, h3, _⟩ := hr k _ hk
        exact ⟨y, h1, h2, none, 0, h3, Nat.le_refl _, by simp [maxLen], fun h => absurd h (by omega)⟩
      · cases hib
    · exact hr i b hib
  refine h C M _ a w { mem := hR2.mem, le := hR2.le, mnew := hR2.mnew, refB := ?_, useB := ?_, mutb := ?_, frzb := ?_, frzr := ?_, inj := ?_, os := hR2.os, tape := hR2.tape, output := hR2.output, size := hR2.size, keep := hR2.keep, pin := hR2.pin } (hS.later (MemLe.refl M) (fun j hj => hβ j hj) rfl (fun j hj => .inr hj))
  · intro i e1 l1 hi j hj
    rcases hbox i _ hi with ⟨rfl, h1⟩ | ⟨h1, h2⟩
    · cases h1
      rcases hset j hj with rfl | h2
      · exact .inl rfl
      · exact .inr (hR.refB i e l hb j h2)
    · exact hR2.refB i e1 l1 h2 j hj
  · intro i hi
    cases hx : upd (upd s.box id (some (.mut e (l.set k (.bs d z 0 0))))) d (some (.mut e2 [])) i with
    | none => exact absurd hx hi
    | some b =>
      rcases hbox i _ hx with ⟨rfl, _⟩ | ⟨_, h2⟩
      · exact .inr uid
      · exact hR2.useB i (by simp only; rw [h2]; simp)
  · intro i e1 l1 hi
    rcases hbox i _ hi with ⟨rfl, h1⟩ | ⟨h1, h2⟩
    · cases h1
      rcases hR2.mutb i e l hbid with ⟨q1, q2⟩ | ⟨b, cs, q1, q2, q3, q4, q5, q6⟩
      · subst q2; simp at hk
      · exact .inr ⟨b, cs, q1, q2, hnew _ _ _ q3, by rw [List.length_set]; exact q4, q5, q6⟩
    · exact hR2.mutb i e1 l1 h2
  · intro i l1 hi
    rcases hbox i _ hi with ⟨rfl, h1⟩ | ⟨h1, h2⟩
    · cases h1
    · exact hR2.frzb i l1 h2
  · intro i l1 hi
    rcases hbox i _ hi with ⟨rfl, h1⟩ | ⟨h1, h2⟩
    · cases h1
    · exact hR2.frzr i l1 h2
  · intro i j e1 e3 l1 l3 b n n' hi hj hbi hbj
    have k1 : ∃ e4 l4, upd s.box d (some (.mut e2 [])) i = some (.mut e4 l4) := by
      rcases hbox i _ hi with ⟨rfl, _⟩ | ⟨_, h2⟩
      · exact ⟨_, _, hbid⟩
      · exact ⟨_, _, h2⟩
    have k2 : ∃ e4 l4, upd s.box d (some (.mut e2 [])) j = some (.mut e4 l4) := by
      rcases hbox j _ hj with ⟨rfl, _⟩ | ⟨_, h2⟩
      · exact ⟨_, _, hbid⟩
      · exact ⟨_, _, h2⟩
    obtain ⟨_, _, k1⟩ := k1
    obtain ⟨_, _, k2⟩ := k2
    exact hR2.inj i j _ _ _ _ b n n' k1 k2 hbi hbj
theorem entry_ok {n : Nat} {args : List AV} {vs : Array Value} (hM : MemOk M w) (hvs : vs.size = args.length) (hlen : args.length ≤ n) (hrefs : refsL args = []) (hrep : RepT M noLoc args vs 0) :
    Rel ⟨w, M, [], noLoc⟩ M noLoc (entry args) w ∧ Slots (n : NT) M noLoc (entry args) { tmps := vs ++ Array.replicate (n - vs.size) undef, defers := [] } := by
  refine ⟨{ mem := hM, le := MemLe.refl M, mnew := fun b hb => absurd rfl hb, refB := fun _ _ _ h => (by cases h), useB := fun _ h => absurd rfl h, mutb := fun _ _ _ h => (by cases h), frzb := fun _ _ h => (by cases h), frzr := fun _ _ h => (by cases h), inj := fun _ _ _ _ _ _ _ _ _ h => (by cases h), os := rfl, tape := rfl, output := rfl, size := Nat.le_refl _, keep := fun _ _ _ => rfl, pin := fun _ h => ⟨h, rfl⟩ }, ?_⟩
  refine ⟨rfl, by simp; omega, fun t => ?_, fun t id hid => ?_⟩
  · simp only [entry]
    cases ht : args[t]? with
    | none =>
      have hle : args.length ≤ t := by simpa using ht
      simp only [Option.getD_none]
      have hu : (vs ++ Array.replicate (n - vs.size) undef).getD t undef = undef := by
        rw [Array.getD_eq_getD_getElem?, Array.getElem?_append_right (by omega), Array.getElem?_replicate]
        split <;> rfl
      rw [hu]
      exact ⟨#[], rfl, rfl, trivial⟩
    | some v =>
      simp only [Option.getD_some]
      obtain ⟨y, h1, h2⟩ := (RepT.iff args vs 0).1 hrep t v ht
      simp only [Nat.zero_add] at h1
      have hlt := (Array.getElem?_eq_some_iff.1 h1).1
      rw [Array.getD_eq_getD_getElem?, Array.getElem?_append_left hlt, h1]
      exact h2
  · simp only [entry] at hid
    cases ht : args[t]? with
    | none => rw [ht] at hid; simp [AV.refs, refsL] at hid
    | some v =>
      rw [ht] at hid
      have : id ∈ refsL args := mem_refsL.2 ⟨v, List.mem_of_getElem? ht, hid⟩
      rw [hrefs] at this
      cases this
end
end Go.Fw

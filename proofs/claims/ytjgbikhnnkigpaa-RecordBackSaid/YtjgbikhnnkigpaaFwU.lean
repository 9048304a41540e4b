/- Regions whose order is drawn. II: one step; any order. -/
import Derived.Test.YtjgbikhnnkigpaaFwT
set_option linter.unusedSimpArgs false
set_option linter.unusedVariables false
namespace Go.Fw
open Go Go.RowKit

mutual
theorem resD_id (box : Nat → Option Box) : ∀ v : AV, v.refs = [] → resD box v = v
  | .agg l, h => by simp only [resD]; rw [resDL_id box l (by simpa [AV.refs] using h)]
  | .tup l, h => by simp only [resD]; rw [resDL_id box l (by simpa [AV.refs] using h)]
  | .fn f l, h => by simp only [resD]; rw [resDL_id box l (by simpa [AV.refs] using h)]
  | .v _, _ => rfl
  | .slc _ _ _ _, _ => rfl
  | .ip _, _ => rfl
  | .bp _ _, h => by simp [AV.refs] at h
  | .bs _ _ _ _, h => by simp [AV.refs] at h
  | .own _ _ _ _, _ => rfl
  | .junk, _ => rfl
  | .unk, _ => rfl
theorem resDL_id (box : Nat → Option Box) : ∀ l : List AV, refsL l = [] → resDL box l = l
  | [], _ => rfl
  | a :: l, h => by
    simp only [refsL, List.append_eq_nil_iff] at h
    simp only [resDL]
    rw [resD_id box a h.1, resDL_id box l h.2]
end

def AV.isOwn : AV → Bool
  | .own _ _ _ _ => true
  | _ => false

/-- Nothing is handed over. -/
def AV.plainR : AV → Bool
  | .own _ _ _ _ => false
  | .tup l => l.all fun a => !a.isOwn
  | _ => true

theorem adoptLK_plain (d : Nat) : ∀ (l : List AV) (i : Nat) (s : AS) (k : List AV → AS → Prop), (l.all fun a => !a.isOwn) = true → k l s → adoptLK d i l s k
  | [], _, _, _, _, hk => hk
  | a :: l, i, s, k, h, hk => by
    simp only [List.all_cons, Bool.and_eq_true] at h
    cases a <;> first | (simp [AV.isOwn] at h; done) | exact adoptLK_plain d l (i + 1) s _ h.2 hk

theorem adoptK_plain {d : Nat} {v : AV} {s : AS} {k : AV → AS → Prop} (h : v.plainR = true) (hk : k v s) : adoptK d v s k := by
  cases v <;> first | (simp [AV.plainR] at h; done) | exact hk | exact adoptLK_plain d _ 0 s _ h hk

/-- What one operation comes to. -/
def stepOk (P : Program) (o : Oper) (st : St) (s : AS) : Prop :=
  if isMem P o.op = true then ∃ f, evMem P s o.dst o.op = some f ∧ (f.fresh = true → ¬ s.used f.d) ∧ st = ⟨f.v, some f⟩
  else ∃ v, evPure P s o.op = some v ∧ st = ⟨v, none⟩

def callOk (P : Program) (f : AV) (args : List AV) (st : St) (used : Nat → Prop) : Prop :=
  ∃ fid caps, f = .fn fid caps ∧ refsL (args ++ caps) = [] ∧ ∃ r, Eval P fid (args ++ caps) (.ret r) ∧
    ((r.plainR = true ∧ st = ⟨r, none⟩) ∨ ∃ e z n l d, r = .own e z n l ∧ ¬ used d ∧ st = ⟨.bs d z 0 n, some ⟨.bs d z 0 n, none, d, e, l, true⟩⟩)

def valid (P : Program) (ops : List Oper) (o : Oper) (st : St) (s : AS) : Prop :=
  (gOn ops o s = some false ∧ st = ⟨.tup [], none⟩) ∨
  (gOn ops o s = some true ∧ match o.op with
    | .call c => match c.callee with
      | .value f => callOk P (s.val f) (c.args.toList.map s.val) st s.used
      | _ => stepOk P o st s
    | .panic _ => False
    | _ => stepOk P o st s)

def isApp (o : Oper) (st : St) (s : AS) : Exit → AS → Prop
  | .normal, s' => s' = app o st s
  | _, _ => False

section
variable {P : Program} {C : Ctx} {M : Mem} {β : Loc} {s s' : AS} {w : World} {nt : Nat} {a : Act} {Q : Exit → AS → Prop}

theorem stepOk_stepK {o : Oper} {st : St} (h : stepOk P o st s) : stepK P o s (fun s' => s' = app o st s) := by
  unfold stepOk at h
  unfold stepK
  split
  · rename_i hm
    rw [if_pos hm] at h
    obtain ⟨f, h1, h2, rfl⟩ := h
    exact ⟨f, h1, h2, rfl⟩
  · rename_i hm
    rw [if_neg hm] at h
    obtain ⟨v, h1, rfl⟩ := h
    exact ⟨v, h1, rfl⟩

theorem callOk_callG {o : Oper} {f : AV} {args : List AV} {st : St} (h : callOk P f args st s.used) (Q : Exit → AS → Prop) (hQ : Q .normal (app o st s)) :
    CallG P f args s (fun out s' => match out with
      | .ret v => Q .normal (s'.put o.dst v)
      | .pan l => Q (.panic l) s') := by
  obtain ⟨fid, caps, rfl, hrefs, r, hev, h⟩ := h
  have hid := fun box => resDL_id box _ hrefs
  rcases h with ⟨hp, rfl⟩ | ⟨e, z, n, l, d, rfl, hd, rfl⟩
  · refine CallV.pure 0 (out := .ret r) ?_ ?_ ?_ ?_
    · rw [hid]; exact hev
    · rw [hrefs]; trivial
    · rw [hid]; exact hrefs
    · rw [hrefs]
      exact adoptK_plain hp hQ
  · refine CallV.pure d (out := .ret (.own e z n l)) ?_ ?_ ?_ ?_
    · rw [hid]; exact hev
    · rw [hrefs]; trivial
    · rw [hid]; exact hrefs
    · rw [hrefs]
      exact ⟨hd, hQ⟩

theorem valid_vcn {ops : List Oper} {o : Oper} {st : St} (h : valid P ops o st s) : vcn P ops (isApp o st s) [o] s := by
  rcases h with ⟨hg, rfl⟩ | ⟨hg, h⟩
  · exact ⟨false, hg, by simp [vcn, isApp, app]⟩
  · refine ⟨true, hg, ?_⟩
    simp only [if_true]
    split at h
    · rename_i c hc
      simp only [hc]
      split at h
      · rename_i f hf
        simp only [hf]
        exact callOk_callG h (isApp o st s) rfl
      · rename_i hf
        have := stepOk_stepK h
        split
        · rename_i f hf2; exact absurd hf2 (hf f)
        · exact this
    · exact h.elim
    · rename_i h1 h2
      have := stepOk_stepK h
      split
      · rename_i c hc; exact absurd hc (h1 c)
      · rename_i x hx; exact absurd hx (h2 x)
      · exact this

theorem wp_monoQ {o : Oper} {K K' : Act → World → Prop} {Q Q' : Exit → Act → World → Prop} (hn : ∀ a w, K a w → K' a w) (hq : ∀ c a w, Q (.panic c) a w → Q' (.panic c) a w) (ho : LetsOut Q → LetsOut Q')
    (h : o.wp P a w K Q) : o.wp P a w K' Q' := by
  unfold Oper.wp at *
  generalize (execOp a.eval o).run P w = r at *
  cases r with
  | ok n w' =>
    cases n <;> simp only [Oper.upon] at h ⊢
    case value => exact hn _ _ h
    case skip => exact hn _ _ h
    case defer => exact hn _ _ h
    case enter => exact Calls.mono h (fun e w'' he => by
      cases e with
      | returned v => exact hn _ _ he
      | panicked c => exact hq _ _ _ he
      | outgrown => exact ho he)
    case row => exact Rows.mono h (fun _ _ he => hn _ _ he)
  | halt x w' =>
    cases x <;> simp only [Oper.upon] at h ⊢
    case panic => exact hq _ _ _ h

theorem valid_wpOp {ops : Array Oper} {o : Oper} {st : St} {i : Nat} (hi : ops[i]? = some o) (hd : dstOk nt o.dst = true) (h : valid P ops.toList o st s) (hR : Rel C M β s w) (hS : Slots nt M β s a)
    {K : Act → World → Prop} {Q : Exit → Act → World → Prop} (hK : ∀ a' w' M' β', Rel C M' β' (app o st s) w' → Slots nt M' β' (app o st s) a' → K a' w') : wpOp P ops Q i K a w := by
  have h1 := vcn_wp (nt := nt) (Q := isApp o st s) ops [o] s M β a w (by simpa using hd) hR hS (valid_vcn h)
  have hn : ∀ a w, lift C nt (isApp o st s) .normal a w → K a w := by
    rintro a w ⟨s', M', β', rfl, k1, k2⟩
    exact hK a w M' β' k1 k2
  have hlets : ¬ LetsOut (lift C nt (isApp o st s)) := by
    rintro ⟨a, w, s', M', β', hf, _⟩
    exact hf
  unfold wpOp
  simp only [hi]
  unfold wpList at h1
  split
  · rename_i hw
    rw [if_pos hw] at h1
    rcases h1 with h1 | ⟨_, h1⟩
    · refine .inl (wp_monoQ (fun a w hk => ?_) ?_ (fun hl => absurd hl hlets) h1)
      · unfold wpList at hk; exact hn a w hk
      · rintro c a w ⟨s', M', β', hf, _⟩; exact hf.elim
    · exact absurd h1 hlets
  · rename_i hw
    rw [if_neg hw] at h1
    unfold wpList at h1
    exact hn _ _ h1

/-- What is seen of a state by slots alone. -/
structure Agree (T : List Tmp) (s s' : AS) : Prop where
  env : ∀ t ∈ T, s.env t = s'.env t
  box : ∀ t ∈ T, ∀ id ∈ (s'.env t).refs, s.box id = s'.box id

theorem resB_refs {box : Nat → Option Box} {v : AV} {id : Nat} (h : id ∈ (resB box v).refs) : id ∈ v.refs := by
  unfold resB at h
  split at h
  · split at h
    · split at h <;> simp [AV.refs] at h
    · exact h
  · split at h
    · simp [AV.refs] at h
    · exact h
  · exact h

theorem ofVal_refs {c : Value} {id : Nat} (h : id ∈ (ofVal c).refs) : False := by
  unfold ofVal at h
  split at h
  · split at h
    · simp [AV.refs, refsL_map_v] at h
    · simp [AV.refs] at h
  · split at h <;> simp [AV.refs, refsL] at h
  · simp [AV.refs] at h

theorem Agree.val {T : List Tmp} (h : Agree T s s') {x : Operand} (hx : ∀ t, x = .tmp t → t ∈ T) : s.val x = s'.val x ∧ ∀ id ∈ (s'.val x).refs, s.box id = s'.box id := by
  cases x with
  | tmp t =>
    have ht := hx t rfl
    refine ⟨?_, fun id hid => h.box t ht id (resB_refs hid)⟩
    simp only [AS.val]
    rw [h.env t ht]
    have hb := h.box t ht
    cases hv : s'.env t <;> simp only [resB]
    · rw [hb _ (by rw [hv]; simp [AV.refs])]
    · rw [hb _ (by rw [hv]; simp [AV.refs])]
  | const c => exact ⟨rfl, fun id hid => (ofVal_refs hid).elim⟩
  | func f => exact ⟨rfl, fun id hid => by simp [AS.val, AV.refs, refsL] at hid⟩
  | global g => exact ⟨rfl, fun id hid => by simp [AS.val, AV.refs] at hid⟩

theorem valid_agree {ops : Array Oper} {o : Oper} {st : St} (h : valid P ops.toList o st s') (ha : Agree (o.looksAt ops) s s') (hu : ∀ d, st.fresh d → ¬ s'.used d → ¬ s.used d) : valid P ops.toList o st s := by
  have hop : ∀ x ∈ o.op.operands, ∀ t, x = .tmp t → t ∈ o.looksAt ops := fun x hx t he => by
    subst he
    exact List.mem_append_left _ (List.mem_filterMap.2 ⟨.tmp t, by simpa using hx, rfl⟩)
  have hv : ∀ x ∈ o.op.operands, s.val x = s'.val x := fun x hx => (ha.val (hop x hx)).1
  have hb : ∀ x ∈ o.op.operands, ∀ id ∈ (s'.val x).refs, s.box id = s'.box id := fun x hx => (ha.val (hop x hx)).2
  have hg : gOn ops.toList o s = gOn ops.toList o s' := by
    unfold gOn
    cases hgd : o.guard with
    | none => rfl
    | some gw =>
      obtain ⟨j, want⟩ := gw
      simp only []
      have e : ops.toList[j]? = ops[j]? := by simp
      rw [e]
      cases hd : (ops[j]?).bind (·.dst) with
      | none => rfl
      | some d =>
        simp only []
        rw [ha.env d (List.mem_append_right _ (by rw [hgd]; simp [hd]))]
  have hstep : stepOk P o st s' → stepOk P o st s := by
    intro h
    unfold stepOk at *
    split
    · rename_i hm
      rw [if_pos hm] at h
      obtain ⟨f, h1, h2, rfl⟩ := h
      exact ⟨f, by rw [evMem_agree hv hb]; exact h1, fun hf => hu f.d ⟨f, rfl, hf, rfl⟩ (h2 hf), rfl⟩
    · rename_i hm
      rw [if_neg hm] at h
      obtain ⟨v, h1, rfl⟩ := h
      exact ⟨v, by rw [evPure_agree hv hb]; exact h1, rfl⟩
  unfold valid at *
  rw [hg]
  rcases h with h | ⟨h1, h2⟩
  · exact .inl h
  · refine .inr ⟨h1, ?_⟩
    split at h2
    · rename_i c hc
      have hv' : ∀ x ∈ c.operands, s.val x = s'.val x := fun x hx => hv x (by rw [hc]; simpa [Op.operands] using hx)
      split at h2
      · rename_i f hf
        obtain ⟨fid, caps, k1, k2, r, k3, k4⟩ := h2
        have e1 : s.val f = s'.val f := hv' f (by simp [Call.operands, hf])
        have e2 : c.args.toList.map s.val = c.args.toList.map s'.val := map_agree fun x hx => hv' x (by simp [Call.operands, hx])
        refine ⟨fid, caps, by rw [e1]; exact k1, by rw [e2]; exact k2, r, by rw [e2]; exact k3, ?_⟩
        rcases k4 with k4 | ⟨e, z, n, l, d, q1, q2, rfl⟩
        · exact .inl k4
        · exact .inr ⟨e, z, n, l, d, q1, hu d ⟨_, rfl, rfl, rfl⟩ q2, rfl⟩
      · rename_i hf
        exact hstep h2
    · exact h2.elim
    · rename_i k1 k2
      exact hstep h2
end

end Go.Fw

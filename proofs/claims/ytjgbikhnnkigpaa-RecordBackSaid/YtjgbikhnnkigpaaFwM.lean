/- The walk: code over abstract states. -/
import Derived.Test.YtjgbikhnnkigpaaFwL
set_option linter.unusedSimpArgs false
set_option linter.unusedVariables false
namespace Go.Fw
open Go Go.RowKit

/-- An option that holds something. -/
def optK {α : Type} (x : Option α) (k : α → Prop) : Prop := ∃ r, x = some r ∧ k r

theorem optK_some {α : Type} (x : α) (k : α → Prop) : optK (some x) k = k x := by simp [optK]
theorem optK_none {α : Type} (k : α → Prop) : optK none k = False := by simp [optK]
theorem optK_ite {α : Type} (c : Prop) [Decidable c] (x : Option α) (k : α → Prop) : optK (if c then x else none) k = (c ∧ optK x k) := by
  by_cases h : c <;> simp [optK, h]
theorem optK_map {α β : Type} (f : α → β) (x : Option α) (k : β → Prop) : optK (x.map f) k = optK x (fun r => k (f r)) := by
  cases x <;> simp [optK]
theorem optK_bind {α β : Type} (f : α → Option β) (x : Option α) (k : β → Prop) : optK (x.bind f) k = optK x (fun r => optK (f r) k) := by
  cases x <;> simp [optK]
theorem optK_mono {α : Type} {x : Option α} {k k' : α → Prop} (h : optK x k) (hk : ∀ r, k r → k' r) : optK x k' := by
  obtain ⟨r, h1, h2⟩ := h; exact ⟨r, h1, hk r h2⟩

def isMem (P : Program) : Op → Bool
  | .alloc _ => true
  | .box _ _ => true
  | .buildSlice _ _ _ => true
  | .makeSlice _ _ _ => true
  | .store _ _ _ => true
  | .convert src t _ => strP P src && (elemP P t).isSome
  | .call c => match c.callee with
    | .builtin .append => true
    | _ => false
  | _ => false

/-- The state behind an operation on memory. -/
def AS.put' (s : AS) (f : Eff) (d : Option Nat) : AS := (s.eff f).put d f.v

/-- One operation that calls nothing. -/
def stepK (P : Program) (o : Oper) (s : AS) (k : AS → Prop) : Prop :=
  if isMem P o.op = true then optK (evMem P s o.dst o.op) (fun f => (f.fresh = true → ¬ s.used f.d) ∧ k (s.put' f o.dst))
  else optK (evPure P s o.op) (fun r => k (s.put o.dst r))

/-- Does a guarded operation run? -/
def gOn (ops : List Oper) (o : Oper) (s : AS) : Option Bool :=
  match o.guard with
  | none => some true
  | some (j, want) => match (ops[j]?).bind (·.dst) with
    | none => some false
    | some d => match s.env d with
      | .v (.bool b) => some (b == want)
      | .tup [] => some false
      | _ => none

/-- How a call ends. -/
inductive Out where
  | ret (v : AV)
  | pan (l : List PanicEntry)

/-- What a concrete ending is. -/
def EndRep (M : Mem) (β : Loc) (s : AS) : Out → Ending → Prop
  | .ret r, .returned x => Ok M β s r x
  | .pan l, .panicked l' => l' = l
  | _, _ => False

def Enters (P : Program) (f : FuncId) : Prop := ∀ args w, (callFunc f args).run P w = .ok (.enter f args) w

/-- How a call ends, be it walked or one of the model's own. -/
def Ends (P : Program) (f : FuncId) (vs : Array Value) (w : World) (Q : Ending → World → Prop) : Prop :=
  (Enters P f ∧ Calls P f vs w Q) ∨ ∃ x, (callFunc f vs).run P w = .ok (.value x) w ∧ Q (.returned x) w

theorem Ends.mono {P : Program} {f : FuncId} {vs : Array Value} {w : World} {Q Q' : Ending → World → Prop} (h : Ends P f vs w Q) (hq : ∀ e w', Q e w' → Q' e w') : Ends P f vs w Q' := by
  rcases h with ⟨h1, h2⟩ | ⟨x, h1, h2⟩
  · exact .inl ⟨h1, Calls.mono h2 hq⟩
  · exact .inr ⟨x, h1, hq _ _ h2⟩

/-- A call from a state. -/
def CallV (P : Program) (f : FuncId) (args : List AV) (s : AS) (K : Out → AS → Prop) : Prop :=
  ∀ (C : Ctx) (nt : Nat) (M : Mem) (β : Loc) (a : Act) (w : World) (vs : Array Value), Rel C M β s w → Slots nt M β s a →
    vs.size = args.length → RepT M β args vs 0 → Ends P f vs w (fun e w' => ∃ out s' M' β', K out s' ∧ Rel C M' β' s' w' ∧ Slots nt M' β' s' a ∧ EndRep M' β' s' out e)

/-- A call of a value. -/
def CallG (P : Program) (f : AV) (args : List AV) (s : AS) (K : Out → AS → Prop) : Prop :=
  match f with
  | .fn f caps => CallV P f (args ++ caps) s K
  | _ => False

/-- The operations of a region, one behind the other. -/
def vcn (P : Program) (ops : List Oper) (Q : Exit → AS → Prop) : List Oper → AS → Prop
  | [], s => Q .normal s
  | o :: r, s => optK (gOn ops o s) fun g =>
      if g = true then
        match o.op with
        | .call c => match c.callee with
          | .value f => CallG P (s.val f) (c.args.toList.map s.val) s fun out s' => match out with
            | .ret v => vcn P ops Q r (s'.put o.dst v)
            | .pan l => Q (.panic l) s'
          | _ => stepK P o s (vcn P ops Q r)
        | .panic x => match s.val x with
          | .v (.iface t v) => Q (.panic [{ v := .iface t v, recovered := false }]) s
          | _ => False
        | _ => stepK P o s (vcn P ops Q r)
      else vcn P ops Q r (s.put o.dst (.tup []))

/-- The concrete states that an abstract one stands for. -/
def lift (C : Ctx) (nt : Nat) (Q : Exit → AS → Prop) : Exit → Act → World → Prop :=
  fun e a w => ∃ s M β, Q e s ∧ Rel C M β s w ∧ Slots nt M β s a

/-- Code from an abstract state. -/
def W (P : Program) (nt : Nat) (c : Code) (s : AS) (Q : Exit → AS → Prop) : Prop :=
  ∀ C M β a w, Rel C M β s w → Slots nt M β s a → c.wp P (lift C nt Q) a w

section
variable {P : Program} {C : Ctx} {M : Mem} {β : Loc} {s : AS} {w : World} {nt : Nat} {a : Act} {Q : Exit → AS → Prop}

theorem gOn_ok (hs : Slots nt M β s a) {ops : Array Oper} {o : Oper} {g : Bool} (h : gOn ops.toList o s = some g) : Region.wanted o (yielded ops a.tmps) = g := by
  unfold gOn at h
  unfold Region.wanted
  split at h
  · rename_i hg
    simp only [hg]
    cases h
    rfl
  · rename_i j want hg
    simp only [hg]
    have e0 : ops.toList[j]? = ops[j]? := by simp
    rw [e0] at h
    unfold yielded
    cases hd : (ops[j]?).bind (·.dst) with
    | none =>
      simp only [hd] at h
      cases h
      simp
    | some d =>
      simp only [hd] at h
      have hsl := hs.slot d
      split at h
      · rename_i b hb
        cases h
        rw [hb] at hsl
        have hx := hsl.1
        rw [Array.getD_eq_getD_getElem?] at hx
        cases ht : a.tmps[d]? with
        | none => rw [ht] at hx; simp [undef] at hx
        | some x => rw [ht] at hx; simp at hx; subst hx; simp [ht]
      · rename_i hb
        cases h
        rw [hb] at hsl
        obtain ⟨vs, hx, _, _⟩ := hsl
        rw [Array.getD_eq_getD_getElem?] at hx
        cases ht : a.tmps[d]? with
        | none => simp [ht]
        | some x => rw [ht] at hx; simp at hx; subst hx; simp [ht]
      · cases h

theorem undef_ok : Ok M β s (.tup []) undef := ⟨⟨#[], rfl, rfl, trivial⟩, by simp [AV.refs, refsL]⟩

/-- One operation that calls nothing: the model does it. -/
theorem step_wp (h : Rel C M β s w) (hs : Slots nt M β s a) {o : Oper} (hd : dstOk nt o.dst = true) {k : AS → Prop} (hk : stepK P o s k) {K : Act → World → Prop} {Q' : Exit → Act → World → Prop}
    (hK : ∀ s' M' β' a' w', k s' → Rel C M' β' s' w' → Slots nt M' β' s' a' → K a' w') : o.wp P a w K Q' := by
  unfold stepK at hk
  split at hk
  · obtain ⟨f, hf, hfr, hk⟩ := hk
    obtain ⟨y, w', β', hrun, h1, h2, h3, h4⟩ := mem_step h hs o hf hfr
    have hsl : Slots nt M β' (s.eff f) a := hs.later (MemLe.refl M) h2 rfl (fun id hid => by
      simp only [AS.eff]
      split
      · exact .inr hid
      · exact hid)
    have hgo : K (a.put o.dst y) w' := hK _ M β' _ _ hk (h1.put o.dst f.v) (hsl.put hd h3 h4)
    unfold Oper.wp
    rcases hrun with hrun | ⟨hrun, rfl⟩
    · rw [hrun]; exact hgo
    · rw [hrun]; exact hgo
  · obtain ⟨r, hr, hk⟩ := hk
    obtain ⟨y, hrun, hok⟩ := pure_ok h hs o hr
    unfold Oper.wp
    rw [hrun]
    exact hK _ M β _ _ hk (h.put o.dst r) (hs.put hd hok.rep hok.ref)

theorem RepT_of_ok {l : List AV} {vs : List Value} (hl : vs.length = l.length) (h : ∀ (i : Nat) (p : AV) (q : Value), l[i]? = some p → vs[i]? = some q → Ok M β s p q) : RepT M β l vs.toArray 0 := by
  rw [RepT.iff]
  intro i p hp
  have hlt : i < vs.length := by rw [hl]; exact (List.getElem?_eq_some_iff.1 hp).1
  exact ⟨vs[i], by simp [hlt], (h i p vs[i] hp (by rw [List.getElem?_eq_getElem hlt])).rep⟩

theorem RepT.append {l l' : List AV} {vs vs' : Array Value} (h1 : vs.size = l.length) (h : RepT M β l vs 0) (h' : RepT M β l' vs' 0) : RepT M β (l ++ l') (vs ++ vs') 0 := by
  rw [RepT.iff] at *
  intro i p hp
  simp only [Nat.zero_add] at *
  by_cases hi : i < l.length
  · rw [List.getElem?_append_left hi] at hp
    rw [Array.getElem?_append_left (by omega)]
    exact h i p hp
  · rw [List.getElem?_append_right (by omega)] at hp
    rw [Array.getElem?_append_right (by omega), h1]
    exact h' _ p hp

theorem RepT.of_at {l : List AV} {vs : Array Value} (h : RepAt M β l vs 0) : RepT M β l vs 0 := by
  rw [RepT.iff]
  intro i p hp
  obtain ⟨y, h1, _, h3⟩ := (RepAt.iff l vs 0).1 h i p hp
  exact ⟨y, h1, h3⟩

/-- The operations of a region. -/
theorem vcn_wp (ops : Array Oper) : ∀ (l : List Oper) (s : AS) (M : Mem) (β : Loc) (a : Act) (w : World), (∀ o ∈ l, dstOk nt o.dst = true) → Rel C M β s w → Slots nt M β s a →
    vcn P ops.toList Q l s → wpList P ops (lift C nt Q) l a w
  | [], s, M, β, a, w, _, h, hs, hv => ⟨s, M, β, hv, h, hs⟩
  | o :: r, s, M, β, a, w, hd, h, hs, hv => by
    simp only [vcn] at hv
    obtain ⟨g, hg, hv⟩ := hv
    have hw := gOn_ok hs hg
    have hdo := hd o (by simp)
    have ih := fun s' M' β' a' w' (hh : vcn P ops.toList Q r s') (h1 : Rel C M' β' s' w') (h2 : Slots nt M' β' s' a') =>
      vcn_wp ops r s' M' β' a' w' (fun o ho => hd o (by simp [ho])) h1 h2 hh
    unfold wpList
    rw [hw]
    cases g with
    | false =>
      simp only [Bool.false_eq_true, if_false] at hv ⊢
      have hu : Ok M β s (.tup []) undef := undef_ok
      exact ih _ M β _ _ hv (h.put _ _) (hs.put hdo hu.rep hu.ref)
    | true =>
      simp only [if_true] at hv ⊢
      refine .inl ?_
      have hstep : stepK P o s (vcn P ops.toList Q r) → o.wp P a w (wpList P ops (lift C nt Q) r) (lift C nt Q) := fun hk => step_wp h hs hdo hk ih
      split at hv
      · rename_i c hc
        split at hv
        · rename_i f hf
          -- a call
          unfold CallG at hv
          split at hv
          · rename_i fid caps hfv
            have hcall := hv
            have hfn := val_ok h hs f
            rw [hfv] at hfn
            obtain ⟨cv, hcv, hcs, hcr⟩ := hfn.rep
            have hargs : RepT M β (c.args.toList.map s.val) (c.args.toList.map a.eval).toArray 0 := RepT_of_ok (s := s) (by simp) (map_val_ok h hs c.args.toList)
            have hall := RepT.append (by simp) hargs (RepT.of_at hcr)
            have hC := hcall C nt M β a w ((c.args.toList.map a.eval).toArray ++ cv) h hs (by simp [hcs]) hall
            have e : c.args.map a.eval = (c.args.toList.map a.eval).toArray := by apply Array.ext'; simp
            have hrun : (execOp a.eval o).run P w = (callFunc fid ((c.args.toList.map a.eval).toArray ++ cv)).run P w := by
              simp only [execOp, hc, resolve, hf, Sem.run_bind, hcv, Deferred.ofValue, Sem.run_pure, Result.andThen_ok, invoke, e]
              rw [show (#[] ++ (c.args.toList.map a.eval).toArray : Array Value) = (c.args.toList.map a.eval).toArray from by simp]
            unfold Oper.wp
            rw [hrun]
            rcases hC with ⟨hent, hC⟩ | ⟨x, hx1, out, s', M', β', hK, h1, h2, h3⟩
            rotate_left
            · rw [hx1]
              cases out with
              | ret v => exact ih _ M' β' _ _ hK (h1.put _ _) (h2.put hdo h3.rep h3.ref)
              | pan l => exact h3.elim
            rw [hent]
            refine Calls.mono hC ?_
            rintro e' w' ⟨out, s', M', β', hK, h1, h2, h3⟩
            cases out with
            | ret v =>
              cases e' with
              | returned x => exact ih _ M' β' _ _ hK (h1.put _ _) (h2.put hdo h3.rep h3.ref)
              | panicked l => exact h3.elim
              | outgrown => exact h3.elim
            | pan l =>
              cases e' with
              | returned x => exact h3.elim
              | panicked l' => cases h3; exact ⟨s', M', β', hK, h1, h2⟩
              | outgrown => exact h3.elim
          · exact hv.elim
        · exact hstep hv
      · rename_i x hx
        split at hv
        · rename_i t v hxv
          have hok := val_ok h hs x
          rw [hxv] at hok
          have hrun : (execOp a.eval o).run P w = .halt (.panic (.iface t v)) w := by
            simp [execOp, hx, hok.rep.1, Instr.panic]
          unfold Oper.wp
          rw [hrun]
          exact ⟨s, M, β, hv, h, hs⟩
        · exact hv.elim
      · exact hstep hv

theorem W_region {id : Nat} {ops : Array Oper} (hd : ops.toList.all (fun o => dstOk nt o.dst) = true) (h : vcn P ops.toList Q ops.toList s) : W P nt (.region id ops false) s Q := by
  intro C M β a w hR hS
  exact wp_region_list (vcn_wp ops ops.toList s M β a w (fun o ho => List.all_eq_true.1 hd o ho) hR hS h)

theorem W_mono {c : Code} {Q' : Exit → AS → Prop} (h : W P nt c s Q) (hq : ∀ e s', Q e s' → Q' e s') : W P nt c s Q' := by
  intro C M β a w hR hS
  refine wp_mono (h C M β a w hR hS) ?_
  rintro e a' w' ⟨s', M', β', h1, h2, h3⟩
  exact ⟨s', M', β', hq _ _ h1, h2, h3⟩

theorem W_skip (h : Q .normal s) : W P nt .skip s Q := fun C M β a w hR hS => wp_skip ⟨s, M, β, h, hR, hS⟩
theorem W_ret (h : Q .ret s) : W P nt .ret s Q := fun C M β a w hR hS => wp_ret ⟨s, M, β, h, hR, hS⟩
theorem W_exit {id : Nat} (h : Q (.exit id) s) : W P nt (.exit id) s Q := fun C M β a w hR hS => wp_exit ⟨s, M, β, h, hR, hS⟩
theorem W_label {l : Nat} (h : Q .normal s) : W P nt (.label l) s Q := fun C M β a w hR hS => wp_label ⟨s, M, β, h, hR, hS⟩

/-- What stands behind a piece of code. -/
def thenW (P : Program) (nt : Nat) (y : Code) (Q : Exit → AS → Prop) : Exit → AS → Prop
  | .normal, s => W P nt y s Q
  | e, s => Q e s

theorem W_seq {x y : Code} (h : W P nt x s (thenW P nt y Q)) : W P nt (.seq x y) s Q := by
  intro C M β a w hR hS
  refine wp_seq (wp_mono (h C M β a w hR hS) ?_)
  rintro e a' w' ⟨s', M', β', h1, h2, h3⟩
  cases e with
  | normal => exact h1 C M' β' a' w' h2 h3
  | _ => exact ⟨s', M', β', h1, h2, h3⟩

/-- A choice of which nothing is known. -/
theorem W_cond_unk {c : Operand} {x y : Code} (hc : s.val c = .unk) (ht : W P nt x s Q) (hf : W P nt y s Q) : W P nt (.cond c x y) s Q := by
  intro C M β a w hR hS
  have hok := val_ok hR hS c
  rw [hc] at hok
  obtain ⟨b, hb⟩ := hok.rep
  exact wp_cond_split hb (fun _ => ht C M β a w hR hS) (fun _ => hf C M β a w hR hS)

theorem W_cond {c : Operand} {x y : Code} {b : Bool} (hc : s.val c = .v (.bool b)) (ht : b = true → W P nt x s Q) (hf : b = false → W P nt y s Q) : W P nt (.cond c x y) s Q := by
  intro C M β a w hR hS
  have hok := val_ok hR hS c
  rw [hc] at hok
  exact wp_cond_split hok.rep.1 (fun h => ht h C M β a w hR hS) (fun h => hf h C M β a w hR hS)

def blockW (id : Nat) (Q : Exit → AS → Prop) : Exit → AS → Prop
  | .exit i, s => if i = id then Q .normal s else Q (.exit i) s
  | e, s => Q e s

theorem W_block {id : Nat} {c : Code} (h : W P nt c s (blockW id Q)) : W P nt (.block id c) s Q := by
  intro C M β a w hR hS
  refine wp_block (wp_mono (h C M β a w hR hS) ?_)
  rintro e a' w' ⟨s', M', β', h1, h2, h3⟩
  cases e with
  | exit i =>
    simp only [blockW] at h1
    simp only [Exit.inBlock]
    split
    · rename_i he; rw [if_pos he] at h1; exact ⟨s', M', β', h1, h2, h3⟩
    · rename_i he; rw [if_neg he] at h1; exact ⟨s', M', β', h1, h2, h3⟩
  | _ => exact ⟨s', M', β', h1, h2, h3⟩

theorem wp_loop_n {c : Code} {Q : Exit → Act → World → Prop} (I : Nat → Act → World → Prop) {n0 : Nat} (h₀ : I n0 a w)
    (round : ∀ n a w, I n a w → c.wp P (Exit.then (fun a' w' => ∃ m, m < n ∧ I m a' w') Q) a w) : (Code.loop c).wp P Q a w := by
  intro b k cs
  have key : ∀ n a w, I n a w → ∃ e a' w', Q e a' w' ∧ Arrives P (lone (b.at a (.code c :: .inLoop c :: k)) cs w) b k cs e a' w' := by
    intro n
    induction n using Nat.strongRecOn with
    | _ n ih =>
      intro a w hI
      obtain ⟨e, a₁, w₁, hq, harr⟩ := round n a w hI b (.inLoop c :: k) cs
      cases e with
      | normal =>
        obtain ⟨m, hlt, hI₁⟩ := hq
        obtain ⟨e₂, a₂, w₂, hq₂, harr₂⟩ := ih m hlt a₁ w₁ hI₁
        exact ⟨e₂, a₂, w₂, hq₂, .of_steps (Steps.trans harr (.one step_inLoop)) harr₂⟩
      | exit id => exact ⟨_, a₁, w₁, hq, .pass (x := .inLoop c) rfl (fun _ _ => .inl (by simp)) harr⟩
      | goto l => exact ⟨_, a₁, w₁, hq, .pass (x := .inLoop c) rfl (fun _ _ => .inl (by simp)) harr⟩
      | ret => exact ⟨_, a₁, w₁, hq, .pass (x := .inLoop c) rfl (fun _ _ => .inl (by simp)) harr⟩
      | panic ch => exact ⟨_, a₁, w₁, hq, .pass (x := .inLoop c) rfl (fun _ _ => .inl (by simp)) harr⟩
      | outgrown => exact ⟨_, a₁, w₁, hq, .pass (x := .inLoop c) rfl (fun _ _ => .inl (by simp)) harr⟩
  obtain ⟨e, a', w', hq, harr⟩ := key _ a w h₀
  exact ⟨e, a', w', hq, .of_steps (.one step_loop) harr⟩

end
end Go.Fw

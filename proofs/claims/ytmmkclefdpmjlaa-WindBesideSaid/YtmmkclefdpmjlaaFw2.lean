/- FwM, FwN, FwO, FwP, FwQ, FwR, FwS, FwT, FwU, FwV, FwW, FwX, put together. -/
import Derived.Test.YtmmkclefdpmjlaaFw1
import Derived.IntWalk
set_option linter.unusedSimpArgs false
set_option linter.unusedVariables false
namespace Go.Fw
open Go Go.RowKit
def optK {α : Type} (x : Option α) (k : α → Prop) : Prop := ∃ r, x = some r ∧ k r
theorem optK_some {α : Type} (x : α) (k : α → Prop) : optK (some x) k = k x := by simp [optK]
theorem optK_none {α : Type} (k : α → Prop) : optK none k = False := by simp [optK]
theorem optK_ite {α : Type} (c : Prop) [Decidable c] (x : Option α) (k : α → Prop) : optK (if c then x else none) k = (c ∧ optK x k) := by
  by_cases h : c <;> simp [optK, h]
theorem optK_map {α β : Type} (f : α → β) (x : Option α) (k : β → Prop) : optK (x.map f) k = optK x (fun r => k (f r)) := by
  cases x <;> simp [optK]
theorem optK_bind {α β : Type} (f : α → Option β) (x : Option α) (k : β → Prop) : optK (x.bind f) k = optK x (fun r => optK (f r) k) := by
  cases x <;> simp [optK]
def isMem (P : Program) : Op → Bool
  | .alloc _ => true
  | .box _ _ => true
  | .buildSlice _ _ _ => true
  | .makeSlice _ _ _ => true
  | .store _ _ _ => true
  | .convert src t _ => strP P src && (elemP P t).isSome
  | .call c => match c.callee with
    | .builtin .append => true
    | _ => false
  | _ => false
def AS.put' (s : AS) (f : Eff) (d : Option Nat) : AS := (s.eff f).put d f.v
def stepK (P : Program) (o : Oper) (s : AS) (k : AS → Prop) : Prop :=
  if isMem P o.op = true then optK (evMem P s o.dst o.op) (fun f => (f.fresh = true → ¬ s.used f.d) ∧ k (s.put' f o.dst))
  else optK (evPure P s o.op) (fun r => k (s.put o.dst r))
def gOn (ops : List Oper) (o : Oper) (s : AS) : Option Bool :=
  match o.guard with
  | none => some true
  | some (j, want) => match (ops[j]?).bind (·.dst) with
    | none => some false
    | some d => match s.env d with
      | .v (.bool b) => some (b == want)
      | .tup [] => some false
      | _ => none
inductive Out where
  | ret (v : AV)
  | pan (l : List PanicEntry)
def EndRep (M : Mem) (β : Loc) (s : AS) : Out → Ending → Prop
  | .ret r, .returned x => Ok M β s r x
  | .pan l, .panicked l' => l' = l
  | _, _ => False
def Enters (P : Program) (f : FuncId) : Prop := ∀ args w, (callFunc f args).run P w = .ok (.enter f args) w
def Ends (P : Program) (f : FuncId) (vs : Array Value) (w : World) (Q : Ending → World → Prop) : Prop :=
  (Enters P f ∧ Calls P f vs w Q) ∨ ∃ x, (callFunc f vs).run P w = .ok (.value x) w ∧ Q (.returned x) w
theorem Ends.mono {P : Program} {f : FuncId} {vs : Array Value} {w : World} {Q Q' : Ending → World → Prop} (h : Ends P f vs w Q) (hq : ∀ e w', Q e w' → Q' e w') : Ends P f vs w Q' := by
  rcases h with ⟨h1, h2⟩ | ⟨x, h1, h2⟩
  · exact .inl ⟨h1, Calls.mono h2 hq⟩
  · exact .inr ⟨x, h1, hq _ _ h2⟩
def CallV (P : Program) (f : FuncId) (args : List AV) (s : AS) (K : Out → AS → Prop) : Prop :=
  ∀ (C : Ctx) (nt : NT) (M : Mem) (β : Loc) (a : Act) (w : World) (vs : Array Value), Rel C M β s w → Slots nt M β s a →
    vs.size = args.length → RepT M β args vs 0 → Ends P f vs w (fun e w' => ∃ out s' M' β', K out s' ∧ Rel C M' β' s' w' ∧ Slots nt M' β' s' a ∧ EndRep M' β' s' out e)
def CallG (P : Program) (f : AV) (args : List AV) (s : AS) (K : Out → AS → Prop) : Prop :=
  match f with
  | .fn f caps => CallV P f (args ++ caps) s K
  | _ => False
def vcn (P : Program) (ops : List Oper) (Q : Exit → AS → Prop) : List Oper → AS → Prop
  | [], s => Q .normal s
  | o :: r, s => optK (gOn ops o s) fun g =>
      if g = true then
        match o.op with
        | .call c => match c.callee with
          | .value f => CallG P (s.val f) (c.args.toList.map s.val) s fun out s' => match out with
            | .ret v => vcn P ops Q r (s'.put o.dst v)
            | .pan l => Q (.panic l) s'
          | _ => stepK P o s (vcn P ops Q r)
        | .panic x => match s.val x with
          | .v (.iface t v) => Q (.panic [{ v := .iface t v, recovered := false }]) s
          | _ => False
        | _ => stepK P o s (vcn P ops Q r)
      else vcn P ops Q r (s.put o.dst (.tup []))
def lift (C : Ctx) (nt : NT) (Q : Exit → AS → Prop) : Exit → Act → World → Prop :=
  fun e a w => ∃ s M β, Q e s ∧ Rel C M β s w ∧ Slots nt M β s a
def W (P : Program) (nt : NT) (c : Code) (s : AS) (Q : Exit → AS → Prop) : Prop :=
  ∀ C M β a w, Rel C M β s w → Slots nt M β s a → c.wpIn nt.F 0 P (lift C nt Q) a w
section
variable {P : Program} {C : Ctx} {M : Mem} {β : Loc} {s : AS} {w : World} {nt : NT} {a : Act} {Q : Exit → AS → Prop}
theorem gOn_ok (hs : Slots nt M β s a) {ops : Array Oper} {o : Oper} {g : Bool} (h : gOn ops.toList o s = some g) : Region.wanted o (yielded ops a.tmps) = g := by
  unfold gOn at h
  unfold Region.wanted
  split at h
  · rename_i hg
    simp only [hg]
    cases h
    rfl
  · rename_i j want hg
    simp only [hg]
    have e0 : ops.toList[j]? = ops[j]? := by simp
    rw [e0] at h
    unfold yielded
    cases hd : (ops[j]?).bind (·.dst) with
    | none =>
      simp only [hd] at h
      cases h
      simp
    | some d =>
      simp only [hd] at h
      have hsl := hs.slot d
      split at h
      · rename_i b hb
        cases h
        rw [hb] at hsl
        have hx := hsl.1
        rw [Array.getD_eq_getD_getElem?] at hx
        cases ht : a.tmps[d]? with
        | none => rw [ht] at hx; simp [undef] at hx
        | some x => rw [ht] at hx; simp at hx; subst hx; simp [ht]
      · rename_i hb
        cases h
        rw [hb] at hsl
        obtain ⟨vs, hx, _, _⟩ := hsl
        rw [Array.getD_eq_getD_getElem?] at hx
        cases ht : a.tmps[d]? with
        | none => simp [ht]
        | some x => rw [ht] at hx; simp at hx; subst hx; simp [ht]
      · cases h
theorem undef_ok : Ok M β s (.tup []) undef := ⟨⟨#[], rfl, rfl, trivial⟩, by simp [AV.refs, refsL]⟩
theorem semAt_of {ro : Option Nat} {ρ : Operand → Value} {o : Oper} (h : ∀ c, o.op ≠ .defer c) : o.semAt ro ρ = execOp ρ o := Oper.semAt_eq ro ρ o h
theorem evMem_nd {s : AS} {d : Option Nat} {op : Op} {f : Eff} (h : evMem P s d op = some f) : ∀ c, op ≠ .defer c := fun c e => by subst e; simp [evMem] at h
theorem evPure_nd {s : AS} {op : Op} {f : AV} (h : evPure P s op = some f) : ∀ c, op ≠ .defer c := fun c e => by subst e; simp [evPure] at h
theorem wpIn_val {o : Oper} (hnd : ∀ c, o.op ≠ .defer c) {y : Value} {w' : World} (hrun : (execOp a.eval o).run P w = .ok (.value y) w') {K : Act → World → Prop} {Q' : Exit → Act → World → Prop} (hK : K (a.put o.dst y) w') : o.wpIn nt.F 0 P a w K Q' := by
  refine ⟨fun _ _ => trivial, ?_⟩
  rw [semAt_of hnd, hrun]
  exact hK
theorem wpIn_skp {o : Oper} (hnd : ∀ c, o.op ≠ .defer c) {w' : World} (hrun : (execOp a.eval o).run P w = .ok .skip w') {K : Act → World → Prop} {Q' : Exit → Act → World → Prop} (hK : K (a.put o.dst undef) w') : o.wpIn nt.F 0 P a w K Q' := by
  refine ⟨fun _ _ => trivial, ?_⟩
  rw [semAt_of hnd, hrun]
  exact hK
theorem callsIn_nt {nt : NT} {n : Nat} {f : FuncId} {vs : Array Value} {R : Ending → World → Prop} (h : Calls P f vs w R) : CallsIn nt.F n P f vs w R := by
  cases hr : nt.round with
  | none =>
    have e : nt.F = Fence.wide := by unfold NT.F; rw [hr]; rfl
    rw [e]
    exact callsIn_wide.2 h
  | some l =>
    have e : nt.F = Fence.wide.inRound l := by unfold NT.F; rw [hr]; rfl
    rw [e]
    exact CallsIn.inRound l (callsIn_wide.2 h)
theorem step_wp (h : Rel C M β s w) (hs : Slots nt M β s a) {o : Oper} (hd : dstOk nt o.dst = true) {k : AS → Prop} (hk : stepK P o s k) {K : Act → World → Prop} {Q' : Exit → Act → World → Prop}
    (hK : ∀ s' M' β' a' w', k s' → Rel C M' β' s' w' → Slots nt M' β' s' a' → K a' w') : o.wpIn nt.F 0 P a w K Q' := by
  unfold stepK at hk
  split at hk
  · obtain ⟨f, hf, hfr, hk⟩ := hk
    obtain ⟨y, w', β', hrun, h1, h2, h3, h4⟩ := mem_step h hs o hf hfr
    have hsl : Slots nt M β' (s.eff f) a := hs.later (MemLe.refl M) h2 rfl (fun id hid => by
      simp only [AS.eff]
      split
      · exact .inr hid
      · exact hid)
    have hgo : K (a.put o.dst y) w' := hK _ M β' _ _ hk (h1.put o.dst f.v) (hsl.put hd h3 h4)
    rcases hrun with hrun | ⟨hrun, rfl⟩
    · exact wpIn_val (evMem_nd hf) hrun hgo
    · exact wpIn_skp (evMem_nd hf) hrun hgo
  · obtain ⟨r, hr, hk⟩ := hk
    obtain ⟨y, hrun, hok⟩ := pure_ok h hs o hr
    refine wpIn_val (evPure_nd hr) hrun ?_
    exact hK _ M β _ _ hk (h.put o.dst r) (hs.put hd hok.rep hok.ref)
theorem RepT_of_ok {l : List AV} {vs : List Value} (hl : vs.length = l.length) (h : ∀ (i : Nat) (p : AV) (q : Value), l[i]? = some p → vs[i]? = some q → Ok M β s p q) : RepT M β l vs.toArray 0 := by
  rw [RepT.iff]
  intro i p hp
  have hlt : i < vs.length := by rw [hl]; exact (List.getElem?_eq_some_iff.1 hp).1
  exact ⟨vs[i], by simp [hlt], (h i p vs[i] hp (by rw [List.getElem?_eq_getElem hlt])).rep⟩
theorem RepT.append {l l' : List AV} {vs vs' : Array Value} (h1 : vs.size = l.length) (h : RepT M β l vs 0) (h' : RepT M β l' vs' 0) : RepT M β (l ++ l') (vs ++ vs') 0 := by
  rw [RepT.iff] at *
  intro i p hp
  simp only [Nat.zero_add] at *
  by_cases hi : i < l.length
  · rw [List.getElem?_append_left hi] at hp
    rw [Array.getElem?_append_left (by omega)]
    exact h i p hp
  · rw [List.getElem?_append_right (by omega)] at hp
    rw [Array.getElem?_append_right (by omega), h1]
    exact h' _ p hp
theorem RepT.of_at {l : List AV} {vs : Array Value} (h : RepAt M β l vs 0) : RepT M β l vs 0 := by
  rw [RepT.iff]
  intro i p hp
  obtain ⟨y, h1, _, h3⟩ := (RepAt.iff l vs 0).1 h i p hp
  exact ⟨y, h1, h3⟩
theorem vcn_wp (ops : Array Oper) : ∀ (l : List Oper) (s : AS) (M : Mem) (β : Loc) (a : Act) (w : World), (∀ o ∈ l, dstOk nt o.dst = true) → Rel C M β s w → Slots nt M β s a →
    vcn P ops.toList Q l s → wpListIn nt.F 0 P ops (lift C nt Q) l a w
  | [], s, M, β, a, w, _, h, hs, hv => ⟨s, M, β, hv, h, hs⟩
  | o :: r, s, M, β, a, w, hd, h, hs, hv => by
    simp only [vcn] at hv
    obtain ⟨g, hg, hv⟩ := hv
    have hw := gOn_ok hs hg
    have hdo := hd o (by simp)
    have ih := fun s' M' β' a' w' (hh : vcn P ops.toList Q r s') (h1 : Rel C M' β' s' w') (h2 : Slots nt M' β' s' a') =>
      vcn_wp ops r s' M' β' a' w' (fun o ho => hd o (by simp [ho])) h1 h2 hh
    unfold wpListIn
    rw [hw]
    cases g with
    | false =>
      simp only [Bool.false_eq_true, if_false] at hv ⊢
      have hu : Ok M β s (.tup []) undef := undef_ok
      refine ⟨fun _ _ => trivial, ?_⟩
      exact ih _ M β _ _ hv (h.put _ _) (hs.put hdo hu.rep hu.ref)
    | true =>
      simp only [if_true] at hv ⊢
      have hstep : stepK P o s (vcn P ops.toList Q r) → o.wpIn nt.F 0 P a w (wpListIn nt.F 0 P ops (lift C nt Q) r) (lift C nt Q) := fun hk => step_wp h hs hdo hk ih
      split at hv
      · rename_i c hc
        split at hv
        · rename_i f hf
          -- a call
          unfold CallG at hv
          split at hv
          · rename_i fid caps hfv
            have hcall := hv
            have hfn := val_ok h hs f
            rw [hfv] at hfn
            obtain ⟨cv, hcv, hcs, hcr⟩ := hfn.rep
            have hargs : RepT M β (c.args.toList.map s.val) (c.args.toList.map a.eval).toArray 0 := RepT_of_ok (s := s) (by simp) (map_val_ok h hs c.args.toList)
            have hall := RepT.append (by simp) hargs (RepT.of_at hcr)
            have hC := hcall C nt M β a w ((c.args.toList.map a.eval).toArray ++ cv) h hs (by simp [hcs]) hall
            have e : c.args.map a.eval = (c.args.toList.map a.eval).toArray := by apply Array.ext'; simp
            have hrun : (execOp a.eval o).run P w = (callFunc fid ((c.args.toList.map a.eval).toArray ++ cv)).run P w := by
              simp only [execOp, hc, resolve, hf, Sem.run_bind, hcv, Deferred.ofValue, Sem.run_pure, Result.andThen_ok, invoke, e]
              rw [show (#[] ++ (c.args.toList.map a.eval).toArray : Array Value) = (c.args.toList.map a.eval).toArray from by simp]
            refine ⟨fun _ _ => trivial, ?_⟩
            rw [semAt_of (fun c' e' => by rw [hc] at e'; cases e'), hrun]
            rcases hC with ⟨hent, hC⟩ | ⟨x, hx1, out, s', M', β', hK, h1, h2, h3⟩
            rotate_left
            · rw [hx1]
              cases out with
              | ret v => exact ih _ M' β' _ _ hK (h1.put _ _) (h2.put hdo h3.rep h3.ref)
              | pan l => exact h3.elim
            rw [hent]
            refine ⟨(fun h => by cases h), callsIn_nt (Calls.mono hC ?_)⟩
            rintro e' w' ⟨out, s', M', β', hK, h1, h2, h3⟩
            cases out with
            | ret v =>
              cases e' with
              | returned x => exact ih _ M' β' _ _ hK (h1.put _ _) (h2.put hdo h3.rep h3.ref)
              | panicked l => exact h3.elim
              | outgrown => exact h3.elim
            | pan l =>
              cases e' with
              | returned x => exact h3.elim
              | panicked l' => cases h3; exact ⟨s', M', β', hK, h1, h2⟩
              | outgrown => exact h3.elim
          · exact hv.elim
        · exact hstep hv
      · rename_i x hx
        split at hv
        · rename_i t v hxv
          have hok := val_ok h hs x
          rw [hxv] at hok
          have hrun : (execOp a.eval o).run P w = .halt (.panic (.iface t v)) w := by
            simp [execOp, hx, hok.rep.1, Instr.panic]
          refine ⟨fun _ _ => trivial, ?_⟩
          rw [semAt_of (fun c' e' => by rw [hx] at e'; cases e'), hrun]
          exact ⟨s, M, β, hv, h, hs⟩
        · exact hv.elim
      · exact hstep hv
theorem W_region {id : Nat} {ops : Array Oper} (hd : ops.toList.all (fun o => dstOk nt o.dst) = true) (h : vcn P ops.toList Q ops.toList s) : W P nt (.region id ops false) s Q := by
  intro C M β a w hR hS
  exact wpIn_region_list (vcn_wp ops ops.toList s M β a w (fun o ho => List.all_eq_true.1 hd o ho) hR hS h)
theorem W_mono {c : Code} {Q' : Exit → AS → Prop} (h : W P nt c s Q) (hq : ∀ e s', Q e s' → Q' e s') : W P nt c s Q' := by
  intro C M β a w hR hS
  refine wpIn_mono (h C M β a w hR hS) ?_
  rintro e a' w' ⟨s', M', β', h1, h2, h3⟩
  exact ⟨s', M', β', hq _ _ h1, h2, h3⟩
theorem W_skip (h : Q .normal s) : W P nt .skip s Q := fun C M β a w hR hS => wpIn_skip ⟨s, M, β, h, hR, hS⟩
theorem W_ret (h : Q .ret s) : W P nt .ret s Q := fun C M β a w hR hS => wpIn_ret ⟨s, M, β, h, hR, hS⟩
theorem W_exit {id : Nat} (h : Q (.exit id) s) : W P nt (.exit id) s Q := fun C M β a w hR hS => wpIn_exit ⟨s, M, β, h, hR, hS⟩
theorem W_label {l : Nat} (h : Q .normal s) : W P nt (.label l) s Q := fun C M β a w hR hS => wpIn_label ⟨s, M, β, h, hR, hS⟩
def thenW (P : Program) (nt : NT) (y : Code) (Q : Exit → AS → Prop) : Exit → AS → Prop
  | .normal, s => W P nt y s Q
  | e, s => Q e s
theorem W_seq {x y : Code} (h : W P nt x s (thenW P nt y Q)) : W P nt (.seq x y) s Q := by
  intro C M β a w hR hS
  refine wpIn_seq (wpIn_mono (h C M β a w hR hS) ?_)
  rintro e a' w' ⟨s', M', β', h1, h2, h3⟩
  cases e with
  | normal => exact h1 C M' β' a' w' h2 h3
  | _ => exact ⟨s', M', β', h1, h2, h3⟩
theorem W_cond {c : Operand} {x y : Code} {b : Bool} (hc : s.val c = .v (.bool b)) (ht : b = true → W P nt x s Q) (hf : b = false → W P nt y s Q) : W P nt (.cond c x y) s Q := by
  intro C M β a w hR hS
  have hok := val_ok hR hS c
  rw [hc] at hok
  exact wpIn_cond_split hok.rep.1 (fun h => ht h C M β a w hR hS) (fun h => hf h C M β a w hR hS)
def blockW (id : Nat) (Q : Exit → AS → Prop) : Exit → AS → Prop
  | .exit i, s => if i = id then Q .normal s else Q (.exit i) s
  | e, s => Q e s
theorem W_block {id : Nat} {c : Code} (h : W P nt c s (blockW id Q)) : W P nt (.block id c) s Q := by
  intro C M β a w hR hS
  refine wpIn_block (wpIn_mono (h C M β a w hR hS) ?_)
  rintro e a' w' ⟨s', M', β', h1, h2, h3⟩
  cases e with
  | exit i =>
    simp only [blockW] at h1
    simp only [Exit.inBlock]
    split
    · rename_i he; rw [if_pos he] at h1; exact ⟨s', M', β', h1, h2, h3⟩
    · rename_i he; rw [if_neg he] at h1; exact ⟨s', M', β', h1, h2, h3⟩
  | _ => exact ⟨s', M', β', h1, h2, h3⟩
theorem wpIn_loop_n {F : Fence} {n' : Nat} {c : Code} {Q : Exit → Act → World → Prop} (I : Nat → Act → World → Prop) {n0 : Nat} (h₀ : I n0 a w)
    (round : ∀ n a w, I n a w → c.wpIn F n' P (Exit.then (fun a' w' => ∃ m, m < n ∧ I m a' w') Q) a w) : (Code.loop c).wpIn F n' P Q a w := by
  intro b k cs hro hb hr
  have key : ∀ n a w, I n a w → ∃ e a' w', Q e a' w' ∧ ArrivesIn (Machine.fenced P F) P (lone (b.atR a (.code c :: .inLoop c :: k)) cs w) b k cs e a' w' := by
    intro n
    induction n using Nat.strongRecOn with
    | _ n ih =>
      intro a w hI
      obtain ⟨e, a₁, w₁, hq, harr⟩ := round n a w hI b (.inLoop c :: k) cs hro hb hr
      cases e with
      | normal =>
        obtain ⟨m, hlt, hI₁⟩ := hq
        obtain ⟨e₂, a₂, w₂, hq₂, harr₂⟩ := ih m hlt a₁ w₁ hI₁
        exact ⟨e₂, a₂, w₂, hq₂, .of_steps (StepsIn.trans harr (.one (fenced_calm hb hr rfl) stepR_inLoop)) harr₂⟩
      | exit id => exact ⟨_, a₁, w₁, hq, .pass (x := .inLoop c) rfl (fun _ _ => .inl (by simp)) harr⟩
      | goto l => exact ⟨_, a₁, w₁, hq, .pass (x := .inLoop c) rfl (fun _ _ => .inl (by simp)) harr⟩
      | ret => exact ⟨_, a₁, w₁, hq, .pass (x := .inLoop c) rfl (fun _ _ => .inl (by simp)) harr⟩
      | panic ch => exact ⟨_, a₁, w₁, hq, .pass (x := .inLoop c) rfl (fun _ _ => .inl (by simp)) harr⟩
      | outgrown => exact ⟨_, a₁, w₁, hq, .pass (x := .inLoop c) rfl (fun _ _ => .inl (by simp)) harr⟩
  obtain ⟨e, a', w', hq, harr⟩ := key _ a w h₀
  exact ⟨e, a', w', hq, .of_steps (.one (fenced_calm hb hr rfl) stepR_loop) harr⟩
end
end Go.Fw
namespace Go.Fw
open Go Go.RowKit
mutual
def ren (ρ : Nat → Nat) : AV → AV
  | .bp id off => .bp (ρ id) off
  | .bs id z off n => .bs (ρ id) z off n
  | .fn f l => .fn f (renL ρ l)
  | .agg l => .agg (renL ρ l)
  | .tup l => .tup (renL ρ l)
  | .v x => .v x
  | .slc f z n l => .slc f z n l
  | .ip l => .ip l
  | .own e z n l => .own e z n l
  | .junk => .junk
  | .unk => .unk
def renL (ρ : Nat → Nat) : List AV → List AV
  | [] => []
  | a :: l => ren ρ a :: renL ρ l
end
def renBox (ρ : Nat → Nat) : Box → Box
  | .mut e l => .mut e (renL ρ l)
  | .frz l => .frz l
theorem renL_length (ρ : Nat → Nat) : ∀ l, (renL ρ l).length = l.length
  | [] => rfl
  | a :: l => by simp [renL, renL_length ρ l]
mutual
theorem rep_ren {M : Mem} {β : Loc} (ρ : Nat → Nat) : ∀ (a : AV) (x : Value), Rep M β (ren ρ a) x → Rep M (fun i => β (ρ i)) a x
  | .v _, _, h => h
  | .slc _ _ _ _, _, h => h
  | .ip _, _, h => h
  | .bp _ _, _, h => h
  | .bs _ _ _ _, _, h => h
  | .fn _ l, _, ⟨vs, h1, h2, h3⟩ => ⟨vs, h1, by rw [h2, renL_length], repAt_ren ρ l vs 0 h3⟩
  | .agg l, _, ⟨vs, h1, h2, h3⟩ => ⟨vs, h1, by rw [h2, renL_length], repAt_ren ρ l vs 0 h3⟩
  | .tup l, _, ⟨vs, h1, h2, h3⟩ => ⟨vs, h1, by rw [h2, renL_length], repT_ren ρ l vs 0 h3⟩
  | .own _ _ _ _, _, h => h
  | .junk, _, h => h
  | .unk, _, h => h
theorem repAt_ren {M : Mem} {β : Loc} (ρ : Nat → Nat) : ∀ (l : List AV) (cs : Array Value) (o : Nat), RepAt M β (renL ρ l) cs o → RepAt M (fun i => β (ρ i)) l cs o
  | [], _, _, _ => trivial
  | a :: l, cs, o, ⟨⟨y, h1, h2, h3⟩, h4⟩ => ⟨⟨y, h1, h2, rep_ren ρ a y h3⟩, repAt_ren ρ l cs (o + 1) h4⟩
theorem repT_ren {M : Mem} {β : Loc} (ρ : Nat → Nat) : ∀ (l : List AV) (cs : Array Value) (o : Nat), RepT M β (renL ρ l) cs o → RepT M (fun i => β (ρ i)) l cs o
  | [], _, _, _ => trivial
  | a :: l, cs, o, ⟨⟨y, h1, h3⟩, h4⟩ => ⟨⟨y, h1, rep_ren ρ a y h3⟩, repT_ren ρ l cs (o + 1) h4⟩
end
def lk {α : Type} : List (Nat × α) → Nat → Option α
  | [], _ => none
  | p :: r, t => if p.1 = t then some p.2 else lk r t
theorem lk_mem {α : Type} : ∀ {l : List (Nat × α)} {t : Nat} {x : α}, lk l t = some x → (t, x) ∈ l
  | [], _, _, h => by cases h
  | p :: r, t, x, h => by
    simp only [lk] at h
    split at h
    · rename_i he; cases h; subst he; simp
    · exact List.mem_cons_of_mem _ (lk_mem h)
def mkS (env : List (Nat × AV)) (box : List (Nat × Box)) : AS := ⟨fun t => (lk env t).getD .junk, lk box, fun i => i ∈ box.map (·.1) ∨ 1000000 ≤ i⟩
def Box.refs : Box → List Nat
  | .mut _ l => refsL l
  | .frz _ => []
def Wk (s : AS) (env : List (Nat × AV)) (box : List (Nat × Box)) (ρ : Nat → Nat) : Prop :=
  (∀ p ∈ env, resB s.box (s.env p.1) = ren ρ p.2) ∧ (∀ p ∈ box, s.box (ρ p.1) = some (renBox ρ p.2)) ∧ (∀ p ∈ box, ∀ q ∈ box, ρ p.1 = ρ q.1 → p.1 = q.1) ∧
  (∀ p ∈ env, ∀ i ∈ p.2.refs, i ∈ box.map (·.1)) ∧ (∀ p ∈ box, ∀ i ∈ p.2.refs, i ∈ box.map (·.1)) ∧ ∀ i, 1000000 ≤ i → ρ i = i
section
variable {P : Program} {C : Ctx} {M : Mem} {β : Loc} {s : AS} {w : World} {nt : NT} {a : Act} {Q : Exit → AS → Prop}
theorem Rel.wk (h : Rel C M β s w) (hs : Slots nt M β s a) {env : List (Nat × AV)} {box : List (Nat × Box)} {ρ : Nat → Nat} (hw : Wk s env box ρ) :
    Rel C M (fun i => β (ρ i)) (mkS env box) w ∧ Slots nt M (fun i => β (ρ i)) (mkS env box) a := by
  obtain ⟨h1, h2, h3, h4, h5, h6⟩ := hw
  have hb : ∀ i B, lk box i = some B → s.box (ρ i) = some (renBox ρ B) := fun i B hi => h2 _ (lk_mem hi)
  refine ⟨⟨h.mem, h.le, h.mnew, ?_, ?_, ?_, ?_, ?_, ?_, h.os, h.tape, h.output, h.size, h.keep, fun i hi => ⟨.inr hi, by rw [h6 i hi]; exact (h.pin i hi).2⟩⟩, ⟨hs.dfr, hs.size, ?_, ?_⟩⟩
  · intro i e l hi j hj
    exact .inl (h5 _ (lk_mem hi) j hj)
  · intro i hi
    simp only [mkS] at hi ⊢
    cases hx : lk box i with
    | none => exact absurd hx hi
    | some B => exact .inl (List.mem_map.2 ⟨_, lk_mem hx, rfl⟩)
  · intro i e l hi
    rcases h.mutb (ρ i) e (renL ρ l) (hb i _ hi) with ⟨k1, k2⟩ | ⟨b, cs, k1, k2, k3, k4, k5, k6⟩
    · refine .inl ⟨k1, ?_⟩
      cases l with
      | nil => rfl
      | cons => simp [renL] at k2
    · exact .inr ⟨b, cs, k1, k2, repAt_ren ρ l cs 0 k3, by rw [renL_length] at k4; exact k4, k5, k6⟩
  · intro i l hi
    exact h.frzb (ρ i) l (hb i _ hi)
  · intro i l hi
    exact h.frzr (ρ i) l (hb i _ hi)
  · intro i j e e' l l' b n n' hi hj hbi hbj
    have := h.inj (ρ i) (ρ j) e e' _ _ b n n' (hb i _ hi) (hb j _ hj) hbi hbj
    exact h3 _ (lk_mem hi) _ (lk_mem hj) this
  · intro t
    simp only [mkS]
    cases ht : lk env t with
    | none => exact trivial
    | some v =>
      have hok := resB_ok h ⟨hs.slot t, hs.refE t⟩
      have := h1 _ (lk_mem ht)
      simp only at this
      rw [this] at hok
      exact rep_ren ρ v _ hok.rep
  · intro t i hi
    simp only [mkS] at hi ⊢
    cases ht : lk env t with
    | none => rw [ht] at hi; simp [AV.refs] at hi
    | some v => rw [ht] at hi; exact .inl (h4 _ (lk_mem ht) i hi)
theorem W_wk {c : Code} (env : List (Nat × AV)) (box : List (Nat × Box)) (ρ : Nat → Nat) (hw : Wk s env box ρ) (h : W P nt c (mkS env box) Q) : W P nt c s Q := by
  intro C M β a w hR hS
  obtain ⟨h1, h2⟩ := hR.wk hS hw
  exact h C M _ a w h1 h2
theorem W_loop {c : Code} {X : Type} (env : X → List (Nat × AV)) (box : X → List (Nat × Box)) (μ : X → Nat) (I : X → Prop) (x0 : X) (ρ0 : Nat → Nat) (h0 : I x0) (hs : Wk s (env x0) (box x0) ρ0)
    (round : ∀ x, I x → W P nt c (mkS (env x) (box x)) (fun e s' => match e with
      | .normal => ∃ x', μ x' < μ x ∧ I x' ∧ ∃ ρ, Wk s' (env x') (box x') ρ
      | e => Q e s')) : W P nt (.loop c) s Q := by
  refine W_wk (env x0) (box x0) ρ0 hs ?_
  intro C M β a w hR hS
  refine wpIn_loop_n (fun n a w => ∃ x, μ x = n ∧ I x ∧ ∃ M β, Rel C M β (mkS (env x) (box x)) w ∧ Slots nt M β (mkS (env x) (box x)) a) (n0 := μ x0) ⟨x0, rfl, h0, M, β, hR, hS⟩ ?_
  rintro n a w ⟨x, rfl, hx, M, β, hR, hS⟩
  refine wpIn_mono (round x hx C M β a w hR hS) ?_
  rintro e a' w' ⟨s', M', β', h1, h2, h3⟩
  cases e with
  | normal =>
    obtain ⟨x', hlt, hI, ρ, hw⟩ := h1
    obtain ⟨k1, k2⟩ := h2.wk h3 hw
    exact ⟨μ x', hlt, x', rfl, hI, M', _, k1, k2⟩
  | _ => exact ⟨s', M', β', h1, h2, h3⟩
theorem W_frz {c : Code} (id : Nat) {e : TypeId} {l : List AV} (hb : s.box id = some (.mut e l)) (hr : refsL l = []) (h : W P nt c { s with box := upd s.box id (some (.frz l)) } Q) : W P nt c s Q := by
  intro C M β a w hR hS
  obtain ⟨M', h1, h2⟩ := hR.freeze hb hr
  exact h C M' β a w h2 (hS.later h1 (fun _ _ => rfl) rfl (fun _ h => h))
theorem W_nil {c : Code} (t id : Nat) (e : TypeId) (z : Nat) (hn : s.env t = .v (.slice none 0 0)) (hf : ¬ s.used id)
    (h : W P nt c ⟨upd s.env t (.bs id z 0 0), upd s.box id (some (.mut e [])), fun i => i = id ∨ s.used i⟩ Q) : W P nt c s Q := by
  intro C M β a w hR hS
  obtain ⟨r1, r2⟩ := hR.renew (w' := w) none id e [] none none (.inl hf) rfl rfl rfl (Nat.le_refl _) (fun _ _ _ => rfl) (fun _ hb => by cases hb) (.inl ⟨rfl, rfl⟩) (by simp [refsL])
  have hsl : Slots nt M (upd β id none) ⟨s.env, upd s.box id (some (.mut e [])), fun i => i = id ∨ s.used i⟩ a := hS.later (MemLe.refl M) r2 rfl (fun _ h => .inr h)
  refine h C M _ a w (r1.env rfl rfl) ⟨hsl.dfr, hsl.size, fun t' => ?_, fun t' i hi => ?_⟩
  · by_cases ht : t' = t
    · subst ht
      simp only [upd_same]
      have := hS.slot t'
      rw [hn] at this
      rw [this.1]
      exact ⟨none, 0, rfl, Nat.le_refl _, by simp [maxLen], fun h => absurd h (by omega)⟩
    · simp only [upd_ne _ _ ht]; exact hsl.slot t'
  · by_cases ht : t' = t
    · subst ht; simp only [upd_same, AV.refs, List.mem_singleton] at hi; exact .inl hi
    · simp only [upd_ne _ _ ht] at hi; exact hsl.refE t' i hi
end
end Go.Fw
namespace Go.Fw
open Go Go.RowKit
mutual
def resD (box : Nat → Option Box) : AV → AV
  | .agg l => .agg (resDL box l)
  | .tup l => .tup (resDL box l)
  | .fn f l => .fn f (resDL box l)
  | .v x => .v x
  | .slc f z n l => .slc f z n l
  | .ip l => .ip l
  | .bp id off => resB box (.bp id off)
  | .bs id z off n => resB box (.bs id z off n)
  | .own e z n l => .own e z n l
  | .junk => .junk
  | .unk => .unk
def resDL (box : Nat → Option Box) : List AV → List AV
  | [] => []
  | a :: l => resD box a :: resDL box l
end
theorem resDL_length (box : Nat → Option Box) : ∀ l, (resDL box l).length = l.length
  | [] => rfl
  | a :: l => by simp [resDL, resDL_length box l]
mutual
theorem resD_ok {C : Ctx} {M : Mem} {β : Loc} {s : AS} {w : World} (h : Rel C M β s w) : ∀ (v : AV) (x : Value), Ok M β s v x → Ok M β s (resD s.box v) x
  | .agg l, _, ⟨⟨vs, h1, h2, h3⟩, h4⟩ => by
    obtain ⟨k1, k2⟩ := resDL_at h l vs 0 h3 (by simpa [AV.refs] using h4)
    exact ⟨⟨vs, h1, by rw [h2, resDL_length], k1⟩, by simpa [resD, AV.refs] using k2⟩
  | .tup l, _, ⟨⟨vs, h1, h2, h3⟩, h4⟩ => by
    obtain ⟨k1, k2⟩ := resDL_t h l vs 0 h3 (by simpa [AV.refs] using h4)
    exact ⟨⟨vs, h1, by rw [h2, resDL_length], k1⟩, by simpa [resD, AV.refs] using k2⟩
  | .fn f l, _, ⟨⟨vs, h1, h2, h3⟩, h4⟩ => by
    obtain ⟨k1, k2⟩ := resDL_at h l vs 0 h3 (by simpa [AV.refs] using h4)
    exact ⟨⟨vs, h1, by rw [h2, resDL_length], k1⟩, by simpa [resD, AV.refs] using k2⟩
  | .v _, _, h => h
  | .slc _ _ _ _, _, h => h
  | .ip _, _, h => h
  | .bp _ _, _, hv => resB_ok h hv
  | .bs _ _ _ _, _, hv => resB_ok h hv
  | .own _ _ _ _, _, h => h
  | .junk, _, h => h
  | .unk, _, h => h
theorem resDL_at {C : Ctx} {M : Mem} {β : Loc} {s : AS} {w : World} (h : Rel C M β s w) : ∀ (l : List AV) (cs : Array Value) (o : Nat), RepAt M β l cs o → (∀ j ∈ refsL l, s.used j) →
    RepAt M β (resDL s.box l) cs o ∧ ∀ j ∈ refsL (resDL s.box l), s.used j
  | [], _, _, _, _ => ⟨trivial, by simp [resDL, refsL]⟩
  | a :: l, cs, o, ⟨⟨y, h1, h2, h3⟩, h4⟩, hr => by
    have ha := resD_ok h a y ⟨h3, fun j hj => hr j (by simp [refsL, hj])⟩
    obtain ⟨k1, k2⟩ := resDL_at h l cs (o + 1) h4 (fun j hj => hr j (by simp [refsL, hj]))
    refine ⟨⟨⟨y, h1, h2, ha.rep⟩, k1⟩, fun j hj => ?_⟩
    simp only [resDL, refsL, List.mem_append] at hj
    exact hj.elim (ha.ref j) (k2 j)
theorem resDL_t {C : Ctx} {M : Mem} {β : Loc} {s : AS} {w : World} (h : Rel C M β s w) : ∀ (l : List AV) (cs : Array Value) (o : Nat), RepT M β l cs o → (∀ j ∈ refsL l, s.used j) →
    RepT M β (resDL s.box l) cs o ∧ ∀ j ∈ refsL (resDL s.box l), s.used j
  | [], _, _, _, _ => ⟨trivial, by simp [resDL, refsL]⟩
  | a :: l, cs, o, ⟨⟨y, h1, h3⟩, h4⟩, hr => by
    have ha := resD_ok h a y ⟨h3, fun j hj => hr j (by simp [refsL, hj])⟩
    obtain ⟨k1, k2⟩ := resDL_t h l cs (o + 1) h4 (fun j hj => hr j (by simp [refsL, hj]))
    refine ⟨⟨⟨y, h1, ha.rep⟩, k1⟩, fun j hj => ?_⟩
    simp only [resDL, refsL, List.mem_append] at hj
    exact hj.elim (ha.ref j) (k2 j)
end
def MemOk (M : Mem) (w : World) : Prop := ∀ b cs, M b = some cs → ∃ ty fz, w.heap[b]? = some (.cells cs ty fz)
def RepC (M : Mem) (w : World) : AV → Value → List Nat → Prop
  | .own e z n l, x, bl => l.length = n * z ∧ refsL l = [] ∧ ∃ ad cap, x = .slice ad n cap ∧ n ≤ cap ∧ cap ≤ maxLen ∧
      ((cap = 0 ∧ bl = []) ∨ ∃ b cs fz, bl = [b] ∧ ad = some ⟨b, 0, none⟩ ∧ w.heap[b]? = some (.cells cs e fz) ∧ Free cs.size fz ∧ cs.size = cap * z ∧ RepAt M noLoc l cs 0 ∧ M b = none)
  | a, x, bl => Rep M noLoc a x ∧ a.refs = [] ∧ bl = []
def RepCL (M : Mem) (w : World) : List AV → Array Value → Nat → List Nat → Prop
  | [], _, _, bl => bl = []
  | a :: l, vs, o, bl => ∃ y b1 b2, vs[o]? = some y ∧ RepC M w a y b1 ∧ RepCL M w l vs (o + 1) b2 ∧ bl = b1 ++ b2
def RepO (M : Mem) (w : World) : AV → Value → List Nat → Prop
  | .tup l, x, bl => ∃ vs : Array Value, x = .tuple vs ∧ vs.size = l.length ∧ RepCL M w l vs 0 bl
  | a, x, bl => RepC M w a x bl
def EndO (M : Mem) (w : World) (size : Nat) : Out → Ending → Prop
  | .ret v, .returned x => ∃ bl, RepO M w v x bl ∧ bl.Nodup ∧ ∀ b ∈ bl, size ≤ b
  | .pan l, .panicked l' => l' = l
  | _, _ => False
def Eval (P : Program) (f : FuncId) (args : List AV) (out : Out) : Prop :=
  ∀ (M : Mem) (w : World) (vs : Array Value), MemOk M w → vs.size = args.length → RepT M noLoc args vs 0 →
    Ends P f vs w (fun e w' => ∃ M', MemLe M M' ∧ MemOk M' w' ∧ (∀ b, b < w.heap.size → M' b = M b) ∧ Below w.heap.size w w' ∧ EndO M' w' w.heap.size out e)
def entry (args : List AV) : AS := ⟨fun t => (args[t]?).getD (.tup []), fun _ => none, fun i => 1000000 ≤ i⟩
def resOne (P : Program) (s : AS) : ResultVar → Option AV
  | .tmp t => some (s.val (.tmp t))
  | .cell a t => (s.mem (s.val (.tmp a))).bind (partAV P t)
def resAll (P : Program) (s : AS) : List ResultVar → Option (List AV)
  | [] => some []
  | r :: rs => match resOne P s r, resAll P s rs with
    | some v, some l => some (v :: l)
    | _, _ => none
def resAV (P : Program) (s : AS) (rs : List ResultVar) : Option AV :=
  (resAll P s rs).map fun l => match l with
    | [v] => v
    | l => .tup l
def closeC (box : Nat → Option Box) : AV → Option AV
  | .bs id z off n => match box id with
    | some (.mut e l) => if off = 0 ∧ n * z = l.length ∧ refsL l = [] then some (.own e z n l) else none
    | _ => none
  | a => if a.refs = [] then some a else none
def closeL (box : Nat → Option Box) : List AV → Option (List AV)
  | [] => some []
  | a :: l => match closeC box a, closeL box l with
    | some b, some l' => some (b :: l')
    | _, _ => none
def closeV (box : Nat → Option Box) : AV → Option AV
  | .tup l => (closeL box l).map .tup
  | a => closeC box a
def post (P : Program) (fn : Func) (out : Out) : Exit → AS → Prop
  | .normal, s | .ret, s => optK (resAV P s fn.results.toList) fun r => optK (closeV s.box (resD s.box r)) fun v => out = .ret v ∧ (resD s.box r).refs.Nodup
  | .panic l, _ => out = .pan l
  | _, _ => False
section
variable {P : Program} {C : Ctx} {M : Mem} {β : Loc} {s : AS} {w : World} {nt : NT} {a : Act} {Q : Exit → AS → Prop}
theorem noRefs_rep {v : AV} {x : Value} (h : Rep M β v x) (hr : v.refs = []) (β' : Loc) : Rep M β' v x :=
  Rep.mono (MemLe.refl M) v x (fun id hid => by rw [hr] at hid; cases hid) h
theorem close_ok (h : Rel C M β s w) (hC : C.ext = []) {v o : AV} {x : Value} (hv : Ok M β s v x) (hc : closeC s.box v = some o) :
    ∃ bl, RepC M w o x bl ∧ (∀ b ∈ bl, C.w0.heap.size ≤ b ∧ ∃ id ∈ v.refs, ∃ e l n, s.box id = some (.mut e l) ∧ β id = some (b, n)) ∧ bl.length ≤ 1 := by
  have plain : v.refs = [] → v = o → (∀ e z n l, v ≠ .own e z n l) → ∃ bl, RepC M w o x bl ∧ (∀ b ∈ bl, C.w0.heap.size ≤ b ∧ ∃ id ∈ v.refs, ∃ e l n, s.box id = some (.mut e l) ∧ β id = some (b, n)) ∧ bl.length ≤ 1 := by
    intro h1 h2 h3
    subst h2
    refine ⟨[], ?_, by simp, by simp⟩
    cases v with
    | own e z n l => exact absurd rfl (h3 e z n l)
    | _ => exact ⟨noRefs_rep hv.rep h1 noLoc, h1, rfl⟩
  cases v
  case bs id z off n =>
    simp only [closeC] at hc
    split at hc
    · rename_i e l hb
      split at hc
      · rename_i hcond
        obtain ⟨rfl, h1, h2⟩ := hcond
        cases hc
        obtain ⟨ad, cap, rfl, k1, k2, k3⟩ := hv.rep
        rcases Nat.eq_zero_or_pos cap with h0 | h0
        · exact ⟨[], ⟨h1.symm, h2, ad, cap, rfl, k1, k2, .inl ⟨h0, rfl⟩⟩, by simp, by simp⟩
        · obtain ⟨b, sz, j1, rfl, j2⟩ := k3 h0
          rcases h.mutb id e l hb with ⟨hn, _⟩ | ⟨b', cs, p1, ⟨fz, p2, pf⟩, p3, p4, p5, p6⟩
          · rw [hn] at j1; cases j1
          · rw [p1] at j1; cases j1
            refine ⟨[b], ⟨h1.symm, h2, _, cap, rfl, k1, k2, .inr ⟨b, cs, fz, rfl, rfl, p2, pf, by omega, RepAt.mono (MemLe.refl M) _ _ _ (fun j hj => by rw [h2] at hj; cases hj) p3, p5⟩⟩, ?_, by simp⟩
            intro b' hb'
            simp at hb'
            subst hb'
            rw [hC] at p6
            exact ⟨p6.elim (fun h => h) (fun h => by cases h), id, by simp [AV.refs], e, l, _, hb, p1⟩
      · cases hc
    · cases hc
  all_goals
    simp only [closeC] at hc
    split at hc
    · rename_i hr
      cases hc
      first
        | exact hv.rep.elim
        | exact plain hr rfl (by intro e z n l he; cases he)
    · cases hc
theorem closeL_ok (h : Rel C M β s w) (hC : C.ext = []) : ∀ (l l' : List AV) (vs : Array Value) (o : Nat), RepT M β l vs o → (∀ j ∈ refsL l, s.used j) → (refsL l).Nodup → closeL s.box l = some l' →
    l'.length = l.length ∧ ∃ bl, RepCL M w l' vs o bl ∧ bl.Nodup ∧ (∀ b ∈ bl, C.w0.heap.size ≤ b ∧ ∃ id ∈ refsL l, ∃ e l n, s.box id = some (.mut e l) ∧ β id = some (b, n))
  | [], l', vs, o, _, _, _, hc => by simp [closeL] at hc; subst hc; exact ⟨rfl, [], rfl, by simp, by simp⟩
  | v :: l, l', vs, o, ⟨⟨y, h1, h2⟩, h3⟩, hr, hn, hc => by
    simp only [closeL] at hc
    split at hc
    · rename_i b l2 hb hl
      cases hc
      simp only [refsL] at hn
      rw [List.nodup_append] at hn
      obtain ⟨n1, n2, n3⟩ := hn
      obtain ⟨bl1, k1, k2, k3⟩ := close_ok h hC (v := v) (x := y) ⟨h2, fun j hj => hr j (by simp [refsL, hj])⟩ hb
      obtain ⟨e0, bl2, k4, k5, k6⟩ := closeL_ok h hC l l2 vs (o + 1) h3 (fun j hj => hr j (by simp [refsL, hj])) n2 hl
      refine ⟨by simp [e0], bl1 ++ bl2, ⟨y, bl1, bl2, h1, k1, k4, rfl⟩, ?_, ?_⟩
      · rw [List.nodup_append]
        refine ⟨?_, k5, ?_⟩
        · match bl1, k3 with
          | [], _ => simp
          | [b], _ => simp
        · intro b1 hb1 b2 hb2 he
          subst he
          obtain ⟨_, i, hi, e, l3, n, q1, q2⟩ := k2 b1 hb1
          obtain ⟨_, j, hj, e', l4, n', q3, q4⟩ := k6 b1 hb2
          have := h.inj i j e e' l3 l4 b1 n n' q1 q3 q2 q4
          exact n3 i hi j hj this
      · intro b1 hb1
        rcases List.mem_append.1 hb1 with hb1 | hb1
        · obtain ⟨q0, i, hi, q⟩ := k2 b1 hb1
          exact ⟨q0, i, by simp [refsL, hi], q⟩
        · obtain ⟨q0, i, hi, q⟩ := k6 b1 hb1
          exact ⟨q0, i, by simp [refsL, hi], q⟩
    · cases hc
theorem closeV_ok (h : Rel C M β s w) (hC : C.ext = []) {r v : AV} {x : Value} (hr : Ok M β s r x) (hn : r.refs.Nodup) (hc : closeV s.box r = some v) :
    ∃ bl, RepO M w v x bl ∧ bl.Nodup ∧ ∀ b ∈ bl, C.w0.heap.size ≤ b := by
  have one : closeC s.box r = some v → (∀ l, v ≠ .tup l) → ∃ bl, RepO M w v x bl ∧ bl.Nodup ∧ ∀ b ∈ bl, C.w0.heap.size ≤ b := by
    intro h1 h2
    obtain ⟨bl, k1, k2, k3⟩ := close_ok h hC hr h1
    refine ⟨bl, ?_, ?_, fun b hb => (k2 b hb).1⟩
    · cases v with
      | tup l => exact absurd rfl (h2 l)
      | _ => exact k1
    · match bl, k3 with
      | [], _ => simp
      | [b], _ => simp
  cases r with
  | tup l =>
    simp only [closeV] at hc
    cases hl : closeL s.box l with
    | none => simp [hl] at hc
    | some l' =>
      simp [hl] at hc
      subst hc
      obtain ⟨vs, rfl, h1, h2⟩ := hr.rep
      obtain ⟨k0, bl, k1, k2, k3⟩ := closeL_ok h hC l l' vs 0 h2 (fun j hj => hr.ref j (by simpa [AV.refs] using hj)) (by simpa [AV.refs] using hn) hl
      exact ⟨bl, ⟨vs, rfl, by rw [h1, k0], k1⟩, k2, fun b hb => (k3 b hb).1⟩
  | bs id z off n =>
    refine one hc ?_
    intro l hl
    subst hl
    simp only [closeV, closeC] at hc
    split at hc
    · split at hc <;> cases hc
    · cases hc
  | _ =>
    refine one hc ?_
    intro l hl
    subst hl
    simp only [closeV, closeC] at hc
    split at hc <;> cases hc
theorem resOne_ok (h : Rel C M β s w) (hs : Slots nt M β s a) (g : ResultVar → Sem Value) (hg1 : ∀ t, g (.tmp t) = pure (a.tmps.getD t undef)) (hg2 : ∀ c t, g (.cell c t) = (do loadVar t (← asAddr (a.tmps.getD c undef)))) {r : ResultVar} {v : AV} (hr : resOne P s r = some v) :
    ∃ y, (g r).run P w = .ok y w ∧ Ok M β s v y := by
  cases r with
  | tmp t =>
    simp only [resOne, Option.some.injEq] at hr
    subst hr
    exact ⟨_, by rw [hg1]; rfl, val_ok h hs (.tmp t)⟩
  | cell c t =>
    simp only [resOne] at hr
    cases hm : s.mem (s.val (.tmp c)) with
    | none => simp [hm] at hr
    | some l =>
      simp [hm] at hr
      have hv := val_ok h hs (.tmp c)
      obtain ⟨y, h1, h2⟩ := load_ok (P := P) h hv hm hr
      obtain ⟨b, o, cs, ty, fz, hx, _⟩ := mem_ok h hv hm
      have hx' : a.tmps.getD c undef = .pointer (some ⟨b, o, none⟩) := hx
      refine ⟨y, ?_, h2⟩
      rw [hx] at h1
      simp only [Instr.loadAt, Instr.sureAddr, Sem.run_bind, Sem.run_pure, Result.andThen_ok] at h1
      rw [hg2]
      simp only [hx', asAddr, Sem.run_bind, Sem.run_pure, Result.andThen_ok, h1]
theorem resAll_ok (h : Rel C M β s w) (hs : Slots nt M β s a) (g : ResultVar → Sem Value) (hg1 : ∀ t, g (.tmp t) = pure (a.tmps.getD t undef)) (hg2 : ∀ c t, g (.cell c t) = (do loadVar t (← asAddr (a.tmps.getD c undef)))) : ∀ (rs : List ResultVar) (l : List AV), resAll P s rs = some l →
    ∃ vs : List Value, (rs.mapM g).run P w = .ok vs w ∧ vs.length = l.length ∧
      ∀ (i : Nat) (p : AV) (q : Value), l[i]? = some p → vs[i]? = some q → Ok M β s p q
  | [], l, hr => by simp [resAll] at hr; subst hr; exact ⟨[], rfl, rfl, by simp⟩
  | r :: rs, l, hr => by
    simp only [resAll] at hr
    split at hr
    · rename_i v l' hv hl
      cases hr
      obtain ⟨y, h1, h2⟩ := resOne_ok (P := P) h hs g hg1 hg2 hv
      obtain ⟨vs, h3, h4, h5⟩ := resAll_ok h hs g hg1 hg2 rs l' hl
      refine ⟨y :: vs, ?_, by simp [h4], ?_⟩
      · simp only [List.mapM_cons, Sem.run_bind, h1, Result.andThen_ok, h3, Sem.run_pure]
      · intro i p q hp hq
        cases i with
        | zero => simp at hp hq; subst hp; subst hq; exact h2
        | succ i => exact h5 i p q (by simpa using hp) (by simpa using hq)
    · cases hr
theorem results_ok (h : Rel C M β s w) (hs : Slots nt M β s a) {fn : Func} {r : AV} (hr : resAV P s fn.results.toList = some r) :
    ∃ y, (results fn a.tmps).run P w = .ok y w ∧ Ok M β s r y := by
  unfold resAV at hr
  cases hl : resAll P s fn.results.toList with
  | none => simp [hl] at hr
  | some l =>
    simp [hl] at hr
    have hres : ∃ g : ResultVar → Sem Value, (∀ t, g (.tmp t) = pure (a.tmps.getD t undef)) ∧ (∀ c t, g (.cell c t) = (do loadVar t (← asAddr (a.tmps.getD c undef)))) ∧
        results fn a.tmps = (do let vs ← fn.results.mapM g; pure (if h : vs.size = 1 then vs[0] else .tuple vs)) := by
      refine ⟨_, ?_, ?_, rfl⟩
      · intro t; rfl
      · intro c t; rfl
    obtain ⟨g, hg1, hg2, hg3⟩ := hres
    obtain ⟨vs, h1, h2, h3⟩ := resAll_ok (P := P) h hs g hg1 hg2 fn.results.toList l hl
    have hrun : (results fn a.tmps).run P w = .ok (if h : vs.toArray.size = 1 then vs.toArray[0] else .tuple vs.toArray) w := by
      rw [hg3, Array.mapM_eq_mapM_toList]
      simp only [Sem.run_bind, Sem.run_map, Sem.run_pure, h1, Result.andThen_ok]
    refine ⟨_, hrun, ?_⟩
    have htup : Ok M β s (.tup l) (.tuple vs.toArray) := ⟨⟨vs.toArray, rfl, by simp [h2], RepT_of_ok (s := s) h2 h3⟩, fun j hj => by
      simp only [AV.refs] at hj
      obtain ⟨v, hv, hj⟩ := mem_refsL.1 hj
      obtain ⟨i, hi⟩ := List.getElem?_of_mem hv
      have hlt : i < vs.length := by rw [h2]; exact (List.getElem?_eq_some_iff.1 hi).1
      exact (h3 i v vs[i] hi (by rw [List.getElem?_eq_getElem hlt])).ref j hj⟩
    match l, vs, h2, hr, h3, htup with
    | [], [], _, hr, _, htup => simp at hr; subst hr; simpa using htup
    | [p], [q], _, hr, h3, _ => simp at hr; subst hr; simpa using h3 0 p q rfl rfl
    | p :: p' :: l, q :: q' :: vs, _, hr, _, htup =>
      simp at hr; subst hr
      rw [dif_neg (by simp)]
      exact htup
end
end Go.Fw
namespace Go.Fw
open Go Go.RowKit
mutual
def AV.small : AV → Prop
  | .slc _ _ n l => n ≤ 9223372036854775807 ∧ smallL l
  | .ip l => smallL l
  | .agg l => smallL l
  | .tup l => smallL l
  | .fn _ l => smallL l
  | _ => True
def smallL : List AV → Prop
  | [] => True
  | a :: l => a.small ∧ smallL l
end
mutual
theorem Rep.small {M : Mem} {β : Loc} : ∀ (a : AV) (x : Value), Rep M β a x → a.small
  | .v _, _, _ => trivial
  | .slc _ z n l, _, ⟨ad, cap, _, h1, h2, h3, _, _, h4⟩ => ⟨by simp only [maxLen] at h3; omega, by
      rcases Nat.eq_zero_or_pos n with h0 | h0
      · subst h0
        have : l = [] := List.eq_nil_of_length_eq_zero (by simpa using h1)
        subst this
        trivial
      · obtain ⟨b, o, cs, _, _, h5⟩ := h4 h0
        exact RepAt.small l cs o h5⟩
  | .ip l, _, ⟨_, o, cs, _, _, _, h⟩ => RepAt.small l cs o h
  | .bp _ _, _, _ => trivial
  | .bs _ _ _ _, _, _ => trivial
  | .fn _ l, _, ⟨vs, _, _, h⟩ => RepAt.small l vs 0 h
  | .agg l, _, ⟨vs, _, _, h⟩ => RepAt.small l vs 0 h
  | .tup l, _, ⟨vs, _, _, h⟩ => RepT.small l vs 0 h
  | .own _ _ _ _, _, _ => trivial
  | .junk, _, _ => trivial
  | .unk, _, _ => trivial
theorem RepAt.small {M : Mem} {β : Loc} : ∀ (l : List AV) (cs : Array Value) (o : Nat), RepAt M β l cs o → smallL l
  | [], _, _, _ => trivial
  | a :: l, cs, o, ⟨⟨y, _, _, h3⟩, h4⟩ => ⟨Rep.small a y h3, RepAt.small l cs (o + 1) h4⟩
theorem RepT.small {M : Mem} {β : Loc} : ∀ (l : List AV) (cs : Array Value) (o : Nat), RepT M β l cs o → smallL l
  | [], _, _, _ => trivial
  | a :: l, cs, o, ⟨⟨y, _, h3⟩, h4⟩ => ⟨Rep.small a y h3, RepT.small l cs (o + 1) h4⟩
end
def frzS : List Nat → AS → AS
  | [], s => s
  | id :: F, s => frzS F (match s.box id with
    | some (.mut _ l) => { s with box := upd s.box id (some (.frz l)) }
    | _ => s)
def frzOk : List Nat → AS → Prop
  | [], _ => True
  | id :: F, s => (match s.box id with
    | some (.mut _ l) => refsL l = []
    | _ => True) ∧ frzOk F (match s.box id with
    | some (.mut _ l) => { s with box := upd s.box id (some (.frz l)) }
    | _ => s)
def adoptLK (d : Nat) : Nat → List AV → AS → (List AV → AS → Prop) → Prop
  | _, [], s, k => k [] s
  | i, .own e z n l :: r, s, k => ¬ s.used (d + 10000 * i) ∧
      adoptLK d (i + 1) r ⟨s.env, upd s.box (d + 10000 * i) (some (.mut e l)), fun j => j = d + 10000 * i ∨ s.used j⟩ (fun r' s' => k (.bs (d + 10000 * i) z 0 n :: r') s')
  | i, a :: r, s, k => adoptLK d (i + 1) r s (fun r' s' => k (a :: r') s')
def adoptK (d : Nat) : AV → AS → (AV → AS → Prop) → Prop
  | .own e z n l, s, k => ¬ s.used d ∧ k (.bs d z 0 n) ⟨s.env, upd s.box d (some (.mut e l)), fun j => j = d ∨ s.used j⟩
  | .tup l, s, k => adoptLK d 0 l s (fun l' s' => k (.tup l') s')
  | a, s, k => k a s
section
variable {P : Program} {C : Ctx} {M : Mem} {β : Loc} {s : AS} {w : World} {nt : NT} {a : Act} {Q : Exit → AS → Prop}
theorem RepT.mono' {M' : Mem} (hM : MemLe M M') {l : List AV} {vs : Array Value} {o : Nat} {β' : Loc} (hr : refsL l = []) (h : RepT M β l vs o) : RepT M' β' l vs o :=
  RepT.mono hM l vs o (fun j hj => by rw [hr] at hj; cases hj) h
theorem Eval.intro {f : FuncId} {fn : Func} {c : Code} (hf : P.funcs[f]? = some fn) (hb : fn.body = some c) (hent : Enters P f) (args : List AV) (out : Out) (hlen : args.length ≤ fn.ntmps) (hrefs : refsL args = [])
    (h : smallL args → W P fn.ntmps c (entry args) (post P fn out)) : Eval P f args out := by
  refine fun M w vs hM hvs hrep => .inl ⟨hent, ?_⟩
  refine calls_of_wp hf hb ((wpIn_wide (n := 0)).1 ?_)
  have hR : Rel ⟨w, M, [], noLoc⟩ M noLoc (entry args) w :=
    { mem := hM, le := MemLe.refl M, mnew := fun b hb => absurd rfl hb, refB := fun _ _ _ h => (by cases h), useB := fun _ h => absurd rfl h, mutb := fun _ _ _ h => (by cases h), frzb := fun _ _ h => (by cases h), frzr := fun _ _ h => (by cases h), inj := fun _ _ _ _ _ _ _ _ _ h => (by cases h), os := rfl, tape := rfl, output := rfl, size := Nat.le_refl _, keep := fun _ _ _ => rfl, pin := fun _ h => ⟨h, rfl⟩ }
  have hS : Slots fn.ntmps M noLoc (entry args) { tmps := vs ++ Array.replicate (fn.ntmps - vs.size) undef, defers := [] } := by
    refine ⟨rfl, by simp; omega, fun t => ?_, fun t id hid => ?_⟩
    · simp only [entry]
      cases ht : args[t]? with
      | none =>
        have hle : args.length ≤ t := by simpa using ht
        simp only [Option.getD_none]
        have hu : (vs ++ Array.replicate (fn.ntmps - vs.size) undef).getD t undef = undef := by
          rw [Array.getD_eq_getD_getElem?, Array.getElem?_append_right (by omega), Array.getElem?_replicate]
          split <;> rfl
        rw [hu]
        exact ⟨#[], rfl, rfl, trivial⟩
      | some v =>
        simp only [Option.getD_some]
        obtain ⟨y, h1, h2⟩ := (RepT.iff args vs 0).1 hrep t v ht
        simp only [Nat.zero_add] at h1
        have hlt := (Array.getElem?_eq_some_iff.1 h1).1
        rw [Array.getD_eq_getD_getElem?, Array.getElem?_append_left hlt, h1]
        exact h2
    · simp only [entry] at hid
      cases ht : args[t]? with
      | none => rw [ht] at hid; simp [AV.refs, refsL] at hid
      | some v =>
        rw [ht] at hid
        have : id ∈ refsL args := mem_refsL.2 ⟨v, List.mem_of_getElem? ht, hid⟩
        rw [hrefs] at this
        cases this
  refine wpIn_mono (h (RepT.small args vs 0 hrep) _ M noLoc _ w hR hS) ?_
  rintro e a' w' ⟨s', M', β', hp, h1, h2⟩
  have hfin : MemLe M M' ∧ MemOk M' w' ∧ (∀ b, b < w.heap.size → M' b = M b) ∧ Below w.heap.size w w' := by
    refine ⟨h1.le, h1.mem, fun b hb => ?_, h1.os, h1.tape, h1.output, h1.size, fun b hb => h1.keep b hb (by simp)⟩
    by_cases he : M' b = M b
    · exact he
    · rcases h1.mnew b he with h3 | h3
      · exact absurd hb (by simp at h3; omega)
      · cases h3
  have hret : post P fn out .ret s' → bodyPost P fn (fun e w' => ∃ M', MemLe M M' ∧ MemOk M' w' ∧ (∀ b, b < w.heap.size → M' b = M b) ∧ Below w.heap.size w w' ∧ EndO M' w' w.heap.size out e) .ret a' w' := by
    rintro ⟨r, hr, v, hv, rfl, hn⟩
    obtain ⟨y, k1, k2⟩ := results_ok (P := P) h1 h2 hr
    obtain ⟨bl, k3, k4, k5⟩ := closeV_ok h1 rfl (resD_ok h1 r y k2) hn hv
    exact ⟨h2.dfr, y, k1, M', hfin.1, hfin.2.1, hfin.2.2.1, hfin.2.2.2, bl, k3, k4, k5⟩
  cases e with
  | ret => exact hret hp
  | normal => exact hret hp
  | panic l =>
    have : out = .pan l := hp
    subst this
    exact ⟨h2.dfr, M', hfin.1, hfin.2.1, hfin.2.2.1, hfin.2.2.2, rfl⟩
  | exit id => exact hp.elim
  | goto l => exact hp.elim
  | outgrown => exact hp.elim
theorem Rel.call (h : Rel C M β s w) {M' : Mem} {w' : World} (h1 : MemLe M M') (h2 : MemOk M' w') (h3 : ∀ b, b < w.heap.size → M' b = M b) (h4 : Below w.heap.size w w') : Rel C M' β s w' := by
  refine ⟨h2, h.le.trans h1, fun b hb => ?_, h.refB, h.useB, fun i e l hi => ?_, fun i l hi => ?_, h.frzr, h.inj, h4.os.trans h.os, h4.tape.trans h.tape, h4.output.trans h.output, Nat.le_trans h.size h4.size, fun b hb hne => (h4.block b (Nat.lt_of_lt_of_le hb h.size)).trans (h.keep b hb hne), h.pin⟩
  · rcases Nat.lt_or_ge b w.heap.size with hlt | hge
    · rw [h3 b hlt] at hb; exact h.mnew b hb
    · exact .inl (Nat.le_trans h.size hge)
  · rcases h.mutb i e l hi with ⟨k1, k2⟩ | ⟨b, cs, k1, ⟨fz, k2, kf⟩, k3, k4, k5, k6⟩
    · exact .inl ⟨k1, k2⟩
    · exact .inr ⟨b, cs, k1, ⟨fz, (h4.block b (heap_lt k2)).trans k2, kf⟩, RepAt.mono h1 _ _ _ (fun _ _ => rfl) k3, k4, by rw [h3 b (heap_lt k2)]; exact k5, k6⟩
  · rcases h.frzb i l hi with ⟨k1, k2⟩ | ⟨b, cs, k1, k2, k3, k4⟩
    · exact .inl ⟨k1, k2⟩
    · exact .inr ⟨b, cs, k1, h1 b cs k2, RepAt.mono h1 _ _ _ (fun _ _ => rfl) k3, k4⟩
theorem Rel.adopt (h : Rel C M β s w) {id : Nat} (hid : ¬ s.used id) {e : TypeId} {l : List AV} (hr : refsL l = []) {place : Option (Nat × Nat)}
    (hp : (place = none ∧ l = []) ∨ ∃ b cs, place = some (b, cs.size) ∧ (∃ fz, w.heap[b]? = some (.cells cs e fz) ∧ Free cs.size fz) ∧ RepAt M noLoc l cs 0 ∧ l.length ≤ cs.size ∧ M b = none ∧ C.w0.heap.size ≤ b ∧
      ∀ j e' l' n, s.box j = some (.mut e' l') → β j ≠ some (b, n)) :
    Rel C M (upd β id place) ⟨s.env, upd s.box id (some (.mut e l)), fun j => j = id ∨ s.used j⟩ w ∧ ∀ j, s.used j → upd β id place j = β j := by
  have hβ : ∀ j, s.used j → upd β id place j = β j := fun j hj => by
    simp only [upd]
    split
    · rename_i he; subst he; exact absurd hj hid
    · rfl
  have usedOf : ∀ i x, s.box i = some x → s.used i := fun i x hx => h.useB i (by rw [hx]; simp)
  refine ⟨⟨h.mem, h.le, h.mnew, ?_, ?_, ?_, ?_, ?_, ?_, h.os, h.tape, h.output, h.size, h.keep, fun i hi => ⟨.inr (h.pin i hi).1, (hβ i (h.pin i hi).1).trans (h.pin i hi).2⟩⟩, hβ⟩
  · intro i e1 l1 hi j hj
    simp only [upd] at hi
    split at hi
    · simp at hi; obtain ⟨rfl, rfl⟩ := hi; rw [hr] at hj; cases hj
    · exact .inr (h.refB i e1 l1 hi j hj)
  · intro i hi
    simp only [upd] at hi
    split at hi
    · exact .inl (by assumption)
    · exact .inr (h.useB i hi)
  · intro i e1 l1 hi
    by_cases he : i = id
    · subst he
      simp only [upd, if_true] at hi
      simp at hi
      obtain ⟨rfl, rfl⟩ := hi
      rcases hp with ⟨h1, h2⟩ | ⟨b, cs, h1, h2, h3, h4, h5, h6, _⟩
      · exact .inl ⟨by simp [upd, h1], h2⟩
      · exact .inr ⟨b, cs, by simp [upd, h1], h2, RepAt.mono (MemLe.refl M) _ _ _ (fun j hj => by rw [hr] at hj; cases hj) h3, h4, h5, .inl h6⟩
    · simp only [upd, he, if_false] at hi
      rcases h.mutb i e1 l1 hi with ⟨k1, k2⟩ | ⟨b, cs, k1, k2, k3, k4⟩
      · exact .inl ⟨by rw [hβ i (usedOf i _ hi)]; exact k1, k2⟩
      · exact .inr ⟨b, cs, by rw [hβ i (usedOf i _ hi)]; exact k1, k2, RepAt.mono (MemLe.refl M) _ _ _ (fun j hj => hβ j (h.refB i e1 l1 hi j hj)) k3, k4⟩
  · intro i l1 hi
    by_cases he : i = id
    · subst he; simp [upd] at hi
    · simp only [upd, he, if_false] at hi
      rcases h.frzb i l1 hi with ⟨k1, k2⟩ | ⟨b, cs, k1, k2⟩
      · exact .inl ⟨by rw [hβ i (usedOf i _ hi)]; exact k1, k2⟩
      · exact .inr ⟨b, cs, by rw [hβ i (usedOf i _ hi)]; exact k1, k2⟩
  · intro i l1 hi
    by_cases he : i = id
    · subst he; simp [upd] at hi
    · simp only [upd, he, if_false] at hi
      exact h.frzr i l1 hi
  · intro i j e1 e2 l1 l2 b n n' hi hj hbi hbj
    by_cases hid' : i = id <;> by_cases hjd : j = id
    · rw [hid', hjd]
    · exfalso
      subst hid'
      simp only [upd, hjd, if_false] at hj hbj
      simp only [upd, if_true] at hbi
      rcases hp with ⟨h1, _⟩ | ⟨b', cs, h1, _, _, _, _, _, h7⟩
      · rw [h1] at hbi; cases hbi
      · rw [h1] at hbi; cases hbi; exact h7 j e2 l2 n' hj hbj
    · exfalso
      subst hjd
      simp only [upd, hid', if_false] at hi hbi
      simp only [upd, if_true] at hbj
      rcases hp with ⟨h1, _⟩ | ⟨b', cs, h1, _, _, _, _, _, h7⟩
      · rw [h1] at hbj; cases hbj
      · rw [h1] at hbj; cases hbj; exact h7 i e1 l1 n hi hbi
    · simp only [upd, hid', hjd, if_false] at hi hj hbi hbj
      exact h.inj i j e1 e2 l1 l2 b n n' hi hj hbi hbj
theorem own_place {e : TypeId} {z n : Nat} {l : List AV} {x : Value} {bl : List Nat} (h : RepC M w (.own e z n l) x bl) :
    refsL l = [] ∧ ∃ ad cap place, x = .slice ad n cap ∧ n ≤ cap ∧ cap ≤ maxLen ∧ (0 < cap → ∃ b sz, place = some (b, sz) ∧ ad = some ⟨b, 0, none⟩ ∧ 0 + cap * z = sz) ∧
      ((place = none ∧ l = [] ∧ bl = []) ∨ ∃ b cs, bl = [b] ∧ place = some (b, cs.size) ∧ (∃ fz, w.heap[b]? = some (.cells cs e fz) ∧ Free cs.size fz) ∧ RepAt M noLoc l cs 0 ∧ l.length ≤ cs.size ∧ M b = none) := by
  obtain ⟨h1, h2, ad, cap, rfl, h3, h4, h5⟩ := h
  refine ⟨h2, ad, cap, ?_⟩
  rcases h5 with ⟨h0, hb⟩ | ⟨b, cs, fz, hb, rfl, k1, k2, k3, k4, k5⟩
  · subst h0
    have hn : n = 0 := by omega
    subst hn
    exact ⟨none, rfl, h3, h4, fun h => absurd h (by omega), .inl ⟨rfl, List.eq_nil_of_length_eq_zero (by simpa using h1), hb⟩⟩
  · exact ⟨some (b, cs.size), rfl, h3, h4, fun _ => ⟨b, cs.size, rfl, rfl, by omega⟩, .inr ⟨b, cs, hb, rfl, ⟨fz, k1, k2⟩, k4, by rw [h1, k3]; exact Nat.mul_le_mul_right _ h3, k5⟩⟩
theorem adoptL_ok (d : Nat) (K : List AV → AS → Prop) : ∀ (l : List AV) (i : Nat) (s : AS) (β : Loc) (vs : Array Value) (o : Nat) (bl : List Nat) (k : List AV → AS → Prop),
    Rel C M β s w → Slots nt M β s a → RepCL M w l vs o bl → bl.Nodup → (∀ b ∈ bl, C.w0.heap.size ≤ b ∧ ∀ j e l n, s.box j = some (.mut e l) → β j ≠ some (b, n)) → adoptLK d i l s k →
    ∃ l' s' β', k l' s' ∧ Rel C M β' s' w ∧ Slots nt M β' s' a ∧ RepT M β' l' vs o ∧ l'.length = l.length ∧ (∀ j ∈ refsL l', s'.used j) ∧ (∀ j, s.used j → β' j = β j ∧ s'.used j)
  | [], i, s, β, vs, o, bl, k, hR, hS, _, _, _, hk => ⟨[], s, β, hk, hR, hS, trivial, rfl, by simp [refsL], fun j hj => ⟨rfl, hj⟩⟩
  | v :: r, i, s, β, vs, o, bl, k, hR, hS, ⟨y, b1, b2, hy, hv, hr, hbl⟩, hn, hb, hk => by
    subst hbl
    rw [List.nodup_append] at hn
    obtain ⟨n1, n2, n3⟩ := hn
    have plain : adoptLK d (i + 1) r s (fun r' s' => k (v :: r') s') → Rep M noLoc v y → v.refs = [] →
        ∃ l' s' β', k l' s' ∧ Rel C M β' s' w ∧ Slots nt M β' s' a ∧ RepT M β' l' vs o ∧ l'.length = (v :: r).length ∧ (∀ j ∈ refsL l', s'.used j) ∧ (∀ j, s.used j → β' j = β j ∧ s'.used j) := by
      intro hk hv1 hv2
      obtain ⟨l', s', β', q1, q2, q3, q4, q5, q6, q7⟩ := adoptL_ok d K r (i + 1) s β vs (o + 1) b2 _ hR hS hr n2 (fun b hb2 => hb b (by simp [hb2])) hk
      exact ⟨v :: l', s', β', q1, q2, q3, ⟨⟨y, hy, noRefs_rep hv1 hv2 β'⟩, q4⟩, by simp [q5], fun j hj => by simp only [refsL, hv2, List.nil_append] at hj; exact q6 j hj, q7⟩
    cases v with
    | own e z n l =>
      simp only [adoptLK] at hk
      obtain ⟨hfr, hk⟩ := hk
      obtain ⟨p1, ad, cap, place, rfl, p2, p3, p4, p5⟩ := own_place hv
      obtain ⟨r1, r2⟩ := hR.adopt (e := e) (l := l) hfr p1 (place := place) (by
        rcases p5 with ⟨q1, q2, _⟩ | ⟨b, cs, q0, q1, q2, q3, q4, q5⟩
        · exact .inl ⟨q1, q2⟩
        · have hbb := hb b (by simp [q0])
          exact .inr ⟨b, cs, q1, q2, q3, q4, q5, hbb.1, hbb.2⟩)
      have hS1 : Slots nt M (upd β (d + 10000 * i) place) ⟨s.env, upd s.box (d + 10000 * i) (some (.mut e l)), fun j => j = d + 10000 * i ∨ s.used j⟩ a := hS.later (MemLe.refl M) r2 rfl (fun _ h => .inr h)
      obtain ⟨l', s', β', q1, q2, q3, q4, q5, q6, q7⟩ := adoptL_ok d K r (i + 1) _ _ vs (o + 1) b2 _ r1 hS1 hr n2 (fun b hb2 => ⟨(hb b (by simp [hb2])).1, fun j e' l'' n' hj hbj => by
          simp only [upd] at hj hbj
          split at hj
          · rename_i he
            rw [if_pos he] at hbj
            rcases p5 with ⟨q1, _⟩ | ⟨b', cs, q0, q1, _⟩
            · rw [q1] at hbj; cases hbj
            · rw [q1] at hbj; cases hbj
              exact n3 b (by simp [q0]) b hb2 rfl
          · rename_i he
            rw [if_neg he] at hbj
            exact (hb b (by simp [hb2])).2 j e' l'' n' hj hbj⟩) hk
      refine ⟨.bs (d + 10000 * i) z 0 n :: l', s', β', q1, q2, q3, ⟨⟨_, hy, ad, cap, rfl, p2, p3, fun hc => ?_⟩, q4⟩, by simp [q5], fun j hj => ?_, fun j hj => ?_⟩
      · obtain ⟨b, sz, t1, t2, t3⟩ := p4 hc
        refine ⟨b, sz, ?_, t2, t3⟩
        rw [(q7 (d + 10000 * i) (.inl rfl)).1]
        simp [upd, t1]
      · simp only [refsL, AV.refs, List.cons_append, List.nil_append, List.mem_cons] at hj
        rcases hj with hj | hj
        · subst hj; exact (q7 _ (.inl rfl)).2
        · exact q6 j hj
      · obtain ⟨t1, t2⟩ := q7 j (.inr hj)
        exact ⟨t1.trans (r2 j hj), t2⟩
    | _ =>
      simp only [adoptLK] at hk
      exact plain hk hv.1 hv.2.1
theorem frzS_ok : ∀ (F : List Nat) (s : AS) (M : Mem), frzOk F s → Rel C M β s w → Slots nt M β s a → ∃ M', MemLe M M' ∧ Rel C M' β (frzS F s) w ∧ Slots nt M' β (frzS F s) a ∧ (frzS F s).used = s.used
  | [], s, M, _, hR, hS => ⟨M, MemLe.refl M, hR, hS, rfl⟩
  | id :: F, s, M, hF, hR, hS => by
    obtain ⟨h1, h2⟩ := hF
    simp only [frzS]
    cases hb : s.box id with
    | none =>
      rw [hb] at h2
      exact frzS_ok F s M h2 hR hS
    | some B =>
      rw [hb] at h1 h2
      cases B with
      | frz l => exact frzS_ok F s M h2 hR hS
      | _ =>
        rename_i e l
        obtain ⟨M1, k1, k2⟩ := hR.freeze hb h1
        obtain ⟨M2, k3, k4, k5, k6⟩ := frzS_ok F _ M1 h2 k2 (hS.later k1 (fun _ _ => rfl) rfl (fun _ h => h))
        exact ⟨M2, k1.trans k3, k4, k5, k6⟩
theorem CallV.pure {f : FuncId} {args : List AV} {K : Out → AS → Prop} (d : Nat) {out : Out} (hev : Eval P f (resDL (frzS (refsL args) s).box args) out) (hfr : frzOk (refsL args) s)
    (hrefs : refsL (resDL (frzS (refsL args) s).box args) = [])
    (hK : match (generalizing := false) out with
      | .ret v => adoptK d v (frzS (refsL args) s) (fun v' s' => K (.ret v') s')
      | .pan l => K (.pan l) (frzS (refsL args) s)) : CallV P f args s K := by
  refine fun C nt M β a w vs hR hS hvs hrep => ?_
  obtain ⟨M1, m1, hR1, hS1, hu⟩ := frzS_ok (C := C) (β := β) (w := w) (nt := nt) (a := a) (refsL args) s M hfr hR hS
  have hrep1 : RepT M1 β (resDL (frzS (refsL args) s).box args) vs 0 := by
    have hT : Rel C M1 β ⟨(frzS (refsL args) s).env, (frzS (refsL args) s).box, fun _ => True⟩ w := { hR1 with refB := fun _ _ _ _ _ _ => trivial, useB := fun _ _ => trivial, pin := fun i hi => ⟨trivial, (hR1.pin i hi).2⟩ }
    exact (resDL_t hT args vs 0 (RepT.mono m1 _ _ _ (fun _ _ => rfl) hrep) (fun _ _ => trivial)).1
  refine Ends.mono (hev M1 w vs hR1.mem (by rw [resDL_length]; exact hvs) (RepT.mono' (MemLe.refl M1) hrefs hrep1)) ?_
  rintro e w' ⟨M', q1, q2, q3, q4, q5⟩
  have hR2 := hR1.call q1 q2 q3 q4
  have hS2 : Slots nt M' β (frzS (refsL args) s) a := hS1.later q1 (fun _ _ => rfl) rfl (fun _ h => h)
  cases out with
  | pan l =>
    cases e with
    | panicked l' => obtain rfl : l' = l := q5; exact ⟨.pan l', _, M', β, hK, hR2, hS2, rfl⟩
    | returned x => exact q5.elim
    | outgrown => exact q5.elim
  | ret v =>
    cases e with
    | panicked l' => exact q5.elim
    | outgrown => exact q5.elim
    | returned x =>
      obtain ⟨bl, b1, b2, b3⟩ := q5
      have fresh : ∀ b ∈ bl, C.w0.heap.size ≤ b ∧ ∀ j e l n, (frzS (refsL args) s).box j = some (.mut e l) → β j ≠ some (b, n) := by
        intro b hb
        refine ⟨Nat.le_trans hR1.size (b3 b hb), fun j e l n hj hbj => ?_⟩
        rcases hR1.mutb j e l hj with ⟨hn, _⟩ | ⟨b', cs, k1, ⟨fz, k2, _⟩, _⟩
        · rw [hn] at hbj; cases hbj
        · rw [k1] at hbj; cases hbj
          have := heap_lt k2
          have := b3 b hb
          omega
      have plain : K (.ret v) (frzS (refsL args) s) → RepC M' w' v x bl → (∀ e z n l, v ≠ .own e z n l) → ∃ out s' M'' β', K out s' ∧ Rel C M'' β' s' w' ∧ Slots nt M'' β' s' a ∧ EndRep M'' β' s' out (.returned x) := by
        intro hk hv hne
        refine ⟨.ret v, _, M', β, hk, hR2, hS2, ?_⟩
        cases v with
        | own e z n l => exact absurd rfl (hne e z n l)
        | _ => exact ⟨noRefs_rep hv.1 hv.2.1 β, fun j hj => by rw [hv.2.1] at hj; cases hj⟩
      cases v with
      | tup l =>
        obtain ⟨vs', rfl, c1, c2⟩ := b1
        obtain ⟨l', s', β', t1, t2, t3, t4, t5, t6, _⟩ := adoptL_ok d (fun _ _ => True) l 0 _ β vs' 0 bl _ hR2 hS2 c2 b2 fresh hK
        exact ⟨.ret (.tup l'), s', M', β', t1, t2, t3, ⟨vs', rfl, by rw [c1, t5], t4⟩, fun j hj => t6 j (by simpa [AV.refs] using hj)⟩
      | own e z n l =>
        obtain ⟨hfrs, hk⟩ := hK
        have hbl : RepCL M' w' [.own e z n l] #[x] 0 bl := ⟨x, bl, [], rfl, b1, rfl, by simp⟩
        obtain ⟨l', s', β', t1, t2, t3, t4, t5, t6, _⟩ := adoptL_ok d (fun _ _ => True) [.own e z n l] 0 _ β #[x] 0 bl (fun l' s' => match l' with | [v'] => K (.ret v') s' | _ => False) hR2 hS2 hbl b2 fresh ⟨by simpa using hfrs, by simpa [adoptLK] using hk⟩
        match l', t1, t4, t6 with
        | [v'], t1, ⟨⟨y, h1, h2⟩, _⟩, t6 =>
          simp at h1
          subst h1
          exact ⟨.ret v', s', M', β', t1, t2, t3, h2, fun j hj => t6 j (by simp [refsL, hj])⟩
      | _ => exact plain hK b1 (by intro e z n l he; cases he)
end
end Go.Fw
namespace Go.Fw
open Go Go.RowKit
section
variable {P : Program} {C : Ctx} {M : Mem} {β : Loc} {s : AS} {w : World} {nt : NT} {a : Act} {Q : Exit → AS → Prop}
theorem W_join {x y : Code} {X : Type} (env : X → List (Nat × AV)) (box : X → List (Nat × Box)) (I : X → Prop)
    (hx : W P nt x s (fun e s' => match e with
      | .normal => ∃ p, I p ∧ ∃ ρ, Wk s' (env p) (box p) ρ
      | e => Q e s'))
    (hy : ∀ p, I p → W P nt y (mkS (env p) (box p)) Q) : W P nt (.seq x y) s Q := by
  refine W_seq (W_mono hx fun e s' h => ?_)
  cases e with
  | normal =>
    obtain ⟨p, hp, ρ, hw⟩ := h
    exact W_wk _ _ ρ hw (hy p hp)
  | _ => exact h
end
theorem strOf_map (l : List UInt8) : strOf (l.map byteV) = ⟨l.toArray⟩ := by simp [strOf, Function.comp_def, byteV, AV.byte]
theorem take_byteV (l : List UInt8) (m : Nat) : (l.map byteV).take m = (l.take m).map byteV := by rw [List.map_take]
theorem drop_byteV (l : List UInt8) (m : Nat) : (l.map byteV).drop m = (l.drop m).map byteV := by rw [List.map_drop]
theorem all_isByte (l : List UInt8) : (l.map byteV).all AV.isByte = true := by simp [List.all_eq_true, byteV, AV.isByte]
@[congr] theorem optK_congr {α : Type} {x y : Option α} {k : α → Prop} (h : x = y) : optK x k = optK y k := by rw [h]
@[congr] theorem CallG_congr {P : Program} {f f' : AV} {l l' : List AV} {s : AS} {K : Out → AS → Prop} (h : f = f') (h2 : l = l') : CallG P f l s K = CallG P f' l' s K := by rw [h, h2]
@[congr] theorem CallV_congr {P : Program} {f : FuncId} {l l' : List AV} {s : AS} {K : Out → AS → Prop} (h2 : l = l') : CallV P f l s K = CallV P f l' s K := by rw [h2]
theorem gOn_none (ops : List Oper) (o : Oper) (s : AS) (h : o.guard = none) : gOn ops o s = some true := by simp [gOn, h]
@[simp] theorem isByte_u8 (n : Int) : (AV.v (.int .u8 n)).isByte = true := rfl
@[simp] theorem byteV_isCell (c : UInt8) : (byteV c).isCell = true := rfl
@[simp] theorem refsL_bytes (l : List UInt8) : refsL (l.map byteV) = [] := by
  induction l with
  | nil => rfl
  | cons a l ih => simp [refsL, AV.refs, byteV, ih]
@[simp] theorem refsL_nil : refsL [] = [] := rfl
@[simp] theorem refsL_append (l l' : List AV) : refsL (l ++ l') = refsL l ++ refsL l' := by
  induction l with
  | nil => rfl
  | cons a l ih => simp [refsL, ih]
@[simp] theorem refsL_cons (a : AV) (l : List AV) : refsL (a :: l) = a.refs ++ refsL l := rfl
@[simp] theorem byteV_refs (c : UInt8) : (byteV c).refs = [] := rfl
end Go.Fw
namespace Go.Fw
open Go Go.RowKit
def postB (P : Program) (fn : Func) (Q : Out → AS → Prop) : Exit → AS → Prop
  | .normal, s | .ret, s => optK (resAV P s fn.results.toList) fun r => Q (.ret (resD s.box r)) s
  | .panic l, s => Q (.pan l) s
  | _, _ => False
def entryB (args : List AV) (box : List (Nat × Box)) : AS := ⟨fun t => (args[t]?).getD (.tup []), lk box, fun i => 1000000 ≤ i⟩
def WB (P : Program) (f : FuncId) (args : List AV) (box : List (Nat × Box)) (Q : Out → AS → Prop) : Prop :=
  ∃ fn c, P.funcs[f]? = some fn ∧ fn.body = some c ∧ Enters P f ∧ args.length ≤ fn.ntmps ∧ W P fn.ntmps c (entryB args box) (postB P fn Q)
def back (s : AS) (F : List Nat) (T : List (Nat × Box)) : AS :=
  ⟨s.env, fun i => match lk T i with
    | some B => some B
    | none => if F.contains i = true then none else s.box i, fun i => i ∈ T.map (·.1) ∨ s.used i⟩
section
variable {P : Program} {C : Ctx} {M : Mem} {β : Loc} {s : AS} {w : World} {nt : NT} {a : Act} {Q : Exit → AS → Prop}
def extOf (β : Loc) (ρ : Nat → Nat) (box : List (Nat × Box)) : List Nat :=
  box.filterMap fun p => match p.2 with
    | .mut _ _ => (β (ρ p.1)).map (·.1)
    | .frz _ => none
theorem extOf_mem {β : Loc} {ρ : Nat → Nat} {box : List (Nat × Box)} {b : Nat} (h : b ∈ extOf β ρ box) : ∃ p ∈ box, ∃ e l n, p.2 = .mut e l ∧ β (ρ p.1) = some (b, n) := by
  unfold extOf at h
  rw [List.mem_filterMap] at h
  obtain ⟨p, hp, h⟩ := h
  refine ⟨p, hp, ?_⟩
  split at h
  · rename_i e l he
    cases hx : β (ρ p.1) with
    | none => rw [hx] at h; cases h
    | some x =>
      rw [hx] at h
      obtain ⟨b', n⟩ := x
      simp at h
      subst h
      exact ⟨e, l, n, he, rfl⟩
  · cases h
theorem mem_extOf {β : Loc} {ρ : Nat → Nat} {box : List (Nat × Box)} {p : Nat × Box} (hp : p ∈ box) {e : TypeId} {l : List AV} (he : p.2 = .mut e l) {b n : Nat} (hb : β (ρ p.1) = some (b, n)) : b ∈ extOf β ρ box := by
  unfold extOf
  rw [List.mem_filterMap]
  exact ⟨p, hp, by rw [he]; simp [hb]⟩
theorem CallV.boxes {f : FuncId} {args : List AV} {K : Out → AS → Prop} {Q : Out → AS → Prop} (args' : List AV) (box' : List (Nat × Box)) (ρ : Nat → Nat) (hargs : args = renL ρ args')
    (hb : ∀ p ∈ box', 1000000 ≤ p.1 ∧ s.box (ρ p.1) = some (renBox ρ p.2)) (hinj : ∀ p ∈ box', ∀ q ∈ box', ρ p.1 = ρ q.1 → p.1 = q.1)
    (hrefA : ∀ i ∈ refsL args', i ∈ box'.map (·.1)) (hrefB : ∀ p ∈ box', ∀ i ∈ p.2.refs, i ∈ box'.map (·.1))
    (hW : WB P f args' box' Q)
    (hK : ∀ out s', Q out s' → ∃ (T : List (Nat × Box)) (τ : Nat → Nat),
      (∀ p ∈ T, s'.box (τ p.1) = some (renBox τ p.2)) ∧ (∀ p ∈ T, ∀ q ∈ T, τ p.1 = τ q.1 → p.1 = q.1) ∧ (∀ p ∈ T, ∀ i ∈ p.2.refs, i ∈ T.map (·.1)) ∧
      (∀ p ∈ T, s.used p.1 → 1000000 ≤ τ p.1 ∧ ρ (τ p.1) = p.1) ∧
      (match out with
      | .ret v => ∃ v', v = ren τ v' ∧ (∀ i ∈ v'.refs, i ∈ T.map (·.1)) ∧ K (.ret v') (back s (box'.map fun p => ρ p.1) T)
      | .pan l => K (.pan l) (back s (box'.map fun p => ρ p.1) T))) : CallV P f args s K := by
  obtain ⟨fn, c, hf, hbd, hent, hlen, hW⟩ := hW
  intro C nt M β a w vs hR hS hvs hrep
  refine .inl ⟨hent, calls_of_wp hf hbd ((wpIn_wide (n := 0)).1 ?_)⟩
  subst hargs
  have hrep' := repT_ren ρ args' vs 0 hrep
  rw [renL_length] at hvs
  have big : ∀ i ∈ box'.map (·.1), 1000000 ≤ i := fun i hi => by
    obtain ⟨p, hp, rfl⟩ := List.mem_map.1 hi
    exact (hb p hp).1
  have ext1 : ∀ b ∈ extOf β ρ box', M b = none ∧ (C.w0.heap.size ≤ b ∨ b ∈ C.ext) ∧ b < w.heap.size := by
    intro b hbe
    obtain ⟨p, hp, e, l, n, he, hbp⟩ := extOf_mem hbe
    have h1 := (hb p hp).2
    rw [he] at h1
    rcases hR.mutb _ _ _ h1 with ⟨k1, _⟩ | ⟨b', cs, k1, ⟨fz, k2, _⟩, _, _, k5, k6⟩
    · rw [k1] at hbp; cases hbp
    · rw [k1] at hbp; cases hbp; exact ⟨k5, k6, heap_lt k2⟩
  have hR' : Rel ⟨w, M, extOf β ρ box', fun i => β (ρ i)⟩ M (fun i => β (ρ i)) (entryB args' box') w := by
    refine { mem := hR.mem, le := MemLe.refl M, mnew := fun b hb => absurd rfl hb, refB := ?_, useB := ?_, mutb := ?_, frzb := ?_, frzr := ?_, inj := ?_, os := rfl, tape := rfl, output := rfl, size := Nat.le_refl _, keep := fun _ _ _ => rfl, pin := fun _ h => ⟨h, rfl⟩ }
    · intro i e l hi j hj
      exact big j (hrefB _ (lk_mem hi) j hj)
    · intro i hi
      simp only [entryB] at hi ⊢
      cases hx : lk box' i with
      | none => exact absurd hx hi
      | some B => exact big i (List.mem_map.2 ⟨_, lk_mem hx, rfl⟩)
    · intro i e l hi
      have hm := lk_mem hi
      rcases hR.mutb _ _ _ (hb _ hm).2 with ⟨k1, k2⟩ | ⟨b, cs, k1, k2, k3, k4, k5, k6⟩
      · refine .inl ⟨k1, ?_⟩
        cases l with
        | nil => rfl
        | cons => simp [renL] at k2
      · exact .inr ⟨b, cs, k1, k2, repAt_ren ρ l cs 0 k3, by rw [renL_length] at k4; exact k4, k5, .inr (mem_extOf hm rfl k1)⟩
    · intro i l hi
      exact hR.frzb _ l (hb _ (lk_mem hi)).2
    · intro i l hi
      exact hR.frzr _ l (hb _ (lk_mem hi)).2
    · intro i j e e' l l' b n n' hi hj hbi hbj
      exact hinj _ (lk_mem hi) _ (lk_mem hj) (hR.inj _ _ _ _ _ _ b n n' (hb _ (lk_mem hi)).2 (hb _ (lk_mem hj)).2 hbi hbj)
  have hS' : Slots fn.ntmps M (fun i => β (ρ i)) (entryB args' box') { tmps := vs ++ Array.replicate (fn.ntmps - vs.size) undef, defers := [] } := by
    refine ⟨rfl, by simp; omega, fun t => ?_, fun t id hid => ?_⟩
    · simp only [entryB]
      cases ht : args'[t]? with
      | none =>
        have hle : args'.length ≤ t := by simpa using ht
        simp only [Option.getD_none]
        have hu : (vs ++ Array.replicate (fn.ntmps - vs.size) undef).getD t undef = undef := by
          rw [Array.getD_eq_getD_getElem?, Array.getElem?_append_right (by omega), Array.getElem?_replicate]
          split <;> rfl
        rw [hu]
        exact ⟨#[], rfl, rfl, trivial⟩
      | some v =>
        simp only [Option.getD_some]
        obtain ⟨y, h1, h2⟩ := (RepT.iff args' vs 0).1 hrep' t v ht
        simp only [Nat.zero_add] at h1
        have hlt := (Array.getElem?_eq_some_iff.1 h1).1
        rw [Array.getD_eq_getD_getElem?, Array.getElem?_append_left hlt, h1]
        exact h2
    · simp only [entryB] at hid ⊢
      cases ht : args'[t]? with
      | none => rw [ht] at hid; simp [AV.refs, refsL] at hid
      | some v =>
        rw [ht] at hid
        exact big _ (hrefA _ (mem_refsL.2 ⟨v, List.mem_of_getElem? ht, hid⟩))
  refine wpIn_mono (hW _ M _ _ w hR' hS') ?_
  rintro e a' w' ⟨s', M', β', hp, h1, h2⟩
  -- back in the caller
  have fin : ∀ (T : List (Nat × Box)) (τ : Nat → Nat), (∀ p ∈ T, s'.box (τ p.1) = some (renBox τ p.2)) → (∀ p ∈ T, ∀ q ∈ T, τ p.1 = τ q.1 → p.1 = q.1) → (∀ p ∈ T, ∀ i ∈ p.2.refs, i ∈ T.map (·.1)) →
      (∀ p ∈ T, s.used p.1 → 1000000 ≤ τ p.1 ∧ ρ (τ p.1) = p.1) →
      Rel C M' (fun i => if i ∈ T.map (·.1) then β' (τ i) else β i) (back s (box'.map fun p => ρ p.1) T) w' ∧ Slots nt M' (fun i => if i ∈ T.map (·.1) then β' (τ i) else β i) (back s (box'.map fun p => ρ p.1) T) a := by
    intro T τ t1 t2 t3 t4
    have hβu : ∀ i, s.used i → (fun i => if i ∈ T.map (·.1) then β' (τ i) else β i) i = β i := by
      intro i hi
      simp only
      split
      · rename_i hm
        obtain ⟨p, hp, rfl⟩ := List.mem_map.1 hm
        obtain ⟨k1, k2⟩ := t4 p hp hi
        rw [(h1.pin _ k1).2]
        simp only [k2]
      · rfl
    have hβt : ∀ i, i ∈ T.map (·.1) → (fun i => if i ∈ T.map (·.1) then β' (τ i) else β i) i = β' (τ i) := fun i hi => by simp only [if_pos hi]
    have lkT : ∀ i B, lk T i = some B → i ∈ T.map (·.1) := fun i B hi => List.mem_map.2 ⟨_, lk_mem hi, rfl⟩
    have split_box : ∀ i B, (back s (box'.map fun p => ρ p.1) T).box i = some B → lk T i = some B ∨ (lk T i = none ∧ i ∉ (box'.map fun p => ρ p.1) ∧ s.box i = some B) := by
      intro i B hi
      simp only [back] at hi
      cases hx : lk T i with
      | some B' => rw [hx] at hi; exact .inl hi
      | none =>
        rw [hx] at hi
        simp only at hi
        split at hi
        · cases hi
        · rename_i hc
          exact .inr ⟨rfl, by simpa using hc, hi⟩
    have usedOf : ∀ i B, s.box i = some B → s.used i := fun i B hi => hR.useB i (by rw [hi]; simp)
    -- a box of the caller's that was not handed over
    have other : ∀ i e l b n, i ∉ (box'.map fun p => ρ p.1) → s.box i = some (.mut e l) → β i = some (b, n) → b < w.heap.size ∧ b ∉ extOf β ρ box' := by
      intro i e l b n hi hbx hbi
      refine ⟨?_, fun hbe => ?_⟩
      · rcases hR.mutb i e l hbx with ⟨k1, _⟩ | ⟨b', cs, k1, ⟨fz, k2, _⟩, _⟩
        · rw [k1] at hbi; cases hbi
        · rw [k1] at hbi; cases hbi; exact heap_lt k2
      · obtain ⟨p, hp, e', l', n', he, hbp⟩ := extOf_mem hbe
        have h3 := (hb p hp).2
        rw [he] at h3
        have := hR.inj _ _ _ _ _ _ b n n' hbx h3 hbi hbp
        exact hi (by rw [this]; exact List.mem_map.2 ⟨p, hp, rfl⟩)
    have mutT : ∀ i e l, lk T i = some (.mut e l) → s'.box (τ i) = some (.mut e (renL τ l)) := fun i e l hi => t1 _ (lk_mem hi)
    refine ⟨{ mem := h1.mem, le := hR.le.trans h1.le, mnew := ?_, refB := ?_, useB := ?_, mutb := ?_, frzb := ?_, frzr := ?_, inj := ?_, os := h1.os.trans hR.os, tape := h1.tape.trans hR.tape, output := h1.output.trans hR.output, size := Nat.le_trans hR.size h1.size, keep := ?_, pin := ?_ }, ⟨hS.dfr, hS.size, fun t => ?_, fun t i hi => .inr (hS.refE t i hi)⟩⟩
    · intro b hbn
      by_cases he : M' b = M b
      · rw [he] at hbn; exact hR.mnew b hbn
      · rcases h1.mnew b he with k | k
        · exact .inl (Nat.le_trans hR.size k)
        · exact (ext1 b k).2.1
    · intro i e l hi j hj
      rcases split_box i _ hi with k | ⟨_, _, k⟩
      · exact .inl (t3 _ (lk_mem k) j hj)
      · exact .inr (hR.refB i e l k j hj)
    · intro i hi
      cases hx : (back s (box'.map fun p => ρ p.1) T).box i with
      | none => exact absurd hx hi
      | some B =>
        rcases split_box i _ hx with k | ⟨_, _, k⟩
        · exact .inl (lkT i _ k)
        · exact .inr (usedOf i _ k)
    · intro i e l hi
      rcases split_box i _ hi with k | ⟨k0, k1, k⟩
      · have hm := lkT i _ k
        rcases h1.mutb _ _ _ (mutT i e l k) with ⟨q1, q2⟩ | ⟨b, cs, q1, q2, q3, q4, q5, q6⟩
        · refine .inl ⟨by rw [hβt i hm]; exact q1, ?_⟩
          cases l with
          | nil => rfl
          | cons => simp [renL] at q2
        · refine .inr ⟨b, cs, by rw [hβt i hm]; exact q1, q2, RepAt.mono (MemLe.refl M') _ _ _ (fun j hj => hβt j (t3 _ (lk_mem k) j hj)) (repAt_ren τ l cs 0 q3), by rw [renL_length] at q4; exact q4, q5, ?_⟩
          rcases q6 with q6 | q6
          · exact .inl (Nat.le_trans hR.size q6)
          · exact (ext1 b q6).2.1
      · have hu := usedOf i _ k
        rcases hR.mutb i e l k with ⟨q1, q2⟩ | ⟨b, cs, q1, ⟨fz, q2, qf⟩, q3, q4, q5, q6⟩
        · exact .inl ⟨by rw [hβu i hu]; exact q1, q2⟩
        · obtain ⟨o1, o2⟩ := other i e l b _ k1 k q1
          refine .inr ⟨b, cs, by rw [hβu i hu]; exact q1, ⟨fz, by rw [h1.keep b o1 o2]; exact q2, qf⟩, RepAt.mono h1.le _ _ _ (fun j hj => hβu j (hR.refB i e l k j hj)) q3, q4, ?_, q6⟩
          by_cases he : M' b = M b
          · rw [he]; exact q5
          · rcases h1.mnew b he with k2 | k2
            · simp only at k2; omega
            · exact absurd k2 o2
    · intro i l hi
      rcases split_box i _ hi with k | ⟨k0, k1, k⟩
      · have hm := lkT i _ k
        rcases h1.frzb _ _ (t1 _ (lk_mem k)) with ⟨q1, q2⟩ | ⟨b, cs, q1, q2⟩
        · exact .inl ⟨by rw [hβt i hm]; exact q1, q2⟩
        · exact .inr ⟨b, cs, by rw [hβt i hm]; exact q1, q2⟩
      · have hu := usedOf i _ k
        rcases hR.frzb i l k with ⟨q1, q2⟩ | ⟨b, cs, q1, q2, q3, q4⟩
        · exact .inl ⟨by rw [hβu i hu]; exact q1, q2⟩
        · exact .inr ⟨b, cs, by rw [hβu i hu]; exact q1, h1.le b cs q2, RepAt.mono h1.le _ _ _ (fun _ _ => rfl) q3, q4⟩
    · intro i l hi
      rcases split_box i _ hi with k | ⟨k0, k1, k⟩
      · exact h1.frzr _ _ (t1 _ (lk_mem k))
      · exact hR.frzr i l k
    · intro i j e e' l l' b n n' hi hj hbi hbj
      have mixed : ∀ i j e e' l l' b n n', lk T i = some (.mut e l) → (lk T j = none ∧ j ∉ (box'.map fun p => ρ p.1) ∧ s.box j = some (.mut e' l')) → β' (τ i) = some (b, n) → β j = some (b, n') → False := by
        intro i j e e' l l' b n n' hi ⟨_, hj1, hj2⟩ hbi hbj
        obtain ⟨o1, o2⟩ := other j e' l' b n' hj1 hj2 hbj
        rcases h1.mutb _ _ _ (mutT i e l hi) with ⟨q1, _⟩ | ⟨b', cs, q1, _, _, _, _, q6⟩
        · rw [q1] at hbi; cases hbi
        · rw [q1] at hbi; cases hbi
          rcases q6 with q6 | q6
          · simp only at q6; omega
          · exact o2 q6
      rcases split_box i _ hi with ki | ki <;> rcases split_box j _ hj with kj | kj
      · replace hbi := (hβt i (lkT i _ ki)).symm.trans hbi
        replace hbj := (hβt j (lkT j _ kj)).symm.trans hbj
        exact t2 _ (lk_mem ki) _ (lk_mem kj) (h1.inj _ _ _ _ _ _ b n n' (mutT i e l ki) (mutT j e' l' kj) hbi hbj)
      · replace hbi := (hβt i (lkT i _ ki)).symm.trans hbi
        replace hbj := (hβu j (usedOf j _ kj.2.2)).symm.trans hbj
        exact (mixed i j e e' l l' b n n' ki kj hbi hbj).elim
      · replace hbi := (hβu i (usedOf i _ ki.2.2)).symm.trans hbi
        replace hbj := (hβt j (lkT j _ kj)).symm.trans hbj
        exact (mixed j i e' e l' l b n' n kj ki hbj hbi).elim
      · replace hbi := (hβu i (usedOf i _ ki.2.2)).symm.trans hbi
        replace hbj := (hβu j (usedOf j _ kj.2.2)).symm.trans hbj
        exact hR.inj i j e e' l l' b n n' ki.2.2 kj.2.2 hbi hbj
    · intro b hb1 hb2
      have hlt : b < w.heap.size := Nat.lt_of_lt_of_le hb1 hR.size
      rw [h1.keep b hlt (fun hbe => by
        rcases (ext1 b hbe).2.1 with k | k
        · omega
        · exact hb2 k)]
      exact hR.keep b hb1 hb2
    · intro i hi
      have hu := (hR.pin i hi).1
      exact ⟨.inr hu, (hβu i hu).trans (hR.pin i hi).2⟩
    · exact Rep.mono h1.le _ _ (fun j hj => hβu j (hS.refE t j hj)) (hS.slot t)
  have hret : postB P fn Q .ret s' → bodyPost P fn (fun e w' => ∃ out s' M' β', K out s' ∧ Rel C M' β' s' w' ∧ Slots nt M' β' s' a ∧ EndRep M' β' s' out e) .ret a' w' := by
    rintro ⟨r, hr, hq⟩
    obtain ⟨y, k1, k2⟩ := results_ok (P := P) h1 h2 hr
    obtain ⟨T, τ, t1, t2, t3, t4, v', hv, t5, hk⟩ := hK _ _ hq
    obtain ⟨f1, f2⟩ := fin T τ t1 t2 t3 t4
    refine ⟨h2.dfr, y, k1, .ret v', _, M', _, hk, f1, f2, ?_, fun i hi => .inl (t5 i hi)⟩
    have h3 := (resD_ok h1 r y k2).rep
    rw [hv] at h3
    exact Rep.mono (MemLe.refl M') _ _ (fun i hi => by simp only [if_pos (t5 i hi)]) (rep_ren τ v' y h3)
  cases e with
  | ret => exact hret hp
  | normal => exact hret hp
  | panic l =>
    obtain ⟨T, τ, t1, t2, t3, t4, hk⟩ := hK _ _ hp
    obtain ⟨f1, f2⟩ := fin T τ t1 t2 t3 t4
    exact ⟨h2.dfr, .pan l, _, M', _, hk, f1, f2, rfl⟩
  | exit id => exact hp.elim
  | goto l => exact hp.elim
  | outgrown => exact hp.elim
end
end Go.Fw
namespace Go.Fw
open Go Go.RowKit
section
variable {P : Program} {s s' : AS}
theorem mem_agree {v : AV} (hb : ∀ id ∈ v.refs, s.box id = s'.box id) : s.mem v = s'.mem v := by
  cases v <;> simp only [AS.mem]
  rename_i id off
  rw [hb id (by simp [AV.refs])]
theorem elems_agree {z : Nat} {v : AV} (hb : ∀ id ∈ v.refs, s.box id = s'.box id) : s.elems z v = s'.elems z v := by
  unfold AS.elems
  split
  · rfl
  · rename_i id z' off n
    rw [hb id (by simp [AV.refs])]
  · rfl
  · rfl
theorem appDest_agree {e z : Nat} {v : AV} (hb : ∀ id ∈ v.refs, s.box id = s'.box id) : appDest s e z v = appDest s' e z v := by
  unfold appDest
  split
  · rename_i id z' off n
    rw [hb id (by simp [AV.refs])]
  · rfl
  · rfl
  · rfl
theorem conv_agree {a b : TypeId} {v : AV} (hb : ∀ id ∈ v.refs, s.box id = s'.box id) : evConv P s a b v = evConv P s' a b v := by
  unfold evConv
  split
  · rfl
  · rfl
  · rw [elems_agree hb]
theorem map_agree {xs : Array Operand} (hv : ∀ x ∈ xs, s.val x = s'.val x) : xs.toList.map s.val = xs.toList.map s'.val :=
  List.map_congr_left fun x hx => hv x (by simpa using hx)
theorem pairs_agree {ps : Array (Nat × Operand)} (hv : ∀ x ∈ ps.map (·.2), s.val x = s'.val x) : (ps.toList.map fun p => (p.1, s.val p.2)) = ps.toList.map fun p => (p.1, s'.val p.2) :=
  List.map_congr_left fun p hp => by rw [hv p.2 (Array.mem_map.2 ⟨p, by simpa using hp, rfl⟩)]
theorem append_agree {d : Nat} {args : List AV} {ts : List TypeId} (hb : ∀ v ∈ args, ∀ id ∈ v.refs, s.box id = s'.box id) : evAppend P s d args ts = evAppend P s' d args ts := by
  unfold evAppend
  split
  · rename_i x y t u
    have h1 := fun e z => appDest_agree (s := s) (s' := s') (e := e) (z := z) (hb x (by simp))
    have h2 := fun z => elems_agree (s := s) (s' := s') (z := z) (hb y (by simp))
    simp only [h1, h2]
  · rfl
theorem evPure_agree {op : Op} (hv : ∀ x ∈ op.operands, s.val x = s'.val x) (hb : ∀ x ∈ op.operands, ∀ id ∈ (s'.val x).refs, s.box id = s'.box id) : evPure P s op = evPure P s' op := by
  cases op <;> simp only [Op.operands] at hv hb <;> simp only [evPure]
  case call c =>
    split
    · rename_i b hc
      have : c.args.toList.map s.val = c.args.toList.map s'.val := map_agree fun x hx => hv x (by simp [Call.operands, hx])
      rw [this]
    · rfl
  case makeFunc fn first caps =>
    have : caps.toList.map s.val = caps.toList.map s'.val := map_agree fun x hx => hv x (by simp [hx])
    cases fn <;> simp only [] <;> rw [this]
  case build t ps => rw [pairs_agree fun x hx => hv x (by simpa using hx)]
  case load t p =>
    have h1 := hv p (by simp)
    rw [h1, mem_agree (hb p (by simp))]
  case convert src dst x =>
    have h1 := hv x (by simp)
    rw [h1, conv_agree (hb x (by simp))]
  case slice t x lo hi mx =>
    have h0 := hv x (by simp)
    have h1 : lo.map s.val = lo.map s'.val := by cases lo with | none => rfl | some y => simp [hv y (by simp)]
    have h2 : hi.map s.val = hi.map s'.val := by cases hi with | none => rfl | some y => simp [hv y (by simp)]
    have h3 : mx.map s.val = mx.map s'.val := by cases mx with | none => rfl | some y => simp [hv y (by simp)]
    rw [h0, h1, h2, h3]
  all_goals (first | rfl | (simp_all; done))
theorem evMem_agree {dst : Option Nat} {op : Op} (hv : ∀ x ∈ op.operands, s.val x = s'.val x) (hb : ∀ x ∈ op.operands, ∀ id ∈ (s'.val x).refs, s.box id = s'.box id) : evMem P s dst op = evMem P s' dst op := by
  cases op <;> simp only [Op.operands] at hv hb <;> simp only [evMem]
  case call c =>
    split
    · rename_i hc
      have : c.args.toList.map s.val = c.args.toList.map s'.val := map_agree fun x hx => hv x (by simp [Call.operands, hx])
      rw [this]
      refine append_agree fun v hvm => ?_
      obtain ⟨x, hx, rfl⟩ := List.mem_map.1 hvm
      exact hb x (by simp [Call.operands, (show x ∈ c.args by simpa using hx)])
    · rfl
  case buildSlice t n ps => rw [pairs_agree fun x hx => hv x (by simpa using hx)]
  case store t p x =>
    have h1 := hv p (by simp)
    have h2 := hv x (by simp)
    rw [h1, h2]
    have hb1 := hb p (by simp)
    generalize s'.val p = v at *
    generalize (s'.val x).cells? = cs
    cases dst <;> cases v <;> cases cs <;> try rfl
    rename_i id off cs
    simp only [hb1 id (by simp [AV.refs])]
  all_goals (first | rfl | (simp_all; done))
end
end Go.Fw
namespace Go.Fw
open Go Go.RowKit
structure St where
  v : AV
  eff : Option Eff
def app (o : Oper) (st : St) (s : AS) : AS := match st.eff with
  | some f => (s.eff f).put o.dst st.v
  | none => s.put o.dst st.v
def St.touches (st : St) (id : Nat) : Prop := ∃ f, st.eff = some f ∧ (id = f.d ∨ f.kill = some id)
def St.fresh (st : St) (id : Nat) : Prop := ∃ f, st.eff = some f ∧ f.fresh = true ∧ id = f.d
theorem app_env_ne {o : Oper} {st : St} {s : AS} {t : Nat} (h : o.dst ≠ some t) : (app o st s).env t = s.env t := by
  have key : ∀ s' : AS, (s'.put o.dst st.v).env t = s'.env t := by
    intro s'
    cases hd : o.dst with
    | none => rfl
    | some d => simp only [AS.put]; exact upd_ne _ _ (fun he => h (by rw [hd, he]))
  unfold app
  split
  · rw [key]; rfl
  · exact key s
theorem app_env_eq {o : Oper} {st : St} {s : AS} {t : Nat} (h : o.dst = some t) : (app o st s).env t = st.v := by
  unfold app
  split <;> simp [h, AS.put, upd]
theorem app_box {o : Oper} {st : St} {s : AS} : (app o st s).box = match st.eff with
    | some f => (s.eff f).box
    | none => s.box := by
  unfold app
  split <;> simp [AS.put_box]
theorem app_used {o : Oper} {st : St} {s : AS} {id : Nat} : (app o st s).used id ↔ s.used id ∨ st.fresh id := by
  unfold app St.fresh
  split
  · rename_i f hf
    rw [AS.put_used]
    simp only [AS.eff]
    split
    · rename_i h; simp [hf, h]; exact Or.comm
    · rename_i h; simp [hf, h]
  · rename_i hf
    rw [AS.put_used]
    simp [hf]
theorem app_box_ne {o : Oper} {st : St} {s : AS} {id : Nat} (h : ¬ st.touches id) : (app o st s).box id = s.box id := by
  rw [app_box]
  cases hf : st.eff with
  | none => rfl
  | some f =>
    simp only [AS.eff]
    have h1 : id ≠ f.d := fun he => h ⟨f, hf, .inl he⟩
    rw [upd_ne _ _ h1]
    cases hk : f.kill with
    | none => rfl
    | some k => exact upd_ne _ _ (fun he => h ⟨f, hf, .inr (by rw [hk, he])⟩)
theorem app_box_eq {o : Oper} {st : St} {s s' : AS} {id : Nat} (h : st.touches id) : (app o st s).box id = (app o st s').box id := by
  rw [app_box, app_box]
  obtain ⟨f, hf, h⟩ := h
  simp only [hf, AS.eff]
  by_cases he : id = f.d
  · rw [he, upd_same, upd_same]
  · rw [upd_ne _ _ he, upd_ne _ _ he]
    rcases h with h | h
    · exact absurd h he
    · rw [h]; simp [killBox, upd]
def stZ (L : Nat → Bool) : Nat → List (Oper × St) → AS → AS
  | _, [], s => s
  | k, p :: z, s => stZ L (k + 1) z (if L k = true then app p.1 p.2 s else s)
theorem env_congr {L L' : Nat → Bool} {t : Nat} : ∀ (z : List (Oper × St)) (k : Nat) (s s' : AS), s.env t = s'.env t →
    (∀ i p, z[i]? = some p → p.1.dst = some t → L (k + i) = L' (k + i)) → (stZ L k z s).env t = (stZ L' k z s').env t
  | [], _, _, _, h, _ => h
  | p :: z, k, s, s', h, hL => by
    simp only [stZ]
    refine env_congr z (k + 1) _ _ ?_ (fun i q hi hd => by have := hL (i + 1) q (by simpa using hi) hd; rwa [show k + (i + 1) = k + 1 + i from by omega] at this)
    by_cases hd : p.1.dst = some t
    · have := hL 0 p (by simp) hd
      simp only [Nat.add_zero] at this
      rw [this]
      split
      · rw [app_env_eq hd, app_env_eq hd]
      · exact h
    · split <;> split <;> (try rw [app_env_ne hd]) <;> (try rw [app_env_ne hd]) <;> exact h
theorem box_congr {L L' : Nat → Bool} {id : Nat} : ∀ (z : List (Oper × St)) (k : Nat) (s s' : AS), s.box id = s'.box id →
    (∀ i p, z[i]? = some p → p.2.touches id → L (k + i) = L' (k + i)) → (stZ L k z s).box id = (stZ L' k z s').box id
  | [], _, _, _, h, _ => h
  | p :: z, k, s, s', h, hL => by
    simp only [stZ]
    refine box_congr z (k + 1) _ _ ?_ (fun i q hi hd => by have := hL (i + 1) q (by simpa using hi) hd; rwa [show k + (i + 1) = k + 1 + i from by omega] at this)
    by_cases hd : p.2.touches id
    · have := hL 0 p (by simp) hd
      simp only [Nat.add_zero] at this
      rw [this]
      split
      · exact app_box_eq hd
      · exact h
    · split <;> split <;> (try rw [app_box_ne hd]) <;> (try rw [app_box_ne hd]) <;> exact h
theorem env_last {L : Nat → Bool} {t : Nat} : ∀ (z : List (Oper × St)) (k j : Nat) (p : Oper × St) (s : AS), z[j]? = some p → L (k + j) = true → p.1.dst = some t →
    (∀ i q, j < i → z[i]? = some q → q.1.dst = some t → L (k + i) = false) → (stZ L k z s).env t = p.2.v
  | [], _, _, _, _, h, _, _, _ => by simp at h
  | p :: z, k, 0, q, s, h, hl, hd, hn => by
    simp at h; subst h
    simp only [Nat.add_zero] at hl
    simp only [stZ, if_pos hl]
    rw [env_congr (L' := fun _ => false) z (k + 1) _ (app p.1 p.2 s) rfl (fun i q hi hq => by have := hn (i + 1) q (by omega) (by simpa using hi) hq; rwa [show k + (i + 1) = k + 1 + i from by omega] at this)]
    have key : ∀ (z : List (Oper × St)) (k : Nat) (s : AS), stZ (fun _ => false) k z s = s := by
      intro z
      induction z with
      | nil => intro k s; rfl
      | cons p z ih => intro k s; simp [stZ, ih]
    rw [key, app_env_eq hd]
  | p :: z, k, j + 1, q, s, h, hl, hd, hn => by
    simp only [stZ]
    exact env_last z (k + 1) j q _ (by simpa using h) (by rw [show k + 1 + j = k + (j + 1) from by omega]; exact hl) hd
      (fun i r hi hr hrd => by have := hn (i + 1) r (by omega) (by simpa using hr) hrd; rwa [show k + (i + 1) = k + 1 + i from by omega] at this)
theorem box_last {L : Nat → Bool} {id : Nat} : ∀ (z : List (Oper × St)) (k j : Nat) (p : Oper × St) (s s' : AS), z[j]? = some p → L (k + j) = true → p.2.touches id →
    (∀ i q, j < i → z[i]? = some q → q.2.touches id → L (k + i) = false) → (stZ L k z s).box id = (app p.1 p.2 s').box id
  | [], _, _, _, _, _, h, _, _, _ => by simp at h
  | p :: z, k, 0, q, s, s', h, hl, hd, hn => by
    simp at h; subst h
    simp only [Nat.add_zero] at hl
    simp only [stZ, if_pos hl]
    rw [box_congr (L' := fun _ => false) z (k + 1) _ (app p.1 p.2 s) rfl (fun i q hi hq => by have := hn (i + 1) q (by omega) (by simpa using hi) hq; rwa [show k + (i + 1) = k + 1 + i from by omega] at this)]
    have key : ∀ (z : List (Oper × St)) (k : Nat) (s : AS), stZ (fun _ => false) k z s = s := by
      intro z
      induction z with
      | nil => intro k s; rfl
      | cons p z ih => intro k s; simp [stZ, ih]
    rw [key]
    exact app_box_eq hd
  | p :: z, k, j + 1, q, s, s', h, hl, hd, hn => by
    simp only [stZ]
    exact box_last z (k + 1) j q _ s' (by simpa using h) (by rw [show k + 1 + j = k + (j + 1) from by omega]; exact hl) hd
      (fun i r hi hr hrd => by have := hn (i + 1) r (by omega) (by simpa using hr) hrd; rwa [show k + (i + 1) = k + 1 + i from by omega] at this)
theorem used_iff {L : Nat → Bool} {id : Nat} : ∀ (z : List (Oper × St)) (k : Nat) (s : AS), (stZ L k z s).used id ↔ s.used id ∨ ∃ i p, z[i]? = some p ∧ L (k + i) = true ∧ p.2.fresh id
  | [], k, s => by simp [stZ]
  | p :: z, k, s => by
    simp only [stZ]
    rw [used_iff z (k + 1)]
    have h1 : (if L k = true then app p.1 p.2 s else s).used id ↔ s.used id ∨ (L k = true ∧ p.2.fresh id) := by
      split
      · rename_i h; rw [app_used]; simp [h]
      · rename_i h; simp [h]
    rw [h1]
    constructor
    · rintro ((h | ⟨h, h'⟩) | ⟨i, q, h1, h2, h3⟩)
      · exact .inl h
      · exact .inr ⟨0, p, by simp, by simpa using h, h'⟩
      · exact .inr ⟨i + 1, q, by simpa using h1, by rw [show k + (i + 1) = k + 1 + i from by omega]; exact h2, h3⟩
    · rintro (h | ⟨i, q, h1, h2, h3⟩)
      · exact .inl (.inl h)
      · cases i with
        | zero => simp at h1; subst h1; exact .inl (.inr ⟨by simpa using h2, h3⟩)
        | succ i => exact .inr ⟨i, q, by simpa using h1, by rw [show k + 1 + i = k + (i + 1) from by omega]; exact h2, h3⟩
theorem AS.ext' {s s' : AS} (h1 : ∀ t, s.env t = s'.env t) (h2 : ∀ i, s.box i = s'.box i) (h3 : ∀ i, s.used i ↔ s'.used i) : s = s' := by
  obtain ⟨e, b, u⟩ := s
  obtain ⟨e', b', u'⟩ := s'
  simp only at h1 h2 h3
  have := funext h1
  have := funext h2
  have := funext fun i => propext (h3 i)
  subst_vars
  rfl
end Go.Fw
namespace Go.Fw
open Go Go.RowKit
mutual
theorem resD_id (box : Nat → Option Box) : ∀ v : AV, v.refs = [] → resD box v = v
  | .agg l, h => by simp only [resD]; rw [resDL_id box l (by simpa [AV.refs] using h)]
  | .tup l, h => by simp only [resD]; rw [resDL_id box l (by simpa [AV.refs] using h)]
  | .fn f l, h => by simp only [resD]; rw [resDL_id box l (by simpa [AV.refs] using h)]
  | .v _, _ => rfl
  | .slc _ _ _ _, _ => rfl
  | .ip _, _ => rfl
  | .bp _ _, h => by simp [AV.refs] at h
  | .bs _ _ _ _, h => by simp [AV.refs] at h
  | .own _ _ _ _, _ => rfl
  | .junk, _ => rfl
  | .unk, _ => rfl
theorem resDL_id (box : Nat → Option Box) : ∀ l : List AV, refsL l = [] → resDL box l = l
  | [], _ => rfl
  | a :: l, h => by
    simp only [refsL, List.append_eq_nil_iff] at h
    simp only [resDL]
    rw [resD_id box a h.1, resDL_id box l h.2]
end
mutual
theorem resD_agree (box box' : Nat → Option Box) : ∀ v : AV, (∀ i ∈ v.refs, box i = box' i) → resD box v = resD box' v
  | .agg l, h => by simp only [resD]; rw [resDL_agree box box' l (by simpa [AV.refs] using h)]
  | .tup l, h => by simp only [resD]; rw [resDL_agree box box' l (by simpa [AV.refs] using h)]
  | .fn f l, h => by simp only [resD]; rw [resDL_agree box box' l (by simpa [AV.refs] using h)]
  | .v _, _ => rfl
  | .slc _ _ _ _, _ => rfl
  | .ip _, _ => rfl
  | .bp id _, h => by simp only [resD, resB]; rw [h id (by simp [AV.refs])]
  | .bs id _ _ _, h => by simp only [resD, resB]; rw [h id (by simp [AV.refs])]
  | .own _ _ _ _, _ => rfl
  | .junk, _ => rfl
  | .unk, _ => rfl
theorem resDL_agree (box box' : Nat → Option Box) : ∀ l : List AV, (∀ i ∈ refsL l, box i = box' i) → resDL box l = resDL box' l
  | [], _ => rfl
  | a :: l, h => by
    simp only [refsL, List.mem_append] at h
    simp only [resDL]
    rw [resD_agree box box' a fun i hi => h i (.inl hi), resDL_agree box box' l fun i hi => h i (.inr hi)]
end
def AV.isOwn : AV → Bool
  | .own _ _ _ _ => true
  | _ => false
def AV.plainR : AV → Bool
  | .own _ _ _ _ => false
  | .tup l => l.all fun a => !a.isOwn
  | _ => true
theorem adoptLK_plain (d : Nat) : ∀ (l : List AV) (i : Nat) (s : AS) (k : List AV → AS → Prop), (l.all fun a => !a.isOwn) = true → k l s → adoptLK d i l s k
  | [], _, _, _, _, hk => hk
  | a :: l, i, s, k, h, hk => by
    simp only [List.all_cons, Bool.and_eq_true] at h
    cases a <;> first | (simp [AV.isOwn] at h; done) | exact adoptLK_plain d l (i + 1) s _ h.2 hk
theorem adoptK_plain {d : Nat} {v : AV} {s : AS} {k : AV → AS → Prop} (h : v.plainR = true) (hk : k v s) : adoptK d v s k := by
  cases v <;> first | (simp [AV.plainR] at h; done) | exact hk | exact adoptLK_plain d _ 0 s _ h hk
def stepOk (P : Program) (o : Oper) (st : St) (s : AS) : Prop :=
  if isMem P o.op = true then ∃ f, evMem P s o.dst o.op = some f ∧ (f.fresh = true → ¬ s.used f.d) ∧ st = ⟨f.v, some f⟩
  else ∃ v, evPure P s o.op = some v ∧ st = ⟨v, none⟩
def callOk (P : Program) (f : AV) (args : List AV) (st : St) (s : AS) : Prop :=
  ∃ fid caps, f = .fn fid caps ∧
    ((refsL (args ++ caps) = [] ∧ ∃ r, Eval P fid (args ++ caps) (.ret r) ∧
      ((r.plainR = true ∧ st = ⟨r, none⟩) ∨ ∃ e z n l d, r = .own e z n l ∧ ¬ s.used d ∧ st = ⟨.bs d z 0 n, some ⟨.bs d z 0 n, none, d, e, l, true⟩⟩)) ∨
     ∃ id e l d r, refsL (args ++ caps) = [id] ∧ s.box id = some (.mut e l) ∧ refsL l = [] ∧ Eval P fid (resDL (upd s.box id (some (.frz l))) (args ++ caps)) (.ret r) ∧
       refsL (resDL (upd s.box id (some (.frz l))) (args ++ caps)) = [] ∧ r.plainR = true ∧ ¬ s.used d ∧ st = ⟨r, some ⟨r, some id, d, 0, [], true⟩⟩)
def valid (P : Program) (ops : List Oper) (o : Oper) (st : St) (s : AS) : Prop :=
  (gOn ops o s = some false ∧ st = ⟨.tup [], none⟩) ∨
  (gOn ops o s = some true ∧ match o.op with
    | .call c => match c.callee with
      | .value f => callOk P (s.val f) (c.args.toList.map s.val) st s
      | _ => stepOk P o st s
    | .panic _ => False
    | _ => stepOk P o st s)
def isApp (o : Oper) (st : St) (s : AS) : Exit → AS → Prop
  | .normal, s' => s' = app o st s
  | _, _ => False
section
variable {P : Program} {C : Ctx} {M : Mem} {β : Loc} {s s' : AS} {w : World} {nt : NT} {a : Act} {Q : Exit → AS → Prop}
theorem stepOk_stepK {o : Oper} {st : St} (h : stepOk P o st s) : stepK P o s (fun s' => s' = app o st s) := by
  unfold stepOk at h
  unfold stepK
  split
  · rename_i hm
    rw [if_pos hm] at h
    obtain ⟨f, h1, h2, rfl⟩ := h
    exact ⟨f, h1, h2, rfl⟩
  · rename_i hm
    rw [if_neg hm] at h
    obtain ⟨v, h1, rfl⟩ := h
    exact ⟨v, h1, rfl⟩
theorem callOk_callG {o : Oper} {f : AV} {args : List AV} {st : St} (h : callOk P f args st s) (Q : Exit → AS → Prop) (hQ : Q .normal (app o st s)) :
    CallG P f args s (fun out s' => match out with
      | .ret v => Q .normal (s'.put o.dst v)
      | .pan l => Q (.panic l) s') := by
  obtain ⟨fid, caps, rfl, h⟩ := h
  rcases h with ⟨hrefs, r, hev, h⟩ | ⟨id, e, l, d, r, hrefs, hbox, hl, hev, hres, hp, hd, rfl⟩
  · have hid := fun box => resDL_id box _ hrefs
    rcases h with ⟨hp, rfl⟩ | ⟨e, z, n, l, d, rfl, hd, rfl⟩
    · refine CallV.pure 0 (out := .ret r) ?_ ?_ ?_ ?_
      · rw [hid]; exact hev
      · rw [hrefs]; trivial
      · rw [hid]; exact hrefs
      · rw [hrefs]
        exact adoptK_plain hp hQ
    · refine CallV.pure d (out := .ret (.own e z n l)) ?_ ?_ ?_ ?_
      · rw [hid]; exact hev
      · rw [hrefs]; trivial
      · rw [hid]; exact hrefs
      · rw [hrefs]
        exact ⟨hd, hQ⟩
  · have hfrz : frzS (refsL (args ++ caps)) s = { s with box := upd s.box id (some (.frz l)) } := by
      rw [hrefs]
      simp only [frzS, hbox]
    have hC : CallV P fid (args ++ caps) s (fun out s' => out = .ret r ∧ s' = { s with box := upd s.box id (some (.frz l)) }) := by
      refine CallV.pure 0 (out := .ret r) ?_ ?_ ?_ ?_
      · rw [hfrz]; exact hev
      · rw [hrefs]
        refine ⟨?_, trivial⟩
        rw [hbox]
        exact hl
      · rw [hfrz]; exact hres
      · rw [hfrz]
        exact adoptK_plain hp ⟨rfl, rfl⟩
    intro C nt M β a w vs hR hS hvs hrep
    refine Ends.mono (hC C nt M β a w vs hR hS hvs hrep) ?_
    rintro e' w' ⟨out, s', M', β', ⟨rfl, rfl⟩, hR', hS', hE⟩
    have hused : ∀ i x, upd s.box id none i = some x → s.used i := fun i x hi => by
      refine hR.useB i ?_
      simp only [upd] at hi
      split at hi
      · cases hi
      · rw [hi]; simp
    have hR1 : Rel C M' β' ⟨s.env, upd s.box id none, s.used⟩ w' := by
      refine hR'.less (box' := upd s.box id none) (used' := s.used) (fun i x hi => ?_) hused (fun i e1 l1 hi j hj => ?_) (fun i hi => (hR.pin i hi).1) s.env
      · simp only [upd] at hi ⊢
        split at hi
        · cases hi
        · rename_i hne; rw [if_neg hne]; exact hi
      · simp only [upd] at hi
        split at hi
        · cases hi
        · exact hR.refB i e1 l1 hi j hj
    obtain ⟨hR2, hβ⟩ := hR1.adopt (id := d) (e := 0) (l := []) hd rfl (place := none) (.inl ⟨rfl, rfl⟩)
    refine ⟨.ret r, ⟨s.env, upd (upd s.box id none) d (some (.mut 0 [])), fun j => j = d ∨ s.used j⟩, M', upd β' d none, hQ, hR2, ?_, ?_⟩
    · exact hS'.later (MemLe.refl M') (fun j hj => hβ j hj) rfl (fun j hj => .inr hj)
    · cases e' with
      | returned x =>
        have hok : Ok M' β' _ r x := hE
        exact ⟨Rep.mono (MemLe.refl M') _ _ (fun j hj => hβ j (hok.ref j hj)) hok.rep, fun j hj => .inr (hok.ref j hj)⟩
      | panicked l' => exact hE
      | outgrown => exact hE
theorem valid_vcn {ops : List Oper} {o : Oper} {st : St} (h : valid P ops o st s) : vcn P ops (isApp o st s) [o] s := by
  rcases h with ⟨hg, rfl⟩ | ⟨hg, h⟩
  · exact ⟨false, hg, by simp [vcn, isApp, app]⟩
  · refine ⟨true, hg, ?_⟩
    simp only [if_true]
    split at h
    · rename_i c hc
      try simp only [hc]
      split at h
      · rename_i f hf
        try simp only [hf]
        exact callOk_callG h (isApp o st s) rfl
      · rename_i hf
        have := stepOk_stepK h
        first
          | exact this
          | (split
             · rename_i f hf2; exact absurd hf2 (hf f)
             · exact this)
    · exact h.elim
    · rename_i h1 h2
      have := stepOk_stepK h
      first
        | exact this
        | (split
           · rename_i c hc; exact absurd hc (h1 c)
           · rename_i x hx; exact absurd hx (h2 x)
           · exact this)
theorem wpIn_monoQ {F : Fence} {n' : Nat} {o : Oper} {K K' : Act → World → Prop} {Q Q' : Exit → Act → World → Prop} (hn : ∀ a w, K a w → K' a w) (hq : ∀ c a w, Q (.panic c) a w → Q' (.panic c) a w) (ho : LetsOut Q → LetsOut Q')
    (h : o.wpIn F n' P a w K Q) : o.wpIn F n' P a w K' Q' := by
  refine ⟨h.1, ?_⟩
  have h := h.2
  generalize (o.semAt F.round a.eval).run P w = r at *
  cases r with
  | ok n w' =>
    cases n <;> simp only [Oper.uponIn] at h ⊢
    case value => exact hn _ _ h
    case skip => exact hn _ _ h
    case defer => exact hn _ _ h
    case enter => exact ⟨h.1, CallsIn.mono h.2 (fun e w'' he => by
      cases e with
      | returned v => exact hn _ _ he
      | panicked c => exact hq _ _ _ he
      | outgrown => exact ho he)⟩
    case row => exact ⟨h.1, RowsIn.mono h.2 (fun _ _ he => hn _ _ he)⟩
    case round => exact ⟨h.1, RoundIn.mono h.2 (fun e w'' he => by
      cases e with
      | returned v => exact hn _ _ he
      | panicked c => exact hq _ _ _ he
      | outgrown => exact ho he)⟩
  | halt x w' =>
    cases x <;> simp only [Oper.uponIn] at h ⊢
    case panic => exact hq _ _ _ h
theorem valid_wpOp {ops : Array Oper} {o : Oper} {st : St} {i : Nat} (hi : ops[i]? = some o) (hd : dstOk nt o.dst = true) (h : valid P ops.toList o st s) (hR : Rel C M β s w) (hS : Slots nt M β s a)
    {K : Act → World → Prop} {Q : Exit → Act → World → Prop} (hK : ∀ a' w' M' β', Rel C M' β' (app o st s) w' → Slots nt M' β' (app o st s) a' → K a' w') : wpOpIn nt.F 0 P ops Q i K a w := by
  have h1 := vcn_wp (nt := nt) (Q := isApp o st s) ops [o] s M β a w (by simpa using hd) hR hS (valid_vcn h)
  have hn : ∀ a w, lift C nt (isApp o st s) .normal a w → K a w := by
    rintro a w ⟨s', M', β', rfl, k1, k2⟩
    exact hK a w M' β' k1 k2
  have hlets : ¬ LetsOut (lift C nt (isApp o st s)) := by
    rintro ⟨a, w, s', M', β', hf, _⟩
    exact hf
  unfold wpOpIn
  simp only [hi]
  unfold wpListIn at h1
  split
  · rename_i hw
    rw [if_pos hw] at h1
    refine wpIn_monoQ (fun a w hk => ?_) ?_ (fun hl => absurd hl hlets) h1
    · unfold wpListIn at hk; exact hn a w hk
    · rintro c a w ⟨s', M', β', hf, _⟩; exact hf.elim
  · rename_i hw
    rw [if_neg hw] at h1
    obtain ⟨h0, h1⟩ := h1
    unfold wpListIn at h1
    exact ⟨h0, hn _ _ h1⟩
structure Agree (T : List Tmp) (s s' : AS) : Prop where
  env : ∀ t ∈ T, s.env t = s'.env t
  box : ∀ t ∈ T, ∀ id ∈ (s'.env t).refs, s.box id = s'.box id
theorem resB_refs {box : Nat → Option Box} {v : AV} {id : Nat} (h : id ∈ (resB box v).refs) : id ∈ v.refs := by
  unfold resB at h
  split at h
  · split at h
    · split at h <;> simp [AV.refs] at h
    · exact h
  · split at h
    · simp [AV.refs] at h
    · exact h
  · exact h
theorem ofVal_refs {c : Value} {id : Nat} (h : id ∈ (ofVal c).refs) : False := by
  unfold ofVal at h
  split at h
  · split at h
    · simp [AV.refs, refsL_map_v] at h
    · simp [AV.refs] at h
  · split at h <;> simp [AV.refs, refsL] at h
  · simp [AV.refs] at h
theorem Agree.val {T : List Tmp} (h : Agree T s s') {x : Operand} (hx : ∀ t, x = .tmp t → t ∈ T) : s.val x = s'.val x ∧ ∀ id ∈ (s'.val x).refs, s.box id = s'.box id := by
  cases x with
  | tmp t =>
    have ht := hx t rfl
    refine ⟨?_, fun id hid => h.box t ht id (resB_refs hid)⟩
    simp only [AS.val]
    rw [h.env t ht]
    have hb := h.box t ht
    cases hv : s'.env t <;> simp only [resB]
    · rw [hb _ (by rw [hv]; simp [AV.refs])]
    · rw [hb _ (by rw [hv]; simp [AV.refs])]
  | const c => exact ⟨rfl, fun id hid => (ofVal_refs hid).elim⟩
  | func f => exact ⟨rfl, fun id hid => by simp [AS.val, AV.refs, refsL] at hid⟩
  | global g => exact ⟨rfl, fun id hid => by simp [AS.val, AV.refs] at hid⟩
theorem valid_agree {ops : Array Oper} {o : Oper} {st : St} (h : valid P ops.toList o st s') (ha : Agree (o.looksAt ops) s s') (hu : ∀ d, st.fresh d → ¬ s'.used d → ¬ s.used d) : valid P ops.toList o st s := by
  have hop : ∀ x ∈ o.op.operands, ∀ t, x = .tmp t → t ∈ o.looksAt ops := fun x hx t he => by
    subst he
    exact List.mem_append_left _ (List.mem_filterMap.2 ⟨.tmp t, by simpa using hx, rfl⟩)
  have hv : ∀ x ∈ o.op.operands, s.val x = s'.val x := fun x hx => (ha.val (hop x hx)).1
  have hb : ∀ x ∈ o.op.operands, ∀ id ∈ (s'.val x).refs, s.box id = s'.box id := fun x hx => (ha.val (hop x hx)).2
  have hg : gOn ops.toList o s = gOn ops.toList o s' := by
    unfold gOn
    cases hgd : o.guard with
    | none => rfl
    | some gw =>
      obtain ⟨j, want⟩ := gw
      simp only []
      have e : ops.toList[j]? = ops[j]? := by simp
      rw [e]
      cases hd : (ops[j]?).bind (·.dst) with
      | none => rfl
      | some d =>
        simp only []
        rw [ha.env d (List.mem_append_right _ (by rw [hgd]; simp [hd]))]
  have hstep : stepOk P o st s' → stepOk P o st s := by
    intro h
    unfold stepOk at *
    split
    · rename_i hm
      rw [if_pos hm] at h
      obtain ⟨f, h1, h2, rfl⟩ := h
      exact ⟨f, by rw [evMem_agree hv hb]; exact h1, fun hf => hu f.d ⟨f, rfl, hf, rfl⟩ (h2 hf), rfl⟩
    · rename_i hm
      rw [if_neg hm] at h
      obtain ⟨v, h1, rfl⟩ := h
      exact ⟨v, by rw [evPure_agree hv hb]; exact h1, rfl⟩
  unfold valid at *
  rw [hg]
  rcases h with h | ⟨h1, h2⟩
  · exact .inl h
  · refine .inr ⟨h1, ?_⟩
    split at h2
    · rename_i c hc
      have hv' : ∀ x ∈ c.operands, s.val x = s'.val x := fun x hx => hv x (by rw [hc]; simpa [Op.operands] using hx)
      split at h2
      · rename_i f hf
        obtain ⟨fid, caps, k1, h2⟩ := h2
        have e1 : s.val f = s'.val f := hv' f (by simp [Call.operands, hf])
        have e2 : c.args.toList.map s.val = c.args.toList.map s'.val := map_agree fun x hx => hv' x (by simp [Call.operands, hx])
        refine ⟨fid, caps, by rw [e1]; exact k1, ?_⟩
        rw [e2]
        rcases h2 with ⟨k2, r, k3, k4⟩ | ⟨id, e, l, d, r, k2, k3, k4, k5, k6, k7, k8, rfl⟩
        · refine .inl ⟨k2, r, k3, ?_⟩
          rcases k4 with k4 | ⟨e, z, n, l, d, q1, q2, rfl⟩
          · exact .inl k4
          · exact .inr ⟨e, z, n, l, d, q1, hu d ⟨_, rfl, rfl, rfl⟩ q2, rfl⟩
        · have hb' : ∀ x ∈ c.operands, ∀ id ∈ (s'.val x).refs, s.box id = s'.box id := fun x hx => hb x (by rw [hc]; simpa [Op.operands] using hx)
          have hid : id ∈ refsL (c.args.toList.map s'.val ++ caps) := by rw [k2]; simp
          have hbx : s.box id = s'.box id := by
            rw [mem_refsL] at hid
            obtain ⟨v, hv1, hv2⟩ := hid
            rcases List.mem_append.1 hv1 with hv1 | hv1
            · obtain ⟨x, hx, rfl⟩ := List.mem_map.1 hv1
              exact hb' x (by simp only [Call.operands, hf]; simp at hx ⊢; exact .inr hx) id hv2
            · refine hb' f (by simp [Call.operands, hf]) id ?_
              rw [k1]
              simp only [AV.refs]
              exact mem_refsL.2 ⟨v, hv1, hv2⟩
          have hres : resDL (upd s.box id (some (.frz l))) (c.args.toList.map s'.val ++ caps) = resDL (upd s'.box id (some (.frz l))) (c.args.toList.map s'.val ++ caps) := by
            refine resDL_agree _ _ _ fun i hi => ?_
            rw [k2] at hi
            simp only [List.mem_singleton] at hi
            subst hi
            simp [upd]
          exact .inr ⟨id, e, l, d, r, k2, by rw [hbx]; exact k3, k4, by rw [hres]; exact k5, by rw [hres]; exact k6, k7, hu d ⟨_, rfl, rfl, rfl⟩ k8, rfl⟩
      · rename_i hf
        exact hstep h2
    · exact h2.elim
    · rename_i k1 k2
      exact hstep h2
end
end Go.Fw
namespace Go.Fw
open Go Go.RowKit
def edgesOf (o : Oper) : List Nat := (o.after.toList.filter fun e => Region.binds .any e).map (·.on)
def ancs (ops : List Oper) : List (List Nat) :=
  ops.foldl (fun acc o => acc ++ [((edgesOf o).flatMap fun i => i :: acc.getD i []).eraseDups]) []
def ordered (A : List (List Nat)) (i j : Nat) : Bool := (A.getD j []).contains i || (A.getD i []).contains j
def ordOk (ops : List Oper) (A : List (List Nat)) : Bool :=
  (List.range ops.length).all fun j => match ops[j]? with
    | none => true
    | some o => (edgesOf o).all (fun i => decide (i < j)) &&
      (A.getD j []).all (fun i => decide (i < j) && ((edgesOf o).contains i || (edgesOf o).any fun k => (A.getD k []).contains i)) &&
      (List.range ops.length).all fun i => match ops[i]? with
        | none => true
        | some p => i == j || ((match p.dst with
          | some t => !(o.looksAt ops.toArray).contains t || ordered A i j
          | none => true) && (p.dst.isNone || p.dst != o.dst))
def memOk (A : List (List Nat)) (acc : List (List Nat × List Nat)) : Bool :=
  (List.range acc.length).all fun i => match acc[i]? with
    | none => true
    | some (_, ti) => ti.isEmpty || (List.range acc.length).all fun j => match acc[j]? with
      | none => true
      | some (lj, tj) => i == j || ordered A i j || ti.all fun id => !lj.contains id && !tj.contains id
def St.ids (st : St) : List Nat := match st.eff with
  | some f => f.d :: f.kill.toList
  | none => []
theorem St.mem_ids {st : St} {id : Nat} : st.touches id ↔ id ∈ st.ids := by
  unfold St.touches St.ids
  cases st.eff with
  | none => simp
  | some f =>
    simp only [Option.some.injEq, exists_eq_left', List.mem_cons, Option.mem_toList]
def lookIds (ops : List Oper) (o : Oper) (s : AS) : List Nat := refsL ((o.looksAt ops.toArray).map s.env)
def Run (P : Program) (ops : List Oper) (z : List (Oper × St)) (s0 : AS) : Prop :=
  ∀ j p, z[j]? = some p → valid P ops p.1 p.2 (stZ (fun i => decide (i < j)) 0 z s0)
section
variable {P : Program} {C : Ctx} {M : Mem} {β : Loc} {s s0 : AS} {w : World} {nt : NT} {a : Act} {Q : Exit → AS → Prop}
structure Ord (ops : Array Oper) (A : List (List Nat)) : Prop where
  back : ∀ (j : Nat) o, ops[j]? = some o → ∀ i ∈ edgesOf o, i < j
  ancLt : ∀ (j : Nat) o, ops[j]? = some o → ∀ i ∈ A.getD j [], i < j ∧ (i ∈ edgesOf o ∨ ∃ k ∈ edgesOf o, i ∈ A.getD k [])
  dist : ∀ (i j : Nat) p o, ops[i]? = some p → ops[j]? = some o → i ≠ j → ∀ t, p.dst = some t → o.dst ≠ some t
  look : ∀ (i j : Nat) p o, ops[i]? = some p → ops[j]? = some o → i ≠ j → ∀ t, p.dst = some t → t ∈ o.looksAt ops → i ∈ A.getD j [] ∨ j ∈ A.getD i []
theorem Ord.of {ops : Array Oper} {A : List (List Nat)} (h : ordOk ops.toList A = true) : Ord ops A := by
  have get : ∀ (j : Nat) o, ops[j]? = some o → j < ops.size ∧ ops.toList[j]? = some o := fun j o ho => ⟨(Array.getElem?_eq_some_iff.1 ho).1, by simpa using ho⟩
  unfold ordOk at h
  simp only [List.all_eq_true, List.mem_range, Array.length_toList] at h
  have h1 : ∀ (j : Nat) o, ops[j]? = some o → _ := fun j o ho => by
    have := h j (get j o ho).1
    rw [(get j o ho).2] at this
    exact this
  refine ⟨fun j o ho i hi => ?_, fun j o ho i hi => ?_, fun i j p o hi hj hne t ht ho => ?_, fun i j p o hi hj hne t ht hl => ?_⟩
  · have := h1 j o ho
    simp only [Bool.and_eq_true, List.all_eq_true, decide_eq_true_eq] at this
    exact this.1.1 i hi
  · have := h1 j o ho
    simp only [Bool.and_eq_true, List.all_eq_true, decide_eq_true_eq] at this
    have := this.1.2 i hi
    refine ⟨this.1, ?_⟩
    have h2 := this.2
    simp only [Bool.or_eq_true, List.any_eq_true, List.contains_iff_mem] at h2
    exact h2
  · have := h1 j o hj
    simp only [Bool.and_eq_true, List.all_eq_true, List.mem_range] at this
    have := this.2 i (get i p hi).1
    rw [(get i p hi).2] at this
    simp [hne, ht, ho] at this
  · have := h1 j o hj
    simp only [Bool.and_eq_true, List.all_eq_true, List.mem_range] at this
    have := this.2 i (get i p hi).1
    rw [(get i p hi).2] at this
    simp only [ht, Bool.or_eq_true, beq_iff_eq, hne, false_or, Bool.and_eq_true, Bool.not_eq_true', Array.toArray_toList] at this
    have h2 := this.1
    unfold ordered at h2
    simp only [Bool.or_eq_true, List.contains_iff_mem] at h2
    rcases h2 with h2 | h2
    · simp [hl] at h2
    · exact h2
structure MemOrd (ops : List Oper) (A : List (List Nat)) (z : List (Oper × St)) (s0 : AS) : Prop where
  look : ∀ (i j : Nat) p q, z[i]? = some p → z[j]? = some q → i ≠ j → ∀ id, p.2.touches id → id ∈ lookIds ops q.1 (stZ (fun i => decide (i < j)) 0 z s0) → i ∈ A.getD j [] ∨ j ∈ A.getD i []
  both : ∀ (i j : Nat) p q, z[i]? = some p → z[j]? = some q → i ≠ j → ∀ id, p.2.touches id → q.2.touches id → i ∈ A.getD j [] ∨ j ∈ A.getD i []
theorem closed_anc {ops : Array Oper} {A : List (List Nat)} (hA : Ord ops A) {L : Nat → Bool} (hL : ∀ j o, ops[j]? = some o → L j = true → ∀ i ∈ edgesOf o, L i = true) :
    ∀ (n j : Nat) o, j < n → ops[j]? = some o → (∀ i ∈ edgesOf o, L i = true) → ∀ i ∈ A.getD j [], L i = true := by
  intro n
  induction n with
  | zero => intro j o hj; omega
  | succ n ih =>
    intro j o hj ho he i hi
    obtain ⟨h1, h2⟩ := hA.ancLt j o ho i hi
    rcases h2 with h2 | ⟨k, hk, h2⟩
    · exact he i h2
    · have hkj := hA.back j o ho k hk
      have hks : k < ops.size := Nat.lt_trans hkj (Array.getElem?_eq_some_iff.1 ho).1
      have hko : ops[k]? = some ops[k] := Array.getElem?_eq_getElem hks
      exact ih k _ (by omega) hko (hL k _ hko (he k hk)) i h2
theorem any_order {ops : Array Oper} {A : List (List Nat)} {z : List (Oper × St)} (hz : z.map (·.1) = ops.toList) (hd : ∀ o ∈ ops, dstOk nt o.dst = true) (hA : Ord ops A) (hM : MemOrd ops.toList A z s0) (hrun : Run P ops.toList z s0)
    (hQ : Q .normal (stZ (fun _ => true) 0 z s0)) :
    ∀ (fuel : Nat) (listed : Array Bool) (M : Mem) (β : Loc) (a : Act) (w : World), listed.size = ops.size →
      (∀ j o, ops[j]? = some o → listed.getD j false = true → ∀ i ∈ edgesOf o, listed.getD i false = true) →
      (ops.size ≤ fuel + (List.range ops.size).countP fun i => listed.getD i false) →
      Rel C M β (stZ (fun i => listed.getD i false) 0 z s0) w → Slots nt M β (stZ (fun i => listed.getD i false) 0 z s0) a →
      wpAnyIn nt.F 0 P .any ops (lift C nt Q) fuel listed a w := by
  have hzl : z.length = ops.size := by rw [← Array.length_toList, ← hz]; simp
  have zop : ∀ (j : Nat) (p : Oper × St), z[j]? = some p → ops[j]? = some p.1 := fun j p hp => by
    have : (z.map (·.1))[j]? = some p.1 := by simp [hp]
    rw [hz] at this; simpa using this
  have zget : ∀ (j : Nat) (o : Oper), ops[j]? = some o → ∃ st, z[j]? = some (o, st) := fun j o ho => by
    have hj : j < z.length := by rw [hzl]; exact (Array.getElem?_eq_some_iff.1 ho).1
    have h1 : z[j]? = some z[j] := List.getElem?_eq_getElem hj
    have h2 := zop j _ h1
    rw [ho] at h2
    cases h2
    exact ⟨_, h1⟩
  have done : ∀ (listed : Array Bool) (M : Mem) (β : Loc) (a : Act) (w : World), listed.size = ops.size → Region.ready .any ops listed = [] →
      Rel C M β (stZ (fun i => listed.getD i false) 0 z s0) w → Slots nt M β (stZ (fun i => listed.getD i false) 0 z s0) a → lift C nt Q .normal a w := by
    intro listed M β a w hsz hr hR hS
    have all : ∀ n j, j < n → j < ops.size → listed.getD j false = true := by
      intro n
      induction n with
      | zero => intro j hj; omega
      | succ n ih =>
        intro j hj hjs
        have ho : ops[j]? = some ops[j] := Array.getElem?_eq_getElem hjs
        cases hl : listed.getD j false with
        | true => rfl
        | false =>
          exfalso
          have hmem : j ∈ Region.ready .any ops listed := by
            rw [mem_ready]
            refine ⟨?_, ops[j], ho, fun e he hb => ?_⟩
            · have hjl : j < listed.size := by omega
              rw [Array.getD_eq_getD_getElem?, Array.getElem?_eq_getElem hjl] at hl ⊢
              exact hl
            · have hi : e.on ∈ edgesOf ops[j] := by
                unfold edgesOf
                exact List.mem_map.2 ⟨e, List.mem_filter.2 ⟨by simpa using he, hb⟩, rfl⟩
              have := hA.back j _ ho e.on hi
              exact ih e.on (by omega) (by omega)
          rw [hr] at hmem
          cases hmem
    have heq : stZ (fun i => listed.getD i false) 0 z s0 = stZ (fun _ => true) 0 z s0 := by
      have lt : ∀ (i : Nat) (p : Oper × St), z[i]? = some p → listed.getD (0 + i) false = true := fun i p hp => by
        have : i < z.length := (List.getElem?_eq_some_iff.1 hp).1
        rw [Nat.zero_add]
        exact all (i + 1) i (by omega) (by omega)
      refine AS.ext' (fun t => env_congr z 0 s0 s0 rfl fun i p hp _ => lt i p hp) (fun id => box_congr z 0 s0 s0 rfl fun i p hp _ => lt i p hp) (fun id => ?_)
      rw [used_iff, used_iff]
      constructor
      · rintro (h | ⟨i, p, h1, _, h3⟩)
        · exact .inl h
        · exact .inr ⟨i, p, h1, rfl, h3⟩
      · rintro (h | ⟨i, p, h1, _, h3⟩)
        · exact .inl h
        · exact .inr ⟨i, p, h1, lt i p h1, h3⟩
    rw [heq] at hR hS
    exact ⟨_, M, β, hQ, hR, hS⟩
  intro fuel
  induction fuel with
  | zero =>
    intro listed M β a w hsz hcl hcnt hR hS
    have hnil : Region.ready .any ops listed = [] := by
      rw [List.eq_nil_iff_forall_not_mem]
      intro j hj
      rw [mem_ready] at hj
      obtain ⟨h1, o, ho, _⟩ := hj
      have hjs : j < ops.size := (Array.getElem?_eq_some_iff.1 ho).1
      have hle : (List.range ops.size).countP (fun i => listed.getD i false) = (List.range ops.size).length := by
        have := List.countP_le_length (p := fun i => listed.getD i false) (l := List.range ops.size)
        simp at this ⊢
        simp at hcnt
        omega
      rw [List.countP_eq_length] at hle
      have := hle j (List.mem_range.2 hjs)
      have hjl : j < listed.size := by omega
      rw [Array.getD_eq_getD_getElem?, Array.getElem?_eq_getElem hjl] at h1 this
      simp at h1 this
      rw [h1] at this
      cases this
    exact ⟨hnil, done listed M β a w hsz hnil hR hS⟩
  | succ fuel ih =>
    intro listed M β a w hsz hcl hcnt hR hS
    refine ⟨fun hnil => done listed M β a w hsz hnil hR hS, fun j hj => ?_⟩
    rw [mem_ready] at hj
    obtain ⟨hj0, o, ho, hedge⟩ := hj
    have hjs : j < ops.size := (Array.getElem?_eq_some_iff.1 ho).1
    have hjl : j < listed.size := by omega
    have hj1 : listed.getD j false = false := by
      rw [Array.getD_eq_getD_getElem?, Array.getElem?_eq_getElem hjl] at hj0 ⊢
      exact hj0
    obtain ⟨st, hst⟩ := zget j o ho
    have hedges : ∀ i ∈ edgesOf o, listed.getD i false = true := by
      intro i hi
      unfold edgesOf at hi
      obtain ⟨e, he, rfl⟩ := List.mem_map.1 hi
      obtain ⟨he, hb⟩ := List.mem_filter.1 he
      exact hedge e (by simpa using he) hb
    have hancs : ∀ i ∈ A.getD j [], listed.getD i false = true := closed_anc hA (L := fun i => listed.getD i false) hcl (j + 1) j o (Nat.lt_succ_self _) ho hedges
    -- who stands in order with j is listed just if it stands before
    have key : ∀ (i : Nat) (p : Oper × St), z[i]? = some p → (i ∈ A.getD j [] ∨ j ∈ A.getD i []) → listed.getD i false = decide (i < j) := by
      intro i p hp hor
      have hpo := zop i p hp
      rcases hor with h | h
      · have hlt := (hA.ancLt j o ho i h).1
        rw [hancs i h, decide_eq_true hlt]
      · have hlt := (hA.ancLt i _ hpo j h).1
        rw [decide_eq_false (by omega)]
        cases hl : listed.getD i false with
        | false => rfl
        | true =>
          have := closed_anc hA (L := fun i => listed.getD i false) hcl (i + 1) i _ (Nat.lt_succ_self _) hpo (hcl i _ hpo hl) j h
          rw [hj1] at this
          cases this
    have self : ∀ p : Oper × St, z[j]? = some p → listed.getD j false = decide (j < j) := fun p _ => by rw [hj1]; simp
    have hval := hrun j _ hst
    have hag : Agree (o.looksAt ops) (stZ (fun i => listed.getD i false) 0 z s0) (stZ (fun i => decide (i < j)) 0 z s0) := by
      refine ⟨fun t ht => ?_, fun t ht id hid => ?_⟩
      · refine env_congr z 0 s0 s0 rfl fun i p hp hdt => ?_
        rw [Nat.zero_add]
        by_cases hij : i = j
        · subst hij; exact self p hp
        · exact key i p hp (hA.look i j _ o (zop i p hp) ho hij t hdt ht)
      · refine box_congr z 0 s0 s0 rfl fun i p hp htc => ?_
        rw [Nat.zero_add]
        by_cases hij : i = j
        · subst hij; exact self p hp
        · refine key i p hp (hM.look i j p _ hp hst hij id htc ?_)
          unfold lookIds
          rw [mem_refsL]
          exact ⟨_, List.mem_map.2 ⟨t, by simpa using ht, rfl⟩, hid⟩
    have hfresh : ∀ d, st.fresh d → ¬ (stZ (fun i => decide (i < j)) 0 z s0).used d → ¬ (stZ (fun i => listed.getD i false) 0 z s0).used d := by
      intro d hfd hnu hu
      rw [used_iff] at hu
      rcases hu with hu | ⟨i, p, hp, hl, hfr⟩
      · exact hnu ((used_iff z 0 s0).2 (.inl hu))
      · rw [Nat.zero_add] at hl
        have hij : i ≠ j := fun he => by subst he; rw [hj1] at hl; cases hl
        rcases Nat.lt_or_gt_of_ne hij with hlt | hgt
        · exact hnu ((used_iff z 0 s0).2 (.inr ⟨i, p, hp, by simpa using hlt, hfr⟩))
        · have hvi := hrun i p hp
          have hui : (stZ (fun k => decide (k < i)) 0 z s0).used d := (used_iff z 0 s0).2 (.inr ⟨j, _, hst, by simpa using hgt, hfd⟩)
          -- i drew a number that was taken
          obtain ⟨f, hf, hff, rfl⟩ := hfr
          rcases hvi with ⟨_, hvi⟩ | ⟨_, hvi⟩
          · rw [hvi] at hf; cases hf
          · have hs : stepOk P p.1 p.2 (stZ (fun k => decide (k < i)) 0 z s0) → False := by
              intro hs
              unfold stepOk at hs
              split at hs
              · obtain ⟨f', _, h2, h3⟩ := hs
                rw [h3] at hf
                cases hf
                exact h2 hff hui
              · obtain ⟨v, _, h3⟩ := hs
                rw [h3] at hf; cases hf
            split at hvi
            · split at hvi
              · obtain ⟨_, _, _, h⟩ := hvi
                rcases h with ⟨_, _, _, ⟨_, h⟩ | ⟨e, zz, n, l, d, _, h2, h3⟩⟩ | ⟨_, e, l, d, r, _, _, _, _, _, _, h2, h3⟩
                · rw [h] at hf; cases hf
                · rw [h3] at hf; cases hf; exact h2 hui
                · rw [h3] at hf; cases hf; exact h2 hui
              · exact hs hvi
            · exact hvi
            · exact hs hvi
    have hv := valid_agree hval hag hfresh
    refine valid_wpOp ho (hd o (Array.mem_of_getElem? ho)) hv hR hS fun a' w' M' β' hR' hS' => ?_
    have hcomm : app o st (stZ (fun i => listed.getD i false) 0 z s0) = stZ (fun i => (listed.setIfInBounds j true).getD i false) 0 z s0 := by
      have setne : ∀ i, i ≠ j → (listed.setIfInBounds j true).getD i false = listed.getD i false := fun i hi => getD_set_ne false (Ne.symm hi)
      have seteq : (listed.setIfInBounds j true).getD j false = true := by simp [hjl]
      refine AS.ext' (fun t => ?_) (fun id => ?_) (fun id => ?_)
      · by_cases hdt : o.dst = some t
        · rw [app_env_eq hdt]
          refine (env_last z 0 j (o, st) s0 hst (by rw [Nat.zero_add]; exact seteq) hdt fun i q hi hq hqd => ?_).symm
          exact absurd hqd (hA.dist j i o _ ho (zop i q hq) (by omega) t hdt)
        · rw [app_env_ne hdt]
          refine env_congr z 0 s0 s0 rfl fun i p hp hpd => ?_
          rw [Nat.zero_add]
          by_cases hij : i = j
          · subst hij
            rw [hst] at hp; cases hp
            exact absurd hpd hdt
          · exact (setne i hij).symm
      · by_cases htc : st.touches id
        · refine (box_last z 0 j (o, st) s0 _ hst (by rw [Nat.zero_add]; exact seteq) htc fun i q hi hq hqt => ?_).symm
          rw [Nat.zero_add, setne i (by omega)]
          have := key i q hq (hM.both i j q _ hq hst (by omega) id hqt htc)
          rw [this]
          simp; omega
        · rw [app_box_ne htc]
          refine box_congr z 0 s0 s0 rfl fun i p hp hpt => ?_
          rw [Nat.zero_add]
          by_cases hij : i = j
          · subst hij
            rw [hst] at hp; cases hp
            exact absurd hpt htc
          · exact (setne i hij).symm
      · rw [app_used, used_iff, used_iff]
        constructor
        · rintro ((h | ⟨i, p, h1, h2, h3⟩) | h)
          · exact .inl h
          · refine .inr ⟨i, p, h1, ?_, h3⟩
            exact getD_set_true h2
          · exact .inr ⟨j, _, hst, by rw [Nat.zero_add]; exact seteq, h⟩
        · rintro (h | ⟨i, p, h1, h2, h3⟩)
          · exact .inl (.inl h)
          · rw [Nat.zero_add] at h2
            by_cases hij : i = j
            · subst hij
              rw [hst] at h1; cases h1
              exact .inr h3
            · exact .inl (.inr ⟨i, p, h1, by rw [Nat.zero_add, ← setne i hij]; exact h2, h3⟩)
    rw [hcomm] at hR' hS'
    refine ih _ M' β' a' w' (by simp [hsz]) ?_ ?_ hR' hS'
    · intro i p hp hl k hk
      by_cases hij : i = j
      · subst hij
        rw [ho] at hp; cases hp
        exact getD_set_true (hedges k hk)
      · rw [getD_set_ne false (Ne.symm hij)] at hl
        exact getD_set_true (hcl i p hp hl k hk)
    · have hcount : (List.range ops.size).countP (fun i => listed.getD i false) + 1 ≤ (List.range ops.size).countP (fun i => (listed.setIfInBounds j true).getD i false) := by
        have gen : ∀ l : List Nat, l.Nodup → j ∈ l → l.countP (fun i => listed.getD i false) + 1 ≤ l.countP (fun i => (listed.setIfInBounds j true).getD i false) := by
          intro l
          have mono : ∀ l : List Nat, l.countP (fun i => listed.getD i false) ≤ l.countP (fun i => (listed.setIfInBounds j true).getD i false) := fun l =>
            List.countP_mono_left fun x _ hx => getD_set_true hx
          induction l with
          | nil => intro _ h; cases h
          | cons x l ihl =>
            intro hnd hm
            rw [List.nodup_cons] at hnd
            by_cases hx : x = j
            · subst hx
              rw [List.countP_cons, List.countP_cons]
              have := mono l
              have e2 : (listed.setIfInBounds x true).getD x false = true := by simp [hjl]
              simp only [hj1, e2, if_true, Bool.false_eq_true, if_false]
              omega
            · have hm' : j ∈ l := by simpa [Ne.symm hx] using hm
              have := ihl hnd.2 hm'
              rw [List.countP_cons, List.countP_cons, getD_set_ne false (Ne.symm hx)]
              omega
        exact gen _ List.nodup_range (List.mem_range.2 hjs)
      omega
end
end Go.Fw
namespace Go.Fw
open Go Go.RowKit
def stepD (P : Program) (o : Oper) (s : AS) (k : AS → List Nat → Prop) : Prop :=
  if isMem P o.op = true then optK (evMem P s o.dst o.op) (fun f => (f.fresh = true → ¬ s.used f.d) ∧ k (s.put' f o.dst) (f.d :: f.kill.toList))
  else optK (evPure P s o.op) (fun v => k (s.put o.dst v) [])
def callD (P : Program) (o : Oper) (f : AV) (args : List AV) (s : AS) (k : AS → List Nat → Prop) : Prop :=
  ∃ fid caps, f = .fn fid caps ∧
    ((∃ r, refsL (args ++ caps) = [] ∧ Eval P fid (args ++ caps) (.ret r) ∧
      ((r.plainR = true ∧ k (s.put o.dst r) []) ∨
       ∃ e z n l d, r = .own e z n l ∧ ¬ s.used d ∧ k ((s.eff ⟨.bs d z 0 n, none, d, e, l, true⟩).put o.dst (.bs d z 0 n)) [d])) ∨
     ∃ id e l d r, refsL (args ++ caps) = [id] ∧ s.box id = some (.mut e l) ∧ refsL l = [] ∧ Eval P fid (resDL (upd s.box id (some (.frz l))) (args ++ caps)) (.ret r) ∧
       refsL (resDL (upd s.box id (some (.frz l))) (args ++ caps)) = [] ∧ r.plainR = true ∧ ¬ s.used d ∧ k ((s.eff ⟨r, some id, d, 0, [], true⟩).put o.dst r) [d, id])
@[congr] theorem callD_congr {P : Program} {o : Oper} {f f' : AV} {l l' : List AV} {s : AS} {k : AS → List Nat → Prop} (h : f = f') (h2 : l = l') : callD P o f l s k = callD P o f' l' s k := by rw [h, h2]
theorem callD_plain {P : Program} {o : Oper} {fid : FuncId} {caps args : List AV} {s : AS} {k : AS → List Nat → Prop} {r : AV} (hr : refsL (args ++ caps) = []) (h : Eval P fid (args ++ caps) (.ret r)) (hp : r.plainR = true)
    (hk : k (s.put o.dst r) []) : callD P o (.fn fid caps) args s k := ⟨fid, caps, rfl, .inl ⟨r, hr, h, .inl ⟨hp, hk⟩⟩⟩
theorem callD_frz {P : Program} {o : Oper} {fid : FuncId} {caps args : List AV} {s : AS} {k : AS → List Nat → Prop} {r : AV} (id d : Nat) {e : TypeId} {l : List AV} (args' : List AV) (hr : refsL (args ++ caps) = [id]) (hb : s.box id = some (.mut e l)) (hl : refsL l = [])
    (ha : resDL (upd s.box id (some (.frz l))) (args ++ caps) = args') (h : Eval P fid args' (.ret r)) (hra : refsL args' = []) (hp : r.plainR = true) (hd : ¬ s.used d)
    (hk : k ((s.eff ⟨r, some id, d, 0, [], true⟩).put o.dst r) [d, id]) : callD P o (.fn fid caps) args s k :=
  ⟨fid, caps, rfl, .inr ⟨id, e, l, d, r, hr, hb, hl, by rw [ha]; exact h, by rw [ha]; exact hra, hp, hd, hk⟩⟩
def vcnD (P : Program) (ops : List Oper) (A : List (List Nat)) (Q : AS → Prop) : List Oper → AS → List (List Nat × List Nat) → Prop
  | [], s, acc => memOk A acc = true ∧ Q s
  | o :: r, s, acc => optK (gOn ops o s) fun g =>
      if g = true then
        match o.op with
        | .call c => match c.callee with
          | .value f => callD P o (s.val f) (c.args.toList.map s.val) s fun s' ids => vcnD P ops A Q r s' (acc ++ [(lookIds ops o s, ids)])
          | _ => stepD P o s fun s' ids => vcnD P ops A Q r s' (acc ++ [(lookIds ops o s, ids)])
        | .panic _ => False
        | _ => stepD P o s fun s' ids => vcnD P ops A Q r s' (acc ++ [(lookIds ops o s, ids)])
      else vcnD P ops A Q r (s.put o.dst (.tup [])) (acc ++ [(lookIds ops o s, [])])
section
variable {P : Program} {s : AS} {nt : NT} {Q : Exit → AS → Prop}
def RunL (P : Program) (ops : List Oper) : List (Oper × St) → AS → Prop
  | [], _ => True
  | p :: z, s => valid P ops p.1 p.2 s ∧ RunL P ops z (app p.1 p.2 s)
def accOf (ops : List Oper) : List (Oper × St) → AS → List (List Nat × List Nat)
  | [], _ => []
  | p :: z, s => (lookIds ops p.1 s, p.2.ids) :: accOf ops z (app p.1 p.2 s)
theorem stZ_none {L : Nat → Bool} : ∀ (z : List (Oper × St)) (k : Nat) (s : AS), (∀ i, L (k + i) = false) → stZ L k z s = s
  | [], _, _, _ => rfl
  | p :: z, k, s, h => by
    simp only [stZ]
    have h0 := h 0
    simp only [Nat.add_zero] at h0
    rw [h0]
    exact stZ_none z (k + 1) s (fun i => by rw [show k + 1 + i = k + (i + 1) from by omega]; exact h (i + 1))
theorem runL_at {ops : List Oper} : ∀ (z : List (Oper × St)) (k : Nat) (s : AS), RunL P ops z s → ∀ (j : Nat) (p : Oper × St), z[j]? = some p → valid P ops p.1 p.2 (stZ (fun i => decide (i < k + j)) k z s)
  | [], _, _, _, _, _, h => by simp at h
  | q :: z, k, s, ⟨h1, h2⟩, 0, p, h => by
    simp at h; subst h
    rw [stZ_none _ k s (fun i => by simp)]
    exact h1
  | q :: z, k, s, ⟨h1, h2⟩, j + 1, p, h => by
    simp only [stZ]
    rw [if_pos (by simp), show k + (j + 1) = k + 1 + j from by omega]
    exact runL_at z (k + 1) _ h2 j p (by simpa using h)
theorem accOf_at {ops : List Oper} : ∀ (z : List (Oper × St)) (k : Nat) (s : AS) (j : Nat) (p : Oper × St), z[j]? = some p → (accOf ops z s)[j]? = some (lookIds ops p.1 (stZ (fun i => decide (i < k + j)) k z s), p.2.ids)
  | [], _, _, _, _, h => by simp at h
  | q :: z, k, s, 0, p, h => by
    simp at h; subst h
    rw [stZ_none _ k s (fun i => by simp)]
    rfl
  | q :: z, k, s, j + 1, p, h => by
    simp only [stZ, accOf, List.getElem?_cons_succ]
    rw [if_pos (by simp), show k + (j + 1) = k + 1 + j from by omega]
    exact accOf_at z (k + 1) _ j p (by simpa using h)
theorem accOf_length {ops : List Oper} : ∀ (z : List (Oper × St)) (s : AS), (accOf ops z s).length = z.length
  | [], _ => rfl
  | p :: z, s => by simp [accOf, accOf_length z]
theorem MemOrd.of {ops : List Oper} {A : List (List Nat)} {z : List (Oper × St)} {s0 : AS} (h : memOk A (accOf ops z s0) = true) : MemOrd ops A z s0 := by
  have key : ∀ (i j : Nat) (p q : Oper × St), z[i]? = some p → z[j]? = some q → i ≠ j → ∀ id, p.2.touches id →
      (i ∈ A.getD j [] ∨ j ∈ A.getD i []) ∨ (id ∉ lookIds ops q.1 (stZ (fun i => decide (i < j)) 0 z s0) ∧ id ∉ q.2.ids) := by
    intro i j p q hi hj hne id ht
    have ei := accOf_at (ops := ops) z 0 s0 i p hi
    have ej := accOf_at (ops := ops) z 0 s0 j q hj
    simp only [Nat.zero_add] at ei ej
    unfold memOk at h
    simp only [List.all_eq_true, List.mem_range, accOf_length] at h
    have h1 := h i (List.getElem?_eq_some_iff.1 hi).1
    rw [ei] at h1
    simp only [Bool.or_eq_true, List.all_eq_true, List.mem_range] at h1
    have hid := St.mem_ids.1 ht
    rcases h1 with h1 | h1
    · rw [List.isEmpty_iff.1 h1] at hid; cases hid
    · have h2 := h1 j (List.getElem?_eq_some_iff.1 hj).1
      rw [ej] at h2
      simp only [Bool.or_eq_true, beq_iff_eq, hne, false_or, List.all_eq_true, Bool.and_eq_true, Bool.not_eq_true'] at h2
      rcases h2 with h2 | h2
      · unfold ordered at h2
        simp only [Bool.or_eq_true, List.contains_iff_mem] at h2
        exact .inl h2
      · have := h2 id hid
        simp at this
        exact .inr this
  refine ⟨fun i j p q hi hj hne id ht hl => ?_, fun i j p q hi hj hne id ht ht' => ?_⟩
  · rcases key i j p q hi hj hne id ht with k | k
    · exact k
    · exact absurd hl k.1
  · rcases key i j p q hi hj hne id ht with k | k
    · exact k
    · exact absurd (St.mem_ids.1 ht') k.2
theorem stepD_run {o : Oper} {k : AS → List Nat → Prop} (h : stepD P o s k) : ∃ st, stepOk P o st s ∧ k (app o st s) st.ids := by
  unfold stepD at h
  unfold stepOk
  split at h
  · rename_i hm
    obtain ⟨f, h1, h2, h3⟩ := h
    exact ⟨⟨f.v, some f⟩, by rw [if_pos hm]; exact ⟨f, h1, h2, rfl⟩, h3⟩
  · rename_i hm
    obtain ⟨v, h1, h3⟩ := h
    exact ⟨⟨v, none⟩, by rw [if_neg hm]; exact ⟨v, h1, rfl⟩, h3⟩
theorem vcnD_run {ops : List Oper} {A : List (List Nat)} {Q : AS → Prop} : ∀ (l : List Oper) (s : AS) (acc : List (List Nat × List Nat)), vcnD P ops A Q l s acc →
    ∃ z : List (Oper × St), z.map (·.1) = l ∧ RunL P ops z s ∧ memOk A (acc ++ accOf ops z s) = true ∧ Q (stZ (fun _ => true) 0 z s)
  | [], s, acc, ⟨h1, h2⟩ => ⟨[], rfl, trivial, by simpa [accOf] using h1, h2⟩
  | o :: r, s, acc, h => by
    have off : ∀ (z : List (Oper × St)) (k : Nat) (s : AS), stZ (fun _ => true) k z s = stZ (fun _ => true) 0 z s := by
      intro z
      induction z with
      | nil => intro k s; rfl
      | cons p z ih => intro k s; simp only [stZ, if_true]; rw [ih (k + 1), ih (0 + 1)]
    have fin : ∀ st : St, valid P ops o st s → vcnD P ops A Q r (app o st s) (acc ++ [(lookIds ops o s, st.ids)]) →
        ∃ z : List (Oper × St), z.map (·.1) = o :: r ∧ RunL P ops z s ∧ memOk A (acc ++ accOf ops z s) = true ∧ Q (stZ (fun _ => true) 0 z s) := by
      intro st hv hk
      obtain ⟨z, k1, k2, k3, k4⟩ := vcnD_run r _ _ hk
      refine ⟨(o, st) :: z, by simp [k1], ⟨hv, k2⟩, ?_, ?_⟩
      · simpa [accOf, List.append_assoc] using k3
      · simp only [stZ, if_true]
        rw [off]; exact k4
    simp only [vcnD] at h
    obtain ⟨g, hg, h⟩ := h
    cases g with
    | false =>
      simp only [Bool.false_eq_true, if_false] at h
      exact fin ⟨.tup [], none⟩ (.inl ⟨hg, rfl⟩) h
    | true =>
      simp only [if_true] at h
      have hstep : stepD P o s (fun s' ids => vcnD P ops A Q r s' (acc ++ [(lookIds ops o s, ids)])) → (∀ st, stepOk P o st s → valid P ops o st s) → ∃ z : List (Oper × St), z.map (·.1) = o :: r ∧ RunL P ops z s ∧ memOk A (acc ++ accOf ops z s) = true ∧ Q (stZ (fun _ => true) 0 z s) := fun hk hval => by
        obtain ⟨st, h1, h2⟩ := stepD_run hk
        exact fin st (hval st h1) h2
      split at h
      · rename_i c hc
        split at h
        · rename_i f hf
          obtain ⟨fid, caps, e1, h⟩ := h
          rcases h with ⟨rr, e2, e3, e4⟩ | ⟨id, e, l, d, rr, e2, e3, e4, e5, e6, e7, e8, e9⟩
          · rcases e4 with ⟨e4, e5⟩ | ⟨e, z, n, l, d, e4, e5, e6⟩
            · refine fin ⟨rr, none⟩ (.inr ⟨hg, ?_⟩) e5
              simp only [hc, hf]
              exact ⟨fid, caps, e1, .inl ⟨e2, rr, e3, .inl ⟨e4, rfl⟩⟩⟩
            · refine fin ⟨.bs d z 0 n, some ⟨.bs d z 0 n, none, d, e, l, true⟩⟩ (.inr ⟨hg, ?_⟩) e6
              simp only [hc, hf]
              exact ⟨fid, caps, e1, .inl ⟨e2, rr, e3, .inr ⟨e, z, n, l, d, e4, e5, rfl⟩⟩⟩
          · refine fin ⟨rr, some ⟨rr, some id, d, 0, [], true⟩⟩ (.inr ⟨hg, ?_⟩) e9
            simp only [hc, hf]
            exact ⟨fid, caps, e1, .inr ⟨id, e, l, d, rr, e2, e3, e4, e5, e6, e7, e8, rfl⟩⟩
        · rename_i hf
          refine hstep h fun st hs => .inr ⟨hg, ?_⟩
          simp only [hc]
          first
            | exact hs
            | (split
               · rename_i f hf2; exact absurd hf2 (hf f)
               · exact hs)
      · exact h.elim
      · rename_i h1 h2
        refine hstep h fun st hs => .inr ⟨hg, ?_⟩
        first
          | exact hs
          | (split
             · rename_i c hc; exact absurd hc (h1 c)
             · rename_i x hx; exact absurd hx (h2 x)
             · exact hs)
theorem W_drawn {id : Nat} {ops : Array Oper} (hm : P.follows .mixedOrders = true) (hd : ops.toList.all (fun o => dstOk nt o.dst) = true) (hA : ordOk ops.toList (ancs ops.toList) = true)
    (h : vcnD P ops.toList (ancs ops.toList) (Q .normal) ops.toList s []) : W P nt (.region id ops true) s Q := by
  intro C M β a w hR hS
  obtain ⟨z, k1, k2, k3, k4⟩ := vcnD_run _ _ _ h
  refine wpIn_region_any hm ?_
  have hrep : ∀ i, (Array.replicate ops.size false).getD i false = false := fun i => by
    rw [Array.getD_eq_getD_getElem?, Array.getElem?_replicate]
    split <;> rfl
  have hs0 : stZ (fun i => (Array.replicate ops.size false).getD i false) 0 z s = s := stZ_none z 0 s (fun i => hrep _)
  have hR' := hR.draw (w' := { w with drawn := w.drawn + 1 }) rfl rfl rfl rfl
  refine any_order k1 (fun o ho => List.all_eq_true.1 hd o (by simpa using ho)) (Ord.of hA) (MemOrd.of (by simpa using k3)) (fun j p hp => by have := runL_at z 0 s k2 j p hp; rwa [Nat.zero_add] at this) k4
    ops.size _ M β a _ (by simp) (fun j o _ hl => by rw [hrep] at hl; cases hl) (Nat.le_add_right _ _) (by rw [hs0]; exact hR') (by rw [hs0]; exact hS)
end
end Go.Fw
namespace Go.Fw
open Go Go.RowKit
section
variable {P : Program} {s : AS} {f : FuncId} {args caps : List AV} {K : Out → AS → Prop}
theorem CallG_plain {r : AV} (h : Eval P f (args ++ caps) (.ret r)) (hr : refsL (args ++ caps) = []) (hp : r.plainR = true) (hk : K (.ret r) s) : CallG P (.fn f caps) args s K := by
  have hid := fun box => resDL_id box _ hr
  refine CallV.pure 0 (out := .ret r) ?_ ?_ ?_ ?_
  · rw [hid]; exact h
  · rw [hr]; trivial
  · rw [hid]; exact hr
  · rw [hr]; exact adoptK_plain hp hk
theorem CallG_own {e z n : Nat} {l : List AV} (d : Nat) (h : Eval P f (args ++ caps) (.ret (.own e z n l))) (hr : refsL (args ++ caps) = []) (hd : ¬ s.used d)
    (hk : K (.ret (.bs d z 0 n)) ⟨s.env, upd s.box d (some (.mut e l)), fun j => j = d ∨ s.used j⟩) : CallG P (.fn f caps) args s K := by
  have hid := fun box => resDL_id box _ hr
  refine CallV.pure d (out := .ret (.own e z n l)) ?_ ?_ ?_ ?_
  · rw [hid]; exact h
  · rw [hr]; trivial
  · rw [hid]; exact hr
  · rw [hr]; exact ⟨hd, hk⟩
theorem CallG_frz {r : AV} (args' : List AV) (s' : AS) (hs : frzS (refsL (args ++ caps)) s = s') (ha : resDL s'.box (args ++ caps) = args') (h : Eval P f args' (.ret r)) (hf : frzOk (refsL (args ++ caps)) s) (hr : refsL args' = [])
    (hp : r.plainR = true) (hk : K (.ret r) s') : CallG P (.fn f caps) args s K := by
  subst hs
  refine CallV.pure 0 (out := .ret r) ?_ hf ?_ ?_
  · rw [ha]; exact h
  · rw [ha]; exact hr
  · exact adoptK_plain hp hk
end
section
variable {P : Program} {s : AS} {nt : NT} {Q : Exit → AS → Prop}
end
end Go.Fw
namespace Go.Fw
open Go
theorem W_rg {P : Program} {nt : NT} {s : AS} {Q : Exit → AS → Prop} {id : Nat} {ops : Array Oper} (h : vcn P ops.toList Q ops.toList s) (hd : ops.toList.all (fun o => dstOk nt o.dst) = true := by first | decide | (with_unfolding_all rfl)) : W P nt (.region id ops false) s Q := W_region hd h
end Go.Fw

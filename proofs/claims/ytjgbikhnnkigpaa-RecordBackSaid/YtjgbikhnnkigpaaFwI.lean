/- Every quiet operation in one function. -/
import Derived.Test.YtjgbikhnnkigpaaFwH
set_option linter.unusedSimpArgs false
set_option linter.unusedVariables false
namespace Go.Fw
open Go Go.RowKit

def evLen (P : Program) (t : TypeId) (x : AV) : Option AV :=
  match x with
  | .v (.string b) => if strP P t = true then some (.v (.int .i64 b.size)) else none
  | .v (.slice none 0 0) => if (elemP P t).isSome = true then some (.v (.int .i64 0)) else none
  | .slc _ _ n _ => if (elemP P t).isSome = true then some (.v (.int .i64 n)) else none
  | .bs _ _ _ n => if (elemP P t).isSome = true then some (.v (.int .i64 n)) else none
  | _ => none

def evMinMax (isMax : Bool) : AV → List AV → Option AV
  | x, [] => some x
  | .v (.int k a), .v (.int _ b) :: rest => evMinMax isMax (.v (.int k (if isMax = true then (if a < b then b else a) else (if b < a then b else a)))) rest
  | _, _ => none

def evBuiltin (P : Program) (b : Builtin) (args : List AV) (ts : List TypeId) : Option AV :=
  match b, args, ts with
  | .len, [x], [t] => evLen P t x
  | .min, .v (.int k a) :: rest, _ => evMinMax false (.v (.int k a)) rest
  | .max, .v (.int k a) :: rest, _ => evMinMax true (.v (.int k a)) rest
  | _, _, _ => none

def evPure (P : Program) (s : AS) : Op → Option AV
  | .move x => some (s.val x)
  | .assign x => some (s.val x)
  | .pick c x y => match s.val c with
    | .v (.bool b) => some (if b = true then s.val x else s.val y)
    | _ => none
  | .load t p => (s.mem (s.val p)).bind (partAV P t)
  | .nilCheck x => match s.val x with
    | .ip l => some (.ip l)
    | .bp id off => some (.bp id off)
    | .fn f l => some (.fn f l)
    | _ => none
  | .binOp op t x y _ => evBin P op t (s.val x) (s.val y)
  | .unOp op _ x => evUn op (s.val x)
  | .convert src dst x => evConv P s src dst (s.val x)
  | .fieldAddr t x f => evFieldAddr P t (s.val x) f
  | .field t x f => evField P t (s.val x) f
  | .indexAddr t x i => evIndexAddr P t (s.val x) (s.val i)
  | .index t x i => evIndex P t (s.val x) (s.val i)
  | .slice t x lo hi mx => evSlice P t (s.val x) (lo.map s.val) (hi.map s.val) (mx.map s.val)
  | .build t parts => evBuild P t (parts.toList.map fun p => (p.1, s.val p.2))
  | .extract x i => match s.val x with
    | .tup l => l[i]?
    | _ => none
  | .makeFunc (.func f) first caps => if first.size = 0 ∧ (caps.toList.map s.val).all AV.isCell = true then some (.fn f (caps.toList.map s.val)) else none
  | .makeInterface t x => if P.concrete t = true then (match s.val x with
    | .v y => some (.v (.iface t y))
    | .agg [] => some (.v (.iface t (.agg #[])))
    | _ => none) else none
  | .call c => match c.callee with
    | .builtin b => evBuiltin P b (c.args.toList.map s.val) c.argTypes.toList
    | _ => none
  | _ => none

section
variable {P : Program} {C : Ctx} {M : Mem} {β : Loc} {s : AS} {w : World} {nt : Nat} {a : Act}

theorem ok_v {x : Value} (h : x.oneCell' = true) : Ok M β s (.v x) x := ⟨⟨rfl, h⟩, by simp [AV.refs]⟩

theorem len_ok {x r : AV} {u : Value} (hx : Ok M β s x u) {t rt : TypeId} (hr : evLen P t x = some r) :
    ∃ y, (Builtin.len_ #[t] rt #[u]).run P w = .ok y w ∧ Ok M β s r y := by
  have sl : ∀ (ad : Option Addr) (n cap : Nat), (elemP P t).isSome = true → (Builtin.len_ #[t] rt #[.slice ad n cap]).run P w = .ok (goInt n) w := by
    intro ad n cap he
    obtain ⟨e, he⟩ := Option.isSome_iff_exists.1 he
    simp [Builtin.len_, run_underlying (elemP_spec he)]
  unfold evLen at hr
  split at hr
  · split at hr
    · rename_i b hs
      cases hr
      obtain ⟨rfl, _⟩ := hx.rep
      exact ⟨_, by simp [Builtin.len_, run_underlying (strP_spec hs), goInt], ok_v rfl⟩
    · cases hr
  · split at hr
    · rename_i hs
      cases hr
      obtain ⟨rfl, _⟩ := hx.rep
      exact ⟨_, sl _ _ _ hs, ok_v rfl⟩
    · cases hr
  · split at hr
    · rename_i hs
      cases hr
      obtain ⟨ad, cap, rfl, _⟩ := hx.rep
      exact ⟨_, sl _ _ _ hs, ok_v rfl⟩
    · cases hr
  · split at hr
    · rename_i hs
      cases hr
      obtain ⟨ad, cap, rfl, _⟩ := hx.rep
      exact ⟨_, sl _ _ _ hs, ok_v rfl⟩
    · cases hr
  · cases hr

theorem min_run (k : IntKind) : ∀ (l : List AV) (us : List Value) (x : Int) (r : AV), us.length = l.length → (∀ (i : Nat) (p : AV) (q : Value), l[i]? = some p → us[i]? = some q → Ok M β s p q) →
    evMinMax false (.v (.int k x)) l = some r → ∃ y, (us.foldlM Builtin.min2 (.int k x)).run P w = .ok y w ∧ Ok M β s r y
  | [], us, x, r, hl, _, hr => by
    have : us = [] := List.eq_nil_of_length_eq_zero (by simpa using hl)
    subst this
    simp [evMinMax] at hr
    subst hr
    exact ⟨_, rfl, ok_v rfl⟩
  | p :: l, us, x, r, hl, hp, hr => by
    cases us with
    | nil => simp at hl
    | cons u us =>
      have h0 := hp 0 p u rfl rfl
      cases p with
      | v y =>
        cases y <;> simp only [evMinMax] at hr <;> try (cases hr; done)
        rename_i k' b
        obtain ⟨rfl, _⟩ := h0.rep
        obtain ⟨y, h1, h2⟩ := min_run k l us _ r (by simpa using hl) (fun i p q hp' hq' => hp (i + 1) p q hp' hq') hr
        refine ⟨y, ?_, h2⟩
        simp only [List.foldlM_cons, Sem.run_bind, Builtin.min2, Sem.run_pure, Result.andThen_ok]
        simpa using h1
      | _ => simp [evMinMax] at hr

theorem max_run (k : IntKind) : ∀ (l : List AV) (us : List Value) (x : Int) (r : AV), us.length = l.length → (∀ (i : Nat) (p : AV) (q : Value), l[i]? = some p → us[i]? = some q → Ok M β s p q) →
    evMinMax true (.v (.int k x)) l = some r → ∃ y, (us.foldlM Builtin.max2 (.int k x)).run P w = .ok y w ∧ Ok M β s r y
  | [], us, x, r, hl, _, hr => by
    have : us = [] := List.eq_nil_of_length_eq_zero (by simpa using hl)
    subst this
    simp [evMinMax] at hr
    subst hr
    exact ⟨_, rfl, ok_v rfl⟩
  | p :: l, us, x, r, hl, hp, hr => by
    cases us with
    | nil => simp at hl
    | cons u us =>
      have h0 := hp 0 p u rfl rfl
      cases p with
      | v y =>
        cases y <;> simp only [evMinMax] at hr <;> try (cases hr; done)
        rename_i k' b
        obtain ⟨rfl, _⟩ := h0.rep
        obtain ⟨y, h1, h2⟩ := max_run k l us _ r (by simpa using hl) (fun i p q hp' hq' => hp (i + 1) p q hp' hq') hr
        refine ⟨y, ?_, h2⟩
        simp only [List.foldlM_cons, Sem.run_bind, Builtin.max2, Sem.run_pure, Result.andThen_ok]
        simpa using h1
      | _ => simp [evMinMax] at hr

theorem bltin_ok {b : Builtin} {l : List AV} {us : List Value} (hl : us.length = l.length) (hp : ∀ (i : Nat) (p : AV) (q : Value), l[i]? = some p → us[i]? = some q → Ok M β s p q)
    {ts : List TypeId} {rt : TypeId} {r : AV} (hr : evBuiltin P b l ts = some r) : ∃ y, (∀ cs, (builtin b ts.toArray rt cs us.toArray).run P w = .ok (.value y) w) ∧ Ok M β s r y := by
  unfold evBuiltin at hr
  split at hr
  · rename_i x t
    match us, hl with
    | [u], _ =>
      obtain ⟨y, h1, h2⟩ := len_ok (P := P) (w := w) (rt := rt) (hp 0 x u rfl rfl) hr
      exact ⟨y, fun _ => by simp [builtin, h1], h2⟩
  · rename_i k x rest
    cases us with
    | nil => simp at hl
    | cons u us =>
      obtain ⟨rfl, _⟩ := (hp 0 _ u rfl rfl).rep
      obtain ⟨y, h1, h2⟩ := min_run (P := P) (w := w) k rest us x r (by simpa using hl) (fun i p q hp' hq' => hp (i + 1) p q hp' hq') hr
      exact ⟨y, fun _ => by simp [builtin, Builtin.min_, h1], h2⟩
  · rename_i k x rest
    cases us with
    | nil => simp at hl
    | cons u us =>
      obtain ⟨rfl, _⟩ := (hp 0 _ u rfl rfl).rep
      obtain ⟨y, h1, h2⟩ := max_run (P := P) (w := w) k rest us x r (by simpa using hl) (fun i p q hp' hq' => hp (i + 1) p q hp' hq') hr
      exact ⟨y, fun _ => by simp [builtin, Builtin.max_, h1], h2⟩
  · cases hr

theorem okO_map (h : Rel C M β s w) (hs : Slots nt M β s a) (o : Option Operand) : OkO M β (o.map s.val) (o.map a.eval) := by
  cases o with
  | none => trivial
  | some o => exact (val_ok h hs o).rep

theorem map_val_ok (h : Rel C M β s w) (hs : Slots nt M β s a) (os : List Operand) (i : Nat) (p : AV) (q : Value) (hp : (os.map s.val)[i]? = some p) (hq : (os.map a.eval)[i]? = some q) : Ok M β s p q := by
  rw [List.getElem?_map] at hp hq
  cases ho : os[i]? with
  | none => rw [ho] at hp; cases hp
  | some o => rw [ho] at hp hq; cases hp; cases hq; exact val_ok h hs o

/-- A quiet operation: the model comes to a value that stands for what was reckoned; the world is as it was. -/
theorem pure_ok (h : Rel C M β s w) (hs : Slots nt M β s a) (o : Oper) {r : AV} (hr : evPure P s o.op = some r) :
    ∃ y, (execOp a.eval o).run P w = .ok (.value y) w ∧ Ok M β s r y := by
  obtain ⟨dst, op, ty, pos, after, guard⟩ := o
  simp only at hr
  cases op <;> simp only [evPure] at hr <;> try (cases hr; done)
  case move x => cases hr; exact ⟨_, rfl, val_ok h hs x⟩
  case assign x => cases hr; exact ⟨_, rfl, val_ok h hs x⟩
  case pick c x y =>
    split at hr
    · rename_i b hb
      cases hr
      have hc := (val_ok h hs c)
      rw [hb] at hc
      have hc' := hc.rep.1
      cases b
      · exact ⟨_, by simp [execOp, hc', asBool], val_ok h hs y⟩
      · exact ⟨_, by simp [execOp, hc', asBool], val_ok h hs x⟩
    · cases hr
  case load t p =>
    cases hm : s.mem (s.val p) with
    | none => simp [hm] at hr
    | some l =>
      simp [hm] at hr
      obtain ⟨y, h1, h2⟩ := load_ok (P := P) h (val_ok h hs p) hm hr
      exact ⟨y, by simp [execOp, h1], h2⟩
  case nilCheck x =>
    have hx := val_ok h hs x
    split at hr
    · rename_i l hl
      cases hr
      rw [hl] at hx
      obtain ⟨b, o, cs, he, _⟩ := hx.rep
      exact ⟨a.eval x, by simp [execOp, he], hx⟩
    · rename_i id off hl
      cases hr
      rw [hl] at hx
      obtain ⟨b, sz, _, he⟩ := hx.rep
      exact ⟨a.eval x, by simp [execOp, he], hx⟩
    · rename_i f l hl
      cases hr
      rw [hl] at hx
      obtain ⟨vs, he, _⟩ := hx.rep
      exact ⟨a.eval x, by simp [execOp, he], hx⟩
    · cases hr
  case binOp op t x y yt =>
    obtain ⟨z, h1, h2⟩ := bin_ok (P := P) (w := w) (val_ok h hs x) (val_ok h hs y) hr x y
    exact ⟨z, by simp only [execOp, Sem.run_bind] at h1 ⊢; rw [h1]; rfl, h2⟩
  case unOp op t x =>
    obtain ⟨z, h1, h2⟩ := un_ok (P := P) (w := w) (val_ok h hs x) hr
    exact ⟨z, by simp [execOp, h1], h2⟩
  case convert src dst x =>
    obtain ⟨z, h1, h2⟩ := conv_ok (P := P) h (val_ok h hs x) hr
    exact ⟨z, by simp [execOp, h1], h2⟩
  case fieldAddr t x f =>
    obtain ⟨z, h1, h2⟩ := fieldAddr_ok (P := P) (w := w) (val_ok h hs x) hr
    exact ⟨z, by simp [execOp, h1], h2⟩
  case field t x f =>
    obtain ⟨z, h1, h2⟩ := field_ok (P := P) (w := w) (val_ok h hs x) hr
    exact ⟨z, by simp [execOp, h1], h2⟩
  case indexAddr t x i =>
    obtain ⟨z, h1, h2⟩ := indexAddr_ok (P := P) (w := w) (val_ok h hs x) (val_ok h hs i) hr
    exact ⟨z, by simp [execOp, h1], h2⟩
  case index t x i =>
    obtain ⟨z, h1, h2⟩ := index_ok (P := P) (w := w) (val_ok h hs x) (val_ok h hs i) hr
    exact ⟨z, by simp [execOp, h1], h2⟩
  case slice t x lo hi mx =>
    obtain ⟨z, h1, h2⟩ := slice_ok (P := P) (w := w) (val_ok h hs x) (okO_map h hs lo) (okO_map h hs hi) (okO_map h hs mx) hr
    exact ⟨z, by simp [execOp, h1], h2⟩
  case build t parts =>
    obtain ⟨z, h1, h2⟩ := build_ok (P := P) (w := w) (s := s) (M := M) (β := β) (parts := parts.toList.map fun p => (p.1, s.val p.2)) (ps := parts.toList.map fun p => (p.1, a.eval p.2)) (by simp)
      (fun i p q hp hq => by
        rw [List.getElem?_map] at hp hq
        cases ho : parts.toList[i]? with
        | none => rw [ho] at hp; cases hp
        | some o => rw [ho] at hp hq; cases hp; cases hq; exact ⟨rfl, val_ok h hs o.2⟩) hr
    refine ⟨z, ?_, h2⟩
    have e : (parts.map fun x => match x with | (i, x) => (i, a.eval x)) = (parts.toList.map fun p => (p.1, a.eval p.2)).toArray := by
      apply Array.ext'
      simp
    simp only [execOp, Sem.run_bind]
    rw [e, h1]
    rfl
  case extract x i =>
    have hx := val_ok h hs x
    split at hr
    · rename_i l hl
      rw [hl] at hx
      obtain ⟨vs, he, h1, h2⟩ := hx.rep
      obtain ⟨y, h3, h4⟩ := (RepT.iff l vs 0).1 h2 i r hr
      simp only [Nat.zero_add] at h3
      refine ⟨y, by simp [execOp, he, Instr.extract, h3], h4, fun j hj => hx.ref j ?_⟩
      simp only [AV.refs]
      exact mem_refsL.2 ⟨r, List.mem_of_getElem? hr, hj⟩
    · cases hr
  case makeFunc fn first caps =>
    cases fn <;> simp only at hr <;> try (cases hr; done)
    rename_i f
    split at hr
    · rename_i hc
      cases hr
      refine ⟨.func (.func f) #[] (caps.map a.eval), ?_, ⟨caps.map a.eval, rfl, by simp, ?_⟩, ?_⟩
      · have : first = #[] := by simpa using hc.1
        subst this
        simp [execOp, Instr.makeFunc]
      · rw [RepAt.iff]
        intro i v hv
        rw [List.getElem?_map] at hv
        cases ho : caps.toList[i]? with
        | none => rw [ho] at hv; cases hv
        | some o =>
          rw [ho] at hv
          simp at hv
          subst hv
          have hok := val_ok h hs o
          have hcell : (s.val o).isCell = true := List.all_eq_true.1 hc.2 _ (List.mem_map.2 ⟨o, List.mem_of_getElem? ho, rfl⟩)
          have ho' : caps[i]? = some o := by simpa using ho
          exact ⟨a.eval o, by simp [ho'], oneCell_of_cell hcell hok.rep, hok.rep⟩
      · intro j hj
        simp only [AV.refs] at hj
        obtain ⟨v, hv, hj⟩ := mem_refsL.1 hj
        obtain ⟨o, _, rfl⟩ := List.mem_map.1 hv
        exact (val_ok h hs o).ref j hj
    · cases hr
  case makeInterface t x =>
    have hx := val_ok h hs x
    split at hr
    · rename_i hc
      split at hr
      · rename_i y hy
        cases hr
        rw [hy] at hx
        refine ⟨_, ?_, ok_v rfl⟩
        simp [execOp, hx.rep.1, run_makeInterface w t y hc]
      · rename_i hy
        cases hr
        rw [hy] at hx
        obtain ⟨vs, he, h1, _⟩ := hx.rep
        have : vs = #[] := by simpa using h1
        subst this
        refine ⟨_, ?_, ok_v rfl⟩
        simp [execOp, he, run_makeInterface w t _ hc]
      · cases hr
    · cases hr
  case call c =>
    split at hr
    · rename_i b hb
      obtain ⟨y, h1, h2⟩ := bltin_ok (P := P) (w := w) (s := s) (M := M) (β := β) (us := c.args.toList.map a.eval) (rt := ty) (by simp)
        (map_val_ok h hs c.args.toList) hr
      refine ⟨y, ?_, h2⟩
      have e : c.args.map a.eval = (c.args.toList.map a.eval).toArray := by apply Array.ext'; simp
      simp only [execOp, resolve, hb, Sem.run_bind, Sem.run_pure, Result.andThen_ok, invoke]
      rw [e]
      exact h1 _
    · cases hr
end
end Go.Fw

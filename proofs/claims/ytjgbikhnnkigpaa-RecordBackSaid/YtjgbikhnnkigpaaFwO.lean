/- Functions: what a call comes to; into a body; a call by what it comes to. -/
import Derived.Test.YtjgbikhnnkigpaaFwN
set_option linter.unusedSimpArgs false
set_option linter.unusedVariables false
namespace Go.Fw
open Go Go.RowKit

mutual
/-- A value in the light of what its boxes have become, its parts too. -/
def resD (box : Nat → Option Box) : AV → AV
  | .agg l => .agg (resDL box l)
  | .tup l => .tup (resDL box l)
  | .fn f l => .fn f (resDL box l)
  | .v x => .v x
  | .slc f z n l => .slc f z n l
  | .ip l => .ip l
  | .bp id off => resB box (.bp id off)
  | .bs id z off n => resB box (.bs id z off n)
  | .own e z n l => .own e z n l
  | .junk => .junk
  | .unk => .unk
def resDL (box : Nat → Option Box) : List AV → List AV
  | [] => []
  | a :: l => resD box a :: resDL box l
end

theorem resDL_length (box : Nat → Option Box) : ∀ l, (resDL box l).length = l.length
  | [] => rfl
  | a :: l => by simp [resDL, resDL_length box l]

theorem resDL_eq (box : Nat → Option Box) : ∀ l, resDL box l = l.map (resD box)
  | [] => rfl
  | a :: l => by simp [resDL, resDL_eq box l]

mutual
theorem resD_ok {C : Ctx} {M : Mem} {β : Loc} {s : AS} {w : World} (h : Rel C M β s w) : ∀ (v : AV) (x : Value), Ok M β s v x → Ok M β s (resD s.box v) x
  | .agg l, _, ⟨⟨vs, h1, h2, h3⟩, h4⟩ => by
    obtain ⟨k1, k2⟩ := resDL_at h l vs 0 h3 (by simpa [AV.refs] using h4)
    exact ⟨⟨vs, h1, by rw [h2, resDL_length], k1⟩, by simpa [resD, AV.refs] using k2⟩
  | .tup l, _, ⟨⟨vs, h1, h2, h3⟩, h4⟩ => by
    obtain ⟨k1, k2⟩ := resDL_t h l vs 0 h3 (by simpa [AV.refs] using h4)
    exact ⟨⟨vs, h1, by rw [h2, resDL_length], k1⟩, by simpa [resD, AV.refs] using k2⟩
  | .fn f l, _, ⟨⟨vs, h1, h2, h3⟩, h4⟩ => by
    obtain ⟨k1, k2⟩ := resDL_at h l vs 0 h3 (by simpa [AV.refs] using h4)
    exact ⟨⟨vs, h1, by rw [h2, resDL_length], k1⟩, by simpa [resD, AV.refs] using k2⟩
  | .v _, _, h => h
  | .slc _ _ _ _, _, h => h
  | .ip _, _, h => h
  | .bp _ _, _, hv => resB_ok h hv
  | .bs _ _ _ _, _, hv => resB_ok h hv
  | .own _ _ _ _, _, h => h
  | .junk, _, h => h
  | .unk, _, h => h
theorem resDL_at {C : Ctx} {M : Mem} {β : Loc} {s : AS} {w : World} (h : Rel C M β s w) : ∀ (l : List AV) (cs : Array Value) (o : Nat), RepAt M β l cs o → (∀ j ∈ refsL l, s.used j) →
    RepAt M β (resDL s.box l) cs o ∧ ∀ j ∈ refsL (resDL s.box l), s.used j
  | [], _, _, _, _ => ⟨trivial, by simp [resDL, refsL]⟩
  | a :: l, cs, o, ⟨⟨y, h1, h2, h3⟩, h4⟩, hr => by
    have ha := resD_ok h a y ⟨h3, fun j hj => hr j (by simp [refsL, hj])⟩
    obtain ⟨k1, k2⟩ := resDL_at h l cs (o + 1) h4 (fun j hj => hr j (by simp [refsL, hj]))
    refine ⟨⟨⟨y, h1, h2, ha.rep⟩, k1⟩, fun j hj => ?_⟩
    simp only [resDL, refsL, List.mem_append] at hj
    exact hj.elim (ha.ref j) (k2 j)
theorem resDL_t {C : Ctx} {M : Mem} {β : Loc} {s : AS} {w : World} (h : Rel C M β s w) : ∀ (l : List AV) (cs : Array Value) (o : Nat), RepT M β l cs o → (∀ j ∈ refsL l, s.used j) →
    RepT M β (resDL s.box l) cs o ∧ ∀ j ∈ refsL (resDL s.box l), s.used j
  | [], _, _, _, _ => ⟨trivial, by simp [resDL, refsL]⟩
  | a :: l, cs, o, ⟨⟨y, h1, h3⟩, h4⟩, hr => by
    have ha := resD_ok h a y ⟨h3, fun j hj => hr j (by simp [refsL, hj])⟩
    obtain ⟨k1, k2⟩ := resDL_t h l cs (o + 1) h4 (fun j hj => hr j (by simp [refsL, hj]))
    refine ⟨⟨⟨y, h1, ha.rep⟩, k1⟩, fun j hj => ?_⟩
    simp only [resDL, refsL, List.mem_append] at hj
    exact hj.elim (ha.ref j) (k2 j)
end

def MemOk (M : Mem) (w : World) : Prop := ∀ b cs, M b = some cs → ∃ ty fz, w.heap[b]? = some (.cells cs ty fz)

/-- A result, or one of several: what it is; the block that comes with it. -/
def RepC (M : Mem) (w : World) : AV → Value → List Nat → Prop
  | .own e z n l, x, bl => l.length = n * z ∧ refsL l = [] ∧ ∃ ad cap, x = .slice ad n cap ∧ n ≤ cap ∧ cap ≤ maxLen ∧
      ((cap = 0 ∧ bl = []) ∨ ∃ b cs fz, bl = [b] ∧ ad = some ⟨b, 0, none⟩ ∧ w.heap[b]? = some (.cells cs e fz) ∧ Free cs.size fz ∧ cs.size = cap * z ∧ RepAt M noLoc l cs 0 ∧ M b = none)
  | a, x, bl => Rep M noLoc a x ∧ a.refs = [] ∧ bl = []

def RepCL (M : Mem) (w : World) : List AV → Array Value → Nat → List Nat → Prop
  | [], _, _, bl => bl = []
  | a :: l, vs, o, bl => ∃ y b1 b2, vs[o]? = some y ∧ RepC M w a y b1 ∧ RepCL M w l vs (o + 1) b2 ∧ bl = b1 ++ b2

def RepO (M : Mem) (w : World) : AV → Value → List Nat → Prop
  | .tup l, x, bl => ∃ vs : Array Value, x = .tuple vs ∧ vs.size = l.length ∧ RepCL M w l vs 0 bl
  | a, x, bl => RepC M w a x bl

def EndO (M : Mem) (w : World) (size : Nat) : Out → Ending → Prop
  | .ret v, .returned x => ∃ bl, RepO M w v x bl ∧ bl.Nodup ∧ ∀ b ∈ bl, size ≤ b
  | .pan l, .panicked l' => l' = l
  | _, _ => False

/-- What a call comes to that is handed no box. -/
def Eval (P : Program) (f : FuncId) (args : List AV) (out : Out) : Prop :=
  ∀ (M : Mem) (w : World) (vs : Array Value), MemOk M w → vs.size = args.length → RepT M noLoc args vs 0 →
    Ends P f vs w (fun e w' => ∃ M', MemLe M M' ∧ MemOk M' w' ∧ (∀ b, b < w.heap.size → M' b = M b) ∧ Below w.heap.size w w' ∧ EndO M' w' w.heap.size out e)

/-! ### Into a body -/

def entry (args : List AV) : AS := ⟨fun t => (args[t]?).getD (.tup []), fun _ => none, fun i => 1000000 ≤ i⟩

def resOne (P : Program) (s : AS) : ResultVar → Option AV
  | .tmp t => some (s.val (.tmp t))
  | .cell a t => (s.mem (s.val (.tmp a))).bind (partAV P t)
def resAll (P : Program) (s : AS) : List ResultVar → Option (List AV)
  | [] => some []
  | r :: rs => match resOne P s r, resAll P s rs with
    | some v, some l => some (v :: l)
    | _, _ => none
def resAV (P : Program) (s : AS) (rs : List ResultVar) : Option AV :=
  (resAll P s rs).map fun l => match l with
    | [v] => v
    | l => .tup l

/-- What is handed over for a value: itself, or a box with its memory. -/
def closeC (box : Nat → Option Box) : AV → Option AV
  | .bs id z off n => match box id with
    | some (.mut e l) => if off = 0 ∧ n * z = l.length ∧ refsL l = [] then some (.own e z n l) else none
    | _ => none
  | a => if a.refs = [] then some a else none
def closeL (box : Nat → Option Box) : List AV → Option (List AV)
  | [] => some []
  | a :: l => match closeC box a, closeL box l with
    | some b, some l' => some (b :: l')
    | _, _ => none
def closeV (box : Nat → Option Box) : AV → Option AV
  | .tup l => (closeL box l).map .tup
  | a => closeC box a

/-- The end of a body. -/
def post (P : Program) (fn : Func) (out : Out) : Exit → AS → Prop
  | .normal, s | .ret, s => optK (resAV P s fn.results.toList) fun r => optK (closeV s.box (resD s.box r)) fun v => out = .ret v ∧ (resD s.box r).refs.Nodup
  | .panic l, _ => out = .pan l
  | _, _ => False

section
variable {P : Program} {C : Ctx} {M : Mem} {β : Loc} {s : AS} {w : World} {nt : Nat} {a : Act} {Q : Exit → AS → Prop}

theorem noRefs_rep {v : AV} {x : Value} (h : Rep M β v x) (hr : v.refs = []) (β' : Loc) : Rep M β' v x :=
  Rep.mono (MemLe.refl M) v x (fun id hid => by rw [hr] at hid; cases hid) h

theorem close_ok (h : Rel C M β s w) (hC : C.ext = []) {v o : AV} {x : Value} (hv : Ok M β s v x) (hc : closeC s.box v = some o) :
    ∃ bl, RepC M w o x bl ∧ (∀ b ∈ bl, C.w0.heap.size ≤ b ∧ ∃ id ∈ v.refs, ∃ e l n, s.box id = some (.mut e l) ∧ β id = some (b, n)) ∧ bl.length ≤ 1 := by
  have plain : v.refs = [] → v = o → (∀ e z n l, v ≠ .own e z n l) → ∃ bl, RepC M w o x bl ∧ (∀ b ∈ bl, C.w0.heap.size ≤ b ∧ ∃ id ∈ v.refs, ∃ e l n, s.box id = some (.mut e l) ∧ β id = some (b, n)) ∧ bl.length ≤ 1 := by
    intro h1 h2 h3
    subst h2
    refine ⟨[], ?_, by simp, by simp⟩
    cases v with
    | own e z n l => exact absurd rfl (h3 e z n l)
    | _ => exact ⟨noRefs_rep hv.rep h1 noLoc, h1, rfl⟩
  cases v
  case bs id z off n =>
    simp only [closeC] at hc
    split at hc
    · rename_i e l hb
      split at hc
      · rename_i hcond
        obtain ⟨rfl, h1, h2⟩ := hcond
        cases hc
        obtain ⟨ad, cap, rfl, k1, k2, k3⟩ := hv.rep
        rcases Nat.eq_zero_or_pos cap with h0 | h0
        · exact ⟨[], ⟨h1.symm, h2, ad, cap, rfl, k1, k2, .inl ⟨h0, rfl⟩⟩, by simp, by simp⟩
        · obtain ⟨b, sz, j1, rfl, j2⟩ := k3 h0
          rcases h.mutb id e l hb with ⟨hn, _⟩ | ⟨b', cs, p1, ⟨fz, p2, pf⟩, p3, p4, p5, p6⟩
          · rw [hn] at j1; cases j1
          · rw [p1] at j1; cases j1
            refine ⟨[b], ⟨h1.symm, h2, _, cap, rfl, k1, k2, .inr ⟨b, cs, fz, rfl, rfl, p2, pf, by omega, RepAt.mono (MemLe.refl M) _ _ _ (fun j hj => by rw [h2] at hj; cases hj) p3, p5⟩⟩, ?_, by simp⟩
            intro b' hb'
            simp at hb'
            subst hb'
            rw [hC] at p6
            exact ⟨p6.elim (fun h => h) (fun h => by cases h), id, by simp [AV.refs], e, l, _, hb, p1⟩
      · cases hc
    · cases hc
  all_goals
    simp only [closeC] at hc
    split at hc
    · rename_i hr
      cases hc
      first
        | exact hv.rep.elim
        | exact plain hr rfl (by intro e z n l he; cases he)
    · cases hc

theorem closeL_ok (h : Rel C M β s w) (hC : C.ext = []) : ∀ (l l' : List AV) (vs : Array Value) (o : Nat), RepT M β l vs o → (∀ j ∈ refsL l, s.used j) → (refsL l).Nodup → closeL s.box l = some l' →
    l'.length = l.length ∧ ∃ bl, RepCL M w l' vs o bl ∧ bl.Nodup ∧ (∀ b ∈ bl, C.w0.heap.size ≤ b ∧ ∃ id ∈ refsL l, ∃ e l n, s.box id = some (.mut e l) ∧ β id = some (b, n))
  | [], l', vs, o, _, _, _, hc => by simp [closeL] at hc; subst hc; exact ⟨rfl, [], rfl, by simp, by simp⟩
  | v :: l, l', vs, o, ⟨⟨y, h1, h2⟩, h3⟩, hr, hn, hc => by
    simp only [closeL] at hc
    split at hc
    · rename_i b l2 hb hl
      cases hc
      simp only [refsL] at hn
      rw [List.nodup_append] at hn
      obtain ⟨n1, n2, n3⟩ := hn
      obtain ⟨bl1, k1, k2, k3⟩ := close_ok h hC (v := v) (x := y) ⟨h2, fun j hj => hr j (by simp [refsL, hj])⟩ hb
      obtain ⟨e0, bl2, k4, k5, k6⟩ := closeL_ok h hC l l2 vs (o + 1) h3 (fun j hj => hr j (by simp [refsL, hj])) n2 hl
      refine ⟨by simp [e0], bl1 ++ bl2, ⟨y, bl1, bl2, h1, k1, k4, rfl⟩, ?_, ?_⟩
      · rw [List.nodup_append]
        refine ⟨?_, k5, ?_⟩
        · match bl1, k3 with
          | [], _ => simp
          | [b], _ => simp
        · intro b1 hb1 b2 hb2 he
          subst he
          obtain ⟨_, i, hi, e, l3, n, q1, q2⟩ := k2 b1 hb1
          obtain ⟨_, j, hj, e', l4, n', q3, q4⟩ := k6 b1 hb2
          have := h.inj i j e e' l3 l4 b1 n n' q1 q3 q2 q4
          exact n3 i hi j hj this
      · intro b1 hb1
        rcases List.mem_append.1 hb1 with hb1 | hb1
        · obtain ⟨q0, i, hi, q⟩ := k2 b1 hb1
          exact ⟨q0, i, by simp [refsL, hi], q⟩
        · obtain ⟨q0, i, hi, q⟩ := k6 b1 hb1
          exact ⟨q0, i, by simp [refsL, hi], q⟩
    · cases hc

theorem closeV_ok (h : Rel C M β s w) (hC : C.ext = []) {r v : AV} {x : Value} (hr : Ok M β s r x) (hn : r.refs.Nodup) (hc : closeV s.box r = some v) :
    ∃ bl, RepO M w v x bl ∧ bl.Nodup ∧ ∀ b ∈ bl, C.w0.heap.size ≤ b := by
  have one : closeC s.box r = some v → (∀ l, v ≠ .tup l) → ∃ bl, RepO M w v x bl ∧ bl.Nodup ∧ ∀ b ∈ bl, C.w0.heap.size ≤ b := by
    intro h1 h2
    obtain ⟨bl, k1, k2, k3⟩ := close_ok h hC hr h1
    refine ⟨bl, ?_, ?_, fun b hb => (k2 b hb).1⟩
    · cases v with
      | tup l => exact absurd rfl (h2 l)
      | _ => exact k1
    · match bl, k3 with
      | [], _ => simp
      | [b], _ => simp
  cases r with
  | tup l =>
    simp only [closeV] at hc
    cases hl : closeL s.box l with
    | none => simp [hl] at hc
    | some l' =>
      simp [hl] at hc
      subst hc
      obtain ⟨vs, rfl, h1, h2⟩ := hr.rep
      obtain ⟨k0, bl, k1, k2, k3⟩ := closeL_ok h hC l l' vs 0 h2 (fun j hj => hr.ref j (by simpa [AV.refs] using hj)) (by simpa [AV.refs] using hn) hl
      exact ⟨bl, ⟨vs, rfl, by rw [h1, k0], k1⟩, k2, fun b hb => (k3 b hb).1⟩
  | bs id z off n =>
    refine one hc ?_
    intro l hl
    subst hl
    simp only [closeV, closeC] at hc
    split at hc
    · split at hc <;> cases hc
    · cases hc
  | _ =>
    refine one hc ?_
    intro l hl
    subst hl
    simp only [closeV, closeC] at hc
    split at hc <;> cases hc

theorem resOne_ok (h : Rel C M β s w) (hs : Slots nt M β s a) (g : ResultVar → Sem Value) (hg1 : ∀ t, g (.tmp t) = pure (a.tmps.getD t undef)) (hg2 : ∀ c t, g (.cell c t) = (do loadVar t (← asAddr (a.tmps.getD c undef)))) {r : ResultVar} {v : AV} (hr : resOne P s r = some v) :
    ∃ y, (g r).run P w = .ok y w ∧ Ok M β s v y := by
  cases r with
  | tmp t =>
    simp only [resOne, Option.some.injEq] at hr
    subst hr
    exact ⟨_, by rw [hg1]; rfl, val_ok h hs (.tmp t)⟩
  | cell c t =>
    simp only [resOne] at hr
    cases hm : s.mem (s.val (.tmp c)) with
    | none => simp [hm] at hr
    | some l =>
      simp [hm] at hr
      have hv := val_ok h hs (.tmp c)
      obtain ⟨y, h1, h2⟩ := load_ok (P := P) h hv hm hr
      obtain ⟨b, o, cs, ty, fz, hx, _⟩ := mem_ok h hv hm
      have hx' : a.tmps.getD c undef = .pointer (some ⟨b, o, none⟩) := hx
      refine ⟨y, ?_, h2⟩
      rw [hx] at h1
      simp only [Instr.loadAt, Instr.sureAddr, Sem.run_bind, Sem.run_pure, Result.andThen_ok] at h1
      rw [hg2]
      simp only [hx', asAddr, Sem.run_bind, Sem.run_pure, Result.andThen_ok, h1]

theorem resAll_ok (h : Rel C M β s w) (hs : Slots nt M β s a) (g : ResultVar → Sem Value) (hg1 : ∀ t, g (.tmp t) = pure (a.tmps.getD t undef)) (hg2 : ∀ c t, g (.cell c t) = (do loadVar t (← asAddr (a.tmps.getD c undef)))) : ∀ (rs : List ResultVar) (l : List AV), resAll P s rs = some l →
    ∃ vs : List Value, (rs.mapM g).run P w = .ok vs w ∧ vs.length = l.length ∧
      ∀ (i : Nat) (p : AV) (q : Value), l[i]? = some p → vs[i]? = some q → Ok M β s p q
  | [], l, hr => by simp [resAll] at hr; subst hr; exact ⟨[], rfl, rfl, by simp⟩
  | r :: rs, l, hr => by
    simp only [resAll] at hr
    split at hr
    · rename_i v l' hv hl
      cases hr
      obtain ⟨y, h1, h2⟩ := resOne_ok (P := P) h hs g hg1 hg2 hv
      obtain ⟨vs, h3, h4, h5⟩ := resAll_ok h hs g hg1 hg2 rs l' hl
      refine ⟨y :: vs, ?_, by simp [h4], ?_⟩
      · simp only [List.mapM_cons, Sem.run_bind, h1, Result.andThen_ok, h3, Sem.run_pure]
      · intro i p q hp hq
        cases i with
        | zero => simp at hp hq; subst hp; subst hq; exact h2
        | succ i => exact h5 i p q (by simpa using hp) (by simpa using hq)
    · cases hr

theorem results_ok (h : Rel C M β s w) (hs : Slots nt M β s a) {fn : Func} {r : AV} (hr : resAV P s fn.results.toList = some r) :
    ∃ y, (results fn a.tmps).run P w = .ok y w ∧ Ok M β s r y := by
  unfold resAV at hr
  cases hl : resAll P s fn.results.toList with
  | none => simp [hl] at hr
  | some l =>
    simp [hl] at hr
    have hres : ∃ g : ResultVar → Sem Value, (∀ t, g (.tmp t) = pure (a.tmps.getD t undef)) ∧ (∀ c t, g (.cell c t) = (do loadVar t (← asAddr (a.tmps.getD c undef)))) ∧
        results fn a.tmps = (do let vs ← fn.results.mapM g; pure (if h : vs.size = 1 then vs[0] else .tuple vs)) := by
      refine ⟨_, ?_, ?_, rfl⟩
      · intro t; rfl
      · intro c t; rfl
    obtain ⟨g, hg1, hg2, hg3⟩ := hres
    obtain ⟨vs, h1, h2, h3⟩ := resAll_ok (P := P) h hs g hg1 hg2 fn.results.toList l hl
    have hrun : (results fn a.tmps).run P w = .ok (if h : vs.toArray.size = 1 then vs.toArray[0] else .tuple vs.toArray) w := by
      rw [hg3, Array.mapM_eq_mapM_toList]
      simp only [Sem.run_bind, Sem.run_map, Sem.run_pure, h1, Result.andThen_ok]
    refine ⟨_, hrun, ?_⟩
    have htup : Ok M β s (.tup l) (.tuple vs.toArray) := ⟨⟨vs.toArray, rfl, by simp [h2], RepT_of_ok (s := s) h2 h3⟩, fun j hj => by
      simp only [AV.refs] at hj
      obtain ⟨v, hv, hj⟩ := mem_refsL.1 hj
      obtain ⟨i, hi⟩ := List.getElem?_of_mem hv
      have hlt : i < vs.length := by rw [h2]; exact (List.getElem?_eq_some_iff.1 hi).1
      exact (h3 i v vs[i] hi (by rw [List.getElem?_eq_getElem hlt])).ref j hj⟩
    match l, vs, h2, hr, h3, htup with
    | [], [], _, hr, _, htup => simp at hr; subst hr; simpa using htup
    | [p], [q], _, hr, h3, _ => simp at hr; subst hr; simpa using h3 0 p q rfl rfl
    | p :: p' :: l, q :: q' :: vs, _, hr, _, htup =>
      simp at hr; subst hr
      rw [dif_neg (by simp)]
      exact htup
end

end Go.Fw

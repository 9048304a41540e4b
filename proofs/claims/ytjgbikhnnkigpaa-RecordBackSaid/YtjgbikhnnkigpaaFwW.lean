/- Regions whose order is drawn. IV: the walk. -/
import Derived.Test.YtjgbikhnnkigpaaFwV
set_option linter.unusedSimpArgs false
set_option linter.unusedVariables false
namespace Go.Fw
open Go Go.RowKit

def stepD (P : Program) (o : Oper) (s : AS) (k : AS → List Nat → Prop) : Prop :=
  if isMem P o.op = true then optK (evMem P s o.dst o.op) (fun f => (f.fresh = true → ¬ s.used f.d) ∧ k (s.put' f o.dst) (f.d :: f.kill.toList))
  else optK (evPure P s o.op) (fun v => k (s.put o.dst v) [])

def callD (P : Program) (o : Oper) (f : AV) (args : List AV) (s : AS) (k : AS → List Nat → Prop) : Prop :=
  ∃ fid caps r, f = .fn fid caps ∧ refsL (args ++ caps) = [] ∧ Eval P fid (args ++ caps) (.ret r) ∧
    ((r.plainR = true ∧ k (s.put o.dst r) []) ∨
     ∃ e z n l d, r = .own e z n l ∧ ¬ s.used d ∧ k ((s.eff ⟨.bs d z 0 n, none, d, e, l, true⟩).put o.dst (.bs d z 0 n)) [d])

@[congr] theorem callD_congr {P : Program} {o : Oper} {f f' : AV} {l l' : List AV} {s : AS} {k : AS → List Nat → Prop} (h : f = f') (h2 : l = l') : callD P o f l s k = callD P o f' l' s k := by rw [h, h2]

theorem callD_plain {P : Program} {o : Oper} {fid : FuncId} {caps args : List AV} {s : AS} {k : AS → List Nat → Prop} {r : AV} (hr : refsL (args ++ caps) = []) (h : Eval P fid (args ++ caps) (.ret r)) (hp : r.plainR = true)
    (hk : k (s.put o.dst r) []) : callD P o (.fn fid caps) args s k := ⟨fid, caps, r, rfl, hr, h, .inl ⟨hp, hk⟩⟩
theorem callD_own {P : Program} {o : Oper} {fid : FuncId} {caps args : List AV} {s : AS} {k : AS → List Nat → Prop} {e z n : Nat} {l : List AV} (d : Nat) (hr : refsL (args ++ caps) = []) (h : Eval P fid (args ++ caps) (.ret (.own e z n l))) (hd : ¬ s.used d)
    (hk : k ((s.eff ⟨.bs d z 0 n, none, d, e, l, true⟩).put o.dst (.bs d z 0 n)) [d]) : callD P o (.fn fid caps) args s k := ⟨fid, caps, _, rfl, hr, h, .inr ⟨e, z, n, l, d, rfl, hd, hk⟩⟩

/-- A drawn region's operations, one behind the other; what each looks at, what each writes. -/
def vcnD (P : Program) (ops : List Oper) (A : List (List Nat)) (Q : AS → Prop) : List Oper → AS → List (List Nat × List Nat) → Prop
  | [], s, acc => memOk A acc = true ∧ Q s
  | o :: r, s, acc => optK (gOn ops o s) fun g =>
      if g = true then
        match o.op with
        | .call c => match c.callee with
          | .value f => callD P o (s.val f) (c.args.toList.map s.val) s fun s' ids => vcnD P ops A Q r s' (acc ++ [(lookIds ops o s, ids)])
          | _ => stepD P o s fun s' ids => vcnD P ops A Q r s' (acc ++ [(lookIds ops o s, ids)])
        | .panic _ => False
        | _ => stepD P o s fun s' ids => vcnD P ops A Q r s' (acc ++ [(lookIds ops o s, ids)])
      else vcnD P ops A Q r (s.put o.dst (.tup [])) (acc ++ [(lookIds ops o s, [])])

section
variable {P : Program} {s : AS} {nt : Nat} {Q : Exit → AS → Prop}

def RunL (P : Program) (ops : List Oper) : List (Oper × St) → AS → Prop
  | [], _ => True
  | p :: z, s => valid P ops p.1 p.2 s ∧ RunL P ops z (app p.1 p.2 s)

def accOf (ops : List Oper) : List (Oper × St) → AS → List (List Nat × List Nat)
  | [], _ => []
  | p :: z, s => (lookIds ops p.1 s, p.2.ids) :: accOf ops z (app p.1 p.2 s)

theorem stZ_none {L : Nat → Bool} : ∀ (z : List (Oper × St)) (k : Nat) (s : AS), (∀ i, L (k + i) = false) → stZ L k z s = s
  | [], _, _, _ => rfl
  | p :: z, k, s, h => by
    simp only [stZ]
    have h0 := h 0
    simp only [Nat.add_zero] at h0
    rw [h0]
    exact stZ_none z (k + 1) s (fun i => by rw [show k + 1 + i = k + (i + 1) from by omega]; exact h (i + 1))

theorem runL_at {ops : List Oper} : ∀ (z : List (Oper × St)) (k : Nat) (s : AS), RunL P ops z s → ∀ (j : Nat) (p : Oper × St), z[j]? = some p → valid P ops p.1 p.2 (stZ (fun i => decide (i < k + j)) k z s)
  | [], _, _, _, _, _, h => by simp at h
  | q :: z, k, s, ⟨h1, h2⟩, 0, p, h => by
    simp at h; subst h
    rw [stZ_none _ k s (fun i => by simp)]
    exact h1
  | q :: z, k, s, ⟨h1, h2⟩, j + 1, p, h => by
    simp only [stZ]
    rw [if_pos (by simp), show k + (j + 1) = k + 1 + j from by omega]
    exact runL_at z (k + 1) _ h2 j p (by simpa using h)

theorem accOf_at {ops : List Oper} : ∀ (z : List (Oper × St)) (k : Nat) (s : AS) (j : Nat) (p : Oper × St), z[j]? = some p → (accOf ops z s)[j]? = some (lookIds ops p.1 (stZ (fun i => decide (i < k + j)) k z s), p.2.ids)
  | [], _, _, _, _, h => by simp at h
  | q :: z, k, s, 0, p, h => by
    simp at h; subst h
    rw [stZ_none _ k s (fun i => by simp)]
    rfl
  | q :: z, k, s, j + 1, p, h => by
    simp only [stZ, accOf, List.getElem?_cons_succ]
    rw [if_pos (by simp), show k + (j + 1) = k + 1 + j from by omega]
    exact accOf_at z (k + 1) _ j p (by simpa using h)

theorem accOf_length {ops : List Oper} : ∀ (z : List (Oper × St)) (s : AS), (accOf ops z s).length = z.length
  | [], _ => rfl
  | p :: z, s => by simp [accOf, accOf_length z]

theorem MemOrd.of {ops : List Oper} {A : List (List Nat)} {z : List (Oper × St)} {s0 : AS} (h : memOk A (accOf ops z s0) = true) : MemOrd ops A z s0 := by
  have key : ∀ (i j : Nat) (p q : Oper × St), z[i]? = some p → z[j]? = some q → i ≠ j → ∀ id, p.2.touches id →
      (i ∈ A.getD j [] ∨ j ∈ A.getD i []) ∨ (id ∉ lookIds ops q.1 (stZ (fun i => decide (i < j)) 0 z s0) ∧ id ∉ q.2.ids) := by
    intro i j p q hi hj hne id ht
    have ei := accOf_at (ops := ops) z 0 s0 i p hi
    have ej := accOf_at (ops := ops) z 0 s0 j q hj
    simp only [Nat.zero_add] at ei ej
    unfold memOk at h
    simp only [List.all_eq_true, List.mem_range, accOf_length] at h
    have h1 := h i (List.getElem?_eq_some_iff.1 hi).1
    rw [ei] at h1
    simp only [Bool.or_eq_true, List.all_eq_true, List.mem_range] at h1
    have hid := St.mem_ids.1 ht
    rcases h1 with h1 | h1
    · rw [List.isEmpty_iff.1 h1] at hid; cases hid
    · have h2 := h1 j (List.getElem?_eq_some_iff.1 hj).1
      rw [ej] at h2
      simp only [Bool.or_eq_true, beq_iff_eq, hne, false_or, List.all_eq_true, Bool.and_eq_true, Bool.not_eq_true'] at h2
      rcases h2 with h2 | h2
      · unfold ordered at h2
        simp only [Bool.or_eq_true, List.contains_iff_mem] at h2
        exact .inl h2
      · have := h2 id hid
        simp at this
        exact .inr this
  refine ⟨fun i j p q hi hj hne id ht hl => ?_, fun i j p q hi hj hne id ht ht' => ?_⟩
  · rcases key i j p q hi hj hne id ht with k | k
    · exact k
    · exact absurd hl k.1
  · rcases key i j p q hi hj hne id ht with k | k
    · exact k
    · exact absurd (St.mem_ids.1 ht') k.2

theorem stepD_run {o : Oper} {k : AS → List Nat → Prop} (h : stepD P o s k) : ∃ st, stepOk P o st s ∧ k (app o st s) st.ids := by
  unfold stepD at h
  unfold stepOk
  split at h
  · rename_i hm
    obtain ⟨f, h1, h2, h3⟩ := h
    exact ⟨⟨f.v, some f⟩, by rw [if_pos hm]; exact ⟨f, h1, h2, rfl⟩, h3⟩
  · rename_i hm
    obtain ⟨v, h1, h3⟩ := h
    exact ⟨⟨v, none⟩, by rw [if_neg hm]; exact ⟨v, h1, rfl⟩, h3⟩

theorem vcnD_run {ops : List Oper} {A : List (List Nat)} {Q : AS → Prop} : ∀ (l : List Oper) (s : AS) (acc : List (List Nat × List Nat)), vcnD P ops A Q l s acc →
    ∃ z : List (Oper × St), z.map (·.1) = l ∧ RunL P ops z s ∧ memOk A (acc ++ accOf ops z s) = true ∧ Q (stZ (fun _ => true) 0 z s)
  | [], s, acc, ⟨h1, h2⟩ => ⟨[], rfl, trivial, by simpa [accOf] using h1, h2⟩
  | o :: r, s, acc, h => by
    have off : ∀ (z : List (Oper × St)) (k : Nat) (s : AS), stZ (fun _ => true) k z s = stZ (fun _ => true) 0 z s := by
      intro z
      induction z with
      | nil => intro k s; rfl
      | cons p z ih => intro k s; simp only [stZ, if_true]; rw [ih (k + 1), ih (0 + 1)]
    have fin : ∀ st : St, valid P ops o st s → vcnD P ops A Q r (app o st s) (acc ++ [(lookIds ops o s, st.ids)]) →
        ∃ z : List (Oper × St), z.map (·.1) = o :: r ∧ RunL P ops z s ∧ memOk A (acc ++ accOf ops z s) = true ∧ Q (stZ (fun _ => true) 0 z s) := by
      intro st hv hk
      obtain ⟨z, k1, k2, k3, k4⟩ := vcnD_run r _ _ hk
      refine ⟨(o, st) :: z, by simp [k1], ⟨hv, k2⟩, ?_, ?_⟩
      · simpa [accOf, List.append_assoc] using k3
      · simp only [stZ, if_true]
        rw [off]; exact k4
    simp only [vcnD] at h
    obtain ⟨g, hg, h⟩ := h
    cases g with
    | false =>
      simp only [Bool.false_eq_true, if_false] at h
      exact fin ⟨.tup [], none⟩ (.inl ⟨hg, rfl⟩) h
    | true =>
      simp only [if_true] at h
      have hstep : stepD P o s (fun s' ids => vcnD P ops A Q r s' (acc ++ [(lookIds ops o s, ids)])) → (∀ st, stepOk P o st s → valid P ops o st s) → ∃ z : List (Oper × St), z.map (·.1) = o :: r ∧ RunL P ops z s ∧ memOk A (acc ++ accOf ops z s) = true ∧ Q (stZ (fun _ => true) 0 z s) := fun hk hval => by
        obtain ⟨st, h1, h2⟩ := stepD_run hk
        exact fin st (hval st h1) h2
      split at h
      · rename_i c hc
        split at h
        · rename_i f hf
          obtain ⟨fid, caps, rr, e1, e2, e3, e4⟩ := h
          rcases e4 with ⟨e4, e5⟩ | ⟨e, z, n, l, d, e4, e5, e6⟩
          · refine fin ⟨rr, none⟩ (.inr ⟨hg, ?_⟩) e5
            simp only [hc, hf]
            exact ⟨fid, caps, e1, e2, rr, e3, .inl ⟨e4, rfl⟩⟩
          · refine fin ⟨.bs d z 0 n, some ⟨.bs d z 0 n, none, d, e, l, true⟩⟩ (.inr ⟨hg, ?_⟩) e6
            simp only [hc, hf]
            exact ⟨fid, caps, e1, e2, rr, e3, .inr ⟨e, z, n, l, d, e4, e5, rfl⟩⟩
        · rename_i hf
          refine hstep h fun st hs => .inr ⟨hg, ?_⟩
          simp only [hc]
          first
            | exact hs
            | (split
               · rename_i f hf2; exact absurd hf2 (hf f)
               · exact hs)
      · exact h.elim
      · rename_i h1 h2
        refine hstep h fun st hs => .inr ⟨hg, ?_⟩
        first
          | exact hs
          | (split
             · rename_i c hc; exact absurd hc (h1 c)
             · rename_i x hx; exact absurd hx (h2 x)
             · exact hs)

/-- A region whose order is drawn. -/
theorem W_drawn {id : Nat} {ops : Array Oper} (hm : P.follows .mixedOrders = true) (hd : ops.toList.all (fun o => dstOk nt o.dst) = true) (hA : ordOk ops.toList (ancs ops.toList) = true)
    (h : vcnD P ops.toList (ancs ops.toList) (Q .normal) ops.toList s []) : W P nt (.region id ops true) s Q := by
  intro C M β a w hR hS
  obtain ⟨z, k1, k2, k3, k4⟩ := vcnD_run _ _ _ h
  refine wp_region_any hm ?_
  have hrep : ∀ i, (Array.replicate ops.size false).getD i false = false := fun i => by
    rw [Array.getD_eq_getD_getElem?, Array.getElem?_replicate]
    split <;> rfl
  have hs0 : stZ (fun i => (Array.replicate ops.size false).getD i false) 0 z s = s := stZ_none z 0 s (fun i => hrep _)
  have hR' := hR.draw (w' := { w with drawn := w.drawn + 1 }) rfl rfl rfl rfl
  refine any_order k1 (fun o ho => List.all_eq_true.1 hd o (by simpa using ho)) (Ord.of hA) (MemOrd.of (by simpa using k3)) (fun j p hp => by have := runL_at z 0 s k2 j p hp; rwa [Nat.zero_add] at this) k4
    ops.size _ M β a _ (by simp) (fun j o _ hl => by rw [hrep] at hl; cases hl) (Nat.le_add_right _ _) (by rw [hs0]; exact hR') (by rw [hs0]; exact hS)
end

end Go.Fw

import Derived.Test.YtmmkclefdpmjlaaFw3
import Derived.Test.YtmmkclefdpmjlaaNd
import Derived.Test.YtmmkclefdpmjlaaNb
set_option linter.unusedSimpArgs false
set_option linter.unusedVariables false
namespace Go.Fw
open Go Go.RowKit
section
variable {P : Program} {F : Fence} {n : Nat} {Q : Exit → Act → World → Prop}
def tailQ (F : Fence) (n : Nat) (P : Program) (ops : Array Oper) (m : Nat) (Q : Exit → Act → World → Prop) : Exit → Act → World → Prop
  | .normal, a, w => wpOpIn F n P ops Q m (wpOpIn F n P ops Q (m + 1) (Q .normal)) a w
  | e, a, w => Q e a w
theorem getD_ext {m j : Nat} {listed : Array Bool} {d : Bool} (hj : j < m) (h : m ≤ listed.size) : (listed.extract 0 m).getD j d = listed.getD j d := by
  have h1 : j < (listed.extract 0 m).size := by simp; omega
  rw [Array.getD_eq_getD_getElem?, Array.getD_eq_getD_getElem?, Array.getElem?_eq_getElem h1, Array.getElem?_eq_getElem (by omega)]
  simp
theorem wpAnyIn_tail {ops A : Array Oper} {m : Nat} (hsz : ops.size = m + 2) (hAs : A.size = m) (hA : ∀ j, j < m → A[j]? = ops[j]?) (hg : ∀ o ∈ A, o.guard = none)
    (hback : ∀ (j : Nat) o, ops[j]? = some o → ∀ i ∈ edgesOf o, i < j)
    (hy : ∀ L : Nat → Bool, (∀ j o, ops[j]? = some o → L j = true → ∀ i ∈ edgesOf o, L i = true) → (∀ o, ops[m]? = some o → ∀ i ∈ edgesOf o, L i = true) → ∀ i, i < m → L i = true)
    (hn : ∀ o, ops[m + 1]? = some o → m ∈ edgesOf o) :
    ∀ (fuel : Nat) (listed : Array Bool) (a : Act) (w : World), listed.size = m + 2 → listed.getD m true = false → listed.getD (m + 1) true = false →
      (∀ j o, ops[j]? = some o → listed.getD j false = true → ∀ i ∈ edgesOf o, listed.getD i false = true) →
      wpAnyIn F n P .any A (tailQ F n P ops m Q) fuel (listed.extract 0 m) a w → wpAnyIn F n P .any ops Q (fuel + 2) listed a w := by
  have edge : ∀ {o : Oper} {L : Array Bool}, (∀ e ∈ o.after, Region.binds .any e = true → L.getD e.on false = true) → ∀ i ∈ edgesOf o, L.getD i false = true := by
    intro o L h i hi
    unfold edgesOf at hi
    obtain ⟨e, he, rfl⟩ := List.mem_map.1 hi
    obtain ⟨he, hb⟩ := List.mem_filter.1 he
    exact h e (by simpa using he) hb
  have edge' : ∀ {o : Oper} {L : Array Bool}, (∀ i ∈ edgesOf o, L.getD i false = true) → ∀ e ∈ o.after, Region.binds .any e = true → L.getD e.on false = true := by
    intro o L h e he hb
    exact h e.on (by unfold edgesOf; exact List.mem_map.2 ⟨e, List.mem_filter.2 ⟨by simpa using he, hb⟩, rfl⟩)
  have low : ∀ {L : Array Bool} {j : Nat}, j < L.size → L.getD j true = L.getD j false := by
    intro L j hj
    rw [Array.getD_eq_getD_getElem?, Array.getD_eq_getD_getElem?, Array.getElem?_eq_getElem hj]; rfl
  have opm : ∃ o, ops[m]? = some o := ⟨_, Array.getElem?_eq_getElem (by omega)⟩
  have opn : ∃ o, ops[m + 1]? = some o := ⟨_, Array.getElem?_eq_getElem (by omega)⟩
  -- all have been listed: the two that are left
  have last : ∀ (fuel : Nat) (listed : Array Bool) (a : Act) (w : World), listed.size = m + 2 → listed.getD m true = false → listed.getD (m + 1) true = false → (∀ i, i < m → listed.getD i false = true) →
      tailQ F n P ops m Q .normal a w → wpAnyIn F n P .any ops Q (fuel + 2) listed a w := by
    intro fuel listed a w hls hm hm1 hall h
    obtain ⟨om, hom⟩ := opm
    obtain ⟨on, hon⟩ := opn
    have rm : m ∈ Region.ready .any ops listed := by
      rw [mem_ready]
      exact ⟨hm, om, hom, edge' fun i hi => hall i (hback m om hom i hi)⟩
    have honly : ∀ i ∈ Region.ready .any ops listed, i = m := by
      intro i hi
      rw [mem_ready] at hi
      obtain ⟨h1, o, ho, he⟩ := hi
      have hio : i < ops.size := (Array.getElem?_eq_some_iff.1 ho).1
      rcases Nat.lt_trichotomy i m with h2 | h2 | h2
      · rw [low (by omega), hall i h2] at h1; cases h1
      · exact h2
      · have : i = m + 1 := by omega
        subst this
        have := edge he m (hn o ho)
        rw [← low (by omega), hm] at this
        cases this
    refine ⟨fun hnil => (by rw [hnil] at rm; cases rm), fun i hi => ?_⟩
    rw [honly i hi]
    refine wpOpIn_mono (fun a w h1 => ?_) h
    have s1 : (listed.setIfInBounds m true).size = m + 2 := by simp [hls]
    have g0 : ∀ i d, i ≠ m → (listed.setIfInBounds m true).getD i d = listed.getD i d := fun i d hne => by
      rw [Array.getD_eq_getD_getElem?, Array.getD_eq_getD_getElem?, Array.getElem?_setIfInBounds_ne (Ne.symm hne)]
    have g1 : ∀ d, (listed.setIfInBounds m true).getD m d = true := fun d => by
      rw [Array.getD_eq_getD_getElem?, Array.getElem?_setIfInBounds_self_of_lt (by omega)]; rfl
    have rn : m + 1 ∈ Region.ready .any ops (listed.setIfInBounds m true) := by
      rw [mem_ready]
      refine ⟨by rw [g0 _ _ (by omega)]; exact hm1, on, hon, edge' fun i hi => ?_⟩
      by_cases him : i = m
      · rw [him]; exact g1 _
      · rw [g0 _ _ him]
        have := hback _ _ hon i hi
        exact hall i (by omega)
    have honly1 : ∀ i ∈ Region.ready .any ops (listed.setIfInBounds m true), i = m + 1 := by
      intro i hi
      rw [mem_ready] at hi
      obtain ⟨h1, o, ho, _⟩ := hi
      have hio : i < ops.size := (Array.getElem?_eq_some_iff.1 ho).1
      rcases Nat.lt_trichotomy i m with h2 | h2 | h2
      · rw [g0 _ _ (by omega), low (by omega), hall i h2] at h1; cases h1
      · subst h2; rw [g1] at h1; cases h1
      · omega
    refine ⟨fun hnil => (by rw [hnil] at rn; cases rn), fun i hi => ?_⟩
    rw [honly1 i hi]
    refine wpOpIn_mono (fun a w h2 => ?_) h1
    have hnil : Region.ready .any ops ((listed.setIfInBounds m true).setIfInBounds (m + 1) true) = [] := by
      rw [List.eq_nil_iff_forall_not_mem]
      intro j hj
      rw [mem_ready] at hj
      obtain ⟨h3, o, ho, _⟩ := hj
      have hio : j < ops.size := (Array.getElem?_eq_some_iff.1 ho).1
      by_cases hj1 : j = m + 1
      · subst hj1
        rw [Array.getD_eq_getD_getElem?, Array.getElem?_setIfInBounds_self_of_lt (by omega)] at h3
        cases h3
      · rw [Array.getD_eq_getD_getElem?, Array.getElem?_setIfInBounds_ne (Ne.symm hj1), ← Array.getD_eq_getD_getElem?] at h3
        by_cases hj2 : j = m
        · subst hj2; rw [g1] at h3; cases h3
        · rw [g0 _ _ hj2, low (by omega), hall j (by omega)] at h3; cases h3
    cases fuel with
    | zero => exact ⟨hnil, h2⟩
    | succ fuel => exact ⟨fun _ => h2, fun i hi => by rw [hnil] at hi; cases hi⟩
  -- who is ready is ready
  have same : ∀ (listed : Array Bool), listed.size = m + 2 → ∀ j, j < m → (j ∈ Region.ready .any ops listed ↔ j ∈ Region.ready .any A (listed.extract 0 m)) := by
    intro listed hls j hj
    rw [mem_ready, mem_ready, hA j hj, getD_ext hj (by omega)]
    refine and_congr_right fun _ => ⟨?_, ?_⟩
    · rintro ⟨o, ho, he⟩
      refine ⟨o, ho, edge' fun i hi => ?_⟩
      have := hback j o ho i hi
      rw [getD_ext (by omega) (by omega)]
      exact edge he i hi
    · rintro ⟨o, ho, he⟩
      refine ⟨o, ho, edge' fun i hi => ?_⟩
      have := hback j o ho i hi
      have h1 := edge he i hi
      rwa [getD_ext (by omega) (by omega)] at h1
  have nilAll : ∀ (listed : Array Bool), listed.size = m + 2 → Region.ready .any A (listed.extract 0 m) = [] → ∀ i, i < m → listed.getD i false = true := by
    intro listed hls hnil i
    induction i using Nat.strongRecOn with
    | _ i ih =>
      intro hi
      cases hl : listed.getD i false with
      | true => rfl
      | false =>
        exfalso
        have hmem : i ∈ Region.ready .any ops listed := by
          rw [mem_ready]
          refine ⟨by rw [low (by omega)]; exact hl, _, Array.getElem?_eq_getElem (by omega), edge' fun k hk => ?_⟩
          have := hback i _ (Array.getElem?_eq_getElem (by omega)) k hk
          exact ih k this (by omega)
        rw [same listed hls i hi, hnil] at hmem
        cases hmem
  intro fuel
  induction fuel with
  | zero =>
    intro listed a w hls hm hm1 hcl h
    exact last 0 listed a w hls hm hm1 (nilAll listed hls h.1) h.2
  | succ fuel ih =>
    intro listed a w hls hm hm1 hcl h
    by_cases hnil : Region.ready .any A (listed.extract 0 m) = []
    · exact last (fuel + 1) listed a w hls hm hm1 (nilAll listed hls hnil) (h.1 hnil)
    · refine ⟨fun hn0 => absurd (List.eq_nil_iff_forall_not_mem.2 fun j hj => ?_) hnil, fun i hi => ?_⟩
      · have hj' := hj
        rw [mem_ready] at hj'
        obtain ⟨_, o, ho, _⟩ := hj'
        have hjm : j < m := by rw [← hAs]; exact (Array.getElem?_eq_some_iff.1 ho).1
        rw [← same listed hls j hjm, hn0] at hj
        cases hj
      · have hi0 := hi
        rw [mem_ready] at hi0
        obtain ⟨h1, o, ho, he⟩ := hi0
        have hio : i < ops.size := (Array.getElem?_eq_some_iff.1 ho).1
        have noall : ¬ ∀ i, i < m → listed.getD i false = true := by
          intro hall
          refine hnil (List.eq_nil_iff_forall_not_mem.2 fun j hj => ?_)
          rw [mem_ready] at hj
          obtain ⟨h2, o2, ho2, _⟩ := hj
          have hjm : j < m := by rw [← hAs]; exact (Array.getElem?_eq_some_iff.1 ho2).1
          rw [getD_ext hjm (by omega), low (by omega), hall j hjm] at h2
          cases h2
        rcases Nat.lt_trichotomy i m with h2 | h2 | h2
        · have hiA := (same listed hls i h2).1 hi
          have hw := h.2 i hiA
          have hoA : A[i]? = some o := by rw [hA i h2]; exact ho
          have hgo := hg o (Array.mem_of_getElem? hoA)
          unfold wpOpIn at hw ⊢
          simp only [ho, hoA, Region.wanted, hgo, if_true] at hw ⊢
          refine wpIn_monoQ (fun a w hk => ?_) (fun c a w hq => hq) (fun hl => hl) hw
          refine ih _ a w (by simp [hls]) ?_ ?_ ?_ ?_
          · rw [Array.getD_eq_getD_getElem?, Array.getElem?_setIfInBounds_ne (by omega), ← Array.getD_eq_getD_getElem?]; exact hm
          · rw [Array.getD_eq_getD_getElem?, Array.getElem?_setIfInBounds_ne (by omega), ← Array.getD_eq_getD_getElem?]; exact hm1
          · intro j oj hoj hlj k hk
            by_cases hki : k = i
            · subst hki
              rw [Array.getD_eq_getD_getElem?, Array.getElem?_setIfInBounds_self_of_lt (by omega)]; rfl
            · rw [Array.getD_eq_getD_getElem?, Array.getElem?_setIfInBounds_ne (Ne.symm hki), ← Array.getD_eq_getD_getElem?]
              by_cases hji : j = i
              · subst hji
                rw [ho] at hoj; cases hoj
                exact edge he k hk
              · rw [Array.getD_eq_getD_getElem?, Array.getElem?_setIfInBounds_ne (Ne.symm hji), ← Array.getD_eq_getD_getElem?] at hlj
                exact hcl j oj hoj hlj k hk
          · have e : (listed.setIfInBounds i true).extract 0 m = (listed.extract 0 m).setIfInBounds i true := by
              apply Array.ext_getElem?
              intro j
              by_cases hji : j = i
              · subst hji
                rw [Array.getElem?_setIfInBounds_self_of_lt (by simp; omega), Array.getElem?_extract, if_pos (by simp; omega), Nat.zero_add, Array.getElem?_setIfInBounds_self_of_lt (by omega)]
              · rw [Array.getElem?_setIfInBounds_ne (Ne.symm hji), Array.getElem?_extract, Array.getElem?_extract, Nat.zero_add, Array.getElem?_setIfInBounds_ne (Ne.symm hji), Array.size_setIfInBounds]
            rw [e]
            exact hk
        · subst h2
          exact absurd (hy (fun i => listed.getD i false) hcl fun o' ho' => by rw [ho] at ho'; cases ho'; exact edge he) noall
        · have : i = m + 1 := by omega
          subst this
          have := edge he m (hn o ho)
          rw [← low (by omega), hm] at this
          cases this
end
end Go.Fw
namespace Go.Fw
open Go Go.RowKit
def KpE (E : List Nat) (A B : World) : Prop := A.heap.size ≤ B.heap.size ∧ ∀ b cs ty fz, A.heap[b]? = some (.cells cs ty fz) → b ∉ E → B.heap[b]? = some (.cells cs ty fz)
theorem KpE.refl (E : List Nat) (A : World) : KpE E A A := ⟨Nat.le_refl _, fun _ _ _ _ h _ => h⟩
theorem KpE.trans {E : List Nat} {A B C : World} (h : KpE E A B) (k : KpE E B C) : KpE E A C := ⟨Nat.le_trans h.1 k.1, fun b cs ty fz hb he => k.2 b cs ty fz (h.2 b cs ty fz hb he) he⟩
theorem KpE.put {E : List Nat} (W : World) (l : Nat) (o o' : Obj) (hl : W.heap[l]? = some o) (ho : o.isCells = false) : KpE E W (W.putObj l o') := ⟨by simp, fun b cs ty fz hb _ => by
  have hne : b ≠ l := fun e => by
    subst e
    rw [hl] at hb
    cases hb
    cases ho
  rw [World.putObj_heap_other hne]
  exact hb⟩
theorem KpE.mem {E : List Nat} {A B : World} {M : Mem} (h : KpE E A B) (hM : MemOk M A) (hE : ∀ b ∈ E, M b = none) : MemOk M B := fun b cs hb => by
  obtain ⟨ty, fz, h1⟩ := hM b cs hb
  exact ⟨ty, fz, h.2 b cs ty fz h1 (fun he => by rw [hE b he] at hb; cases hb)⟩
section
variable {P : Program} {w : World} {nt : NT} {a : Act} {M : Mem}
theorem rel_bare (hM : MemOk M w) (env : List (Nat × AV)) : Rel ⟨w, M, [], noLoc⟩ M noLoc (mkS env []) w :=
  { mem := hM, le := MemLe.refl M, mnew := fun b hb => absurd rfl hb, refB := fun _ _ _ h => (by cases h), useB := fun _ h => absurd rfl h, mutb := fun _ _ _ h => (by cases h), frzb := fun _ _ h => (by cases h), frzr := fun _ _ h => (by cases h), inj := fun _ _ _ _ _ _ _ _ _ h => (by cases h), os := rfl, tape := rfl, output := rfl,
    size := Nat.le_refl _, keep := fun _ _ _ => rfl, pin := fun i hi => ⟨.inr hi, rfl⟩ }
theorem wpIn_deep {n n' : Nat} {c : Code} {Q : Exit → Act → World → Prop} (h : c.wpIn nt.F n P Q a w) : c.wpIn nt.F n' P Q a w :=
  fun b k cs hro hb _ => h b k cs hro hb (fun d hd => by cases hd)
theorem bare_run {c : Code} {env : List (Nat × AV)} {Q : Exit → AS → Prop} (h : W P nt c (mkS env []) Q) (hM : MemOk M w) (hS : Slots nt M noLoc (mkS env []) a) :
    c.wpIn nt.F 0 P (fun e a' w' => ∃ s M' β', Q e s ∧ Rel ⟨w, M, [], noLoc⟩ M' β' s w' ∧ Slots nt M' β' s a') a w := h _ M noLoc a w (rel_bare hM env) hS
theorem Slots.plain {β : Loc} {env : List (Nat × AV)} (h : Slots nt M β (mkS env []) a) (hβ : ∀ i, 1000000 ≤ i → β i = none) : Slots nt M noLoc (mkS env []) a :=
  h.later (MemLe.refl M) (fun id hid => by
    rcases hid with hid | hid
    · cases hid
    · rw [hβ id hid]; rfl) rfl (fun _ h => h)
theorem bare_to {w' : World} {M' : Mem} {β' : Loc} {s : AS} {a' : Act} {env : List (Nat × AV)} (hR : Rel ⟨w, M, [], noLoc⟩ M' β' s w') (hS : Slots nt M' β' s a') (hw : ∃ ρ, Wk s env [] ρ) :
    MemOk M' w' ∧ Slots nt M' noLoc (mkS env []) a' ∧ w.grownBy w' none ∧ w.heap.size ≤ w'.heap.size ∧ (∀ b, b < w.heap.size → M' b = M b) := by
  obtain ⟨ρ, hw⟩ := hw
  obtain ⟨h1, h2⟩ := hR.wk hS hw
  refine ⟨hR.mem, h2.plain (fun i hi => (h1.pin i hi).2), ⟨hR.os, hR.tape, hR.output, hR.size, fun b hb _ => hR.keep b hb (fun h => by cases h)⟩, hR.size, fun b hb => ?_⟩
  by_cases he : M' b = M b
  · exact he
  · rcases hR.mnew b he with h3 | h3
    · exact absurd hb (by simp at h3; omega)
    · cases h3
theorem drawn_any {ops : Array Oper} {C : Ctx} {β : Loc} {s : AS} {Q : AS → Prop} {Q' : Exit → AS → Prop} (hQ : ∀ s', Q s' → Q' .normal s') (hd : ops.toList.all (fun o => dstOk nt o.dst) = true) (hA : ordOk ops.toList (ancs ops.toList) = true)
    (h : vcnD P ops.toList (ancs ops.toList) Q ops.toList s []) (hR : Rel C M β s w) (hS : Slots nt M β s a) :
    wpAnyIn nt.F 0 P .any ops (lift C nt Q') ops.size (Array.replicate ops.size false) a { w with drawn := w.drawn + 1 } := by
  obtain ⟨z, k1, k2, k3, k4⟩ := vcnD_run _ _ _ h
  have hrep : ∀ i, (Array.replicate ops.size false).getD i false = false := fun i => by
    rw [Array.getD_eq_getD_getElem?, Array.getElem?_replicate]
    split <;> rfl
  have hs0 : stZ (fun i => (Array.replicate ops.size false).getD i false) 0 z s = s := stZ_none z 0 s (fun i => hrep _)
  have hR' := hR.draw (w' := { w with drawn := w.drawn + 1 }) rfl rfl rfl rfl
  exact any_order k1 (fun o ho => List.all_eq_true.1 hd o (by simpa using ho)) (Ord.of hA) (MemOrd.of (by simpa using k3)) (fun j p hp => by have := runL_at z 0 s k2 j p hp; rwa [Nat.zero_add] at this) (hQ _ k4)
    ops.size _ M β a _ (by simp) (fun j o _ hl => by rw [hrep] at hl; cases hl) (Nat.le_add_right _ _) (by rw [hs0]; exact hR') (by rw [hs0]; exact hS)
theorem wpAnyIn_monoQ {F : Fence} {n : Nat} {ops : Array Oper} {Q Q' : Exit → Act → World → Prop} (h : ∀ e a w, Q e a w → Q' e a w) : ∀ (fuel : Nat) (listed : Array Bool) (a : Act) (w : World), wpAnyIn F n P .any ops Q fuel listed a w → wpAnyIn F n P .any ops Q' fuel listed a w := by
  intro fuel
  induction fuel with
  | zero => intro listed a w hh; exact ⟨hh.1, h _ _ _ hh.2⟩
  | succ fuel ih =>
    intro listed a w hh
    refine ⟨fun hn => h _ _ _ (hh.1 hn), fun i hi => ?_⟩
    have := hh.2 i hi
    unfold wpOpIn at this ⊢
    split
    · rename_i hn; rw [hn] at this; exact ih _ _ _ this
    · rename_i o ho
      simp only [ho] at this
      split
      · rename_i hw
        rw [if_pos hw] at this
        exact wpIn_monoQ (fun a w hk => ih _ _ _ hk) (fun c a w hq => h _ _ _ hq) (fun ⟨a, w, hl⟩ => ⟨a, w, h _ _ _ hl⟩) this
      · rename_i hw
        rw [if_neg hw] at this
        exact ⟨this.1, ih _ _ _ this.2⟩
theorem yield_op {l : Nat} {y : Oper} {c : Call} (hy : y.op = .call c) {cf : Operand} (hcf : c.callee = .value cf) (hv : a.eval cf = .func (.yield l) #[] #[]) {args : Array Value} (hargs : c.args.map a.eval = args) (hg : y.guard = none) (hr : nt.round = none)
    {ops : Array Oper} {m : Nat} (hm : ops[m]? = some y) {R : Ending → World → Prop} (hY : YieldAt nt.F 0 P l args w R) {K : Act → World → Prop} {Q : Exit → Act → World → Prop}
    (hK : ∀ e w', R e w' → ∃ b, e = .returned (.bool b) ∧ K (a.put y.dst (.bool b)) w') : wpOpIn nt.F 0 P ops Q m K a w := by
  obtain ⟨fn, tmps, assign, body, h1, h2⟩ := hY
  unfold wpOpIn
  simp only [hm, Region.wanted, hg, if_true]
  refine ⟨fun _ _ => trivial, ?_⟩
  have hrun : (execOp a.eval y).run P w = .ok (.round l fn tmps assign body) w := by
    simp only [execOp, hy, resolve, hcf, hv, Sem.run_bind, Deferred.ofValue, Sem.run_pure, Result.andThen_ok, invoke, hargs]
    simpa [Sem.run_bind, Result.andThen] using h1
  rw [semAt_of (fun c' e' => by rw [hy] at e'; cases e'), hrun]
  refine ⟨fun h => (by cases h), h2.mono fun e w' hR => ?_⟩
  obtain ⟨b, rfl, h3⟩ := hK e w' hR
  exact h3
end
end Go.Fw
namespace Go.Fw
open Go Go.RowKit
def yv (l : Nat) : AV := .v (.func (.yield l) #[] #[])
def bareQ (env : List (Nat × AV)) : Exit → AS → Prop := fun e s => e = .normal ∧ ∃ ρ, Wk s env [] ρ
section
variable {P : Program} {w : World} {nt : NT} {a : Act} {M : Mem}
theorem wpOp_list {F : Fence} {n : Nat} {ops : Array Oper} {Q : Exit → Act → World → Prop} {o : Oper} {i : Nat} (hi : ops[i]? = some o) (hg : o.guard = none) (h : wpListIn F n P ops Q [o] a w) : wpOpIn F n P ops Q i (Q .normal) a w := by
  unfold wpListIn at h
  unfold wpOpIn
  simp only [hi, Region.wanted, hg, if_true] at h ⊢
  exact wpIn_monoQ (fun a w hk => by unfold wpListIn at hk; exact hk) (fun c a w hq => hq) (fun hl => hl) h
theorem wpList1_monoQ {F : Fence} {n : Nat} {ops : Array Oper} {Q Q' : Exit → Act → World → Prop} {o : Oper} (hq : ∀ e a w, Q e a w → Q' e a w) (h : wpListIn F n P ops Q [o] a w) : wpListIn F n P ops Q' [o] a w := by
  unfold wpListIn at h ⊢
  split
  · rename_i hw
    rw [if_pos hw] at h
    exact wpIn_monoQ (fun a w hk => by unfold wpListIn at hk ⊢; exact hq _ _ _ hk) (fun c a w h => hq _ _ _ h) (fun ⟨a, w, hl⟩ => ⟨a, w, hq _ _ _ hl⟩) h
  · rename_i hw
    rw [if_neg hw] at h
    refine ⟨h.1, ?_⟩
    have := h.2
    unfold wpListIn at this ⊢
    exact hq _ _ _ this
theorem slots_eval {env : List (Nat × AV)} (hM : MemOk M w) (hS : Slots nt M noLoc (mkS env []) a) {t : Nat} {v : Value} (he : lk env t = some (.v v)) : a.eval (.tmp t) = v := by
  have h := (val_ok (rel_bare hM env) hS (.tmp t)).rep
  have e : (mkS env []).val (.tmp t) = .v v := by
    simp only [AS.val, mkS, he, Option.getD_some, resB]
  rw [e] at h
  exact h.1
theorem no_results {fn : Func} (h : fn.results = #[]) (tmps : Array Value) (w : World) : ∃ v, (results fn tmps).run P w = .ok v w := by
  unfold results
  rw [h, Array.mapM_eq_mapM_toList]
  simp only [List.mapM_nil, Sem.run_bind, Sem.run_map, Sem.run_pure, Result.andThen_ok]
  exact ⟨_, rfl⟩
theorem iter_stops {gf : FuncId} {fn : Func} {R0 R1 R2 R4 : Code} {id : Nat} {ops A : Array Oper} {m N c8 c23 : Nat} {cap : AV} {lb : Array Value} {encs : Nat → Array Value} {w0 : World} {E : List Nat} {y nop : Oper} {c : Call} {cf dy : Nat}
    (hf : P.funcs[gf]? = some fn) (hb : fn.body = some (.seq R0 (.block 0 (.loop (.seq R1 (.seq (.cond (.tmp c8) .skip (.exit 0)) (.seq (.block 1 (.seq R2 (.seq (.region id ops true) (.cond (.tmp c23) .ret .skip)))) R4)))))))
    (hres : ∀ tmps w, ∃ v, (results fn tmps).run P w = .ok v w) (hlen : 2 ≤ fn.ntmps) (hmix : P.follows .mixedOrders = true)
    (hM0 : MemOk M w0) (hE : ∀ b ∈ E, M b = none ∧ b < w0.heap.size) (hlb : lb.size = 1) (hcap : RepT M noLoc [cap] lb 0) (hcr : cap.refs = [])
    (ET E1 EY : Nat → Nat → List (Nat × AV)) (EZ : Nat → Nat → List (Nat × AV))
    (hR0 : ∀ l, W P fn.ntmps R0 (entry [yv l, cap]) (bareQ (ET l 0)))
    (hR1 : ∀ l k, k ≤ N → W P fn.ntmps R1 (mkS (ET l k) []) (bareQ (E1 l k))) (hc8 : ∀ l k, k ≤ N → lk (E1 l k) c8 = some (.v (.bool (decide (k < N)))))
    (hR2 : ∀ l k, k < N → W P fn.ntmps R2 (mkS (E1 l k) []) (fun e s => e = .normal ∧ vcnD P A.toList (ancs A.toList) (fun s' => ∃ ρ, Wk s' (EY l k) [] ρ) A.toList s []))
    (hAd : A.toList.all (fun o => dstOk fn.ntmps o.dst) = true) (hAo : ordOk A.toList (ancs A.toList) = true) (hOo : ordOk ops.toList (ancs ops.toList) = true)
    (hops : ops.toList = A.toList ++ [y, nop]) (hAs : A.size = m) (hAg : A.toList.all (fun o => o.guard.isNone) = true) (hanc : (List.range m).all (fun i => ((ancs ops.toList).getD m []).contains i) = true) (hnm : (edgesOf nop).contains m = true)
    (hyo : y.op = .call c) (hyf : c.callee = .value (.tmp cf)) (hyg : y.guard = none) (hyd : y.dst = some dy) (hdy : dy < fn.ntmps) (hcf : ∀ l k, k < N → lk (EY l k) cf = some (yv l))
    (hargs : ∀ l k, k < N → ∀ M a w, MemOk M w → Slots fn.ntmps M noLoc (mkS (EY l k) []) a → c.args.map a.eval = encs k)
    (hng : nop.guard = none) (hnd : dstOk fn.ntmps nop.dst = true) (hnop : ∀ l k, k < N → vcn P ops.toList (bareQ (EZ l k)) [nop] ((mkS (EY l k) []).put (some dy) (.v (.bool true))))
    (hnopF : vcn P ops.toList (bareQ [(c23, .v (.bool true))]) [nop] ((mkS [] []).put (some dy) (.v (.bool false))))
    (hc23 : ∀ l k, k < N → lk (EZ l k) c23 = some (.v (.bool false)))
    (hR4 : ∀ l k, k < N → W P fn.ntmps R4 (mkS (EZ l k) []) (bareQ (ET l (k + 1)))) :
    SeqStopsK Fence.wide 0 P gf lb (fun x : { i : Nat // i < N } => encs x.1) (KpE E) (fun xs => xs.map (·.1) = List.range N) (fun xs => ∃ k, k ≤ N ∧ xs.map (·.1) = List.range k) N w0 := by
  intro l J Jx W hW hJ hJx hY h0
  have hjn : ∀ {s A B}, J s A → A.grownBy B none → J s B := fun h hg => hJ _ _ _ _ h hg (fun r e => by cases e)
  have hjx : ∀ {s A B}, Jx s A → A.grownBy B none → Jx s B := fun h hg => hJx _ _ _ _ h hg (fun r e => by cases e)
  have hMW : MemOk M W := fun b cs hb => by
    obtain ⟨ty, fz, h1⟩ := hM0 b cs hb
    exact ⟨ty, fz, (hW.block b (heap_lt h1)).trans h1⟩
  have hEW : ∀ b ∈ E, M b = none ∧ b < W.heap.size := fun b hb => ⟨(hE b hb).1, Nat.lt_of_lt_of_le (hE b hb).2 hW.size⟩
  obtain ⟨nt, hnt⟩ : ∃ nt : NT, nt = (fn.ntmps : NT) := ⟨_, rfl⟩
  refine callsIn_of_wp hf hb trivial ?_
  show Code.wpIn (NT.F (fn.ntmps : NT)) 0 P _ _ _ W
  have hsz : (#[Value.func (.yield l) #[] #[]] ++ lb : Array Value).size = 2 := by simp [hlb]
  have hrep : RepT M noLoc [yv l, cap] (#[Value.func (.yield l) #[] #[]] ++ lb) 0 := by
    have h1 : RepT M noLoc [yv l] #[Value.func (.yield l) #[] #[]] 0 := ⟨⟨_, rfl, rfl, rfl⟩, trivial⟩
    exact RepT.append (by simp) h1 hcap
  have hrefs : refsL [yv l, cap] = [] := by simp [refsL, yv, AV.refs, hcr]
  have hR : Rel ⟨W, M, [], noLoc⟩ M noLoc (entry [yv l, cap]) W :=
    { mem := hMW, le := MemLe.refl M, mnew := fun b hb => absurd rfl hb, refB := fun _ _ _ h => (by cases h), useB := fun _ h => absurd rfl h, mutb := fun _ _ _ h => (by cases h), frzb := fun _ _ h => (by cases h), frzr := fun _ _ h => (by cases h), inj := fun _ _ _ _ _ _ _ _ _ h => (by cases h), os := rfl, tape := rfl, output := rfl,
      size := Nat.le_refl _, keep := fun _ _ _ => rfl, pin := fun i hi => ⟨hi, rfl⟩ }
  have hS : Slots (fn.ntmps : NT) M noLoc (entry [yv l, cap]) { tmps := (#[Value.func (.yield l) #[] #[]] ++ lb) ++ Array.replicate (fn.ntmps - (#[Value.func (.yield l) #[] #[]] ++ lb : Array Value).size) undef, defers := [] } := by
    refine ⟨rfl, by rw [Array.size_append, Array.size_replicate, hsz]; show 2 + (fn.ntmps - 2) = fn.ntmps; omega, fun t => ?_, fun t id hid => ?_⟩
    · simp only [entry]
      cases ht : [yv l, cap][t]? with
      | none =>
        have hle : 2 ≤ t := by simpa using ht
        simp only [Option.getD_none]
        have hu : ((#[Value.func (.yield l) #[] #[]] ++ lb) ++ Array.replicate (fn.ntmps - (#[Value.func (.yield l) #[] #[]] ++ lb : Array Value).size) undef).getD t undef = undef := by
          rw [Array.getD_eq_getD_getElem?, Array.getElem?_append_right (by omega), Array.getElem?_replicate]
          split <;> rfl
        rw [hu]
        exact ⟨#[], rfl, rfl, trivial⟩
      | some v =>
        simp only [Option.getD_some]
        obtain ⟨x, h1, h2⟩ := (RepT.iff [yv l, cap] _ 0).1 hrep t v ht
        simp only [Nat.zero_add] at h1
        have hlt := (Array.getElem?_eq_some_iff.1 h1).1
        rw [Array.getD_eq_getD_getElem?, Array.getElem?_append_left hlt, h1]
        exact h2
    · simp only [entry] at hid
      cases ht : [yv l, cap][t]? with
      | none => rw [ht] at hid; simp [AV.refs, refsL] at hid
      | some v =>
        rw [ht] at hid
        have : id ∈ refsL [yv l, cap] := mem_refsL.2 ⟨v, List.mem_of_getElem? ht, hid⟩
        rw [hrefs] at this
        cases this
  -- the end
  have fin : ∀ (a' : Act) (w' : World), a'.defers = [] → ((∃ xs : List { i : Nat // i < N }, xs.map (·.1) = List.range N ∧ J xs w') ∨ ∃ pre : List { i : Nat // i < N }, (∃ k, k ≤ N ∧ pre.map (·.1) = List.range k) ∧ Jx pre w') →
      a'.defers = [] ∧ ∃ v, (results fn a'.tmps).run P w' = .ok v w' ∧ ((∃ v', Ending.returned v = .returned v') ∧ ((∃ xs : List { i : Nat // i < N }, xs.map (·.1) = List.range N ∧ J xs w') ∨ ∃ pre : List { i : Nat // i < N }, (∃ k, k ≤ N ∧ pre.map (·.1) = List.range k) ∧ Jx pre w')) := by
    intro a' w' hd h
    obtain ⟨v, hv⟩ := hres a'.tmps w'
    exact ⟨hd, v, hv, ⟨v, rfl⟩, h⟩
  refine wpIn_seq (wpIn_mono (hR0 l _ M noLoc _ W hR hS) ?_)
  rintro e a1 w1 ⟨s1, M1, β1, ⟨rfl, hk1⟩, hr1, hs1⟩
  obtain ⟨p1, p2, p3, p4, p5⟩ := bare_to hr1 hs1 hk1
  refine wpIn_block (wpIn_loop_n (fun j a w => ∃ k, j = N - k ∧ k ≤ N ∧ ∃ M, MemOk M w ∧ (∀ b ∈ E, M b = none ∧ b < w.heap.size) ∧ Slots (fn.ntmps : NT) M noLoc (mkS (ET l k) []) a ∧ ∃ pre : List { i : Nat // i < N }, pre.map (·.1) = List.range k ∧ J pre w) (n0 := N)
    ⟨0, rfl, Nat.zero_le _, M1, p1, fun b hb => ⟨by rw [p5 b (hEW b hb).2]; exact (hEW b hb).1, Nat.lt_of_lt_of_le (hEW b hb).2 p4⟩, p2, [], rfl, hjn h0 p3⟩ ?_)
  clear p1 p2 p3 p4 p5 hr1 hs1 hk1 hR hS
  rintro j a w ⟨k, rfl, hkN, M, hM, hE, hS, pre, hpre, hJp⟩
  -- the test
  refine wpIn_seq (wpIn_mono (bare_run (hR1 l k hkN) hM hS) ?_)
  rintro e a1 w1 ⟨s1, M1, β1, ⟨rfl, hk1⟩, hr1, hs1⟩
  obtain ⟨p1, p2, p3, p4, p5⟩ := bare_to hr1 hs1 hk1
  have hE1 : ∀ b ∈ E, M1 b = none ∧ b < w1.heap.size := fun b hb => ⟨by rw [p5 b (hE b hb).2]; exact (hE b hb).1, Nat.lt_of_lt_of_le (hE b hb).2 p4⟩
  have hJ1 := hjn hJp p3
  clear hr1 hs1 hk1 p3 p4 p5 hM hS hE hJp
  have hev := slots_eval p1 p2 (hc8 l k hkN)
  refine wpIn_seq ?_
  refine wpIn_cond_split hev (fun ht => ?_) (fun hf' => ?_)
  rotate_left
  · have : k = N := by have := of_decide_eq_false hf'; omega
    subst this
    refine wpIn_exit ?_
    exact fin a1 w1 p2.dfr (.inl ⟨pre, hpre, hJ1⟩)
  have hkN' : k < N := of_decide_eq_true ht
  refine wpIn_skip ?_
  refine wpIn_seq ?_
  refine wpIn_block ?_
  refine wpIn_seq (wpIn_mono (bare_run (hR2 l k hkN') p1 p2) ?_)
  rintro e a2 w2 ⟨s2, M2, β2, ⟨rfl, hv2⟩, hr2, hs2⟩
  have hop : ∀ i, i < m → A[i]? = ops[i]? := fun i hi => by
    have h1 : ops.toList[i]? = A.toList[i]? := by rw [hops, List.getElem?_append_left (by simp; omega)]
    simpa using h1.symm
  have hosz : ops.size = m + 2 := by
    have := congrArg List.length hops
    simp at this
    omega
  have hom : ops[m]? = some y := by
    have h1 : ops.toList[m]? = some y := by rw [hops, List.getElem?_append_right (by simp; omega)]; simp [hAs]
    simpa using h1
  have hon : ops[m + 1]? = some nop := by
    have h1 : ops.toList[m + 1]? = some nop := by rw [hops, List.getElem?_append_right (by simp; omega)]; simp [hAs]
    simpa using h1
  have hOrd := Ord.of hOo
  refine wpIn_seq (wpIn_region_any hmix ?_)
  have key := drawn_any (nt := (fn.ntmps : NT)) (Q' := fun e s => e = .normal ∧ ∃ ρ, Wk s (EY l k) [] ρ) (fun s' h => ⟨rfl, h⟩) hAd hAo hv2 hr2 hs2
  rw [hAs] at key
  rw [hosz]
  refine wpAnyIn_tail hosz hAs hop (fun o ho => by
      have := List.all_eq_true.1 hAg o (by simpa using ho)
      exact Option.isNone_iff_eq_none.1 this) hOrd.back
    (fun L hL hLm i hi => closed_anc hOrd hL (m + 1) m y (Nat.lt_succ_self _) hom (hLm y hom) i (by
      have := List.all_eq_true.1 hanc i (List.mem_range.2 hi)
      exact List.contains_iff_mem.1 this))
    (fun o ho => by rw [hon] at ho; cases ho; exact List.contains_iff_mem.1 hnm)
    m _ _ _ (by simp) (by simp) (by simp) (fun j o ho hl => by
      have hj := (Array.getElem?_eq_some_iff.1 ho).1
      rw [Array.getD_eq_getD_getElem?, Array.getElem?_replicate, if_pos (by omega)] at hl
      cases hl) ?_
  have hrepl : (Array.replicate (m + 2) false).extract 0 m = Array.replicate m false := by simp
  rw [hrepl]
  refine wpAnyIn_monoQ ?_ _ _ _ _ key
  clear key hv2 hr2 hs2
  rintro e a3 w3 ⟨s3, M3, β3, ⟨rfl, hk3⟩, hr3, hs3⟩
  obtain ⟨q1, q2, q3, q4, q5⟩ := bare_to hr3 hs3 hk3
  have hE3 : ∀ b ∈ E, M3 b = none ∧ b < w3.heap.size := fun b hb => ⟨by rw [q5 b (hE1 b hb).2]; exact (hE1 b hb).1, Nat.lt_of_lt_of_le (hE1 b hb).2 q4⟩
  have hJ3 := hjn hJ1 q3
  have hplen : pre.length = k := by have := congrArg List.length hpre; simpa using this
  have hYk := hY pre ⟨k, hkN'⟩ w3 hJ3 (by omega)
  show wpOpIn _ _ _ _ _ _ _ _ _
  refine yield_op hyo hyf (slots_eval q1 q2 (hcf l k hkN')) (hargs l k hkN' M3 a3 w3 q1 q2) hyg rfl hom hYk ?_
  have hpre' : (pre ++ [(⟨k, hkN'⟩ : { i : Nat // i < N })]).map (·.1) = List.range (k + 1) := by rw [List.map_append, hpre, List.range_succ]; rfl
  have hdk : dstOk (fn.ntmps : NT) (some dy) = true := by simp only [dstOk]; exact decide_eq_true hdy
  rintro e w' (⟨rfl, hj', hkp⟩ | ⟨rfl, hj'⟩)
  · -- the round goes on
    refine ⟨true, rfl, ?_⟩
    have hM' : MemOk M3 w' := hkp.mem q1 (fun b hb => (hE3 b hb).1)
    have hE' : ∀ b ∈ E, M3 b = none ∧ b < w'.heap.size := fun b hb => ⟨(hE3 b hb).1, Nat.lt_of_lt_of_le (hE3 b hb).2 hkp.1⟩
    have hS' : Slots (fn.ntmps : NT) M3 noLoc ((mkS (EY l k) []).put (some dy) (.v (.bool true))) (a3.put (some dy) (.bool true)) := q2.put hdk ⟨rfl, rfl⟩ (fun id hid => by simp [AV.refs] at hid)
    rw [hyd]
    refine wpOp_list hon hng (wpList1_monoQ ?_ (vcn_wp (P := P) (nt := (fn.ntmps : NT)) ops [nop] _ M3 noLoc _ w' (by simpa using hnd) ((rel_bare hM' (EY l k)).put (some dy) (.v (.bool true))) hS' (hnop l k hkN')))
    rintro e a4 w4 ⟨s4, M4, β4, ⟨rfl, hk4⟩, hr4, hs4⟩
    obtain ⟨u1, u2, u3, u4, u5⟩ := bare_to hr4 hs4 hk4
    have hE4 : ∀ b ∈ E, M4 b = none ∧ b < w4.heap.size := fun b hb => ⟨by rw [u5 b (hE' b hb).2]; exact (hE' b hb).1, Nat.lt_of_lt_of_le (hE' b hb).2 u4⟩
    have hJ4 := hjn hj' u3
    refine wpIn_cond_split (slots_eval u1 u2 (hc23 l k hkN')) (fun h => by cases h) (fun _ => ?_)
    refine wpIn_skip ?_
    refine wpIn_mono (bare_run (hR4 l k hkN') u1 u2) ?_
    rintro e a5 w5 ⟨s5, M5, β5, ⟨rfl, hk5⟩, hr5, hs5⟩
    obtain ⟨v1, v2, v3, v4, v5⟩ := bare_to hr5 hs5 hk5
    exact ⟨N - (k + 1), by omega, k + 1, rfl, by omega, M5, v1, fun b hb => ⟨by rw [v5 b (hE4 b hb).2]; exact (hE4 b hb).1, Nat.lt_of_lt_of_le (hE4 b hb).2 v4⟩, v2, _, hpre', hjn hJ4 v3⟩
  · -- the round has left
    refine ⟨false, rfl, ?_⟩
    have hM' : MemOk (fun _ => none) w' := fun b cs hb => by cases hb
    have hS0 : Slots (fn.ntmps : NT) (fun _ => none) noLoc (mkS [] []) a3 := ⟨q2.dfr, q2.size, fun t => by simp only [mkS, lk, Option.getD_none]; trivial, fun t id hid => by simp [mkS, lk, AV.refs] at hid⟩
    have hS' : Slots (fn.ntmps : NT) (fun _ => none) noLoc ((mkS [] []).put (some dy) (.v (.bool false))) (a3.put (some dy) (.bool false)) := hS0.put hdk ⟨rfl, rfl⟩ (fun id hid => by simp [AV.refs] at hid)
    rw [hyd]
    refine wpOp_list hon hng (wpList1_monoQ ?_ (vcn_wp (P := P) (nt := (fn.ntmps : NT)) ops [nop] _ (fun _ => none) noLoc _ w' (by simpa using hnd) ((rel_bare hM' []).put (some dy) (.v (.bool false))) hS' hnopF))
    rintro e a4 w4 ⟨s4, M4, β4, ⟨rfl, hk4⟩, hr4, hs4⟩
    obtain ⟨u1, u2, u3, u4, u5⟩ := bare_to hr4 hs4 hk4
    refine wpIn_cond_split (slots_eval u1 u2 (v := .bool true) (by simp [lk])) (fun _ => ?_) (fun h => by cases h)
    refine wpIn_ret ?_
    exact fin a4 w4 u2.dfr (.inr ⟨_, ⟨k + 1, by omega, hpre'⟩, hjx hj' u3⟩)
theorem iter_stops' {gf : FuncId} {fn : Func} {R0 R1 R2 R4 : Code} {id : Nat} {ops : Array Oper} {m N c8 c23 : Nat} {cap : AV} {lb : Array Value} {encs : Nat → Array Value} {w0 : World} {E : List Nat} {y nop : Oper} {c : Call} {cf dy : Nat}
    (hf : P.funcs[gf]? = some fn) (hb : fn.body = some (.seq R0 (.block 0 (.loop (.seq R1 (.seq (.cond (.tmp c8) .skip (.exit 0)) (.seq (.block 1 (.seq R2 (.seq (.region id ops true) (.cond (.tmp c23) .ret .skip)))) R4)))))))
    (hsz : ops.size = m + 2) (hy : ops[m]? = some y) (hn : ops[m + 1]? = some nop) (hyo : y.op = .call c) (hyf : c.callee = .value (.tmp cf)) (hyg : y.guard = none) (hyd : y.dst = some dy) (hng : nop.guard = none)
    (hres : ∀ tmps w, ∃ v, (results fn tmps).run P w = .ok v w) (hlen : 2 ≤ fn.ntmps) (hmix : P.follows .mixedOrders = true)
    (hAd : (ops.toList.take m).all (fun o => dstOk fn.ntmps o.dst) = true) (hAo : ordOk (ops.toList.take m) (ancs (ops.toList.take m)) = true) (hOo : ordOk ops.toList (ancs ops.toList) = true)
    (hAg : (ops.toList.take m).all (fun o => o.guard.isNone) = true) (hanc : (List.range m).all (fun i => ((ancs ops.toList).getD m []).contains i) = true) (hnm : (edgesOf nop).contains m = true) (hdy : dy < fn.ntmps) (hnd : dstOk fn.ntmps nop.dst = true)
    (hM0 : MemOk M w0) (hE : ∀ b ∈ E, M b = none ∧ b < w0.heap.size) (hlb : lb.size = 1) (hcap : RepT M noLoc [cap] lb 0) (hcr : cap.refs = [])
    (ET E1 EY : Nat → Nat → List (Nat × AV)) (EZ : Nat → Nat → List (Nat × AV))
    (hR0 : ∀ l, W P fn.ntmps R0 (entry [yv l, cap]) (bareQ (ET l 0)))
    (hR1 : ∀ l k, k ≤ N → W P fn.ntmps R1 (mkS (ET l k) []) (bareQ (E1 l k))) (hc8 : ∀ l k, k ≤ N → lk (E1 l k) c8 = some (.v (.bool (decide (k < N)))))
    (hR2 : ∀ l k, k < N → W P fn.ntmps R2 (mkS (E1 l k) []) (fun e s => e = .normal ∧ vcnD P (ops.toList.take m) (ancs (ops.toList.take m)) (fun s' => ∃ ρ, Wk s' (EY l k) [] ρ) (ops.toList.take m) s []))
    (hcf : ∀ l k, k < N → lk (EY l k) cf = some (yv l))
    (hargs : ∀ l k, k < N → ∀ M a w, MemOk M w → Slots fn.ntmps M noLoc (mkS (EY l k) []) a → c.args.map a.eval = encs k)
    (hnop : ∀ l k, k < N → vcn P ops.toList (bareQ (EZ l k)) [nop] ((mkS (EY l k) []).put (some dy) (.v (.bool true))))
    (hnopF : vcn P ops.toList (bareQ [(c23, .v (.bool true))]) [nop] ((mkS [] []).put (some dy) (.v (.bool false))))
    (hc23 : ∀ l k, k < N → lk (EZ l k) c23 = some (.v (.bool false)))
    (hR4 : ∀ l k, k < N → W P fn.ntmps R4 (mkS (EZ l k) []) (bareQ (ET l (k + 1)))) :
    SeqStopsK Fence.wide 0 P gf lb (fun x : { i : Nat // i < N } => encs x.1) (KpE E) (fun xs => xs.map (·.1) = List.range N) (fun xs => ∃ k, k ≤ N ∧ xs.map (·.1) = List.range k) N w0 := by
  have hsl : ops.toList.length = m + 2 := by simpa using hsz
  refine iter_stops (A := (ops.toList.take m).toArray) (m := m) hf hb hres hlen hmix hM0 hE hlb hcap hcr ET E1 EY EZ hR0 hR1 hc8 hR2 hAd hAo hOo ?_ (by simp; omega) hAg hanc hnm hyo hyf hyg hyd hdy hcf hargs hng hnd hnop hnopF hc23 hR4
  have h1 : ops.toList[m]? = some y := by simpa using hy
  have h2 : ops.toList[m + 1]? = some nop := by simpa using hn
  have e : ops.toList.drop m = [y, nop] := by
    rw [List.getElem?_eq_getElem (by omega)] at h1 h2
    rw [List.drop_eq_getElem_cons (by omega), List.drop_eq_getElem_cons (by omega), List.drop_eq_nil_of_le (by omega)]
    cases h1
    cases h2
    rfl
  show ops.toList = ops.toList.take m ++ [y, nop]
  rw [← e, List.take_append_drop]
end
end Go.Fw
namespace Go.Fw
open Go Go.RowKit
section
variable {P : Program} {C : Ctx} {M : Mem} {β : Loc} {s : AS} {w W W' : World} {a : Act}
theorem Rel.grown {row : Option Nat} (h : Rel C M β s W) (hg : W.grownBy W' row) (hr : ∀ r, row = some r → C.w0.heap.size ≤ r ∧ ∃ o : Obj, W.heap[r]? = some o ∧ o.isCells = false) : Rel C M β s W' := by
  have cells : ∀ b cs ty fz, W.heap[b]? = some (Obj.cells cs ty fz) → W'.heap[b]? = some (Obj.cells cs ty fz) := fun b cs ty fz hb => by
    refine (hg.block b (heap_lt hb) fun e => ?_).trans hb
    obtain ⟨_, o, ho, hc⟩ := hr b e.symm
    rw [hb] at ho
    cases ho
    cases hc
  refine ⟨fun b cs hb => ?_, h.le, h.mnew, h.refB, h.useB, fun id e l hi => ?_, h.frzb, h.frzr, h.inj, hg.os.trans h.os, hg.tape.trans h.tape, hg.output.trans h.output, Nat.le_trans h.size hg.size, fun b hb he => ?_, h.pin⟩
  · obtain ⟨ty, fz, h1⟩ := h.mem b cs hb
    exact ⟨ty, fz, cells b cs ty fz h1⟩
  · rcases h.mutb id e l hi with h1 | ⟨b, cs, k1, ⟨fz, k2, kf⟩, k3⟩
    · exact .inl h1
    · exact .inr ⟨b, cs, k1, ⟨fz, cells b cs e fz k2, kf⟩, k3⟩
  · refine (hg.block b (Nat.lt_of_lt_of_le hb h.size) fun e => ?_).trans (h.keep b hb he)
    have := (hr b e.symm).1
    omega
theorem Rel.back {ext : List Nat} {βP : Loc} {M' : Mem} {β' : Loc} {s' : AS} (h0 : Rel C M β s W) (h : Rel ⟨W, M, ext, βP⟩ M' β' s' W') (hx : ∀ b ∈ ext, C.w0.heap.size ≤ b ∨ b ∈ C.ext) (hp : ∀ i, 1000000 ≤ i → βP i = C.β0 i) : Rel C M' β' s' W' := by
  have hin : ∀ b, W.heap.size ≤ b ∨ b ∈ ext → C.w0.heap.size ≤ b ∨ b ∈ C.ext := fun b hb => by
    rcases hb with hb | hb
    · exact .inl (Nat.le_trans h0.size hb)
    · exact hx b hb
  refine ⟨h.mem, h0.le.trans h.le, fun b hb => ?_, h.refB, h.useB, fun id e l hi => ?_, h.frzb, h.frzr, h.inj, h.os.trans h0.os, h.tape.trans h0.tape, h.output.trans h0.output, Nat.le_trans h0.size h.size, fun b hb he => ?_, fun i hi => ⟨(h.pin i hi).1, (h.pin i hi).2.trans (hp i hi)⟩⟩
  · by_cases he : M' b = M b
    · rw [he] at hb; exact h0.mnew b hb
    · exact hin b (h.mnew b he)
  · rcases h.mutb id e l hi with h1 | ⟨b, cs, k1, k2, k3, k4, k5, k6⟩
    · exact .inl h1
    · exact .inr ⟨b, cs, k1, k2, k3, k4, k5, hin b k6⟩
  · refine (h.keep b (Nat.lt_of_lt_of_le hb h0.size) fun hm => ?_).trans (h0.keep b hb he)
    rcases hx b hm with h1 | h1
    · omega
    · exact he h1
def pinB (l : List (Nat × Box)) : List (Nat × Box) := l.map fun p => (p.1 + 1000000, p.2)
theorem lk_pin (l : List (Nat × Box)) (i : Nat) (B : Box) : lk (pinB l) i = some B ↔ 1000000 ≤ i ∧ lk l (i - 1000000) = some B := by
  induction l with
  | nil => simp [pinB, lk]
  | cons p r ih =>
    show (if p.1 + 1000000 = i then some p.2 else lk (pinB r) i) = some B ↔ _
    by_cases h : p.1 + 1000000 = i
    · rw [if_pos h]
      have h1 : lk (p :: r) (i - 1000000) = some p.2 := by show (if p.1 = i - 1000000 then _ else _) = _; rw [if_pos (by omega)]
      rw [h1]
      exact ⟨fun h2 => ⟨by omega, h2⟩, fun h2 => h2.2⟩
    · rw [if_neg h, ih]
      refine and_congr_right fun hi => ?_
      have h1 : lk (p :: r) (i - 1000000) = lk r (i - 1000000) := by show (if p.1 = i - 1000000 then _ else _) = _; rw [if_neg (by omega)]
      rw [h1]
def flatB (l : List (Nat × Box)) : Prop := ∀ p ∈ l, ∃ e c, p.2 = .mut e c ∧ refsL c = []
def pinL (ids : List Nat) (β : Loc) : Loc := fun i => if 1000000 ≤ i ∧ i - 1000000 ∈ ids then β (i - 1000000) else none
def pinE (ids : List Nat) (β : Loc) : List Nat := ids.filterMap fun i => (β i).map (·.1)
theorem mem_pinE {ids : List Nat} {b : Nat} (h : b ∈ pinE ids β) : ∃ i n, i ∈ ids ∧ β i = some (b, n) := by
  obtain ⟨i, hi, h1⟩ := List.mem_filterMap.1 h
  obtain ⟨⟨b', n⟩, h2, rfl⟩ := Option.map_eq_some_iff.1 h1
  exact ⟨i, n, hi, h2⟩
theorem pinL_some {ids : List Nat} {i b n : Nat} (h : pinL ids β i = some (b, n)) : 1000000 ≤ i ∧ i - 1000000 ∈ ids ∧ β (i - 1000000) = some (b, n) ∧ b ∈ pinE ids β := by
  unfold pinL at h
  split at h
  · rename_i hc
    exact ⟨hc.1, hc.2, h, List.mem_filterMap.2 ⟨_, hc.2, by rw [h]; rfl⟩⟩
  · cases h
theorem lk_ids {α : Type} {l : List (Nat × α)} {i : Nat} (h : i ∈ l.map (·.1)) : ∃ B, lk l i = some B := by
  induction l with
  | nil => cases h
  | cons p r ih =>
    simp only [lk]
    by_cases hp : p.1 = i
    · exact ⟨_, by rw [if_pos hp]⟩
    · rw [if_neg hp]
      rcases List.mem_cons.1 h with h1 | h1
      · exact absurd h1.symm hp
      · exact ih h1
theorem lk_mem_ids {α : Type} {l : List (Nat × α)} {i : Nat} {B : α} (h : lk l i = some B) : i ∈ l.map (·.1) := List.mem_map.2 ⟨_, lk_mem h, rfl⟩
theorem RepAt.flat {l : List AV} {cs : Array Value} {o : Nat} {β' : Loc} {M' : Mem} (hr : refsL l = []) (hM : MemLe M M') (h : RepAt M β l cs o) : RepAt M' β' l cs o := RepAt.mono hM l cs o (fun j hj => by rw [hr] at hj; cases hj) h
theorem Rel.topin {env : List (Nat × AV)} {bx : List (Nat × Box)} (h : Rel C M β (mkS env bx) w) (hf : flatB bx) :
    Rel ⟨w, M, pinE (bx.map (·.1)) β, pinL (bx.map (·.1)) β⟩ M (pinL (bx.map (·.1)) β) (mkS [] (pinB bx)) w := by
  have hbox : ∀ i B, lk (pinB bx) i = some B → 1000000 ≤ i ∧ lk bx (i - 1000000) = some B := fun i B hi => (lk_pin bx i B).1 hi
  have hval : ∀ i B, lk (pinB bx) i = some B → pinL (bx.map (·.1)) β i = β (i - 1000000) := fun i B hi => by
    obtain ⟨h1, h2⟩ := hbox i B hi
    unfold pinL
    rw [if_pos ⟨h1, lk_mem_ids h2⟩]
  refine { mem := h.mem, le := MemLe.refl M, mnew := fun b hb => absurd rfl hb, refB := ?_, useB := ?_, mutb := ?_, frzb := ?_, frzr := ?_, inj := ?_, os := rfl, tape := rfl, output := rfl, size := Nat.le_refl _, keep := fun _ _ _ => rfl, pin := fun i hi => ⟨.inr hi, rfl⟩ }
  · intro id e l hi j hj
    obtain ⟨e', c, h1, h2⟩ := hf _ (lk_mem (hbox id _ hi).2)
    cases h1
    rw [h2] at hj
    cases hj
  · intro id hid
    cases hx : lk (pinB bx) id with
    | none => exact absurd hx hid
    | some B => exact .inr (hbox id B hx).1
  · intro id e l hi
    obtain ⟨h1, h2⟩ := hbox id _ hi
    obtain ⟨e', c, h3, h4⟩ := hf _ (lk_mem h2)
    cases h3
    have hv := hval id _ hi
    rcases h.mutb (id - 1000000) e l h2 with ⟨k1, k2⟩ | ⟨b, cs, k1, k2, k3, k4, k5, k6⟩
    · exact .inl ⟨by rw [hv]; exact k1, k2⟩
    · exact .inr ⟨b, cs, by rw [hv]; exact k1, k2, k3.flat h4 (MemLe.refl M), k4, k5, .inr (pinL_some (by rw [hv]; exact k1)).2.2.2⟩
  · intro id l hi
    obtain ⟨e', c, h3, _⟩ := hf _ (lk_mem (hbox id _ hi).2)
    cases h3
  · intro id l hi
    obtain ⟨e', c, h3, _⟩ := hf _ (lk_mem (hbox id _ hi).2)
    cases h3
  · intro i j e e' l l' b n n' hi hj hbi hbj
    rw [hval i _ hi] at hbi
    rw [hval j _ hj] at hbj
    have := h.inj _ _ e e' l l' b n n' (hbox i _ hi).2 (hbox j _ hj).2 hbi hbj
    have := (hbox i _ hi).1
    have := (hbox j _ hj).1
    omega
theorem Rel.unpin {env : List (Nat × AV)} {bx bx' : List (Nat × Box)} {M' : Mem} (h0 : Rel C M β (mkS env bx) w) (h : Rel ⟨w, M, pinE (bx.map (·.1)) β, pinL (bx.map (·.1)) β⟩ M' (pinL (bx.map (·.1)) β) (mkS [] (pinB bx')) W)
    (hids : bx'.map (·.1) = bx.map (·.1)) (hf0 : flatB bx) (hf : flatB bx') : Rel C M' β (mkS env bx') W := by
  have hbox : ∀ i B, lk bx' i = some B → lk (pinB bx') (i + 1000000) = some B ∧ pinL (bx.map (·.1)) β (i + 1000000) = β i := fun i B hi => by
    refine ⟨(lk_pin bx' _ B).2 ⟨by omega, by rw [Nat.add_sub_cancel]; exact hi⟩, ?_⟩
    unfold pinL
    rw [if_pos ⟨by omega, by rw [Nat.add_sub_cancel, ← hids]; exact lk_mem_ids hi⟩, Nat.add_sub_cancel]
  have hin : ∀ b, w.heap.size ≤ b ∨ b ∈ pinE (bx.map (·.1)) β → C.w0.heap.size ≤ b ∨ b ∈ C.ext := fun b hb => by
    rcases hb with hb | hb
    · exact .inl (Nat.le_trans h0.size hb)
    · obtain ⟨i, n, hi, h1⟩ := mem_pinE hb
      obtain ⟨B, hB⟩ := lk_ids hi
      obtain ⟨e, c, h2, _⟩ := hf0 _ (lk_mem hB)
      simp only at h2
      subst h2
      rcases h0.mutb i e c hB with ⟨k1, _⟩ | ⟨b', cs, k1, _, _, _, _, k6⟩
      · rw [k1] at h1; cases h1
      · rw [k1] at h1; cases h1; exact k6
  refine ⟨h.mem, h0.le.trans h.le, fun b hb => ?_, ?_, ?_, ?_, ?_, ?_, ?_, h.os.trans h0.os, h.tape.trans h0.tape, h.output.trans h0.output, Nat.le_trans h0.size h.size, fun b hb he => ?_, fun i hi => ⟨.inr hi, (h0.pin i hi).2⟩⟩
  · by_cases he : M' b = M b
    · rw [he] at hb; exact h0.mnew b hb
    · exact hin b (h.mnew b he)
  · intro id e l hi j hj
    obtain ⟨e', c, h1, h2⟩ := hf _ (lk_mem hi)
    cases h1
    rw [h2] at hj
    cases hj
  · intro id hid
    cases hx : lk bx' id with
    | none => exact absurd hx hid
    | some B => exact .inl (lk_mem_ids hx)
  · intro id e l hi
    obtain ⟨h1, h2⟩ := hbox id _ hi
    obtain ⟨e', c, h3, h4⟩ := hf _ (lk_mem hi)
    cases h3
    rcases h.mutb _ e l h1 with ⟨k1, k2⟩ | ⟨b, cs, k1, k2, k3, k4, k5, k6⟩
    · exact .inl ⟨by rw [← h2]; exact k1, k2⟩
    · exact .inr ⟨b, cs, by rw [← h2]; exact k1, k2, k3.flat h4 (MemLe.refl _), k4, k5, hin b k6⟩
  · intro id l hi
    obtain ⟨e', c, h3, _⟩ := hf _ (lk_mem hi)
    cases h3
  · intro id l hi
    obtain ⟨e', c, h3, _⟩ := hf _ (lk_mem hi)
    cases h3
  · intro i j e e' l l' b n n' hi hj hbi hbj
    rw [← (hbox i _ hi).2] at hbi
    rw [← (hbox j _ hj).2] at hbj
    have := h.inj _ _ e e' l l' b n n' (hbox i _ hi).1 (hbox j _ hj).1 hbi hbj
    omega
  · refine (h.keep b (Nat.lt_of_lt_of_le hb h0.size) fun hm => ?_).trans (h0.keep b hb he)
    rcases hin b (.inr hm) with h1 | h1
    · omega
    · exact he h1
end
end Go.Fw
namespace Go.Fw
open Go Go.RowKit
section
variable {P : Program} {C : Ctx} {M : Mem} {β : Loc} {s : AS} {w W W' : World} {a : Act}
theorem pin_mem {ids : List Nat} {bx : List (Nat × Box)} {M1 : Mem} (h : Rel ⟨w, M, pinE ids β, pinL ids β⟩ M1 (pinL ids β) (mkS [] (pinB bx)) W) (hids : bx.map (·.1) = ids) (hf : flatB bx) (hE : ∀ b ∈ pinE ids β, M b = none) :
    ∀ b, b < w.heap.size → M1 b = M b := by
  intro b hb
  by_cases he : M1 b = M b
  · exact he
  · rcases h.mnew b he with h1 | h1
    · simp at h1; omega
    · rw [hE b h1]
      obtain ⟨i, n, hi, h2⟩ := mem_pinE h1
      obtain ⟨B, hB⟩ := lk_ids (l := bx) (by rw [hids]; exact hi)
      obtain ⟨e, c, h3, _⟩ := hf _ (lk_mem hB)
      simp only at h3
      subst h3
      have h4 : lk (pinB bx) (i + 1000000) = some (.mut e c) := (lk_pin bx _ _).2 ⟨by omega, by rw [Nat.add_sub_cancel]; exact hB⟩
      have h5 : pinL ids β (i + 1000000) = some (b, n) := by
        unfold pinL
        rw [if_pos ⟨by omega, by rw [Nat.add_sub_cancel]; exact hi⟩, Nat.add_sub_cancel]
        exact h2
      rcases h.mutb _ _ _ h4 with ⟨k1, _⟩ | ⟨b', cs, k1, _, _, _, k5, _⟩
      · rw [h5] at k1; cases k1
      · rw [h5] at k1; cases k1; exact k5
def joinM (M1 M2 : Mem) : Mem := fun b => (M1 b).orElse fun _ => M2 b
theorem joinM_ok {M1 M2 : Mem} (h1 : MemOk M1 W) (h2 : MemOk M2 W) : MemOk (joinM M1 M2) W ∧ MemLe M1 (joinM M1 M2) ∧ MemLe M2 (joinM M1 M2) := by
  refine ⟨fun b cs hb => ?_, fun b cs hb => ?_, fun b cs hb => ?_⟩
  · unfold joinM at hb
    cases h : M1 b with
    | none => rw [h] at hb; exact h2 b cs (by simpa using hb)
    | some c => rw [h] at hb; simp at hb; subst hb; exact h1 b c h
  · unfold joinM; rw [hb]; rfl
  · unfold joinM
    cases h : M1 b with
    | none => simpa using hb
    | some c =>
      obtain ⟨_, _, k1⟩ := h1 b c h
      obtain ⟨_, _, k2⟩ := h2 b cs hb
      rw [k1] at k2
      cases k2
      rfl
theorem round_rel {ids : List Nat} {bx : List (Nat × Box)} {M1 M2 : Mem} {nt : NT} {env : List (Nat × AV)} (h : Rel ⟨w, M, pinE ids β, pinL ids β⟩ M1 (pinL ids β) (mkS [] (pinB bx)) W) (hids : bx.map (·.1) = ids) (hf : flatB bx) (hE : ∀ b ∈ pinE ids β, M b = none ∧ b < w.heap.size)
    (h2 : MemOk M2 W) (hb2 : ∀ b, b < w.heap.size → M2 b = M b) (hS : Slots nt M2 (pinL ids β) (mkS env []) a) :
    Rel ⟨W, joinM M1 M2, pinE ids β, pinL ids β⟩ (joinM M1 M2) (pinL ids β) (mkS env (pinB bx)) W ∧ Slots nt (joinM M1 M2) (pinL ids β) (mkS env (pinB bx)) a ∧ Rel ⟨w, M, pinE ids β, pinL ids β⟩ (joinM M1 M2) (pinL ids β) (mkS [] (pinB bx)) W := by
  obtain ⟨j1, j2, j3⟩ := joinM_ok h.mem h2
  have hbox : ∀ i B, lk (pinB bx) i = some B → 1000000 ≤ i ∧ lk bx (i - 1000000) = some B := fun i B hi => (lk_pin bx i B).1 hi
  have hmut : ∀ id e l, lk (pinB bx) id = some (.mut e l) → ∀ C' : Ctx, C'.ext = pinE ids β → MutOk C' (joinM M1 M2) (pinL ids β) W id e l := by
    intro id e l hi C' hC'
    obtain ⟨e', c, h3, h4⟩ := hf _ (lk_mem (hbox id _ hi).2)
    cases h3
    rcases h.mutb id e l hi with h5 | ⟨b, cs, k1, k2, k3, k4, k5, k6⟩
    · exact .inl h5
    · have hbE := (pinL_some k1).2.2.2
      refine .inr ⟨b, cs, k1, k2, k3.flat h4 j2, k4, ?_, .inr (by rw [hC']; exact hbE)⟩
      unfold joinM
      rw [k5]
      show M2 b = none
      rw [hb2 b (hE b hbE).2]
      exact (hE b hbE).1
  have hfz : ∀ id l, lk (pinB bx) id = some (.frz l) → False := fun id l hi => by
    obtain ⟨e', c, h3, _⟩ := hf _ (lk_mem (hbox id _ hi).2)
    cases h3
  have href : ∀ id e l, lk (pinB bx) id = some (.mut e l) → refsL l = [] := fun id e l hi => by
    obtain ⟨e', c, h3, h4⟩ := hf _ (lk_mem (hbox id _ hi).2)
    cases h3
    exact h4
  refine ⟨{ mem := j1, le := MemLe.refl _, mnew := fun b hb => absurd rfl hb, refB := (fun id e l hi j hj => by rw [href id e l hi] at hj; cases hj), useB := fun id hid => ?_, mutb := fun id e l hi => hmut id e l hi _ rfl, frzb := fun id l hi => (hfz id l hi).elim, frzr := fun id l hi => (hfz id l hi).elim, inj := h.inj, os := rfl, tape := rfl, output := rfl, size := Nat.le_refl _, keep := fun _ _ _ => rfl, pin := fun i hi => ⟨.inr hi, rfl⟩ }, ?_,
    ⟨j1, h.le.trans j2, fun b hb => ?_, h.refB, h.useB, fun id e l hi => hmut id e l hi _ rfl, fun id l hi => (hfz id l hi).elim, h.frzr, h.inj, h.os, h.tape, h.output, h.size, h.keep, h.pin⟩⟩
  · cases hx : lk (pinB bx) id with
    | none => exact absurd hx hid
    | some B => exact .inr (hbox id B hx).1
  · refine hS.later j3 (fun _ _ => rfl) rfl (fun id hid => ?_)
    rcases hid with hid | hid
    · cases hid
    · exact .inr hid
  · by_cases hlt : b < w.heap.size
    · refine absurd ?_ hb
      show (M1 b).orElse _ = M b
      rw [pin_mem h hids hf (fun b hb => (hE b hb).1) b hlt]
      cases hm : M b with
      | none => show M2 b = none; rw [hb2 b hlt, hm]
      | some c => rfl
    · exact .inl (by simp; omega)
theorem round_end {ids : List Nat} {bx bx' : List (Nat × Box)} {M1 M' : Mem} {β' : Loc} {s' : AS} {nt : NT} {a' : Act} {env' : List (Nat × AV)} (h0 : Rel ⟨w, M, pinE ids β, pinL ids β⟩ M1 (pinL ids β) (mkS [] (pinB bx)) W)
    (hids' : bx'.map (·.1) = ids) (hf' : flatB bx') (hE : ∀ b ∈ pinE ids β, M b = none ∧ b < w.heap.size) (hcell : ∀ b ∈ pinE ids β, ∃ cs e fz, W.heap[b]? = some (.cells cs e fz))
    (h : Rel ⟨W, M1, pinE ids β, pinL ids β⟩ M' β' s' W') (hS : Slots nt M' β' s' a') (hw : ∃ ρ, Wk s' env' (pinB bx') ρ) :
    Rel ⟨w, M, pinE ids β, pinL ids β⟩ M' (pinL ids β) (mkS [] (pinB bx')) W' ∧ Slots nt M' (pinL ids β) (mkS env' (pinB bx')) a' ∧ KpE (pinE ids β) W W' ∧ KeepsOthers W W' := by
  obtain ⟨ρ, hw⟩ := hw
  obtain ⟨r1, r2⟩ := h.wk hS hw
  have hbox : ∀ i B, lk (pinB bx') i = some B → 1000000 ≤ i ∧ lk bx' (i - 1000000) = some B := fun i B hi => (lk_pin bx' i B).1 hi
  have hβ : ∀ i, 1000000 ≤ i → β' (ρ i) = pinL ids β i := fun i hi => by rw [hw.2.2.2.2.2 i hi]; exact (h.pin i hi).2
  have hflat : ∀ id B, lk (pinB bx') id = some B → ∃ e c, B = .mut e c ∧ refsL c = [] := fun id B hi => hf' _ (lk_mem (hbox id _ hi).2)
  have k1 : Rel ⟨W, M1, pinE ids β, pinL ids β⟩ M' (pinL ids β) (mkS [] (pinB bx')) W' := by
    refine ⟨r1.mem, r1.le, r1.mnew, r1.refB, r1.useB, fun id e l hi => ?_, fun id l hi => ?_, r1.frzr, fun i j e e' l l' b n n' hi hj hbi hbj => ?_, r1.os, r1.tape, r1.output, r1.size, r1.keep, fun i hi => ⟨.inr hi, rfl⟩⟩
    · have hge := (hbox id _ hi).1
      obtain ⟨e', c, h3, h4⟩ := hflat id _ hi
      cases h3
      rcases r1.mutb id e l hi with ⟨q1, q2⟩ | ⟨b, cs, q1, q2, q3, q4⟩
      · exact .inl ⟨by rw [← hβ id hge]; exact q1, q2⟩
      · exact .inr ⟨b, cs, by rw [← hβ id hge]; exact q1, q2, q3.flat h4 (MemLe.refl _), q4⟩
    · obtain ⟨e', c, h3, _⟩ := hflat id _ hi
      cases h3
    · exact r1.inj i j e e' l l' b n n' hi hj (by show β' (ρ i) = _; rw [hβ i (hbox i _ hi).1]; exact hbi) (by show β' (ρ j) = _; rw [hβ j (hbox j _ hj).1]; exact hbj)
  refine ⟨h0.back k1 (fun b hb => .inr hb) (fun i hi => rfl), ?_, ⟨h.size, fun b cs ty fz hb hne => (h.keep b (heap_lt hb) hne).trans hb⟩, ⟨h.size, fun k o hk ho => (h.keep k (heap_lt hk) fun hm => ?_).trans hk⟩⟩
  · refine r2.later (MemLe.refl _) (fun id hid => ?_) rfl (fun _ h => h)
    rcases hid with hid | hid
    · obtain ⟨B, hB⟩ := lk_ids hid
      exact (hβ id (hbox id B hB).1).symm
    · exact (hβ id hid).symm
  · obtain ⟨cs, e, fz, h1⟩ := hcell k hm
    rw [hk] at h1
    cases h1
    cases ho
end
end Go.Fw
namespace Go.Fw
open Go Go.RowKit
def mark (D : Nat) : Deferred := { target := .collected D, args := #[] }
def bodyQ (bx bxr : List Nat → List (Nat × Box)) (Fn Fr : List Nat → Prop) (is : List Nat) : Exit → AS → Prop
  | .normal, s => Fn is ∧ ∃ ρ, Wk s [] (pinB (bx is)) ρ
  | .ret, s => Fr is ∧ ∃ ρ, Wk s [] (pinB (bxr is)) ρ
  | _, _ => False
section
variable {P : Program} {C : Ctx} {M : Mem} {β : Loc} {w : World} {a : Act}
theorem pin_cells {ids : List Nat} {bx : List (Nat × Box)} {M1 : Mem} {W : World} (h : Rel ⟨w, M, pinE ids β, pinL ids β⟩ M1 (pinL ids β) (mkS [] (pinB bx)) W) (hids : bx.map (·.1) = ids) (hf : flatB bx) :
    ∀ b ∈ pinE ids β, ∃ cs e fz, W.heap[b]? = some (.cells cs e fz) := by
  intro b hb
  obtain ⟨i, n, hi, h2⟩ := mem_pinE hb
  obtain ⟨B, hB⟩ := lk_ids (l := bx) (by rw [hids]; exact hi)
  obtain ⟨e, c, h3, _⟩ := hf _ (lk_mem hB)
  simp only at h3
  subst h3
  have h4 : lk (pinB bx) (i + 1000000) = some (.mut e c) := (lk_pin bx _ _).2 ⟨by omega, by rw [Nat.add_sub_cancel]; exact hB⟩
  have h5 : pinL ids β (i + 1000000) = some (b, n) := by
    unfold pinL
    rw [if_pos ⟨by omega, by rw [Nat.add_sub_cancel]; exact hi⟩, Nat.add_sub_cancel]
    exact h2
  rcases h.mutb _ _ _ h4 with ⟨k1, _⟩ | ⟨b', cs, k1, ⟨fz, k2, _⟩, _⟩
  · rw [h5] at k1; cases k1
  · rw [h5] at k1; cases k1; exact ⟨_, _, _, k2⟩
theorem slots_pin {nt : NT} {β' : Loc} {M' : Mem} {env : List (Nat × AV)} {bx : List (Nat × Box)} (h : Slots nt M' β' (mkS env (pinB bx)) a) : Slots nt M' β' (mkS env []) a :=
  ⟨h.dfr, h.size, h.slot, fun t id hid => by
    rcases h.refE t id hid with h1 | h1
    · obtain ⟨B, hB⟩ := lk_ids h1
      exact .inr ((lk_pin bx id B).1 hB).1
    · exact .inr h1⟩
theorem range_rule {n : Nat} {g : Operand} {gf : FuncId} {ps : Array Tmp} {assign body : Code} {N : Nat} {encs : Nat → Array Value} {lb : Array Value} {ids : List Nat} {env : List (Nat × AV)} {Q : Exit → Act → World → Prop}
    (bx bxr : List Nat → List (Nat × Box)) (Fn Fr : List Nat → Prop) (hF0 : Fn []) (hbx : ∀ is, (bx is).map (·.1) = ids) (hbf : ∀ is, flatB (bx is)) (hrx : ∀ is, (bxr is).map (·.1) = ids) (hrf : ∀ is, flatB (bxr is)) (envP envB : Nat → List (Nat × AV))
    (hR : Rel C M β (mkS env (bx [])) w) (hS : Slots ⟨n, [], none⟩ M β (mkS env (bx [])) a)
    (hg : a.eval g = .func (.func gf) #[] lb) (hent : Enters P gf)
    (hseq : ∀ E, (∀ b ∈ E, M b = none ∧ b < w.heap.size) → SeqStopsK Fence.wide 0 P gf lb (fun x : { i : Nat // i < N } => encs x.1) (KpE E) (fun xs => xs.map (·.1) = List.range N) (fun xs => ∃ k, k ≤ N ∧ xs.map (·.1) = List.range k) N w)
    (hps : ∀ i, i < N → (encs i).size = ps.size)
    (hP : ∀ i, i < N → Slots ⟨n, [], none⟩ M (pinL ids β) (mkS (envP i) []) { tmps := (ps.zip (encs i)).foldl (fun t (p, v) => t.setIfInBounds p v) a.tmps, defers := [] })
    (hassign : ∀ l is i, i < N → W P ⟨n, [], some l⟩ assign (mkS (envP i) (pinB (bx is))) (fun e s' => e = .normal ∧ ∃ ρ, Wk s' (envB i) (pinB (bx is)) ρ))
    (hbody : ∀ l is i, i < N → is.length < N → (∀ j ∈ is, j < N) → Fn is → W P ⟨n, [], some l⟩ body (mkS (envB i) (pinB (bx is))) (bodyQ bx bxr Fn Fr (is ++ [i])))
    (hdone : ∀ D W M', Fn (List.range N) → w.heap.size ≤ D → W.heap[D]? = some (.deferred (some [])) → Rel C M' β (mkS env (bx (List.range N))) W → Slots ⟨n, [mark D], none⟩ M' β (mkS env (bx (List.range N))) { a with defers := mark D :: a.defers } → Q .normal { a with defers := mark D :: a.defers } W)
    (hstop : ∀ D W M' k, k ≤ N → Fr (List.range k) → w.heap.size ≤ D → W.heap[D]? = some (.deferred (some [])) → Rel C M' β (mkS env (bxr (List.range k))) W → Slots ⟨n, [mark D], none⟩ M' β (mkS env (bxr (List.range k))) { a with defers := mark D :: a.defers } → Q .ret { a with defers := mark D :: a.defers } W) :
    (Code.rangeFunc g ps assign body).wpIn Fence.wide 1 P Q a w := by
  have htop := hR.topin (hbf [])
  rw [hbx []] at htop
  have hE : ∀ b ∈ pinE ids β, M b = none ∧ b < w.heap.size := fun b hb => by
    obtain ⟨i, m, hi, h2⟩ := mem_pinE hb
    obtain ⟨B, hB⟩ := lk_ids (l := bx []) (by rw [hbx]; exact hi)
    obtain ⟨e, c, h3, _⟩ := hbf [] _ (lk_mem hB)
    simp only at h3
    subst h3
    rcases hR.mutb i e c hB with ⟨k1, _⟩ | ⟨b', cs, k1, ⟨fz, k2, _⟩, _, _, k5, _⟩
    · rw [k1] at h2; cases h2
    · rw [k1] at h2; cases h2; exact ⟨k5, heap_lt k2⟩
  have slt : ∀ {l : Option Nat} {M2 : Mem} {β2 : Loc} {s2 : AS} {a2 : Act}, Slots ⟨n, [], none⟩ M2 β2 s2 a2 → Slots ⟨n, [], l⟩ M2 β2 s2 a2 := fun h => ⟨h.dfr, h.size, h.slot, h.refE⟩
  have slt' : ∀ {l : Option Nat} {M2 : Mem} {β2 : Loc} {s2 : AS} {a2 : Act}, Slots ⟨n, [], l⟩ M2 β2 s2 a2 → Slots ⟨n, [], none⟩ M2 β2 s2 a2 := fun h => ⟨h.dfr, h.size, h.slot, h.refE⟩
  have sdef : ∀ {M' : Mem} {bx' : List (Nat × Box)} (D : Nat), MemLe M M' → bx'.map (·.1) = ids → Slots ⟨n, [mark D], none⟩ M' β (mkS env bx') { a with defers := mark D :: a.defers } := fun {M'} {bx'} D hM hi => by
    have h1 : Slots ⟨n, [], none⟩ M' β (mkS env bx') a := hS.later hM (fun _ _ => rfl) rfl (s' := mkS env bx') (fun id hid => by
      rcases hid with hid | hid
      · rw [hbx [], ← hi] at hid; exact .inl hid
      · exact .inr hid)
    exact ⟨by show mark D :: a.defers = [mark D]; rw [hS.dfr], h1.size, h1.slot, h1.refE⟩
  refine wpIn_rangeFunc_ownH (F := Fence.wide) (n := 1) (α := { i : Nat // i < N }) rfl (Nat.le_refl 1) hg trivial hent (encs := fun x => encs x.1) (hseq (pinE ids β) hE) KpE.trans (fun W l o o' _ hl ho _ => KpE.put W l o o' hl ho) (Below.refl _ _) (fun x => hps x.1 x.2)
    (fun pre W => Fn (pre.map (·.1)) ∧ ∃ M1, Rel ⟨w, M, pinE ids β, pinL ids β⟩ M1 (pinL ids β) (mkS [] (pinB (bx (pre.map (·.1))))) W)
    (fun c pre W => c = .ret ∧ Fr (pre.map (·.1)) ∧ ∃ M1, Rel ⟨w, M, pinE ids β, pinL ids β⟩ M1 (pinL ids β) (mkS [] (pinB (bxr (pre.map (·.1))))) W)
    ?_ ?_ ⟨hF0, M, htop⟩ (fun x a' W => ∃ M2, MemOk M2 W ∧ (∀ b, b < w.heap.size → M2 b = M b) ∧ Slots ⟨n, [], none⟩ M2 (pinL ids β) (mkS (envB x.1) []) a') ?_ ?_ ?_ ?_ ?_
  · rintro s A B row ⟨h0, M1, h⟩ hgr hr
    exact ⟨h0, M1, h.grown hgr hr⟩
  · rintro c s A B row ⟨h1, h0, M1, h⟩ hgr hr
    exact ⟨h1, h0, M1, h.grown hgr hr⟩
  · rintro x a' _ A B row ⟨M2, h1, h2, h3⟩ hgr hr
    refine ⟨M2, fun b cs hb => ?_, h2, h3⟩
    obtain ⟨ty, fz, h4⟩ := h1 b cs hb
    refine ⟨ty, fz, (hgr.block b (heap_lt h4) fun e => ?_).trans h4⟩
    obtain ⟨_, o, ho, hc⟩ := hr b e.symm
    rw [h4] at ho
    cases ho
    cases hc
  · rintro l pre x W K ⟨hF, M1, hr⟩ hK
    have hMW : MemOk M W := fun b cs hb => hr.mem b cs (hr.le b cs hb)
    obtain ⟨r1, r2, r3⟩ := round_rel (nt := ⟨n, [], some l⟩) hr (hbx _) (hbf _) hE hMW (fun _ _ => rfl) (slt (hP x.1 x.2))
    refine wpIn_mono (hassign l (pre.map (·.1)) x.1 x.2 _ _ _ _ _ r1 r2) ?_
    rintro e a' W' ⟨s', M', β', ⟨rfl, hw⟩, q1, q2⟩
    obtain ⟨u1, u2, u3, u4⟩ := round_end r3 (hbx _) (hbf _) hE (pin_cells hr (hbx _) (hbf _)) q1 q2 hw
    exact hK a' W' (u4.from _) u3 ⟨hF, M', u1⟩ ⟨M', u1.mem, pin_mem u1 (hbx _) (hbf _) (fun b hb => (hE b hb).1), slots_pin (slt' u2)⟩
  · rintro l pre x a' W _ _ ⟨hF, M1, hr⟩ ⟨M2, m1, m2, sl⟩ hlen
    obtain ⟨r1, r2, r3⟩ := round_rel (nt := ⟨n, [], some l⟩) hr (hbx _) (hbf _) hE m1 m2 (slt sl)
    refine wpIn_mono (hbody l (pre.map (·.1)) x.1 x.2 (by simpa using hlen) (fun j hj => by obtain ⟨y, _, rfl⟩ := List.mem_map.1 hj; exact y.2) hF _ _ _ _ _ r1 r2) ?_
    have happ : (pre ++ [x]).map (·.1) = pre.map (·.1) ++ [x.1] := by rw [List.map_append]; rfl
    rintro e a'' W' ⟨s', M', β', hq, q1, q2⟩
    cases e with
    | normal =>
      obtain ⟨hF', hq⟩ := hq
      obtain ⟨u1, u2, u3, u4⟩ := round_end r3 (hbx _) (hbf _) hE (pin_cells hr (hbx _) (hbf _)) q1 q2 hq
      exact ⟨u4.from _, u3, by rw [happ]; exact hF', M', by rw [happ]; exact u1⟩
    | ret =>
      obtain ⟨hF', hq⟩ := hq
      obtain ⟨u1, u2, u3, u4⟩ := round_end r3 (hrx _) (hrf _) hE (pin_cells hr (hbx _) (hbf _)) q1 q2 hq
      exact ⟨u4.from _, rfl, by rw [happ]; exact hF', M', by rw [happ]; exact u1⟩
    | exit id => exact hq.elim
    | goto l => exact hq.elim
    | panic ch => exact hq.elim
    | outgrown => exact hq.elim
  · rintro D xs W hD hxs ⟨hF, M1, hr⟩ hdef
    rw [hxs] at hr hF
    have hr' := hr
    rw [← hbx []] at hr'
    exact hdone D W M1 hF hD hdef (hR.unpin hr' (by rw [hbx, hbx]) (hbf _) (hbf _)) (sdef D hr.le (hbx _))
  · rintro D c pre W hD ⟨k, hk, hpre⟩ ⟨rfl, hF, M1, hr⟩ hdef
    rw [hpre] at hr hF
    have hr' := hr
    rw [← hbx []] at hr'
    exact wpIn_ret (hstop D W M1 k hk hF hD hdef (hR.unpin hr' (by rw [hrx, hbx]) (hbf _) (hrf _)) (sdef D hr.le (hrx _)))
end
end Go.Fw
namespace Go.Fw
open Go Go.RowKit
structure FX where
  P : Program
  fn : Func
  out : Out
  C : Ctx
def FX.R (X : FX) : Ending → World → Prop := fun e w' => ∃ M', MemLe X.C.M0 M' ∧ MemOk M' w' ∧ (∀ b, b < X.C.w0.heap.size → M' b = X.C.M0 b) ∧ Below X.C.w0.heap.size X.C.w0 w' ∧ EndO M' w' X.C.w0.heap.size X.out e
def FX.Post (X : FX) : Exit → Act → World → Prop := bodyPostM Fence.wide 1 X.P X.fn X.R
def WX (X : FX) (c : Code) (s : AS) : Prop := ∀ M β a w, Rel X.C M β s w → Slots (X.fn.ntmps : NT) M β s a → c.wpIn Fence.wide 1 X.P X.Post a w
section
variable {X : FX} {M : Mem} {β : Loc} {s : AS} {w : World} {a : Act}
theorem fx_fin (hx : X.C.ext = []) (h1 : Rel X.C M β s w) : MemLe X.C.M0 M ∧ MemOk M w ∧ (∀ b, b < X.C.w0.heap.size → M b = X.C.M0 b) ∧ Below X.C.w0.heap.size X.C.w0 w := by
  refine ⟨h1.le, h1.mem, fun b hb => ?_, h1.os, h1.tape, h1.output, h1.size, fun b hb => h1.keep b hb (by rw [hx]; simp)⟩
  by_cases he : M b = X.C.M0 b
  · exact he
  · rcases h1.mnew b he with h3 | h3
    · exact absurd hb (by omega)
    · rw [hx] at h3; cases h3
theorem fx_res {nt : NT} (hx : X.C.ext = []) (h1 : Rel X.C M β s w) (h2 : Slots nt M β s a) (hp : post X.P X.fn X.out .ret s) : ∃ v, (results X.fn a.tmps).run X.P w = .ok v w ∧ X.R (.returned v) w := by
  obtain ⟨r, hr, v, hv, ho, hn⟩ := hp
  obtain ⟨y, k1, k2⟩ := results_ok (P := X.P) h1 h2 hr
  obtain ⟨bl, k3, k4, k5⟩ := closeV_ok h1 hx (resD_ok h1 r y k2) hn hv
  obtain ⟨f1, f2, f3, f4⟩ := fx_fin hx h1
  refine ⟨y, k1, M, f1, f2, f3, f4, ?_⟩
  rw [ho]
  exact ⟨bl, k3, k4, k5⟩
theorem fx_ret (hx : X.C.ext = []) (h1 : Rel X.C M β s w) (h2 : Slots (X.fn.ntmps : NT) M β s a) (hp : post X.P X.fn X.out .ret s) : X.Post .ret a w := by
  show LeavesInM _ _ _ _ _ _ a.defers .returning w
  rw [show a.defers = [] from h2.dfr]
  exact fx_res hx h1 h2 hp
theorem fx_ret_mark {D : Nat} (hx : X.C.ext = []) (h1 : Rel X.C M β s w) (h2 : Slots ⟨X.fn.ntmps, [mark D], none⟩ M β s a) (hD : X.C.w0.heap.size ≤ D) (hdef : w.heap[D]? = some (.deferred (some []))) (hp : post X.P X.fn X.out .ret s) : X.Post .ret a w := by
  show LeavesInM _ _ _ _ _ _ a.defers .returning w
  rw [show a.defers = [mark D] from h2.dfr]
  refine ⟨by simp, .inl ⟨D, w.putObj D (.deferred none), rfl, run_takeDeferred hdef, ?_⟩⟩
  have h1' := h1.grown (grownBy_putObj' w D (.deferred none)) (fun r e => by cases e; exact ⟨hD, _, hdef, rfl⟩)
  exact fx_res hx h1' h2 hp
theorem WX.seq {x y : Code} {Q : Exit → AS → Prop} (hx : X.C.ext = []) (h : W X.P (X.fn.ntmps : NT) x s Q) (hn : ∀ s', Q .normal s' → WX X y s') (hr : ∀ s', Q .ret s' → post X.P X.fn X.out .ret s') (ho : ∀ e s', Q e s' → e = .normal ∨ e = .ret) : WX X (.seq x y) s := by
  intro M β a w hR hS
  refine wpIn_seq (wpIn_mono (wpIn_deep (nt := (X.fn.ntmps : NT)) (n' := 1) (h X.C M β a w hR hS)) ?_)
  rintro e a' w' ⟨s', M', β', hq, h1, h2⟩
  rcases ho e s' hq with rfl | rfl
  · exact hn s' hq M' β' a' w' h1 h2
  · exact fx_ret hx h1 h2 (hr s' hq)
theorem WX.rest {c : Code} {D : Nat} {env : List (Nat × AV)} {bx : List (Nat × Box)} {Q : Exit → AS → Prop} (hx : X.C.ext = []) (hf : flatB bx) (h : ∀ D, W X.P ⟨X.fn.ntmps, [mark D], none⟩ c (mkS env bx) Q) (hQ : ∀ e s', Q e s' → e = .ret ∧ post X.P X.fn X.out .ret s')
    (hR : Rel X.C M β (mkS env bx) w) (hS : Slots ⟨X.fn.ntmps, [mark D], none⟩ M β (mkS env bx) a) (hD : X.C.w0.heap.size ≤ D) (hdef : w.heap[D]? = some (.deferred (some []))) : c.wpIn Fence.wide 1 X.P X.Post a w := by
  have hin : ∀ id e l b n, lk bx id = some (.mut e l) → β id = some (b, n) → b ∈ pinE (bx.map (·.1)) β := fun id e l b n h1 h2 => List.mem_filterMap.2 ⟨id, lk_mem_ids h1, by rw [h2]; rfl⟩
  have hout : ∀ b ∈ pinE (bx.map (·.1)) β, (X.C.w0.heap.size ≤ b ∨ b ∈ X.C.ext) ∧ ∃ cs e fz, w.heap[b]? = some (.cells cs e fz) := fun b hb => by
    obtain ⟨i, n, hi, h1⟩ := mem_pinE hb
    obtain ⟨B, hB⟩ := lk_ids hi
    obtain ⟨e, c, h2, _⟩ := hf _ (lk_mem hB)
    simp only at h2
    subst h2
    rcases hR.mutb i e c hB with ⟨k1, _⟩ | ⟨b', cs, k1, ⟨fz, k2, _⟩, _, _, _, k6⟩
    · rw [k1] at h1; cases h1
    · rw [k1] at h1; cases h1; exact ⟨k6, _, _, _, k2⟩
  have hbase : Rel ⟨w, M, pinE (bx.map (·.1)) β, β⟩ M β (mkS env bx) w := by
    refine ⟨hR.mem, MemLe.refl M, fun b hb => absurd rfl hb, hR.refB, hR.useB, fun id e l hi => ?_, hR.frzb, hR.frzr, hR.inj, rfl, rfl, rfl, Nat.le_refl _, fun _ _ _ => rfl, fun i hi => ⟨.inr hi, rfl⟩⟩
    rcases hR.mutb id e l hi with h1 | ⟨b, cs, k1, k2, k3, k4, k5, k6⟩
    · exact .inl h1
    · exact .inr ⟨b, cs, k1, k2, k3, k4, k5, .inr (hin id e l b _ hi k1)⟩
  refine wpIn_deep (nt := ⟨X.fn.ntmps, [mark D], none⟩) (n := 0) (wpIn_mono (h D _ M β a w hbase hS) ?_)
  rintro e a' w' ⟨s', M', β', hq, h1, h2⟩
  obtain ⟨rfl, hp⟩ := hQ e s' hq
  refine fx_ret_mark hx (hR.back h1 (fun b hb => (hout b hb).1) (fun i hi => (hR.pin i hi).2)) h2 hD ((h1.keep D (heap_lt hdef) fun hm => ?_).trans hdef) hp
  obtain ⟨_, cs, e, fz, h3⟩ := hout D hm
  rw [hdef] at h3
  cases h3
theorem Eval.introX {P : Program} {f : FuncId} {fn : Func} {c : Code} (hf : P.funcs[f]? = some fn) (hb : fn.body = some c) (hent : Enters P f) (args : List AV) (out : Out) (hlen : args.length ≤ fn.ntmps) (hrefs : refsL args = [])
    (h : smallL args → ∀ M w, MemOk M w → WX ⟨P, fn, out, ⟨w, M, [], noLoc⟩⟩ c (entry args)) : Eval P f args out := by
  refine fun M w vs hM hvs hrep => .inl ⟨hent, ?_⟩
  refine callsIn_wide.1 (callsIn_of_wp_marks (n := 1) hf hb trivial ?_)
  have hR : Rel ⟨w, M, [], noLoc⟩ M noLoc (entry args) w :=
    { mem := hM, le := MemLe.refl M, mnew := fun b hb => absurd rfl hb, refB := fun _ _ _ h => (by cases h), useB := fun _ h => absurd rfl h, mutb := fun _ _ _ h => (by cases h), frzb := fun _ _ h => (by cases h), frzr := fun _ _ h => (by cases h), inj := fun _ _ _ _ _ _ _ _ _ h => (by cases h), os := rfl, tape := rfl, output := rfl,
      size := Nat.le_refl _, keep := fun _ _ _ => rfl, pin := fun i hi => ⟨hi, rfl⟩ }
  have hS : Slots (fn.ntmps : NT) M noLoc (entry args) { tmps := vs ++ Array.replicate (fn.ntmps - vs.size) undef, defers := [] } := by
    refine ⟨rfl, by simp; omega, fun t => ?_, fun t id hid => ?_⟩
    · simp only [entry]
      cases ht : args[t]? with
      | none =>
        have hle : args.length ≤ t := by simpa using ht
        simp only [Option.getD_none]
        have hu : (vs ++ Array.replicate (fn.ntmps - vs.size) undef).getD t undef = undef := by
          rw [Array.getD_eq_getD_getElem?, Array.getElem?_append_right (by omega), Array.getElem?_replicate]
          split <;> rfl
        rw [hu]
        exact ⟨#[], rfl, rfl, trivial⟩
      | some v =>
        simp only [Option.getD_some]
        obtain ⟨y, h1, h2⟩ := (RepT.iff args vs 0).1 hrep t v ht
        simp only [Nat.zero_add] at h1
        have hlt := (Array.getElem?_eq_some_iff.1 h1).1
        rw [Array.getD_eq_getD_getElem?, Array.getElem?_append_left hlt, h1]
        exact h2
    · simp only [entry] at hid
      cases ht : args[t]? with
      | none => rw [ht] at hid; simp [AV.refs, refsL] at hid
      | some v =>
        rw [ht] at hid
        have : id ∈ refsL args := mem_refsL.2 ⟨v, List.mem_of_getElem? ht, hid⟩
        rw [hrefs] at this
        cases this
  exact h (RepT.small args vs 0 hrep) M w hM M noLoc _ w hR hS
end
end Go.Fw
namespace Go.Fw
open Go Go.RowKit
def SeqA (P : Program) (gf : FuncId) (cap : AV) (N : Nat) (it : Nat → List AV) : Prop :=
  ∀ (M : Mem) (w : World) (lb : Array Value), MemOk M w → lb.size = 1 → RepAt M noLoc [cap] lb 0 → ∃ encs : Nat → Array Value, (∀ i, i < N → (encs i).size = (it i).length ∧ RepT M noLoc (it i) (encs i) 0) ∧
    ∀ E, (∀ b ∈ E, M b = none ∧ b < w.heap.size) → SeqStopsK Fence.wide 0 P gf lb (fun x : { i : Nat // i < N } => encs x.1) (KpE E) (fun xs => xs.map (·.1) = List.range N) (fun xs => ∃ k, k ≤ N ∧ xs.map (·.1) = List.range k) N w
section
variable {M : Mem} {β : Loc} {nt : NT}
theorem slots_set {t : Array Value} {e : List (Nat × AV)} {p : Nat} {v : Value} {x : AV} (hd : nt.dfr = []) (h : Slots nt M β (mkS e []) { tmps := t, defers := [] }) (hp : p < nt.n) (hx : Rep M β x v) (hr : x.refs = []) :
    Slots nt M β (mkS ((p, x) :: e) []) { tmps := t.setIfInBounds p v, defers := [] } := by
  have h1 := h.put (d := some p) (by simp only [dstOk]; exact decide_eq_true hp) hx (fun id hid => by rw [hr] at hid; cases hid)
  have e1 : (mkS e []).put (some p) x = mkS ((p, x) :: e) [] := by
    unfold AS.put mkS
    simp only [AS.mk.injEq, and_true, true_and]
    funext k
    unfold upd
    simp only [lk]
    by_cases hk : k = p
    · subst hk; simp
    · rw [if_neg hk, if_neg (fun h => hk h.symm)]
  rw [e1] at h1
  exact h1
theorem slots_fold (hd : nt.dfr = []) : ∀ (l : List (Nat × Value)) (k : List (Nat × AV)) (t : Array Value) (e : List (Nat × AV)), l.length = k.length → (∀ (i : Nat) (p : Nat × Value) (q : Nat × AV), l[i]? = some p → k[i]? = some q → p.1 = q.1 ∧ p.1 < nt.n ∧ Rep M β q.2 p.2 ∧ q.2.refs = []) →
    Slots nt M β (mkS e []) { tmps := t, defers := [] } → Slots nt M β (mkS (k.reverse ++ e) []) { tmps := l.foldl (fun t p => t.setIfInBounds p.1 p.2) t, defers := [] }
  | [], [], t, e, _, _, h => h
  | p :: l, q :: k, t, e, hl, hq, h => by
    obtain ⟨h1, h2, h3, h4⟩ := hq 0 p q rfl rfl
    obtain ⟨q1, q2⟩ := q
    simp only at h1 h3 h4
    subst h1
    have := slots_fold hd l k (t.setIfInBounds p.1 p.2) ((p.1, q2) :: e) (by simpa using hl) (fun i a b ha hb => hq (i + 1) a b (by simpa using ha) (by simpa using hb)) (slots_set hd h h2 h3 h4)
    rw [List.reverse_cons, List.append_assoc]
    exact this
  | [], _ :: _, _, _, hl, _, _ => by simp at hl
  | _ :: _, [], _, _, hl, _, _ => by simp at hl
end
theorem WX.loop {X : FX} {s : AS} {R2 assign body rest : Code} {b0 g : Nat} {gf : FuncId} {ps : Array Tmp} {N : Nat} {ids : List Nat} {cap : AV} {it : Nat → List AV} {env env0 : List (Nat × AV)} {Q : Exit → AS → Prop}
    (bx bxr : List Nat → List (Nat × Box)) (Fn Fr : List Nat → Prop) (hF0 : Fn []) (hbx : ∀ is, (bx is).map (·.1) = ids) (hbf : ∀ is, flatB (bx is)) (hrx : ∀ is, (bxr is).map (·.1) = ids) (hrf : ∀ is, flatB (bxr is)) (envB : Nat → List (Nat × AV))
    (hx : X.C.ext = []) (hent : Enters X.P gf) (hseq : SeqA X.P gf cap N it) (hcap : cap.refs = [])
    (hR2 : W X.P (X.fn.ntmps : NT) R2 s (fun e s' => e = .normal ∧ ∃ ρ, Wk s' env (bx []) ρ))
    (hg : lk env g = some (.fn gf [cap]))
    (hit : ∀ i, i < N → (it i).length = ps.size ∧ ∀ v ∈ it i, v.refs = []) (hpn : ∀ p ∈ ps.toList, p < X.fn.ntmps)
    (henv0 : ∀ p ∈ env0, lk env p.1 = some (ren (fun i => i - 1000000) p.2) ∧ ∀ i ∈ p.2.refs, 1000000 ≤ i ∧ i - 1000000 ∈ ids)
    (hassign : ∀ l is i, i < N → W X.P ⟨X.fn.ntmps, [], some l⟩ assign (mkS ((ps.toList.zip (it i)).reverse ++ env0) (pinB (bx is))) (fun e s' => e = .normal ∧ ∃ ρ, Wk s' (envB i) (pinB (bx is)) ρ))
    (hbody : ∀ l is i, i < N → is.length < N → (∀ j ∈ is, j < N) → Fn is → W X.P ⟨X.fn.ntmps, [], some l⟩ body (mkS (envB i) (pinB (bx is))) (bodyQ bx bxr Fn Fr (is ++ [i])))
    (hrest : Fn (List.range N) → ∀ D, W X.P ⟨X.fn.ntmps, [mark D], none⟩ rest (mkS env (bx (List.range N))) Q) (hQ : ∀ e s', Q e s' → e = .ret ∧ post X.P X.fn X.out .ret s')
    (hret : ∀ k, k ≤ N → Fr (List.range k) → post X.P X.fn X.out .ret (mkS env (bxr (List.range k)))) :
    WX X (.seq (.seq R2 (.block b0 (.rangeFunc (.tmp g) ps assign body))) rest) s := by
  intro M β a w hR hS
  refine wpIn_seq (wpIn_seq (wpIn_mono (wpIn_deep (nt := (X.fn.ntmps : NT)) (n' := 1) (hR2 X.C M β a w hR hS)) ?_))
  rintro e a1 w1 ⟨s1, M1, β1, ⟨rfl, ρ, hw⟩, h1, h2⟩
  obtain ⟨h1, h2⟩ := h1.wk h2 hw
  obtain ⟨β2, hβ2⟩ : ∃ β2 : Loc, β2 = fun i => β1 (ρ i) := ⟨_, rfl⟩
  rw [← hβ2] at h1 h2
  clear hw hβ2 hR hS
  -- the iterator
  have hfn := val_ok h1 h2 (.tmp g)
  have hgv : (mkS env (bx [])).val (.tmp g) = .fn gf [cap] := by simp only [AS.val, mkS, hg, Option.getD_some, resB]
  rw [hgv] at hfn
  obtain ⟨lb, hlb, hlbs, hlbr⟩ := hfn.rep
  have hcapr : RepAt M1 noLoc [cap] lb 0 := hlbr.flat (by simp [refsL, hcap]) (MemLe.refl _)
  obtain ⟨encs, he1, he2⟩ := hseq M1 w1 lb h1.mem (by simpa using hlbs) hcapr
  have hbase : Slots ⟨X.fn.ntmps, [], none⟩ M1 (pinL ids β2) (mkS env0 []) { tmps := a1.tmps, defers := [] } := by
    refine ⟨rfl, h2.size, fun t => ?_, fun t id hid => ?_⟩
    · simp only [mkS]
      cases ht : lk env0 t with
      | none => exact trivial
      | some v =>
        obtain ⟨k1, k2⟩ := henv0 _ (lk_mem ht)
        have := h2.slot t
        simp only [mkS] at this
        simp only at k1
        rw [k1] at this
        refine Rep.mono (MemLe.refl _) v _ (fun id hid => ?_) (rep_ren _ v _ this)
        obtain ⟨q1, q2⟩ := k2 id hid
        unfold pinL
        rw [if_pos ⟨q1, q2⟩]
    · simp only [mkS] at hid ⊢
      cases ht : lk env0 t with
      | none => rw [ht] at hid; simp [AV.refs] at hid
      | some v =>
        rw [ht] at hid
        exact .inr ((henv0 _ (lk_mem ht)).2 id hid).1
  refine wpIn_block ?_
  refine range_rule bx bxr Fn Fr hF0 hbx hbf hrx hrf (fun i => (ps.toList.zip (it i)).reverse ++ env0) envB h1 h2 hlb hent he2 (fun i hi => by rw [(he1 i hi).1]; exact (hit i hi).1) (fun i hi => ?_) hassign hbody ?_ ?_
  · have e1 : (ps.zip (encs i)).foldl (fun t (x : Tmp × Value) => t.setIfInBounds x.1 x.2) a1.tmps = (ps.toList.zip (encs i).toList).foldl (fun t x => t.setIfInBounds x.1 x.2) a1.tmps := by
      rw [← Array.foldl_toList, Array.toList_zip]
    have hl1 := (he1 i hi).1
    have hl2 := (hit i hi).1
    have := slots_fold (nt := ⟨X.fn.ntmps, [], none⟩) rfl (ps.toList.zip (encs i).toList) (ps.toList.zip (it i)) a1.tmps env0 (by simp [hl1, hl2]) (fun j p q hp hq => by
      rw [List.getElem?_zip_eq_some] at hp hq
      obtain ⟨u1, u2⟩ := hp
      obtain ⟨v1, v2⟩ := hq
      rw [u1] at v1
      have e3 : p.1 = q.1 := by simpa using v1
      refine ⟨e3, hpn _ (List.mem_of_getElem? u1), ?_, (hit i hi).2 _ (List.mem_of_getElem? v2)⟩
      obtain ⟨y, w1, w2⟩ := (RepT.iff (it i) _ 0).1 (he1 i hi).2 j _ v2
      rw [Nat.zero_add] at w1
      have : (encs i).toList[j]? = some y := by simpa using w1
      rw [u2] at this
      cases this
      exact Rep.mono (MemLe.refl _) _ _ (fun id hid => by rw [(hit i hi).2 _ (List.mem_of_getElem? v2)] at hid; cases hid) w2) hbase
    exact e1 ▸ this
  · intro D W M' hF hD hdef hr hs
    show Code.wpIn Fence.wide 1 X.P rest X.Post _ W
    exact WX.rest hx (hbf _) (hrest hF) hQ hr hs (Nat.le_trans h1.size hD) hdef
  · intro D W M' k hk hF hD hdef hr hs
    exact fx_ret_mark hx hr hs (Nat.le_trans h1.size hD) hdef (hret k hk hF)
end Go.Fw
namespace Go.Fw
open Go Go.RowKit Go.Proofs Go.IntWalk
set_option linter.unusedSimpArgs false
set_option maxRecDepth 100000
set_option maxHeartbeats 4000000
section
variable {M : Mem} {w : World} {nt : NT} {a : Act}
theorem conc_slc {f : Bool} {z n : Nat} {L : List AV} {v : Value} (h : Rep M noLoc (.slc f z n L) v) :
    ∃ us : List Value, us.length = n * z ∧ Rep M noLoc (.slc f z n (us.map .v)) v ∧ RepAt M noLoc L us.toArray 0 := by
  obtain ⟨a, cap, h1, h2, h3, h4, h5, h6, h7⟩ := h
  rcases Nat.eq_zero_or_pos n with h0 | h0
  · subst h0
    have hL : L = [] := List.eq_nil_of_length_eq_zero (by omega)
    subst hL
    exact ⟨[], by simp, ⟨a, cap, h1, by simp, h3, h4, h5, rfl, fun h => by omega⟩, trivial⟩
  · obtain ⟨b, o, cs, k1, k2, k3⟩ := h7 h0
    obtain ⟨ys, y1, y2, y3, y4⟩ := k3.cells
    refine ⟨ys, by rw [y1, h2], ⟨a, cap, h1, by rw [List.length_map, y1, h2], h3, h4, h5, ?_, fun _ => ⟨b, o, cs, k1, k2, ?_⟩⟩, y4⟩
    · clear y1 y2 y3 y4
      induction ys with
      | nil => rfl
      | cons y r ih => rw [List.map_cons]; simpa [refsL, AV.refs] using ih
    · rw [RepAt.iff]
      intro i c hi
      rw [List.getElem?_map] at hi
      cases hy : ys[i]? with
      | none => rw [hy] at hi; cases hi
      | some y =>
        rw [hy] at hi
        cases hi
        have := y3 y (List.mem_of_getElem? hy)
        exact ⟨y, y2 i y hy, this, rfl, this⟩
theorem vmap_refs (us : List Value) : refsL (us.map AV.v) = [] := by
  induction us with
  | nil => rfl
  | cons y r ih => rw [List.map_cons]; simpa [refsL, AV.refs] using ih
theorem agg_eval {env : List (Nat × AV)} (hM : MemOk M w) (hS : Slots nt M noLoc (mkS env []) a) {t : Nat} {us : List Value} (he : lk env t = some (.agg (us.map .v))) : a.eval (.tmp t) = .agg us.toArray := by
  have h := (val_ok (rel_bare hM env) hS (.tmp t)).rep
  have e : (mkS env []).val (.tmp t) = .agg (us.map .v) := by
    simp only [AS.val, mkS, he, Option.getD_some, resB]
  rw [e] at h
  obtain ⟨vs, h1, h2, h3⟩ := h
  rw [h1]
  congr 1
  rw [List.length_map] at h2
  apply Array.ext
  · simpa using h2
  · intro i h4 h5
    have h6 : i < us.length := by simpa using h5
    obtain ⟨y, k1, _, k2, _⟩ := (RepAt.iff _ _ 0).1 h3 i (.v us[i]) (by rw [List.getElem?_map, List.getElem?_eq_getElem h6]; rfl)
    rw [Nat.zero_add, Array.getElem?_eq_getElem h4] at k1
    cases k1
    simpa using k2
def cut8 {α : Type} (l : List α) (k : Nat) : List α := (l.drop (k * 8)).take 8
theorem cut8_rep {L : List AV} {us : List Value} (h : RepAt M noLoc L us.toArray 0) (hl : us.length = L.length) (k : Nat) : Rep M noLoc (.agg (cut8 L k)) (.agg (cut8 us k).toArray) := by
  refine ⟨_, rfl, by simp [cut8, hl], ?_⟩
  have h1 := (h.drop (k * 8)).take 8
  refine h1.congr fun i hi => ?_
  have hi8 : i < 8 := by simp at hi; omega
  have hu : (cut8 us k).toArray[0 + i]? = us[k * 8 + i]? := by
    simp only [cut8, Nat.zero_add, List.getElem?_toArray, List.getElem?_take, List.getElem?_drop]
    rw [if_pos hi8]
  rw [hu]
  simp
theorem cut16_rep {L : List AV} {us : List Value} (h : RepAt M noLoc L us.toArray 0) (hl : us.length = L.length) (k j : Nat) : Rep M noLoc (.agg (cut8 L k ++ cut8 L j)) (.agg (cut8 us k ++ cut8 us j).toArray) := by
  have len : ∀ k, (cut8 us k).length = (cut8 L k).length := fun k => by simp [cut8, hl]
  refine ⟨_, rfl, by simp [len], ?_⟩
  obtain ⟨v1, e1, _, r1⟩ := cut8_rep h hl k
  obtain ⟨v2, e2, _, r2⟩ := cut8_rep h hl j
  cases e1
  cases e2
  refine RepAt.append (r1.congr fun i hi => ?_) (r2.congr fun i hi => ?_)
  · have := len k
    simp only [Nat.zero_add, List.getElem?_toArray]
    rw [List.getElem?_append_left (by omega)]
  · have := len k
    simp only [Nat.zero_add, List.getElem?_toArray]
    rw [List.getElem?_append_right (by omega), len k, Nat.add_sub_cancel_left]
theorem cut8_at {α : Type} {l : List α} {n k : Nat} (hl : l.length = n * 8) (hk : k < n) : ∃ a b c d e f g h, cut8 l k = [a, b, c, d, e, f, g, h] ∧ ∃ t, l.drop (k * 8) = a :: b :: c :: d :: e :: f :: g :: h :: t := by
  have h1 : 8 ≤ (l.drop (k * 8)).length := by rw [List.length_drop, hl]; omega
  unfold cut8
  generalize l.drop (k * 8) = m at h1
  match m, h1 with
  | a :: b :: c :: d :: e :: f :: g :: h :: t, _ => exact ⟨a, b, c, d, e, f, g, h, rfl, t, rfl⟩
end
end Go.Fw

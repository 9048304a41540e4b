/- What is built; every quiet operation in one. -/
import Derived.Test.YtjgbikhnnkigpaaFwG
set_option linter.unusedSimpArgs false
set_option linter.unusedVariables false
namespace Go.Fw
open Go Go.RowKit

theorem foldl_set (off : Nat) : ∀ (c : List Value) (k : Nat) (vs : Array Value) (i : Nat),
    ((c.zipIdx k).foldl (fun cs p => cs.setIfInBounds (off + p.2) p.1) vs)[i]? = if off + k ≤ i ∧ i < off + k + c.length ∧ i < vs.size then c[i - off - k]? else vs[i]?
  | [], k, vs, i => by simp; omega
  | x :: c, k, vs, i => by
    rw [List.zipIdx_cons, List.foldl_cons, foldl_set off c (k + 1)]
    simp only [Array.size_setIfInBounds, List.length_cons]
    by_cases h1 : off + (k + 1) ≤ i ∧ i < off + (k + 1) + c.length ∧ i < vs.size
    · rw [if_pos h1, if_pos (by omega), show i - off - k = (i - off - (k + 1)) + 1 from by omega, List.getElem?_cons_succ]
    · rw [if_neg h1]
      by_cases h2 : i = off + k
      · subst h2
        by_cases h3 : off + k < vs.size
        · rw [if_pos (by omega)]
          simp [h3]
        · rw [if_neg (by omega)]
          rw [Array.getElem?_eq_none (by simp; omega), Array.getElem?_eq_none (by omega)]
      · rw [Array.getElem?_setIfInBounds_ne (Ne.symm h2)]
        by_cases h3 : off + k ≤ i ∧ i < off + k + (c.length + 1) ∧ i < vs.size
        · omega
        · rw [if_neg h3]

theorem size_foldl_set (off : Nat) : ∀ (c : List (Value × Nat)) (vs : Array Value), (c.foldl (fun cs p => cs.setIfInBounds (off + p.2) p.1) vs).size = vs.size
  | [], vs => rfl
  | x :: c, vs => by rw [List.foldl_cons, size_foldl_set off c]; simp

theorem setAt_get (l cs : List AV) (o : Nat) (h : o + cs.length ≤ l.length) (i : Nat) : (setAt l o cs)[i]? = if o ≤ i ∧ i < o + cs.length then cs[i - o]? else l[i]? := by
  unfold setAt
  by_cases h1 : i < o
  · rw [List.append_assoc, List.getElem?_append_left (by simp; omega), List.getElem?_take, if_pos h1, if_neg (by omega)]
  · by_cases h2 : i < o + cs.length
    · rw [List.getElem?_append_left (by simp; omega), List.getElem?_append_right (by simp; omega), if_pos (by omega)]
      congr 1
      simp; omega
    · rw [List.getElem?_append_right (by simp; omega), if_neg (by omega), List.getElem?_drop]
      congr 1
      simp; omega

theorem setAt_length (l cs : List AV) (o : Nat) (h : o + cs.length ≤ l.length) : (setAt l o cs).length = l.length := by
  simp [setAt]; omega

theorem setAt_refs {l cs : List AV} {o j : Nat} (hj : j ∈ refsL (setAt l o cs)) : j ∈ refsL l ∨ j ∈ refsL cs := by
  rw [mem_refsL] at hj
  obtain ⟨a, ha, hj⟩ := hj
  unfold setAt at ha
  rw [List.mem_append, List.mem_append] at ha
  rcases ha with (ha | ha) | ha
  · exact .inl (mem_refsL.2 ⟨a, List.mem_of_mem_take ha, hj⟩)
  · exact .inr (mem_refsL.2 ⟨a, ha, hj⟩)
  · exact .inl (mem_refsL.2 ⟨a, List.mem_of_mem_drop ha, hj⟩)

section
variable {P : Program} {C : Ctx} {M : Mem} {β : Loc} {s : AS} {w : World} {nt : Nat} {a : Act}

/-- The cells of a value that may be stored. -/
theorem cells_ok {v : AV} {x : Value} (hv : Rep M β v x) {cs : List AV} (hc : v.cells? = some cs) :
    RepAt M β cs x.cells 0 ∧ x.cells.size = cs.length ∧ refsL cs = v.refs ∧ ∀ y ∈ x.cells.toList, y.oneCell' = true := by
  have key : ∀ l (vs : Array Value), vs.size = l.length → RepAt M β l vs 0 → ∀ y ∈ vs.toList, y.oneCell' = true := by
    intro l vs hs h y hy
    obtain ⟨i, hi⟩ := List.getElem?_of_mem hy
    rw [Array.getElem?_toList] at hi
    have hlt : i < l.length := by have := (Array.getElem?_eq_some_iff.1 hi).1; omega
    obtain ⟨z, h1, h2, _⟩ := (RepAt.iff l vs 0).1 h i l[i] (by rw [List.getElem?_eq_getElem])
    simp only [Nat.zero_add] at h1
    rw [hi] at h1; cases h1; exact h2
  have one : v.isCell = true → (some [v] : Option (List AV)) = some cs → RepAt M β cs x.cells 0 ∧ x.cells.size = cs.length ∧ refsL cs = v.refs ∧ ∀ y ∈ x.cells.toList, y.oneCell' = true := by
    intro h1 h2
    cases h2
    have ho := oneCell_of_cell h1 hv
    rw [cells_one ho]
    exact ⟨⟨⟨x, by simp, ho, hv⟩, trivial⟩, by simp, by simp [refsL], by simp [ho]⟩
  cases v <;> simp only [AV.cells?] at hc
  case agg l =>
    cases hc
    obtain ⟨vs, rfl, h1, h2⟩ := hv
    exact ⟨h2, h1, by simp [AV.refs], key _ _ h1 h2⟩
  all_goals
    split at hc
    · exact one (by assumption) hc
    · cases hc

theorem fill_ok (place : Nat → Option (Nat × Nat)) : ∀ (parts : List (Nat × AV)) (ps : List (Nat × Value)) (l r : List AV) (vs : Array Value),
    ps.length = parts.length → (∀ (i : Nat) (p : Nat × AV) (q : Nat × Value), parts[i]? = some p → ps[i]? = some q → q.1 = p.1 ∧ Ok M β s p.2 q.2) →
    RepAt M β l vs 0 → vs.size = l.length → (∀ j ∈ refsL l, s.used j) → fillA place l parts = some r →
    ∃ us, Instr.fill place vs ps = some us ∧ RepAt M β r us 0 ∧ us.size = r.length ∧ ∀ j ∈ refsL r, s.used j
  | [], ps, l, r, vs, hl, _, h1, h2, h3, hr => by
    have : ps = [] := List.eq_nil_of_length_eq_zero (by simpa using hl)
    subst this
    simp [fillA] at hr
    subst hr
    exact ⟨vs, rfl, h1, h2, h3⟩
  | (i, v) :: rest, ps, l, r, vs, hl, hp, h1, h2, h3, hr => by
    cases ps with
    | nil => simp at hl
    | cons q ps =>
      obtain ⟨j, x⟩ := q
      obtain ⟨hj, hv⟩ := hp 0 (i, v) (j, x) rfl rfl
      simp only at hj hv
      subst hj
      simp only [fillA] at hr
      split at hr
      · rename_i o n cs hpl hcs
        split at hr
        · rename_i hc
          obtain ⟨hn, hon⟩ := hc
          subst hn
          obtain ⟨k1, k2, k3, _⟩ := cells_ok hv.rep hcs
          have hsz : (x.cells.zipIdx.foldl (fun cs p => cs.setIfInBounds (o + p.2) p.1) vs).size = vs.size := by
            rw [← Array.foldl_toList, Array.toList_zipIdx]; exact size_foldl_set o _ vs
          have hrep : RepAt M β (setAt l o cs) (x.cells.zipIdx.foldl (fun cs p => cs.setIfInBounds (o + p.2) p.1) vs) 0 := by
            rw [RepAt.iff]
            intro m a' ha
            rw [setAt_get l cs o hon] at ha
            simp only [Nat.zero_add]
            rw [← Array.foldl_toList, Array.toList_zipIdx, foldl_set o x.cells.toList 0 vs m]
            simp only [Nat.add_zero, Array.length_toList, Nat.sub_zero]
            split at ha
            · rename_i hc
              rw [if_pos (by omega)]
              have := (RepAt.iff cs x.cells 0).1 k1 (m - o) a' ha
              simpa using this
            · rename_i hc
              rw [if_neg (by omega)]
              have := (RepAt.iff l vs 0).1 h1 m a' ha
              simpa using this
          obtain ⟨us, u1, u2, u3, u4⟩ := fill_ok place rest ps (setAt l o cs) r _ (by simpa using hl) (fun m p q hm hq => hp (m + 1) p q hm hq) hrep
            (by rw [hsz, h2, setAt_length l cs o hon]) (fun j hj => by
              rcases setAt_refs hj with hj | hj
              · exact h3 j hj
              · exact hv.ref j (by rw [← k3]; exact hj)) hr
          refine ⟨us, ?_, u2, u3, u4⟩
          rw [Instr.fill]
          simp only [hpl]
          split
          · rename_i hbad
            simp only [ne_eq, Bool.or_eq_true, decide_eq_true_eq] at hbad
            omega
          · exact u1
        · cases hr
      · cases hr

theorem zeroP_spec {t : TypeId} {zs : List Value} (h : zeroP P t = some zs) : ∃ z, (zeroValue t).run P w = .ok z w ∧ z.cells.toList = zs ∧ zs.all (·.oneCell') = true := by
  unfold zeroP at h
  cases hi : P.info? t with
  | none => simp [hi] at h
  | some i =>
    simp only [hi, Option.bind_some] at h
    cases hz : i.zero with
    | none => simp [hz] at h
    | some z =>
      simp only [hz] at h
      split at h
      · rename_i ha; cases h; exact ⟨z, by simp [zeroValue, typeInfo, hi, hz], rfl, ha⟩
      · cases h

theorem mapM_places (fs : List Field) (h : fs.all (fun f => (szP P f.type).isSome) = true) :
    (fs.mapM (fun f => do pure (f.offset, ← sizeOf f.type) : Field → Sem (Nat × Nat))).run P w = .ok (fs.map fun f => (f.offset, (szP P f.type).getD 0)) w := by
  induction fs with
  | nil => simp
  | cons f fs ih =>
    simp only [List.all_cons, Bool.and_eq_true] at h
    obtain ⟨n, hn⟩ := Option.isSome_iff_exists.1 h.1
    simp only [List.mapM_cons, Sem.run_bind, szP_spec hn, Result.andThen_ok, Sem.run_pure, ih h.2, List.map_cons, hn, Option.getD_some]

theorem mapM_places' (fs : Array Field) (h : fs.toList.all (fun f => (szP P f.type).isSome) = true) :
    (fs.mapM (fun f => do pure (f.offset, ← sizeOf f.type) : Field → Sem (Nat × Nat))).run P w = .ok (fs.map fun f => (f.offset, (szP P f.type).getD 0)) w := by
  rw [Array.mapM_eq_mapM_toList, Sem.run_map, mapM_places fs.toList h]
  simp only [Result.andThen_ok]
  congr 1
  apply Array.ext'
  simp

theorem build_ok {t : TypeId} {parts : List (Nat × AV)} {ps : List (Nat × Value)} (hl : ps.length = parts.length)
    (hp : ∀ (i : Nat) (p : Nat × AV) (q : Nat × Value), parts[i]? = some p → ps[i]? = some q → q.1 = p.1 ∧ Ok M β s p.2 q.2) {r : AV} (hr : evBuild P t parts = some r) :
    ∃ y, (Instr.build t ps.toArray).run P w = .ok y w ∧ Ok M β s r y := by
  unfold evBuild at hr
  split at hr
  · cases hr
  · rename_i zs hz
    obtain ⟨z, hz1, hz2, hz3⟩ := zeroP_spec (P := P) (w := w) hz
    have hrep : RepAt M β (zs.map .v) z.cells 0 := by
      have := repAt_v (M := M) (β := β) zs hz3
      rw [← hz2] at this ⊢
      simpa using this
    have hsz : z.cells.size = (zs.map AV.v).length := by rw [← hz2]; simp
    split at hr
    · rename_i fs hu
      split at hr
      · rename_i hall
        cases hf : fillA (fun i => (fs[i]?).bind fun f => (szP P f.type).map fun n => (f.offset, n)) (zs.map .v) parts with
        | none => simp [hf] at hr
        | some r' =>
          simp [hf] at hr
          subst hr
          obtain ⟨us, u1, u2, u3, u4⟩ := fill_ok _ parts ps (zs.map .v) r' z.cells hl hp hrep hsz (fun j hj => by rw [refsL_map_v] at hj; cases hj) hf
          refine ⟨.agg us, ?_, ⟨us, rfl, u3, u2⟩, fun j hj => u4 j (by simpa [AV.refs] using hj)⟩
          have hplace : (fun (x : Nat) => (fs.map fun (f : Field) => (f.offset, (szP P f.type).getD 0))[x]?) = (fun (i : Nat) => (fs[i]?).bind fun (f : Field) => (szP P f.type).map fun n => (f.offset, n)) := by
            funext i
            rw [Array.getElem?_map]
            cases hfi : fs[i]? with
            | none => rfl
            | some f =>
              have := List.all_eq_true.1 hall f (by rw [Array.mem_toList_iff]; exact Array.mem_of_getElem? hfi)
              obtain ⟨n, hn⟩ := Option.isSome_iff_exists.1 this
              simp [hn]
          simp only [Instr.build, Sem.run_bind, hz1, Result.andThen_ok, run_underlying hu, mapM_places' fs hall]
          rw [hplace, u1]
          rfl
      · cases hr
    · rename_i n e hu
      split at hr
      · rename_i z' hz'
        cases hf : fillA (fun i => some (i * z', z')) (zs.map .v) parts with
        | none => simp [hf] at hr
        | some r' =>
          simp [hf] at hr
          subst hr
          obtain ⟨us, u1, u2, u3, u4⟩ := fill_ok _ parts ps (zs.map .v) r' z.cells hl hp hrep hsz (fun j hj => by rw [refsL_map_v] at hj; cases hj) hf
          refine ⟨.agg us, ?_, ⟨us, rfl, u3, u2⟩, fun j hj => u4 j (by simpa [AV.refs] using hj)⟩
          simp only [Instr.build, Sem.run_bind, hz1, Result.andThen_ok, run_underlying hu, szP_spec hz']
          rw [u1]
          rfl
      · cases hr
    · cases hr

end
end Go.Fw

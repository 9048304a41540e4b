/- append as one step; every operation on memory in one. -/
import Derived.Test.YtjgbikhnnkigpaaFwK
set_option linter.unusedSimpArgs false
set_option linter.unusedVariables false
namespace Go.Fw
open Go Go.RowKit

section
variable {P : Program} {C : Ctx} {M : Mem} {β : Loc} {s : AS} {w : World} {nt : Nat} {a : Act}

theorem append_ok (h : Rel C M β s w) {x y : AV} {u v : Value} (hx : Ok M β s x u) (hy : Ok M β s y v) {t ty e z b d n m : Nat} {zs : List Value} {k : Option Nat} {l l' : List AV}
    (he : elemP P t = some e) (hsz : szP P e = some z) (hb : bytesP P e = some b) (hz : zeroP P e = some zs) (hd : appDest s e z x = some (n, l, k)) (hs : s.elems z y = some (m, l'))
    (hz0 : 0 < z) (hzl : zs.length = z) (hbytes : (n + m) * b ≤ 140737488355328) (h63 : n + m ≤ 9223372036854775807) (hfr : ¬ s.used d) :
    ∃ r w' β', (Builtin.append_ #[t, t] ty #[u, v]).run P w = .ok r w' ∧ Rel C M β' (s.eff ⟨.bs d z 0 (n + m), k, d, e, l ++ l', true⟩) w' ∧ (∀ id, s.used id → β' id = β id) ∧ Rep M β' (.bs d z 0 (n + m)) r := by
  obtain ⟨i, zv, hi, e1, e2, e3, e4⟩ := info_of hsz hb hz
  have hu := elemP_spec he
  have hzs : zv.cells.size = z := by rw [← hzl, ← e4]; simp
  obtain ⟨ad2, c2, rfl, q1, q2, q3, q4, ys, q5, q6, q7, q8⟩ := elems_ok h hy hs
  have hyl : ys.length = m * z := by rw [q5, q1]
  -- where there was no room at all
  have bare : ∀ (ad : Option Addr), l = [] → n = 0 → (∀ i, k = some i → ∃ e0, s.box i = some (.mut e0 [])) → u = .slice ad 0 0 →
      ∃ r w' β', (Builtin.append_ #[t, t] ty #[u, .slice ad2 m c2]).run P w = .ok r w' ∧ Rel C M β' (s.eff ⟨.bs d z 0 (n + m), k, d, e, l ++ l', true⟩) w' ∧ (∀ id, s.used id → β' id = β id) ∧ Rep M β' (.bs d z 0 (n + m)) r := by
    intro ad hl hn hk hu'
    subst hl hn hu'
    simp only [Nat.zero_add, List.nil_append] at *
    rcases Nat.eq_zero_or_pos m with h0 | h0
    · subst h0
      have hl' : l' = [] := List.eq_nil_of_length_eq_zero (by simpa using q1)
      subst hl'
      obtain ⟨r1, r2⟩ := h.renew (w' := w) k d e [] none none (.inl hfr) rfl rfl rfl (Nat.le_refl _) (fun _ _ _ => rfl) (fun _ hb => by cases hb) (.inl ⟨rfl, rfl⟩) (by simp [refsL])
      exact ⟨.slice ad 0 0, w, _, append_none hu hi, r1.env rfl rfl, r2, ⟨ad, 0, rfl, Nat.le_refl _, by simp [maxLen], fun h => absurd h (by omega)⟩⟩
    · obtain ⟨cap', rest, g1, g2, g3, g4⟩ := append_grow (w := w) (ty := ty) (ad := ad) (c := c2) (xs := []) (n := 0) (cap := 0) hu hi e1 e2 e3 hzs (by simp) hyl (fun h => absurd h (by omega)) (fun _ => .inl rfl) q8 (by omega) (Nat.le_refl _) (by simpa using hbytes) (by simpa using h63)
      simp only [Nat.zero_add] at g1 g3 g4
      have hrep : RepAt M β l' ([].toArray ++ ys.toArray ++ rest : Array Value) 0 := by
        refine q6.congr fun j hj => ?_
        rw [Array.getElem?_append_left (by simp; omega), Array.getElem?_append_right (by simp)]
        simp
      obtain ⟨r1, r2⟩ := h.renew (w' := w.drew.alloc (.cells ([].toArray ++ ys.toArray ++ rest) e)) k d e l' (some (w.heap.size, ([].toArray ++ ys.toArray ++ rest : Array Value).size)) none (.inl hfr) rfl rfl rfl (by simp)
        (fun k hk _ => Below.heap_alloc w.drew _ k hk) (fun _ hb => by cases hb) (.inr ⟨w.heap.size, _, rfl, ⟨(0, 0), heap_alloc_new w.drew _, Free.zero _⟩, hrep, by simp; omega, .inl (Nat.le_refl _)⟩) q4
      exact ⟨_, _, _, g4, r1.env rfl rfl, r2, ⟨_, cap', rfl, g1, g2, fun _ => ⟨w.heap.size, _, upd_same _ _ _, rfl, by rw [Nat.zero_add]; exact g3.symm⟩⟩⟩
  unfold appDest at hd
  split at hd
  · rename_i id z' off n'
    split at hd
    · rename_i e' l1 hbox
      split at hd
      · rename_i hc
        obtain ⟨rfl, rfl, rfl, hnl⟩ := hc
        cases hd
        obtain ⟨ad, cap, rfl, k1, k2, k3⟩ := hx.rep
        rcases Nat.eq_zero_or_pos cap with h0 | h0
        · subst h0
          have hn : n = 0 := by omega
          subst hn
          have hl : l = [] := List.eq_nil_of_length_eq_zero (by simpa using hnl.symm)
          exact bare ad hl rfl (fun i hi => by cases hi; exact ⟨e', by rw [hbox, hl]⟩) rfl
        · obtain ⟨g, sz, j1, rfl, j2⟩ := k3 h0
          rcases h.mutb id e' l hbox with ⟨hn, _⟩ | ⟨g', cur, p1, ⟨fz, p2, pf⟩, p3, p4, p5, p6⟩
          · rw [hn] at j1; cases j1
          · rw [p1] at j1; cases j1
            simp only [Nat.zero_add] at j2
            by_cases hroom : n + m ≤ cap
            · have hfit : n * z' + ys.length ≤ cur.size := by rw [← j2, hyl, ← Nat.add_mul]; exact Nat.mul_le_mul_right _ hroom
              have hrun := append_room (w := w) (ty := ty) (c := c2) hu hi e1 p2 pf hyl q7 q8 hroom hfit
              let new := (cur.toList.take (n * z') ++ ys ++ cur.toList.drop (n * z' + ys.length)).toArray
              have hns : new.size = cur.size := by simp [new]; omega
              have hrep : RepAt M β (l ++ l') new 0 := by
                refine RepAt.append (p3.congr fun j hj => ?_) (q6.congr fun j hj => ?_)
                · simp only [new, Nat.zero_add, List.getElem?_toArray]
                  rw [List.append_assoc, List.getElem?_append_left (by simp; omega), List.getElem?_take, if_pos (by omega)]
                  simp
                · simp only [new, Nat.zero_add, List.getElem?_toArray]
                  rw [← hnl, List.append_assoc, List.getElem?_append_right (by simp; omega), List.getElem?_append_left (by simp; omega)]
                  congr 1
                  simp; omega
              obtain ⟨r1, r2⟩ := h.renew (w' := w.setRow g new) (some id) d e' (l ++ l') (some (g, cur.size)) (some g) (.inl hfr) rfl rfl rfl (by simp [World.setRow])
                (fun k _ hk => setRow_other w g k _ (fun he => hk (by rw [he]))) (fun b' hb' => by cases hb'; exact ⟨id, e', l, cur.size, rfl, hbox, p1⟩)
                (.inr ⟨g, new, by rw [hns], ⟨fz, setRow_heap w g cur new e' fz p2, by rw [hns]; exact pf⟩, hrep, by rw [hns, List.length_append, ← hnl, q1, ← j2, ← Nat.add_mul]; exact Nat.mul_le_mul_right _ hroom, .inr rfl⟩)
                (fun j hj => by
                  obtain ⟨v, hv, hj⟩ := mem_refsL.1 hj
                  rcases List.mem_append.1 hv with hv | hv
                  · exact h.refB id e' l hbox j (mem_refsL.2 ⟨v, hv, hj⟩)
                  · exact q4 j (mem_refsL.2 ⟨v, hv, hj⟩))
              exact ⟨_, _, _, hrun, r1.env rfl rfl, r2, ⟨_, cap, rfl, hroom, k2, fun _ => ⟨g, cur.size, by simp [upd], rfl, by omega⟩⟩⟩
            · obtain ⟨xs, x1, x2, x3, x4⟩ := p3.cells
              obtain ⟨cap', rest, g1, g2, g3, g4⟩ := append_grow (w := w) (ty := ty) (ad := some ⟨g, 0, none⟩) (c := c2) (xs := xs) (n := n) (cap := cap) hu hi e1 e2 e3 hzs (by rw [x1, hnl]) hyl
                (fun _ => ⟨g, rfl, fun j y hj => cell_of p2 (x2 j y hj)⟩) (fun _ => .inr ⟨g, rfl⟩) q8 (by omega) k1 hbytes h63
              have hrep : RepAt M β (l ++ l') (xs.toArray ++ ys.toArray ++ rest : Array Value) 0 := by
                refine RepAt.append (x4.congr fun j hj => ?_) (q6.congr fun j hj => ?_)
                · rw [Array.append_assoc, Array.getElem?_append_left (by simp; omega)]
                · rw [Array.getElem?_append_left (by simp; omega), Array.getElem?_append_right (by simp; omega)]
                  congr 1
                  simp; omega
              obtain ⟨r1, r2⟩ := h.renew (w' := w.drew.alloc (.cells (xs.toArray ++ ys.toArray ++ rest) e')) (some id) d e' (l ++ l') (some (w.heap.size, (xs.toArray ++ ys.toArray ++ rest : Array Value).size)) none (.inl hfr) rfl rfl rfl (by simp)
                (fun k hk _ => Below.heap_alloc w.drew _ k hk) (fun _ hb => by cases hb)
                (.inr ⟨w.heap.size, _, rfl, ⟨(0, 0), heap_alloc_new w.drew _, Free.zero _⟩, hrep, by simp; omega, .inl (Nat.le_refl _)⟩)
                (fun j hj => by
                  obtain ⟨v, hv, hj⟩ := mem_refsL.1 hj
                  rcases List.mem_append.1 hv with hv | hv
                  · exact h.refB id e' l hbox j (mem_refsL.2 ⟨v, hv, hj⟩)
                  · exact q4 j (mem_refsL.2 ⟨v, hv, hj⟩))
              exact ⟨_, _, _, g4, r1.env rfl rfl, r2, ⟨_, cap', rfl, g1, g2, fun _ => ⟨w.heap.size, _, upd_same _ _ _, rfl, by rw [Nat.zero_add]; exact g3.symm⟩⟩⟩
      · cases hd
    · cases hd
  · cases hd
    obtain ⟨rfl, _⟩ := hx.rep
    exact bare none rfl rfl (fun i hi => by cases hi) rfl
  · rename_i z' n' l1
    split at hd
    · rename_i hc
      obtain ⟨rfl, rfl⟩ := hc
      cases hd
      obtain ⟨ad, cap, rfl, k1, k2, k3, k4, _⟩ := hx.rep
      have hc0 : cap = 0 := k4 rfl
      subst hc0
      exact bare ad rfl rfl (fun i hi => by cases hi) rfl
    · cases hd
  · cases hd

/-- Every operation on memory. -/
theorem mem_step (h : Rel C M β s w) (hs : Slots nt M β s a) (o : Oper) {f : Eff} (hf : evMem P s o.dst o.op = some f) (hfr : f.fresh = true → ¬ s.used f.d) :
    After C M β s f ((execOp a.eval o).run P w) := by
  obtain ⟨dst, op, ty, pos, after, guard⟩ := o
  simp only at hf
  cases op <;> simp only [evMem] at hf <;> try (cases hf; done)
  case alloc t =>
    split at hf
    · rename_i d zs hz
      cases hf
      exact alloc_ok h (hfr rfl) hz _ rfl
    · cases hf
  case box t x =>
    split at hf
    · rename_i d cs hc
      cases hf
      exact box_ok h hs (hfr rfl) hc _ rfl
    · cases hf
  case buildSlice t n parts =>
    split at hf
    · rename_i d e he
      split at hf
      · rename_i z zs l hsz hz hc
        split at hf
        · rename_i hcond
          obtain ⟨c1, c2, c3, c4, c5⟩ := hcond
          cases hf
          rw [hsz] at hc
          exact buildSlice_ok h hs (hfr rfl) he hsz hz hc c1 c2 c3 c4 c5 _ rfl
        · cases hf
      · cases hf
    · cases hf
  case store t p x =>
    split at hf
    · rename_i id off cs hp hc
      split at hf
      · rename_i e l hb
        split at hf
        · rename_i hcond
          cases hf
          exact store_ok h hs hp hc hb hcond.1 hcond.2 _ rfl
        · cases hf
      · cases hf
    · cases hf
  case makeSlice t n c =>
    split at hf
    · rename_i d e kn N kc Cc he hn hc
      split at hf
      · rename_i b x hsz hb hz
        split at hf
        · rename_i hcond
          obtain ⟨c1, c2, c3, c4⟩ := hcond
          cases hf
          have hn' := val_ok h hs n
          rw [hn] at hn'
          have hc' := val_ok h hs c
          rw [hc] at hc'
          exact makeSlice_ok h (hfr rfl) hn'.rep.1 hc'.rep.1 he hsz hb hz c1 c2 c3 c4 _ rfl
        · cases hf
      · cases hf
    · cases hf
  case convert src t x =>
    split at hf
    · rename_i d b e hx he
      split at hf
      · rename_i hcond
        obtain ⟨c1, c2, c3⟩ := hcond
        cases hf
        have hx' := val_ok h hs x
        rw [hx] at hx'
        exact bytes_ok h (hfr rfl) hx'.rep.1 c1 he c2 c3 _ rfl
      · cases hf
    · cases hf
  case call c =>
    split at hf
    · rename_i d hcl
      unfold evAppend at hf
      split at hf
      · rename_i x y t u hargs hts
        split at hf
        · rename_i e he
          split at hf
          · rename_i z b zs hsz hb hz
            split at hf
            · rename_i n l k m l' hd hel
              split at hf
              · rename_i hcond
                obtain ⟨rfl, c1, c2, c3, c4⟩ := hcond
                cases hf
                have hlen : c.args.toList.length = 2 := by have := congrArg List.length hargs; simpa using this
                obtain ⟨o1, o2, hao⟩ : ∃ o1 o2, c.args.toList = [o1, o2] := by
                  match hm : c.args.toList, hlen with
                  | [o1, o2], _ => exact ⟨o1, o2, rfl⟩
                rw [hao] at hargs
                simp at hargs
                obtain ⟨rfl, rfl⟩ := hargs
                obtain ⟨r, w', β', r1, r2, r3, r4⟩ := append_ok (ty := ty) h (val_ok h hs o1) (val_ok h hs o2) he hsz hb hz hd hel c1 c2 c3 c4 (hfr rfl)
                refine ⟨r, w', β', .inl ?_, r2, r3, r4, fun id hid => by simp [AV.refs] at hid; subst hid; exact .inl rfl⟩
                have ea : c.args.map a.eval = #[a.eval o1, a.eval o2] := by apply Array.ext'; simp [hao]
                have et : c.argTypes = #[t, t] := by apply Array.ext'; simpa using hts
                simp only [execOp, resolve, hcl, Sem.run_bind, Sem.run_pure, Result.andThen_ok, invoke, builtin, ea, et, r1]
              · cases hf
            · cases hf
          · cases hf
        · cases hf
      · cases hf
    · cases hf
end
end Go.Fw

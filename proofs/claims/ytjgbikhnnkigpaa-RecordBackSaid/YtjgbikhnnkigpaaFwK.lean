/- make, append, the bytes of a text; every operation in one. -/
import Derived.Test.YtjgbikhnnkigpaaFwJ
set_option linter.unusedSimpArgs false
set_option linter.unusedVariables false
namespace Go.Fw
open Go Go.RowKit

section
variable {P : Program} {C : Ctx} {M : Mem} {β : Loc} {s : AS} {w : World} {nt : Nat} {a : Act}

theorem info_of {e z b : Nat} {zs : List Value} (h1 : szP P e = some z) (h2 : bytesP P e = some b) (h3 : zeroP P e = some zs) :
    ∃ i zv, P.info? e = some i ∧ i.size = z ∧ i.bytes = b ∧ i.zero = some zv ∧ zv.cells.toList = zs := by
  unfold szP at h1
  unfold bytesP at h2
  unfold zeroP at h3
  cases hi : P.info? e with
  | none => simp [hi] at h1
  | some i =>
    simp [hi] at h1 h2
    simp only [hi, Option.bind_some] at h3
    cases hz : i.zero with
    | none => simp [hz] at h3
    | some zv =>
      simp only [hz] at h3
      split at h3
      · cases h3; exact ⟨i, zv, rfl, h1, h2, hz, rfl⟩
      · cases h3

theorem makeSlice_ok (h : Rel C M β s w) {t d e b : Nat} (hd : ¬ s.used d) {x : Value} {n c : Operand} {kn kc : IntKind} {N Cc : Int} (hn : a.eval n = .int kn N) (hc : a.eval c = .int kc Cc)
    (he : elemP P t = some e) (hsz : szP P e = some 1) (hb : bytesP P e = some b) (hz : zeroP P e = some [x]) (h0 : 0 ≤ N) (h1 : N ≤ Cc) (h2 : (b : Int) * Cc ≤ 281474976710656) (h3 : Cc ≤ 9223372036854775807)
    (o : Oper) (ho : o.op = .makeSlice t n c) :
    After C M β s ⟨.bs d 1 0 N.toNat, none, d, e, List.replicate N.toNat (.v x), true⟩ ((execOp a.eval o).run P w) := by
  obtain ⟨i, zv, hi, e1, e2, e3, e4⟩ := info_of hsz hb hz
  have hx1 : x.oneCell' = true := by
    obtain ⟨zv', h1, h2, h3⟩ := zeroP_spec (P := P) (w := w) hz
    simpa using h3
  have hzc : zv.cells = #[x] := by apply Array.ext'; simpa using e4
  have hrun := run_make (P := P) w t e i zv (elemP_spec he) hi e3 kn kc N Cc h0 h1 (by rw [e2]; exact h2) h3
  rw [e1, hzc, Nat.mul_one] at hrun
  have hcell : ∀ j, j < Cc.toNat → (madeCells #[x] Cc.toNat)[j]? = some x := by
    intro j hj
    simp only [madeCells, Array.getElem?_map]
    rw [Array.getElem?_eq_getElem (by simpa using hj)]
    simp [Nat.mod_one]
  have hsize : (madeCells #[x] Cc.toNat).size = Cc.toNat := size_madeCells _ _
  refine after_new h hd (cs := madeCells #[x] Cc.toNat) ?_ (by rw [hsize]; simp; omega) ?_ rfl (y := .slice (some ⟨w.heap.size, 0, none⟩) N.toNat Cc.toNat) ?_
    ⟨_, Cc.toNat, rfl, by omega, by simp only [maxLen]; omega, fun _ => ⟨w.heap.size, (madeCells #[x] Cc.toNat).size, by simp [upd], rfl, by rw [hsize]; omega⟩⟩
  · rw [RepAt.iff]
    intro j v hv
    rw [List.getElem?_replicate] at hv
    split at hv
    · cases hv
      exact ⟨x, by rw [Nat.zero_add]; exact hcell j (by omega), hx1, rfl, hx1⟩
    · cases hv
  · intro j hj
    obtain ⟨v, hv, hj⟩ := mem_refsL.1 hj
    rw [List.eq_of_mem_replicate hv] at hj
    cases hj
  · simp only [execOp, ho, Sem.run_bind, hn, hc, hrun, Result.andThen_ok, Sem.run_pure]

/-- The bytes of a text. -/
theorem bytes_ok (h : Rel C M β s w) {src t d e : Nat} (hd : ¬ s.used d) {x : Operand} {b : ByteArray} (hx : a.eval x = .string b) (hs : strP P src = true) (he : elemP P t = some e) (hk : intP P e = some .u8)
    (hb : b.size ≤ 9223372036854775807) (o : Oper) (ho : o.op = .convert src t x) :
    After C M β s ⟨.bs d 1 0 b.size, none, d, e, b.data.toList.map byteV, true⟩ ((execOp a.eval o).run P w) := by
  let cap := (Question.appendCap b.size 0 e).cut (w.tape w.drawn (.appendCap b.size 0 e))
  have hge : b.size ≤ cap := by simp only [cap, Question.cut]; omega
  have hcm : cap ≤ maxLen := by
    have hlt := Nat.mod_lt (w.tape w.drawn (.appendCap b.size 0 e)) (show 0 < 2 ^ 63 - b.size by omega)
    simp only [cap, Question.cut, maxLen]
    omega
  let cs : Array Value := (b.data.map fun c => Value.int .u8 c.toNat) ++ Array.replicate (cap - b.size) (.int .u8 0)
  have hbs : b.data.size = b.size := rfl
  have hcs : cs.size = cap := by simp [cs, hbs]; omega
  let w1 : World := w.drew.alloc (.cells cs e)
  have hd1 := h.draw (w' := w.drew) rfl rfl rfl rfl
  let w2 : World := w1.freeze ⟨w.heap.size, cs.size, none⟩ 1
  have hw1 : w1.heap[w.heap.size]? = some (.cells cs e) := heap_alloc_new w.drew _
  have hfz : ∃ fz, w2.heap[w.heap.size]? = some (.cells cs e fz) ∧ Free cs.size fz := by
    refine ⟨(cs.size, cs.size + 1), ?_, fun i hi => by simp; omega⟩
    simp [w2, World.freeze, Array.getElem?_modify, hw1]
  have hrun : (execOp a.eval o).run P w = .ok (.value (.slice (some ⟨w.heap.size, 0, none⟩) b.size cap)) w2 := by
    have e1 : (convert src t (.string b)).run P w = (Conv.stringToBytes e b).run P w := by
      simp [convert, run_underlying (strP_spec hs), run_underlying (elemP_spec he), run_underlying (intP_spec hk)]
    have e2 : (Conv.stringToBytes e b).run P w = .ok (.slice (some ⟨w.heap.size, 0, none⟩) b.size cap) w2 := by
      have hsh : w1.shape? w.heap.size = some (e, cs.size) := by simp [World.shape?, hw1]
      have hm : (markStringish ⟨w.heap.size, 0, none⟩).run P w1 = .ok () w2 := by
        simp [markStringish, hsh, w2]
      have hnr : (newRow e cs).run P w.drew = .ok ⟨w.heap.size, 0, none⟩ w1 := rfl
      have hch : (choose (.appendCap b.size 0 e)).run P w = .ok cap w.drew := by
        simp [run_choose, Question.forced, cap]
      unfold Conv.stringToBytes
      rw [Sem.run_bind, hch, Result.andThen_ok]
      simp only [Sem.run_bind]
      have hnr' : (newRow e ((b.data.map fun b => Value.int .u8 b.toNat) ++ Array.replicate (cap - b.size) (.int .u8 0))).run P w.drew = .ok ⟨w.heap.size, 0, none⟩ w1 := hnr
      rw [hnr', Result.andThen_ok, hm]
      rfl
    simp only [execOp, ho, Sem.run_bind, hx, e1, e2, Result.andThen_ok, Sem.run_pure]
  have hrep : RepAt M β (b.data.toList.map byteV) cs 0 := by
    rw [RepAt.iff]
    intro j v hv
    rw [List.getElem?_map] at hv
    cases hj : b.data.toList[j]? with
    | none => rw [hj] at hv; cases hv
    | some c =>
      rw [hj] at hv
      cases hv
      rw [Array.getElem?_toList] at hj
      refine ⟨.int .u8 c.toNat, ?_, rfl, rfl, rfl⟩
      simp only [cs, Nat.zero_add]
      rw [Array.getElem?_append_left (by simp; exact (Array.getElem?_eq_some_iff.1 hj).1), Array.getElem?_map, hj]
      rfl
  have hk1 : ∀ k, k < w.heap.size → w2.heap[k]? = w.heap[k]? := by
    intro k hk
    simp only [w2, World.freeze, Nat.one_ne_zero, if_false, Array.getElem?_modify]
    rw [if_neg (by omega)]
    exact Below.heap_alloc w.drew _ k hk
  have hR := h.renew (w' := w2) none d e (b.data.toList.map byteV) (some (w.heap.size, cs.size)) none (.inl hd) rfl rfl rfl (by simp [w2, World.freeze, w1]) (fun k hk _ => hk1 k hk) (fun _ hb => by cases hb)
    (.inr ⟨w.heap.size, cs, rfl, hfz, hrep, by rw [hcs]; simp [hbs]; exact hge, .inl (Nat.le_refl _)⟩)
    (fun j hj => by
      obtain ⟨v, hv, hj⟩ := mem_refsL.1 hj
      obtain ⟨c, _, rfl⟩ := List.mem_map.1 hv
      simp [byteV, AV.refs] at hj)
  refine ⟨_, w2, _, .inl hrun, hR.1.env rfl rfl, hR.2, ⟨_, cap, rfl, hge, hcm, fun _ => ⟨w.heap.size, cs.size, by simp [upd], rfl, by rw [hcs]; omega⟩⟩, fun id hid => by simp [AV.refs] at hid; subst hid; exact .inl rfl⟩

theorem firstCells_run {z m c : Nat} {ad : Option Addr} {ys : List Value} (hl : ys.length = m * z) (h : 0 < m → ∃ b o, ad = some ⟨b, o, none⟩ ∧ ∀ j y, ys[j]? = some y → w.cell? ⟨b, o + j, none⟩ = some y) :
    (Builtin.firstCells z m (.slice ad m c)).run P w = .ok ys.toArray w := by
  rcases Nat.eq_zero_or_pos m with h0 | h0
  · subst h0
    have : ys = [] := List.eq_nil_of_length_eq_zero (by simpa using hl)
    subst this
    cases ad <;> simp [Builtin.firstCells, loadCells, loadCellsFrom]
  · obtain ⟨b, o, rfl, h1⟩ := h h0
    exact run_firstCells_some w z m _ m c ys hl (fun j y hy => by rw [Addr.add_lit]; exact h1 j y hy)

/-- append within the capacity. -/
theorem append_room {t ty e z : Nat} {i : TypeInfo} (ht : P.underlying t = some (.slice e)) (hi : P.info? e = some i) (hz : i.size = z) {g n cap : Nat} {cur : Array Value} {fz : Nat × Nat}
    (hg : w.heap[g]? = some (.cells cur e fz)) (hf : Free cur.size fz) {ad : Option Addr} {m c : Nat} {ys : List Value} (hl : ys.length = m * z) (h1 : ∀ y ∈ ys, y.oneCell' = true)
    (hsrc : 0 < m → ∃ b o, ad = some ⟨b, o, none⟩ ∧ ∀ j y, ys[j]? = some y → w.cell? ⟨b, o + j, none⟩ = some y) (hroom : n + m ≤ cap) (hfit : n * z + ys.length ≤ cur.size) :
    (Builtin.append_ #[t, t] ty #[.slice (some ⟨g, 0, none⟩) n cap, .slice ad m c]).run P w =
      .ok (.slice (some ⟨g, 0, none⟩) (n + m) cap) (w.setRow g (cur.toList.take (n * z) ++ ys ++ cur.toList.drop (n * z + ys.length)).toArray) := by
  subst hz
  have hfc := firstCells_run (P := P) (c := c) hl hsrc
  have hst := run_storeCells_free P g (n * i.size) e fz ys 0 cur w hg hf (by simpa using hfit) h1
  simp only [Nat.add_zero] at hst
  simp [Builtin.append_, run_underlying ht, sizeOf, typeInfo, hi, Builtin.lenOf, hroom, hfc, Addr.add_lit, hst]

/-- nothing appended where there is no room. -/
theorem append_none {t ty e : Nat} {i : TypeInfo} (ht : P.underlying t = some (.slice e)) (hi : P.info? e = some i) {ad ad2 : Option Addr} {c : Nat} :
    (Builtin.append_ #[t, t] ty #[.slice ad 0 0, .slice ad2 0 c]).run P w = .ok (.slice ad 0 0) w := by
  have hfc := firstCells_run (P := P) (w := w) (z := i.size) (m := 0) (c := c) (ad := ad2) (ys := []) (by simp) (fun h => absurd h (by omega))
  cases ad <;> simp [Builtin.append_, run_underlying ht, sizeOf, typeInfo, hi, Builtin.lenOf, hfc, storeCells]

/-- append that makes a new row. -/
theorem append_grow {t ty e z b : Nat} {i : TypeInfo} {zv : Value} (ht : P.underlying t = some (.slice e)) (hi : P.info? e = some i) (hz : i.size = z) (hb : i.bytes = b) (hzv : i.zero = some zv) (hzs : zv.cells.size = z)
    {ad ad2 : Option Addr} {n cap m c : Nat} {xs ys : List Value} (hx : xs.length = n * z) (hy : ys.length = m * z)
    (hdst : 0 < n → ∃ g, ad = some ⟨g, 0, none⟩ ∧ ∀ j y, xs[j]? = some y → w.cell? ⟨g, 0 + j, none⟩ = some y) (hn0 : n = 0 → cap = 0 ∨ ∃ g, ad = some ⟨g, 0, none⟩)
    (hsrc : 0 < m → ∃ b o, ad2 = some ⟨b, o, none⟩ ∧ ∀ j y, ys[j]? = some y → w.cell? ⟨b, o + j, none⟩ = some y)
    (hgrow : cap < n + m) (hncap : n ≤ cap) (hbytes : (n + m) * b ≤ 140737488355328) (h63 : n + m ≤ 9223372036854775807) :
    ∃ cap' rest, n + m ≤ cap' ∧ cap' ≤ maxLen ∧ (xs.toArray ++ ys.toArray ++ rest : Array Value).size = cap' * z ∧
      (Builtin.append_ #[t, t] ty #[.slice ad n cap, .slice ad2 m c]).run P w = .ok (.slice (some ⟨w.heap.size, 0, none⟩) (n + m) cap') (w.drew.alloc (.cells (xs.toArray ++ ys.toArray ++ rest) e)) := by
  subst hz hb
  obtain ⟨sb, so, rfl, hs⟩ := hsrc (by omega)
  refine ⟨grownCap w (n + m) cap e, Builtin.zeroCells zv.cells (grownCap w (n + m) cap e - (n + m)), grownCap_ge _ _ _ _, grownCap_le_maxLen _ _ _ _ (by simp only [maxLen]; omega), ?_, ?_⟩
  · have hge := grownCap_ge w (n + m) cap e
    simp only [Array.size_append, List.size_toArray, size_zeroCells, hzs, hx, hy, ← Nat.add_mul]
    congr 1
    omega
  · have hfits : Builtin.nextslicecap (n + m) cap * i.bytes ≤ 281474976710656 := growslice_fits (by omega) hbytes
    cases ad with
    | none =>
      have hn : n = 0 := by
        rcases Nat.eq_zero_or_pos n with h | h
        · exact h
        · obtain ⟨g, hg, _⟩ := hdst h; cases hg
      subst hn
      have hc : cap = 0 := by
        rcases hn0 rfl with h | ⟨g, hg⟩
        · exact h
        · cases hg
      subst hc
      have hxs : xs = [] := List.eq_nil_of_length_eq_zero (by simpa using hx)
      subst hxs
      have := run_append_nil (P := P) w t ty e i zv ht hi hzv ⟨sb, so, none⟩ m c ys hy (fun j y hj => by rw [Addr.add_lit]; exact hs j y hj) (by omega) (by omega) (by have := hbytes; simp only [Nat.zero_add] at this; omega)
      simpa using this
    | some ad =>
      refine run_append_grow (P := P) w t ty e i zv ht hi hzv ad n cap xs hx (fun j y hj => ?_) ⟨sb, so, none⟩ m c ys hy (fun j y hj => by rw [Addr.add_lit]; exact hs j y hj) hgrow (by omega) hfits
      have hn : 0 < n := by
        rcases Nat.eq_zero_or_pos n with h | h
        · subst h
          have hxs : xs = [] := List.eq_nil_of_length_eq_zero (by simpa using hx)
          subst hxs; simp at hj
        · exact h
      obtain ⟨g, hg, hcell⟩ := hdst hn
      cases hg
      rw [Addr.add_lit]
      exact hcell j y hj
end
end Go.Fw

/- Loads, fields, indexes: what each comes to. -/
import Derived.Test.YtjgbikhnnkigpaaFwD
set_option linter.unusedSimpArgs false
set_option linter.unusedVariables false
namespace Go.Fw
open Go Go.RowKit

def szP (P : Program) (t : TypeId) : Option Nat := (P.info? t).map (·.size)
def isAggD : TypeDesc → Bool
  | .struct _ | .array _ _ => true
  | _ => false
def aggP (P : Program) (t : TypeId) : Option Bool := (P.underlying t).map isAggD
def elemP (P : Program) (t : TypeId) : Option TypeId := match P.underlying t with
  | some (.slice e) => some e
  | _ => none
def arrP (P : Program) (t : TypeId) : Option (Nat × TypeId) := match P.underlying t with
  | some (.array n e) => some (n, e)
  | _ => none
def intP (P : Program) (t : TypeId) : Option IntKind := match P.underlying t with
  | some (.int k) => some k
  | _ => none
def strP (P : Program) (t : TypeId) : Bool := match P.underlying t with
  | some .string => true
  | _ => false
/-- A field's place and type. -/
def fieldP (P : Program) (t : TypeId) (f : Nat) : Option (Nat × TypeId) := match P.underlying t with
  | some (.struct fs) => (fs[f]?).map fun d => (d.offset, d.type)
  | _ => none

theorem szP_spec {P : Program} {t n : Nat} (h : szP P t = some n) (w : World) : (sizeOf t).run P w = .ok n w := by
  unfold szP at h
  cases hi : P.info? t with
  | none => simp [hi] at h
  | some i => simp [hi] at h; subst h; simp [sizeOf, typeInfo, hi]

theorem aggP_spec {P : Program} {t : Nat} {b : Bool} (h : aggP P t = some b) (w : World) : (isAgg t).run P w = .ok b w := by
  unfold aggP at h
  cases hi : P.underlying t with
  | none => simp [hi] at h
  | some d =>
    simp [hi] at h
    subst h
    cases d <;> simp [isAgg, run_underlying hi, isAggD]

theorem elemP_spec {P : Program} {t e : Nat} (h : elemP P t = some e) : P.underlying t = some (.slice e) := by
  unfold elemP at h
  split at h
  · rename_i hu; cases h; exact hu
  · cases h

theorem arrP_spec {P : Program} {t n e : Nat} (h : arrP P t = some (n, e)) : P.underlying t = some (.array n e) := by
  unfold arrP at h
  split at h
  · rename_i hu; cases h; exact hu
  · cases h

theorem intP_spec {P : Program} {t : Nat} {k : IntKind} (h : intP P t = some k) : P.underlying t = some (.int k) := by
  unfold intP at h
  split at h
  · rename_i hu; cases h; exact hu
  · cases h

theorem strP_spec {P : Program} {t : Nat} (h : strP P t = true) : P.underlying t = some .string := by
  unfold strP at h
  split at h
  · rename_i hu; exact hu
  · cases h

theorem fieldP_spec {P : Program} {t f o : Nat} {ft : TypeId} (h : fieldP P t f = some (o, ft)) : ∃ fs fd, P.underlying t = some (.struct fs) ∧ fs[f]? = some fd ∧ fd.offset = o ∧ fd.type = ft := by
  unfold fieldP at h
  split at h
  · rename_i fs hu
    cases hf : fs[f]? with
    | none => simp [hf] at h
    | some fd => simp [hf] at h; exact ⟨fs, fd, hu, hf, h.1, h.2⟩
  · cases h

/-- What a run of cells is as a value of a type. -/
def partAV (P : Program) (t : TypeId) (l : List AV) : Option AV :=
  match aggP P t, szP P t with
  | some true, some n => if n ≤ l.length then some (.agg (l.take n)) else none
  | some false, some _ => l.head?
  | _, _ => none

/-- The cells from a pointer on. -/
def AS.mem (s : AS) : AV → Option (List AV)
  | .ip l => some l
  | .bp id off => match s.box id with
    | some (.mut _ l) => some (l.drop off)
    | _ => none
  | _ => none

def ptrAdd : AV → Nat → Option AV
  | .ip l, k => some (.ip (l.drop k))
  | .bp id off, k => some (.bp id (off + k))
  | _, _ => none

section
variable {P : Program} {C : Ctx} {M : Mem} {β : Loc} {s : AS} {w : World} {nt : Nat} {a : Act}

theorem mem_ok (h : Rel C M β s w) {v : AV} {x : Value} (hv : Ok M β s v x) {l : List AV} (hl : s.mem v = some l) :
    ∃ b o cs ty fz, x = .pointer (some ⟨b, o, none⟩) ∧ w.heap[b]? = some (.cells cs ty fz) ∧ RepAt M β l cs o ∧ ∀ j ∈ refsL l, s.used j := by
  cases v <;> simp only [AS.mem] at hl <;> try (cases hl; done)
  case ip l' =>
    simp only [Option.some.injEq] at hl
    subst hl
    obtain ⟨b, o, cs, rfl, h1, h2, h3⟩ := hv.rep
    obtain ⟨ty, fz, hh⟩ := h.mem b cs h1
    exact ⟨b, o, cs, ty, fz, rfl, hh, RepAt.mono (MemLe.refl M) _ _ _ (fun j hj => by rw [h2] at hj; cases hj) h3, fun j hj => by rw [h2] at hj; cases hj⟩
  case bp id off =>
    obtain ⟨b, sz, k1, rfl⟩ := hv.rep
    split at hl
    · rename_i e l' hb
      simp only [Option.some.injEq] at hl
      subst hl
      rcases h.mutb id e l' hb with ⟨hn, _⟩ | ⟨b', cs, k2, ⟨fz, k3, _⟩, k4, _⟩
      · rw [hn] at k1; cases k1
      · rw [k2] at k1; cases k1
        exact ⟨b, off, cs, e, fz, rfl, k3, by have := k4.drop off; simpa using this, fun j hj => h.refB id e l' hb j (refsL_sub (fun a ha => List.mem_of_mem_drop ha) hj)⟩
    · cases hl

theorem head_ok {l : List AV} {cs : Array Value} {o : Nat} {v : AV} (h : RepAt M β l cs o) (hv : l.head? = some v) : ∃ y, cs[o]? = some y ∧ Rep M β v y := by
  cases l with
  | nil => cases hv
  | cons a l => simp at hv; subst hv; obtain ⟨⟨y, h1, _, h3⟩, _⟩ := h; exact ⟨y, h1, h3⟩

theorem cell_of {b o : Nat} {cs : Array Value} {ty : TypeId} {fz : Nat × Nat} {y : Value} (hh : w.heap[b]? = some (.cells cs ty fz)) (h : cs[o]? = some y) : w.cell? ⟨b, o, none⟩ = some y := by
  simp [World.cell?, hh, h]

theorem agg_ok {l : List AV} {cs : Array Value} {o n : Nat} (h : RepAt M β l cs o) (hn : n ≤ l.length) :
    ∃ ys : List Value, ys.length = n ∧ (∀ j y, ys[j]? = some y → cs[o + j]? = some y) ∧ Rep M β (.agg (l.take n)) (.agg ys.toArray) := by
  obtain ⟨ys, h1, h2, _, h4⟩ := (h.take n).cells
  have hlen : ys.length = n := by rw [h1, List.length_take]; omega
  exact ⟨ys, hlen, h2, ys.toArray, rfl, by simp [h1], h4⟩

/-- A value of a type, read off a run of cells that lie there. -/
theorem load_ok (h : Rel C M β s w) {v : AV} {x : Value} (hv : Ok M β s v x) {l : List AV} (hl : s.mem v = some l) {t : TypeId} {r : AV} (hr : partAV P t l = some r) :
    ∃ y, (Instr.loadAt t x).run P w = .ok y w ∧ Ok M β s r y := by
  obtain ⟨b, o, cs, ty, fz, rfl, hh, hrep, href⟩ := mem_ok h hv hl
  unfold partAV at hr
  split at hr
  · rename_i n ha hn
    split at hr
    · rename_i hle
      cases hr
      obtain ⟨ys, h1, h2, h3⟩ := agg_ok hrep hle
      have hld := run_loadCells_list (P := P) w ⟨b, o, none⟩ ys (fun j y hy => by rw [Addr.add_lit]; exact cell_of hh (h2 j y hy))
      rw [h1] at hld
      refine ⟨.agg ys.toArray, ?_, h3, fun id hid => href id (refsL_sub (fun a ha => List.mem_of_mem_take ha) (by simpa [AV.refs] using hid))⟩
      simp [Instr.loadAt, Instr.sureAddr, loadVar, aggP_spec ha, szP_spec hn, hld]
    · cases hr
  · rename_i n ha hn
    obtain ⟨y, h1, h2⟩ := head_ok hrep hr
    refine ⟨y, ?_, h2, fun id hid => href id (mem_refsL.2 ⟨r, List.mem_of_mem_head? hr, hid⟩)⟩
    simp [Instr.loadAt, Instr.sureAddr, loadVar, aggP_spec ha, cell_of hh h1]
  · cases hr

/-- A part of a struct's cells. -/
theorem part_ok {vs : Array Value} {l : List AV} (hvs : vs.size = l.length) (h : RepAt M β l vs 0) (href : ∀ j ∈ refsL l, s.used j) {t : TypeId} {o : Nat} {r : AV}
    (hr : partAV P t (l.drop o) = some r) : ∃ y, (part t vs o).run P w = .ok y w ∧ Ok M β s r y := by
  have hd := h.drop o
  simp only [Nat.zero_add] at hd
  unfold partAV at hr
  split at hr
  · rename_i n ha hn
    split at hr
    · rename_i hle
      cases hr
      refine ⟨.agg (vs.extract o (o + n)), by simp [part, aggP_spec ha, szP_spec hn], ⟨vs.extract o (o + n), rfl, ?_, ?_⟩, fun id hid => href id (refsL_sub (fun a ha => List.mem_of_mem_drop (List.mem_of_mem_take ha)) (by simpa [AV.refs] using hid))⟩
      · simp at hle ⊢; omega
      · refine (hd.take n).congr fun i hi => ?_
        simp at hi hle
        simp only [Nat.zero_add, Array.getElem?_extract]
        rw [if_pos (by omega)]
    · cases hr
  · rename_i n ha hn
    obtain ⟨y, h1, h2⟩ := head_ok hd hr
    refine ⟨y, by simp [part, aggP_spec ha, h1], h2, fun id hid => href id (mem_refsL.2 ⟨r, List.mem_of_mem_drop (List.mem_of_mem_head? hr), hid⟩)⟩
  · cases hr

theorem ptrAdd_ok {v r : AV} {x : Value} (hv : Ok M β s v x) {k : Nat} (hr : ptrAdd v k = some r) :
    ∃ b o, x = .pointer (some ⟨b, o, none⟩) ∧ Ok M β s r (.pointer (some ⟨b, o + k, none⟩)) := by
  cases v <;> simp only [ptrAdd] at hr <;> try (cases hr; done)
  case ip l =>
    cases hr
    obtain ⟨b, o, cs, rfl, h1, h2, h3⟩ := hv.rep
    exact ⟨b, o, rfl, ⟨b, o + k, cs, rfl, h1, refsL_nil_sub (fun a ha => List.mem_of_mem_drop ha) h2, h3.drop k⟩, by simp [AV.refs]⟩
  case bp id off =>
    cases hr
    obtain ⟨b, sz, k1, rfl⟩ := hv.rep
    exact ⟨b, off, rfl, ⟨b, sz, k1, rfl⟩, fun j hj => hv.ref j (by simpa [AV.refs] using hj)⟩

/-- The address of a field. -/
def evFieldAddr (P : Program) (t : TypeId) (v : AV) (f : Nat) : Option AV :=
  match fieldP P t f with
  | some (o, ft) => match szP P ft with
    | some n => if n = 0 then none else ptrAdd v o
    | none => none
  | none => none

theorem fieldAddr_ok {v r : AV} {x : Value} (hv : Ok M β s v x) {t : TypeId} {f : Nat} (hr : evFieldAddr P t v f = some r) :
    ∃ y, (Instr.fieldAt t x f).run P w = .ok y w ∧ Ok M β s r y := by
  unfold evFieldAddr at hr
  split at hr
  · rename_i o ft hf
    obtain ⟨fs, fd, hu, hfd, ho, hft⟩ := fieldP_spec hf
    split at hr
    · rename_i n hn
      split at hr
      · cases hr
      · rename_i hn0
        obtain ⟨b, o', rfl, hok⟩ := ptrAdd_ok hv hr
        refine ⟨_, ?_, hok⟩
        subst ho hft
        simp [Instr.fieldAt, run_underlying hu, hfd, Instr.sureAddr, fieldPlace, szP_spec hn, hn0, Addr.add_lit]
    · cases hr
  · cases hr

/-- A field of a struct. -/
def evField (P : Program) (t : TypeId) (v : AV) (f : Nat) : Option AV :=
  match fieldP P t f, v with
  | some (o, ft), .agg l => partAV P ft (l.drop o)
  | _, _ => none

theorem field_ok {v r : AV} {x : Value} (hv : Ok M β s v x) {t : TypeId} {f : Nat} (hr : evField P t v f = some r) :
    ∃ y, (Instr.field t x f).run P w = .ok y w ∧ Ok M β s r y := by
  unfold evField at hr
  split at hr
  · rename_i o ft l hf
    obtain ⟨fs, fd, hu, hfd, ho, hft⟩ := fieldP_spec hf
    obtain ⟨vs, rfl, h1, h2⟩ := hv.rep
    obtain ⟨y, hy, hok⟩ := part_ok (P := P) (w := w) h1 h2 (fun j hj => hv.ref j (by simpa [AV.refs] using hj)) hr
    refine ⟨y, ?_, hok⟩
    subst ho hft
    simp [Instr.field, run_underlying hu, hfd, asAgg, hy]
  · cases hr

/-- The address of an element. -/
def evIndexAddr (P : Program) (t : TypeId) (v i : AV) : Option AV :=
  match i with
  | .v (.int _ k) =>
    match v with
    | .slc _ z n l => if (elemP P t).bind (szP P) = some z ∧ 0 ≤ k ∧ k < n then some (.ip ((l.drop (k.toNat * z)).take z)) else none
    | .bs id z off n => if (elemP P t).bind (szP P) = some z ∧ 0 ≤ k ∧ k < n then some (.bp id (off + k.toNat * z)) else none
    | .ip l => match arrP P t with
      | some (n, e) => match szP P e with
        | some z => if 0 ≤ k ∧ k < n then some (.ip ((l.drop (k.toNat * z)).take z)) else none
        | none => none
      | none => none
    | .bp id off => match arrP P t with
      | some (n, e) => match szP P e with
        | some z => if 0 ≤ k ∧ k < n then some (.bp id (off + k.toNat * z)) else none
        | none => none
      | none => none
    | _ => none
  | _ => none

theorem bind_szP {P : Program} {t z : Nat} (h : (elemP P t).bind (szP P) = some z) : ∃ e, P.underlying t = some (.slice e) ∧ szP P e = some z := by
  cases he : elemP P t with
  | none => simp [he] at h
  | some e => simp [he] at h; exact ⟨e, elemP_spec he, h⟩

theorem indexAddr_ok {v i r : AV} {x y : Value} (hv : Ok M β s v x) (hi : Ok M β s i y) {t : TypeId} (hr : evIndexAddr P t v i = some r) :
    ∃ u, (Instr.indexAt t x y).run P w = .ok u w ∧ Ok M β s r u := by
  unfold evIndexAddr at hr
  split at hr
  · rename_i kk k
    obtain ⟨rfl, _⟩ := hi.rep
    split at hr
    · rename_i z n l
      split at hr
      · rename_i hc
        obtain ⟨hz, hk0, hkn⟩ := hc
        cases hr
        obtain ⟨e, hu, hsz⟩ := bind_szP hz
        obtain ⟨ad, cap, rfl, h1, h2, h3, h4, h5, h6⟩ := hv.rep
        obtain ⟨b, o, cs, rfl, h7, h8⟩ := h6 (by omega)
        refine ⟨.pointer (some ⟨b, o + k.toNat * z, none⟩), ?_, ⟨b, o + k.toNat * z, cs, rfl, h7, ?_, ((h8.drop _).take z)⟩, by simp [AV.refs]⟩
        · simp [Instr.indexAt, asIntOf, run_underlying hu, hk0, hkn, szP_spec hsz, Addr.add_lit]
        · exact refsL_nil_sub (fun a ha => List.mem_of_mem_drop (List.mem_of_mem_take ha)) h5
      · cases hr
    · rename_i id z off n
      split at hr
      · rename_i hc
        obtain ⟨hz, hk0, hkn⟩ := hc
        cases hr
        obtain ⟨e, hu, hsz⟩ := bind_szP hz
        obtain ⟨ad, cap, rfl, h1, h2, h3⟩ := hv.rep
        obtain ⟨b, sz, h4, rfl, h5⟩ := h3 (by omega)
        refine ⟨.pointer (some ⟨b, off + k.toNat * z, none⟩), ?_, ⟨b, sz, h4, rfl⟩, fun j hj => hv.ref j (by simpa [AV.refs] using hj)⟩
        simp [Instr.indexAt, asIntOf, run_underlying hu, hk0, hkn, szP_spec hsz, Addr.add_lit]
      · cases hr
    · rename_i l
      split at hr
      · rename_i n e ha
        split at hr
        · rename_i z hz
          split at hr
          · rename_i hc
            cases hr
            obtain ⟨b, o, cs, rfl, h1, h2, h3⟩ := hv.rep
            have hu := arrP_spec ha
            refine ⟨.pointer (some ⟨b, o + k.toNat * z, none⟩), ?_, ⟨b, o + k.toNat * z, cs, rfl, h1, ?_, ((h3.drop _).take z)⟩, by simp [AV.refs]⟩
            · simp [Instr.indexAt, asIntOf, run_underlying hu, Instr.sureAddr, hc.1, hc.2, szP_spec hz, Addr.add_lit]
            · exact refsL_nil_sub (fun a ha => List.mem_of_mem_drop (List.mem_of_mem_take ha)) h2
          · cases hr
        · cases hr
      · cases hr
    · rename_i id off
      split at hr
      · rename_i n e ha
        split at hr
        · rename_i z hz
          split at hr
          · rename_i hc
            cases hr
            obtain ⟨b, sz, h1, rfl⟩ := hv.rep
            have hu := arrP_spec ha
            refine ⟨.pointer (some ⟨b, off + k.toNat * z, none⟩), ?_, ⟨b, sz, h1, rfl⟩, fun j hj => hv.ref j (by simpa [AV.refs] using hj)⟩
            simp [Instr.indexAt, asIntOf, run_underlying hu, Instr.sureAddr, hc.1, hc.2, szP_spec hz, Addr.add_lit]
          · cases hr
        · cases hr
      · cases hr
    · cases hr
  · cases hr

/-- An element of an array, a byte of a string. -/
def evIndex (P : Program) (t : TypeId) (v i : AV) : Option AV :=
  match v, i with
  | .v (.string b), .v (.int _ k) => if strP P t = true then (if 0 ≤ k ∧ k < b.size then some (.v (.int .u8 (b.data.toList.getD k.toNat 0).toNat)) else none) else none
  | .agg l, .v (.int _ k) => match arrP P t with
    | some (n, e) => match szP P e with
      | some z => if 0 ≤ k ∧ k < n then partAV P e (l.drop (k.toNat * z)) else none
      | none => none
    | none => none
  | _, _ => none

theorem index_ok {v i r : AV} {x y : Value} (hv : Ok M β s v x) (hi : Ok M β s i y) {t : TypeId} (hr : evIndex P t v i = some r) :
    ∃ u, (Instr.index t x y).run P w = .ok u w ∧ Ok M β s r u := by
  unfold evIndex at hr
  split at hr
  · rename_i b kk k
    obtain ⟨rfl, _⟩ := hv.rep
    obtain ⟨rfl, _⟩ := hi.rep
    split at hr
    · rename_i hs
      split at hr
      · rename_i hc
        cases hr
        have hlt : k.toNat < b.data.size := by have := hc.2; show k.toNat < b.size; omega
        have hg : b[k.toNat]? = some b.data[k.toNat] := by
          rw [getElem?_pos b k.toNat hlt]; rfl
        refine ⟨.int .u8 b.data[k.toNat].toNat, ?_, ⟨?_, rfl⟩, by simp [AV.refs]⟩
        · simp [Instr.index, asIntOf, run_underlying (strP_spec hs), hc.1, hg]
        · simp [List.getD, Array.getElem?_eq_getElem hlt]
      · cases hr
    · cases hr
  · rename_i l kk k
    obtain ⟨rfl, _⟩ := hi.rep
    split at hr
    · rename_i n e ha
      split at hr
      · rename_i z hz
        split at hr
        · rename_i hc
          obtain ⟨vs, rfl, h1, h2⟩ := hv.rep
          obtain ⟨u, hu, hok⟩ := part_ok (P := P) (w := w) h1 h2 (fun j hj => hv.ref j (by simpa [AV.refs] using hj)) hr
          refine ⟨u, ?_, hok⟩
          simp [Instr.index, asIntOf, run_underlying (arrP_spec ha), hc.1, hc.2, szP_spec hz, hu]
        · cases hr
      · cases hr
    · cases hr
  · cases hr

end
end Go.Fw

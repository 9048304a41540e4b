/- What an operand is; the quiet operations: what each comes to, and that the model comes to the same. -/
import Derived.Test.YtjgbikhnnkigpaaFwC
import Derived.Laws.Bits
import Derived.Laws.Strings
import Derived.Laws.BytesString
import Derived.Laws.StructEq
set_option linter.unusedSimpArgs false
set_option linter.unusedVariables false
namespace Go.Fw
open Go Go.RowKit

/-- Is it the value of one cell? -/
def AV.isCell : AV → Bool
  | .agg _ | .tup _ | .own _ _ _ _ | .junk => false
  | _ => true

/-- The cells of a value that may be stored. -/
def AV.cells? : AV → Option (List AV)
  | .agg l => some l
  | a => if a.isCell then some [a] else none

/-- A constant. -/
def ofVal : Value → AV
  | .agg cs => if cs.toList.all (·.oneCell') then .agg (cs.toList.map .v) else .junk
  | .tuple cs => if cs.size = 0 then .tup [] else .junk
  | x => .v x

/-- A value in a slot, in the light of what its box has become. -/
def resB (box : Nat → Option Box) : AV → AV
  | .bs id z off n => match box id with
    | some (.frz l) => if off + n * z ≤ l.length then .slc false z n ((l.drop off).take (n * z)) else .junk
    | _ => .bs id z off n
  | .bp id off => match box id with
    | some (.frz l) => .ip (l.drop off)
    | _ => .bp id off
  | a => a

def AS.val (s : AS) : Operand → AV
  | .tmp t => resB s.box (s.env t)
  | .const c => ofVal c
  | .func f => .fn f []
  | .global _ => .junk

section
variable {C : Ctx} {M : Mem} {β : Loc} {s : AS} {w : World} {nt : Nat} {a : Act}

/-- A value with its boxes known. -/
structure Ok (M : Mem) (β : Loc) (s : AS) (v : AV) (x : Value) : Prop where
  rep : Rep M β v x
  ref : ∀ id ∈ v.refs, s.used id

theorem refsL_map_v (l : List Value) : refsL (l.map .v) = [] := by
  induction l with
  | nil => rfl
  | cons a l ih => simp [refsL, AV.refs, ih]

theorem mem_refsL {l : List AV} {j : Nat} : j ∈ refsL l ↔ ∃ a ∈ l, j ∈ a.refs := by
  induction l with
  | nil => simp [refsL]
  | cons a l ih => simp [refsL, ih]

theorem refsL_sub {l l' : List AV} (h : ∀ a ∈ l', a ∈ l) {j : Nat} (hj : j ∈ refsL l') : j ∈ refsL l := by
  rw [mem_refsL] at *
  obtain ⟨a, ha, hj⟩ := hj
  exact ⟨a, h a ha, hj⟩

theorem refsL_nil_sub {l l' : List AV} (h : ∀ a ∈ l', a ∈ l) (hl : refsL l = []) : refsL l' = [] := by
  rw [List.eq_nil_iff_forall_not_mem]
  intro j hj
  have := refsL_sub h hj
  rw [hl] at this
  cases this

theorem oneCell_of_cell {M : Mem} {β : Loc} {v : AV} {x : Value} (hc : v.isCell = true) (h : Rep M β v x) : x.oneCell' = true := by
  cases v <;> simp only [AV.isCell] at hc <;> simp only [Rep] at h
  case v y => obtain ⟨rfl, h⟩ := h; exact h
  case slc => obtain ⟨_, _, rfl, _⟩ := h; rfl
  case ip => obtain ⟨_, _, _, rfl, _⟩ := h; rfl
  case bp => obtain ⟨_, _, _, rfl⟩ := h; rfl
  case bs => obtain ⟨_, _, rfl, _⟩ := h; rfl
  case fn => obtain ⟨_, rfl, _⟩ := h; rfl
  case unk => obtain ⟨_, rfl⟩ := h; rfl
  all_goals cases hc

theorem cells_one {x : Value} (h : x.oneCell' = true) : x.cells = #[x] := by
  cases x <;> first | rfl | (simp [Value.oneCell'] at h)

theorem repAt_v (l : List Value) (h : l.all (·.oneCell') = true) : RepAt M β (l.map .v) l.toArray 0 := by
  rw [RepAt.iff]
  intro i a ha
  rw [List.getElem?_map] at ha
  cases hl : l[i]? with
  | none => rw [hl] at ha; cases ha
  | some y =>
    rw [hl] at ha
    simp at ha
    subst ha
    have h1 : y.oneCell' = true := List.all_eq_true.1 h y (List.mem_of_getElem? hl)
    exact ⟨y, by simpa using hl, h1, rfl, h1⟩

theorem ofVal_ok (c : Value) : Ok M β s (ofVal c) c := by
  cases c <;> simp only [ofVal]
  case agg cs =>
    split
    · rename_i h
      refine ⟨⟨cs, rfl, by simp, ?_⟩, by simp [AV.refs, refsL_map_v]⟩
      have := repAt_v (M := M) (β := β) cs.toList h
      simpa using this
    · exact ⟨trivial, by simp [AV.refs]⟩
  case tuple cs =>
    split
    · rename_i h; exact ⟨⟨cs, rfl, by simpa using h, trivial⟩, by simp [AV.refs, refsL]⟩
    · exact ⟨trivial, by simp [AV.refs]⟩
  all_goals exact ⟨⟨rfl, rfl⟩, by simp [AV.refs]⟩

theorem resB_ok (h : Rel C M β s w) {v : AV} {x : Value} (hv : Ok M β s v x) : Ok M β s (resB s.box v) x := by
  cases v <;> simp only [resB] <;> try exact hv
  case bs id z off n =>
    split
    · rename_i l hb
      split
      · rename_i hle
        obtain ⟨a, cap, rfl, h1, h2, h3⟩ := hv.rep
        have hf := h.frzb id l hb
        refine ⟨⟨a, cap, rfl, by simp; omega, h1, h2, by simp, ?_, fun hn => ?_⟩, by simp [AV.refs]⟩
        · rcases hf with ⟨_, rfl⟩ | ⟨b, cs, _, _, h5, _⟩
          · simp [refsL]
          · have hr : refsL l = [] := by
              have := h.frzr id l hb
              exact this
            exact refsL_nil_sub (fun a ha => List.mem_of_mem_drop (List.mem_of_mem_take ha)) hr
        · obtain ⟨b, sz, k1, k2, _⟩ := h3 (by omega)
          rcases hf with ⟨hn', _⟩ | ⟨b', cs, k3, k4, k5, _⟩
          · rw [hn'] at k1; cases k1
          · rw [k3] at k1; cases k1
            exact ⟨b, off, cs, k2, k4, by have := (k5.drop off).take (n * z); simpa using this⟩
      · exact ⟨trivial, by simp [AV.refs]⟩
    · exact hv
  case bp id off =>
    split
    · rename_i l hb
      obtain ⟨b, sz, k1, rfl⟩ := hv.rep
      rcases h.frzb id l hb with ⟨hn', _⟩ | ⟨b', cs, k3, k4, k5, _⟩
      · rw [hn'] at k1; cases k1
      · rw [k3] at k1; cases k1
        exact ⟨⟨b, off, cs, rfl, k4, refsL_nil_sub (fun a ha => List.mem_of_mem_drop ha) (h.frzr id l hb), by have := k5.drop off; simpa using this⟩, by simp [AV.refs]⟩
    · exact hv

theorem val_ok (h : Rel C M β s w) (hs : Slots nt M β s a) (o : Operand) : Ok M β s (s.val o) (a.eval o) := by
  cases o with
  | tmp t => exact resB_ok h ⟨hs.slot t, hs.refE t⟩
  | const c => exact ofVal_ok c
  | func f => exact ⟨⟨#[], rfl, rfl, trivial⟩, by simp [AS.val, AV.refs, refsL]⟩
  | global g => exact ⟨trivial, by simp [AS.val, AV.refs]⟩
end

end Go.Fw

/- The words of the abstract walk: abstract values, how a concrete value stands for one, and how that carries over. -/
import Derived.Orders
import Derived.Below
set_option linter.unusedSimpArgs false
set_option linter.unusedVariables false
namespace Go.Fw
open Go

/-- An abstract value: a plain value; an immutable slice (its cells told); a pointer to immutable cells; a pointer into a box; a slice of a box; a function with what it captured; a struct; several results; a slice that is handed over with its memory; unknown. -/
inductive AV where
  | v (x : Value)
  | slc (full : Bool) (z n : Nat) (l : List AV)
  | ip (l : List AV)
  | bp (id off : Nat)
  | bs (id z off n : Nat)
  | fn (f : FuncId) (caps : List AV)
  | agg (l : List AV)
  | tup (l : List AV)
  | own (e : TypeId) (z n : Nat) (l : List AV)
  | junk
  /-- A bool that is not known. -/
  | unk
  deriving Inhabited

mutual
/-- The boxes that an abstract value names. -/
def AV.refs : AV → List Nat
  | .bp id _ => [id]
  | .bs id _ _ _ => [id]
  | .fn _ l => refsL l
  | .agg l => refsL l
  | .tup l => refsL l
  | _ => []
def refsL : List AV → List Nat
  | [] => []
  | a :: l => a.refs ++ refsL l
end

abbrev Mem := Nat → Option (Array Value)
abbrev Loc := Nat → Option (Nat × Nat)
def noLoc : Loc := fun _ => none

mutual
/-- The value stands for the abstract one, by immutable blocks M and boxes' places β. -/
def Rep (M : Mem) (β : Loc) : AV → Value → Prop
  | .v y, x => x = y ∧ y.oneCell' = true
  | .slc f z n l, x => ∃ a cap, x = .slice a n cap ∧ l.length = n * z ∧ n ≤ cap ∧ cap ≤ maxLen ∧ (f = true → cap = n) ∧ refsL l = [] ∧
      (0 < n → ∃ b o cs, a = some ⟨b, o, none⟩ ∧ M b = some cs ∧ RepAt M noLoc l cs o)
  | .ip l, x => ∃ b o cs, x = .pointer (some ⟨b, o, none⟩) ∧ M b = some cs ∧ refsL l = [] ∧ RepAt M noLoc l cs o
  | .bp id off, x => ∃ b s, β id = some (b, s) ∧ x = .pointer (some ⟨b, off, none⟩)
  | .bs id z off n, x => ∃ a cap, x = .slice a n cap ∧ n ≤ cap ∧ cap ≤ maxLen ∧
      (0 < cap → ∃ b s, β id = some (b, s) ∧ a = some ⟨b, off, none⟩ ∧ off + cap * z = s)
  | .fn f caps, x => ∃ vs : Array Value, x = .func (.func f) #[] vs ∧ vs.size = caps.length ∧ RepAt M β caps vs 0
  | .agg l, x => ∃ vs : Array Value, x = .agg vs ∧ vs.size = l.length ∧ RepAt M β l vs 0
  | .tup l, x => ∃ vs : Array Value, x = .tuple vs ∧ vs.size = l.length ∧ RepT M β l vs 0
  | .own _ _ _ _, _ => False
  | .junk, _ => True
  | .unk, x => ∃ b : Bool, x = .bool b
/-- The cells from o on stand for the list. -/
def RepAt (M : Mem) (β : Loc) : List AV → Array Value → Nat → Prop
  | [], _, _ => True
  | a :: l, cs, o => (∃ y, cs[o]? = some y ∧ y.oneCell' = true ∧ Rep M β a y) ∧ RepAt M β l cs (o + 1)
/-- The parts from o on stand for the list (structs among them). -/
def RepT (M : Mem) (β : Loc) : List AV → Array Value → Nat → Prop
  | [], _, _ => True
  | a :: l, cs, o => (∃ y, cs[o]? = some y ∧ Rep M β a y) ∧ RepT M β l cs (o + 1)
end

def MemLe (M M' : Mem) : Prop := ∀ b cs, M b = some cs → M' b = some cs

theorem MemLe.refl (M : Mem) : MemLe M M := fun _ _ h => h
theorem MemLe.trans {M M' M'' : Mem} (h : MemLe M M') (k : MemLe M' M'') : MemLe M M'' := fun b cs e => k b cs (h b cs e)

mutual
theorem Rep.mono {M M' : Mem} {β β' : Loc} (hM : MemLe M M') : ∀ (a : AV) (x : Value), (∀ id ∈ a.refs, β' id = β id) → Rep M β a x → Rep M' β' a x
  | .v _, _, _, h => h
  | .slc _ _ _ l, _, _, ⟨a, cap, h1, h2, h3, h4, h5, hr0, h6⟩ => ⟨a, cap, h1, h2, h3, h4, h5, hr0, fun hn => by
      obtain ⟨b, o, cs, ha, hb, hc⟩ := h6 hn
      exact ⟨b, o, cs, ha, hM b cs hb, RepAt.mono hM l cs o (fun _ _ => rfl) hc⟩⟩
  | .ip l, _, _, ⟨b, o, cs, h1, h2, hr0, h3⟩ => ⟨b, o, cs, h1, hM b cs h2, hr0, RepAt.mono hM l cs o (fun _ _ => rfl) h3⟩
  | .bp id off, _, hr, ⟨b, s, h1, h2⟩ => ⟨b, s, (hr id (by simp [AV.refs])).trans h1, h2⟩
  | .bs id _ _ _, _, hr, ⟨a, cap, h1, h2, h3, h4⟩ => ⟨a, cap, h1, h2, h3, fun hc => by
      obtain ⟨b, s, k1, k2, k3⟩ := h4 hc
      exact ⟨b, s, (hr id (by simp [AV.refs])).trans k1, k2, k3⟩⟩
  | .fn _ l, _, hr, ⟨vs, h1, h2, h3⟩ => ⟨vs, h1, h2, RepAt.mono hM l vs 0 (by simpa [AV.refs] using hr) h3⟩
  | .agg l, _, hr, ⟨vs, h1, h2, h3⟩ => ⟨vs, h1, h2, RepAt.mono hM l vs 0 (by simpa [AV.refs] using hr) h3⟩
  | .tup l, _, hr, ⟨vs, h1, h2, h3⟩ => ⟨vs, h1, h2, RepT.mono hM l vs 0 (by simpa [AV.refs] using hr) h3⟩
  | .own _ _ _ _, _, _, h => h.elim
  | .junk, _, _, _ => trivial
  | .unk, _, _, h => h
theorem RepAt.mono {M M' : Mem} {β β' : Loc} (hM : MemLe M M') : ∀ (l : List AV) (cs : Array Value) (o : Nat), (∀ id ∈ refsL l, β' id = β id) → RepAt M β l cs o → RepAt M' β' l cs o
  | [], _, _, _, _ => trivial
  | a :: l, cs, o, hr, ⟨⟨y, h1, h2, h3⟩, h4⟩ =>
    ⟨⟨y, h1, h2, Rep.mono hM a y (fun id hi => hr id (by simp [refsL, hi])) h3⟩, RepAt.mono hM l cs (o + 1) (fun id hi => hr id (by simp [refsL, hi])) h4⟩
theorem RepT.mono {M M' : Mem} {β β' : Loc} (hM : MemLe M M') : ∀ (l : List AV) (cs : Array Value) (o : Nat), (∀ id ∈ refsL l, β' id = β id) → RepT M β l cs o → RepT M' β' l cs o
  | [], _, _, _, _ => trivial
  | a :: l, cs, o, hr, ⟨⟨y, h1, h3⟩, h4⟩ =>
    ⟨⟨y, h1, Rep.mono hM a y (fun id hi => hr id (by simp [refsL, hi])) h3⟩, RepT.mono hM l cs (o + 1) (fun id hi => hr id (by simp [refsL, hi])) h4⟩
end

end Go.Fw

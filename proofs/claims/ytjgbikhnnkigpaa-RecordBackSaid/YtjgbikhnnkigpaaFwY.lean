/- The entry: from what the row reads to abstract values. -/
import Derived.Test.YtjgbikhnnkigpaaFwX
import Derived.WalkKit
import Derived.ProofKit
import Derived.OpenShut
import Derived.ShutString
import Derived.ChangeOld
set_option linter.unusedSimpArgs false
set_option linter.unusedVariables false
namespace Go.Fw
open Go Go.RowKit

/-- All memory, as it stands. -/
def allMem (w : World) : Mem := fun b => match w.heap[b]? with
  | some (.cells cs _ _) => some cs
  | _ => none

theorem allMem_ok (w : World) : MemOk (allMem w) w := by
  intro b cs h
  unfold allMem at h
  split at h
  · rename_i cs' ty fz he
    cases h
    exact ⟨ty, fz, he⟩
  · cases h

/-- What the walk is told of a slice of integers that came in. -/
def IsRow (k : IntKind) (w : World) (a : Option Addr) (len cap : Nat) (zs : List Int) : Prop :=
  (a = none ∧ len = 0 ∧ cap = 0 ∧ zs = []) ∨
  ∃ x, a = some x ∧ len ≤ cap ∧ cap ≤ maxLen ∧ zs.length = cap ∧ (∀ i, i < zs.length → w.cell? (x.add i) = some (.int k (zs.getD i 0))) ∧ ∀ n ∈ zs, (Lit.int k n).wf = true

theorem refsL_ints (k : IntKind) (l : List Int) : refsL (l.map fun n => AV.v (.int k n)) = [] := by
  induction l with
  | nil => rfl
  | cons a l ih => simpa [refsL, AV.refs] using ih

theorem cell_block {w : World} {x : Addr} {i : Nat} {v : Value} (h : w.cell? (x.add i) = some v) : ∃ cs, allMem w x.block = some cs ∧ cs[x.off + i]? = some v := by
  have e1 : (x.add i).block = x.block := by unfold Addr.add; split <;> rfl
  have e2 : (x.add i).off = x.off + i := by
    unfold Addr.add
    split
    · rename_i hi; simp [hi]
    · rfl
  unfold World.cell? at h
  rw [e1, e2] at h
  unfold allMem
  cases hb : w.heap[x.block]? with
  | none => rw [hb] at h; cases h
  | some o =>
    rw [hb] at h
    cases o with
    | cells cs ty fz =>
      simp only at h
      split at h
      · cases h
      · exact ⟨cs, rfl, h⟩
    | _ => cases h

theorem cell_spot0 {w : World} {x : Addr} {v : Value} (h : w.cell? (x.add 0) = some v) : x.spot = none := by
  have := World.cell?_spot h
  simpa [Addr.add] using this

theorem IsRow.rep {k : IntKind} {w : World} {a : Option Addr} {len cap : Nat} {zs : List Int} (h : IsRow k w a len cap zs) :
    (zs.take len).length = len ∧ Rep (allMem w) noLoc (.slc false 1 len ((zs.take len).map fun n => .v (.int k n))) (.slice a len cap) := by
  rcases h with ⟨rfl, rfl, rfl, rfl⟩ | ⟨x, rfl, h1, h2, h3, h4, h5⟩
  · exact ⟨rfl, none, 0, rfl, rfl, Nat.le_refl _, by simp [maxLen], (fun h => by cases h), rfl, fun h => by omega⟩
  · have hl : (zs.take len).length = len := by rw [List.length_take]; omega
    refine ⟨hl, some x, cap, rfl, by rw [List.length_map, hl, Nat.mul_one], h1, h2, (fun h => by cases h), refsL_ints k _, fun hn => ?_⟩
    have hs := cell_spot0 (h4 0 (by omega))
    obtain ⟨cs, hm, _⟩ := cell_block (h4 0 (by omega))
    obtain ⟨b, o, sp⟩ := x
    simp only at hs hm
    subst hs
    refine ⟨b, o, cs, rfl, hm, (RepAt.iff _ _ _).2 fun i v hv => ?_⟩
    rw [List.getElem?_map] at hv
    cases hz : (zs.take len)[i]? with
    | none => rw [hz] at hv; cases hv
    | some n =>
      rw [hz] at hv
      cases hv
      have hi : i < len := by rw [← hl]; exact (List.getElem?_eq_some_iff.1 hz).1
      obtain ⟨cs', hm', hc⟩ := cell_block (h4 i (by omega))
      simp only at hm' hc
      rw [hm] at hm'
      cases hm'
      refine ⟨_, hc, rfl, ?_, rfl⟩
      rw [List.getElem?_take] at hz
      rw [if_pos hi] at hz
      simp [hz]

theorem bytes_of {l : List Int} (h : ∀ n ∈ l, (Lit.int .u8 n).wf = true) : ∃ bs : List UInt8, (l.map fun n => AV.v (.int .u8 n)) = bs.map byteV := by
  induction l with
  | nil => exact ⟨[], rfl⟩
  | cons a l ih =>
    obtain ⟨bs, hb⟩ := ih fun n hn => h n (by simp [hn])
    have ha := h a (by simp)
    have hr : 0 ≤ a ∧ a < 256 := by
      simp [Lit.wf, IntKind.min, IntKind.max, IntKind.signed, IntKind.bits] at ha
      omega
    refine ⟨UInt8.ofNat a.toNat :: bs, ?_⟩
    simp only [List.map_cons, hb]
    congr 1
    simp only [byteV, UInt8.toNat_ofNat']
    congr 2
    omega

theorem IsRow.bytes {w : World} {a : Option Addr} {len cap : Nat} {zs : List Int} (h : IsRow .u8 w a len cap zs) :
    ∃ bs : List UInt8, bs.length = len ∧ Rep (allMem w) noLoc (.slc false 1 len (bs.map byteV)) (.slice a len cap) := by
  obtain ⟨h1, h2⟩ := h.rep
  obtain ⟨bs, hb⟩ := bytes_of (l := zs.take len) (fun n hn => by
    rcases h with ⟨_, _, _, rfl⟩ | ⟨_, _, _, _, _, _, h5⟩
    · simp at hn
    · exact h5 n (List.mem_of_mem_take hn))
  refine ⟨bs, ?_, by rw [← hb]; exact h2⟩
  have := congrArg List.length hb
  simp only [List.length_map] at this
  omega

/-- A law that comes to true returns true and turns nothing that was there. -/
theorem law_calls {P : Program} {f : FuncId} {args : List AV} (hent : Enters P f) (h : Eval P f args (.ret (.v (.bool true)))) (w : World) (vs : Array Value) (hl : vs.size = args.length) (hr : RepT (allMem w) noLoc args vs 0) :
    Calls P f vs w fun e w' => e = .returned (.bool true) ∧ Below w.heap.size w w' := by
  have key : ∀ e w', (∃ M', MemLe (allMem w) M' ∧ MemOk M' w' ∧ (∀ b, b < w.heap.size → M' b = allMem w b) ∧ Below w.heap.size w w' ∧ EndO M' w' w.heap.size (.ret (.v (.bool true))) e) → e = .returned (.bool true) ∧ Below w.heap.size w w' := by
    rintro e w' ⟨M', _, _, _, hb, he⟩
    cases e with
    | returned x =>
      obtain ⟨bl, h1, _⟩ := he
      exact ⟨by rw [h1.1.1], hb⟩
    | panicked l => exact he.elim
    | outgrown => exact he.elim
  rcases h (allMem w) w vs (allMem_ok w) hl hr with ⟨_, h⟩ | ⟨x, h, _⟩
  · exact Calls.mono h key
  · rw [hent vs w] at h
    cases h

#print axioms law_calls
end Go.Fw

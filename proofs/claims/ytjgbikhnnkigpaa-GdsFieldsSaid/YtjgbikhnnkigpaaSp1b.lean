import Derived.Test.YtjgbikhnnkigpaaT3
import Derived.Test.YtjgbikhnnkigpaaNbb
set_option linter.unusedSimpArgs false
set_option linter.unusedVariables false
namespace Go.Fw
open Go Go.Proofs Go.IntWalk
set_option linter.unusedSimpArgs false
set_option maxRecDepth 100000
def fullM (w : World) : Mem := fun b => match w.heap[b]? with
  | some (.cells cs _ _) => some cs
  | _ => none
theorem fullM_ok (w : World) : MemOk (fullM w) w := by
  intro b cs h
  unfold fullM at h
  split at h
  · rename_i cs' ty fz hb
    cases h
    exact ⟨ty, fz, hb⟩
  · cases h
section
variable {P : Program} {C : Ctx} {M : Mem} {β : Loc} {s : AS} {w : World} {nt : Nat} {a : Act} {Q : Exit → AS → Prop}
theorem fullM_le (h : Rel C M β s w) : MemLe M (fullM w) := by
  intro b cs hb
  obtain ⟨ty, fz, hh⟩ := h.mem b cs hb
  simp [fullM, hh]
theorem rep_full (h : Rel C M β s w) {v : AV} {x : Value} (hv : Rep M β v x) (hr : v.refs = []) : Rep (fullM w) noLoc v x :=
  Rep.mono (fullM_le h) v x (fun id hid => by rw [hr] at hid; cases hid) hv
theorem repAt_full (h : Rel C M β s w) {l : List AV} {cs : Array Value} {o : Nat} (hv : RepAt M β l cs o) (hr : refsL l = []) : RepAt (fullM w) noLoc l cs o :=
  RepAt.mono (fullM_le h) l cs o (fun id hid => by rw [hr] at hid; cases hid) hv
def Lend (s : AS) (args args' : List AV) : Prop :=
  args.length = args'.length ∧ ∀ (C : Ctx) (M : Mem) (β : Loc) (w : World) (vs : Array Value), Rel C M β s w → vs.size = args.length → RepT M β args vs 0 → RepT (fullM w) noLoc args' vs 0
theorem CallG_lend {f : FuncId} {caps args args' : List AV} {x : Value} {K : Out → AS → Prop} (hl : Lend s (args ++ caps) args') (h : Eval P f args' (.ret (.v x))) (hk : K (.ret (.v x)) s) :
    CallG P (.fn f caps) args s K := by
  intro C nt M β a w vs hR hS hvs hrep
  obtain ⟨hlen, hl⟩ := hl
  refine (h (fullM w) w vs (fullM_ok w) (by rw [hvs, hlen]) (hl C M β w vs hR hvs hrep)).mono ?_
  rintro e w' ⟨M', _, _, _, hbel, hend⟩
  cases e with
  | panicked l => exact hend.elim
  | returned y =>
    obtain ⟨bl, ⟨⟨hy, hone⟩, _, _⟩, _, _⟩ := hend
    have hmem : MemOk M w' := by
      intro b cs hb
      obtain ⟨ty, fz, hh⟩ := hR.mem b cs hb
      refine ⟨ty, fz, ?_⟩
      rw [hbel.block b (heap_lt hh)]
      exact hh
    refine ⟨.ret (.v x), s, M, β, hk, hR.call (MemLe.refl M) hmem (fun _ _ => rfl) hbel, hS, ?_⟩
    exact ⟨⟨hy, hone⟩, by simp [AV.refs]⟩
  | _ => exact hend.elim
theorem slc_full (h : Rel C M β s w) {id z off n : Nat} {e : TypeId} {l l' : List AV} {x : Value} (hb : s.box id = some (.mut e l)) (hx : Rep M β (.bs id z off n) x) (hlen : l'.length = n * z) (hr : refsL l' = [])
    (hl : ∀ cs, RepAt M β l cs 0 → RepAt (fullM w) noLoc l' cs off) : Rep (fullM w) noLoc (.slc false z n l') x := by
  obtain ⟨ad, cap, rfl, h1, h2, h3⟩ := hx
  refine ⟨ad, cap, rfl, hlen, h1, h2, (fun hf => by cases hf), hr, fun hn => ?_⟩
  obtain ⟨b, sz, k1, rfl, _⟩ := h3 (by omega)
  rcases h.mutb id e l hb with ⟨q, _⟩ | ⟨b', cs, q1, ⟨fz, q2, _⟩, q3, _⟩
  · rw [q] at k1; cases k1
  · rw [q1] at k1; cases k1
    exact ⟨_, off, cs, rfl, by simp [fullM, q2], hl cs q3⟩
end
def bodB : Nat → List Rec → List (Nat × Box)
  | _, [] => []
  | k, r :: l => (k, .mut 5 (r.2.2.map byteV)) :: bodB (k + 1) l
def rowB : Nat → List Rec → List AV
  | _, [] => []
  | k, r :: l => byteV r.1 :: byteV r.2.1 :: .bs k 1 0 r.2.2.length :: rowB (k + 1) l
end Go.Fw
namespace Go.Fw
open Go Go.Proofs Go.IntWalk
set_option linter.unusedSimpArgs false
set_option maxRecDepth 100000
def splitQ (bs : List UInt8) (out : Out) (s' : AS) : Prop := match splitSpec bs with
  | .error e => out = .ret (.tup [.v (.slice none 0 0), i64V 0, i64V e])
  | .ok (l, n) => out = .ret (.tup [.bs 500 3 0 l.length, i64V n, i64V 0]) ∧ s'.box 500 = some (.mut 24 (rowB 2000 l)) ∧ ∀ i r, l[i]? = some r → s'.box (2000 + i) = some (.mut 5 (r.2.2.map byteV))
end Go.Fw

import Derived.Test.YtjgbikhnnkigpaaT3
import Derived.Test.YtjgbikhnnkigpaaNbb
set_option linter.unusedSimpArgs false
set_option linter.unusedVariables false
namespace Go.Fw
open Go Go.Proofs Go.IntWalk
set_option linter.unusedSimpArgs false
set_option maxRecDepth 100000
def fullM (w : World) : Mem := fun b => match w.heap[b]? with
  | some (.cells cs _ _) => some cs
  | _ => none
section
variable {P : Program} {C : Ctx} {M : Mem} {β : Loc} {s : AS} {w : World} {nt : Nat} {a : Act} {Q : Exit → AS → Prop}
def Lend (s : AS) (args args' : List AV) : Prop :=
  args.length = args'.length ∧ ∀ (C : Ctx) (M : Mem) (β : Loc) (w : World) (vs : Array Value), Rel C M β s w → vs.size = args.length → RepT M β args vs 0 → RepT (fullM w) noLoc args' vs 0
end
def bodB : Nat → List Rec → List (Nat × Box)
  | _, [] => []
  | k, r :: l => (k, .mut 5 (r.2.2.map byteV)) :: bodB (k + 1) l
def rowB : Nat → List Rec → List AV
  | _, [] => []
  | k, r :: l => byteV r.1 :: byteV r.2.1 :: .bs k 1 0 r.2.2.length :: rowB (k + 1) l
end Go.Fw
namespace Go.Fw
open Go Go.Proofs Go.IntWalk
set_option linter.unusedSimpArgs false
set_option maxRecDepth 100000
def splitQ (bs : List UInt8) (out : Out) (s' : AS) : Prop := match splitSpec bs with
  | .error e => out = .ret (.tup [.v (.slice none 0 0), i64V 0, i64V e])
  | .ok (l, n) => out = .ret (.tup [.bs 500 3 0 l.length, i64V n, i64V 0]) ∧ s'.box 500 = some (.mut 24 (rowB 2000 l)) ∧ ∀ i r, l[i]? = some r → s'.box (2000 + i) = some (.mut 5 (r.2.2.map byteV))
end Go.Fw

/-
  No cell of these rows narrows 'for every input' (looked for: loops, veiled, ifaces, maps, wideKeys, modest, calm, conditions, laid).
  DERIVED. THE GIVEN ROWS OF THIS SEAT. 7 by the template 'for every input the law returns true; each argument reads behind the call as it read before'; 0 by the template 'total and deterministic' (their statements: YtmmkclefdpmjlaaTotals.lean).
  GIVEN WITH THE SEED: the statements are not yours to turn. If you find one false, say at which input.
  Laid BY PROGRAM, IN A SANDBOX (cutbox-rows.mjs): the forced cells as the released guide's own fill.sh prints them over the translation 4d12ff5c6fb6727e… (all of the seat's roots in one cut). By AI agents, Wed Nov 11 2026. No macro, syntax, notation, axiom, sorry.
-/
import Derived.Test.YtmmkclefdpmjlaaChecked
import GoSem.Claim
import GoSem.ClaimJoined
import GoSem.ClaimMapViews
import Derived.JoinedTies
import Derived.KernelRfl
namespace Go.Proofs.Ytmmkclefdpmjlaa
/- THE CELL 'sum', in the pinned program and in every row, IS THE sha256 OF THE DUMP (.gsa) THAT YtmmkclefdpmjlaaProg.lean LOADS. Nothing in Lean hashes anything: it is a label: what it is worth is what the hold of that sum in a sandbox is worth. -/
noncomputable def Try.pinned : Pinned := { name := "ytmmkclefdpmjlaa", sum := "4d12ff5c6fb6727ee12b4b7af1c7cc3ad8bfbc167d18bd0283a06d9af5689684", checked := Try.checked }
namespace Rows
def none {H : Type} : Left H := { results := [], args := [] }

/-- 'pelliclelaw11.PlaneAreas': WHATEVER THE INPUT: true; the input reads as it did. -/
def planeAreasSpec : ChangeSpec := { name := "planeAreas", fn := fun _ => fun
  | [d] => { results := [.lit (.bool true)], args := [d] }
  | _ => none }
def planeAreasRow : OpenClaim := { program := "ytmmkclefdpmjlaa", sum := "4d12ff5c6fb6727ee12b4b7af1c7cc3ad8bfbc167d18bd0283a06d9af5689684", func := "pellicle/pelliclelaw11.PlaneAreas", spec := "planeAreas", unfollowed := true, recurses := true, apart := false }
def PlaneAreasSaid : Prop := planeAreasRow.holds Try.pinned (OpenSpec.ofChange planeAreasSpec)

/-- ITS FALSE NEIGHBOUR: 'it returns false'. Refute it at one input. -/
def planeAreasWrong : ChangeSpec := { name := "planeAreas", fn := fun _ => fun
  | [d] => { results := [.lit (.bool false)], args := [d] }
  | _ => none }
def PlaneAreasWrongFalsely : Prop := planeAreasRow.holds Try.pinned (OpenSpec.ofChange planeAreasWrong)

/-- 'pelliclelaw11.PlaneTurns': WHATEVER THE INPUT: true; the input reads as it did. -/
def planeTurnsSpec : ChangeSpec := { name := "planeTurns", fn := fun _ => fun
  | [d1, d2, d3, d4, d5] => { results := [.lit (.bool true)], args := [d1, d2, d3, d4, d5] }
  | _ => none }
def planeTurnsRow : OpenClaim := { program := "ytmmkclefdpmjlaa", sum := "4d12ff5c6fb6727ee12b4b7af1c7cc3ad8bfbc167d18bd0283a06d9af5689684", func := "pellicle/pelliclelaw11.PlaneTurns", spec := "planeTurns", unfollowed := true, recurses := true, apart := false }
def PlaneTurnsSaid : Prop := planeTurnsRow.holds Try.pinned (OpenSpec.ofChange planeTurnsSpec)

/-- ITS FALSE NEIGHBOUR: 'it returns false'. Refute it at one input. -/
def planeTurnsWrong : ChangeSpec := { name := "planeTurns", fn := fun _ => fun
  | [d1, d2, d3, d4, d5] => { results := [.lit (.bool false)], args := [d1, d2, d3, d4, d5] }
  | _ => none }
def PlaneTurnsWrongFalsely : Prop := planeTurnsRow.holds Try.pinned (OpenSpec.ofChange planeTurnsWrong)

/-- 'pelliclelaw13.WindAround': WHATEVER THE INPUT: true; the input reads as it did. -/
def windAroundSpec : ChangeSpec := { name := "windAround", fn := fun _ => fun
  | [d1, d2] => { results := [.lit (.bool true)], args := [d1, d2] }
  | _ => none }
def windAroundRow : OpenClaim := { program := "ytmmkclefdpmjlaa", sum := "4d12ff5c6fb6727ee12b4b7af1c7cc3ad8bfbc167d18bd0283a06d9af5689684", func := "pellicle/pelliclelaw13.WindAround", spec := "windAround", unfollowed := true, recurses := true, apart := false }
def WindAroundSaid : Prop := windAroundRow.holds Try.pinned (OpenSpec.ofChange windAroundSpec)

/-- ITS FALSE NEIGHBOUR: 'it returns false'. Refute it at one input. -/
def windAroundWrong : ChangeSpec := { name := "windAround", fn := fun _ => fun
  | [d1, d2] => { results := [.lit (.bool false)], args := [d1, d2] }
  | _ => none }
def WindAroundWrongFalsely : Prop := windAroundRow.holds Try.pinned (OpenSpec.ofChange windAroundWrong)

/-- 'pelliclelaw13.WindBeside': WHATEVER THE INPUT: true; the input reads as it did. -/
def windBesideSpec : ChangeSpec := { name := "windBeside", fn := fun _ => fun
  | [d1, d2, d3] => { results := [.lit (.bool true)], args := [d1, d2, d3] }
  | _ => none }
def windBesideRow : OpenClaim := { program := "ytmmkclefdpmjlaa", sum := "4d12ff5c6fb6727ee12b4b7af1c7cc3ad8bfbc167d18bd0283a06d9af5689684", func := "pellicle/pelliclelaw13.WindBeside", spec := "windBeside", unfollowed := true, recurses := true, apart := false }
def WindBesideSaid : Prop := windBesideRow.holds Try.pinned (OpenSpec.ofChange windBesideSpec)

/-- ITS FALSE NEIGHBOUR: 'it returns false'. Refute it at one input. -/
def windBesideWrong : ChangeSpec := { name := "windBeside", fn := fun _ => fun
  | [d1, d2, d3] => { results := [.lit (.bool false)], args := [d1, d2, d3] }
  | _ => none }
def WindBesideWrongFalsely : Prop := windBesideRow.holds Try.pinned (OpenSpec.ofChange windBesideWrong)

/-- 'pelliclelaw13.WindSides': WHATEVER THE INPUT: true; the input reads as it did. -/
def windSidesSpec : ChangeSpec := { name := "windSides", fn := fun _ => fun
  | [d1, d2] => { results := [.lit (.bool true)], args := [d1, d2] }
  | _ => none }
def windSidesRow : OpenClaim := { program := "ytmmkclefdpmjlaa", sum := "4d12ff5c6fb6727ee12b4b7af1c7cc3ad8bfbc167d18bd0283a06d9af5689684", func := "pellicle/pelliclelaw13.WindSides", spec := "windSides", unfollowed := true, recurses := true, apart := false }
def WindSidesSaid : Prop := windSidesRow.holds Try.pinned (OpenSpec.ofChange windSidesSpec)

/-- ITS FALSE NEIGHBOUR: 'it returns false'. Refute it at one input. -/
def windSidesWrong : ChangeSpec := { name := "windSides", fn := fun _ => fun
  | [d1, d2] => { results := [.lit (.bool false)], args := [d1, d2] }
  | _ => none }
def WindSidesWrongFalsely : Prop := windSidesRow.holds Try.pinned (OpenSpec.ofChange windSidesWrong)

/-- 'pelliclelaw13.WindBack': WHATEVER THE INPUT: true; the input reads as it did. -/
def windBackSpec : ChangeSpec := { name := "windBack", fn := fun _ => fun
  | [d1, d2] => { results := [.lit (.bool true)], args := [d1, d2] }
  | _ => none }
def windBackRow : OpenClaim := { program := "ytmmkclefdpmjlaa", sum := "4d12ff5c6fb6727ee12b4b7af1c7cc3ad8bfbc167d18bd0283a06d9af5689684", func := "pellicle/pelliclelaw13.WindBack", spec := "windBack", unfollowed := true, recurses := true, apart := false }
def WindBackSaid : Prop := windBackRow.holds Try.pinned (OpenSpec.ofChange windBackSpec)

/-- ITS FALSE NEIGHBOUR: 'it returns false'. Refute it at one input. -/
def windBackWrong : ChangeSpec := { name := "windBack", fn := fun _ => fun
  | [d1, d2] => { results := [.lit (.bool false)], args := [d1, d2] }
  | _ => none }
def WindBackWrongFalsely : Prop := windBackRow.holds Try.pinned (OpenSpec.ofChange windBackWrong)

/-- 'pelliclelaw13.WindCuts': WHATEVER THE INPUT: true; the input reads as it did. -/
def windCutsSpec : ChangeSpec := { name := "windCuts", fn := fun _ => fun
  | [d1, d2, d3, d4] => { results := [.lit (.bool true)], args := [d1, d2, d3, d4] }
  | _ => none }
def windCutsRow : OpenClaim := { program := "ytmmkclefdpmjlaa", sum := "4d12ff5c6fb6727ee12b4b7af1c7cc3ad8bfbc167d18bd0283a06d9af5689684", func := "pellicle/pelliclelaw13.WindCuts", spec := "windCuts", unfollowed := true, recurses := true, apart := false }
def WindCutsSaid : Prop := windCutsRow.holds Try.pinned (OpenSpec.ofChange windCutsSpec)

/-- ITS FALSE NEIGHBOUR: 'it returns false'. Refute it at one input. -/
def windCutsWrong : ChangeSpec := { name := "windCuts", fn := fun _ => fun
  | [d1, d2, d3, d4] => { results := [.lit (.bool false)], args := [d1, d2, d3, d4] }
  | _ => none }
def WindCutsWrongFalsely : Prop := windCutsRow.holds Try.pinned (OpenSpec.ofChange windCutsWrong)

/- THE SECOND FORM. 'bulk': how many values and letters a reading holds, each counted each time it is reached (what is shared counts as often as it is met; a slice's spare places count too). A statement '..UptoSaid' is the law's where the arguments, and the package variables that the reading takes, are together of bulk at most 1048576: NARROWER than '..Said'. Prove '..Said' where nothing that the law and all that it calls make is longer than what came in: it says more and counts as full. Else prove '..UptoSaid'. A law counts once. -/
mutual
def uptoBulk {H : Type} : DataW H → Nat
  | .lit (.string bytes) => bytes.length + 1
  | .lit _ => 1
  | .nil => 1
  | .ptr d => uptoBulk d + 1
  | .slice elems spare => uptoBulkAll elems + uptoBulkAll spare + 1
  | .agg parts => uptoBulkAll parts + 1
  | .iface _ d => uptoBulk d + 1
  | .map entries => uptoBulkEntries entries + 1
  | .held _ => 1
def uptoBulkAll {H : Type} : List (DataW H) → Nat
  | [] => 0
  | d :: r => uptoBulk d + uptoBulkAll r
def uptoBulkEntries {H : Type} : List (Lit × DataW H) → Nat
  | [] => 0
  | x :: r => uptoBulkEntry x + uptoBulkEntries r
def uptoBulkEntry {H : Type} : Lit × DataW H → Nat
  | (.string bytes, d) => bytes.length + uptoBulk d + 1
  | (_, d) => uptoBulk d + 1
 end
def uptoSmall : (H : Type) → List (DataW H) → Bool := fun _ ds => decide (uptoBulkAll ds ≤ 1048576)
def OpenSpec.upto (s : _root_.Go.ChangeSpec) : _root_.Go.OpenSpec := { _root_.Go.OpenSpec.ofChange s with cond := some uptoSmall }

/-- 'pelliclelaw11.PlaneAreas', WHERE WHAT IT READS IS OF BULK AT MOST 1048576: true; the input reads as it did. -/
def planeAreasUptoRow : OpenClaim := { program := "ytmmkclefdpmjlaa", sum := "4d12ff5c6fb6727ee12b4b7af1c7cc3ad8bfbc167d18bd0283a06d9af5689684", func := "pellicle/pelliclelaw11.PlaneAreas", spec := "planeAreas", unfollowed := true, recurses := true, apart := false, narrowed := true }
def PlaneAreasUptoSaid : Prop := planeAreasUptoRow.holds Try.pinned (OpenSpec.upto planeAreasSpec)

/-- 'pelliclelaw11.PlaneTurns', WHERE WHAT IT READS IS OF BULK AT MOST 1048576: true; the input reads as it did. -/
def planeTurnsUptoRow : OpenClaim := { program := "ytmmkclefdpmjlaa", sum := "4d12ff5c6fb6727ee12b4b7af1c7cc3ad8bfbc167d18bd0283a06d9af5689684", func := "pellicle/pelliclelaw11.PlaneTurns", spec := "planeTurns", unfollowed := true, recurses := true, apart := false, narrowed := true }
def PlaneTurnsUptoSaid : Prop := planeTurnsUptoRow.holds Try.pinned (OpenSpec.upto planeTurnsSpec)

/-- 'pelliclelaw13.WindAround', WHERE WHAT IT READS IS OF BULK AT MOST 1048576: true; the input reads as it did. -/
def windAroundUptoRow : OpenClaim := { program := "ytmmkclefdpmjlaa", sum := "4d12ff5c6fb6727ee12b4b7af1c7cc3ad8bfbc167d18bd0283a06d9af5689684", func := "pellicle/pelliclelaw13.WindAround", spec := "windAround", unfollowed := true, recurses := true, apart := false, narrowed := true }
def WindAroundUptoSaid : Prop := windAroundUptoRow.holds Try.pinned (OpenSpec.upto windAroundSpec)

/-- 'pelliclelaw13.WindBeside', WHERE WHAT IT READS IS OF BULK AT MOST 1048576: true; the input reads as it did. -/
def windBesideUptoRow : OpenClaim := { program := "ytmmkclefdpmjlaa", sum := "4d12ff5c6fb6727ee12b4b7af1c7cc3ad8bfbc167d18bd0283a06d9af5689684", func := "pellicle/pelliclelaw13.WindBeside", spec := "windBeside", unfollowed := true, recurses := true, apart := false, narrowed := true }
def WindBesideUptoSaid : Prop := windBesideUptoRow.holds Try.pinned (OpenSpec.upto windBesideSpec)

/-- 'pelliclelaw13.WindSides', WHERE WHAT IT READS IS OF BULK AT MOST 1048576: true; the input reads as it did. -/
def windSidesUptoRow : OpenClaim := { program := "ytmmkclefdpmjlaa", sum := "4d12ff5c6fb6727ee12b4b7af1c7cc3ad8bfbc167d18bd0283a06d9af5689684", func := "pellicle/pelliclelaw13.WindSides", spec := "windSides", unfollowed := true, recurses := true, apart := false, narrowed := true }
def WindSidesUptoSaid : Prop := windSidesUptoRow.holds Try.pinned (OpenSpec.upto windSidesSpec)

/-- 'pelliclelaw13.WindBack', WHERE WHAT IT READS IS OF BULK AT MOST 1048576: true; the input reads as it did. -/
def windBackUptoRow : OpenClaim := { program := "ytmmkclefdpmjlaa", sum := "4d12ff5c6fb6727ee12b4b7af1c7cc3ad8bfbc167d18bd0283a06d9af5689684", func := "pellicle/pelliclelaw13.WindBack", spec := "windBack", unfollowed := true, recurses := true, apart := false, narrowed := true }
def WindBackUptoSaid : Prop := windBackUptoRow.holds Try.pinned (OpenSpec.upto windBackSpec)

/-- 'pelliclelaw13.WindCuts', WHERE WHAT IT READS IS OF BULK AT MOST 1048576: true; the input reads as it did. -/
def windCutsUptoRow : OpenClaim := { program := "ytmmkclefdpmjlaa", sum := "4d12ff5c6fb6727ee12b4b7af1c7cc3ad8bfbc167d18bd0283a06d9af5689684", func := "pellicle/pelliclelaw13.WindCuts", spec := "windCuts", unfollowed := true, recurses := true, apart := false, narrowed := true }
def WindCutsUptoSaid : Prop := windCutsUptoRow.holds Try.pinned (OpenSpec.upto windCutsSpec)

end Rows
end Go.Proofs.Ytmmkclefdpmjlaa

/-
  No cell of these rows narrows 'for every input' (looked for: loops, veiled, ifaces, maps, wideKeys, modest, calm, conditions, laid).
  DERIVED. THE GIVEN ROWS OF THIS SEAT. 2 by the template 'for every input the law returns true; each argument reads behind the call as it read before'; 0 by the template 'total and deterministic' (their statements: YtnilkelofcblhaaTotals.lean).
  GIVEN WITH THE SEED: the statements are not yours to turn. If you find one false, say at which input.
  Laid BY PROGRAM, IN A SANDBOX (cutbox-rows.mjs): the forced cells as the released guide's own fill.sh prints them over the translation dfd16ed2097a52b1… (all of the seat's roots in one cut). By AI agents, Wed Nov 11 2026. No macro, syntax, notation, axiom, sorry.
-/
import Derived.Test.YtnilkelofcblhaaChecked
import GoSem.Claim
import GoSem.ClaimJoined
import GoSem.ClaimMapViews
import Derived.JoinedTies
import Derived.KernelRfl
namespace Go.Proofs.Ytnilkelofcblhaa
/- THE CELL 'sum', in the pinned program and in every row, IS THE sha256 OF THE DUMP (.gsa) THAT YtnilkelofcblhaaProg.lean LOADS. Nothing in Lean hashes anything: it is a label: what it is worth is what the hold of that sum in a sandbox is worth. -/
noncomputable def Try.pinned : Pinned := { name := "ytnilkelofcblhaa", sum := "dfd16ed2097a52b1453adfc87b3f01c22edd6fb1a95a9649f9d0f1e1ef1cd547", checked := Try.checked }
namespace Rows
def none {H : Type} : Left H := { results := [], args := [] }

/-- 'pelliclelaw18.SnapRows': WHATEVER THE INPUT: true; the input reads as it did. -/
def snapRowsSpec : ChangeSpec := { name := "snapRows", fn := fun _ => fun
  | [d] => { results := [.lit (.bool true)], args := [d] }
  | _ => none }
def snapRowsRow : OpenClaim := { program := "ytnilkelofcblhaa", sum := "dfd16ed2097a52b1453adfc87b3f01c22edd6fb1a95a9649f9d0f1e1ef1cd547", func := "pellicle/pelliclelaw18.SnapRows", spec := "snapRows", unfollowed := true, recurses := true, apart := false }
def SnapRowsSaid : Prop := snapRowsRow.holds Try.pinned (OpenSpec.ofChange snapRowsSpec)

/-- ITS FALSE NEIGHBOUR: 'it returns false'. Refute it at one input. -/
def snapRowsWrong : ChangeSpec := { name := "snapRows", fn := fun _ => fun
  | [d] => { results := [.lit (.bool false)], args := [d] }
  | _ => none }
def SnapRowsWrongFalsely : Prop := snapRowsRow.holds Try.pinned (OpenSpec.ofChange snapRowsWrong)

/-- 'pelliclelaw18.SnapBoxes': WHATEVER THE INPUT: true; the input reads as it did. -/
def snapBoxesSpec : ChangeSpec := { name := "snapBoxes", fn := fun _ => fun
  | [d] => { results := [.lit (.bool true)], args := [d] }
  | _ => none }
def snapBoxesRow : OpenClaim := { program := "ytnilkelofcblhaa", sum := "dfd16ed2097a52b1453adfc87b3f01c22edd6fb1a95a9649f9d0f1e1ef1cd547", func := "pellicle/pelliclelaw18.SnapBoxes", spec := "snapBoxes", unfollowed := true, recurses := true, apart := false }
def SnapBoxesSaid : Prop := snapBoxesRow.holds Try.pinned (OpenSpec.ofChange snapBoxesSpec)

/-- ITS FALSE NEIGHBOUR: 'it returns false'. Refute it at one input. -/
def snapBoxesWrong : ChangeSpec := { name := "snapBoxes", fn := fun _ => fun
  | [d] => { results := [.lit (.bool false)], args := [d] }
  | _ => none }
def SnapBoxesWrongFalsely : Prop := snapBoxesRow.holds Try.pinned (OpenSpec.ofChange snapBoxesWrong)

/- THE SECOND FORM. 'bulk': how many values and letters a reading holds, each counted each time it is reached (what is shared counts as often as it is met; a slice's spare places count too). A statement '..UptoSaid' is the law's where the arguments, and the package variables that the reading takes, are together of bulk at most 1048576: NARROWER than '..Said'. Prove '..Said' where nothing that the law and all that it calls make is longer than what came in: it says more and counts as full. Else prove '..UptoSaid'. A law counts once. -/
mutual
def uptoBulk {H : Type} : DataW H → Nat
  | .lit (.string bytes) => bytes.length + 1
  | .lit _ => 1
  | .nil => 1
  | .ptr d => uptoBulk d + 1
  | .slice elems spare => uptoBulkAll elems + uptoBulkAll spare + 1
  | .agg parts => uptoBulkAll parts + 1
  | .iface _ d => uptoBulk d + 1
  | .map entries => uptoBulkEntries entries + 1
  | .held _ => 1
def uptoBulkAll {H : Type} : List (DataW H) → Nat
  | [] => 0
  | d :: r => uptoBulk d + uptoBulkAll r
def uptoBulkEntries {H : Type} : List (Lit × DataW H) → Nat
  | [] => 0
  | x :: r => uptoBulkEntry x + uptoBulkEntries r
def uptoBulkEntry {H : Type} : Lit × DataW H → Nat
  | (.string bytes, d) => bytes.length + uptoBulk d + 1
  | (_, d) => uptoBulk d + 1
 end
def uptoSmall : (H : Type) → List (DataW H) → Bool := fun _ ds => decide (uptoBulkAll ds ≤ 1048576)
def OpenSpec.upto (s : _root_.Go.ChangeSpec) : _root_.Go.OpenSpec := { _root_.Go.OpenSpec.ofChange s with cond := some uptoSmall }

/-- 'pelliclelaw18.SnapRows', WHERE WHAT IT READS IS OF BULK AT MOST 1048576: true; the input reads as it did. -/
def snapRowsUptoRow : OpenClaim := { program := "ytnilkelofcblhaa", sum := "dfd16ed2097a52b1453adfc87b3f01c22edd6fb1a95a9649f9d0f1e1ef1cd547", func := "pellicle/pelliclelaw18.SnapRows", spec := "snapRows", unfollowed := true, recurses := true, apart := false, narrowed := true }
def SnapRowsUptoSaid : Prop := snapRowsUptoRow.holds Try.pinned (OpenSpec.upto snapRowsSpec)

/-- 'pelliclelaw18.SnapBoxes', WHERE WHAT IT READS IS OF BULK AT MOST 1048576: true; the input reads as it did. -/
def snapBoxesUptoRow : OpenClaim := { program := "ytnilkelofcblhaa", sum := "dfd16ed2097a52b1453adfc87b3f01c22edd6fb1a95a9649f9d0f1e1ef1cd547", func := "pellicle/pelliclelaw18.SnapBoxes", spec := "snapBoxes", unfollowed := true, recurses := true, apart := false, narrowed := true }
def SnapBoxesUptoSaid : Prop := snapBoxesUptoRow.holds Try.pinned (OpenSpec.upto snapBoxesSpec)

end Rows
end Go.Proofs.Ytnilkelofcblhaa

/-
  No cell of these rows narrows 'for every input' (looked for: loops, veiled, ifaces, maps, wideKeys, modest, calm, conditions, laid).
  DERIVED. THE GIVEN ROWS OF THIS SEAT. 4 by the template 'for every input the law returns true; each argument reads behind the call as it read before'; 0 by the template 'total and deterministic' (their statements: YtehmofcajiefiaaGreatTotals.lean).
  GIVEN WITH THE SEED: the statements are not yours to turn. If you find one false, say at which input.
  Laid BY PROGRAM, IN A SANDBOX (cutbox-rows.mjs): the forced cells as the released guide's own fill.sh prints them over the translation e14f7cc4cce87c14… (all of the seat's roots in one cut). By AI agents, Wed Nov 11 2026. No macro, syntax, notation, axiom, sorry.
-/
import Derived.Test.YtehmofcajiefiaaGreatChecked
import GoSem.Claim
import GoSem.ClaimJoined
import GoSem.ClaimMapViews
import Derived.JoinedTies
import Derived.KernelRfl
namespace Go.Proofs.YtehmofcajiefiaaGreat
/- THE CELL 'sum', in the pinned program and in every row, IS THE sha256 OF THE DUMP (.gsa) THAT YtehmofcajiefiaaGreatProg.lean LOADS. Nothing in Lean hashes anything: it is a label: what it is worth is what the hold of that sum in a sandbox is worth. -/
noncomputable def Tryz.pinned : Pinned := { name := "ytehmofcajiefiaagreat", sum := "e14f7cc4cce87c14be89b8bbef49402df9015291cbd2e89d3b748fac2790ad3e", checked := Tryz.checked }
namespace Rows
def none {H : Type} : Left H := { results := [], args := [] }

/-- 'pelliclelaw12.ReachPoints': WHATEVER THE INPUT: true; the input reads as it did. -/
def reachPointsSpec : ChangeSpec := { name := "reachPoints", fn := fun _ => fun
  | [d1, d2, d3] => { results := [.lit (.bool true)], args := [d1, d2, d3] }
  | _ => none }
def reachPointsRow : OpenClaim := { program := "ytehmofcajiefiaagreat", sum := "e14f7cc4cce87c14be89b8bbef49402df9015291cbd2e89d3b748fac2790ad3e", func := "pellicle/pelliclelaw12.ReachPoints", spec := "reachPoints", unfollowed := true, recurses := true, apart := false }
def ReachPointsSaid : Prop := reachPointsRow.holds Tryz.pinned (OpenSpec.ofChange reachPointsSpec)

/-- ITS FALSE NEIGHBOUR: 'it returns false'. Refute it at one input. -/
def reachPointsWrong : ChangeSpec := { name := "reachPoints", fn := fun _ => fun
  | [d1, d2, d3] => { results := [.lit (.bool false)], args := [d1, d2, d3] }
  | _ => none }
def ReachPointsWrongFalsely : Prop := reachPointsRow.holds Tryz.pinned (OpenSpec.ofChange reachPointsWrong)

/-- 'pelliclelaw12.ReachEnds': WHATEVER THE INPUT: true; the input reads as it did. -/
def reachEndsSpec : ChangeSpec := { name := "reachEnds", fn := fun _ => fun
  | [d1, d2, d3, d4] => { results := [.lit (.bool true)], args := [d1, d2, d3, d4] }
  | _ => none }
def reachEndsRow : OpenClaim := { program := "ytehmofcajiefiaagreat", sum := "e14f7cc4cce87c14be89b8bbef49402df9015291cbd2e89d3b748fac2790ad3e", func := "pellicle/pelliclelaw12.ReachEnds", spec := "reachEnds", unfollowed := true, recurses := true, apart := false }
def ReachEndsSaid : Prop := reachEndsRow.holds Tryz.pinned (OpenSpec.ofChange reachEndsSpec)

/-- ITS FALSE NEIGHBOUR: 'it returns false'. Refute it at one input. -/
def reachEndsWrong : ChangeSpec := { name := "reachEnds", fn := fun _ => fun
  | [d1, d2, d3, d4] => { results := [.lit (.bool false)], args := [d1, d2, d3, d4] }
  | _ => none }
def ReachEndsWrongFalsely : Prop := reachEndsRow.holds Tryz.pinned (OpenSpec.ofChange reachEndsWrong)

/-- 'pelliclelaw12.ReachCloser': WHATEVER THE INPUT: true; the input reads as it did. -/
def reachCloserSpec : ChangeSpec := { name := "reachCloser", fn := fun _ => fun
  | [d1, d2, d3, d4, d5] => { results := [.lit (.bool true)], args := [d1, d2, d3, d4, d5] }
  | _ => none }
def reachCloserRow : OpenClaim := { program := "ytehmofcajiefiaagreat", sum := "e14f7cc4cce87c14be89b8bbef49402df9015291cbd2e89d3b748fac2790ad3e", func := "pellicle/pelliclelaw12.ReachCloser", spec := "reachCloser", unfollowed := true, recurses := true, apart := false }
def ReachCloserSaid : Prop := reachCloserRow.holds Tryz.pinned (OpenSpec.ofChange reachCloserSpec)

/-- ITS FALSE NEIGHBOUR: 'it returns false'. Refute it at one input. -/
def reachCloserWrong : ChangeSpec := { name := "reachCloser", fn := fun _ => fun
  | [d1, d2, d3, d4, d5] => { results := [.lit (.bool false)], args := [d1, d2, d3, d4, d5] }
  | _ => none }
def ReachCloserWrongFalsely : Prop := reachCloserRow.holds Tryz.pinned (OpenSpec.ofChange reachCloserWrong)

/-- 'pelliclelaw19.PairFits': WHATEVER THE INPUT: true; the input reads as it did. -/
def pairFitsSpec : ChangeSpec := { name := "pairFits", fn := fun _ => fun
  | [d1, d2, d3, d4, d5, d6] => { results := [.lit (.bool true)], args := [d1, d2, d3, d4, d5, d6] }
  | _ => none }
def pairFitsRow : OpenClaim := { program := "ytehmofcajiefiaagreat", sum := "e14f7cc4cce87c14be89b8bbef49402df9015291cbd2e89d3b748fac2790ad3e", func := "pellicle/pelliclelaw19.PairFits", spec := "pairFits", apart := false }
def PairFitsSaid : Prop := pairFitsRow.holds Tryz.pinned (OpenSpec.ofChange pairFitsSpec)

/-- ITS FALSE NEIGHBOUR: 'it returns false'. Refute it at one input. -/
def pairFitsWrong : ChangeSpec := { name := "pairFits", fn := fun _ => fun
  | [d1, d2, d3, d4, d5, d6] => { results := [.lit (.bool false)], args := [d1, d2, d3, d4, d5, d6] }
  | _ => none }
def PairFitsWrongFalsely : Prop := pairFitsRow.holds Tryz.pinned (OpenSpec.ofChange pairFitsWrong)

/- THE SECOND FORM. 'bulk': how many values and letters a reading holds, each counted each time it is reached (what is shared counts as often as it is met; a slice's spare places count too). A statement '..UptoSaid' is the law's where the arguments, and the package variables that the reading takes, are together of bulk at most 1048576: NARROWER than '..Said'. Prove '..Said' where nothing that the law and all that it calls make is longer than what came in: it says more and counts as full. Else prove '..UptoSaid'. A law counts once. -/
mutual
def uptoBulk {H : Type} : DataW H → Nat
  | .lit (.string bytes) => bytes.length + 1
  | .lit _ => 1
  | .nil => 1
  | .ptr d => uptoBulk d + 1
  | .slice elems spare => uptoBulkAll elems + uptoBulkAll spare + 1
  | .agg parts => uptoBulkAll parts + 1
  | .iface _ d => uptoBulk d + 1
  | .map entries => uptoBulkEntries entries + 1
  | .held _ => 1
def uptoBulkAll {H : Type} : List (DataW H) → Nat
  | [] => 0
  | d :: r => uptoBulk d + uptoBulkAll r
def uptoBulkEntries {H : Type} : List (Lit × DataW H) → Nat
  | [] => 0
  | x :: r => uptoBulkEntry x + uptoBulkEntries r
def uptoBulkEntry {H : Type} : Lit × DataW H → Nat
  | (.string bytes, d) => bytes.length + uptoBulk d + 1
  | (_, d) => uptoBulk d + 1
 end
def uptoSmall : (H : Type) → List (DataW H) → Bool := fun _ ds => decide (uptoBulkAll ds ≤ 1048576)
def OpenSpec.upto (s : _root_.Go.ChangeSpec) : _root_.Go.OpenSpec := { _root_.Go.OpenSpec.ofChange s with cond := some uptoSmall }

/-- 'pelliclelaw12.ReachPoints', WHERE WHAT IT READS IS OF BULK AT MOST 1048576: true; the input reads as it did. -/
def reachPointsUptoRow : OpenClaim := { program := "ytehmofcajiefiaagreat", sum := "e14f7cc4cce87c14be89b8bbef49402df9015291cbd2e89d3b748fac2790ad3e", func := "pellicle/pelliclelaw12.ReachPoints", spec := "reachPoints", unfollowed := true, recurses := true, apart := false, narrowed := true }
def ReachPointsUptoSaid : Prop := reachPointsUptoRow.holds Tryz.pinned (OpenSpec.upto reachPointsSpec)

/-- 'pelliclelaw12.ReachEnds', WHERE WHAT IT READS IS OF BULK AT MOST 1048576: true; the input reads as it did. -/
def reachEndsUptoRow : OpenClaim := { program := "ytehmofcajiefiaagreat", sum := "e14f7cc4cce87c14be89b8bbef49402df9015291cbd2e89d3b748fac2790ad3e", func := "pellicle/pelliclelaw12.ReachEnds", spec := "reachEnds", unfollowed := true, recurses := true, apart := false, narrowed := true }
def ReachEndsUptoSaid : Prop := reachEndsUptoRow.holds Tryz.pinned (OpenSpec.upto reachEndsSpec)

/-- 'pelliclelaw12.ReachCloser', WHERE WHAT IT READS IS OF BULK AT MOST 1048576: true; the input reads as it did. -/
def reachCloserUptoRow : OpenClaim := { program := "ytehmofcajiefiaagreat", sum := "e14f7cc4cce87c14be89b8bbef49402df9015291cbd2e89d3b748fac2790ad3e", func := "pellicle/pelliclelaw12.ReachCloser", spec := "reachCloser", unfollowed := true, recurses := true, apart := false, narrowed := true }
def ReachCloserUptoSaid : Prop := reachCloserUptoRow.holds Tryz.pinned (OpenSpec.upto reachCloserSpec)

/-- 'pelliclelaw19.PairFits', WHERE WHAT IT READS IS OF BULK AT MOST 1048576: true; the input reads as it did. -/
def pairFitsUptoRow : OpenClaim := { program := "ytehmofcajiefiaagreat", sum := "e14f7cc4cce87c14be89b8bbef49402df9015291cbd2e89d3b748fac2790ad3e", func := "pellicle/pelliclelaw19.PairFits", spec := "pairFits", apart := false, narrowed := true }
def PairFitsUptoSaid : Prop := pairFitsUptoRow.holds Tryz.pinned (OpenSpec.upto pairFitsSpec)

end Rows
end Go.Proofs.YtehmofcajiefiaaGreat

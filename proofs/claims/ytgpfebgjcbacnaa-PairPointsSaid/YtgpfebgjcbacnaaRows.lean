/-
  No cell of these rows narrows 'for every input' (looked for: loops, veiled, ifaces, maps, wideKeys, modest, calm, conditions, laid).
  DERIVED. THE GIVEN ROWS OF THIS SEAT. 3 by the template 'for every input the law returns true; each argument reads behind the call as it read before'; 0 by the template 'total and deterministic' (their statements: YtgpfebgjcbacnaaTotals.lean).
  GIVEN WITH THE SEED: the statements are not yours to turn. If you find one false, say at which input.
  Laid BY PROGRAM, IN A SANDBOX (cutbox-rows.mjs): the forced cells as the released guide's own fill.sh prints them over the translation 1024c637aac060ab… (all of the seat's roots in one cut). By AI agents, Wed Nov 11 2026. No macro, syntax, notation, axiom, sorry.
-/
import Derived.Test.YtgpfebgjcbacnaaChecked
import GoSem.Claim
import GoSem.ClaimJoined
import GoSem.ClaimMapViews
import Derived.JoinedTies
import Derived.KernelRfl
namespace Go.Proofs.Ytgpfebgjcbacnaa
/- THE CELL 'sum', in the pinned program and in every row, IS THE sha256 OF THE DUMP (.gsa) THAT YtgpfebgjcbacnaaProg.lean LOADS. Nothing in Lean hashes anything: it is a label: what it is worth is what the hold of that sum in a sandbox is worth. -/
noncomputable def Try.pinned : Pinned := { name := "ytgpfebgjcbacnaa", sum := "1024c637aac060ab972984ca53d5f75d5fd4f0f26bd9beed16706654b0930086", checked := Try.checked }
namespace Rows
def none {H : Type} : Left H := { results := [], args := [] }

/-- 'pelliclelaw19.PairTurns': WHATEVER THE INPUT: true; the input reads as it did. -/
def pairTurnsSpec : ChangeSpec := { name := "pairTurns", fn := fun _ => fun
  | [d1, d2, d3, d4, d5, d6] => { results := [.lit (.bool true)], args := [d1, d2, d3, d4, d5, d6] }
  | _ => none }
def pairTurnsRow : OpenClaim := { program := "ytgpfebgjcbacnaa", sum := "1024c637aac060ab972984ca53d5f75d5fd4f0f26bd9beed16706654b0930086", func := "pellicle/pelliclelaw19.PairTurns", spec := "pairTurns", apart := false }
def PairTurnsSaid : Prop := pairTurnsRow.holds Try.pinned (OpenSpec.ofChange pairTurnsSpec)

/-- ITS FALSE NEIGHBOUR: 'it returns false'. Refute it at one input. -/
def pairTurnsWrong : ChangeSpec := { name := "pairTurns", fn := fun _ => fun
  | [d1, d2, d3, d4, d5, d6] => { results := [.lit (.bool false)], args := [d1, d2, d3, d4, d5, d6] }
  | _ => none }
def PairTurnsWrongFalsely : Prop := pairTurnsRow.holds Try.pinned (OpenSpec.ofChange pairTurnsWrong)

/-- 'pelliclelaw19.PairMoves': WHATEVER THE INPUT: true; the input reads as it did. -/
def pairMovesSpec : ChangeSpec := { name := "pairMoves", fn := fun _ => fun
  | [d1, d2, d3, d4, d5, d6, d7] => { results := [.lit (.bool true)], args := [d1, d2, d3, d4, d5, d6, d7] }
  | _ => none }
def pairMovesRow : OpenClaim := { program := "ytgpfebgjcbacnaa", sum := "1024c637aac060ab972984ca53d5f75d5fd4f0f26bd9beed16706654b0930086", func := "pellicle/pelliclelaw19.PairMoves", spec := "pairMoves", unfollowed := true, recurses := true, apart := false }
def PairMovesSaid : Prop := pairMovesRow.holds Try.pinned (OpenSpec.ofChange pairMovesSpec)

/-- ITS FALSE NEIGHBOUR: 'it returns false'. Refute it at one input. -/
def pairMovesWrong : ChangeSpec := { name := "pairMoves", fn := fun _ => fun
  | [d1, d2, d3, d4, d5, d6, d7] => { results := [.lit (.bool false)], args := [d1, d2, d3, d4, d5, d6, d7] }
  | _ => none }
def PairMovesWrongFalsely : Prop := pairMovesRow.holds Try.pinned (OpenSpec.ofChange pairMovesWrong)

/-- 'pelliclelaw19.PairPoints': WHATEVER THE INPUT: true; the input reads as it did. -/
def pairPointsSpec : ChangeSpec := { name := "pairPoints", fn := fun _ => fun
  | [d1, d2, d3, d4, d5, d6, d7] => { results := [.lit (.bool true)], args := [d1, d2, d3, d4, d5, d6, d7] }
  | _ => none }
def pairPointsRow : OpenClaim := { program := "ytgpfebgjcbacnaa", sum := "1024c637aac060ab972984ca53d5f75d5fd4f0f26bd9beed16706654b0930086", func := "pellicle/pelliclelaw19.PairPoints", spec := "pairPoints", unfollowed := true, recurses := true, apart := false }
def PairPointsSaid : Prop := pairPointsRow.holds Try.pinned (OpenSpec.ofChange pairPointsSpec)

/-- ITS FALSE NEIGHBOUR: 'it returns false'. Refute it at one input. -/
def pairPointsWrong : ChangeSpec := { name := "pairPoints", fn := fun _ => fun
  | [d1, d2, d3, d4, d5, d6, d7] => { results := [.lit (.bool false)], args := [d1, d2, d3, d4, d5, d6, d7] }
  | _ => none }
def PairPointsWrongFalsely : Prop := pairPointsRow.holds Try.pinned (OpenSpec.ofChange pairPointsWrong)

/- THE SECOND FORM. 'bulk': how many values and letters a reading holds, each counted each time it is reached (what is shared counts as often as it is met; a slice's spare places count too). A statement '..UptoSaid' is the law's where the arguments, and the package variables that the reading takes, are together of bulk at most 1048576: NARROWER than '..Said'. Prove '..Said' where nothing that the law and all that it calls make is longer than what came in: it says more and counts as full. Else prove '..UptoSaid'. A law counts once. -/
mutual
def uptoBulk {H : Type} : DataW H → Nat
  | .lit (.string bytes) => bytes.length + 1
  | .lit _ => 1
  | .nil => 1
  | .ptr d => uptoBulk d + 1
  | .slice elems spare => uptoBulkAll elems + uptoBulkAll spare + 1
  | .agg parts => uptoBulkAll parts + 1
  | .iface _ d => uptoBulk d + 1
  | .map entries => uptoBulkEntries entries + 1
  | .held _ => 1
def uptoBulkAll {H : Type} : List (DataW H) → Nat
  | [] => 0
  | d :: r => uptoBulk d + uptoBulkAll r
def uptoBulkEntries {H : Type} : List (Lit × DataW H) → Nat
  | [] => 0
  | x :: r => uptoBulkEntry x + uptoBulkEntries r
def uptoBulkEntry {H : Type} : Lit × DataW H → Nat
  | (.string bytes, d) => bytes.length + uptoBulk d + 1
  | (_, d) => uptoBulk d + 1
 end
def uptoSmall : (H : Type) → List (DataW H) → Bool := fun _ ds => decide (uptoBulkAll ds ≤ 1048576)
def OpenSpec.upto (s : _root_.Go.ChangeSpec) : _root_.Go.OpenSpec := { _root_.Go.OpenSpec.ofChange s with cond := some uptoSmall }

/-- 'pelliclelaw19.PairTurns', WHERE WHAT IT READS IS OF BULK AT MOST 1048576: true; the input reads as it did. -/
def pairTurnsUptoRow : OpenClaim := { program := "ytgpfebgjcbacnaa", sum := "1024c637aac060ab972984ca53d5f75d5fd4f0f26bd9beed16706654b0930086", func := "pellicle/pelliclelaw19.PairTurns", spec := "pairTurns", apart := false, narrowed := true }
def PairTurnsUptoSaid : Prop := pairTurnsUptoRow.holds Try.pinned (OpenSpec.upto pairTurnsSpec)

/-- 'pelliclelaw19.PairMoves', WHERE WHAT IT READS IS OF BULK AT MOST 1048576: true; the input reads as it did. -/
def pairMovesUptoRow : OpenClaim := { program := "ytgpfebgjcbacnaa", sum := "1024c637aac060ab972984ca53d5f75d5fd4f0f26bd9beed16706654b0930086", func := "pellicle/pelliclelaw19.PairMoves", spec := "pairMoves", unfollowed := true, recurses := true, apart := false, narrowed := true }
def PairMovesUptoSaid : Prop := pairMovesUptoRow.holds Try.pinned (OpenSpec.upto pairMovesSpec)

/-- 'pelliclelaw19.PairPoints', WHERE WHAT IT READS IS OF BULK AT MOST 1048576: true; the input reads as it did. -/
def pairPointsUptoRow : OpenClaim := { program := "ytgpfebgjcbacnaa", sum := "1024c637aac060ab972984ca53d5f75d5fd4f0f26bd9beed16706654b0930086", func := "pellicle/pelliclelaw19.PairPoints", spec := "pairPoints", unfollowed := true, recurses := true, apart := false, narrowed := true }
def PairPointsUptoSaid : Prop := pairPointsUptoRow.holds Try.pinned (OpenSpec.upto pairPointsSpec)

end Rows
end Go.Proofs.Ytgpfebgjcbacnaa

/-
  No cell of these rows narrows 'for every input' (looked for: loops, veiled, ifaces, maps, wideKeys, modest, calm, conditions, laid).
  DERIVED. THE GIVEN ROWS OF THIS SEAT. 5 by the template 'for every input the law returns true; each argument reads behind the call as it read before'; 0 by the template 'total and deterministic' (their statements: YtbabekaohfcjbaaTotals.lean).
  GIVEN WITH THE SEED: the statements are not yours to turn. If you find one false, say at which input.
  Laid BY PROGRAM, IN A SANDBOX (cutbox-rows.mjs): the forced cells as the released guide's own fill.sh prints them over the translation dc33bd07544c01b7… (all of the seat's roots in one cut). By AI agents, Wed Nov 11 2026. No macro, syntax, notation, axiom, sorry.
-/
import Derived.Test.YtbabekaohfcjbaaChecked
import GoSem.Claim
import GoSem.ClaimJoined
import GoSem.ClaimMapViews
import Derived.JoinedTies
import Derived.KernelRfl
namespace Go.Proofs.Ytbabekaohfcjbaa
/- THE CELL 'sum', in the pinned program and in every row, IS THE sha256 OF THE DUMP (.gsa) THAT YtbabekaohfcjbaaProg.lean LOADS. Nothing in Lean hashes anything: it is a label: what it is worth is what the hold of that sum in a sandbox is worth. -/
noncomputable def Try.pinned : Pinned := { name := "ytbabekaohfcjbaa", sum := "dc33bd07544c01b729ac34903a0c8cae9cbde00ec31574026291bebc4872ebd1", checked := Try.checked }
namespace Rows
def none {H : Type} : Left H := { results := [], args := [] }

/-- 'pelliclelaw11.PlaneShares': WHATEVER THE INPUT: true; the input reads as it did. -/
def planeSharesSpec : ChangeSpec := { name := "planeShares", fn := fun _ => fun
  | [d1, d2, d3, d4, d5] => { results := [.lit (.bool true)], args := [d1, d2, d3, d4, d5] }
  | _ => none }
def planeSharesRow : OpenClaim := { program := "ytbabekaohfcjbaa", sum := "dc33bd07544c01b729ac34903a0c8cae9cbde00ec31574026291bebc4872ebd1", func := "pellicle/pelliclelaw11.PlaneShares", spec := "planeShares", unfollowed := true, recurses := true, apart := false }
def PlaneSharesSaid : Prop := planeSharesRow.holds Try.pinned (OpenSpec.ofChange planeSharesSpec)

/-- ITS FALSE NEIGHBOUR: 'it returns false'. Refute it at one input. -/
def planeSharesWrong : ChangeSpec := { name := "planeShares", fn := fun _ => fun
  | [d1, d2, d3, d4, d5] => { results := [.lit (.bool false)], args := [d1, d2, d3, d4, d5] }
  | _ => none }
def PlaneSharesWrongFalsely : Prop := planeSharesRow.holds Try.pinned (OpenSpec.ofChange planeSharesWrong)

/-- 'pelliclelaw11.PlaneParts': WHATEVER THE INPUT: true; the input reads as it did. -/
def planePartsSpec : ChangeSpec := { name := "planeParts", fn := fun _ => fun
  | [d1, d2, d3, d4, d5] => { results := [.lit (.bool true)], args := [d1, d2, d3, d4, d5] }
  | _ => none }
def planePartsRow : OpenClaim := { program := "ytbabekaohfcjbaa", sum := "dc33bd07544c01b729ac34903a0c8cae9cbde00ec31574026291bebc4872ebd1", func := "pellicle/pelliclelaw11.PlaneParts", spec := "planeParts", unfollowed := true, recurses := true, apart := false }
def PlanePartsSaid : Prop := planePartsRow.holds Try.pinned (OpenSpec.ofChange planePartsSpec)

/-- ITS FALSE NEIGHBOUR: 'it returns false'. Refute it at one input. -/
def planePartsWrong : ChangeSpec := { name := "planeParts", fn := fun _ => fun
  | [d1, d2, d3, d4, d5] => { results := [.lit (.bool false)], args := [d1, d2, d3, d4, d5] }
  | _ => none }
def PlanePartsWrongFalsely : Prop := planePartsRow.holds Try.pinned (OpenSpec.ofChange planePartsWrong)

/-- 'pelliclelaw11.PlaneMeets': WHATEVER THE INPUT: true; the input reads as it did. -/
def planeMeetsSpec : ChangeSpec := { name := "planeMeets", fn := fun _ => fun
  | [d1, d2, d3, d4] => { results := [.lit (.bool true)], args := [d1, d2, d3, d4] }
  | _ => none }
def planeMeetsRow : OpenClaim := { program := "ytbabekaohfcjbaa", sum := "dc33bd07544c01b729ac34903a0c8cae9cbde00ec31574026291bebc4872ebd1", func := "pellicle/pelliclelaw11.PlaneMeets", spec := "planeMeets", unfollowed := true, recurses := true, apart := false }
def PlaneMeetsSaid : Prop := planeMeetsRow.holds Try.pinned (OpenSpec.ofChange planeMeetsSpec)

/-- ITS FALSE NEIGHBOUR: 'it returns false'. Refute it at one input. -/
def planeMeetsWrong : ChangeSpec := { name := "planeMeets", fn := fun _ => fun
  | [d1, d2, d3, d4] => { results := [.lit (.bool false)], args := [d1, d2, d3, d4] }
  | _ => none }
def PlaneMeetsWrongFalsely : Prop := planeMeetsRow.holds Try.pinned (OpenSpec.ofChange planeMeetsWrong)

/-- 'pelliclelaw11.PlaneClips': WHATEVER THE INPUT: true; the input reads as it did. -/
def planeClipsSpec : ChangeSpec := { name := "planeClips", fn := fun _ => fun
  | [d1, d2, d3, d4] => { results := [.lit (.bool true)], args := [d1, d2, d3, d4] }
  | _ => none }
def planeClipsRow : OpenClaim := { program := "ytbabekaohfcjbaa", sum := "dc33bd07544c01b729ac34903a0c8cae9cbde00ec31574026291bebc4872ebd1", func := "pellicle/pelliclelaw11.PlaneClips", spec := "planeClips", unfollowed := true, recurses := true, apart := false }
def PlaneClipsSaid : Prop := planeClipsRow.holds Try.pinned (OpenSpec.ofChange planeClipsSpec)

/-- ITS FALSE NEIGHBOUR: 'it returns false'. Refute it at one input. -/
def planeClipsWrong : ChangeSpec := { name := "planeClips", fn := fun _ => fun
  | [d1, d2, d3, d4] => { results := [.lit (.bool false)], args := [d1, d2, d3, d4] }
  | _ => none }
def PlaneClipsWrongFalsely : Prop := planeClipsRow.holds Try.pinned (OpenSpec.ofChange planeClipsWrong)

/-- 'pelliclelaw11.PlanePoints': WHATEVER THE INPUT: true; the input reads as it did. -/
def planePointsSpec : ChangeSpec := { name := "planePoints", fn := fun _ => fun
  | [d1, d2, d3, d4] => { results := [.lit (.bool true)], args := [d1, d2, d3, d4] }
  | _ => none }
def planePointsRow : OpenClaim := { program := "ytbabekaohfcjbaa", sum := "dc33bd07544c01b729ac34903a0c8cae9cbde00ec31574026291bebc4872ebd1", func := "pellicle/pelliclelaw11.PlanePoints", spec := "planePoints", unfollowed := true, recurses := true, apart := false }
def PlanePointsSaid : Prop := planePointsRow.holds Try.pinned (OpenSpec.ofChange planePointsSpec)

/-- ITS FALSE NEIGHBOUR: 'it returns false'. Refute it at one input. -/
def planePointsWrong : ChangeSpec := { name := "planePoints", fn := fun _ => fun
  | [d1, d2, d3, d4] => { results := [.lit (.bool false)], args := [d1, d2, d3, d4] }
  | _ => none }
def PlanePointsWrongFalsely : Prop := planePointsRow.holds Try.pinned (OpenSpec.ofChange planePointsWrong)

/- THE SECOND FORM. 'bulk': how many values and letters a reading holds, each counted each time it is reached (what is shared counts as often as it is met; a slice's spare places count too). A statement '..UptoSaid' is the law's where the arguments, and the package variables that the reading takes, are together of bulk at most 1048576: NARROWER than '..Said'. Prove '..Said' where nothing that the law and all that it calls make is longer than what came in: it says more and counts as full. Else prove '..UptoSaid'. A law counts once. -/
mutual
def uptoBulk {H : Type} : DataW H → Nat
  | .lit (.string bytes) => bytes.length + 1
  | .lit _ => 1
  | .nil => 1
  | .ptr d => uptoBulk d + 1
  | .slice elems spare => uptoBulkAll elems + uptoBulkAll spare + 1
  | .agg parts => uptoBulkAll parts + 1
  | .iface _ d => uptoBulk d + 1
  | .map entries => uptoBulkEntries entries + 1
  | .held _ => 1
def uptoBulkAll {H : Type} : List (DataW H) → Nat
  | [] => 0
  | d :: r => uptoBulk d + uptoBulkAll r
def uptoBulkEntries {H : Type} : List (Lit × DataW H) → Nat
  | [] => 0
  | x :: r => uptoBulkEntry x + uptoBulkEntries r
def uptoBulkEntry {H : Type} : Lit × DataW H → Nat
  | (.string bytes, d) => bytes.length + uptoBulk d + 1
  | (_, d) => uptoBulk d + 1
 end
def uptoSmall : (H : Type) → List (DataW H) → Bool := fun _ ds => decide (uptoBulkAll ds ≤ 1048576)
def OpenSpec.upto (s : _root_.Go.ChangeSpec) : _root_.Go.OpenSpec := { _root_.Go.OpenSpec.ofChange s with cond := some uptoSmall }

/-- 'pelliclelaw11.PlaneShares', WHERE WHAT IT READS IS OF BULK AT MOST 1048576: true; the input reads as it did. -/
def planeSharesUptoRow : OpenClaim := { program := "ytbabekaohfcjbaa", sum := "dc33bd07544c01b729ac34903a0c8cae9cbde00ec31574026291bebc4872ebd1", func := "pellicle/pelliclelaw11.PlaneShares", spec := "planeShares", unfollowed := true, recurses := true, apart := false, narrowed := true }
def PlaneSharesUptoSaid : Prop := planeSharesUptoRow.holds Try.pinned (OpenSpec.upto planeSharesSpec)

/-- 'pelliclelaw11.PlaneParts', WHERE WHAT IT READS IS OF BULK AT MOST 1048576: true; the input reads as it did. -/
def planePartsUptoRow : OpenClaim := { program := "ytbabekaohfcjbaa", sum := "dc33bd07544c01b729ac34903a0c8cae9cbde00ec31574026291bebc4872ebd1", func := "pellicle/pelliclelaw11.PlaneParts", spec := "planeParts", unfollowed := true, recurses := true, apart := false, narrowed := true }
def PlanePartsUptoSaid : Prop := planePartsUptoRow.holds Try.pinned (OpenSpec.upto planePartsSpec)

/-- 'pelliclelaw11.PlaneMeets', WHERE WHAT IT READS IS OF BULK AT MOST 1048576: true; the input reads as it did. -/
def planeMeetsUptoRow : OpenClaim := { program := "ytbabekaohfcjbaa", sum := "dc33bd07544c01b729ac34903a0c8cae9cbde00ec31574026291bebc4872ebd1", func := "pellicle/pelliclelaw11.PlaneMeets", spec := "planeMeets", unfollowed := true, recurses := true, apart := false, narrowed := true }
def PlaneMeetsUptoSaid : Prop := planeMeetsUptoRow.holds Try.pinned (OpenSpec.upto planeMeetsSpec)

/-- 'pelliclelaw11.PlaneClips', WHERE WHAT IT READS IS OF BULK AT MOST 1048576: true; the input reads as it did. -/
def planeClipsUptoRow : OpenClaim := { program := "ytbabekaohfcjbaa", sum := "dc33bd07544c01b729ac34903a0c8cae9cbde00ec31574026291bebc4872ebd1", func := "pellicle/pelliclelaw11.PlaneClips", spec := "planeClips", unfollowed := true, recurses := true, apart := false, narrowed := true }
def PlaneClipsUptoSaid : Prop := planeClipsUptoRow.holds Try.pinned (OpenSpec.upto planeClipsSpec)

/-- 'pelliclelaw11.PlanePoints', WHERE WHAT IT READS IS OF BULK AT MOST 1048576: true; the input reads as it did. -/
def planePointsUptoRow : OpenClaim := { program := "ytbabekaohfcjbaa", sum := "dc33bd07544c01b729ac34903a0c8cae9cbde00ec31574026291bebc4872ebd1", func := "pellicle/pelliclelaw11.PlanePoints", spec := "planePoints", unfollowed := true, recurses := true, apart := false, narrowed := true }
def PlanePointsUptoSaid : Prop := planePointsUptoRow.holds Try.pinned (OpenSpec.upto planePointsSpec)

end Rows
end Go.Proofs.Ytbabekaohfcjbaa

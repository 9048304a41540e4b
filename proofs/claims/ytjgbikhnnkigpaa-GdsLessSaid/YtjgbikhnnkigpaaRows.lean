/-
  No cell of these rows narrows 'for every input' (looked for: loops, veiled, ifaces, maps, wideKeys, modest, calm, conditions, laid).
  DERIVED. THE GIVEN ROWS OF THIS SEAT. 12 by the template 'for every input the law returns true; each argument reads behind the call as it read before'; 0 by the template 'total and deterministic' (their statements: YtjgbikhnnkigpaaTotals.lean).
  GIVEN WITH THE SEED: the statements are not yours to turn. If you find one false, say at which input.
  Laid BY PROGRAM, IN A SANDBOX (cutbox-rows.mjs): the forced cells as the released guide's own fill.sh prints them over the translation eba2e8f61047610b… (all of the seat's roots in one cut). By AI agents, Wed Nov 11 2026. No macro, syntax, notation, axiom, sorry.
-/
import Derived.Test.YtjgbikhnnkigpaaChecked
import GoSem.Claim
import GoSem.ClaimJoined
import GoSem.ClaimMapViews
import Derived.JoinedTies
import Derived.KernelRfl
namespace Go.Proofs.Ytjgbikhnnkigpaa
/- THE CELL 'sum', in the pinned program and in every row, IS THE sha256 OF THE DUMP (.gsa) THAT YtjgbikhnnkigpaaProg.lean LOADS. Nothing in Lean hashes anything: it is a label: what it is worth is what the hold of that sum in a sandbox is worth. -/
noncomputable def Try.pinned : Pinned := { name := "ytjgbikhnnkigpaa", sum := "eba2e8f61047610be1264dfd8224d8eeafe00e757280237a2ba10f93f38d6b6a", checked := Try.checked }
namespace Rows
def none {H : Type} : Left H := { results := [], args := [] }

/-- 'pelliclelaw06.RecordRight': WHATEVER THE INPUT: true; the input reads as it did. -/
def recordRightSpec : ChangeSpec := { name := "recordRight", fn := fun _ => fun
  | [d] => { results := [.lit (.bool true)], args := [d] }
  | _ => none }
def recordRightRow : OpenClaim := { program := "ytjgbikhnnkigpaa", sum := "eba2e8f61047610be1264dfd8224d8eeafe00e757280237a2ba10f93f38d6b6a", func := "pellicle/pelliclelaw06.RecordRight", spec := "recordRight", inPlace := ["internal/bytealg.IndexByte", "internal/bytealg.IndexByteString"], unfollowed := true, recurses := true, apart := false }
def RecordRightSaid : Prop := recordRightRow.holds Try.pinned (OpenSpec.ofChange recordRightSpec)

/-- ITS FALSE NEIGHBOUR: 'it returns false'. Refute it at one input. -/
def recordRightWrong : ChangeSpec := { name := "recordRight", fn := fun _ => fun
  | [d] => { results := [.lit (.bool false)], args := [d] }
  | _ => none }
def RecordRightWrongFalsely : Prop := recordRightRow.holds Try.pinned (OpenSpec.ofChange recordRightWrong)

/-- 'pelliclelaw06.RecordSplits': WHATEVER THE INPUT: true; the input reads as it did. -/
def recordSplitsSpec : ChangeSpec := { name := "recordSplits", fn := fun _ => fun
  | [d] => { results := [.lit (.bool true)], args := [d] }
  | _ => none }
def recordSplitsRow : OpenClaim := { program := "ytjgbikhnnkigpaa", sum := "eba2e8f61047610be1264dfd8224d8eeafe00e757280237a2ba10f93f38d6b6a", func := "pellicle/pelliclelaw06.RecordSplits", spec := "recordSplits", inPlace := ["internal/bytealg.IndexByte", "internal/bytealg.IndexByteString"], unfollowed := true, recurses := true, apart := false }
def RecordSplitsSaid : Prop := recordSplitsRow.holds Try.pinned (OpenSpec.ofChange recordSplitsSpec)

/-- ITS FALSE NEIGHBOUR: 'it returns false'. Refute it at one input. -/
def recordSplitsWrong : ChangeSpec := { name := "recordSplits", fn := fun _ => fun
  | [d] => { results := [.lit (.bool false)], args := [d] }
  | _ => none }
def RecordSplitsWrongFalsely : Prop := recordSplitsRow.holds Try.pinned (OpenSpec.ofChange recordSplitsWrong)

/-- 'pelliclelaw06.RecordTexts': WHATEVER THE INPUT: true; the input reads as it did. -/
def recordTextsSpec : ChangeSpec := { name := "recordTexts", fn := fun _ => fun
  | [d1, d2] => { results := [.lit (.bool true)], args := [d1, d2] }
  | _ => none }
def recordTextsRow : OpenClaim := { program := "ytjgbikhnnkigpaa", sum := "eba2e8f61047610be1264dfd8224d8eeafe00e757280237a2ba10f93f38d6b6a", func := "pellicle/pelliclelaw06.RecordTexts", spec := "recordTexts", inPlace := ["internal/bytealg.IndexByte", "internal/bytealg.IndexByteString"], unfollowed := true, recurses := true, apart := false }
def RecordTextsSaid : Prop := recordTextsRow.holds Try.pinned (OpenSpec.ofChange recordTextsSpec)

/-- ITS FALSE NEIGHBOUR: 'it returns false'. Refute it at one input. -/
def recordTextsWrong : ChangeSpec := { name := "recordTexts", fn := fun _ => fun
  | [d1, d2] => { results := [.lit (.bool false)], args := [d1, d2] }
  | _ => none }
def RecordTextsWrongFalsely : Prop := recordTextsRow.holds Try.pinned (OpenSpec.ofChange recordTextsWrong)

/-- 'pelliclelaw06.RecordJoins': WHATEVER THE INPUT: true; the input reads as it did. -/
def recordJoinsSpec : ChangeSpec := { name := "recordJoins", fn := fun _ => fun
  | [d] => { results := [.lit (.bool true)], args := [d] }
  | _ => none }
def recordJoinsRow : OpenClaim := { program := "ytjgbikhnnkigpaa", sum := "eba2e8f61047610be1264dfd8224d8eeafe00e757280237a2ba10f93f38d6b6a", func := "pellicle/pelliclelaw06.RecordJoins", spec := "recordJoins", inPlace := ["internal/bytealg.IndexByte", "internal/bytealg.IndexByteString"], unfollowed := true, recurses := true, apart := false }
def RecordJoinsSaid : Prop := recordJoinsRow.holds Try.pinned (OpenSpec.ofChange recordJoinsSpec)

/-- ITS FALSE NEIGHBOUR: 'it returns false'. Refute it at one input. -/
def recordJoinsWrong : ChangeSpec := { name := "recordJoins", fn := fun _ => fun
  | [d] => { results := [.lit (.bool false)], args := [d] }
  | _ => none }
def RecordJoinsWrongFalsely : Prop := recordJoinsRow.holds Try.pinned (OpenSpec.ofChange recordJoinsWrong)

/-- 'pelliclelaw06.RecordBack': WHATEVER THE INPUT: true; the input reads as it did. -/
def recordBackSpec : ChangeSpec := { name := "recordBack", fn := fun _ => fun
  | [d1, d2] => { results := [.lit (.bool true)], args := [d1, d2] }
  | _ => none }
def recordBackRow : OpenClaim := { program := "ytjgbikhnnkigpaa", sum := "eba2e8f61047610be1264dfd8224d8eeafe00e757280237a2ba10f93f38d6b6a", func := "pellicle/pelliclelaw06.RecordBack", spec := "recordBack", inPlace := ["internal/bytealg.IndexByte", "internal/bytealg.IndexByteString"], unfollowed := true, recurses := true, apart := false }
def RecordBackSaid : Prop := recordBackRow.holds Try.pinned (OpenSpec.ofChange recordBackSpec)

/-- ITS FALSE NEIGHBOUR: 'it returns false'. Refute it at one input. -/
def recordBackWrong : ChangeSpec := { name := "recordBack", fn := fun _ => fun
  | [d1, d2] => { results := [.lit (.bool false)], args := [d1, d2] }
  | _ => none }
def RecordBackWrongFalsely : Prop := recordBackRow.holds Try.pinned (OpenSpec.ofChange recordBackWrong)

/-- 'pelliclelaw06.RecordNumbers': WHATEVER THE INPUT: true; the input reads as it did. -/
def recordNumbersSpec : ChangeSpec := { name := "recordNumbers", fn := fun _ => fun
  | [d1, d2] => { results := [.lit (.bool true)], args := [d1, d2] }
  | _ => none }
def recordNumbersRow : OpenClaim := { program := "ytjgbikhnnkigpaa", sum := "eba2e8f61047610be1264dfd8224d8eeafe00e757280237a2ba10f93f38d6b6a", func := "pellicle/pelliclelaw06.RecordNumbers", spec := "recordNumbers", inPlace := ["internal/bytealg.IndexByte", "internal/bytealg.IndexByteString"], unfollowed := true, recurses := true, apart := false }
def RecordNumbersSaid : Prop := recordNumbersRow.holds Try.pinned (OpenSpec.ofChange recordNumbersSpec)

/-- ITS FALSE NEIGHBOUR: 'it returns false'. Refute it at one input. -/
def recordNumbersWrong : ChangeSpec := { name := "recordNumbers", fn := fun _ => fun
  | [d1, d2] => { results := [.lit (.bool false)], args := [d1, d2] }
  | _ => none }
def RecordNumbersWrongFalsely : Prop := recordNumbersRow.holds Try.pinned (OpenSpec.ofChange recordNumbersWrong)

/-- 'pelliclelaw07.GdsReads': WHATEVER THE INPUT: true; the input reads as it did. -/
def gdsReadsSpec : ChangeSpec := { name := "gdsReads", fn := fun _ => fun
  | [d] => { results := [.lit (.bool true)], args := [d] }
  | _ => none }
def gdsReadsRow : OpenClaim := { program := "ytjgbikhnnkigpaa", sum := "eba2e8f61047610be1264dfd8224d8eeafe00e757280237a2ba10f93f38d6b6a", func := "pellicle/pelliclelaw07.GdsReads", spec := "gdsReads", inPlace := ["internal/bytealg.IndexByte", "internal/bytealg.IndexByteString"], unfollowed := true, recurses := true, apart := false }
def GdsReadsSaid : Prop := gdsReadsRow.holds Try.pinned (OpenSpec.ofChange gdsReadsSpec)

/-- ITS FALSE NEIGHBOUR: 'it returns false'. Refute it at one input. -/
def gdsReadsWrong : ChangeSpec := { name := "gdsReads", fn := fun _ => fun
  | [d] => { results := [.lit (.bool false)], args := [d] }
  | _ => none }
def GdsReadsWrongFalsely : Prop := gdsReadsRow.holds Try.pinned (OpenSpec.ofChange gdsReadsWrong)

/-- 'pelliclelaw07.GdsValid': WHATEVER THE INPUT: true; the input reads as it did. -/
def gdsValidSpec : ChangeSpec := { name := "gdsValid", fn := fun _ => fun
  | [d] => { results := [.lit (.bool true)], args := [d] }
  | _ => none }
def gdsValidRow : OpenClaim := { program := "ytjgbikhnnkigpaa", sum := "eba2e8f61047610be1264dfd8224d8eeafe00e757280237a2ba10f93f38d6b6a", func := "pellicle/pelliclelaw07.GdsValid", spec := "gdsValid", inPlace := ["internal/bytealg.IndexByte", "internal/bytealg.IndexByteString"], unfollowed := true, recurses := true, apart := false }
def GdsValidSaid : Prop := gdsValidRow.holds Try.pinned (OpenSpec.ofChange gdsValidSpec)

/-- ITS FALSE NEIGHBOUR: 'it returns false'. Refute it at one input. -/
def gdsValidWrong : ChangeSpec := { name := "gdsValid", fn := fun _ => fun
  | [d] => { results := [.lit (.bool false)], args := [d] }
  | _ => none }
def GdsValidWrongFalsely : Prop := gdsValidRow.holds Try.pinned (OpenSpec.ofChange gdsValidWrong)

/-- 'pelliclelaw07.GdsBack': WHATEVER THE INPUT: true; the input reads as it did. -/
def gdsBackSpec : ChangeSpec := { name := "gdsBack", fn := fun _ => fun
  | [d] => { results := [.lit (.bool true)], args := [d] }
  | _ => none }
def gdsBackRow : OpenClaim := { program := "ytjgbikhnnkigpaa", sum := "eba2e8f61047610be1264dfd8224d8eeafe00e757280237a2ba10f93f38d6b6a", func := "pellicle/pelliclelaw07.GdsBack", spec := "gdsBack", inPlace := ["internal/bytealg.IndexByte", "internal/bytealg.IndexByteString"], unfollowed := true, recurses := true, apart := false }
def GdsBackSaid : Prop := gdsBackRow.holds Try.pinned (OpenSpec.ofChange gdsBackSpec)

/-- ITS FALSE NEIGHBOUR: 'it returns false'. Refute it at one input. -/
def gdsBackWrong : ChangeSpec := { name := "gdsBack", fn := fun _ => fun
  | [d] => { results := [.lit (.bool false)], args := [d] }
  | _ => none }
def GdsBackWrongFalsely : Prop := gdsBackRow.holds Try.pinned (OpenSpec.ofChange gdsBackWrong)

/-- 'pelliclelaw07.GdsTrees': WHATEVER THE INPUT: true; the input reads as it did. -/
def gdsTreesSpec : ChangeSpec := { name := "gdsTrees", fn := fun _ => fun
  | [d1, d2, d3] => { results := [.lit (.bool true)], args := [d1, d2, d3] }
  | _ => none }
def gdsTreesRow : OpenClaim := { program := "ytjgbikhnnkigpaa", sum := "eba2e8f61047610be1264dfd8224d8eeafe00e757280237a2ba10f93f38d6b6a", func := "pellicle/pelliclelaw07.GdsTrees", spec := "gdsTrees", inPlace := ["internal/bytealg.IndexByte", "internal/bytealg.IndexByteString"], unfollowed := true, recurses := true, apart := false }
def GdsTreesSaid : Prop := gdsTreesRow.holds Try.pinned (OpenSpec.ofChange gdsTreesSpec)

/-- ITS FALSE NEIGHBOUR: 'it returns false'. Refute it at one input. -/
def gdsTreesWrong : ChangeSpec := { name := "gdsTrees", fn := fun _ => fun
  | [d1, d2, d3] => { results := [.lit (.bool false)], args := [d1, d2, d3] }
  | _ => none }
def GdsTreesWrongFalsely : Prop := gdsTreesRow.holds Try.pinned (OpenSpec.ofChange gdsTreesWrong)

/-- 'pelliclelaw07.GdsLess': WHATEVER THE INPUT: true; the input reads as it did. -/
def gdsLessSpec : ChangeSpec := { name := "gdsLess", fn := fun _ => fun
  | [d1, d2, d3] => { results := [.lit (.bool true)], args := [d1, d2, d3] }
  | _ => none }
def gdsLessRow : OpenClaim := { program := "ytjgbikhnnkigpaa", sum := "eba2e8f61047610be1264dfd8224d8eeafe00e757280237a2ba10f93f38d6b6a", func := "pellicle/pelliclelaw07.GdsLess", spec := "gdsLess", inPlace := ["internal/bytealg.IndexByte", "internal/bytealg.IndexByteString"], unfollowed := true, recurses := true, apart := false }
def GdsLessSaid : Prop := gdsLessRow.holds Try.pinned (OpenSpec.ofChange gdsLessSpec)

/-- ITS FALSE NEIGHBOUR: 'it returns false'. Refute it at one input. -/
def gdsLessWrong : ChangeSpec := { name := "gdsLess", fn := fun _ => fun
  | [d1, d2, d3] => { results := [.lit (.bool false)], args := [d1, d2, d3] }
  | _ => none }
def GdsLessWrongFalsely : Prop := gdsLessRow.holds Try.pinned (OpenSpec.ofChange gdsLessWrong)

/-- 'pelliclelaw07.GdsFields': WHATEVER THE INPUT: true; the input reads as it did. -/
def gdsFieldsSpec : ChangeSpec := { name := "gdsFields", fn := fun _ => fun
  | [d1, d2] => { results := [.lit (.bool true)], args := [d1, d2] }
  | _ => none }
def gdsFieldsRow : OpenClaim := { program := "ytjgbikhnnkigpaa", sum := "eba2e8f61047610be1264dfd8224d8eeafe00e757280237a2ba10f93f38d6b6a", func := "pellicle/pelliclelaw07.GdsFields", spec := "gdsFields", inPlace := ["internal/bytealg.IndexByte", "internal/bytealg.IndexByteString"], unfollowed := true, recurses := true, apart := false }
def GdsFieldsSaid : Prop := gdsFieldsRow.holds Try.pinned (OpenSpec.ofChange gdsFieldsSpec)

/-- ITS FALSE NEIGHBOUR: 'it returns false'. Refute it at one input. -/
def gdsFieldsWrong : ChangeSpec := { name := "gdsFields", fn := fun _ => fun
  | [d1, d2] => { results := [.lit (.bool false)], args := [d1, d2] }
  | _ => none }
def GdsFieldsWrongFalsely : Prop := gdsFieldsRow.holds Try.pinned (OpenSpec.ofChange gdsFieldsWrong)

/- THE SECOND FORM. 'bulk': how many values and letters a reading holds, each counted each time it is reached (what is shared counts as often as it is met; a slice's spare places count too). A statement '..UptoSaid' is the law's where the arguments, and the package variables that the reading takes, are together of bulk at most 1048576: NARROWER than '..Said'. Prove '..Said' where nothing that the law and all that it calls make is longer than what came in: it says more and counts as full. Else prove '..UptoSaid'. A law counts once. -/
mutual
def uptoBulk {H : Type} : DataW H → Nat
  | .lit (.string bytes) => bytes.length + 1
  | .lit _ => 1
  | .nil => 1
  | .ptr d => uptoBulk d + 1
  | .slice elems spare => uptoBulkAll elems + uptoBulkAll spare + 1
  | .agg parts => uptoBulkAll parts + 1
  | .iface _ d => uptoBulk d + 1
  | .map entries => uptoBulkEntries entries + 1
  | .held _ => 1
def uptoBulkAll {H : Type} : List (DataW H) → Nat
  | [] => 0
  | d :: r => uptoBulk d + uptoBulkAll r
def uptoBulkEntries {H : Type} : List (Lit × DataW H) → Nat
  | [] => 0
  | x :: r => uptoBulkEntry x + uptoBulkEntries r
def uptoBulkEntry {H : Type} : Lit × DataW H → Nat
  | (.string bytes, d) => bytes.length + uptoBulk d + 1
  | (_, d) => uptoBulk d + 1
 end
def uptoSmall : (H : Type) → List (DataW H) → Bool := fun _ ds => decide (uptoBulkAll ds ≤ 1048576)
def OpenSpec.upto (s : _root_.Go.ChangeSpec) : _root_.Go.OpenSpec := { _root_.Go.OpenSpec.ofChange s with cond := some uptoSmall }

/-- 'pelliclelaw06.RecordRight', WHERE WHAT IT READS IS OF BULK AT MOST 1048576: true; the input reads as it did. -/
def recordRightUptoRow : OpenClaim := { program := "ytjgbikhnnkigpaa", sum := "eba2e8f61047610be1264dfd8224d8eeafe00e757280237a2ba10f93f38d6b6a", func := "pellicle/pelliclelaw06.RecordRight", spec := "recordRight", inPlace := ["internal/bytealg.IndexByte", "internal/bytealg.IndexByteString"], unfollowed := true, recurses := true, apart := false, narrowed := true }
def RecordRightUptoSaid : Prop := recordRightUptoRow.holds Try.pinned (OpenSpec.upto recordRightSpec)

/-- 'pelliclelaw06.RecordSplits', WHERE WHAT IT READS IS OF BULK AT MOST 1048576: true; the input reads as it did. -/
def recordSplitsUptoRow : OpenClaim := { program := "ytjgbikhnnkigpaa", sum := "eba2e8f61047610be1264dfd8224d8eeafe00e757280237a2ba10f93f38d6b6a", func := "pellicle/pelliclelaw06.RecordSplits", spec := "recordSplits", inPlace := ["internal/bytealg.IndexByte", "internal/bytealg.IndexByteString"], unfollowed := true, recurses := true, apart := false, narrowed := true }
def RecordSplitsUptoSaid : Prop := recordSplitsUptoRow.holds Try.pinned (OpenSpec.upto recordSplitsSpec)

/-- 'pelliclelaw06.RecordTexts', WHERE WHAT IT READS IS OF BULK AT MOST 1048576: true; the input reads as it did. -/
def recordTextsUptoRow : OpenClaim := { program := "ytjgbikhnnkigpaa", sum := "eba2e8f61047610be1264dfd8224d8eeafe00e757280237a2ba10f93f38d6b6a", func := "pellicle/pelliclelaw06.RecordTexts", spec := "recordTexts", inPlace := ["internal/bytealg.IndexByte", "internal/bytealg.IndexByteString"], unfollowed := true, recurses := true, apart := false, narrowed := true }
def RecordTextsUptoSaid : Prop := recordTextsUptoRow.holds Try.pinned (OpenSpec.upto recordTextsSpec)

/-- 'pelliclelaw06.RecordJoins', WHERE WHAT IT READS IS OF BULK AT MOST 1048576: true; the input reads as it did. -/
def recordJoinsUptoRow : OpenClaim := { program := "ytjgbikhnnkigpaa", sum := "eba2e8f61047610be1264dfd8224d8eeafe00e757280237a2ba10f93f38d6b6a", func := "pellicle/pelliclelaw06.RecordJoins", spec := "recordJoins", inPlace := ["internal/bytealg.IndexByte", "internal/bytealg.IndexByteString"], unfollowed := true, recurses := true, apart := false, narrowed := true }
def RecordJoinsUptoSaid : Prop := recordJoinsUptoRow.holds Try.pinned (OpenSpec.upto recordJoinsSpec)

/-- 'pelliclelaw06.RecordBack', WHERE WHAT IT READS IS OF BULK AT MOST 1048576: true; the input reads as it did. -/
def recordBackUptoRow : OpenClaim := { program := "ytjgbikhnnkigpaa", sum := "eba2e8f61047610be1264dfd8224d8eeafe00e757280237a2ba10f93f38d6b6a", func := "pellicle/pelliclelaw06.RecordBack", spec := "recordBack", inPlace := ["internal/bytealg.IndexByte", "internal/bytealg.IndexByteString"], unfollowed := true, recurses := true, apart := false, narrowed := true }
def RecordBackUptoSaid : Prop := recordBackUptoRow.holds Try.pinned (OpenSpec.upto recordBackSpec)

/-- 'pelliclelaw06.RecordNumbers', WHERE WHAT IT READS IS OF BULK AT MOST 1048576: true; the input reads as it did. -/
def recordNumbersUptoRow : OpenClaim := { program := "ytjgbikhnnkigpaa", sum := "eba2e8f61047610be1264dfd8224d8eeafe00e757280237a2ba10f93f38d6b6a", func := "pellicle/pelliclelaw06.RecordNumbers", spec := "recordNumbers", inPlace := ["internal/bytealg.IndexByte", "internal/bytealg.IndexByteString"], unfollowed := true, recurses := true, apart := false, narrowed := true }
def RecordNumbersUptoSaid : Prop := recordNumbersUptoRow.holds Try.pinned (OpenSpec.upto recordNumbersSpec)

/-- 'pelliclelaw07.GdsReads', WHERE WHAT IT READS IS OF BULK AT MOST 1048576: true; the input reads as it did. -/
def gdsReadsUptoRow : OpenClaim := { program := "ytjgbikhnnkigpaa", sum := "eba2e8f61047610be1264dfd8224d8eeafe00e757280237a2ba10f93f38d6b6a", func := "pellicle/pelliclelaw07.GdsReads", spec := "gdsReads", inPlace := ["internal/bytealg.IndexByte", "internal/bytealg.IndexByteString"], unfollowed := true, recurses := true, apart := false, narrowed := true }
def GdsReadsUptoSaid : Prop := gdsReadsUptoRow.holds Try.pinned (OpenSpec.upto gdsReadsSpec)

/-- 'pelliclelaw07.GdsValid', WHERE WHAT IT READS IS OF BULK AT MOST 1048576: true; the input reads as it did. -/
def gdsValidUptoRow : OpenClaim := { program := "ytjgbikhnnkigpaa", sum := "eba2e8f61047610be1264dfd8224d8eeafe00e757280237a2ba10f93f38d6b6a", func := "pellicle/pelliclelaw07.GdsValid", spec := "gdsValid", inPlace := ["internal/bytealg.IndexByte", "internal/bytealg.IndexByteString"], unfollowed := true, recurses := true, apart := false, narrowed := true }
def GdsValidUptoSaid : Prop := gdsValidUptoRow.holds Try.pinned (OpenSpec.upto gdsValidSpec)

/-- 'pelliclelaw07.GdsBack', WHERE WHAT IT READS IS OF BULK AT MOST 1048576: true; the input reads as it did. -/
def gdsBackUptoRow : OpenClaim := { program := "ytjgbikhnnkigpaa", sum := "eba2e8f61047610be1264dfd8224d8eeafe00e757280237a2ba10f93f38d6b6a", func := "pellicle/pelliclelaw07.GdsBack", spec := "gdsBack", inPlace := ["internal/bytealg.IndexByte", "internal/bytealg.IndexByteString"], unfollowed := true, recurses := true, apart := false, narrowed := true }
def GdsBackUptoSaid : Prop := gdsBackUptoRow.holds Try.pinned (OpenSpec.upto gdsBackSpec)

/-- 'pelliclelaw07.GdsTrees', WHERE WHAT IT READS IS OF BULK AT MOST 1048576: true; the input reads as it did. -/
def gdsTreesUptoRow : OpenClaim := { program := "ytjgbikhnnkigpaa", sum := "eba2e8f61047610be1264dfd8224d8eeafe00e757280237a2ba10f93f38d6b6a", func := "pellicle/pelliclelaw07.GdsTrees", spec := "gdsTrees", inPlace := ["internal/bytealg.IndexByte", "internal/bytealg.IndexByteString"], unfollowed := true, recurses := true, apart := false, narrowed := true }
def GdsTreesUptoSaid : Prop := gdsTreesUptoRow.holds Try.pinned (OpenSpec.upto gdsTreesSpec)

/-- 'pelliclelaw07.GdsLess', WHERE WHAT IT READS IS OF BULK AT MOST 1048576: true; the input reads as it did. -/
def gdsLessUptoRow : OpenClaim := { program := "ytjgbikhnnkigpaa", sum := "eba2e8f61047610be1264dfd8224d8eeafe00e757280237a2ba10f93f38d6b6a", func := "pellicle/pelliclelaw07.GdsLess", spec := "gdsLess", inPlace := ["internal/bytealg.IndexByte", "internal/bytealg.IndexByteString"], unfollowed := true, recurses := true, apart := false, narrowed := true }
def GdsLessUptoSaid : Prop := gdsLessUptoRow.holds Try.pinned (OpenSpec.upto gdsLessSpec)

/-- 'pelliclelaw07.GdsFields', WHERE WHAT IT READS IS OF BULK AT MOST 1048576: true; the input reads as it did. -/
def gdsFieldsUptoRow : OpenClaim := { program := "ytjgbikhnnkigpaa", sum := "eba2e8f61047610be1264dfd8224d8eeafe00e757280237a2ba10f93f38d6b6a", func := "pellicle/pelliclelaw07.GdsFields", spec := "gdsFields", inPlace := ["internal/bytealg.IndexByte", "internal/bytealg.IndexByteString"], unfollowed := true, recurses := true, apart := false, narrowed := true }
def GdsFieldsUptoSaid : Prop := gdsFieldsUptoRow.holds Try.pinned (OpenSpec.upto gdsFieldsSpec)

end Rows
end Go.Proofs.Ytjgbikhnnkigpaa

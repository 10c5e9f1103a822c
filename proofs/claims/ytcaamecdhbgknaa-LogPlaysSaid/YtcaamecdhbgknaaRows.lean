/-
  No cell of these rows narrows 'for every input' (looked for: loops, veiled, ifaces, maps, wideKeys, modest, calm, conditions, laid).
  DERIVED. THE GIVEN ROWS OF THIS SEAT. 16 by the template 'for every input the law returns true; each argument reads behind the call as it read before'; 0 by the template 'total and deterministic' (their statements: YtcaamecdhbgknaaTotals.lean).
  GIVEN WITH THE SEED: the statements are not yours to turn. If you find one false, say at which input.
  Laid BY PROGRAM, IN A SANDBOX (cutbox-rows.mjs): the forced cells as the released guide's own fill.sh prints them over the translation 37646e0762165f58… (all of the seat's roots in one cut). By AI agents, Wed Nov 11 2026. No macro, syntax, notation, axiom, sorry.
-/
import Derived.Test.YtcaamecdhbgknaaChecked
import GoSem.Claim
import GoSem.ClaimJoined
import GoSem.ClaimMapViews
import Derived.JoinedTies
import Derived.KernelRfl
namespace Go.Proofs.Ytcaamecdhbgknaa
/- THE CELL 'sum', in the pinned program and in every row, IS THE sha256 OF THE DUMP (.gsa) THAT YtcaamecdhbgknaaProg.lean LOADS. Nothing in Lean hashes anything: it is a label: what it is worth is what the hold of that sum in a sandbox is worth. -/
noncomputable def Try.pinned : Pinned := { name := "ytcaamecdhbgknaa", sum := "37646e0762165f58c65480fbf5dbed5e264cf12c58a83c2ed4aa92c82b7407e6", checked := Try.checked }
namespace Rows
def none {H : Type} : Left H := { results := [], args := [] }

/-- 'rhizomelaw03.DiskReads': WHATEVER THE INPUT: true; the input reads as it did. -/
def diskReadsSpec : ChangeSpec := { name := "diskReads", fn := fun _ => fun
  | [d1, d2, d3] => { results := [.lit (.bool true)], args := [d1, d2, d3] }
  | _ => none }
def diskReadsRow : OpenClaim := { program := "ytcaamecdhbgknaa", sum := "37646e0762165f58c65480fbf5dbed5e264cf12c58a83c2ed4aa92c82b7407e6", func := "rhizome/rhizomelaw03.DiskReads", spec := "diskReads", inPlace := ["maps.clone"], unfollowed := true, recurses := true, apart := false }
def DiskReadsSaid : Prop := diskReadsRow.holds Try.pinned (OpenSpec.ofChange diskReadsSpec)

/-- ITS FALSE NEIGHBOUR: 'it returns false'. Refute it at one input. -/
def diskReadsWrong : ChangeSpec := { name := "diskReads", fn := fun _ => fun
  | [d1, d2, d3] => { results := [.lit (.bool false)], args := [d1, d2, d3] }
  | _ => none }
def DiskReadsWrongFalsely : Prop := diskReadsRow.holds Try.pinned (OpenSpec.ofChange diskReadsWrong)

/-- 'rhizomelaw03.DiskLast': WHATEVER THE INPUT: true; the input reads as it did. -/
def diskLastSpec : ChangeSpec := { name := "diskLast", fn := fun _ => fun
  | [d1, d2, d3] => { results := [.lit (.bool true)], args := [d1, d2, d3] }
  | _ => none }
def diskLastRow : OpenClaim := { program := "ytcaamecdhbgknaa", sum := "37646e0762165f58c65480fbf5dbed5e264cf12c58a83c2ed4aa92c82b7407e6", func := "rhizome/rhizomelaw03.DiskLast", spec := "diskLast", inPlace := ["maps.clone"], unfollowed := true, recurses := true, apart := false }
def DiskLastSaid : Prop := diskLastRow.holds Try.pinned (OpenSpec.ofChange diskLastSpec)

/-- ITS FALSE NEIGHBOUR: 'it returns false'. Refute it at one input. -/
def diskLastWrong : ChangeSpec := { name := "diskLast", fn := fun _ => fun
  | [d1, d2, d3] => { results := [.lit (.bool false)], args := [d1, d2, d3] }
  | _ => none }
def DiskLastWrongFalsely : Prop := diskLastRow.holds Try.pinned (OpenSpec.ofChange diskLastWrong)

/-- 'rhizomelaw03.DiskSure': WHATEVER THE INPUT: true; the input reads as it did. -/
def diskSureSpec : ChangeSpec := { name := "diskSure", fn := fun _ => fun
  | [d1, d2, d3] => { results := [.lit (.bool true)], args := [d1, d2, d3] }
  | _ => none }
def diskSureRow : OpenClaim := { program := "ytcaamecdhbgknaa", sum := "37646e0762165f58c65480fbf5dbed5e264cf12c58a83c2ed4aa92c82b7407e6", func := "rhizome/rhizomelaw03.DiskSure", spec := "diskSure", inPlace := ["maps.clone"], unfollowed := true, recurses := true, apart := false }
def DiskSureSaid : Prop := diskSureRow.holds Try.pinned (OpenSpec.ofChange diskSureSpec)

/-- ITS FALSE NEIGHBOUR: 'it returns false'. Refute it at one input. -/
def diskSureWrong : ChangeSpec := { name := "diskSure", fn := fun _ => fun
  | [d1, d2, d3] => { results := [.lit (.bool false)], args := [d1, d2, d3] }
  | _ => none }
def DiskSureWrongFalsely : Prop := diskSureRow.holds Try.pinned (OpenSpec.ofChange diskSureWrong)

/-- 'rhizomelaw03.DiskArmed': WHATEVER THE INPUT: true; the input reads as it did. -/
def diskArmedSpec : ChangeSpec := { name := "diskArmed", fn := fun _ => fun
  | [d1, d2] => { results := [.lit (.bool true)], args := [d1, d2] }
  | _ => none }
def diskArmedRow : OpenClaim := { program := "ytcaamecdhbgknaa", sum := "37646e0762165f58c65480fbf5dbed5e264cf12c58a83c2ed4aa92c82b7407e6", func := "rhizome/rhizomelaw03.DiskArmed", spec := "diskArmed", inPlace := ["maps.clone"], unfollowed := true, recurses := true, apart := false }
def DiskArmedSaid : Prop := diskArmedRow.holds Try.pinned (OpenSpec.ofChange diskArmedSpec)

/-- ITS FALSE NEIGHBOUR: 'it returns false'. Refute it at one input. -/
def diskArmedWrong : ChangeSpec := { name := "diskArmed", fn := fun _ => fun
  | [d1, d2] => { results := [.lit (.bool false)], args := [d1, d2] }
  | _ => none }
def DiskArmedWrongFalsely : Prop := diskArmedRow.holds Try.pinned (OpenSpec.ofChange diskArmedWrong)

/-- 'rhizomelaw03.DiskPlays': WHATEVER THE INPUT: true; the input reads as it did. -/
def diskPlaysSpec : ChangeSpec := { name := "diskPlays", fn := fun _ => fun
  | [d1, d2] => { results := [.lit (.bool true)], args := [d1, d2] }
  | _ => none }
def diskPlaysRow : OpenClaim := { program := "ytcaamecdhbgknaa", sum := "37646e0762165f58c65480fbf5dbed5e264cf12c58a83c2ed4aa92c82b7407e6", func := "rhizome/rhizomelaw03.DiskPlays", spec := "diskPlays", inPlace := ["maps.clone"], unfollowed := true, recurses := true, apart := false }
def DiskPlaysSaid : Prop := diskPlaysRow.holds Try.pinned (OpenSpec.ofChange diskPlaysSpec)

/-- ITS FALSE NEIGHBOUR: 'it returns false'. Refute it at one input. -/
def diskPlaysWrong : ChangeSpec := { name := "diskPlays", fn := fun _ => fun
  | [d1, d2] => { results := [.lit (.bool false)], args := [d1, d2] }
  | _ => none }
def DiskPlaysWrongFalsely : Prop := diskPlaysRow.holds Try.pinned (OpenSpec.ofChange diskPlaysWrong)

/-- 'rhizomelaw03.DiskTwice': WHATEVER THE INPUT: true; the input reads as it did. -/
def diskTwiceSpec : ChangeSpec := { name := "diskTwice", fn := fun _ => fun
  | [d1, d2, d3] => { results := [.lit (.bool true)], args := [d1, d2, d3] }
  | _ => none }
def diskTwiceRow : OpenClaim := { program := "ytcaamecdhbgknaa", sum := "37646e0762165f58c65480fbf5dbed5e264cf12c58a83c2ed4aa92c82b7407e6", func := "rhizome/rhizomelaw03.DiskTwice", spec := "diskTwice", inPlace := ["maps.clone"], unfollowed := true, recurses := true, apart := false }
def DiskTwiceSaid : Prop := diskTwiceRow.holds Try.pinned (OpenSpec.ofChange diskTwiceSpec)

/-- ITS FALSE NEIGHBOUR: 'it returns false'. Refute it at one input. -/
def diskTwiceWrong : ChangeSpec := { name := "diskTwice", fn := fun _ => fun
  | [d1, d2, d3] => { results := [.lit (.bool false)], args := [d1, d2, d3] }
  | _ => none }
def DiskTwiceWrongFalsely : Prop := diskTwiceRow.holds Try.pinned (OpenSpec.ofChange diskTwiceWrong)

/-- 'rhizomelaw04.LogRoom': WHATEVER THE INPUT: true; the input reads as it did. -/
def logRoomSpec : ChangeSpec := { name := "logRoom", fn := fun _ => fun
  | [d1, d2] => { results := [.lit (.bool true)], args := [d1, d2] }
  | _ => none }
def logRoomRow : OpenClaim := { program := "ytcaamecdhbgknaa", sum := "37646e0762165f58c65480fbf5dbed5e264cf12c58a83c2ed4aa92c82b7407e6", func := "rhizome/rhizomelaw04.LogRoom", spec := "logRoom", apart := false }
def LogRoomSaid : Prop := logRoomRow.holds Try.pinned (OpenSpec.ofChange logRoomSpec)

/-- ITS FALSE NEIGHBOUR: 'it returns false'. Refute it at one input. -/
def logRoomWrong : ChangeSpec := { name := "logRoom", fn := fun _ => fun
  | [d1, d2] => { results := [.lit (.bool false)], args := [d1, d2] }
  | _ => none }
def LogRoomWrongFalsely : Prop := logRoomRow.holds Try.pinned (OpenSpec.ofChange logRoomWrong)

/-- 'rhizomelaw04.LogReads': WHATEVER THE INPUT: true; the input reads as it did. -/
def logReadsSpec : ChangeSpec := { name := "logReads", fn := fun _ => fun
  | [d1, d2, d3] => { results := [.lit (.bool true)], args := [d1, d2, d3] }
  | _ => none }
def logReadsRow : OpenClaim := { program := "ytcaamecdhbgknaa", sum := "37646e0762165f58c65480fbf5dbed5e264cf12c58a83c2ed4aa92c82b7407e6", func := "rhizome/rhizomelaw04.LogReads", spec := "logReads", unfollowed := true, recurses := true, apart := false }
def LogReadsSaid : Prop := logReadsRow.holds Try.pinned (OpenSpec.ofChange logReadsSpec)

/-- ITS FALSE NEIGHBOUR: 'it returns false'. Refute it at one input. -/
def logReadsWrong : ChangeSpec := { name := "logReads", fn := fun _ => fun
  | [d1, d2, d3] => { results := [.lit (.bool false)], args := [d1, d2, d3] }
  | _ => none }
def LogReadsWrongFalsely : Prop := logReadsRow.holds Try.pinned (OpenSpec.ofChange logReadsWrong)

/-- 'rhizomelaw04.LogWhole': WHATEVER THE INPUT: true; the input reads as it did. -/
def logWholeSpec : ChangeSpec := { name := "logWhole", fn := fun _ => fun
  | [d1, d2, d3] => { results := [.lit (.bool true)], args := [d1, d2, d3] }
  | _ => none }
def logWholeRow : OpenClaim := { program := "ytcaamecdhbgknaa", sum := "37646e0762165f58c65480fbf5dbed5e264cf12c58a83c2ed4aa92c82b7407e6", func := "rhizome/rhizomelaw04.LogWhole", spec := "logWhole", inPlace := ["maps.clone"], unfollowed := true, recurses := true, apart := false }
def LogWholeSaid : Prop := logWholeRow.holds Try.pinned (OpenSpec.ofChange logWholeSpec)

/-- ITS FALSE NEIGHBOUR: 'it returns false'. Refute it at one input. -/
def logWholeWrong : ChangeSpec := { name := "logWhole", fn := fun _ => fun
  | [d1, d2, d3] => { results := [.lit (.bool false)], args := [d1, d2, d3] }
  | _ => none }
def LogWholeWrongFalsely : Prop := logWholeRow.holds Try.pinned (OpenSpec.ofChange logWholeWrong)

/-- 'rhizomelaw04.LogAgain': WHATEVER THE INPUT: true; the input reads as it did. -/
def logAgainSpec : ChangeSpec := { name := "logAgain", fn := fun _ => fun
  | [d1, d2, d3] => { results := [.lit (.bool true)], args := [d1, d2, d3] }
  | _ => none }
def logAgainRow : OpenClaim := { program := "ytcaamecdhbgknaa", sum := "37646e0762165f58c65480fbf5dbed5e264cf12c58a83c2ed4aa92c82b7407e6", func := "rhizome/rhizomelaw04.LogAgain", spec := "logAgain", inPlace := ["maps.clone"], unfollowed := true, recurses := true, apart := false }
def LogAgainSaid : Prop := logAgainRow.holds Try.pinned (OpenSpec.ofChange logAgainSpec)

/-- ITS FALSE NEIGHBOUR: 'it returns false'. Refute it at one input. -/
def logAgainWrong : ChangeSpec := { name := "logAgain", fn := fun _ => fun
  | [d1, d2, d3] => { results := [.lit (.bool false)], args := [d1, d2, d3] }
  | _ => none }
def LogAgainWrongFalsely : Prop := logAgainRow.holds Try.pinned (OpenSpec.ofChange logAgainWrong)

/-- 'rhizomelaw04.LogPlays': WHATEVER THE INPUT: true; the input reads as it did. -/
def logPlaysSpec : ChangeSpec := { name := "logPlays", fn := fun _ => fun
  | [d1, d2] => { results := [.lit (.bool true)], args := [d1, d2] }
  | _ => none }
def logPlaysRow : OpenClaim := { program := "ytcaamecdhbgknaa", sum := "37646e0762165f58c65480fbf5dbed5e264cf12c58a83c2ed4aa92c82b7407e6", func := "rhizome/rhizomelaw04.LogPlays", spec := "logPlays", inPlace := ["maps.clone"], unfollowed := true, recurses := true, apart := false }
def LogPlaysSaid : Prop := logPlaysRow.holds Try.pinned (OpenSpec.ofChange logPlaysSpec)

/-- ITS FALSE NEIGHBOUR: 'it returns false'. Refute it at one input. -/
def logPlaysWrong : ChangeSpec := { name := "logPlays", fn := fun _ => fun
  | [d1, d2] => { results := [.lit (.bool false)], args := [d1, d2] }
  | _ => none }
def LogPlaysWrongFalsely : Prop := logPlaysRow.holds Try.pinned (OpenSpec.ofChange logPlaysWrong)

/-- 'rhizomelaw04.LogResets': WHATEVER THE INPUT: true; the input reads as it did. -/
def logResetsSpec : ChangeSpec := { name := "logResets", fn := fun _ => fun
  | [d1, d2, d3] => { results := [.lit (.bool true)], args := [d1, d2, d3] }
  | _ => none }
def logResetsRow : OpenClaim := { program := "ytcaamecdhbgknaa", sum := "37646e0762165f58c65480fbf5dbed5e264cf12c58a83c2ed4aa92c82b7407e6", func := "rhizome/rhizomelaw04.LogResets", spec := "logResets", inPlace := ["maps.clone"], unfollowed := true, recurses := true, apart := false }
def LogResetsSaid : Prop := logResetsRow.holds Try.pinned (OpenSpec.ofChange logResetsSpec)

/-- ITS FALSE NEIGHBOUR: 'it returns false'. Refute it at one input. -/
def logResetsWrong : ChangeSpec := { name := "logResets", fn := fun _ => fun
  | [d1, d2, d3] => { results := [.lit (.bool false)], args := [d1, d2, d3] }
  | _ => none }
def LogResetsWrongFalsely : Prop := logResetsRow.holds Try.pinned (OpenSpec.ofChange logResetsWrong)

/-- 'rhizomelaw05.ImageTurns': WHATEVER THE INPUT: true; the input reads as it did. -/
def imageTurnsSpec : ChangeSpec := { name := "imageTurns", fn := fun _ => fun
  | [d] => { results := [.lit (.bool true)], args := [d] }
  | _ => none }
def imageTurnsRow : OpenClaim := { program := "ytcaamecdhbgknaa", sum := "37646e0762165f58c65480fbf5dbed5e264cf12c58a83c2ed4aa92c82b7407e6", func := "rhizome/rhizomelaw05.ImageTurns", spec := "imageTurns", unfollowed := true, recurses := true, apart := false }
def ImageTurnsSaid : Prop := imageTurnsRow.holds Try.pinned (OpenSpec.ofChange imageTurnsSpec)

/-- ITS FALSE NEIGHBOUR: 'it returns false'. Refute it at one input. -/
def imageTurnsWrong : ChangeSpec := { name := "imageTurns", fn := fun _ => fun
  | [d] => { results := [.lit (.bool false)], args := [d] }
  | _ => none }
def ImageTurnsWrongFalsely : Prop := imageTurnsRow.holds Try.pinned (OpenSpec.ofChange imageTurnsWrong)

/-- 'rhizomelaw05.ImageSizes': WHATEVER THE INPUT: true; the input reads as it did. -/
def imageSizesSpec : ChangeSpec := { name := "imageSizes", fn := fun _ => fun
  | [d1, d2, d3] => { results := [.lit (.bool true)], args := [d1, d2, d3] }
  | _ => none }
def imageSizesRow : OpenClaim := { program := "ytcaamecdhbgknaa", sum := "37646e0762165f58c65480fbf5dbed5e264cf12c58a83c2ed4aa92c82b7407e6", func := "rhizome/rhizomelaw05.ImageSizes", spec := "imageSizes", unfollowed := true, recurses := true, apart := false }
def ImageSizesSaid : Prop := imageSizesRow.holds Try.pinned (OpenSpec.ofChange imageSizesSpec)

/-- ITS FALSE NEIGHBOUR: 'it returns false'. Refute it at one input. -/
def imageSizesWrong : ChangeSpec := { name := "imageSizes", fn := fun _ => fun
  | [d1, d2, d3] => { results := [.lit (.bool false)], args := [d1, d2, d3] }
  | _ => none }
def ImageSizesWrongFalsely : Prop := imageSizesRow.holds Try.pinned (OpenSpec.ofChange imageSizesWrong)

/-- 'rhizomelaw05.ImageReads': WHATEVER THE INPUT: true; the input reads as it did. -/
def imageReadsSpec : ChangeSpec := { name := "imageReads", fn := fun _ => fun
  | [d1, d2, d3] => { results := [.lit (.bool true)], args := [d1, d2, d3] }
  | _ => none }
def imageReadsRow : OpenClaim := { program := "ytcaamecdhbgknaa", sum := "37646e0762165f58c65480fbf5dbed5e264cf12c58a83c2ed4aa92c82b7407e6", func := "rhizome/rhizomelaw05.ImageReads", spec := "imageReads", unfollowed := true, recurses := true, apart := false }
def ImageReadsSaid : Prop := imageReadsRow.holds Try.pinned (OpenSpec.ofChange imageReadsSpec)

/-- ITS FALSE NEIGHBOUR: 'it returns false'. Refute it at one input. -/
def imageReadsWrong : ChangeSpec := { name := "imageReads", fn := fun _ => fun
  | [d1, d2, d3] => { results := [.lit (.bool false)], args := [d1, d2, d3] }
  | _ => none }
def ImageReadsWrongFalsely : Prop := imageReadsRow.holds Try.pinned (OpenSpec.ofChange imageReadsWrong)

/-- 'rhizomelaw05.ImageWhole': WHATEVER THE INPUT: true; the input reads as it did. -/
def imageWholeSpec : ChangeSpec := { name := "imageWhole", fn := fun _ => fun
  | [d1, d2, d3] => { results := [.lit (.bool true)], args := [d1, d2, d3] }
  | _ => none }
def imageWholeRow : OpenClaim := { program := "ytcaamecdhbgknaa", sum := "37646e0762165f58c65480fbf5dbed5e264cf12c58a83c2ed4aa92c82b7407e6", func := "rhizome/rhizomelaw05.ImageWhole", spec := "imageWhole", inPlace := ["maps.clone"], unfollowed := true, recurses := true, apart := false }
def ImageWholeSaid : Prop := imageWholeRow.holds Try.pinned (OpenSpec.ofChange imageWholeSpec)

/-- ITS FALSE NEIGHBOUR: 'it returns false'. Refute it at one input. -/
def imageWholeWrong : ChangeSpec := { name := "imageWhole", fn := fun _ => fun
  | [d1, d2, d3] => { results := [.lit (.bool false)], args := [d1, d2, d3] }
  | _ => none }
def ImageWholeWrongFalsely : Prop := imageWholeRow.holds Try.pinned (OpenSpec.ofChange imageWholeWrong)

/- THE SECOND FORM. 'bulk': how many values and letters a reading holds, each counted each time it is reached (what is shared counts as often as it is met; a slice's spare places count too). A statement '..UptoSaid' is the law's where the arguments, and the package variables that the reading takes, are together of bulk at most 1048576: NARROWER than '..Said'. Prove '..Said' where nothing that the law and all that it calls make is longer than what came in: it says more and counts as full. Else prove '..UptoSaid'. A law counts once. -/
mutual
def uptoBulk {H : Type} : DataW H → Nat
  | .lit (.string bytes) => bytes.length + 1
  | .lit _ => 1
  | .nil => 1
  | .ptr d => uptoBulk d + 1
  | .slice elems spare => uptoBulkAll elems + uptoBulkAll spare + 1
  | .agg parts => uptoBulkAll parts + 1
  | .iface _ d => uptoBulk d + 1
  | .map entries => uptoBulkEntries entries + 1
  | .held _ => 1
def uptoBulkAll {H : Type} : List (DataW H) → Nat
  | [] => 0
  | d :: r => uptoBulk d + uptoBulkAll r
def uptoBulkEntries {H : Type} : List (Lit × DataW H) → Nat
  | [] => 0
  | x :: r => uptoBulkEntry x + uptoBulkEntries r
def uptoBulkEntry {H : Type} : Lit × DataW H → Nat
  | (.string bytes, d) => bytes.length + uptoBulk d + 1
  | (_, d) => uptoBulk d + 1
 end
def uptoSmall : (H : Type) → List (DataW H) → Bool := fun _ ds => decide (uptoBulkAll ds ≤ 1048576)
def OpenSpec.upto (s : _root_.Go.ChangeSpec) : _root_.Go.OpenSpec := { _root_.Go.OpenSpec.ofChange s with cond := some uptoSmall }

/-- 'rhizomelaw03.DiskReads', WHERE WHAT IT READS IS OF BULK AT MOST 1048576: true; the input reads as it did. -/
def diskReadsUptoRow : OpenClaim := { program := "ytcaamecdhbgknaa", sum := "37646e0762165f58c65480fbf5dbed5e264cf12c58a83c2ed4aa92c82b7407e6", func := "rhizome/rhizomelaw03.DiskReads", spec := "diskReads", inPlace := ["maps.clone"], unfollowed := true, recurses := true, apart := false, narrowed := true }
def DiskReadsUptoSaid : Prop := diskReadsUptoRow.holds Try.pinned (OpenSpec.upto diskReadsSpec)

/-- 'rhizomelaw03.DiskLast', WHERE WHAT IT READS IS OF BULK AT MOST 1048576: true; the input reads as it did. -/
def diskLastUptoRow : OpenClaim := { program := "ytcaamecdhbgknaa", sum := "37646e0762165f58c65480fbf5dbed5e264cf12c58a83c2ed4aa92c82b7407e6", func := "rhizome/rhizomelaw03.DiskLast", spec := "diskLast", inPlace := ["maps.clone"], unfollowed := true, recurses := true, apart := false, narrowed := true }
def DiskLastUptoSaid : Prop := diskLastUptoRow.holds Try.pinned (OpenSpec.upto diskLastSpec)

/-- 'rhizomelaw03.DiskSure', WHERE WHAT IT READS IS OF BULK AT MOST 1048576: true; the input reads as it did. -/
def diskSureUptoRow : OpenClaim := { program := "ytcaamecdhbgknaa", sum := "37646e0762165f58c65480fbf5dbed5e264cf12c58a83c2ed4aa92c82b7407e6", func := "rhizome/rhizomelaw03.DiskSure", spec := "diskSure", inPlace := ["maps.clone"], unfollowed := true, recurses := true, apart := false, narrowed := true }
def DiskSureUptoSaid : Prop := diskSureUptoRow.holds Try.pinned (OpenSpec.upto diskSureSpec)

/-- 'rhizomelaw03.DiskArmed', WHERE WHAT IT READS IS OF BULK AT MOST 1048576: true; the input reads as it did. -/
def diskArmedUptoRow : OpenClaim := { program := "ytcaamecdhbgknaa", sum := "37646e0762165f58c65480fbf5dbed5e264cf12c58a83c2ed4aa92c82b7407e6", func := "rhizome/rhizomelaw03.DiskArmed", spec := "diskArmed", inPlace := ["maps.clone"], unfollowed := true, recurses := true, apart := false, narrowed := true }
def DiskArmedUptoSaid : Prop := diskArmedUptoRow.holds Try.pinned (OpenSpec.upto diskArmedSpec)

/-- 'rhizomelaw03.DiskPlays', WHERE WHAT IT READS IS OF BULK AT MOST 1048576: true; the input reads as it did. -/
def diskPlaysUptoRow : OpenClaim := { program := "ytcaamecdhbgknaa", sum := "37646e0762165f58c65480fbf5dbed5e264cf12c58a83c2ed4aa92c82b7407e6", func := "rhizome/rhizomelaw03.DiskPlays", spec := "diskPlays", inPlace := ["maps.clone"], unfollowed := true, recurses := true, apart := false, narrowed := true }
def DiskPlaysUptoSaid : Prop := diskPlaysUptoRow.holds Try.pinned (OpenSpec.upto diskPlaysSpec)

/-- 'rhizomelaw03.DiskTwice', WHERE WHAT IT READS IS OF BULK AT MOST 1048576: true; the input reads as it did. -/
def diskTwiceUptoRow : OpenClaim := { program := "ytcaamecdhbgknaa", sum := "37646e0762165f58c65480fbf5dbed5e264cf12c58a83c2ed4aa92c82b7407e6", func := "rhizome/rhizomelaw03.DiskTwice", spec := "diskTwice", inPlace := ["maps.clone"], unfollowed := true, recurses := true, apart := false, narrowed := true }
def DiskTwiceUptoSaid : Prop := diskTwiceUptoRow.holds Try.pinned (OpenSpec.upto diskTwiceSpec)

/-- 'rhizomelaw04.LogRoom', WHERE WHAT IT READS IS OF BULK AT MOST 1048576: true; the input reads as it did. -/
def logRoomUptoRow : OpenClaim := { program := "ytcaamecdhbgknaa", sum := "37646e0762165f58c65480fbf5dbed5e264cf12c58a83c2ed4aa92c82b7407e6", func := "rhizome/rhizomelaw04.LogRoom", spec := "logRoom", apart := false, narrowed := true }
def LogRoomUptoSaid : Prop := logRoomUptoRow.holds Try.pinned (OpenSpec.upto logRoomSpec)

/-- 'rhizomelaw04.LogReads', WHERE WHAT IT READS IS OF BULK AT MOST 1048576: true; the input reads as it did. -/
def logReadsUptoRow : OpenClaim := { program := "ytcaamecdhbgknaa", sum := "37646e0762165f58c65480fbf5dbed5e264cf12c58a83c2ed4aa92c82b7407e6", func := "rhizome/rhizomelaw04.LogReads", spec := "logReads", unfollowed := true, recurses := true, apart := false, narrowed := true }
def LogReadsUptoSaid : Prop := logReadsUptoRow.holds Try.pinned (OpenSpec.upto logReadsSpec)

/-- 'rhizomelaw04.LogWhole', WHERE WHAT IT READS IS OF BULK AT MOST 1048576: true; the input reads as it did. -/
def logWholeUptoRow : OpenClaim := { program := "ytcaamecdhbgknaa", sum := "37646e0762165f58c65480fbf5dbed5e264cf12c58a83c2ed4aa92c82b7407e6", func := "rhizome/rhizomelaw04.LogWhole", spec := "logWhole", inPlace := ["maps.clone"], unfollowed := true, recurses := true, apart := false, narrowed := true }
def LogWholeUptoSaid : Prop := logWholeUptoRow.holds Try.pinned (OpenSpec.upto logWholeSpec)

/-- 'rhizomelaw04.LogAgain', WHERE WHAT IT READS IS OF BULK AT MOST 1048576: true; the input reads as it did. -/
def logAgainUptoRow : OpenClaim := { program := "ytcaamecdhbgknaa", sum := "37646e0762165f58c65480fbf5dbed5e264cf12c58a83c2ed4aa92c82b7407e6", func := "rhizome/rhizomelaw04.LogAgain", spec := "logAgain", inPlace := ["maps.clone"], unfollowed := true, recurses := true, apart := false, narrowed := true }
def LogAgainUptoSaid : Prop := logAgainUptoRow.holds Try.pinned (OpenSpec.upto logAgainSpec)

/-- 'rhizomelaw04.LogPlays', WHERE WHAT IT READS IS OF BULK AT MOST 1048576: true; the input reads as it did. -/
def logPlaysUptoRow : OpenClaim := { program := "ytcaamecdhbgknaa", sum := "37646e0762165f58c65480fbf5dbed5e264cf12c58a83c2ed4aa92c82b7407e6", func := "rhizome/rhizomelaw04.LogPlays", spec := "logPlays", inPlace := ["maps.clone"], unfollowed := true, recurses := true, apart := false, narrowed := true }
def LogPlaysUptoSaid : Prop := logPlaysUptoRow.holds Try.pinned (OpenSpec.upto logPlaysSpec)

/-- 'rhizomelaw04.LogResets', WHERE WHAT IT READS IS OF BULK AT MOST 1048576: true; the input reads as it did. -/
def logResetsUptoRow : OpenClaim := { program := "ytcaamecdhbgknaa", sum := "37646e0762165f58c65480fbf5dbed5e264cf12c58a83c2ed4aa92c82b7407e6", func := "rhizome/rhizomelaw04.LogResets", spec := "logResets", inPlace := ["maps.clone"], unfollowed := true, recurses := true, apart := false, narrowed := true }
def LogResetsUptoSaid : Prop := logResetsUptoRow.holds Try.pinned (OpenSpec.upto logResetsSpec)

/-- 'rhizomelaw05.ImageTurns', WHERE WHAT IT READS IS OF BULK AT MOST 1048576: true; the input reads as it did. -/
def imageTurnsUptoRow : OpenClaim := { program := "ytcaamecdhbgknaa", sum := "37646e0762165f58c65480fbf5dbed5e264cf12c58a83c2ed4aa92c82b7407e6", func := "rhizome/rhizomelaw05.ImageTurns", spec := "imageTurns", unfollowed := true, recurses := true, apart := false, narrowed := true }
def ImageTurnsUptoSaid : Prop := imageTurnsUptoRow.holds Try.pinned (OpenSpec.upto imageTurnsSpec)

/-- 'rhizomelaw05.ImageSizes', WHERE WHAT IT READS IS OF BULK AT MOST 1048576: true; the input reads as it did. -/
def imageSizesUptoRow : OpenClaim := { program := "ytcaamecdhbgknaa", sum := "37646e0762165f58c65480fbf5dbed5e264cf12c58a83c2ed4aa92c82b7407e6", func := "rhizome/rhizomelaw05.ImageSizes", spec := "imageSizes", unfollowed := true, recurses := true, apart := false, narrowed := true }
def ImageSizesUptoSaid : Prop := imageSizesUptoRow.holds Try.pinned (OpenSpec.upto imageSizesSpec)

/-- 'rhizomelaw05.ImageReads', WHERE WHAT IT READS IS OF BULK AT MOST 1048576: true; the input reads as it did. -/
def imageReadsUptoRow : OpenClaim := { program := "ytcaamecdhbgknaa", sum := "37646e0762165f58c65480fbf5dbed5e264cf12c58a83c2ed4aa92c82b7407e6", func := "rhizome/rhizomelaw05.ImageReads", spec := "imageReads", unfollowed := true, recurses := true, apart := false, narrowed := true }
def ImageReadsUptoSaid : Prop := imageReadsUptoRow.holds Try.pinned (OpenSpec.upto imageReadsSpec)

/-- 'rhizomelaw05.ImageWhole', WHERE WHAT IT READS IS OF BULK AT MOST 1048576: true; the input reads as it did. -/
def imageWholeUptoRow : OpenClaim := { program := "ytcaamecdhbgknaa", sum := "37646e0762165f58c65480fbf5dbed5e264cf12c58a83c2ed4aa92c82b7407e6", func := "rhizome/rhizomelaw05.ImageWhole", spec := "imageWhole", inPlace := ["maps.clone"], unfollowed := true, recurses := true, apart := false, narrowed := true }
def ImageWholeUptoSaid : Prop := imageWholeUptoRow.holds Try.pinned (OpenSpec.upto imageWholeSpec)

end Rows
end Go.Proofs.Ytcaamecdhbgknaa

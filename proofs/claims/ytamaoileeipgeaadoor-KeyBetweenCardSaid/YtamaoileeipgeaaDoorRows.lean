/-
  NARROWER THAN 'FOR EVERY INPUT', by the rows' own cells (each row's printed sentence says how): KeyEnds: laid · KeyBetween: laid · KeyWrites: laid · KeyReads: laid · KeyOwn: laid · KeyOrders: laid · KeyThree: laid.
  DERIVED. THE GIVEN ROWS OF THIS SEAT. 7 by the template 'for every input the law returns true; each argument reads behind the call as it read before'; 0 by the template 'total and deterministic' (their statements: YtamaoileeipgeaaDoorTotals.lean).
  GIVEN WITH THE SEED: the statements are not yours to turn. If you find one false, say at which input.
  Laid BY PROGRAM, IN A SANDBOX (cutbox-rows.mjs): the forced cells as the released guide's own fill.sh prints them over the translation 403f79d4c5efeb01… (all of the seat's roots in one cut). By AI agents, Wed Nov 11 2026. No macro, syntax, notation, axiom, sorry.
-/
import Derived.Test.YtamaoileeipgeaaDoorChecked
import GoSem.PinnedTables
import GoSem.Claim
import GoSem.ClaimJoined
import GoSem.ClaimMapViews
import Derived.JoinedTies
import Derived.KernelRfl
namespace Go.Proofs.YtamaoileeipgeaaDoor
/- THE CELL 'sum', in the pinned program and in every row, IS THE sha256 OF THE DUMP (.gsa) THAT YtamaoileeipgeaaDoorProg.lean LOADS. Nothing in Lean hashes anything: it is a label: what it is worth is what the hold of that sum in a sandbox is worth. -/
noncomputable def Tryd.pinned : Pinned := { name := "ytamaoileeipgeaadoor", sum := "403f79d4c5efeb01c04ac19e7f755796aee0e18219581703bafa372bff460587", checked := Tryd.checked }
namespace Rows
def none {H : Type} : Left H := { results := [], args := [] }

/- WHAT THE LISTED PACKAGE-LEVEL VARIABLES READ AS WHEN THE CALL BEGINS. Each datum BY PROGRAM (the guide's laid-datum.mjs) off the statement by which the dump's own 'gosem.cut.vars' lays the variable. In a bare row this is a premise. The card (YtamaoileeipgeaaDoorCards.lean) ties it to the program's text. -/
def laid_unicode_utf8_acceptRanges {H : Type} : DataW H := .agg [.agg [.lit (.int .u8 128), .lit (.int .u8 191)], .agg [.lit (.int .u8 160), .lit (.int .u8 191)], .agg [.lit (.int .u8 128), .lit (.int .u8 159)], .agg [.lit (.int .u8 144), .lit (.int .u8 191)], .agg [.lit (.int .u8 128), .lit (.int .u8 143)], .agg [.lit (.int .u8 0), .lit (.int .u8 0)], .agg [.lit (.int .u8 0), .lit (.int .u8 0)], .agg [.lit (.int .u8 0), .lit (.int .u8 0)], .agg [.lit (.int .u8 0), .lit (.int .u8 0)], .agg [.lit (.int .u8 0), .lit (.int .u8 0)], .agg [.lit (.int .u8 0), .lit (.int .u8 0)], .agg [.lit (.int .u8 0), .lit (.int .u8 0)], .agg [.lit (.int .u8 0), .lit (.int .u8 0)], .agg [.lit (.int .u8 0), .lit (.int .u8 0)], .agg [.lit (.int .u8 0), .lit (.int .u8 0)], .agg [.lit (.int .u8 0), .lit (.int .u8 0)]]
/-- One of Go's own tables, pinned by name: the form's constant. -/
def laid_unicode_utf8_first : DataW Unit := Go.Pinned.utf8First

/-- 'rhizomelaw01.KeyEnds': WHATEVER THE INPUT: true; the input reads as it did. -/
def keyEndsSpec : ChangeSpec := { name := "keyEnds", fn := fun _ => fun
  | [d1, d2] => { results := [.lit (.bool true)], args := [d1, d2] }
  | _ => none }
def keyEndsRow : OpenClaim := { program := "ytamaoileeipgeaadoor", sum := "403f79d4c5efeb01c04ac19e7f755796aee0e18219581703bafa372bff460587", func := "rhizome/rhizomelaw01.KeyEnds", spec := "keyEnds", inPlace := ["internal/bytealg.CountString", "internal/bytealg.IndexByteString", "internal/bytealg.IndexString", "internal/abi.NoEscape", "internal/bytealg.MakeNoZero"], named := ["internal/bytealg.MaxLen", "unicode/utf8.first", "unicode/utf8.acceptRanges"], apart := false, laid := [("unicode/utf8.acceptRanges", laid_unicode_utf8_acceptRanges), ("unicode/utf8.first", laid_unicode_utf8_first)] }
def KeyEndsSaid : Prop := keyEndsRow.holds Tryd.pinned (OpenSpec.ofChange keyEndsSpec)

/-- ITS FALSE NEIGHBOUR: 'it returns false'. Refute it at one input. -/
def keyEndsWrong : ChangeSpec := { name := "keyEnds", fn := fun _ => fun
  | [d1, d2] => { results := [.lit (.bool false)], args := [d1, d2] }
  | _ => none }
def KeyEndsWrongFalsely : Prop := keyEndsRow.holds Tryd.pinned (OpenSpec.ofChange keyEndsWrong)

/-- 'rhizomelaw01.KeyBetween': WHATEVER THE INPUT: true; the input reads as it did. -/
def keyBetweenSpec : ChangeSpec := { name := "keyBetween", fn := fun _ => fun
  | [d1, d2, d3] => { results := [.lit (.bool true)], args := [d1, d2, d3] }
  | _ => none }
def keyBetweenRow : OpenClaim := { program := "ytamaoileeipgeaadoor", sum := "403f79d4c5efeb01c04ac19e7f755796aee0e18219581703bafa372bff460587", func := "rhizome/rhizomelaw01.KeyBetween", spec := "keyBetween", inPlace := ["internal/bytealg.CountString", "internal/bytealg.IndexByteString", "internal/bytealg.IndexString", "internal/abi.NoEscape", "internal/bytealg.MakeNoZero"], unfollowed := true, recurses := true, named := ["internal/bytealg.MaxLen", "unicode/utf8.first", "unicode/utf8.acceptRanges"], apart := false, laid := [("unicode/utf8.acceptRanges", laid_unicode_utf8_acceptRanges), ("unicode/utf8.first", laid_unicode_utf8_first)] }
def KeyBetweenSaid : Prop := keyBetweenRow.holds Tryd.pinned (OpenSpec.ofChange keyBetweenSpec)

/-- ITS FALSE NEIGHBOUR: 'it returns false'. Refute it at one input. -/
def keyBetweenWrong : ChangeSpec := { name := "keyBetween", fn := fun _ => fun
  | [d1, d2, d3] => { results := [.lit (.bool false)], args := [d1, d2, d3] }
  | _ => none }
def KeyBetweenWrongFalsely : Prop := keyBetweenRow.holds Tryd.pinned (OpenSpec.ofChange keyBetweenWrong)

/-- 'rhizomelaw01.KeyWrites': WHATEVER THE INPUT: true; the input reads as it did. -/
def keyWritesSpec : ChangeSpec := { name := "keyWrites", fn := fun _ => fun
  | [d] => { results := [.lit (.bool true)], args := [d] }
  | _ => none }
def keyWritesRow : OpenClaim := { program := "ytamaoileeipgeaadoor", sum := "403f79d4c5efeb01c04ac19e7f755796aee0e18219581703bafa372bff460587", func := "rhizome/rhizomelaw01.KeyWrites", spec := "keyWrites", inPlace := ["internal/bytealg.CountString", "internal/bytealg.IndexByteString", "internal/bytealg.IndexString", "internal/abi.NoEscape", "internal/bytealg.MakeNoZero", "internal/bytealg.IndexByte"], named := ["internal/bytealg.MaxLen", "unicode/utf8.first", "unicode/utf8.acceptRanges"], apart := false, laid := [("unicode/utf8.acceptRanges", laid_unicode_utf8_acceptRanges), ("unicode/utf8.first", laid_unicode_utf8_first)] }
def KeyWritesSaid : Prop := keyWritesRow.holds Tryd.pinned (OpenSpec.ofChange keyWritesSpec)

/-- ITS FALSE NEIGHBOUR: 'it returns false'. Refute it at one input. -/
def keyWritesWrong : ChangeSpec := { name := "keyWrites", fn := fun _ => fun
  | [d] => { results := [.lit (.bool false)], args := [d] }
  | _ => none }
def KeyWritesWrongFalsely : Prop := keyWritesRow.holds Tryd.pinned (OpenSpec.ofChange keyWritesWrong)

/-- 'rhizomelaw01.KeyReads': WHATEVER THE INPUT: true; the input reads as it did. -/
def keyReadsSpec : ChangeSpec := { name := "keyReads", fn := fun _ => fun
  | [d] => { results := [.lit (.bool true)], args := [d] }
  | _ => none }
def keyReadsRow : OpenClaim := { program := "ytamaoileeipgeaadoor", sum := "403f79d4c5efeb01c04ac19e7f755796aee0e18219581703bafa372bff460587", func := "rhizome/rhizomelaw01.KeyReads", spec := "keyReads", inPlace := ["internal/bytealg.CountString", "internal/bytealg.IndexByteString", "internal/bytealg.IndexString", "internal/abi.NoEscape", "internal/bytealg.MakeNoZero", "internal/bytealg.IndexByte"], named := ["internal/bytealg.MaxLen", "unicode/utf8.first", "unicode/utf8.acceptRanges"], apart := false, laid := [("unicode/utf8.acceptRanges", laid_unicode_utf8_acceptRanges), ("unicode/utf8.first", laid_unicode_utf8_first)] }
def KeyReadsSaid : Prop := keyReadsRow.holds Tryd.pinned (OpenSpec.ofChange keyReadsSpec)

/-- ITS FALSE NEIGHBOUR: 'it returns false'. Refute it at one input. -/
def keyReadsWrong : ChangeSpec := { name := "keyReads", fn := fun _ => fun
  | [d] => { results := [.lit (.bool false)], args := [d] }
  | _ => none }
def KeyReadsWrongFalsely : Prop := keyReadsRow.holds Tryd.pinned (OpenSpec.ofChange keyReadsWrong)

/-- 'rhizomelaw01.KeyOwn': WHATEVER THE INPUT: true; the input reads as it did. -/
def keyOwnSpec : ChangeSpec := { name := "keyOwn", fn := fun _ => fun
  | [d1, d2] => { results := [.lit (.bool true)], args := [d1, d2] }
  | _ => none }
def keyOwnRow : OpenClaim := { program := "ytamaoileeipgeaadoor", sum := "403f79d4c5efeb01c04ac19e7f755796aee0e18219581703bafa372bff460587", func := "rhizome/rhizomelaw01.KeyOwn", spec := "keyOwn", inPlace := ["internal/bytealg.CountString", "internal/bytealg.IndexByteString", "internal/bytealg.IndexString", "internal/abi.NoEscape", "internal/bytealg.MakeNoZero", "internal/bytealg.IndexByte"], named := ["internal/bytealg.MaxLen", "unicode/utf8.first", "unicode/utf8.acceptRanges"], apart := false, laid := [("unicode/utf8.acceptRanges", laid_unicode_utf8_acceptRanges), ("unicode/utf8.first", laid_unicode_utf8_first)] }
def KeyOwnSaid : Prop := keyOwnRow.holds Tryd.pinned (OpenSpec.ofChange keyOwnSpec)

/-- ITS FALSE NEIGHBOUR: 'it returns false'. Refute it at one input. -/
def keyOwnWrong : ChangeSpec := { name := "keyOwn", fn := fun _ => fun
  | [d1, d2] => { results := [.lit (.bool false)], args := [d1, d2] }
  | _ => none }
def KeyOwnWrongFalsely : Prop := keyOwnRow.holds Tryd.pinned (OpenSpec.ofChange keyOwnWrong)

/-- 'rhizomelaw01.KeyOrders': WHATEVER THE INPUT: true; the input reads as it did. -/
def keyOrdersSpec : ChangeSpec := { name := "keyOrders", fn := fun _ => fun
  | [d1, d2] => { results := [.lit (.bool true)], args := [d1, d2] }
  | _ => none }
def keyOrdersRow : OpenClaim := { program := "ytamaoileeipgeaadoor", sum := "403f79d4c5efeb01c04ac19e7f755796aee0e18219581703bafa372bff460587", func := "rhizome/rhizomelaw01.KeyOrders", spec := "keyOrders", inPlace := ["internal/bytealg.CountString", "internal/bytealg.IndexByteString", "internal/bytealg.IndexString", "internal/abi.NoEscape", "internal/bytealg.MakeNoZero", "internal/bytealg.abigen_runtime_cmpstring"], unfollowed := true, recurses := true, named := ["internal/bytealg.MaxLen", "unicode/utf8.first", "unicode/utf8.acceptRanges"], apart := false, laid := [("unicode/utf8.acceptRanges", laid_unicode_utf8_acceptRanges), ("unicode/utf8.first", laid_unicode_utf8_first)] }
def KeyOrdersSaid : Prop := keyOrdersRow.holds Tryd.pinned (OpenSpec.ofChange keyOrdersSpec)

/-- ITS FALSE NEIGHBOUR: 'it returns false'. Refute it at one input. -/
def keyOrdersWrong : ChangeSpec := { name := "keyOrders", fn := fun _ => fun
  | [d1, d2] => { results := [.lit (.bool false)], args := [d1, d2] }
  | _ => none }
def KeyOrdersWrongFalsely : Prop := keyOrdersRow.holds Tryd.pinned (OpenSpec.ofChange keyOrdersWrong)

/-- 'rhizomelaw01.KeyThree': WHATEVER THE INPUT: true; the input reads as it did. -/
def keyThreeSpec : ChangeSpec := { name := "keyThree", fn := fun _ => fun
  | [d1, d2, d3] => { results := [.lit (.bool true)], args := [d1, d2, d3] }
  | _ => none }
def keyThreeRow : OpenClaim := { program := "ytamaoileeipgeaadoor", sum := "403f79d4c5efeb01c04ac19e7f755796aee0e18219581703bafa372bff460587", func := "rhizome/rhizomelaw01.KeyThree", spec := "keyThree", inPlace := ["internal/bytealg.CountString", "internal/bytealg.IndexByteString", "internal/bytealg.IndexString", "internal/abi.NoEscape", "internal/bytealg.MakeNoZero", "internal/bytealg.abigen_runtime_cmpstring"], unfollowed := true, recurses := true, named := ["internal/bytealg.MaxLen", "unicode/utf8.first", "unicode/utf8.acceptRanges"], apart := false, laid := [("unicode/utf8.acceptRanges", laid_unicode_utf8_acceptRanges), ("unicode/utf8.first", laid_unicode_utf8_first)] }
def KeyThreeSaid : Prop := keyThreeRow.holds Tryd.pinned (OpenSpec.ofChange keyThreeSpec)

/-- ITS FALSE NEIGHBOUR: 'it returns false'. Refute it at one input. -/
def keyThreeWrong : ChangeSpec := { name := "keyThree", fn := fun _ => fun
  | [d1, d2, d3] => { results := [.lit (.bool false)], args := [d1, d2, d3] }
  | _ => none }
def KeyThreeWrongFalsely : Prop := keyThreeRow.holds Tryd.pinned (OpenSpec.ofChange keyThreeWrong)

/- THE SECOND FORM. 'bulk': how many values and letters a reading holds, each counted each time it is reached (what is shared counts as often as it is met; a slice's spare places count too). A statement '..UptoSaid' is the law's where the arguments, and the package variables that the reading takes, are together of bulk at most 1048576: NARROWER than '..Said'. Prove '..Said' where nothing that the law and all that it calls make is longer than what came in: it says more and counts as full. Else prove '..UptoSaid'. A law counts once. -/
mutual
def uptoBulk {H : Type} : DataW H → Nat
  | .lit (.string bytes) => bytes.length + 1
  | .lit _ => 1
  | .nil => 1
  | .ptr d => uptoBulk d + 1
  | .slice elems spare => uptoBulkAll elems + uptoBulkAll spare + 1
  | .agg parts => uptoBulkAll parts + 1
  | .iface _ d => uptoBulk d + 1
  | .map entries => uptoBulkEntries entries + 1
  | .held _ => 1
def uptoBulkAll {H : Type} : List (DataW H) → Nat
  | [] => 0
  | d :: r => uptoBulk d + uptoBulkAll r
def uptoBulkEntries {H : Type} : List (Lit × DataW H) → Nat
  | [] => 0
  | x :: r => uptoBulkEntry x + uptoBulkEntries r
def uptoBulkEntry {H : Type} : Lit × DataW H → Nat
  | (.string bytes, d) => bytes.length + uptoBulk d + 1
  | (_, d) => uptoBulk d + 1
 end
def uptoSmall : (H : Type) → List (DataW H) → Bool := fun _ ds => decide (uptoBulkAll ds ≤ 1048576)
def OpenSpec.upto (s : _root_.Go.ChangeSpec) : _root_.Go.OpenSpec := { _root_.Go.OpenSpec.ofChange s with cond := some uptoSmall }

/-- 'rhizomelaw01.KeyEnds', WHERE WHAT IT READS IS OF BULK AT MOST 1048576: true; the input reads as it did. -/
def keyEndsUptoRow : OpenClaim := { program := "ytamaoileeipgeaadoor", sum := "403f79d4c5efeb01c04ac19e7f755796aee0e18219581703bafa372bff460587", func := "rhizome/rhizomelaw01.KeyEnds", spec := "keyEnds", inPlace := ["internal/bytealg.CountString", "internal/bytealg.IndexByteString", "internal/bytealg.IndexString", "internal/abi.NoEscape", "internal/bytealg.MakeNoZero"], named := ["internal/bytealg.MaxLen", "unicode/utf8.first", "unicode/utf8.acceptRanges"], apart := false, laid := [("unicode/utf8.acceptRanges", laid_unicode_utf8_acceptRanges), ("unicode/utf8.first", laid_unicode_utf8_first)], narrowed := true }
def KeyEndsUptoSaid : Prop := keyEndsUptoRow.holds Tryd.pinned (OpenSpec.upto keyEndsSpec)

/-- 'rhizomelaw01.KeyBetween', WHERE WHAT IT READS IS OF BULK AT MOST 1048576: true; the input reads as it did. -/
def keyBetweenUptoRow : OpenClaim := { program := "ytamaoileeipgeaadoor", sum := "403f79d4c5efeb01c04ac19e7f755796aee0e18219581703bafa372bff460587", func := "rhizome/rhizomelaw01.KeyBetween", spec := "keyBetween", inPlace := ["internal/bytealg.CountString", "internal/bytealg.IndexByteString", "internal/bytealg.IndexString", "internal/abi.NoEscape", "internal/bytealg.MakeNoZero"], unfollowed := true, recurses := true, named := ["internal/bytealg.MaxLen", "unicode/utf8.first", "unicode/utf8.acceptRanges"], apart := false, laid := [("unicode/utf8.acceptRanges", laid_unicode_utf8_acceptRanges), ("unicode/utf8.first", laid_unicode_utf8_first)], narrowed := true }
def KeyBetweenUptoSaid : Prop := keyBetweenUptoRow.holds Tryd.pinned (OpenSpec.upto keyBetweenSpec)

/-- 'rhizomelaw01.KeyWrites', WHERE WHAT IT READS IS OF BULK AT MOST 1048576: true; the input reads as it did. -/
def keyWritesUptoRow : OpenClaim := { program := "ytamaoileeipgeaadoor", sum := "403f79d4c5efeb01c04ac19e7f755796aee0e18219581703bafa372bff460587", func := "rhizome/rhizomelaw01.KeyWrites", spec := "keyWrites", inPlace := ["internal/bytealg.CountString", "internal/bytealg.IndexByteString", "internal/bytealg.IndexString", "internal/abi.NoEscape", "internal/bytealg.MakeNoZero", "internal/bytealg.IndexByte"], named := ["internal/bytealg.MaxLen", "unicode/utf8.first", "unicode/utf8.acceptRanges"], apart := false, laid := [("unicode/utf8.acceptRanges", laid_unicode_utf8_acceptRanges), ("unicode/utf8.first", laid_unicode_utf8_first)], narrowed := true }
def KeyWritesUptoSaid : Prop := keyWritesUptoRow.holds Tryd.pinned (OpenSpec.upto keyWritesSpec)

/-- 'rhizomelaw01.KeyReads', WHERE WHAT IT READS IS OF BULK AT MOST 1048576: true; the input reads as it did. -/
def keyReadsUptoRow : OpenClaim := { program := "ytamaoileeipgeaadoor", sum := "403f79d4c5efeb01c04ac19e7f755796aee0e18219581703bafa372bff460587", func := "rhizome/rhizomelaw01.KeyReads", spec := "keyReads", inPlace := ["internal/bytealg.CountString", "internal/bytealg.IndexByteString", "internal/bytealg.IndexString", "internal/abi.NoEscape", "internal/bytealg.MakeNoZero", "internal/bytealg.IndexByte"], named := ["internal/bytealg.MaxLen", "unicode/utf8.first", "unicode/utf8.acceptRanges"], apart := false, laid := [("unicode/utf8.acceptRanges", laid_unicode_utf8_acceptRanges), ("unicode/utf8.first", laid_unicode_utf8_first)], narrowed := true }
def KeyReadsUptoSaid : Prop := keyReadsUptoRow.holds Tryd.pinned (OpenSpec.upto keyReadsSpec)

/-- 'rhizomelaw01.KeyOwn', WHERE WHAT IT READS IS OF BULK AT MOST 1048576: true; the input reads as it did. -/
def keyOwnUptoRow : OpenClaim := { program := "ytamaoileeipgeaadoor", sum := "403f79d4c5efeb01c04ac19e7f755796aee0e18219581703bafa372bff460587", func := "rhizome/rhizomelaw01.KeyOwn", spec := "keyOwn", inPlace := ["internal/bytealg.CountString", "internal/bytealg.IndexByteString", "internal/bytealg.IndexString", "internal/abi.NoEscape", "internal/bytealg.MakeNoZero", "internal/bytealg.IndexByte"], named := ["internal/bytealg.MaxLen", "unicode/utf8.first", "unicode/utf8.acceptRanges"], apart := false, laid := [("unicode/utf8.acceptRanges", laid_unicode_utf8_acceptRanges), ("unicode/utf8.first", laid_unicode_utf8_first)], narrowed := true }
def KeyOwnUptoSaid : Prop := keyOwnUptoRow.holds Tryd.pinned (OpenSpec.upto keyOwnSpec)

/-- 'rhizomelaw01.KeyOrders', WHERE WHAT IT READS IS OF BULK AT MOST 1048576: true; the input reads as it did. -/
def keyOrdersUptoRow : OpenClaim := { program := "ytamaoileeipgeaadoor", sum := "403f79d4c5efeb01c04ac19e7f755796aee0e18219581703bafa372bff460587", func := "rhizome/rhizomelaw01.KeyOrders", spec := "keyOrders", inPlace := ["internal/bytealg.CountString", "internal/bytealg.IndexByteString", "internal/bytealg.IndexString", "internal/abi.NoEscape", "internal/bytealg.MakeNoZero", "internal/bytealg.abigen_runtime_cmpstring"], unfollowed := true, recurses := true, named := ["internal/bytealg.MaxLen", "unicode/utf8.first", "unicode/utf8.acceptRanges"], apart := false, laid := [("unicode/utf8.acceptRanges", laid_unicode_utf8_acceptRanges), ("unicode/utf8.first", laid_unicode_utf8_first)], narrowed := true }
def KeyOrdersUptoSaid : Prop := keyOrdersUptoRow.holds Tryd.pinned (OpenSpec.upto keyOrdersSpec)

/-- 'rhizomelaw01.KeyThree', WHERE WHAT IT READS IS OF BULK AT MOST 1048576: true; the input reads as it did. -/
def keyThreeUptoRow : OpenClaim := { program := "ytamaoileeipgeaadoor", sum := "403f79d4c5efeb01c04ac19e7f755796aee0e18219581703bafa372bff460587", func := "rhizome/rhizomelaw01.KeyThree", spec := "keyThree", inPlace := ["internal/bytealg.CountString", "internal/bytealg.IndexByteString", "internal/bytealg.IndexString", "internal/abi.NoEscape", "internal/bytealg.MakeNoZero", "internal/bytealg.abigen_runtime_cmpstring"], unfollowed := true, recurses := true, named := ["internal/bytealg.MaxLen", "unicode/utf8.first", "unicode/utf8.acceptRanges"], apart := false, laid := [("unicode/utf8.acceptRanges", laid_unicode_utf8_acceptRanges), ("unicode/utf8.first", laid_unicode_utf8_first)], narrowed := true }
def KeyThreeUptoSaid : Prop := keyThreeUptoRow.holds Tryd.pinned (OpenSpec.upto keyThreeSpec)

end Rows
end Go.Proofs.YtamaoileeipgeaaDoor

/-
  NARROWER THAN 'FOR EVERY INPUT', by the rows' own cells (each row's printed sentence says how): KeyOwn: laid · GraphFull: laid · GraphWhole: laid · GraphBack: laid · QueryReads: laid · QueryLimits: laid · QueryBack: laid · QueryCut: laid · QueryDressed: laid · RecordForms: laid · RecordLong: laid · RecordCut: laid · RecordOwn: laid.
  DERIVED. THE GIVEN ROWS OF THIS SEAT. 13 by the template 'for every input the law returns true; each argument reads behind the call as it read before'; 0 by the template 'total and deterministic' (their statements: YtalegpdnhkopmaaDoorTotals.lean).
  GIVEN WITH THE SEED: the statements are not yours to turn. If you find one false, say at which input.
  Laid BY PROGRAM, IN A SANDBOX (cutbox-rows.mjs): the forced cells as the released guide's own fill.sh prints them over the translation 94e0f4ee2a807ef6… (all of the seat's roots in one cut). By AI agents, Wed Nov 11 2026. No macro, syntax, notation, axiom, sorry.
-/
import Derived.Test.YtalegpdnhkopmaaDoorChecked
import GoSem.PinnedTables
import GoSem.Claim
import GoSem.ClaimJoined
import GoSem.ClaimMapViews
import Derived.JoinedTies
import Derived.KernelRfl
namespace Go.Proofs.YtalegpdnhkopmaaDoor
/- THE CELL 'sum', in the pinned program and in every row, IS THE sha256 OF THE DUMP (.gsa) THAT YtalegpdnhkopmaaDoorProg.lean LOADS. Nothing in Lean hashes anything: it is a label: what it is worth is what the hold of that sum in a sandbox is worth. -/
noncomputable def Tryd.pinned : Pinned := { name := "ytalegpdnhkopmaadoor", sum := "94e0f4ee2a807ef69d497722ca99948f12daa03728db8ea1f3d021c3c856da03", checked := Tryd.checked }
namespace Rows
def none {H : Type} : Left H := { results := [], args := [] }

/- WHAT THE LISTED PACKAGE-LEVEL VARIABLES READ AS WHEN THE CALL BEGINS. Each datum BY PROGRAM (the guide's laid-datum.mjs) off the statement by which the dump's own 'gosem.cut.vars' lays the variable. In a bare row this is a premise. The card (YtalegpdnhkopmaaDoorCards.lean) ties it to the program's text. -/
def laid_unicode_utf8_acceptRanges {H : Type} : DataW H := .agg [.agg [.lit (.int .u8 128), .lit (.int .u8 191)], .agg [.lit (.int .u8 160), .lit (.int .u8 191)], .agg [.lit (.int .u8 128), .lit (.int .u8 159)], .agg [.lit (.int .u8 144), .lit (.int .u8 191)], .agg [.lit (.int .u8 128), .lit (.int .u8 143)], .agg [.lit (.int .u8 0), .lit (.int .u8 0)], .agg [.lit (.int .u8 0), .lit (.int .u8 0)], .agg [.lit (.int .u8 0), .lit (.int .u8 0)], .agg [.lit (.int .u8 0), .lit (.int .u8 0)], .agg [.lit (.int .u8 0), .lit (.int .u8 0)], .agg [.lit (.int .u8 0), .lit (.int .u8 0)], .agg [.lit (.int .u8 0), .lit (.int .u8 0)], .agg [.lit (.int .u8 0), .lit (.int .u8 0)], .agg [.lit (.int .u8 0), .lit (.int .u8 0)], .agg [.lit (.int .u8 0), .lit (.int .u8 0)], .agg [.lit (.int .u8 0), .lit (.int .u8 0)]]
/-- One of Go's own tables, pinned by name: the form's constant. -/
def laid_unicode_utf8_first : DataW Unit := Go.Pinned.utf8First

/-- 'rhizomelaw01.KeyOwn': WHATEVER THE INPUT: true; the input reads as it did. -/
def keyOwnSpec : ChangeSpec := { name := "keyOwn", fn := fun _ => fun
  | [d1, d2] => { results := [.lit (.bool true)], args := [d1, d2] }
  | _ => none }
def keyOwnRow : OpenClaim := { program := "ytalegpdnhkopmaadoor", sum := "94e0f4ee2a807ef69d497722ca99948f12daa03728db8ea1f3d021c3c856da03", func := "rhizome/rhizomelaw01.KeyOwn", spec := "keyOwn", inPlace := ["internal/bytealg.CountString", "internal/bytealg.IndexByteString", "internal/bytealg.IndexString", "internal/abi.NoEscape", "internal/bytealg.MakeNoZero", "internal/bytealg.IndexByte"], named := ["internal/bytealg.MaxLen", "unicode/utf8.first", "unicode/utf8.acceptRanges"], apart := false, laid := [("unicode/utf8.acceptRanges", laid_unicode_utf8_acceptRanges), ("unicode/utf8.first", laid_unicode_utf8_first)] }
def KeyOwnSaid : Prop := keyOwnRow.holds Tryd.pinned (OpenSpec.ofChange keyOwnSpec)

/-- ITS FALSE NEIGHBOUR: 'it returns false'. Refute it at one input. -/
def keyOwnWrong : ChangeSpec := { name := "keyOwn", fn := fun _ => fun
  | [d1, d2] => { results := [.lit (.bool false)], args := [d1, d2] }
  | _ => none }
def KeyOwnWrongFalsely : Prop := keyOwnRow.holds Tryd.pinned (OpenSpec.ofChange keyOwnWrong)

/-- 'rhizomelaw07.GraphFull': WHATEVER THE INPUT: true; the input reads as it did. -/
def graphFullSpec : ChangeSpec := { name := "graphFull", fn := fun _ => fun
  | [d] => { results := [.lit (.bool true)], args := [d] }
  | _ => none }
def graphFullRow : OpenClaim := { program := "ytalegpdnhkopmaadoor", sum := "94e0f4ee2a807ef69d497722ca99948f12daa03728db8ea1f3d021c3c856da03", func := "rhizome/rhizomelaw07.GraphFull", spec := "graphFull", inPlace := ["internal/bytealg.CountString", "internal/bytealg.IndexByteString", "internal/bytealg.IndexString", "internal/abi.NoEscape", "internal/bytealg.MakeNoZero", "internal/bytealg.Compare", "internal/bytealg.IndexByte"], unfollowed := true, recurses := true, named := ["internal/bytealg.MaxLen", "unicode/utf8.first", "unicode/utf8.acceptRanges"], apart := false, laid := [("unicode/utf8.acceptRanges", laid_unicode_utf8_acceptRanges), ("unicode/utf8.first", laid_unicode_utf8_first)] }
def GraphFullSaid : Prop := graphFullRow.holds Tryd.pinned (OpenSpec.ofChange graphFullSpec)

/-- ITS FALSE NEIGHBOUR: 'it returns false'. Refute it at one input. -/
def graphFullWrong : ChangeSpec := { name := "graphFull", fn := fun _ => fun
  | [d] => { results := [.lit (.bool false)], args := [d] }
  | _ => none }
def GraphFullWrongFalsely : Prop := graphFullRow.holds Tryd.pinned (OpenSpec.ofChange graphFullWrong)

/-- 'rhizomelaw07.GraphWhole': WHATEVER THE INPUT: true; the input reads as it did. -/
def graphWholeSpec : ChangeSpec := { name := "graphWhole", fn := fun _ => fun
  | [d] => { results := [.lit (.bool true)], args := [d] }
  | _ => none }
def graphWholeRow : OpenClaim := { program := "ytalegpdnhkopmaadoor", sum := "94e0f4ee2a807ef69d497722ca99948f12daa03728db8ea1f3d021c3c856da03", func := "rhizome/rhizomelaw07.GraphWhole", spec := "graphWhole", inPlace := ["internal/bytealg.CountString", "internal/bytealg.IndexByteString", "internal/bytealg.IndexString", "internal/abi.NoEscape", "internal/bytealg.MakeNoZero", "internal/bytealg.Compare", "internal/bytealg.IndexByte"], unfollowed := true, recurses := true, named := ["internal/bytealg.MaxLen", "unicode/utf8.first", "unicode/utf8.acceptRanges"], apart := false, laid := [("unicode/utf8.acceptRanges", laid_unicode_utf8_acceptRanges), ("unicode/utf8.first", laid_unicode_utf8_first)] }
def GraphWholeSaid : Prop := graphWholeRow.holds Tryd.pinned (OpenSpec.ofChange graphWholeSpec)

/-- ITS FALSE NEIGHBOUR: 'it returns false'. Refute it at one input. -/
def graphWholeWrong : ChangeSpec := { name := "graphWhole", fn := fun _ => fun
  | [d] => { results := [.lit (.bool false)], args := [d] }
  | _ => none }
def GraphWholeWrongFalsely : Prop := graphWholeRow.holds Tryd.pinned (OpenSpec.ofChange graphWholeWrong)

/-- 'rhizomelaw07.GraphBack': WHATEVER THE INPUT: true; the input reads as it did. -/
def graphBackSpec : ChangeSpec := { name := "graphBack", fn := fun _ => fun
  | [d] => { results := [.lit (.bool true)], args := [d] }
  | _ => none }
def graphBackRow : OpenClaim := { program := "ytalegpdnhkopmaadoor", sum := "94e0f4ee2a807ef69d497722ca99948f12daa03728db8ea1f3d021c3c856da03", func := "rhizome/rhizomelaw07.GraphBack", spec := "graphBack", inPlace := ["internal/bytealg.CountString", "internal/bytealg.IndexByteString", "internal/bytealg.IndexString", "internal/abi.NoEscape", "internal/bytealg.MakeNoZero", "internal/bytealg.Compare", "internal/bytealg.IndexByte"], unfollowed := true, recurses := true, named := ["internal/bytealg.MaxLen", "unicode/utf8.first", "unicode/utf8.acceptRanges"], apart := false, laid := [("unicode/utf8.acceptRanges", laid_unicode_utf8_acceptRanges), ("unicode/utf8.first", laid_unicode_utf8_first)] }
def GraphBackSaid : Prop := graphBackRow.holds Tryd.pinned (OpenSpec.ofChange graphBackSpec)

/-- ITS FALSE NEIGHBOUR: 'it returns false'. Refute it at one input. -/
def graphBackWrong : ChangeSpec := { name := "graphBack", fn := fun _ => fun
  | [d] => { results := [.lit (.bool false)], args := [d] }
  | _ => none }
def GraphBackWrongFalsely : Prop := graphBackRow.holds Tryd.pinned (OpenSpec.ofChange graphBackWrong)

/-- 'rhizomelaw09.QueryReads': WHATEVER THE INPUT: true; the input reads as it did. -/
def queryReadsSpec : ChangeSpec := { name := "queryReads", fn := fun _ => fun
  | [d] => { results := [.lit (.bool true)], args := [d] }
  | _ => none }
def queryReadsRow : OpenClaim := { program := "ytalegpdnhkopmaadoor", sum := "94e0f4ee2a807ef69d497722ca99948f12daa03728db8ea1f3d021c3c856da03", func := "rhizome/rhizomelaw09.QueryReads", spec := "queryReads", unfollowed := true, recurses := true, named := ["unicode/utf8.first", "unicode/utf8.acceptRanges"], apart := false, laid := [("unicode/utf8.acceptRanges", laid_unicode_utf8_acceptRanges), ("unicode/utf8.first", laid_unicode_utf8_first)] }
def QueryReadsSaid : Prop := queryReadsRow.holds Tryd.pinned (OpenSpec.ofChange queryReadsSpec)

/-- ITS FALSE NEIGHBOUR: 'it returns false'. Refute it at one input. -/
def queryReadsWrong : ChangeSpec := { name := "queryReads", fn := fun _ => fun
  | [d] => { results := [.lit (.bool false)], args := [d] }
  | _ => none }
def QueryReadsWrongFalsely : Prop := queryReadsRow.holds Tryd.pinned (OpenSpec.ofChange queryReadsWrong)

/-- 'rhizomelaw09.QueryLimits': WHATEVER THE INPUT: true; the input reads as it did. -/
def queryLimitsSpec : ChangeSpec := { name := "queryLimits", fn := fun _ => fun
  | [d1, d2] => { results := [.lit (.bool true)], args := [d1, d2] }
  | _ => none }
def queryLimitsRow : OpenClaim := { program := "ytalegpdnhkopmaadoor", sum := "94e0f4ee2a807ef69d497722ca99948f12daa03728db8ea1f3d021c3c856da03", func := "rhizome/rhizomelaw09.QueryLimits", spec := "queryLimits", unfollowed := true, recurses := true, named := ["unicode/utf8.first", "unicode/utf8.acceptRanges"], apart := false, laid := [("unicode/utf8.acceptRanges", laid_unicode_utf8_acceptRanges), ("unicode/utf8.first", laid_unicode_utf8_first)] }
def QueryLimitsSaid : Prop := queryLimitsRow.holds Tryd.pinned (OpenSpec.ofChange queryLimitsSpec)

/-- ITS FALSE NEIGHBOUR: 'it returns false'. Refute it at one input. -/
def queryLimitsWrong : ChangeSpec := { name := "queryLimits", fn := fun _ => fun
  | [d1, d2] => { results := [.lit (.bool false)], args := [d1, d2] }
  | _ => none }
def QueryLimitsWrongFalsely : Prop := queryLimitsRow.holds Tryd.pinned (OpenSpec.ofChange queryLimitsWrong)

/-- 'rhizomelaw09.QueryBack': WHATEVER THE INPUT: true; the input reads as it did. -/
def queryBackSpec : ChangeSpec := { name := "queryBack", fn := fun _ => fun
  | [d] => { results := [.lit (.bool true)], args := [d] }
  | _ => none }
def queryBackRow : OpenClaim := { program := "ytalegpdnhkopmaadoor", sum := "94e0f4ee2a807ef69d497722ca99948f12daa03728db8ea1f3d021c3c856da03", func := "rhizome/rhizomelaw09.QueryBack", spec := "queryBack", inPlace := ["internal/abi.NoEscape", "internal/bytealg.MakeNoZero"], unfollowed := true, recurses := true, named := ["unicode/utf8.first", "unicode/utf8.acceptRanges"], apart := false, laid := [("unicode/utf8.acceptRanges", laid_unicode_utf8_acceptRanges), ("unicode/utf8.first", laid_unicode_utf8_first)] }
def QueryBackSaid : Prop := queryBackRow.holds Tryd.pinned (OpenSpec.ofChange queryBackSpec)

/-- ITS FALSE NEIGHBOUR: 'it returns false'. Refute it at one input. -/
def queryBackWrong : ChangeSpec := { name := "queryBack", fn := fun _ => fun
  | [d] => { results := [.lit (.bool false)], args := [d] }
  | _ => none }
def QueryBackWrongFalsely : Prop := queryBackRow.holds Tryd.pinned (OpenSpec.ofChange queryBackWrong)

/-- 'rhizomelaw09.QueryCut': WHATEVER THE INPUT: true; the input reads as it did. -/
def queryCutSpec : ChangeSpec := { name := "queryCut", fn := fun _ => fun
  | [d1, d2] => { results := [.lit (.bool true)], args := [d1, d2] }
  | _ => none }
def queryCutRow : OpenClaim := { program := "ytalegpdnhkopmaadoor", sum := "94e0f4ee2a807ef69d497722ca99948f12daa03728db8ea1f3d021c3c856da03", func := "rhizome/rhizomelaw09.QueryCut", spec := "queryCut", inPlace := ["internal/abi.NoEscape", "internal/bytealg.MakeNoZero"], unfollowed := true, recurses := true, named := ["unicode/utf8.first", "unicode/utf8.acceptRanges"], apart := false, laid := [("unicode/utf8.acceptRanges", laid_unicode_utf8_acceptRanges), ("unicode/utf8.first", laid_unicode_utf8_first)] }
def QueryCutSaid : Prop := queryCutRow.holds Tryd.pinned (OpenSpec.ofChange queryCutSpec)

/-- ITS FALSE NEIGHBOUR: 'it returns false'. Refute it at one input. -/
def queryCutWrong : ChangeSpec := { name := "queryCut", fn := fun _ => fun
  | [d1, d2] => { results := [.lit (.bool false)], args := [d1, d2] }
  | _ => none }
def QueryCutWrongFalsely : Prop := queryCutRow.holds Tryd.pinned (OpenSpec.ofChange queryCutWrong)

/-- 'rhizomelaw09.QueryDressed': WHATEVER THE INPUT: true; the input reads as it did. -/
def queryDressedSpec : ChangeSpec := { name := "queryDressed", fn := fun _ => fun
  | [d1, d2] => { results := [.lit (.bool true)], args := [d1, d2] }
  | _ => none }
def queryDressedRow : OpenClaim := { program := "ytalegpdnhkopmaadoor", sum := "94e0f4ee2a807ef69d497722ca99948f12daa03728db8ea1f3d021c3c856da03", func := "rhizome/rhizomelaw09.QueryDressed", spec := "queryDressed", inPlace := ["internal/abi.NoEscape", "internal/bytealg.MakeNoZero"], unfollowed := true, recurses := true, named := ["unicode/utf8.first", "unicode/utf8.acceptRanges"], apart := false, laid := [("unicode/utf8.acceptRanges", laid_unicode_utf8_acceptRanges), ("unicode/utf8.first", laid_unicode_utf8_first)] }
def QueryDressedSaid : Prop := queryDressedRow.holds Tryd.pinned (OpenSpec.ofChange queryDressedSpec)

/-- ITS FALSE NEIGHBOUR: 'it returns false'. Refute it at one input. -/
def queryDressedWrong : ChangeSpec := { name := "queryDressed", fn := fun _ => fun
  | [d1, d2] => { results := [.lit (.bool false)], args := [d1, d2] }
  | _ => none }
def QueryDressedWrongFalsely : Prop := queryDressedRow.holds Tryd.pinned (OpenSpec.ofChange queryDressedWrong)

/-- 'rhizomelaw15.RecordForms': WHATEVER THE INPUT: true; the input reads as it did. -/
def recordFormsSpec : ChangeSpec := { name := "recordForms", fn := fun _ => fun
  | [d] => { results := [.lit (.bool true)], args := [d] }
  | _ => none }
def recordFormsRow : OpenClaim := { program := "ytalegpdnhkopmaadoor", sum := "94e0f4ee2a807ef69d497722ca99948f12daa03728db8ea1f3d021c3c856da03", func := "rhizome/rhizomelaw15.RecordForms", spec := "recordForms", inPlace := ["internal/bytealg.CountString", "internal/bytealg.IndexByteString", "internal/bytealg.IndexString", "internal/abi.NoEscape", "internal/bytealg.MakeNoZero"], unfollowed := true, recurses := true, named := ["unicode/utf8.first", "unicode/utf8.acceptRanges", "internal/bytealg.MaxLen"], apart := false, laid := [("unicode/utf8.acceptRanges", laid_unicode_utf8_acceptRanges), ("unicode/utf8.first", laid_unicode_utf8_first)] }
def RecordFormsSaid : Prop := recordFormsRow.holds Tryd.pinned (OpenSpec.ofChange recordFormsSpec)

/-- ITS FALSE NEIGHBOUR: 'it returns false'. Refute it at one input. -/
def recordFormsWrong : ChangeSpec := { name := "recordForms", fn := fun _ => fun
  | [d] => { results := [.lit (.bool false)], args := [d] }
  | _ => none }
def RecordFormsWrongFalsely : Prop := recordFormsRow.holds Tryd.pinned (OpenSpec.ofChange recordFormsWrong)

/-- 'rhizomelaw15.RecordLong': WHATEVER THE INPUT: true; the input reads as it did. -/
def recordLongSpec : ChangeSpec := { name := "recordLong", fn := fun _ => fun
  | [d] => { results := [.lit (.bool true)], args := [d] }
  | _ => none }
def recordLongRow : OpenClaim := { program := "ytalegpdnhkopmaadoor", sum := "94e0f4ee2a807ef69d497722ca99948f12daa03728db8ea1f3d021c3c856da03", func := "rhizome/rhizomelaw15.RecordLong", spec := "recordLong", inPlace := ["internal/bytealg.CountString", "internal/bytealg.IndexByteString", "internal/bytealg.IndexString", "internal/abi.NoEscape", "internal/bytealg.MakeNoZero"], unfollowed := true, recurses := true, named := ["unicode/utf8.first", "unicode/utf8.acceptRanges", "internal/bytealg.MaxLen"], apart := false, laid := [("unicode/utf8.acceptRanges", laid_unicode_utf8_acceptRanges), ("unicode/utf8.first", laid_unicode_utf8_first)] }
def RecordLongSaid : Prop := recordLongRow.holds Tryd.pinned (OpenSpec.ofChange recordLongSpec)

/-- ITS FALSE NEIGHBOUR: 'it returns false'. Refute it at one input. -/
def recordLongWrong : ChangeSpec := { name := "recordLong", fn := fun _ => fun
  | [d] => { results := [.lit (.bool false)], args := [d] }
  | _ => none }
def RecordLongWrongFalsely : Prop := recordLongRow.holds Tryd.pinned (OpenSpec.ofChange recordLongWrong)

/-- 'rhizomelaw15.RecordCut': WHATEVER THE INPUT: true; the input reads as it did. -/
def recordCutSpec : ChangeSpec := { name := "recordCut", fn := fun _ => fun
  | [d1, d2, d3] => { results := [.lit (.bool true)], args := [d1, d2, d3] }
  | _ => none }
def recordCutRow : OpenClaim := { program := "ytalegpdnhkopmaadoor", sum := "94e0f4ee2a807ef69d497722ca99948f12daa03728db8ea1f3d021c3c856da03", func := "rhizome/rhizomelaw15.RecordCut", spec := "recordCut", inPlace := ["internal/bytealg.CountString", "internal/bytealg.IndexByteString", "internal/bytealg.IndexString", "internal/abi.NoEscape", "internal/bytealg.MakeNoZero", "internal/bytealg.IndexByte"], unfollowed := true, recurses := true, named := ["unicode/utf8.first", "unicode/utf8.acceptRanges", "internal/bytealg.MaxLen"], apart := false, laid := [("unicode/utf8.acceptRanges", laid_unicode_utf8_acceptRanges), ("unicode/utf8.first", laid_unicode_utf8_first)] }
def RecordCutSaid : Prop := recordCutRow.holds Tryd.pinned (OpenSpec.ofChange recordCutSpec)

/-- ITS FALSE NEIGHBOUR: 'it returns false'. Refute it at one input. -/
def recordCutWrong : ChangeSpec := { name := "recordCut", fn := fun _ => fun
  | [d1, d2, d3] => { results := [.lit (.bool false)], args := [d1, d2, d3] }
  | _ => none }
def RecordCutWrongFalsely : Prop := recordCutRow.holds Tryd.pinned (OpenSpec.ofChange recordCutWrong)

/-- 'rhizomelaw15.RecordOwn': WHATEVER THE INPUT: true; the input reads as it did. -/
def recordOwnSpec : ChangeSpec := { name := "recordOwn", fn := fun _ => fun
  | [d] => { results := [.lit (.bool true)], args := [d] }
  | _ => none }
def recordOwnRow : OpenClaim := { program := "ytalegpdnhkopmaadoor", sum := "94e0f4ee2a807ef69d497722ca99948f12daa03728db8ea1f3d021c3c856da03", func := "rhizome/rhizomelaw15.RecordOwn", spec := "recordOwn", inPlace := ["internal/bytealg.CountString", "internal/bytealg.IndexByteString", "internal/bytealg.IndexString", "internal/abi.NoEscape", "internal/bytealg.MakeNoZero", "internal/bytealg.IndexByte"], unfollowed := true, recurses := true, named := ["unicode/utf8.first", "unicode/utf8.acceptRanges", "internal/bytealg.MaxLen"], apart := false, laid := [("unicode/utf8.acceptRanges", laid_unicode_utf8_acceptRanges), ("unicode/utf8.first", laid_unicode_utf8_first)] }
def RecordOwnSaid : Prop := recordOwnRow.holds Tryd.pinned (OpenSpec.ofChange recordOwnSpec)

/-- ITS FALSE NEIGHBOUR: 'it returns false'. Refute it at one input. -/
def recordOwnWrong : ChangeSpec := { name := "recordOwn", fn := fun _ => fun
  | [d] => { results := [.lit (.bool false)], args := [d] }
  | _ => none }
def RecordOwnWrongFalsely : Prop := recordOwnRow.holds Tryd.pinned (OpenSpec.ofChange recordOwnWrong)

/- THE SECOND FORM. 'bulk': how many values and letters a reading holds, each counted each time it is reached (what is shared counts as often as it is met; a slice's spare places count too). A statement '..UptoSaid' is the law's where the arguments, and the package variables that the reading takes, are together of bulk at most 1048576: NARROWER than '..Said'. Prove '..Said' where nothing that the law and all that it calls make is longer than what came in: it says more and counts as full. Else prove '..UptoSaid'. A law counts once. -/
mutual
def uptoBulk {H : Type} : DataW H → Nat
  | .lit (.string bytes) => bytes.length + 1
  | .lit _ => 1
  | .nil => 1
  | .ptr d => uptoBulk d + 1
  | .slice elems spare => uptoBulkAll elems + uptoBulkAll spare + 1
  | .agg parts => uptoBulkAll parts + 1
  | .iface _ d => uptoBulk d + 1
  | .map entries => uptoBulkEntries entries + 1
  | .held _ => 1
def uptoBulkAll {H : Type} : List (DataW H) → Nat
  | [] => 0
  | d :: r => uptoBulk d + uptoBulkAll r
def uptoBulkEntries {H : Type} : List (Lit × DataW H) → Nat
  | [] => 0
  | x :: r => uptoBulkEntry x + uptoBulkEntries r
def uptoBulkEntry {H : Type} : Lit × DataW H → Nat
  | (.string bytes, d) => bytes.length + uptoBulk d + 1
  | (_, d) => uptoBulk d + 1
 end
def uptoSmall : (H : Type) → List (DataW H) → Bool := fun _ ds => decide (uptoBulkAll ds ≤ 1048576)
def OpenSpec.upto (s : _root_.Go.ChangeSpec) : _root_.Go.OpenSpec := { _root_.Go.OpenSpec.ofChange s with cond := some uptoSmall }

/-- 'rhizomelaw01.KeyOwn', WHERE WHAT IT READS IS OF BULK AT MOST 1048576: true; the input reads as it did. -/
def keyOwnUptoRow : OpenClaim := { program := "ytalegpdnhkopmaadoor", sum := "94e0f4ee2a807ef69d497722ca99948f12daa03728db8ea1f3d021c3c856da03", func := "rhizome/rhizomelaw01.KeyOwn", spec := "keyOwn", inPlace := ["internal/bytealg.CountString", "internal/bytealg.IndexByteString", "internal/bytealg.IndexString", "internal/abi.NoEscape", "internal/bytealg.MakeNoZero", "internal/bytealg.IndexByte"], named := ["internal/bytealg.MaxLen", "unicode/utf8.first", "unicode/utf8.acceptRanges"], apart := false, laid := [("unicode/utf8.acceptRanges", laid_unicode_utf8_acceptRanges), ("unicode/utf8.first", laid_unicode_utf8_first)], narrowed := true }
def KeyOwnUptoSaid : Prop := keyOwnUptoRow.holds Tryd.pinned (OpenSpec.upto keyOwnSpec)

/-- 'rhizomelaw07.GraphFull', WHERE WHAT IT READS IS OF BULK AT MOST 1048576: true; the input reads as it did. -/
def graphFullUptoRow : OpenClaim := { program := "ytalegpdnhkopmaadoor", sum := "94e0f4ee2a807ef69d497722ca99948f12daa03728db8ea1f3d021c3c856da03", func := "rhizome/rhizomelaw07.GraphFull", spec := "graphFull", inPlace := ["internal/bytealg.CountString", "internal/bytealg.IndexByteString", "internal/bytealg.IndexString", "internal/abi.NoEscape", "internal/bytealg.MakeNoZero", "internal/bytealg.Compare", "internal/bytealg.IndexByte"], unfollowed := true, recurses := true, named := ["internal/bytealg.MaxLen", "unicode/utf8.first", "unicode/utf8.acceptRanges"], apart := false, laid := [("unicode/utf8.acceptRanges", laid_unicode_utf8_acceptRanges), ("unicode/utf8.first", laid_unicode_utf8_first)], narrowed := true }
def GraphFullUptoSaid : Prop := graphFullUptoRow.holds Tryd.pinned (OpenSpec.upto graphFullSpec)

/-- 'rhizomelaw07.GraphWhole', WHERE WHAT IT READS IS OF BULK AT MOST 1048576: true; the input reads as it did. -/
def graphWholeUptoRow : OpenClaim := { program := "ytalegpdnhkopmaadoor", sum := "94e0f4ee2a807ef69d497722ca99948f12daa03728db8ea1f3d021c3c856da03", func := "rhizome/rhizomelaw07.GraphWhole", spec := "graphWhole", inPlace := ["internal/bytealg.CountString", "internal/bytealg.IndexByteString", "internal/bytealg.IndexString", "internal/abi.NoEscape", "internal/bytealg.MakeNoZero", "internal/bytealg.Compare", "internal/bytealg.IndexByte"], unfollowed := true, recurses := true, named := ["internal/bytealg.MaxLen", "unicode/utf8.first", "unicode/utf8.acceptRanges"], apart := false, laid := [("unicode/utf8.acceptRanges", laid_unicode_utf8_acceptRanges), ("unicode/utf8.first", laid_unicode_utf8_first)], narrowed := true }
def GraphWholeUptoSaid : Prop := graphWholeUptoRow.holds Tryd.pinned (OpenSpec.upto graphWholeSpec)

/-- 'rhizomelaw07.GraphBack', WHERE WHAT IT READS IS OF BULK AT MOST 1048576: true; the input reads as it did. -/
def graphBackUptoRow : OpenClaim := { program := "ytalegpdnhkopmaadoor", sum := "94e0f4ee2a807ef69d497722ca99948f12daa03728db8ea1f3d021c3c856da03", func := "rhizome/rhizomelaw07.GraphBack", spec := "graphBack", inPlace := ["internal/bytealg.CountString", "internal/bytealg.IndexByteString", "internal/bytealg.IndexString", "internal/abi.NoEscape", "internal/bytealg.MakeNoZero", "internal/bytealg.Compare", "internal/bytealg.IndexByte"], unfollowed := true, recurses := true, named := ["internal/bytealg.MaxLen", "unicode/utf8.first", "unicode/utf8.acceptRanges"], apart := false, laid := [("unicode/utf8.acceptRanges", laid_unicode_utf8_acceptRanges), ("unicode/utf8.first", laid_unicode_utf8_first)], narrowed := true }
def GraphBackUptoSaid : Prop := graphBackUptoRow.holds Tryd.pinned (OpenSpec.upto graphBackSpec)

/-- 'rhizomelaw09.QueryReads', WHERE WHAT IT READS IS OF BULK AT MOST 1048576: true; the input reads as it did. -/
def queryReadsUptoRow : OpenClaim := { program := "ytalegpdnhkopmaadoor", sum := "94e0f4ee2a807ef69d497722ca99948f12daa03728db8ea1f3d021c3c856da03", func := "rhizome/rhizomelaw09.QueryReads", spec := "queryReads", unfollowed := true, recurses := true, named := ["unicode/utf8.first", "unicode/utf8.acceptRanges"], apart := false, laid := [("unicode/utf8.acceptRanges", laid_unicode_utf8_acceptRanges), ("unicode/utf8.first", laid_unicode_utf8_first)], narrowed := true }
def QueryReadsUptoSaid : Prop := queryReadsUptoRow.holds Tryd.pinned (OpenSpec.upto queryReadsSpec)

/-- 'rhizomelaw09.QueryLimits', WHERE WHAT IT READS IS OF BULK AT MOST 1048576: true; the input reads as it did. -/
def queryLimitsUptoRow : OpenClaim := { program := "ytalegpdnhkopmaadoor", sum := "94e0f4ee2a807ef69d497722ca99948f12daa03728db8ea1f3d021c3c856da03", func := "rhizome/rhizomelaw09.QueryLimits", spec := "queryLimits", unfollowed := true, recurses := true, named := ["unicode/utf8.first", "unicode/utf8.acceptRanges"], apart := false, laid := [("unicode/utf8.acceptRanges", laid_unicode_utf8_acceptRanges), ("unicode/utf8.first", laid_unicode_utf8_first)], narrowed := true }
def QueryLimitsUptoSaid : Prop := queryLimitsUptoRow.holds Tryd.pinned (OpenSpec.upto queryLimitsSpec)

/-- 'rhizomelaw09.QueryBack', WHERE WHAT IT READS IS OF BULK AT MOST 1048576: true; the input reads as it did. -/
def queryBackUptoRow : OpenClaim := { program := "ytalegpdnhkopmaadoor", sum := "94e0f4ee2a807ef69d497722ca99948f12daa03728db8ea1f3d021c3c856da03", func := "rhizome/rhizomelaw09.QueryBack", spec := "queryBack", inPlace := ["internal/abi.NoEscape", "internal/bytealg.MakeNoZero"], unfollowed := true, recurses := true, named := ["unicode/utf8.first", "unicode/utf8.acceptRanges"], apart := false, laid := [("unicode/utf8.acceptRanges", laid_unicode_utf8_acceptRanges), ("unicode/utf8.first", laid_unicode_utf8_first)], narrowed := true }
def QueryBackUptoSaid : Prop := queryBackUptoRow.holds Tryd.pinned (OpenSpec.upto queryBackSpec)

/-- 'rhizomelaw09.QueryCut', WHERE WHAT IT READS IS OF BULK AT MOST 1048576: true; the input reads as it did. -/
def queryCutUptoRow : OpenClaim := { program := "ytalegpdnhkopmaadoor", sum := "94e0f4ee2a807ef69d497722ca99948f12daa03728db8ea1f3d021c3c856da03", func := "rhizome/rhizomelaw09.QueryCut", spec := "queryCut", inPlace := ["internal/abi.NoEscape", "internal/bytealg.MakeNoZero"], unfollowed := true, recurses := true, named := ["unicode/utf8.first", "unicode/utf8.acceptRanges"], apart := false, laid := [("unicode/utf8.acceptRanges", laid_unicode_utf8_acceptRanges), ("unicode/utf8.first", laid_unicode_utf8_first)], narrowed := true }
def QueryCutUptoSaid : Prop := queryCutUptoRow.holds Tryd.pinned (OpenSpec.upto queryCutSpec)

/-- 'rhizomelaw09.QueryDressed', WHERE WHAT IT READS IS OF BULK AT MOST 1048576: true; the input reads as it did. -/
def queryDressedUptoRow : OpenClaim := { program := "ytalegpdnhkopmaadoor", sum := "94e0f4ee2a807ef69d497722ca99948f12daa03728db8ea1f3d021c3c856da03", func := "rhizome/rhizomelaw09.QueryDressed", spec := "queryDressed", inPlace := ["internal/abi.NoEscape", "internal/bytealg.MakeNoZero"], unfollowed := true, recurses := true, named := ["unicode/utf8.first", "unicode/utf8.acceptRanges"], apart := false, laid := [("unicode/utf8.acceptRanges", laid_unicode_utf8_acceptRanges), ("unicode/utf8.first", laid_unicode_utf8_first)], narrowed := true }
def QueryDressedUptoSaid : Prop := queryDressedUptoRow.holds Tryd.pinned (OpenSpec.upto queryDressedSpec)

/-- 'rhizomelaw15.RecordForms', WHERE WHAT IT READS IS OF BULK AT MOST 1048576: true; the input reads as it did. -/
def recordFormsUptoRow : OpenClaim := { program := "ytalegpdnhkopmaadoor", sum := "94e0f4ee2a807ef69d497722ca99948f12daa03728db8ea1f3d021c3c856da03", func := "rhizome/rhizomelaw15.RecordForms", spec := "recordForms", inPlace := ["internal/bytealg.CountString", "internal/bytealg.IndexByteString", "internal/bytealg.IndexString", "internal/abi.NoEscape", "internal/bytealg.MakeNoZero"], unfollowed := true, recurses := true, named := ["unicode/utf8.first", "unicode/utf8.acceptRanges", "internal/bytealg.MaxLen"], apart := false, laid := [("unicode/utf8.acceptRanges", laid_unicode_utf8_acceptRanges), ("unicode/utf8.first", laid_unicode_utf8_first)], narrowed := true }
def RecordFormsUptoSaid : Prop := recordFormsUptoRow.holds Tryd.pinned (OpenSpec.upto recordFormsSpec)

/-- 'rhizomelaw15.RecordLong', WHERE WHAT IT READS IS OF BULK AT MOST 1048576: true; the input reads as it did. -/
def recordLongUptoRow : OpenClaim := { program := "ytalegpdnhkopmaadoor", sum := "94e0f4ee2a807ef69d497722ca99948f12daa03728db8ea1f3d021c3c856da03", func := "rhizome/rhizomelaw15.RecordLong", spec := "recordLong", inPlace := ["internal/bytealg.CountString", "internal/bytealg.IndexByteString", "internal/bytealg.IndexString", "internal/abi.NoEscape", "internal/bytealg.MakeNoZero"], unfollowed := true, recurses := true, named := ["unicode/utf8.first", "unicode/utf8.acceptRanges", "internal/bytealg.MaxLen"], apart := false, laid := [("unicode/utf8.acceptRanges", laid_unicode_utf8_acceptRanges), ("unicode/utf8.first", laid_unicode_utf8_first)], narrowed := true }
def RecordLongUptoSaid : Prop := recordLongUptoRow.holds Tryd.pinned (OpenSpec.upto recordLongSpec)

/-- 'rhizomelaw15.RecordCut', WHERE WHAT IT READS IS OF BULK AT MOST 1048576: true; the input reads as it did. -/
def recordCutUptoRow : OpenClaim := { program := "ytalegpdnhkopmaadoor", sum := "94e0f4ee2a807ef69d497722ca99948f12daa03728db8ea1f3d021c3c856da03", func := "rhizome/rhizomelaw15.RecordCut", spec := "recordCut", inPlace := ["internal/bytealg.CountString", "internal/bytealg.IndexByteString", "internal/bytealg.IndexString", "internal/abi.NoEscape", "internal/bytealg.MakeNoZero", "internal/bytealg.IndexByte"], unfollowed := true, recurses := true, named := ["unicode/utf8.first", "unicode/utf8.acceptRanges", "internal/bytealg.MaxLen"], apart := false, laid := [("unicode/utf8.acceptRanges", laid_unicode_utf8_acceptRanges), ("unicode/utf8.first", laid_unicode_utf8_first)], narrowed := true }
def RecordCutUptoSaid : Prop := recordCutUptoRow.holds Tryd.pinned (OpenSpec.upto recordCutSpec)

/-- 'rhizomelaw15.RecordOwn', WHERE WHAT IT READS IS OF BULK AT MOST 1048576: true; the input reads as it did. -/
def recordOwnUptoRow : OpenClaim := { program := "ytalegpdnhkopmaadoor", sum := "94e0f4ee2a807ef69d497722ca99948f12daa03728db8ea1f3d021c3c856da03", func := "rhizome/rhizomelaw15.RecordOwn", spec := "recordOwn", inPlace := ["internal/bytealg.CountString", "internal/bytealg.IndexByteString", "internal/bytealg.IndexString", "internal/abi.NoEscape", "internal/bytealg.MakeNoZero", "internal/bytealg.IndexByte"], unfollowed := true, recurses := true, named := ["unicode/utf8.first", "unicode/utf8.acceptRanges", "internal/bytealg.MaxLen"], apart := false, laid := [("unicode/utf8.acceptRanges", laid_unicode_utf8_acceptRanges), ("unicode/utf8.first", laid_unicode_utf8_first)], narrowed := true }
def RecordOwnUptoSaid : Prop := recordOwnUptoRow.holds Tryd.pinned (OpenSpec.upto recordOwnSpec)

end Rows
end Go.Proofs.YtalegpdnhkopmaaDoor

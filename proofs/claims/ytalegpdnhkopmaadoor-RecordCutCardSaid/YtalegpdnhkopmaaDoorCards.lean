/-
  DERIVED. GIVEN WITH THE SEED: THE CARDS: each row of YtalegpdnhkopmaaDoorRows.lean that lists a variable, with what it lists TIED to the program's text (the seventh form; the later family's looks); each row that meets fmt, with fmt's text TOLD by the authors' own Lean function (tested against real Go, not proved from fmt's source: count such statements apart). THE CARD IS WHAT COUNTS. Prove the row's statement (the work); the ties are given (YtalegpdnhkopmaaDoorTie.lean); close each card by the builder's one call (the guide's Derived/Test/ToyasCard.lean, 'card_holds'). Laid BY PROGRAM, IN A SANDBOX (cutbox-door.mjs). By AI agents, Wed Nov 11 2026. No macro, syntax, notation, axiom, sorry.
-/
import Derived.Test.YtalegpdnhkopmaaDoorRows
import GoSem.ClaimSeven
namespace Go.Proofs.YtalegpdnhkopmaaDoor
namespace Rows

/-- THE TIED CARD OF 'rhizomelaw01.KeyOwn'. -/
def keyOwnCard : Claim7 := { stood := { row := keyOwnRow, standIns := [], harness := (true, "e46ea82928132f5ec5a97f0cd7b7837c92010c76498f043bb34c82e621849d0c"), looks := true }, kinds := [], alts := [], laidByText := true, laidKinds := [.data, .pinned], laidTests := true, laidLooks := .later }
def KeyOwnCardSaid : Prop := Claim7.holds Tryd.pinned (.plain (OpenSpec.ofChange keyOwnSpec)) keyOwnCard

/-- THE TIED CARD OF 'rhizomelaw07.GraphFull'. -/
def graphFullCard : Claim7 := { stood := { row := graphFullRow, standIns := [], harness := (true, "e46ea82928132f5ec5a97f0cd7b7837c92010c76498f043bb34c82e621849d0c"), looks := true }, kinds := [], alts := [], laidByText := true, laidKinds := [.data, .pinned], laidTests := true, laidLooks := .later }
def GraphFullCardSaid : Prop := Claim7.holds Tryd.pinned (.plain (OpenSpec.ofChange graphFullSpec)) graphFullCard

/-- THE TIED CARD OF 'rhizomelaw07.GraphWhole'. -/
def graphWholeCard : Claim7 := { stood := { row := graphWholeRow, standIns := [], harness := (true, "e46ea82928132f5ec5a97f0cd7b7837c92010c76498f043bb34c82e621849d0c"), looks := true }, kinds := [], alts := [], laidByText := true, laidKinds := [.data, .pinned], laidTests := true, laidLooks := .later }
def GraphWholeCardSaid : Prop := Claim7.holds Tryd.pinned (.plain (OpenSpec.ofChange graphWholeSpec)) graphWholeCard

/-- THE TIED CARD OF 'rhizomelaw07.GraphBack'. -/
def graphBackCard : Claim7 := { stood := { row := graphBackRow, standIns := [], harness := (true, "e46ea82928132f5ec5a97f0cd7b7837c92010c76498f043bb34c82e621849d0c"), looks := true }, kinds := [], alts := [], laidByText := true, laidKinds := [.data, .pinned], laidTests := true, laidLooks := .later }
def GraphBackCardSaid : Prop := Claim7.holds Tryd.pinned (.plain (OpenSpec.ofChange graphBackSpec)) graphBackCard

/-- THE TIED CARD OF 'rhizomelaw09.QueryReads'. -/
def queryReadsCard : Claim7 := { stood := { row := queryReadsRow, standIns := [], harness := (true, "e46ea82928132f5ec5a97f0cd7b7837c92010c76498f043bb34c82e621849d0c"), looks := true }, kinds := [], alts := [], laidByText := true, laidKinds := [.data, .pinned], laidTests := true, laidLooks := .later }
def QueryReadsCardSaid : Prop := Claim7.holds Tryd.pinned (.plain (OpenSpec.ofChange queryReadsSpec)) queryReadsCard

/-- THE TIED CARD OF 'rhizomelaw09.QueryLimits'. -/
def queryLimitsCard : Claim7 := { stood := { row := queryLimitsRow, standIns := [], harness := (true, "e46ea82928132f5ec5a97f0cd7b7837c92010c76498f043bb34c82e621849d0c"), looks := true }, kinds := [], alts := [], laidByText := true, laidKinds := [.data, .pinned], laidTests := true, laidLooks := .later }
def QueryLimitsCardSaid : Prop := Claim7.holds Tryd.pinned (.plain (OpenSpec.ofChange queryLimitsSpec)) queryLimitsCard

/-- THE TIED CARD OF 'rhizomelaw09.QueryBack'. -/
def queryBackCard : Claim7 := { stood := { row := queryBackRow, standIns := [], harness := (true, "e46ea82928132f5ec5a97f0cd7b7837c92010c76498f043bb34c82e621849d0c"), looks := true }, kinds := [], alts := [], laidByText := true, laidKinds := [.data, .pinned], laidTests := true, laidLooks := .later }
def QueryBackCardSaid : Prop := Claim7.holds Tryd.pinned (.plain (OpenSpec.ofChange queryBackSpec)) queryBackCard

/-- THE TIED CARD OF 'rhizomelaw09.QueryCut'. -/
def queryCutCard : Claim7 := { stood := { row := queryCutRow, standIns := [], harness := (true, "e46ea82928132f5ec5a97f0cd7b7837c92010c76498f043bb34c82e621849d0c"), looks := true }, kinds := [], alts := [], laidByText := true, laidKinds := [.data, .pinned], laidTests := true, laidLooks := .later }
def QueryCutCardSaid : Prop := Claim7.holds Tryd.pinned (.plain (OpenSpec.ofChange queryCutSpec)) queryCutCard

/-- THE TIED CARD OF 'rhizomelaw09.QueryDressed'. -/
def queryDressedCard : Claim7 := { stood := { row := queryDressedRow, standIns := [], harness := (true, "e46ea82928132f5ec5a97f0cd7b7837c92010c76498f043bb34c82e621849d0c"), looks := true }, kinds := [], alts := [], laidByText := true, laidKinds := [.data, .pinned], laidTests := true, laidLooks := .later }
def QueryDressedCardSaid : Prop := Claim7.holds Tryd.pinned (.plain (OpenSpec.ofChange queryDressedSpec)) queryDressedCard

/-- THE TIED CARD OF 'rhizomelaw15.RecordForms'. -/
def recordFormsCard : Claim7 := { stood := { row := recordFormsRow, standIns := [], harness := (true, "e46ea82928132f5ec5a97f0cd7b7837c92010c76498f043bb34c82e621849d0c"), looks := true }, kinds := [], alts := [], laidByText := true, laidKinds := [.data, .pinned], laidTests := true, laidLooks := .later }
def RecordFormsCardSaid : Prop := Claim7.holds Tryd.pinned (.plain (OpenSpec.ofChange recordFormsSpec)) recordFormsCard

/-- THE TIED CARD OF 'rhizomelaw15.RecordLong'. -/
def recordLongCard : Claim7 := { stood := { row := recordLongRow, standIns := [], harness := (true, "e46ea82928132f5ec5a97f0cd7b7837c92010c76498f043bb34c82e621849d0c"), looks := true }, kinds := [], alts := [], laidByText := true, laidKinds := [.data, .pinned], laidTests := true, laidLooks := .later }
def RecordLongCardSaid : Prop := Claim7.holds Tryd.pinned (.plain (OpenSpec.ofChange recordLongSpec)) recordLongCard

/-- THE TIED CARD OF 'rhizomelaw15.RecordCut'. -/
def recordCutCard : Claim7 := { stood := { row := recordCutRow, standIns := [], harness := (true, "e46ea82928132f5ec5a97f0cd7b7837c92010c76498f043bb34c82e621849d0c"), looks := true }, kinds := [], alts := [], laidByText := true, laidKinds := [.data, .pinned], laidTests := true, laidLooks := .later }
def RecordCutCardSaid : Prop := Claim7.holds Tryd.pinned (.plain (OpenSpec.ofChange recordCutSpec)) recordCutCard

/-- THE TIED CARD OF 'rhizomelaw15.RecordOwn'. -/
def recordOwnCard : Claim7 := { stood := { row := recordOwnRow, standIns := [], harness := (true, "e46ea82928132f5ec5a97f0cd7b7837c92010c76498f043bb34c82e621849d0c"), looks := true }, kinds := [], alts := [], laidByText := true, laidKinds := [.data, .pinned], laidTests := true, laidLooks := .later }
def RecordOwnCardSaid : Prop := Claim7.holds Tryd.pinned (.plain (OpenSpec.ofChange recordOwnSpec)) recordOwnCard

/-- THE SECOND FORM's CARD OF 'rhizomelaw01.KeyOwn'. -/
def keyOwnUptoCard : Claim7 := { stood := { row := keyOwnUptoRow, standIns := [], harness := (true, "e46ea82928132f5ec5a97f0cd7b7837c92010c76498f043bb34c82e621849d0c"), looks := true }, kinds := [], alts := [], laidByText := true, laidKinds := [.data, .pinned], laidTests := true, laidLooks := .later }
def KeyOwnUptoCardSaid : Prop := Claim7.holds Tryd.pinned (.plain (OpenSpec.upto keyOwnSpec)) keyOwnUptoCard

/-- THE SECOND FORM's CARD OF 'rhizomelaw07.GraphFull'. -/
def graphFullUptoCard : Claim7 := { stood := { row := graphFullUptoRow, standIns := [], harness := (true, "e46ea82928132f5ec5a97f0cd7b7837c92010c76498f043bb34c82e621849d0c"), looks := true }, kinds := [], alts := [], laidByText := true, laidKinds := [.data, .pinned], laidTests := true, laidLooks := .later }
def GraphFullUptoCardSaid : Prop := Claim7.holds Tryd.pinned (.plain (OpenSpec.upto graphFullSpec)) graphFullUptoCard

/-- THE SECOND FORM's CARD OF 'rhizomelaw07.GraphWhole'. -/
def graphWholeUptoCard : Claim7 := { stood := { row := graphWholeUptoRow, standIns := [], harness := (true, "e46ea82928132f5ec5a97f0cd7b7837c92010c76498f043bb34c82e621849d0c"), looks := true }, kinds := [], alts := [], laidByText := true, laidKinds := [.data, .pinned], laidTests := true, laidLooks := .later }
def GraphWholeUptoCardSaid : Prop := Claim7.holds Tryd.pinned (.plain (OpenSpec.upto graphWholeSpec)) graphWholeUptoCard

/-- THE SECOND FORM's CARD OF 'rhizomelaw07.GraphBack'. -/
def graphBackUptoCard : Claim7 := { stood := { row := graphBackUptoRow, standIns := [], harness := (true, "e46ea82928132f5ec5a97f0cd7b7837c92010c76498f043bb34c82e621849d0c"), looks := true }, kinds := [], alts := [], laidByText := true, laidKinds := [.data, .pinned], laidTests := true, laidLooks := .later }
def GraphBackUptoCardSaid : Prop := Claim7.holds Tryd.pinned (.plain (OpenSpec.upto graphBackSpec)) graphBackUptoCard

/-- THE SECOND FORM's CARD OF 'rhizomelaw09.QueryReads'. -/
def queryReadsUptoCard : Claim7 := { stood := { row := queryReadsUptoRow, standIns := [], harness := (true, "e46ea82928132f5ec5a97f0cd7b7837c92010c76498f043bb34c82e621849d0c"), looks := true }, kinds := [], alts := [], laidByText := true, laidKinds := [.data, .pinned], laidTests := true, laidLooks := .later }
def QueryReadsUptoCardSaid : Prop := Claim7.holds Tryd.pinned (.plain (OpenSpec.upto queryReadsSpec)) queryReadsUptoCard

/-- THE SECOND FORM's CARD OF 'rhizomelaw09.QueryLimits'. -/
def queryLimitsUptoCard : Claim7 := { stood := { row := queryLimitsUptoRow, standIns := [], harness := (true, "e46ea82928132f5ec5a97f0cd7b7837c92010c76498f043bb34c82e621849d0c"), looks := true }, kinds := [], alts := [], laidByText := true, laidKinds := [.data, .pinned], laidTests := true, laidLooks := .later }
def QueryLimitsUptoCardSaid : Prop := Claim7.holds Tryd.pinned (.plain (OpenSpec.upto queryLimitsSpec)) queryLimitsUptoCard

/-- THE SECOND FORM's CARD OF 'rhizomelaw09.QueryBack'. -/
def queryBackUptoCard : Claim7 := { stood := { row := queryBackUptoRow, standIns := [], harness := (true, "e46ea82928132f5ec5a97f0cd7b7837c92010c76498f043bb34c82e621849d0c"), looks := true }, kinds := [], alts := [], laidByText := true, laidKinds := [.data, .pinned], laidTests := true, laidLooks := .later }
def QueryBackUptoCardSaid : Prop := Claim7.holds Tryd.pinned (.plain (OpenSpec.upto queryBackSpec)) queryBackUptoCard

/-- THE SECOND FORM's CARD OF 'rhizomelaw09.QueryCut'. -/
def queryCutUptoCard : Claim7 := { stood := { row := queryCutUptoRow, standIns := [], harness := (true, "e46ea82928132f5ec5a97f0cd7b7837c92010c76498f043bb34c82e621849d0c"), looks := true }, kinds := [], alts := [], laidByText := true, laidKinds := [.data, .pinned], laidTests := true, laidLooks := .later }
def QueryCutUptoCardSaid : Prop := Claim7.holds Tryd.pinned (.plain (OpenSpec.upto queryCutSpec)) queryCutUptoCard

/-- THE SECOND FORM's CARD OF 'rhizomelaw09.QueryDressed'. -/
def queryDressedUptoCard : Claim7 := { stood := { row := queryDressedUptoRow, standIns := [], harness := (true, "e46ea82928132f5ec5a97f0cd7b7837c92010c76498f043bb34c82e621849d0c"), looks := true }, kinds := [], alts := [], laidByText := true, laidKinds := [.data, .pinned], laidTests := true, laidLooks := .later }
def QueryDressedUptoCardSaid : Prop := Claim7.holds Tryd.pinned (.plain (OpenSpec.upto queryDressedSpec)) queryDressedUptoCard

/-- THE SECOND FORM's CARD OF 'rhizomelaw15.RecordForms'. -/
def recordFormsUptoCard : Claim7 := { stood := { row := recordFormsUptoRow, standIns := [], harness := (true, "e46ea82928132f5ec5a97f0cd7b7837c92010c76498f043bb34c82e621849d0c"), looks := true }, kinds := [], alts := [], laidByText := true, laidKinds := [.data, .pinned], laidTests := true, laidLooks := .later }
def RecordFormsUptoCardSaid : Prop := Claim7.holds Tryd.pinned (.plain (OpenSpec.upto recordFormsSpec)) recordFormsUptoCard

/-- THE SECOND FORM's CARD OF 'rhizomelaw15.RecordLong'. -/
def recordLongUptoCard : Claim7 := { stood := { row := recordLongUptoRow, standIns := [], harness := (true, "e46ea82928132f5ec5a97f0cd7b7837c92010c76498f043bb34c82e621849d0c"), looks := true }, kinds := [], alts := [], laidByText := true, laidKinds := [.data, .pinned], laidTests := true, laidLooks := .later }
def RecordLongUptoCardSaid : Prop := Claim7.holds Tryd.pinned (.plain (OpenSpec.upto recordLongSpec)) recordLongUptoCard

/-- THE SECOND FORM's CARD OF 'rhizomelaw15.RecordCut'. -/
def recordCutUptoCard : Claim7 := { stood := { row := recordCutUptoRow, standIns := [], harness := (true, "e46ea82928132f5ec5a97f0cd7b7837c92010c76498f043bb34c82e621849d0c"), looks := true }, kinds := [], alts := [], laidByText := true, laidKinds := [.data, .pinned], laidTests := true, laidLooks := .later }
def RecordCutUptoCardSaid : Prop := Claim7.holds Tryd.pinned (.plain (OpenSpec.upto recordCutSpec)) recordCutUptoCard

/-- THE SECOND FORM's CARD OF 'rhizomelaw15.RecordOwn'. -/
def recordOwnUptoCard : Claim7 := { stood := { row := recordOwnUptoRow, standIns := [], harness := (true, "e46ea82928132f5ec5a97f0cd7b7837c92010c76498f043bb34c82e621849d0c"), looks := true }, kinds := [], alts := [], laidByText := true, laidKinds := [.data, .pinned], laidTests := true, laidLooks := .later }
def RecordOwnUptoCardSaid : Prop := Claim7.holds Tryd.pinned (.plain (OpenSpec.upto recordOwnSpec)) recordOwnUptoCard
end Rows
end Go.Proofs.YtalegpdnhkopmaaDoor

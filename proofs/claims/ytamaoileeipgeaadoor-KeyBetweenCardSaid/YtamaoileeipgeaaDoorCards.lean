/-
  DERIVED. GIVEN WITH THE SEED: THE CARDS: each row of YtamaoileeipgeaaDoorRows.lean that lists a variable, with what it lists TIED to the program's text (the seventh form; the later family's looks); each row that meets fmt, with fmt's text TOLD by the authors' own Lean function (tested against real Go, not proved from fmt's source: count such statements apart). THE CARD IS WHAT COUNTS. Prove the row's statement (the work); the ties are given (YtamaoileeipgeaaDoorTie.lean); close each card by the builder's one call (the guide's Derived/Test/ToyasCard.lean, 'card_holds'). Laid BY PROGRAM, IN A SANDBOX (cutbox-door.mjs). By AI agents, Wed Nov 11 2026. No macro, syntax, notation, axiom, sorry.
-/
import Derived.Test.YtamaoileeipgeaaDoorRows
import GoSem.ClaimSeven
namespace Go.Proofs.YtamaoileeipgeaaDoor
namespace Rows

/-- THE TIED CARD OF 'rhizomelaw01.KeyEnds'. -/
def keyEndsCard : Claim7 := { stood := { row := keyEndsRow, standIns := [], harness := (true, "6c38060451b1bb436d5606f734673cd502eeb4162a9ff10470c3ed8a16fa9d88"), looks := false }, kinds := [], alts := [], laidByText := true, laidKinds := [.data, .pinned], laidTests := true, laidLooks := .later }
def KeyEndsCardSaid : Prop := Claim7.holds Tryd.pinned (.plain (OpenSpec.ofChange keyEndsSpec)) keyEndsCard

/-- THE TIED CARD OF 'rhizomelaw01.KeyBetween'. -/
def keyBetweenCard : Claim7 := { stood := { row := keyBetweenRow, standIns := [], harness := (true, "6c38060451b1bb436d5606f734673cd502eeb4162a9ff10470c3ed8a16fa9d88"), looks := false }, kinds := [], alts := [], laidByText := true, laidKinds := [.data, .pinned], laidTests := true, laidLooks := .later }
def KeyBetweenCardSaid : Prop := Claim7.holds Tryd.pinned (.plain (OpenSpec.ofChange keyBetweenSpec)) keyBetweenCard

/-- THE TIED CARD OF 'rhizomelaw01.KeyWrites'. -/
def keyWritesCard : Claim7 := { stood := { row := keyWritesRow, standIns := [], harness := (true, "6c38060451b1bb436d5606f734673cd502eeb4162a9ff10470c3ed8a16fa9d88"), looks := false }, kinds := [], alts := [], laidByText := true, laidKinds := [.data, .pinned], laidTests := true, laidLooks := .later }
def KeyWritesCardSaid : Prop := Claim7.holds Tryd.pinned (.plain (OpenSpec.ofChange keyWritesSpec)) keyWritesCard

/-- THE TIED CARD OF 'rhizomelaw01.KeyReads'. -/
def keyReadsCard : Claim7 := { stood := { row := keyReadsRow, standIns := [], harness := (true, "6c38060451b1bb436d5606f734673cd502eeb4162a9ff10470c3ed8a16fa9d88"), looks := false }, kinds := [], alts := [], laidByText := true, laidKinds := [.data, .pinned], laidTests := true, laidLooks := .later }
def KeyReadsCardSaid : Prop := Claim7.holds Tryd.pinned (.plain (OpenSpec.ofChange keyReadsSpec)) keyReadsCard

/-- THE TIED CARD OF 'rhizomelaw01.KeyOwn'. -/
def keyOwnCard : Claim7 := { stood := { row := keyOwnRow, standIns := [], harness := (true, "6c38060451b1bb436d5606f734673cd502eeb4162a9ff10470c3ed8a16fa9d88"), looks := false }, kinds := [], alts := [], laidByText := true, laidKinds := [.data, .pinned], laidTests := true, laidLooks := .later }
def KeyOwnCardSaid : Prop := Claim7.holds Tryd.pinned (.plain (OpenSpec.ofChange keyOwnSpec)) keyOwnCard

/-- THE TIED CARD OF 'rhizomelaw01.KeyOrders'. -/
def keyOrdersCard : Claim7 := { stood := { row := keyOrdersRow, standIns := [], harness := (true, "6c38060451b1bb436d5606f734673cd502eeb4162a9ff10470c3ed8a16fa9d88"), looks := false }, kinds := [], alts := [], laidByText := true, laidKinds := [.data, .pinned], laidTests := true, laidLooks := .later }
def KeyOrdersCardSaid : Prop := Claim7.holds Tryd.pinned (.plain (OpenSpec.ofChange keyOrdersSpec)) keyOrdersCard

/-- THE TIED CARD OF 'rhizomelaw01.KeyThree'. -/
def keyThreeCard : Claim7 := { stood := { row := keyThreeRow, standIns := [], harness := (true, "6c38060451b1bb436d5606f734673cd502eeb4162a9ff10470c3ed8a16fa9d88"), looks := false }, kinds := [], alts := [], laidByText := true, laidKinds := [.data, .pinned], laidTests := true, laidLooks := .later }
def KeyThreeCardSaid : Prop := Claim7.holds Tryd.pinned (.plain (OpenSpec.ofChange keyThreeSpec)) keyThreeCard

/-- THE SECOND FORM's CARD OF 'rhizomelaw01.KeyEnds'. -/
def keyEndsUptoCard : Claim7 := { stood := { row := keyEndsUptoRow, standIns := [], harness := (true, "6c38060451b1bb436d5606f734673cd502eeb4162a9ff10470c3ed8a16fa9d88"), looks := false }, kinds := [], alts := [], laidByText := true, laidKinds := [.data, .pinned], laidTests := true, laidLooks := .later }
def KeyEndsUptoCardSaid : Prop := Claim7.holds Tryd.pinned (.plain (OpenSpec.upto keyEndsSpec)) keyEndsUptoCard

/-- THE SECOND FORM's CARD OF 'rhizomelaw01.KeyBetween'. -/
def keyBetweenUptoCard : Claim7 := { stood := { row := keyBetweenUptoRow, standIns := [], harness := (true, "6c38060451b1bb436d5606f734673cd502eeb4162a9ff10470c3ed8a16fa9d88"), looks := false }, kinds := [], alts := [], laidByText := true, laidKinds := [.data, .pinned], laidTests := true, laidLooks := .later }
def KeyBetweenUptoCardSaid : Prop := Claim7.holds Tryd.pinned (.plain (OpenSpec.upto keyBetweenSpec)) keyBetweenUptoCard

/-- THE SECOND FORM's CARD OF 'rhizomelaw01.KeyWrites'. -/
def keyWritesUptoCard : Claim7 := { stood := { row := keyWritesUptoRow, standIns := [], harness := (true, "6c38060451b1bb436d5606f734673cd502eeb4162a9ff10470c3ed8a16fa9d88"), looks := false }, kinds := [], alts := [], laidByText := true, laidKinds := [.data, .pinned], laidTests := true, laidLooks := .later }
def KeyWritesUptoCardSaid : Prop := Claim7.holds Tryd.pinned (.plain (OpenSpec.upto keyWritesSpec)) keyWritesUptoCard

/-- THE SECOND FORM's CARD OF 'rhizomelaw01.KeyReads'. -/
def keyReadsUptoCard : Claim7 := { stood := { row := keyReadsUptoRow, standIns := [], harness := (true, "6c38060451b1bb436d5606f734673cd502eeb4162a9ff10470c3ed8a16fa9d88"), looks := false }, kinds := [], alts := [], laidByText := true, laidKinds := [.data, .pinned], laidTests := true, laidLooks := .later }
def KeyReadsUptoCardSaid : Prop := Claim7.holds Tryd.pinned (.plain (OpenSpec.upto keyReadsSpec)) keyReadsUptoCard

/-- THE SECOND FORM's CARD OF 'rhizomelaw01.KeyOwn'. -/
def keyOwnUptoCard : Claim7 := { stood := { row := keyOwnUptoRow, standIns := [], harness := (true, "6c38060451b1bb436d5606f734673cd502eeb4162a9ff10470c3ed8a16fa9d88"), looks := false }, kinds := [], alts := [], laidByText := true, laidKinds := [.data, .pinned], laidTests := true, laidLooks := .later }
def KeyOwnUptoCardSaid : Prop := Claim7.holds Tryd.pinned (.plain (OpenSpec.upto keyOwnSpec)) keyOwnUptoCard

/-- THE SECOND FORM's CARD OF 'rhizomelaw01.KeyOrders'. -/
def keyOrdersUptoCard : Claim7 := { stood := { row := keyOrdersUptoRow, standIns := [], harness := (true, "6c38060451b1bb436d5606f734673cd502eeb4162a9ff10470c3ed8a16fa9d88"), looks := false }, kinds := [], alts := [], laidByText := true, laidKinds := [.data, .pinned], laidTests := true, laidLooks := .later }
def KeyOrdersUptoCardSaid : Prop := Claim7.holds Tryd.pinned (.plain (OpenSpec.upto keyOrdersSpec)) keyOrdersUptoCard

/-- THE SECOND FORM's CARD OF 'rhizomelaw01.KeyThree'. -/
def keyThreeUptoCard : Claim7 := { stood := { row := keyThreeUptoRow, standIns := [], harness := (true, "6c38060451b1bb436d5606f734673cd502eeb4162a9ff10470c3ed8a16fa9d88"), looks := false }, kinds := [], alts := [], laidByText := true, laidKinds := [.data, .pinned], laidTests := true, laidLooks := .later }
def KeyThreeUptoCardSaid : Prop := Claim7.holds Tryd.pinned (.plain (OpenSpec.upto keyThreeSpec)) keyThreeUptoCard
end Rows
end Go.Proofs.YtamaoileeipgeaaDoor

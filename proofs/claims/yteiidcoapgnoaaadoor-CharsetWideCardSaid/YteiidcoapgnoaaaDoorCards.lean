/-
  DERIVED. GIVEN WITH THE SEED: THE CARDS: each row of YteiidcoapgnoaaaDoorRows.lean that lists a variable, with what it lists TIED to the program's text (the seventh form; the later family's looks); each row that meets fmt, with fmt's text TOLD by the authors' own Lean function (tested against real Go, not proved from fmt's source: count such statements apart). THE CARD IS WHAT COUNTS. Prove the row's statement (the work); the ties are given (YteiidcoapgnoaaaDoorTie.lean); close each card by the builder's one call (the guide's Derived/Test/ToyasCard.lean, 'card_holds'). Laid BY PROGRAM, IN A SANDBOX (cutbox-door.mjs). By AI agents, Wed Nov 11 2026. No macro, syntax, notation, axiom, sorry.
-/
import Derived.Test.YteiidcoapgnoaaaDoorRows
import GoSem.ClaimSeven
namespace Go.Proofs.YteiidcoapgnoaaaDoor
namespace Rows

/-- THE TIED CARD OF 'masterdisclaw17.CharsetTexts'. -/
def charsetTextsCard : Claim7 := { stood := { row := charsetTextsRow, standIns := [], harness := (true, "d0339e4e4e6eb716891ba7ccc5a6b558b9e8f3dc4e4a3afb2f49d37d999e8219"), looks := false }, kinds := [], alts := [], laidByText := true, laidKinds := [.data, .pinned], laidTests := true, laidLooks := .later }
def CharsetTextsCardSaid : Prop := Claim7.holds Tryd.pinned (.plain (OpenSpec.ofChange charsetTextsSpec)) charsetTextsCard

/-- THE TIED CARD OF 'masterdisclaw17.CharsetClasses'. -/
def charsetClassesCard : Claim7 := { stood := { row := charsetClassesRow, standIns := [], harness := (true, "d0339e4e4e6eb716891ba7ccc5a6b558b9e8f3dc4e4a3afb2f49d37d999e8219"), looks := false }, kinds := [], alts := [], laidByText := true, laidKinds := [.data, .pinned], laidTests := true, laidLooks := .later }
def CharsetClassesCardSaid : Prop := Claim7.holds Tryd.pinned (.plain (OpenSpec.ofChange charsetClassesSpec)) charsetClassesCard

/-- THE TIED CARD OF 'masterdisclaw17.CharsetFields'. -/
def charsetFieldsCard : Claim7 := { stood := { row := charsetFieldsRow, standIns := [], harness := (true, "d0339e4e4e6eb716891ba7ccc5a6b558b9e8f3dc4e4a3afb2f49d37d999e8219"), looks := false }, kinds := [], alts := [], laidByText := true, laidKinds := [.data, .pinned], laidTests := true, laidLooks := .later }
def CharsetFieldsCardSaid : Prop := Claim7.holds Tryd.pinned (.plain (OpenSpec.ofChange charsetFieldsSpec)) charsetFieldsCard

/-- THE TIED CARD OF 'masterdisclaw17.CharsetWide'. -/
def charsetWideCard : Claim7 := { stood := { row := charsetWideRow, standIns := [], harness := (true, "d0339e4e4e6eb716891ba7ccc5a6b558b9e8f3dc4e4a3afb2f49d37d999e8219"), looks := false }, kinds := [], alts := [], laidByText := true, laidKinds := [.data, .pinned], laidTests := true, laidLooks := .later }
def CharsetWideCardSaid : Prop := Claim7.holds Tryd.pinned (.plain (OpenSpec.ofChange charsetWideSpec)) charsetWideCard

/-- THE TIED CARD OF 'masterdisclaw17.CharsetReturns'. -/
def charsetReturnsCard : Claim7 := { stood := { row := charsetReturnsRow, standIns := [], harness := (true, "d0339e4e4e6eb716891ba7ccc5a6b558b9e8f3dc4e4a3afb2f49d37d999e8219"), looks := false }, kinds := [], alts := [], laidByText := true, laidKinds := [.data, .pinned], laidTests := true, laidLooks := .later }
def CharsetReturnsCardSaid : Prop := Claim7.holds Tryd.pinned (.plain (OpenSpec.ofChange charsetReturnsSpec)) charsetReturnsCard

/-- THE TIED CARD OF 'masterdisclaw17.CharsetFilled'. -/
def charsetFilledCard : Claim7 := { stood := { row := charsetFilledRow, standIns := [], harness := (true, "d0339e4e4e6eb716891ba7ccc5a6b558b9e8f3dc4e4a3afb2f49d37d999e8219"), looks := false }, kinds := [], alts := [], laidByText := true, laidKinds := [.data, .pinned], laidTests := true, laidLooks := .later }
def CharsetFilledCardSaid : Prop := Claim7.holds Tryd.pinned (.plain (OpenSpec.ofChange charsetFilledSpec)) charsetFilledCard

/-- THE TIED CARD OF 'masterdisclaw17.CharsetUpper'. -/
def charsetUpperCard : Claim7 := { stood := { row := charsetUpperRow, standIns := [], harness := (true, "d0339e4e4e6eb716891ba7ccc5a6b558b9e8f3dc4e4a3afb2f49d37d999e8219"), looks := false }, kinds := [], alts := [], laidByText := true, laidKinds := [.data, .pinned], laidTests := true, laidLooks := .later }
def CharsetUpperCardSaid : Prop := Claim7.holds Tryd.pinned (.plain (OpenSpec.ofChange charsetUpperSpec)) charsetUpperCard

/-- THE TIED CARD OF 'masterdisclaw17.CharsetOrder'. -/
def charsetOrderCard : Claim7 := { stood := { row := charsetOrderRow, standIns := [], harness := (true, "d0339e4e4e6eb716891ba7ccc5a6b558b9e8f3dc4e4a3afb2f49d37d999e8219"), looks := false }, kinds := [], alts := [], laidByText := true, laidKinds := [.data, .pinned], laidTests := true, laidLooks := .later }
def CharsetOrderCardSaid : Prop := Claim7.holds Tryd.pinned (.plain (OpenSpec.ofChange charsetOrderSpec)) charsetOrderCard

/-- THE SECOND FORM's CARD OF 'masterdisclaw17.CharsetTexts'. -/
def charsetTextsUptoCard : Claim7 := { stood := { row := charsetTextsUptoRow, standIns := [], harness := (true, "d0339e4e4e6eb716891ba7ccc5a6b558b9e8f3dc4e4a3afb2f49d37d999e8219"), looks := false }, kinds := [], alts := [], laidByText := true, laidKinds := [.data, .pinned], laidTests := true, laidLooks := .later }
def CharsetTextsUptoCardSaid : Prop := Claim7.holds Tryd.pinned (.plain (OpenSpec.upto charsetTextsSpec)) charsetTextsUptoCard

/-- THE SECOND FORM's CARD OF 'masterdisclaw17.CharsetClasses'. -/
def charsetClassesUptoCard : Claim7 := { stood := { row := charsetClassesUptoRow, standIns := [], harness := (true, "d0339e4e4e6eb716891ba7ccc5a6b558b9e8f3dc4e4a3afb2f49d37d999e8219"), looks := false }, kinds := [], alts := [], laidByText := true, laidKinds := [.data, .pinned], laidTests := true, laidLooks := .later }
def CharsetClassesUptoCardSaid : Prop := Claim7.holds Tryd.pinned (.plain (OpenSpec.upto charsetClassesSpec)) charsetClassesUptoCard

/-- THE SECOND FORM's CARD OF 'masterdisclaw17.CharsetFields'. -/
def charsetFieldsUptoCard : Claim7 := { stood := { row := charsetFieldsUptoRow, standIns := [], harness := (true, "d0339e4e4e6eb716891ba7ccc5a6b558b9e8f3dc4e4a3afb2f49d37d999e8219"), looks := false }, kinds := [], alts := [], laidByText := true, laidKinds := [.data, .pinned], laidTests := true, laidLooks := .later }
def CharsetFieldsUptoCardSaid : Prop := Claim7.holds Tryd.pinned (.plain (OpenSpec.upto charsetFieldsSpec)) charsetFieldsUptoCard

/-- THE SECOND FORM's CARD OF 'masterdisclaw17.CharsetWide'. -/
def charsetWideUptoCard : Claim7 := { stood := { row := charsetWideUptoRow, standIns := [], harness := (true, "d0339e4e4e6eb716891ba7ccc5a6b558b9e8f3dc4e4a3afb2f49d37d999e8219"), looks := false }, kinds := [], alts := [], laidByText := true, laidKinds := [.data, .pinned], laidTests := true, laidLooks := .later }
def CharsetWideUptoCardSaid : Prop := Claim7.holds Tryd.pinned (.plain (OpenSpec.upto charsetWideSpec)) charsetWideUptoCard

/-- THE SECOND FORM's CARD OF 'masterdisclaw17.CharsetReturns'. -/
def charsetReturnsUptoCard : Claim7 := { stood := { row := charsetReturnsUptoRow, standIns := [], harness := (true, "d0339e4e4e6eb716891ba7ccc5a6b558b9e8f3dc4e4a3afb2f49d37d999e8219"), looks := false }, kinds := [], alts := [], laidByText := true, laidKinds := [.data, .pinned], laidTests := true, laidLooks := .later }
def CharsetReturnsUptoCardSaid : Prop := Claim7.holds Tryd.pinned (.plain (OpenSpec.upto charsetReturnsSpec)) charsetReturnsUptoCard

/-- THE SECOND FORM's CARD OF 'masterdisclaw17.CharsetFilled'. -/
def charsetFilledUptoCard : Claim7 := { stood := { row := charsetFilledUptoRow, standIns := [], harness := (true, "d0339e4e4e6eb716891ba7ccc5a6b558b9e8f3dc4e4a3afb2f49d37d999e8219"), looks := false }, kinds := [], alts := [], laidByText := true, laidKinds := [.data, .pinned], laidTests := true, laidLooks := .later }
def CharsetFilledUptoCardSaid : Prop := Claim7.holds Tryd.pinned (.plain (OpenSpec.upto charsetFilledSpec)) charsetFilledUptoCard

/-- THE SECOND FORM's CARD OF 'masterdisclaw17.CharsetUpper'. -/
def charsetUpperUptoCard : Claim7 := { stood := { row := charsetUpperUptoRow, standIns := [], harness := (true, "d0339e4e4e6eb716891ba7ccc5a6b558b9e8f3dc4e4a3afb2f49d37d999e8219"), looks := false }, kinds := [], alts := [], laidByText := true, laidKinds := [.data, .pinned], laidTests := true, laidLooks := .later }
def CharsetUpperUptoCardSaid : Prop := Claim7.holds Tryd.pinned (.plain (OpenSpec.upto charsetUpperSpec)) charsetUpperUptoCard

/-- THE SECOND FORM's CARD OF 'masterdisclaw17.CharsetOrder'. -/
def charsetOrderUptoCard : Claim7 := { stood := { row := charsetOrderUptoRow, standIns := [], harness := (true, "d0339e4e4e6eb716891ba7ccc5a6b558b9e8f3dc4e4a3afb2f49d37d999e8219"), looks := false }, kinds := [], alts := [], laidByText := true, laidKinds := [.data, .pinned], laidTests := true, laidLooks := .later }
def CharsetOrderUptoCardSaid : Prop := Claim7.holds Tryd.pinned (.plain (OpenSpec.upto charsetOrderSpec)) charsetOrderUptoCard
end Rows
end Go.Proofs.YteiidcoapgnoaaaDoor

/-
  DERIVED. GIVEN WITH THE SEED: THE CARDS: each row of YtecaaimaeaocbaaDoorRows.lean that lists a variable, with what it lists TIED to the program's text (the seventh form; the later family's looks); each row that meets fmt, with fmt's text TOLD by the authors' own Lean function (tested against real Go, not proved from fmt's source: count such statements apart). THE CARD IS WHAT COUNTS. Prove the row's statement (the work); the ties are given (YtecaaimaeaocbaaDoorTie.lean); close each card by the builder's one call (the guide's Derived/Test/ToyasCard.lean, 'card_holds'). Laid BY PROGRAM, IN A SANDBOX (cutbox-door.mjs). By AI agents, Wed Nov 11 2026. No macro, syntax, notation, axiom, sorry.
-/
import Derived.Test.YtecaaimaeaocbaaDoorRows
import GoSem.ClaimSeven
namespace Go.Proofs.YtecaaimaeaocbaaDoor
namespace Rows

/-- THE TIED CARD OF 'blazonlaw04.CutPrices'. -/
def cutPricesCard : Claim7 := { stood := { row := cutPricesRow, standIns := [], harness := (true, "2858789b77dbfb8c6ea20a5ced8c15d0d73bc4d4097f3083f6191a664c680e9e"), looks := true }, kinds := [], alts := [], laidByText := true, laidKinds := [.data, .data, .data, .sentinel, .sentinel], laidTests := true, laidLooks := .later }
def CutPricesCardSaid : Prop := Claim7.holds Tryd.pinned (.plain (OpenSpec.ofChange cutPricesSpec)) cutPricesCard

/-- THE TIED CARD OF 'blazonlaw04.CutFits'. -/
def cutFitsCard : Claim7 := { stood := { row := cutFitsRow, standIns := [], harness := (true, "2858789b77dbfb8c6ea20a5ced8c15d0d73bc4d4097f3083f6191a664c680e9e"), looks := true }, kinds := [], alts := [], laidByText := true, laidKinds := [.data, .data, .data, .sentinel, .sentinel], laidTests := true, laidLooks := .later }
def CutFitsCardSaid : Prop := Claim7.holds Tryd.pinned (.plain (OpenSpec.ofChange cutFitsSpec)) cutFitsCard

/-- THE TIED CARD OF 'blazonlaw04.CutClashes'. -/
def cutClashesCard : Claim7 := { stood := { row := cutClashesRow, standIns := [], harness := (true, "2858789b77dbfb8c6ea20a5ced8c15d0d73bc4d4097f3083f6191a664c680e9e"), looks := true }, kinds := [], alts := [], laidByText := true, laidKinds := [.data, .data, .data, .sentinel, .sentinel], laidTests := true, laidLooks := .later }
def CutClashesCardSaid : Prop := Claim7.holds Tryd.pinned (.plain (OpenSpec.ofChange cutClashesSpec)) cutClashesCard

/-- THE TIED CARD OF 'blazonlaw04.CutLeast'. -/
def cutLeastCard : Claim7 := { stood := { row := cutLeastRow, standIns := [], harness := (true, "2858789b77dbfb8c6ea20a5ced8c15d0d73bc4d4097f3083f6191a664c680e9e"), looks := true }, kinds := [], alts := [], laidByText := true, laidKinds := [.data, .data, .data, .sentinel, .sentinel], laidTests := true, laidLooks := .later }
def CutLeastCardSaid : Prop := Claim7.holds Tryd.pinned (.plain (OpenSpec.ofChange cutLeastSpec)) cutLeastCard

/-- THE TIED CARD OF 'blazonlaw04.CutMore'. -/
def cutMoreCard : Claim7 := { stood := { row := cutMoreRow, standIns := [], harness := (true, "2858789b77dbfb8c6ea20a5ced8c15d0d73bc4d4097f3083f6191a664c680e9e"), looks := true }, kinds := [], alts := [], laidByText := true, laidKinds := [.data, .data, .data, .sentinel, .sentinel], laidTests := true, laidLooks := .later }
def CutMoreCardSaid : Prop := Claim7.holds Tryd.pinned (.plain (OpenSpec.ofChange cutMoreSpec)) cutMoreCard

/-- THE TIED CARD OF 'blazonlaw04.CutUsed'. -/
def cutUsedCard : Claim7 := { stood := { row := cutUsedRow, standIns := [], harness := (true, "2858789b77dbfb8c6ea20a5ced8c15d0d73bc4d4097f3083f6191a664c680e9e"), looks := true }, kinds := [], alts := [], laidByText := true, laidKinds := [.data, .data, .data, .sentinel, .sentinel], laidTests := true, laidLooks := .later }
def CutUsedCardSaid : Prop := Claim7.holds Tryd.pinned (.plain (OpenSpec.ofChange cutUsedSpec)) cutUsedCard

/-- THE TIED CARD OF 'blazonlaw04.CutPlaces'. -/
def cutPlacesCard : Claim7 := { stood := { row := cutPlacesRow, standIns := [], harness := (true, "2858789b77dbfb8c6ea20a5ced8c15d0d73bc4d4097f3083f6191a664c680e9e"), looks := true }, kinds := [], alts := [], laidByText := true, laidKinds := [.data, .data, .data, .sentinel, .sentinel], laidTests := true, laidLooks := .later }
def CutPlacesCardSaid : Prop := Claim7.holds Tryd.pinned (.plain (OpenSpec.ofChange cutPlacesSpec)) cutPlacesCard

/-- THE TIED CARD OF 'blazonlaw04.CutParses'. -/
def cutParsesCard : Claim7 := { stood := { row := cutParsesRow, standIns := [], harness := (true, "2858789b77dbfb8c6ea20a5ced8c15d0d73bc4d4097f3083f6191a664c680e9e"), looks := true }, kinds := [], alts := [], laidByText := true, laidKinds := [.data, .data, .data, .sentinel, .sentinel], laidTests := true, laidLooks := .later }
def CutParsesCardSaid : Prop := Claim7.holds Tryd.pinned (.plain (OpenSpec.ofChange cutParsesSpec)) cutParsesCard

/-- THE TIED CARD OF 'blazonlaw04.CutFormats'. -/
def cutFormatsCard : Claim7 := { stood := { row := cutFormatsRow, standIns := [], harness := (true, "2858789b77dbfb8c6ea20a5ced8c15d0d73bc4d4097f3083f6191a664c680e9e"), looks := true }, kinds := [], alts := [], laidByText := true, laidKinds := [.data, .data, .data, .sentinel, .sentinel], laidTests := true, laidLooks := .later }
def CutFormatsCardSaid : Prop := Claim7.holds Tryd.pinned (.plain (OpenSpec.ofChange cutFormatsSpec)) cutFormatsCard

/-- THE TIED CARD OF 'blazonlaw04.CutApart'. -/
def cutApartCard : Claim7 := { stood := { row := cutApartRow, standIns := [], harness := (true, "2858789b77dbfb8c6ea20a5ced8c15d0d73bc4d4097f3083f6191a664c680e9e"), looks := true }, kinds := [], alts := [], laidByText := true, laidKinds := [.data, .data, .data, .sentinel, .sentinel], laidTests := true, laidLooks := .later }
def CutApartCardSaid : Prop := Claim7.holds Tryd.pinned (.plain (OpenSpec.ofChange cutApartSpec)) cutApartCard

/-- THE TIED CARD OF 'blazonlaw04.CutLong'. -/
def cutLongCard : Claim7 := { stood := { row := cutLongRow, standIns := [], harness := (true, "2858789b77dbfb8c6ea20a5ced8c15d0d73bc4d4097f3083f6191a664c680e9e"), looks := true }, kinds := [], alts := [], laidByText := true, laidKinds := [.data, .data, .data, .sentinel, .sentinel], laidTests := true, laidLooks := .later }
def CutLongCardSaid : Prop := Claim7.holds Tryd.pinned (.plain (OpenSpec.ofChange cutLongSpec)) cutLongCard

/-- THE TIED CARD OF 'blazonlaw04.CutCanonical'. -/
def cutCanonicalCard : Claim7 := { stood := { row := cutCanonicalRow, standIns := [], harness := (true, "2858789b77dbfb8c6ea20a5ced8c15d0d73bc4d4097f3083f6191a664c680e9e"), looks := true }, kinds := [], alts := [], laidByText := true, laidKinds := [.data, .data, .data, .sentinel, .sentinel], laidTests := true, laidLooks := .later }
def CutCanonicalCardSaid : Prop := Claim7.holds Tryd.pinned (.plain (OpenSpec.ofChange cutCanonicalSpec)) cutCanonicalCard

/-- THE TIED CARD OF 'blazonlaw04.CutGreedy'. -/
def cutGreedyCard : Claim7 := { stood := { row := cutGreedyRow, standIns := [], harness := (true, "2858789b77dbfb8c6ea20a5ced8c15d0d73bc4d4097f3083f6191a664c680e9e"), looks := true }, kinds := [], alts := [], laidByText := true, laidKinds := [.data, .data, .data, .sentinel, .sentinel], laidTests := true, laidLooks := .later }
def CutGreedyCardSaid : Prop := Claim7.holds Tryd.pinned (.plain (OpenSpec.ofChange cutGreedySpec)) cutGreedyCard

/-- THE TIED CARD OF 'blazonlaw04.CutChecks'. -/
def cutChecksCard : Claim7 := { stood := { row := cutChecksRow, standIns := [], harness := (true, "2858789b77dbfb8c6ea20a5ced8c15d0d73bc4d4097f3083f6191a664c680e9e"), looks := true }, kinds := [], alts := [], laidByText := true, laidKinds := [.data, .data, .data, .sentinel, .sentinel], laidTests := true, laidLooks := .later }
def CutChecksCardSaid : Prop := Claim7.holds Tryd.pinned (.plain (OpenSpec.ofChange cutChecksSpec)) cutChecksCard

/-- THE SECOND FORM's CARD OF 'blazonlaw04.CutPrices'. -/
def cutPricesUptoCard : Claim7 := { stood := { row := cutPricesUptoRow, standIns := [], harness := (true, "2858789b77dbfb8c6ea20a5ced8c15d0d73bc4d4097f3083f6191a664c680e9e"), looks := true }, kinds := [], alts := [], laidByText := true, laidKinds := [.data, .data, .data, .sentinel, .sentinel], laidTests := true, laidLooks := .later }
def CutPricesUptoCardSaid : Prop := Claim7.holds Tryd.pinned (.plain (OpenSpec.upto cutPricesSpec)) cutPricesUptoCard

/-- THE SECOND FORM's CARD OF 'blazonlaw04.CutFits'. -/
def cutFitsUptoCard : Claim7 := { stood := { row := cutFitsUptoRow, standIns := [], harness := (true, "2858789b77dbfb8c6ea20a5ced8c15d0d73bc4d4097f3083f6191a664c680e9e"), looks := true }, kinds := [], alts := [], laidByText := true, laidKinds := [.data, .data, .data, .sentinel, .sentinel], laidTests := true, laidLooks := .later }
def CutFitsUptoCardSaid : Prop := Claim7.holds Tryd.pinned (.plain (OpenSpec.upto cutFitsSpec)) cutFitsUptoCard

/-- THE SECOND FORM's CARD OF 'blazonlaw04.CutClashes'. -/
def cutClashesUptoCard : Claim7 := { stood := { row := cutClashesUptoRow, standIns := [], harness := (true, "2858789b77dbfb8c6ea20a5ced8c15d0d73bc4d4097f3083f6191a664c680e9e"), looks := true }, kinds := [], alts := [], laidByText := true, laidKinds := [.data, .data, .data, .sentinel, .sentinel], laidTests := true, laidLooks := .later }
def CutClashesUptoCardSaid : Prop := Claim7.holds Tryd.pinned (.plain (OpenSpec.upto cutClashesSpec)) cutClashesUptoCard

/-- THE SECOND FORM's CARD OF 'blazonlaw04.CutLeast'. -/
def cutLeastUptoCard : Claim7 := { stood := { row := cutLeastUptoRow, standIns := [], harness := (true, "2858789b77dbfb8c6ea20a5ced8c15d0d73bc4d4097f3083f6191a664c680e9e"), looks := true }, kinds := [], alts := [], laidByText := true, laidKinds := [.data, .data, .data, .sentinel, .sentinel], laidTests := true, laidLooks := .later }
def CutLeastUptoCardSaid : Prop := Claim7.holds Tryd.pinned (.plain (OpenSpec.upto cutLeastSpec)) cutLeastUptoCard

/-- THE SECOND FORM's CARD OF 'blazonlaw04.CutMore'. -/
def cutMoreUptoCard : Claim7 := { stood := { row := cutMoreUptoRow, standIns := [], harness := (true, "2858789b77dbfb8c6ea20a5ced8c15d0d73bc4d4097f3083f6191a664c680e9e"), looks := true }, kinds := [], alts := [], laidByText := true, laidKinds := [.data, .data, .data, .sentinel, .sentinel], laidTests := true, laidLooks := .later }
def CutMoreUptoCardSaid : Prop := Claim7.holds Tryd.pinned (.plain (OpenSpec.upto cutMoreSpec)) cutMoreUptoCard

/-- THE SECOND FORM's CARD OF 'blazonlaw04.CutUsed'. -/
def cutUsedUptoCard : Claim7 := { stood := { row := cutUsedUptoRow, standIns := [], harness := (true, "2858789b77dbfb8c6ea20a5ced8c15d0d73bc4d4097f3083f6191a664c680e9e"), looks := true }, kinds := [], alts := [], laidByText := true, laidKinds := [.data, .data, .data, .sentinel, .sentinel], laidTests := true, laidLooks := .later }
def CutUsedUptoCardSaid : Prop := Claim7.holds Tryd.pinned (.plain (OpenSpec.upto cutUsedSpec)) cutUsedUptoCard

/-- THE SECOND FORM's CARD OF 'blazonlaw04.CutPlaces'. -/
def cutPlacesUptoCard : Claim7 := { stood := { row := cutPlacesUptoRow, standIns := [], harness := (true, "2858789b77dbfb8c6ea20a5ced8c15d0d73bc4d4097f3083f6191a664c680e9e"), looks := true }, kinds := [], alts := [], laidByText := true, laidKinds := [.data, .data, .data, .sentinel, .sentinel], laidTests := true, laidLooks := .later }
def CutPlacesUptoCardSaid : Prop := Claim7.holds Tryd.pinned (.plain (OpenSpec.upto cutPlacesSpec)) cutPlacesUptoCard

/-- THE SECOND FORM's CARD OF 'blazonlaw04.CutParses'. -/
def cutParsesUptoCard : Claim7 := { stood := { row := cutParsesUptoRow, standIns := [], harness := (true, "2858789b77dbfb8c6ea20a5ced8c15d0d73bc4d4097f3083f6191a664c680e9e"), looks := true }, kinds := [], alts := [], laidByText := true, laidKinds := [.data, .data, .data, .sentinel, .sentinel], laidTests := true, laidLooks := .later }
def CutParsesUptoCardSaid : Prop := Claim7.holds Tryd.pinned (.plain (OpenSpec.upto cutParsesSpec)) cutParsesUptoCard

/-- THE SECOND FORM's CARD OF 'blazonlaw04.CutFormats'. -/
def cutFormatsUptoCard : Claim7 := { stood := { row := cutFormatsUptoRow, standIns := [], harness := (true, "2858789b77dbfb8c6ea20a5ced8c15d0d73bc4d4097f3083f6191a664c680e9e"), looks := true }, kinds := [], alts := [], laidByText := true, laidKinds := [.data, .data, .data, .sentinel, .sentinel], laidTests := true, laidLooks := .later }
def CutFormatsUptoCardSaid : Prop := Claim7.holds Tryd.pinned (.plain (OpenSpec.upto cutFormatsSpec)) cutFormatsUptoCard

/-- THE SECOND FORM's CARD OF 'blazonlaw04.CutApart'. -/
def cutApartUptoCard : Claim7 := { stood := { row := cutApartUptoRow, standIns := [], harness := (true, "2858789b77dbfb8c6ea20a5ced8c15d0d73bc4d4097f3083f6191a664c680e9e"), looks := true }, kinds := [], alts := [], laidByText := true, laidKinds := [.data, .data, .data, .sentinel, .sentinel], laidTests := true, laidLooks := .later }
def CutApartUptoCardSaid : Prop := Claim7.holds Tryd.pinned (.plain (OpenSpec.upto cutApartSpec)) cutApartUptoCard

/-- THE SECOND FORM's CARD OF 'blazonlaw04.CutLong'. -/
def cutLongUptoCard : Claim7 := { stood := { row := cutLongUptoRow, standIns := [], harness := (true, "2858789b77dbfb8c6ea20a5ced8c15d0d73bc4d4097f3083f6191a664c680e9e"), looks := true }, kinds := [], alts := [], laidByText := true, laidKinds := [.data, .data, .data, .sentinel, .sentinel], laidTests := true, laidLooks := .later }
def CutLongUptoCardSaid : Prop := Claim7.holds Tryd.pinned (.plain (OpenSpec.upto cutLongSpec)) cutLongUptoCard

/-- THE SECOND FORM's CARD OF 'blazonlaw04.CutCanonical'. -/
def cutCanonicalUptoCard : Claim7 := { stood := { row := cutCanonicalUptoRow, standIns := [], harness := (true, "2858789b77dbfb8c6ea20a5ced8c15d0d73bc4d4097f3083f6191a664c680e9e"), looks := true }, kinds := [], alts := [], laidByText := true, laidKinds := [.data, .data, .data, .sentinel, .sentinel], laidTests := true, laidLooks := .later }
def CutCanonicalUptoCardSaid : Prop := Claim7.holds Tryd.pinned (.plain (OpenSpec.upto cutCanonicalSpec)) cutCanonicalUptoCard

/-- THE SECOND FORM's CARD OF 'blazonlaw04.CutGreedy'. -/
def cutGreedyUptoCard : Claim7 := { stood := { row := cutGreedyUptoRow, standIns := [], harness := (true, "2858789b77dbfb8c6ea20a5ced8c15d0d73bc4d4097f3083f6191a664c680e9e"), looks := true }, kinds := [], alts := [], laidByText := true, laidKinds := [.data, .data, .data, .sentinel, .sentinel], laidTests := true, laidLooks := .later }
def CutGreedyUptoCardSaid : Prop := Claim7.holds Tryd.pinned (.plain (OpenSpec.upto cutGreedySpec)) cutGreedyUptoCard

/-- THE SECOND FORM's CARD OF 'blazonlaw04.CutChecks'. -/
def cutChecksUptoCard : Claim7 := { stood := { row := cutChecksUptoRow, standIns := [], harness := (true, "2858789b77dbfb8c6ea20a5ced8c15d0d73bc4d4097f3083f6191a664c680e9e"), looks := true }, kinds := [], alts := [], laidByText := true, laidKinds := [.data, .data, .data, .sentinel, .sentinel], laidTests := true, laidLooks := .later }
def CutChecksUptoCardSaid : Prop := Claim7.holds Tryd.pinned (.plain (OpenSpec.upto cutChecksSpec)) cutChecksUptoCard
end Rows
end Go.Proofs.YtecaaimaeaocbaaDoor

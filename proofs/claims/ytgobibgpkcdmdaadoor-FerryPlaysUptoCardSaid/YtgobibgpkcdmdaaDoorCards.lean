/-
  DERIVED. GIVEN WITH THE SEED: THE CARDS: each row of YtgobibgpkcdmdaaDoorRows.lean that lists a variable, with what it lists TIED to the program's text (the seventh form; the later family's looks); each row that meets fmt, with fmt's text TOLD by the authors' own Lean function (tested against real Go, not proved from fmt's source: count such statements apart). THE CARD IS WHAT COUNTS. Prove the row's statement (the work); the ties are given (YtgobibgpkcdmdaaDoorTie.lean); close each card by the builder's one call (the guide's Derived/Test/ToyasCard.lean, 'card_holds'). Laid BY PROGRAM, IN A SANDBOX (cutbox-door.mjs). By AI agents, Wed Nov 11 2026. No macro, syntax, notation, axiom, sorry.
-/
import Derived.Test.YtgobibgpkcdmdaaDoorRows
import GoSem.ClaimSeven
namespace Go.Proofs.YtgobibgpkcdmdaaDoor
namespace Rows

/-- THE TIED CARD OF 'amberlaw22.FerryPlays'. -/
def ferryPlaysCard : Claim7 := { stood := { row := ferryPlaysRow, standIns := [], harness := (true, "f6f99e8f7d6534747e153c46f3ead74c5e32e3fecde1393e0f4f54c8c010c832"), looks := true }, kinds := [], alts := [], laidByText := true, laidKinds := [.funcs], laidTests := true, laidLooks := .later }
def FerryPlaysCardSaid : Prop := Claim7.holds Tryd.pinned (.plain (OpenSpec.ofChange ferryPlaysSpec)) ferryPlaysCard

/-- THE TIED CARD OF 'amberlaw22.FerryAllOrNothing'. -/
def ferryAllOrNothingCard : Claim7 := { stood := { row := ferryAllOrNothingRow, standIns := [], harness := (true, "f6f99e8f7d6534747e153c46f3ead74c5e32e3fecde1393e0f4f54c8c010c832"), looks := true }, kinds := [], alts := [], laidByText := true, laidKinds := [.funcs], laidTests := true, laidLooks := .later }
def FerryAllOrNothingCardSaid : Prop := Claim7.holds Tryd.pinned (.plain (OpenSpec.ofChange ferryAllOrNothingSpec)) ferryAllOrNothingCard

/-- THE TIED CARD OF 'amberlaw22.FerryEnds'. -/
def ferryEndsCard : Claim7 := { stood := { row := ferryEndsRow, standIns := [], harness := (true, "f6f99e8f7d6534747e153c46f3ead74c5e32e3fecde1393e0f4f54c8c010c832"), looks := true }, kinds := [], alts := [], laidByText := true, laidKinds := [.funcs], laidTests := true, laidLooks := .later }
def FerryEndsCardSaid : Prop := Claim7.holds Tryd.pinned (.plain (OpenSpec.ofChange ferryEndsSpec)) ferryEndsCard

/-- THE TIED CARD OF 'amberlaw22.FerryAnyOrder'. -/
def ferryAnyOrderCard : Claim7 := { stood := { row := ferryAnyOrderRow, standIns := [], harness := (true, "f6f99e8f7d6534747e153c46f3ead74c5e32e3fecde1393e0f4f54c8c010c832"), looks := true }, kinds := [], alts := [], laidByText := true, laidKinds := [.funcs], laidTests := true, laidLooks := .later }
def FerryAnyOrderCardSaid : Prop := Claim7.holds Tryd.pinned (.plain (OpenSpec.ofChange ferryAnyOrderSpec)) ferryAnyOrderCard

/-- THE TIED CARD OF 'amberlaw22.FerryLoads'. -/
def ferryLoadsCard : Claim7 := { stood := { row := ferryLoadsRow, standIns := [], harness := (true, "f6f99e8f7d6534747e153c46f3ead74c5e32e3fecde1393e0f4f54c8c010c832"), looks := true }, kinds := [], alts := [], laidByText := true, laidKinds := [.funcs, .sentinel, .sentinel, .funcs], laidTests := true, laidLooks := .later }
def FerryLoadsCardSaid : Prop := Claim7.holds Tryd.pinned (.plain (OpenSpec.ofChange ferryLoadsSpec)) ferryLoadsCard

/-- THE TIED CARD OF 'amberlaw13.ImageChecks'. -/
def imageChecksCard : Claim7 := { stood := { row := imageChecksRow, standIns := [], harness := (true, "f6f99e8f7d6534747e153c46f3ead74c5e32e3fecde1393e0f4f54c8c010c832"), looks := true }, kinds := [], alts := [], laidByText := true, laidKinds := [.handle, .funcs, .sentinel, .sentinel, .sentinel, .sentinel, .sentinel, .sentinel, .sentinel, .sentinel, .sentinel, .data, .funcs], laidTests := true, laidLooks := .later }
def ImageChecksCardSaid : Prop := Claim7.holds Tryd.pinned (.plain (OpenSpec.ofChange imageChecksSpec)) imageChecksCard

/-- THE TIED CARD OF 'amberlaw13.ImageOne'. -/
def imageOneCard : Claim7 := { stood := { row := imageOneRow, standIns := [], harness := (true, "f6f99e8f7d6534747e153c46f3ead74c5e32e3fecde1393e0f4f54c8c010c832"), looks := true }, kinds := [], alts := [], laidByText := true, laidKinds := [.handle, .funcs, .sentinel, .sentinel, .sentinel, .sentinel, .sentinel, .sentinel, .sentinel, .sentinel, .sentinel, .data, .funcs], laidTests := true, laidLooks := .later }
def ImageOneCardSaid : Prop := Claim7.holds Tryd.pinned (.plain (OpenSpec.ofChange imageOneSpec)) imageOneCard

/-- THE TIED CARD OF 'amberlaw13.ImageBurst'. -/
def imageBurstCard : Claim7 := { stood := { row := imageBurstRow, standIns := [], harness := (true, "f6f99e8f7d6534747e153c46f3ead74c5e32e3fecde1393e0f4f54c8c010c832"), looks := true }, kinds := [], alts := [], laidByText := true, laidKinds := [.handle, .funcs, .sentinel, .sentinel, .sentinel, .sentinel, .sentinel, .sentinel, .sentinel, .sentinel, .sentinel, .data, .funcs], laidTests := true, laidLooks := .later }
def ImageBurstCardSaid : Prop := Claim7.holds Tryd.pinned (.plain (OpenSpec.ofChange imageBurstSpec)) imageBurstCard

/-- THE TIED CARD OF 'amberlaw13.ImageCut'. -/
def imageCutCard : Claim7 := { stood := { row := imageCutRow, standIns := [], harness := (true, "f6f99e8f7d6534747e153c46f3ead74c5e32e3fecde1393e0f4f54c8c010c832"), looks := true }, kinds := [], alts := [], laidByText := true, laidKinds := [.handle, .funcs, .sentinel, .sentinel, .sentinel, .sentinel, .sentinel, .sentinel, .sentinel, .sentinel, .sentinel, .data, .funcs], laidTests := true, laidLooks := .later }
def ImageCutCardSaid : Prop := Claim7.holds Tryd.pinned (.plain (OpenSpec.ofChange imageCutSpec)) imageCutCard

/-- THE TIED CARD OF 'amberlaw13.ImageMixed'. -/
def imageMixedCard : Claim7 := { stood := { row := imageMixedRow, standIns := [], harness := (true, "f6f99e8f7d6534747e153c46f3ead74c5e32e3fecde1393e0f4f54c8c010c832"), looks := true }, kinds := [], alts := [], laidByText := true, laidKinds := [.handle, .funcs, .sentinel, .sentinel, .sentinel, .sentinel, .sentinel, .sentinel, .sentinel, .sentinel, .sentinel, .data, .funcs], laidTests := true, laidLooks := .later }
def ImageMixedCardSaid : Prop := Claim7.holds Tryd.pinned (.plain (OpenSpec.ofChange imageMixedSpec)) imageMixedCard

/-- THE TIED CARD OF 'amberlaw13.ImageValids'. -/
def imageValidsCard : Claim7 := { stood := { row := imageValidsRow, standIns := [], harness := (true, "f6f99e8f7d6534747e153c46f3ead74c5e32e3fecde1393e0f4f54c8c010c832"), looks := true }, kinds := [], alts := [], laidByText := true, laidKinds := [.handle, .funcs, .sentinel, .sentinel, .sentinel, .sentinel, .sentinel, .sentinel, .sentinel, .sentinel, .sentinel, .data, .funcs], laidTests := true, laidLooks := .later }
def ImageValidsCardSaid : Prop := Claim7.holds Tryd.pinned (.plain (OpenSpec.ofChange imageValidsSpec)) imageValidsCard

/-- THE TIED CARD OF 'amberlaw13.ImageBack'. -/
def imageBackCard : Claim7 := { stood := { row := imageBackRow, standIns := [], harness := (true, "f6f99e8f7d6534747e153c46f3ead74c5e32e3fecde1393e0f4f54c8c010c832"), looks := true }, kinds := [], alts := [], laidByText := true, laidKinds := [.handle, .funcs, .sentinel, .sentinel, .sentinel, .sentinel, .sentinel, .sentinel, .sentinel, .sentinel, .sentinel, .data, .funcs], laidTests := true, laidLooks := .later }
def ImageBackCardSaid : Prop := Claim7.holds Tryd.pinned (.plain (OpenSpec.ofChange imageBackSpec)) imageBackCard

/-- THE TIED CARD OF 'amberlaw13.ImageIdents'. -/
def imageIdentsCard : Claim7 := { stood := { row := imageIdentsRow, standIns := [], harness := (true, "f6f99e8f7d6534747e153c46f3ead74c5e32e3fecde1393e0f4f54c8c010c832"), looks := true }, kinds := [], alts := [], laidByText := true, laidKinds := [.handle, .funcs, .sentinel, .sentinel, .sentinel, .sentinel, .sentinel, .sentinel, .sentinel, .sentinel, .sentinel, .data, .funcs], laidTests := true, laidLooks := .later }
def ImageIdentsCardSaid : Prop := Claim7.holds Tryd.pinned (.plain (OpenSpec.ofChange imageIdentsSpec)) imageIdentsCard

/-- THE TIED CARD OF 'amberlaw13.ImageLaid'. -/
def imageLaidCard : Claim7 := { stood := { row := imageLaidRow, standIns := [], harness := (true, "f6f99e8f7d6534747e153c46f3ead74c5e32e3fecde1393e0f4f54c8c010c832"), looks := true }, kinds := [], alts := [], laidByText := true, laidKinds := [.handle, .funcs, .sentinel, .sentinel, .sentinel, .sentinel, .sentinel, .sentinel, .sentinel, .sentinel, .sentinel, .data, .funcs], laidTests := true, laidLooks := .later }
def ImageLaidCardSaid : Prop := Claim7.holds Tryd.pinned (.plain (OpenSpec.ofChange imageLaidSpec)) imageLaidCard

/-- THE TIED CARD OF 'amberlaw13.ImageHead'. -/
def imageHeadCard : Claim7 := { stood := { row := imageHeadRow, standIns := [], harness := (true, "f6f99e8f7d6534747e153c46f3ead74c5e32e3fecde1393e0f4f54c8c010c832"), looks := true }, kinds := [], alts := [], laidByText := true, laidKinds := [.handle, .funcs, .sentinel, .sentinel, .sentinel, .sentinel, .sentinel, .sentinel, .sentinel, .sentinel, .sentinel, .data, .funcs], laidTests := true, laidLooks := .later }
def ImageHeadCardSaid : Prop := Claim7.holds Tryd.pinned (.plain (OpenSpec.ofChange imageHeadSpec)) imageHeadCard

/-- THE TIED CARD OF 'amberlaw13.ImageApart'. -/
def imageApartCard : Claim7 := { stood := { row := imageApartRow, standIns := [], harness := (true, "f6f99e8f7d6534747e153c46f3ead74c5e32e3fecde1393e0f4f54c8c010c832"), looks := true }, kinds := [], alts := [], laidByText := true, laidKinds := [.handle, .funcs, .sentinel, .sentinel, .sentinel, .sentinel, .sentinel, .sentinel, .sentinel, .sentinel, .sentinel, .data, .funcs], laidTests := true, laidLooks := .later }
def ImageApartCardSaid : Prop := Claim7.holds Tryd.pinned (.plain (OpenSpec.ofChange imageApartSpec)) imageApartCard

/-- THE TIED CARD OF 'amberlaw13.ImageFaults'. -/
def imageFaultsCard : Claim7 := { stood := { row := imageFaultsRow, standIns := [], harness := (true, "f6f99e8f7d6534747e153c46f3ead74c5e32e3fecde1393e0f4f54c8c010c832"), looks := true }, kinds := [], alts := [], laidByText := true, laidKinds := [.handle, .funcs, .sentinel, .sentinel, .sentinel, .sentinel, .sentinel, .sentinel, .sentinel, .sentinel, .sentinel, .data, .funcs], laidTests := true, laidLooks := .later }
def ImageFaultsCardSaid : Prop := Claim7.holds Tryd.pinned (.plain (OpenSpec.ofChange imageFaultsSpec)) imageFaultsCard

/-- THE SECOND FORM's CARD OF 'amberlaw22.FerryPlays'. -/
def ferryPlaysUptoCard : Claim7 := { stood := { row := ferryPlaysUptoRow, standIns := [], harness := (true, "f6f99e8f7d6534747e153c46f3ead74c5e32e3fecde1393e0f4f54c8c010c832"), looks := true }, kinds := [], alts := [], laidByText := true, laidKinds := [.funcs], laidTests := true, laidLooks := .later }
def FerryPlaysUptoCardSaid : Prop := Claim7.holds Tryd.pinned (.plain (OpenSpec.upto ferryPlaysSpec)) ferryPlaysUptoCard

/-- THE SECOND FORM's CARD OF 'amberlaw22.FerryAllOrNothing'. -/
def ferryAllOrNothingUptoCard : Claim7 := { stood := { row := ferryAllOrNothingUptoRow, standIns := [], harness := (true, "f6f99e8f7d6534747e153c46f3ead74c5e32e3fecde1393e0f4f54c8c010c832"), looks := true }, kinds := [], alts := [], laidByText := true, laidKinds := [.funcs], laidTests := true, laidLooks := .later }
def FerryAllOrNothingUptoCardSaid : Prop := Claim7.holds Tryd.pinned (.plain (OpenSpec.upto ferryAllOrNothingSpec)) ferryAllOrNothingUptoCard

/-- THE SECOND FORM's CARD OF 'amberlaw22.FerryEnds'. -/
def ferryEndsUptoCard : Claim7 := { stood := { row := ferryEndsUptoRow, standIns := [], harness := (true, "f6f99e8f7d6534747e153c46f3ead74c5e32e3fecde1393e0f4f54c8c010c832"), looks := true }, kinds := [], alts := [], laidByText := true, laidKinds := [.funcs], laidTests := true, laidLooks := .later }
def FerryEndsUptoCardSaid : Prop := Claim7.holds Tryd.pinned (.plain (OpenSpec.upto ferryEndsSpec)) ferryEndsUptoCard

/-- THE SECOND FORM's CARD OF 'amberlaw22.FerryAnyOrder'. -/
def ferryAnyOrderUptoCard : Claim7 := { stood := { row := ferryAnyOrderUptoRow, standIns := [], harness := (true, "f6f99e8f7d6534747e153c46f3ead74c5e32e3fecde1393e0f4f54c8c010c832"), looks := true }, kinds := [], alts := [], laidByText := true, laidKinds := [.funcs], laidTests := true, laidLooks := .later }
def FerryAnyOrderUptoCardSaid : Prop := Claim7.holds Tryd.pinned (.plain (OpenSpec.upto ferryAnyOrderSpec)) ferryAnyOrderUptoCard

/-- THE SECOND FORM's CARD OF 'amberlaw22.FerryLoads'. -/
def ferryLoadsUptoCard : Claim7 := { stood := { row := ferryLoadsUptoRow, standIns := [], harness := (true, "f6f99e8f7d6534747e153c46f3ead74c5e32e3fecde1393e0f4f54c8c010c832"), looks := true }, kinds := [], alts := [], laidByText := true, laidKinds := [.funcs, .sentinel, .sentinel, .funcs], laidTests := true, laidLooks := .later }
def FerryLoadsUptoCardSaid : Prop := Claim7.holds Tryd.pinned (.plain (OpenSpec.upto ferryLoadsSpec)) ferryLoadsUptoCard

/-- THE SECOND FORM's CARD OF 'amberlaw13.ImageChecks'. -/
def imageChecksUptoCard : Claim7 := { stood := { row := imageChecksUptoRow, standIns := [], harness := (true, "f6f99e8f7d6534747e153c46f3ead74c5e32e3fecde1393e0f4f54c8c010c832"), looks := true }, kinds := [], alts := [], laidByText := true, laidKinds := [.handle, .funcs, .sentinel, .sentinel, .sentinel, .sentinel, .sentinel, .sentinel, .sentinel, .sentinel, .sentinel, .data, .funcs], laidTests := true, laidLooks := .later }
def ImageChecksUptoCardSaid : Prop := Claim7.holds Tryd.pinned (.plain (OpenSpec.upto imageChecksSpec)) imageChecksUptoCard

/-- THE SECOND FORM's CARD OF 'amberlaw13.ImageOne'. -/
def imageOneUptoCard : Claim7 := { stood := { row := imageOneUptoRow, standIns := [], harness := (true, "f6f99e8f7d6534747e153c46f3ead74c5e32e3fecde1393e0f4f54c8c010c832"), looks := true }, kinds := [], alts := [], laidByText := true, laidKinds := [.handle, .funcs, .sentinel, .sentinel, .sentinel, .sentinel, .sentinel, .sentinel, .sentinel, .sentinel, .sentinel, .data, .funcs], laidTests := true, laidLooks := .later }
def ImageOneUptoCardSaid : Prop := Claim7.holds Tryd.pinned (.plain (OpenSpec.upto imageOneSpec)) imageOneUptoCard

/-- THE SECOND FORM's CARD OF 'amberlaw13.ImageBurst'. -/
def imageBurstUptoCard : Claim7 := { stood := { row := imageBurstUptoRow, standIns := [], harness := (true, "f6f99e8f7d6534747e153c46f3ead74c5e32e3fecde1393e0f4f54c8c010c832"), looks := true }, kinds := [], alts := [], laidByText := true, laidKinds := [.handle, .funcs, .sentinel, .sentinel, .sentinel, .sentinel, .sentinel, .sentinel, .sentinel, .sentinel, .sentinel, .data, .funcs], laidTests := true, laidLooks := .later }
def ImageBurstUptoCardSaid : Prop := Claim7.holds Tryd.pinned (.plain (OpenSpec.upto imageBurstSpec)) imageBurstUptoCard

/-- THE SECOND FORM's CARD OF 'amberlaw13.ImageCut'. -/
def imageCutUptoCard : Claim7 := { stood := { row := imageCutUptoRow, standIns := [], harness := (true, "f6f99e8f7d6534747e153c46f3ead74c5e32e3fecde1393e0f4f54c8c010c832"), looks := true }, kinds := [], alts := [], laidByText := true, laidKinds := [.handle, .funcs, .sentinel, .sentinel, .sentinel, .sentinel, .sentinel, .sentinel, .sentinel, .sentinel, .sentinel, .data, .funcs], laidTests := true, laidLooks := .later }
def ImageCutUptoCardSaid : Prop := Claim7.holds Tryd.pinned (.plain (OpenSpec.upto imageCutSpec)) imageCutUptoCard

/-- THE SECOND FORM's CARD OF 'amberlaw13.ImageMixed'. -/
def imageMixedUptoCard : Claim7 := { stood := { row := imageMixedUptoRow, standIns := [], harness := (true, "f6f99e8f7d6534747e153c46f3ead74c5e32e3fecde1393e0f4f54c8c010c832"), looks := true }, kinds := [], alts := [], laidByText := true, laidKinds := [.handle, .funcs, .sentinel, .sentinel, .sentinel, .sentinel, .sentinel, .sentinel, .sentinel, .sentinel, .sentinel, .data, .funcs], laidTests := true, laidLooks := .later }
def ImageMixedUptoCardSaid : Prop := Claim7.holds Tryd.pinned (.plain (OpenSpec.upto imageMixedSpec)) imageMixedUptoCard

/-- THE SECOND FORM's CARD OF 'amberlaw13.ImageValids'. -/
def imageValidsUptoCard : Claim7 := { stood := { row := imageValidsUptoRow, standIns := [], harness := (true, "f6f99e8f7d6534747e153c46f3ead74c5e32e3fecde1393e0f4f54c8c010c832"), looks := true }, kinds := [], alts := [], laidByText := true, laidKinds := [.handle, .funcs, .sentinel, .sentinel, .sentinel, .sentinel, .sentinel, .sentinel, .sentinel, .sentinel, .sentinel, .data, .funcs], laidTests := true, laidLooks := .later }
def ImageValidsUptoCardSaid : Prop := Claim7.holds Tryd.pinned (.plain (OpenSpec.upto imageValidsSpec)) imageValidsUptoCard

/-- THE SECOND FORM's CARD OF 'amberlaw13.ImageBack'. -/
def imageBackUptoCard : Claim7 := { stood := { row := imageBackUptoRow, standIns := [], harness := (true, "f6f99e8f7d6534747e153c46f3ead74c5e32e3fecde1393e0f4f54c8c010c832"), looks := true }, kinds := [], alts := [], laidByText := true, laidKinds := [.handle, .funcs, .sentinel, .sentinel, .sentinel, .sentinel, .sentinel, .sentinel, .sentinel, .sentinel, .sentinel, .data, .funcs], laidTests := true, laidLooks := .later }
def ImageBackUptoCardSaid : Prop := Claim7.holds Tryd.pinned (.plain (OpenSpec.upto imageBackSpec)) imageBackUptoCard

/-- THE SECOND FORM's CARD OF 'amberlaw13.ImageIdents'. -/
def imageIdentsUptoCard : Claim7 := { stood := { row := imageIdentsUptoRow, standIns := [], harness := (true, "f6f99e8f7d6534747e153c46f3ead74c5e32e3fecde1393e0f4f54c8c010c832"), looks := true }, kinds := [], alts := [], laidByText := true, laidKinds := [.handle, .funcs, .sentinel, .sentinel, .sentinel, .sentinel, .sentinel, .sentinel, .sentinel, .sentinel, .sentinel, .data, .funcs], laidTests := true, laidLooks := .later }
def ImageIdentsUptoCardSaid : Prop := Claim7.holds Tryd.pinned (.plain (OpenSpec.upto imageIdentsSpec)) imageIdentsUptoCard

/-- THE SECOND FORM's CARD OF 'amberlaw13.ImageLaid'. -/
def imageLaidUptoCard : Claim7 := { stood := { row := imageLaidUptoRow, standIns := [], harness := (true, "f6f99e8f7d6534747e153c46f3ead74c5e32e3fecde1393e0f4f54c8c010c832"), looks := true }, kinds := [], alts := [], laidByText := true, laidKinds := [.handle, .funcs, .sentinel, .sentinel, .sentinel, .sentinel, .sentinel, .sentinel, .sentinel, .sentinel, .sentinel, .data, .funcs], laidTests := true, laidLooks := .later }
def ImageLaidUptoCardSaid : Prop := Claim7.holds Tryd.pinned (.plain (OpenSpec.upto imageLaidSpec)) imageLaidUptoCard

/-- THE SECOND FORM's CARD OF 'amberlaw13.ImageHead'. -/
def imageHeadUptoCard : Claim7 := { stood := { row := imageHeadUptoRow, standIns := [], harness := (true, "f6f99e8f7d6534747e153c46f3ead74c5e32e3fecde1393e0f4f54c8c010c832"), looks := true }, kinds := [], alts := [], laidByText := true, laidKinds := [.handle, .funcs, .sentinel, .sentinel, .sentinel, .sentinel, .sentinel, .sentinel, .sentinel, .sentinel, .sentinel, .data, .funcs], laidTests := true, laidLooks := .later }
def ImageHeadUptoCardSaid : Prop := Claim7.holds Tryd.pinned (.plain (OpenSpec.upto imageHeadSpec)) imageHeadUptoCard

/-- THE SECOND FORM's CARD OF 'amberlaw13.ImageApart'. -/
def imageApartUptoCard : Claim7 := { stood := { row := imageApartUptoRow, standIns := [], harness := (true, "f6f99e8f7d6534747e153c46f3ead74c5e32e3fecde1393e0f4f54c8c010c832"), looks := true }, kinds := [], alts := [], laidByText := true, laidKinds := [.handle, .funcs, .sentinel, .sentinel, .sentinel, .sentinel, .sentinel, .sentinel, .sentinel, .sentinel, .sentinel, .data, .funcs], laidTests := true, laidLooks := .later }
def ImageApartUptoCardSaid : Prop := Claim7.holds Tryd.pinned (.plain (OpenSpec.upto imageApartSpec)) imageApartUptoCard

/-- THE SECOND FORM's CARD OF 'amberlaw13.ImageFaults'. -/
def imageFaultsUptoCard : Claim7 := { stood := { row := imageFaultsUptoRow, standIns := [], harness := (true, "f6f99e8f7d6534747e153c46f3ead74c5e32e3fecde1393e0f4f54c8c010c832"), looks := true }, kinds := [], alts := [], laidByText := true, laidKinds := [.handle, .funcs, .sentinel, .sentinel, .sentinel, .sentinel, .sentinel, .sentinel, .sentinel, .sentinel, .sentinel, .data, .funcs], laidTests := true, laidLooks := .later }
def ImageFaultsUptoCardSaid : Prop := Claim7.holds Tryd.pinned (.plain (OpenSpec.upto imageFaultsSpec)) imageFaultsUptoCard
end Rows
end Go.Proofs.YtgobibgpkcdmdaaDoor

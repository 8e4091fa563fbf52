/-
  DERIVED. GIVEN WITH THE SEED: THE PROGRAM's TIES (one call each: nine closed facts by the kernel) AND EACH ROW's TIE, after the 31st guide's Derived/Test/Toyas{Tie, Card}.lean. No idea stands in it: it is a product of the set-up. Laid BY PROGRAM, IN A SANDBOX (cutbox-door.mjs). By AI agents, Wed Nov 11 2026. No macro, syntax, notation, axiom, sorry.
-/
import Derived.Test.YtgobibgpkcdmdaaDoorRows
import Derived.LaidByTextLater
import Derived.SevenTiedAt
import Derived.LaidSub
import Derived.LaidOnce
namespace Go.Proofs.YtgobibgpkcdmdaaDoor
open Go
set_option maxRecDepth 100000
theorem seatTie1 : Tryd.prog.laidByTextLater [("errors.errorType", Rows.laid_errors_errorType), ("amber/image.rules", Rows.laid_amber_image_rules), ("amber/image.ErrShort", Rows.laid_amber_image_ErrShort), ("amber/image.ErrMagic", Rows.laid_amber_image_ErrMagic), ("amber/image.ErrVersion", Rows.laid_amber_image_ErrVersion), ("amber/image.ErrHeader", Rows.laid_amber_image_ErrHeader), ("amber/image.ErrLength", Rows.laid_amber_image_ErrLength), ("amber/image.ErrSum", Rows.laid_amber_image_ErrSum), ("amber/image.ErrForm", Rows.laid_amber_image_ErrForm), ("amber/image.ErrForest", Rows.laid_amber_image_ErrForest), ("amber/image.ErrSize", Rows.laid_amber_image_ErrSize), ("amber/image.sizes", Rows.laid_amber_image_sizes), ("amber/image.readers", Rows.laid_amber_image_readers), ("amber/ferry.forms", Rows.laid_amber_ferry_forms)] [.handle, .funcs, .sentinel, .sentinel, .sentinel, .sentinel, .sentinel, .sentinel, .sentinel, .sentinel, .sentinel, .data, .funcs, .funcs] true :=
  Program.laidByTextLater_by_one 232 8 65 (by kernel_rfl) (by kernel_rfl) (by kernel_rfl) (by kernel_rfl) (by kernel_rfl) (by kernel_rfl) (fun _ _ => by kernel_rfl)
theorem noOwnUnsafe : Tryd.pinned.checked.prog.headLifts.contains "ownunsafe" = false := by kernel_rfl
theorem tie : Tryd.prog.laidByTextLater [("amber/ferry.forms", Rows.laid_amber_ferry_forms)] [.funcs] true :=
  Program.laidByTextLater.sub seatTie1 ["amber/ferry.forms"] (by kernel_rfl) (by kernel_rfl)
theorem ferryPlays_row_tie : Rows.ferryPlaysRow.laidByTextAt .later Tryd.pinned [.funcs] true :=
  OpenClaim.laidByTextAt_later rfl rfl tie noOwnUnsafe
theorem ferryAllOrNothing_row_tie : Rows.ferryAllOrNothingRow.laidByTextAt .later Tryd.pinned [.funcs] true :=
  OpenClaim.laidByTextAt_later rfl rfl tie noOwnUnsafe
theorem ferryEnds_row_tie : Rows.ferryEndsRow.laidByTextAt .later Tryd.pinned [.funcs] true :=
  OpenClaim.laidByTextAt_later rfl rfl tie noOwnUnsafe
theorem ferryAnyOrder_row_tie : Rows.ferryAnyOrderRow.laidByTextAt .later Tryd.pinned [.funcs] true :=
  OpenClaim.laidByTextAt_later rfl rfl tie noOwnUnsafe
theorem tie2 : Tryd.prog.laidByTextLater [("amber/image.rules", Rows.laid_amber_image_rules), ("amber/image.ErrForest", Rows.laid_amber_image_ErrForest), ("amber/image.ErrSize", Rows.laid_amber_image_ErrSize), ("amber/ferry.forms", Rows.laid_amber_ferry_forms)] [.funcs, .sentinel, .sentinel, .funcs] true :=
  Program.laidByTextLater.sub seatTie1 ["amber/image.rules", "amber/image.ErrForest", "amber/image.ErrSize", "amber/ferry.forms"] (by kernel_rfl) (by kernel_rfl)
theorem ferryLoads_row_tie : Rows.ferryLoadsRow.laidByTextAt .later Tryd.pinned [.funcs, .sentinel, .sentinel, .funcs] true :=
  OpenClaim.laidByTextAt_later rfl rfl tie2 noOwnUnsafe
theorem tie3 : Tryd.prog.laidByTextLater [("errors.errorType", Rows.laid_errors_errorType), ("amber/image.rules", Rows.laid_amber_image_rules), ("amber/image.ErrShort", Rows.laid_amber_image_ErrShort), ("amber/image.ErrMagic", Rows.laid_amber_image_ErrMagic), ("amber/image.ErrVersion", Rows.laid_amber_image_ErrVersion), ("amber/image.ErrHeader", Rows.laid_amber_image_ErrHeader), ("amber/image.ErrLength", Rows.laid_amber_image_ErrLength), ("amber/image.ErrSum", Rows.laid_amber_image_ErrSum), ("amber/image.ErrForm", Rows.laid_amber_image_ErrForm), ("amber/image.ErrForest", Rows.laid_amber_image_ErrForest), ("amber/image.ErrSize", Rows.laid_amber_image_ErrSize), ("amber/image.sizes", Rows.laid_amber_image_sizes), ("amber/image.readers", Rows.laid_amber_image_readers)] [.handle, .funcs, .sentinel, .sentinel, .sentinel, .sentinel, .sentinel, .sentinel, .sentinel, .sentinel, .sentinel, .data, .funcs] true :=
  Program.laidByTextLater.sub seatTie1 ["errors.errorType", "amber/image.rules", "amber/image.ErrShort", "amber/image.ErrMagic", "amber/image.ErrVersion", "amber/image.ErrHeader", "amber/image.ErrLength", "amber/image.ErrSum", "amber/image.ErrForm", "amber/image.ErrForest", "amber/image.ErrSize", "amber/image.sizes", "amber/image.readers"] (by kernel_rfl) (by kernel_rfl)
theorem imageChecks_row_tie : Rows.imageChecksRow.laidByTextAt .later Tryd.pinned [.handle, .funcs, .sentinel, .sentinel, .sentinel, .sentinel, .sentinel, .sentinel, .sentinel, .sentinel, .sentinel, .data, .funcs] true :=
  OpenClaim.laidByTextAt_later rfl rfl tie3 noOwnUnsafe
theorem imageOne_row_tie : Rows.imageOneRow.laidByTextAt .later Tryd.pinned [.handle, .funcs, .sentinel, .sentinel, .sentinel, .sentinel, .sentinel, .sentinel, .sentinel, .sentinel, .sentinel, .data, .funcs] true :=
  OpenClaim.laidByTextAt_later rfl rfl tie3 noOwnUnsafe
theorem imageBurst_row_tie : Rows.imageBurstRow.laidByTextAt .later Tryd.pinned [.handle, .funcs, .sentinel, .sentinel, .sentinel, .sentinel, .sentinel, .sentinel, .sentinel, .sentinel, .sentinel, .data, .funcs] true :=
  OpenClaim.laidByTextAt_later rfl rfl tie3 noOwnUnsafe
theorem imageCut_row_tie : Rows.imageCutRow.laidByTextAt .later Tryd.pinned [.handle, .funcs, .sentinel, .sentinel, .sentinel, .sentinel, .sentinel, .sentinel, .sentinel, .sentinel, .sentinel, .data, .funcs] true :=
  OpenClaim.laidByTextAt_later rfl rfl tie3 noOwnUnsafe
theorem imageMixed_row_tie : Rows.imageMixedRow.laidByTextAt .later Tryd.pinned [.handle, .funcs, .sentinel, .sentinel, .sentinel, .sentinel, .sentinel, .sentinel, .sentinel, .sentinel, .sentinel, .data, .funcs] true :=
  OpenClaim.laidByTextAt_later rfl rfl tie3 noOwnUnsafe
theorem imageValids_row_tie : Rows.imageValidsRow.laidByTextAt .later Tryd.pinned [.handle, .funcs, .sentinel, .sentinel, .sentinel, .sentinel, .sentinel, .sentinel, .sentinel, .sentinel, .sentinel, .data, .funcs] true :=
  OpenClaim.laidByTextAt_later rfl rfl tie3 noOwnUnsafe
theorem imageBack_row_tie : Rows.imageBackRow.laidByTextAt .later Tryd.pinned [.handle, .funcs, .sentinel, .sentinel, .sentinel, .sentinel, .sentinel, .sentinel, .sentinel, .sentinel, .sentinel, .data, .funcs] true :=
  OpenClaim.laidByTextAt_later rfl rfl tie3 noOwnUnsafe
theorem imageIdents_row_tie : Rows.imageIdentsRow.laidByTextAt .later Tryd.pinned [.handle, .funcs, .sentinel, .sentinel, .sentinel, .sentinel, .sentinel, .sentinel, .sentinel, .sentinel, .sentinel, .data, .funcs] true :=
  OpenClaim.laidByTextAt_later rfl rfl tie3 noOwnUnsafe
theorem imageLaid_row_tie : Rows.imageLaidRow.laidByTextAt .later Tryd.pinned [.handle, .funcs, .sentinel, .sentinel, .sentinel, .sentinel, .sentinel, .sentinel, .sentinel, .sentinel, .sentinel, .data, .funcs] true :=
  OpenClaim.laidByTextAt_later rfl rfl tie3 noOwnUnsafe
theorem imageHead_row_tie : Rows.imageHeadRow.laidByTextAt .later Tryd.pinned [.handle, .funcs, .sentinel, .sentinel, .sentinel, .sentinel, .sentinel, .sentinel, .sentinel, .sentinel, .sentinel, .data, .funcs] true :=
  OpenClaim.laidByTextAt_later rfl rfl tie3 noOwnUnsafe
theorem imageApart_row_tie : Rows.imageApartRow.laidByTextAt .later Tryd.pinned [.handle, .funcs, .sentinel, .sentinel, .sentinel, .sentinel, .sentinel, .sentinel, .sentinel, .sentinel, .sentinel, .data, .funcs] true :=
  OpenClaim.laidByTextAt_later rfl rfl tie3 noOwnUnsafe
theorem imageFaults_row_tie : Rows.imageFaultsRow.laidByTextAt .later Tryd.pinned [.handle, .funcs, .sentinel, .sentinel, .sentinel, .sentinel, .sentinel, .sentinel, .sentinel, .sentinel, .sentinel, .data, .funcs] true :=
  OpenClaim.laidByTextAt_later rfl rfl tie3 noOwnUnsafe
theorem ferryPlaysUpto_row_tie : Rows.ferryPlaysUptoRow.laidByTextAt .later Tryd.pinned [.funcs] true :=
  OpenClaim.laidByTextAt_later rfl rfl tie noOwnUnsafe
theorem ferryAllOrNothingUpto_row_tie : Rows.ferryAllOrNothingUptoRow.laidByTextAt .later Tryd.pinned [.funcs] true :=
  OpenClaim.laidByTextAt_later rfl rfl tie noOwnUnsafe
theorem ferryEndsUpto_row_tie : Rows.ferryEndsUptoRow.laidByTextAt .later Tryd.pinned [.funcs] true :=
  OpenClaim.laidByTextAt_later rfl rfl tie noOwnUnsafe
theorem ferryAnyOrderUpto_row_tie : Rows.ferryAnyOrderUptoRow.laidByTextAt .later Tryd.pinned [.funcs] true :=
  OpenClaim.laidByTextAt_later rfl rfl tie noOwnUnsafe
theorem ferryLoadsUpto_row_tie : Rows.ferryLoadsUptoRow.laidByTextAt .later Tryd.pinned [.funcs, .sentinel, .sentinel, .funcs] true :=
  OpenClaim.laidByTextAt_later rfl rfl tie2 noOwnUnsafe
theorem imageChecksUpto_row_tie : Rows.imageChecksUptoRow.laidByTextAt .later Tryd.pinned [.handle, .funcs, .sentinel, .sentinel, .sentinel, .sentinel, .sentinel, .sentinel, .sentinel, .sentinel, .sentinel, .data, .funcs] true :=
  OpenClaim.laidByTextAt_later rfl rfl tie3 noOwnUnsafe
theorem imageOneUpto_row_tie : Rows.imageOneUptoRow.laidByTextAt .later Tryd.pinned [.handle, .funcs, .sentinel, .sentinel, .sentinel, .sentinel, .sentinel, .sentinel, .sentinel, .sentinel, .sentinel, .data, .funcs] true :=
  OpenClaim.laidByTextAt_later rfl rfl tie3 noOwnUnsafe
theorem imageBurstUpto_row_tie : Rows.imageBurstUptoRow.laidByTextAt .later Tryd.pinned [.handle, .funcs, .sentinel, .sentinel, .sentinel, .sentinel, .sentinel, .sentinel, .sentinel, .sentinel, .sentinel, .data, .funcs] true :=
  OpenClaim.laidByTextAt_later rfl rfl tie3 noOwnUnsafe
theorem imageCutUpto_row_tie : Rows.imageCutUptoRow.laidByTextAt .later Tryd.pinned [.handle, .funcs, .sentinel, .sentinel, .sentinel, .sentinel, .sentinel, .sentinel, .sentinel, .sentinel, .sentinel, .data, .funcs] true :=
  OpenClaim.laidByTextAt_later rfl rfl tie3 noOwnUnsafe
theorem imageMixedUpto_row_tie : Rows.imageMixedUptoRow.laidByTextAt .later Tryd.pinned [.handle, .funcs, .sentinel, .sentinel, .sentinel, .sentinel, .sentinel, .sentinel, .sentinel, .sentinel, .sentinel, .data, .funcs] true :=
  OpenClaim.laidByTextAt_later rfl rfl tie3 noOwnUnsafe
theorem imageValidsUpto_row_tie : Rows.imageValidsUptoRow.laidByTextAt .later Tryd.pinned [.handle, .funcs, .sentinel, .sentinel, .sentinel, .sentinel, .sentinel, .sentinel, .sentinel, .sentinel, .sentinel, .data, .funcs] true :=
  OpenClaim.laidByTextAt_later rfl rfl tie3 noOwnUnsafe
theorem imageBackUpto_row_tie : Rows.imageBackUptoRow.laidByTextAt .later Tryd.pinned [.handle, .funcs, .sentinel, .sentinel, .sentinel, .sentinel, .sentinel, .sentinel, .sentinel, .sentinel, .sentinel, .data, .funcs] true :=
  OpenClaim.laidByTextAt_later rfl rfl tie3 noOwnUnsafe
theorem imageIdentsUpto_row_tie : Rows.imageIdentsUptoRow.laidByTextAt .later Tryd.pinned [.handle, .funcs, .sentinel, .sentinel, .sentinel, .sentinel, .sentinel, .sentinel, .sentinel, .sentinel, .sentinel, .data, .funcs] true :=
  OpenClaim.laidByTextAt_later rfl rfl tie3 noOwnUnsafe
theorem imageLaidUpto_row_tie : Rows.imageLaidUptoRow.laidByTextAt .later Tryd.pinned [.handle, .funcs, .sentinel, .sentinel, .sentinel, .sentinel, .sentinel, .sentinel, .sentinel, .sentinel, .sentinel, .data, .funcs] true :=
  OpenClaim.laidByTextAt_later rfl rfl tie3 noOwnUnsafe
theorem imageHeadUpto_row_tie : Rows.imageHeadUptoRow.laidByTextAt .later Tryd.pinned [.handle, .funcs, .sentinel, .sentinel, .sentinel, .sentinel, .sentinel, .sentinel, .sentinel, .sentinel, .sentinel, .data, .funcs] true :=
  OpenClaim.laidByTextAt_later rfl rfl tie3 noOwnUnsafe
theorem imageApartUpto_row_tie : Rows.imageApartUptoRow.laidByTextAt .later Tryd.pinned [.handle, .funcs, .sentinel, .sentinel, .sentinel, .sentinel, .sentinel, .sentinel, .sentinel, .sentinel, .sentinel, .data, .funcs] true :=
  OpenClaim.laidByTextAt_later rfl rfl tie3 noOwnUnsafe
theorem imageFaultsUpto_row_tie : Rows.imageFaultsUptoRow.laidByTextAt .later Tryd.pinned [.handle, .funcs, .sentinel, .sentinel, .sentinel, .sentinel, .sentinel, .sentinel, .sentinel, .sentinel, .sentinel, .data, .funcs] true :=
  OpenClaim.laidByTextAt_later rfl rfl tie3 noOwnUnsafe
end Go.Proofs.YtgobibgpkcdmdaaDoor

/-
  NARROWER THAN 'FOR EVERY INPUT', by the rows' own cells (each row's printed sentence says how): FerryPlays: laid · FerryAllOrNothing: laid · FerryEnds: laid · FerryAnyOrder: laid · FerryLoads: laid · ImageChecks: laid · ImageOne: laid · ImageBurst: laid · ImageCut: laid · ImageMixed: laid · ImageValids: laid · ImageBack: laid · ImageIdents: laid · ImageLaid: laid · ImageHead: laid · ImageApart: laid · ImageFaults: laid.
  DERIVED. THE GIVEN ROWS OF THIS SEAT. 17 by the template 'for every input the law returns true; each argument reads behind the call as it read before'; 0 by the template 'total and deterministic' (their statements: YtgobibgpkcdmdaaDoorTotals.lean).
  GIVEN WITH THE SEED: the statements are not yours to turn. If you find one false, say at which input.
  Laid BY PROGRAM, IN A SANDBOX (cutbox-rows.mjs): the forced cells as the released guide's own fill.sh prints them over the translation c61dd0115981ca41… (all of the seat's roots in one cut). By AI agents, Wed Nov 11 2026. No macro, syntax, notation, axiom, sorry.
-/
import Derived.Test.YtgobibgpkcdmdaaDoorChecked
import GoSem.Claim
import GoSem.ClaimJoined
import GoSem.ClaimMapViews
import Derived.JoinedTies
import Derived.KernelRfl
namespace Go.Proofs.YtgobibgpkcdmdaaDoor
/- THE CELL 'sum', in the pinned program and in every row, IS THE sha256 OF THE DUMP (.gsa) THAT YtgobibgpkcdmdaaDoorProg.lean LOADS. Nothing in Lean hashes anything: it is a label: what it is worth is what the hold of that sum in a sandbox is worth. -/
noncomputable def Tryd.pinned : Pinned := { name := "ytgobibgpkcdmdaadoor", sum := "c61dd0115981ca41791c29bc348d7c48e16cc42220d0c624c662dddbeefe0989", checked := Tryd.checked }
namespace Rows
def none {H : Type} : Left H := { results := [], args := [] }

/- WHAT THE LISTED PACKAGE-LEVEL VARIABLES READ AS WHEN THE CALL BEGINS. Each datum BY PROGRAM (the guide's laid-datum.mjs) off the statement by which the dump's own 'gosem.cut.vars' lays the variable. In a bare row this is a premise. The card (YtgobibgpkcdmdaaDoorCards.lean) ties it to the program's text. -/
def laid_amber_ferry_forms {H : Type} : DataW H := .iface "func table" (.agg [.agg [.nil], .agg [.iface "func" (.lit (.string [97, 109, 98, 101, 114, 47, 102, 101, 114, 114, 121, 46, 102, 111, 114, 109, 115, 36, 49]))], .agg [.iface "func" (.lit (.string [97, 109, 98, 101, 114, 47, 102, 101, 114, 114, 121, 46, 102, 111, 114, 109, 115, 36, 50]))]])
def laid_amber_image_rules {H : Type} : DataW H := .iface "func table" (.slice [.agg [.lit (.int .i64 1), .iface "func" (.lit (.string [97, 109, 98, 101, 114, 47, 105, 109, 97, 103, 101, 46, 103, 111, 111, 100, 69, 110, 118, 115]))], .agg [.lit (.int .i64 6), .iface "func" (.lit (.string [97, 109, 98, 101, 114, 47, 105, 109, 97, 103, 101, 46, 103, 111, 111, 100, 79, 117, 116, 115]))], .agg [.lit (.int .i64 2), .iface "func" (.lit (.string [97, 109, 98, 101, 114, 47, 105, 109, 97, 103, 101, 46, 103, 111, 111, 100, 67, 97, 112, 115]))], .agg [.lit (.int .i64 2), .iface "func" (.lit (.string [97, 109, 98, 101, 114, 47, 105, 109, 97, 103, 101, 46, 103, 111, 111, 100, 79, 114, 100, 101, 114]))], .agg [.lit (.int .i64 2), .iface "func" (.lit (.string [97, 109, 98, 101, 114, 47, 105, 109, 97, 103, 101, 46, 103, 111, 111, 100, 79, 119, 110, 101, 114, 115]))], .agg [.lit (.int .i64 2), .iface "func" (.lit (.string [97, 109, 98, 101, 114, 47, 105, 109, 97, 103, 101, 46, 103, 111, 111, 100, 70, 114, 111, 109, 115]))], .agg [.lit (.int .i64 3), .iface "func" (.lit (.string [97, 109, 98, 101, 114, 47, 105, 109, 97, 103, 101, 46, 103, 111, 111, 100, 77, 97, 112, 115]))], .agg [.lit (.int .i64 1), .iface "func" (.lit (.string [97, 109, 98, 101, 114, 47, 105, 109, 97, 103, 101, 46, 103, 111, 111, 100, 81, 117, 111, 116, 97, 115]))]] [])
def laid_amber_image_ErrForest {H : Type} : DataW H := .iface "*errors.errorString" (.ptr (.agg [.lit (.string [97, 109, 98, 101, 114, 32, 105, 109, 97, 103, 101, 58, 32, 110, 111, 32, 102, 111, 114, 101, 115, 116])]))
def laid_amber_image_ErrSize {H : Type} : DataW H := .iface "*errors.errorString" (.ptr (.agg [.lit (.string [97, 109, 98, 101, 114, 32, 105, 109, 97, 103, 101, 58, 32, 116, 111, 111, 32, 108, 97, 114, 103, 101])]))
def laid_errors_errorType {H : Type} : DataW H := .iface "internal/reflectlite.rtype" (.agg [.ptr (.lit (.string [101, 114, 114, 111, 114]))])
def laid_amber_image_ErrShort {H : Type} : DataW H := .iface "*errors.errorString" (.ptr (.agg [.lit (.string [97, 109, 98, 101, 114, 32, 105, 109, 97, 103, 101, 58, 32, 116, 111, 111, 32, 115, 104, 111, 114, 116])]))
def laid_amber_image_ErrMagic {H : Type} : DataW H := .iface "*errors.errorString" (.ptr (.agg [.lit (.string [97, 109, 98, 101, 114, 32, 105, 109, 97, 103, 101, 58, 32, 110, 111, 32, 105, 109, 97, 103, 101])]))
def laid_amber_image_ErrVersion {H : Type} : DataW H := .iface "*errors.errorString" (.ptr (.agg [.lit (.string [97, 109, 98, 101, 114, 32, 105, 109, 97, 103, 101, 58, 32, 97, 110, 111, 116, 104, 101, 114, 32, 118, 101, 114, 115, 105, 111, 110])]))
def laid_amber_image_ErrHeader {H : Type} : DataW H := .iface "*errors.errorString" (.ptr (.agg [.lit (.string [97, 109, 98, 101, 114, 32, 105, 109, 97, 103, 101, 58, 32, 116, 104, 101, 32, 104, 101, 97, 100, 101, 114, 39, 115, 32, 115, 117, 109])]))
def laid_amber_image_ErrLength {H : Type} : DataW H := .iface "*errors.errorString" (.ptr (.agg [.lit (.string [97, 109, 98, 101, 114, 32, 105, 109, 97, 103, 101, 58, 32, 108, 101, 110, 103, 116, 104, 115])]))
def laid_amber_image_ErrSum {H : Type} : DataW H := .iface "*errors.errorString" (.ptr (.agg [.lit (.string [97, 109, 98, 101, 114, 32, 105, 109, 97, 103, 101, 58, 32, 97, 32, 115, 101, 99, 116, 105, 111, 110, 39, 115, 32, 115, 117, 109])]))
def laid_amber_image_ErrForm {H : Type} : DataW H := .iface "*errors.errorString" (.ptr (.agg [.lit (.string [97, 109, 98, 101, 114, 32, 105, 109, 97, 103, 101, 58, 32, 97, 32, 115, 101, 99, 116, 105, 111, 110, 39, 115, 32, 102, 111, 114, 109])]))
def laid_amber_image_sizes {H : Type} : DataW H := .agg [.lit (.int .i64 50), .lit (.int .i64 9), .lit (.int .i64 4), .lit (.int .i64 17), .lit (.int .i64 128), .lit (.int .i64 9)]
def laid_amber_image_readers {H : Type} : DataW H := .iface "func table" (.agg [.iface "func" (.lit (.string [97, 109, 98, 101, 114, 47, 105, 109, 97, 103, 101, 46, 114, 101, 97, 100, 69, 110, 118])), .iface "func" (.lit (.string [97, 109, 98, 101, 114, 47, 105, 109, 97, 103, 101, 46, 114, 101, 97, 100, 67, 97, 112])), .iface "func" (.lit (.string [97, 109, 98, 101, 114, 47, 105, 109, 97, 103, 101, 46, 114, 101, 97, 100, 77, 97, 112])), .iface "func" (.lit (.string [97, 109, 98, 101, 114, 47, 105, 109, 97, 103, 101, 46, 114, 101, 97, 100, 67, 108, 97, 115, 115])), .iface "func" (.lit (.string [97, 109, 98, 101, 114, 47, 105, 109, 97, 103, 101, 46, 114, 101, 97, 100, 80, 97, 103, 101])), .iface "func" (.lit (.string [97, 109, 98, 101, 114, 47, 105, 109, 97, 103, 101, 46, 114, 101, 97, 100, 79, 117, 116]))])

/-- 'amberlaw22.FerryPlays': WHATEVER THE INPUT: true; the input reads as it did. -/
def ferryPlaysSpec : ChangeSpec := { name := "ferryPlays", fn := fun _ => fun
  | [d] => { results := [.lit (.bool true)], args := [d] }
  | _ => none }
def ferryPlaysRow : OpenClaim := { program := "ytgobibgpkcdmdaadoor", sum := "c61dd0115981ca41791c29bc348d7c48e16cc42220d0c624c662dddbeefe0989", func := "amber/amberlaw22.FerryPlays", spec := "ferryPlays", unfollowed := true, recurses := true, named := ["amber/ferry.forms"], plainKeys := false, apart := false, laid := [("amber/ferry.forms", laid_amber_ferry_forms)] }
def FerryPlaysSaid : Prop := ferryPlaysRow.holds Tryd.pinned (OpenSpec.ofChange ferryPlaysSpec)

/-- ITS FALSE NEIGHBOUR: 'it returns false'. Refute it at one input. -/
def ferryPlaysWrong : ChangeSpec := { name := "ferryPlays", fn := fun _ => fun
  | [d] => { results := [.lit (.bool false)], args := [d] }
  | _ => none }
def FerryPlaysWrongFalsely : Prop := ferryPlaysRow.holds Tryd.pinned (OpenSpec.ofChange ferryPlaysWrong)

/-- 'amberlaw22.FerryAllOrNothing': WHATEVER THE INPUT: true; the input reads as it did. -/
def ferryAllOrNothingSpec : ChangeSpec := { name := "ferryAllOrNothing", fn := fun _ => fun
  | [d1, d2] => { results := [.lit (.bool true)], args := [d1, d2] }
  | _ => none }
def ferryAllOrNothingRow : OpenClaim := { program := "ytgobibgpkcdmdaadoor", sum := "c61dd0115981ca41791c29bc348d7c48e16cc42220d0c624c662dddbeefe0989", func := "amber/amberlaw22.FerryAllOrNothing", spec := "ferryAllOrNothing", unfollowed := true, recurses := true, named := ["amber/ferry.forms"], plainKeys := false, apart := false, laid := [("amber/ferry.forms", laid_amber_ferry_forms)] }
def FerryAllOrNothingSaid : Prop := ferryAllOrNothingRow.holds Tryd.pinned (OpenSpec.ofChange ferryAllOrNothingSpec)

/-- ITS FALSE NEIGHBOUR: 'it returns false'. Refute it at one input. -/
def ferryAllOrNothingWrong : ChangeSpec := { name := "ferryAllOrNothing", fn := fun _ => fun
  | [d1, d2] => { results := [.lit (.bool false)], args := [d1, d2] }
  | _ => none }
def FerryAllOrNothingWrongFalsely : Prop := ferryAllOrNothingRow.holds Tryd.pinned (OpenSpec.ofChange ferryAllOrNothingWrong)

/-- 'amberlaw22.FerryEnds': WHATEVER THE INPUT: true; the input reads as it did. -/
def ferryEndsSpec : ChangeSpec := { name := "ferryEnds", fn := fun _ => fun
  | [d1, d2] => { results := [.lit (.bool true)], args := [d1, d2] }
  | _ => none }
def ferryEndsRow : OpenClaim := { program := "ytgobibgpkcdmdaadoor", sum := "c61dd0115981ca41791c29bc348d7c48e16cc42220d0c624c662dddbeefe0989", func := "amber/amberlaw22.FerryEnds", spec := "ferryEnds", unfollowed := true, recurses := true, named := ["amber/ferry.forms"], plainKeys := false, apart := false, laid := [("amber/ferry.forms", laid_amber_ferry_forms)] }
def FerryEndsSaid : Prop := ferryEndsRow.holds Tryd.pinned (OpenSpec.ofChange ferryEndsSpec)

/-- ITS FALSE NEIGHBOUR: 'it returns false'. Refute it at one input. -/
def ferryEndsWrong : ChangeSpec := { name := "ferryEnds", fn := fun _ => fun
  | [d1, d2] => { results := [.lit (.bool false)], args := [d1, d2] }
  | _ => none }
def FerryEndsWrongFalsely : Prop := ferryEndsRow.holds Tryd.pinned (OpenSpec.ofChange ferryEndsWrong)

/-- 'amberlaw22.FerryAnyOrder': WHATEVER THE INPUT: true; the input reads as it did. -/
def ferryAnyOrderSpec : ChangeSpec := { name := "ferryAnyOrder", fn := fun _ => fun
  | [d1, d2, d3] => { results := [.lit (.bool true)], args := [d1, d2, d3] }
  | _ => none }
def ferryAnyOrderRow : OpenClaim := { program := "ytgobibgpkcdmdaadoor", sum := "c61dd0115981ca41791c29bc348d7c48e16cc42220d0c624c662dddbeefe0989", func := "amber/amberlaw22.FerryAnyOrder", spec := "ferryAnyOrder", unfollowed := true, recurses := true, named := ["amber/ferry.forms"], plainKeys := false, apart := false, laid := [("amber/ferry.forms", laid_amber_ferry_forms)] }
def FerryAnyOrderSaid : Prop := ferryAnyOrderRow.holds Tryd.pinned (OpenSpec.ofChange ferryAnyOrderSpec)

/-- ITS FALSE NEIGHBOUR: 'it returns false'. Refute it at one input. -/
def ferryAnyOrderWrong : ChangeSpec := { name := "ferryAnyOrder", fn := fun _ => fun
  | [d1, d2, d3] => { results := [.lit (.bool false)], args := [d1, d2, d3] }
  | _ => none }
def FerryAnyOrderWrongFalsely : Prop := ferryAnyOrderRow.holds Tryd.pinned (OpenSpec.ofChange ferryAnyOrderWrong)

/-- 'amberlaw22.FerryLoads': WHATEVER THE INPUT: true; the input reads as it did. -/
def ferryLoadsSpec : ChangeSpec := { name := "ferryLoads", fn := fun _ => fun
  | [d] => { results := [.lit (.bool true)], args := [d] }
  | _ => none }
def ferryLoadsRow : OpenClaim := { program := "ytgobibgpkcdmdaadoor", sum := "c61dd0115981ca41791c29bc348d7c48e16cc42220d0c624c662dddbeefe0989", func := "amber/amberlaw22.FerryLoads", spec := "ferryLoads", unfollowed := true, recurses := true, named := ["amber/ferry.forms", "amber/image.ErrForest", "amber/image.rules", "amber/image.ErrSize"], plainKeys := false, apart := false, laid := [("amber/image.rules", laid_amber_image_rules), ("amber/image.ErrForest", laid_amber_image_ErrForest), ("amber/image.ErrSize", laid_amber_image_ErrSize), ("amber/ferry.forms", laid_amber_ferry_forms)] }
def FerryLoadsSaid : Prop := ferryLoadsRow.holds Tryd.pinned (OpenSpec.ofChange ferryLoadsSpec)

/-- ITS FALSE NEIGHBOUR: 'it returns false'. Refute it at one input. -/
def ferryLoadsWrong : ChangeSpec := { name := "ferryLoads", fn := fun _ => fun
  | [d] => { results := [.lit (.bool false)], args := [d] }
  | _ => none }
def FerryLoadsWrongFalsely : Prop := ferryLoadsRow.holds Tryd.pinned (OpenSpec.ofChange ferryLoadsWrong)

/-- 'amberlaw13.ImageChecks': WHATEVER THE INPUT: true; the input reads as it did. -/
def imageChecksSpec : ChangeSpec := { name := "imageChecks", fn := fun _ => fun
  | [d] => { results := [.lit (.bool true)], args := [d] }
  | _ => none }
def imageChecksRow : OpenClaim := { program := "ytgobibgpkcdmdaadoor", sum := "c61dd0115981ca41791c29bc348d7c48e16cc42220d0c624c662dddbeefe0989", func := "amber/amberlaw13.ImageChecks", spec := "imageChecks", inPlace := ["internal/reflectlite.TypeOf", "internal/reflectlite.ValueOf", "(internal/reflectlite.Value).Type", "(internal/reflectlite.Value).IsNil", "(internal/reflectlite.Value).Elem", "(internal/reflectlite.Value).Set"], unfollowed := true, recurses := true, named := ["amber/image.ErrForest", "amber/image.rules", "amber/image.ErrSize", "amber/image.readers", "amber/image.ErrShort", "amber/image.ErrMagic", "amber/image.ErrHeader", "amber/image.ErrLength", "errors.errorType", "amber/image.ErrVersion", "amber/image.ErrForm", "amber/image.sizes", "amber/image.ErrSum"], plainKeys := false, apart := false, laid := [("errors.errorType", laid_errors_errorType), ("amber/image.rules", laid_amber_image_rules), ("amber/image.ErrShort", laid_amber_image_ErrShort), ("amber/image.ErrMagic", laid_amber_image_ErrMagic), ("amber/image.ErrVersion", laid_amber_image_ErrVersion), ("amber/image.ErrHeader", laid_amber_image_ErrHeader), ("amber/image.ErrLength", laid_amber_image_ErrLength), ("amber/image.ErrSum", laid_amber_image_ErrSum), ("amber/image.ErrForm", laid_amber_image_ErrForm), ("amber/image.ErrForest", laid_amber_image_ErrForest), ("amber/image.ErrSize", laid_amber_image_ErrSize), ("amber/image.sizes", laid_amber_image_sizes), ("amber/image.readers", laid_amber_image_readers)] }
def ImageChecksSaid : Prop := imageChecksRow.holds Tryd.pinned (OpenSpec.ofChange imageChecksSpec)

/-- ITS FALSE NEIGHBOUR: 'it returns false'. Refute it at one input. -/
def imageChecksWrong : ChangeSpec := { name := "imageChecks", fn := fun _ => fun
  | [d] => { results := [.lit (.bool false)], args := [d] }
  | _ => none }
def ImageChecksWrongFalsely : Prop := imageChecksRow.holds Tryd.pinned (OpenSpec.ofChange imageChecksWrong)

/-- 'amberlaw13.ImageOne': WHATEVER THE INPUT: true; the input reads as it did. -/
def imageOneSpec : ChangeSpec := { name := "imageOne", fn := fun _ => fun
  | [d] => { results := [.lit (.bool true)], args := [d] }
  | _ => none }
def imageOneRow : OpenClaim := { program := "ytgobibgpkcdmdaadoor", sum := "c61dd0115981ca41791c29bc348d7c48e16cc42220d0c624c662dddbeefe0989", func := "amber/amberlaw13.ImageOne", spec := "imageOne", inPlace := ["internal/reflectlite.TypeOf", "internal/reflectlite.ValueOf", "(internal/reflectlite.Value).Type", "(internal/reflectlite.Value).IsNil", "(internal/reflectlite.Value).Elem", "(internal/reflectlite.Value).Set"], unfollowed := true, recurses := true, named := ["amber/image.ErrForest", "amber/image.rules", "amber/image.ErrSize", "amber/image.readers", "amber/image.ErrShort", "amber/image.ErrMagic", "amber/image.ErrHeader", "amber/image.ErrLength", "errors.errorType", "amber/image.ErrVersion", "amber/image.ErrForm", "amber/image.sizes", "amber/image.ErrSum"], plainKeys := false, apart := false, laid := [("errors.errorType", laid_errors_errorType), ("amber/image.rules", laid_amber_image_rules), ("amber/image.ErrShort", laid_amber_image_ErrShort), ("amber/image.ErrMagic", laid_amber_image_ErrMagic), ("amber/image.ErrVersion", laid_amber_image_ErrVersion), ("amber/image.ErrHeader", laid_amber_image_ErrHeader), ("amber/image.ErrLength", laid_amber_image_ErrLength), ("amber/image.ErrSum", laid_amber_image_ErrSum), ("amber/image.ErrForm", laid_amber_image_ErrForm), ("amber/image.ErrForest", laid_amber_image_ErrForest), ("amber/image.ErrSize", laid_amber_image_ErrSize), ("amber/image.sizes", laid_amber_image_sizes), ("amber/image.readers", laid_amber_image_readers)] }
def ImageOneSaid : Prop := imageOneRow.holds Tryd.pinned (OpenSpec.ofChange imageOneSpec)

/-- ITS FALSE NEIGHBOUR: 'it returns false'. Refute it at one input. -/
def imageOneWrong : ChangeSpec := { name := "imageOne", fn := fun _ => fun
  | [d] => { results := [.lit (.bool false)], args := [d] }
  | _ => none }
def ImageOneWrongFalsely : Prop := imageOneRow.holds Tryd.pinned (OpenSpec.ofChange imageOneWrong)

/-- 'amberlaw13.ImageBurst': WHATEVER THE INPUT: true; the input reads as it did. -/
def imageBurstSpec : ChangeSpec := { name := "imageBurst", fn := fun _ => fun
  | [d1, d2, d3] => { results := [.lit (.bool true)], args := [d1, d2, d3] }
  | _ => none }
def imageBurstRow : OpenClaim := { program := "ytgobibgpkcdmdaadoor", sum := "c61dd0115981ca41791c29bc348d7c48e16cc42220d0c624c662dddbeefe0989", func := "amber/amberlaw13.ImageBurst", spec := "imageBurst", inPlace := ["internal/reflectlite.TypeOf", "internal/reflectlite.ValueOf", "(internal/reflectlite.Value).Type", "(internal/reflectlite.Value).IsNil", "(internal/reflectlite.Value).Elem", "(internal/reflectlite.Value).Set"], unfollowed := true, recurses := true, named := ["amber/image.ErrForest", "amber/image.rules", "amber/image.ErrSize", "amber/image.readers", "amber/image.ErrShort", "amber/image.ErrMagic", "amber/image.ErrHeader", "amber/image.ErrLength", "errors.errorType", "amber/image.ErrVersion", "amber/image.ErrForm", "amber/image.sizes", "amber/image.ErrSum"], plainKeys := false, apart := false, laid := [("errors.errorType", laid_errors_errorType), ("amber/image.rules", laid_amber_image_rules), ("amber/image.ErrShort", laid_amber_image_ErrShort), ("amber/image.ErrMagic", laid_amber_image_ErrMagic), ("amber/image.ErrVersion", laid_amber_image_ErrVersion), ("amber/image.ErrHeader", laid_amber_image_ErrHeader), ("amber/image.ErrLength", laid_amber_image_ErrLength), ("amber/image.ErrSum", laid_amber_image_ErrSum), ("amber/image.ErrForm", laid_amber_image_ErrForm), ("amber/image.ErrForest", laid_amber_image_ErrForest), ("amber/image.ErrSize", laid_amber_image_ErrSize), ("amber/image.sizes", laid_amber_image_sizes), ("amber/image.readers", laid_amber_image_readers)] }
def ImageBurstSaid : Prop := imageBurstRow.holds Tryd.pinned (OpenSpec.ofChange imageBurstSpec)

/-- ITS FALSE NEIGHBOUR: 'it returns false'. Refute it at one input. -/
def imageBurstWrong : ChangeSpec := { name := "imageBurst", fn := fun _ => fun
  | [d1, d2, d3] => { results := [.lit (.bool false)], args := [d1, d2, d3] }
  | _ => none }
def ImageBurstWrongFalsely : Prop := imageBurstRow.holds Tryd.pinned (OpenSpec.ofChange imageBurstWrong)

/-- 'amberlaw13.ImageCut': WHATEVER THE INPUT: true; the input reads as it did. -/
def imageCutSpec : ChangeSpec := { name := "imageCut", fn := fun _ => fun
  | [d1, d2, d3] => { results := [.lit (.bool true)], args := [d1, d2, d3] }
  | _ => none }
def imageCutRow : OpenClaim := { program := "ytgobibgpkcdmdaadoor", sum := "c61dd0115981ca41791c29bc348d7c48e16cc42220d0c624c662dddbeefe0989", func := "amber/amberlaw13.ImageCut", spec := "imageCut", inPlace := ["internal/reflectlite.TypeOf", "internal/reflectlite.ValueOf", "(internal/reflectlite.Value).Type", "(internal/reflectlite.Value).IsNil", "(internal/reflectlite.Value).Elem", "(internal/reflectlite.Value).Set"], unfollowed := true, recurses := true, named := ["amber/image.ErrForest", "amber/image.rules", "amber/image.ErrSize", "amber/image.readers", "amber/image.ErrShort", "amber/image.ErrMagic", "amber/image.ErrHeader", "amber/image.ErrLength", "errors.errorType", "amber/image.ErrVersion", "amber/image.ErrForm", "amber/image.sizes", "amber/image.ErrSum"], plainKeys := false, apart := false, laid := [("errors.errorType", laid_errors_errorType), ("amber/image.rules", laid_amber_image_rules), ("amber/image.ErrShort", laid_amber_image_ErrShort), ("amber/image.ErrMagic", laid_amber_image_ErrMagic), ("amber/image.ErrVersion", laid_amber_image_ErrVersion), ("amber/image.ErrHeader", laid_amber_image_ErrHeader), ("amber/image.ErrLength", laid_amber_image_ErrLength), ("amber/image.ErrSum", laid_amber_image_ErrSum), ("amber/image.ErrForm", laid_amber_image_ErrForm), ("amber/image.ErrForest", laid_amber_image_ErrForest), ("amber/image.ErrSize", laid_amber_image_ErrSize), ("amber/image.sizes", laid_amber_image_sizes), ("amber/image.readers", laid_amber_image_readers)] }
def ImageCutSaid : Prop := imageCutRow.holds Tryd.pinned (OpenSpec.ofChange imageCutSpec)

/-- ITS FALSE NEIGHBOUR: 'it returns false'. Refute it at one input. -/
def imageCutWrong : ChangeSpec := { name := "imageCut", fn := fun _ => fun
  | [d1, d2, d3] => { results := [.lit (.bool false)], args := [d1, d2, d3] }
  | _ => none }
def ImageCutWrongFalsely : Prop := imageCutRow.holds Tryd.pinned (OpenSpec.ofChange imageCutWrong)

/-- 'amberlaw13.ImageMixed': WHATEVER THE INPUT: true; the input reads as it did. -/
def imageMixedSpec : ChangeSpec := { name := "imageMixed", fn := fun _ => fun
  | [d1, d2, d3] => { results := [.lit (.bool true)], args := [d1, d2, d3] }
  | _ => none }
def imageMixedRow : OpenClaim := { program := "ytgobibgpkcdmdaadoor", sum := "c61dd0115981ca41791c29bc348d7c48e16cc42220d0c624c662dddbeefe0989", func := "amber/amberlaw13.ImageMixed", spec := "imageMixed", inPlace := ["internal/reflectlite.TypeOf", "internal/reflectlite.ValueOf", "(internal/reflectlite.Value).Type", "(internal/reflectlite.Value).IsNil", "(internal/reflectlite.Value).Elem", "(internal/reflectlite.Value).Set"], unfollowed := true, recurses := true, named := ["amber/image.ErrForest", "amber/image.rules", "amber/image.ErrSize", "amber/image.readers", "amber/image.ErrShort", "amber/image.ErrMagic", "amber/image.ErrHeader", "amber/image.ErrLength", "errors.errorType", "amber/image.ErrVersion", "amber/image.ErrForm", "amber/image.sizes", "amber/image.ErrSum"], plainKeys := false, apart := false, laid := [("errors.errorType", laid_errors_errorType), ("amber/image.rules", laid_amber_image_rules), ("amber/image.ErrShort", laid_amber_image_ErrShort), ("amber/image.ErrMagic", laid_amber_image_ErrMagic), ("amber/image.ErrVersion", laid_amber_image_ErrVersion), ("amber/image.ErrHeader", laid_amber_image_ErrHeader), ("amber/image.ErrLength", laid_amber_image_ErrLength), ("amber/image.ErrSum", laid_amber_image_ErrSum), ("amber/image.ErrForm", laid_amber_image_ErrForm), ("amber/image.ErrForest", laid_amber_image_ErrForest), ("amber/image.ErrSize", laid_amber_image_ErrSize), ("amber/image.sizes", laid_amber_image_sizes), ("amber/image.readers", laid_amber_image_readers)] }
def ImageMixedSaid : Prop := imageMixedRow.holds Tryd.pinned (OpenSpec.ofChange imageMixedSpec)

/-- ITS FALSE NEIGHBOUR: 'it returns false'. Refute it at one input. -/
def imageMixedWrong : ChangeSpec := { name := "imageMixed", fn := fun _ => fun
  | [d1, d2, d3] => { results := [.lit (.bool false)], args := [d1, d2, d3] }
  | _ => none }
def ImageMixedWrongFalsely : Prop := imageMixedRow.holds Tryd.pinned (OpenSpec.ofChange imageMixedWrong)

/-- 'amberlaw13.ImageValids': WHATEVER THE INPUT: true; the input reads as it did. -/
def imageValidsSpec : ChangeSpec := { name := "imageValids", fn := fun _ => fun
  | [d] => { results := [.lit (.bool true)], args := [d] }
  | _ => none }
def imageValidsRow : OpenClaim := { program := "ytgobibgpkcdmdaadoor", sum := "c61dd0115981ca41791c29bc348d7c48e16cc42220d0c624c662dddbeefe0989", func := "amber/amberlaw13.ImageValids", spec := "imageValids", inPlace := ["internal/reflectlite.TypeOf", "internal/reflectlite.ValueOf", "(internal/reflectlite.Value).Type", "(internal/reflectlite.Value).IsNil", "(internal/reflectlite.Value).Elem", "(internal/reflectlite.Value).Set"], unfollowed := true, recurses := true, named := ["amber/image.ErrForest", "amber/image.rules", "amber/image.ErrSize", "amber/image.readers", "amber/image.ErrShort", "amber/image.ErrMagic", "amber/image.ErrHeader", "amber/image.ErrLength", "errors.errorType", "amber/image.ErrVersion", "amber/image.ErrForm", "amber/image.sizes", "amber/image.ErrSum"], plainKeys := false, apart := false, laid := [("errors.errorType", laid_errors_errorType), ("amber/image.rules", laid_amber_image_rules), ("amber/image.ErrShort", laid_amber_image_ErrShort), ("amber/image.ErrMagic", laid_amber_image_ErrMagic), ("amber/image.ErrVersion", laid_amber_image_ErrVersion), ("amber/image.ErrHeader", laid_amber_image_ErrHeader), ("amber/image.ErrLength", laid_amber_image_ErrLength), ("amber/image.ErrSum", laid_amber_image_ErrSum), ("amber/image.ErrForm", laid_amber_image_ErrForm), ("amber/image.ErrForest", laid_amber_image_ErrForest), ("amber/image.ErrSize", laid_amber_image_ErrSize), ("amber/image.sizes", laid_amber_image_sizes), ("amber/image.readers", laid_amber_image_readers)] }
def ImageValidsSaid : Prop := imageValidsRow.holds Tryd.pinned (OpenSpec.ofChange imageValidsSpec)

/-- ITS FALSE NEIGHBOUR: 'it returns false'. Refute it at one input. -/
def imageValidsWrong : ChangeSpec := { name := "imageValids", fn := fun _ => fun
  | [d] => { results := [.lit (.bool false)], args := [d] }
  | _ => none }
def ImageValidsWrongFalsely : Prop := imageValidsRow.holds Tryd.pinned (OpenSpec.ofChange imageValidsWrong)

/-- 'amberlaw13.ImageBack': WHATEVER THE INPUT: true; the input reads as it did. -/
def imageBackSpec : ChangeSpec := { name := "imageBack", fn := fun _ => fun
  | [d] => { results := [.lit (.bool true)], args := [d] }
  | _ => none }
def imageBackRow : OpenClaim := { program := "ytgobibgpkcdmdaadoor", sum := "c61dd0115981ca41791c29bc348d7c48e16cc42220d0c624c662dddbeefe0989", func := "amber/amberlaw13.ImageBack", spec := "imageBack", inPlace := ["internal/reflectlite.TypeOf", "internal/reflectlite.ValueOf", "(internal/reflectlite.Value).Type", "(internal/reflectlite.Value).IsNil", "(internal/reflectlite.Value).Elem", "(internal/reflectlite.Value).Set"], unfollowed := true, recurses := true, named := ["amber/image.ErrForest", "amber/image.rules", "amber/image.ErrSize", "amber/image.readers", "amber/image.ErrShort", "amber/image.ErrMagic", "amber/image.ErrHeader", "amber/image.ErrLength", "errors.errorType", "amber/image.ErrVersion", "amber/image.ErrForm", "amber/image.sizes", "amber/image.ErrSum"], plainKeys := false, apart := false, laid := [("errors.errorType", laid_errors_errorType), ("amber/image.rules", laid_amber_image_rules), ("amber/image.ErrShort", laid_amber_image_ErrShort), ("amber/image.ErrMagic", laid_amber_image_ErrMagic), ("amber/image.ErrVersion", laid_amber_image_ErrVersion), ("amber/image.ErrHeader", laid_amber_image_ErrHeader), ("amber/image.ErrLength", laid_amber_image_ErrLength), ("amber/image.ErrSum", laid_amber_image_ErrSum), ("amber/image.ErrForm", laid_amber_image_ErrForm), ("amber/image.ErrForest", laid_amber_image_ErrForest), ("amber/image.ErrSize", laid_amber_image_ErrSize), ("amber/image.sizes", laid_amber_image_sizes), ("amber/image.readers", laid_amber_image_readers)] }
def ImageBackSaid : Prop := imageBackRow.holds Tryd.pinned (OpenSpec.ofChange imageBackSpec)

/-- ITS FALSE NEIGHBOUR: 'it returns false'. Refute it at one input. -/
def imageBackWrong : ChangeSpec := { name := "imageBack", fn := fun _ => fun
  | [d] => { results := [.lit (.bool false)], args := [d] }
  | _ => none }
def ImageBackWrongFalsely : Prop := imageBackRow.holds Tryd.pinned (OpenSpec.ofChange imageBackWrong)

/-- 'amberlaw13.ImageIdents': WHATEVER THE INPUT: true; the input reads as it did. -/
def imageIdentsSpec : ChangeSpec := { name := "imageIdents", fn := fun _ => fun
  | [d] => { results := [.lit (.bool true)], args := [d] }
  | _ => none }
def imageIdentsRow : OpenClaim := { program := "ytgobibgpkcdmdaadoor", sum := "c61dd0115981ca41791c29bc348d7c48e16cc42220d0c624c662dddbeefe0989", func := "amber/amberlaw13.ImageIdents", spec := "imageIdents", inPlace := ["internal/reflectlite.TypeOf", "internal/reflectlite.ValueOf", "(internal/reflectlite.Value).Type", "(internal/reflectlite.Value).IsNil", "(internal/reflectlite.Value).Elem", "(internal/reflectlite.Value).Set"], unfollowed := true, recurses := true, named := ["amber/image.ErrForest", "amber/image.rules", "amber/image.ErrSize", "amber/image.readers", "amber/image.ErrShort", "amber/image.ErrMagic", "amber/image.ErrHeader", "amber/image.ErrLength", "errors.errorType", "amber/image.ErrVersion", "amber/image.ErrForm", "amber/image.sizes", "amber/image.ErrSum"], plainKeys := false, apart := false, laid := [("errors.errorType", laid_errors_errorType), ("amber/image.rules", laid_amber_image_rules), ("amber/image.ErrShort", laid_amber_image_ErrShort), ("amber/image.ErrMagic", laid_amber_image_ErrMagic), ("amber/image.ErrVersion", laid_amber_image_ErrVersion), ("amber/image.ErrHeader", laid_amber_image_ErrHeader), ("amber/image.ErrLength", laid_amber_image_ErrLength), ("amber/image.ErrSum", laid_amber_image_ErrSum), ("amber/image.ErrForm", laid_amber_image_ErrForm), ("amber/image.ErrForest", laid_amber_image_ErrForest), ("amber/image.ErrSize", laid_amber_image_ErrSize), ("amber/image.sizes", laid_amber_image_sizes), ("amber/image.readers", laid_amber_image_readers)] }
def ImageIdentsSaid : Prop := imageIdentsRow.holds Tryd.pinned (OpenSpec.ofChange imageIdentsSpec)

/-- ITS FALSE NEIGHBOUR: 'it returns false'. Refute it at one input. -/
def imageIdentsWrong : ChangeSpec := { name := "imageIdents", fn := fun _ => fun
  | [d] => { results := [.lit (.bool false)], args := [d] }
  | _ => none }
def ImageIdentsWrongFalsely : Prop := imageIdentsRow.holds Tryd.pinned (OpenSpec.ofChange imageIdentsWrong)

/-- 'amberlaw13.ImageLaid': WHATEVER THE INPUT: true; the input reads as it did. -/
def imageLaidSpec : ChangeSpec := { name := "imageLaid", fn := fun _ => fun
  | [d] => { results := [.lit (.bool true)], args := [d] }
  | _ => none }
def imageLaidRow : OpenClaim := { program := "ytgobibgpkcdmdaadoor", sum := "c61dd0115981ca41791c29bc348d7c48e16cc42220d0c624c662dddbeefe0989", func := "amber/amberlaw13.ImageLaid", spec := "imageLaid", inPlace := ["internal/reflectlite.TypeOf", "internal/reflectlite.ValueOf", "(internal/reflectlite.Value).Type", "(internal/reflectlite.Value).IsNil", "(internal/reflectlite.Value).Elem", "(internal/reflectlite.Value).Set"], unfollowed := true, recurses := true, named := ["amber/image.ErrForest", "amber/image.rules", "amber/image.ErrSize", "amber/image.readers", "amber/image.ErrShort", "amber/image.ErrMagic", "amber/image.ErrHeader", "amber/image.ErrLength", "errors.errorType", "amber/image.ErrVersion", "amber/image.ErrForm", "amber/image.sizes", "amber/image.ErrSum"], plainKeys := false, apart := false, laid := [("errors.errorType", laid_errors_errorType), ("amber/image.rules", laid_amber_image_rules), ("amber/image.ErrShort", laid_amber_image_ErrShort), ("amber/image.ErrMagic", laid_amber_image_ErrMagic), ("amber/image.ErrVersion", laid_amber_image_ErrVersion), ("amber/image.ErrHeader", laid_amber_image_ErrHeader), ("amber/image.ErrLength", laid_amber_image_ErrLength), ("amber/image.ErrSum", laid_amber_image_ErrSum), ("amber/image.ErrForm", laid_amber_image_ErrForm), ("amber/image.ErrForest", laid_amber_image_ErrForest), ("amber/image.ErrSize", laid_amber_image_ErrSize), ("amber/image.sizes", laid_amber_image_sizes), ("amber/image.readers", laid_amber_image_readers)] }
def ImageLaidSaid : Prop := imageLaidRow.holds Tryd.pinned (OpenSpec.ofChange imageLaidSpec)

/-- ITS FALSE NEIGHBOUR: 'it returns false'. Refute it at one input. -/
def imageLaidWrong : ChangeSpec := { name := "imageLaid", fn := fun _ => fun
  | [d] => { results := [.lit (.bool false)], args := [d] }
  | _ => none }
def ImageLaidWrongFalsely : Prop := imageLaidRow.holds Tryd.pinned (OpenSpec.ofChange imageLaidWrong)

/-- 'amberlaw13.ImageHead': WHATEVER THE INPUT: true; the input reads as it did. -/
def imageHeadSpec : ChangeSpec := { name := "imageHead", fn := fun _ => fun
  | [d] => { results := [.lit (.bool true)], args := [d] }
  | _ => none }
def imageHeadRow : OpenClaim := { program := "ytgobibgpkcdmdaadoor", sum := "c61dd0115981ca41791c29bc348d7c48e16cc42220d0c624c662dddbeefe0989", func := "amber/amberlaw13.ImageHead", spec := "imageHead", inPlace := ["internal/reflectlite.TypeOf", "internal/reflectlite.ValueOf", "(internal/reflectlite.Value).Type", "(internal/reflectlite.Value).IsNil", "(internal/reflectlite.Value).Elem", "(internal/reflectlite.Value).Set"], unfollowed := true, recurses := true, named := ["amber/image.ErrForest", "amber/image.rules", "amber/image.ErrSize", "amber/image.readers", "amber/image.ErrShort", "amber/image.ErrMagic", "amber/image.ErrHeader", "amber/image.ErrLength", "errors.errorType", "amber/image.ErrVersion", "amber/image.ErrForm", "amber/image.sizes", "amber/image.ErrSum"], plainKeys := false, apart := false, laid := [("errors.errorType", laid_errors_errorType), ("amber/image.rules", laid_amber_image_rules), ("amber/image.ErrShort", laid_amber_image_ErrShort), ("amber/image.ErrMagic", laid_amber_image_ErrMagic), ("amber/image.ErrVersion", laid_amber_image_ErrVersion), ("amber/image.ErrHeader", laid_amber_image_ErrHeader), ("amber/image.ErrLength", laid_amber_image_ErrLength), ("amber/image.ErrSum", laid_amber_image_ErrSum), ("amber/image.ErrForm", laid_amber_image_ErrForm), ("amber/image.ErrForest", laid_amber_image_ErrForest), ("amber/image.ErrSize", laid_amber_image_ErrSize), ("amber/image.sizes", laid_amber_image_sizes), ("amber/image.readers", laid_amber_image_readers)] }
def ImageHeadSaid : Prop := imageHeadRow.holds Tryd.pinned (OpenSpec.ofChange imageHeadSpec)

/-- ITS FALSE NEIGHBOUR: 'it returns false'. Refute it at one input. -/
def imageHeadWrong : ChangeSpec := { name := "imageHead", fn := fun _ => fun
  | [d] => { results := [.lit (.bool false)], args := [d] }
  | _ => none }
def ImageHeadWrongFalsely : Prop := imageHeadRow.holds Tryd.pinned (OpenSpec.ofChange imageHeadWrong)

/-- 'amberlaw13.ImageApart': WHATEVER THE INPUT: true; the input reads as it did. -/
def imageApartSpec : ChangeSpec := { name := "imageApart", fn := fun _ => fun
  | [d] => { results := [.lit (.bool true)], args := [d] }
  | _ => none }
def imageApartRow : OpenClaim := { program := "ytgobibgpkcdmdaadoor", sum := "c61dd0115981ca41791c29bc348d7c48e16cc42220d0c624c662dddbeefe0989", func := "amber/amberlaw13.ImageApart", spec := "imageApart", inPlace := ["internal/reflectlite.TypeOf", "internal/reflectlite.ValueOf", "(internal/reflectlite.Value).Type", "(internal/reflectlite.Value).IsNil", "(internal/reflectlite.Value).Elem", "(internal/reflectlite.Value).Set"], unfollowed := true, recurses := true, named := ["amber/image.ErrForest", "amber/image.rules", "amber/image.ErrSize", "amber/image.readers", "amber/image.ErrShort", "amber/image.ErrMagic", "amber/image.ErrHeader", "amber/image.ErrLength", "errors.errorType", "amber/image.ErrVersion", "amber/image.ErrForm", "amber/image.sizes", "amber/image.ErrSum"], plainKeys := false, apart := false, laid := [("errors.errorType", laid_errors_errorType), ("amber/image.rules", laid_amber_image_rules), ("amber/image.ErrShort", laid_amber_image_ErrShort), ("amber/image.ErrMagic", laid_amber_image_ErrMagic), ("amber/image.ErrVersion", laid_amber_image_ErrVersion), ("amber/image.ErrHeader", laid_amber_image_ErrHeader), ("amber/image.ErrLength", laid_amber_image_ErrLength), ("amber/image.ErrSum", laid_amber_image_ErrSum), ("amber/image.ErrForm", laid_amber_image_ErrForm), ("amber/image.ErrForest", laid_amber_image_ErrForest), ("amber/image.ErrSize", laid_amber_image_ErrSize), ("amber/image.sizes", laid_amber_image_sizes), ("amber/image.readers", laid_amber_image_readers)] }
def ImageApartSaid : Prop := imageApartRow.holds Tryd.pinned (OpenSpec.ofChange imageApartSpec)

/-- ITS FALSE NEIGHBOUR: 'it returns false'. Refute it at one input. -/
def imageApartWrong : ChangeSpec := { name := "imageApart", fn := fun _ => fun
  | [d] => { results := [.lit (.bool false)], args := [d] }
  | _ => none }
def ImageApartWrongFalsely : Prop := imageApartRow.holds Tryd.pinned (OpenSpec.ofChange imageApartWrong)

/-- 'amberlaw13.ImageFaults': WHATEVER THE INPUT: true; the input reads as it did. -/
def imageFaultsSpec : ChangeSpec := { name := "imageFaults", fn := fun _ => fun
  | [d1, d2] => { results := [.lit (.bool true)], args := [d1, d2] }
  | _ => none }
def imageFaultsRow : OpenClaim := { program := "ytgobibgpkcdmdaadoor", sum := "c61dd0115981ca41791c29bc348d7c48e16cc42220d0c624c662dddbeefe0989", func := "amber/amberlaw13.ImageFaults", spec := "imageFaults", inPlace := ["internal/reflectlite.TypeOf", "internal/reflectlite.ValueOf", "(internal/reflectlite.Value).Type", "(internal/reflectlite.Value).IsNil", "(internal/reflectlite.Value).Elem", "(internal/reflectlite.Value).Set"], unfollowed := true, recurses := true, named := ["amber/image.ErrShort", "amber/image.ErrMagic", "amber/image.ErrVersion", "amber/image.ErrHeader", "amber/image.ErrLength", "amber/image.ErrSum", "amber/image.ErrForm", "amber/image.ErrForest", "amber/image.ErrSize", "amber/image.rules", "amber/image.readers", "errors.errorType", "amber/image.sizes"], plainKeys := false, apart := false, laid := [("errors.errorType", laid_errors_errorType), ("amber/image.rules", laid_amber_image_rules), ("amber/image.ErrShort", laid_amber_image_ErrShort), ("amber/image.ErrMagic", laid_amber_image_ErrMagic), ("amber/image.ErrVersion", laid_amber_image_ErrVersion), ("amber/image.ErrHeader", laid_amber_image_ErrHeader), ("amber/image.ErrLength", laid_amber_image_ErrLength), ("amber/image.ErrSum", laid_amber_image_ErrSum), ("amber/image.ErrForm", laid_amber_image_ErrForm), ("amber/image.ErrForest", laid_amber_image_ErrForest), ("amber/image.ErrSize", laid_amber_image_ErrSize), ("amber/image.sizes", laid_amber_image_sizes), ("amber/image.readers", laid_amber_image_readers)] }
def ImageFaultsSaid : Prop := imageFaultsRow.holds Tryd.pinned (OpenSpec.ofChange imageFaultsSpec)

/-- ITS FALSE NEIGHBOUR: 'it returns false'. Refute it at one input. -/
def imageFaultsWrong : ChangeSpec := { name := "imageFaults", fn := fun _ => fun
  | [d1, d2] => { results := [.lit (.bool false)], args := [d1, d2] }
  | _ => none }
def ImageFaultsWrongFalsely : Prop := imageFaultsRow.holds Tryd.pinned (OpenSpec.ofChange imageFaultsWrong)

/- THE SECOND FORM. 'bulk': how many values and letters a reading holds, each counted each time it is reached (what is shared counts as often as it is met; a slice's spare places count too). A statement '..UptoSaid' is the law's where the arguments, and the package variables that the reading takes, are together of bulk at most 1048576: NARROWER than '..Said'. Prove '..Said' where nothing that the law and all that it calls make is longer than what came in: it says more and counts as full. Else prove '..UptoSaid'. A law counts once. -/
mutual
def uptoBulk {H : Type} : DataW H → Nat
  | .lit (.string bytes) => bytes.length + 1
  | .lit _ => 1
  | .nil => 1
  | .ptr d => uptoBulk d + 1
  | .slice elems spare => uptoBulkAll elems + uptoBulkAll spare + 1
  | .agg parts => uptoBulkAll parts + 1
  | .iface _ d => uptoBulk d + 1
  | .map entries => uptoBulkEntries entries + 1
  | .held _ => 1
def uptoBulkAll {H : Type} : List (DataW H) → Nat
  | [] => 0
  | d :: r => uptoBulk d + uptoBulkAll r
def uptoBulkEntries {H : Type} : List (Lit × DataW H) → Nat
  | [] => 0
  | x :: r => uptoBulkEntry x + uptoBulkEntries r
def uptoBulkEntry {H : Type} : Lit × DataW H → Nat
  | (.string bytes, d) => bytes.length + uptoBulk d + 1
  | (_, d) => uptoBulk d + 1
 end
def uptoSmall : (H : Type) → List (DataW H) → Bool := fun _ ds => decide (uptoBulkAll ds ≤ 1048576)
def OpenSpec.upto (s : _root_.Go.ChangeSpec) : _root_.Go.OpenSpec := { _root_.Go.OpenSpec.ofChange s with cond := some uptoSmall }

/-- 'amberlaw22.FerryPlays', WHERE WHAT IT READS IS OF BULK AT MOST 1048576: true; the input reads as it did. -/
def ferryPlaysUptoRow : OpenClaim := { program := "ytgobibgpkcdmdaadoor", sum := "c61dd0115981ca41791c29bc348d7c48e16cc42220d0c624c662dddbeefe0989", func := "amber/amberlaw22.FerryPlays", spec := "ferryPlays", unfollowed := true, recurses := true, named := ["amber/ferry.forms"], plainKeys := false, apart := false, laid := [("amber/ferry.forms", laid_amber_ferry_forms)], narrowed := true }
def FerryPlaysUptoSaid : Prop := ferryPlaysUptoRow.holds Tryd.pinned (OpenSpec.upto ferryPlaysSpec)

/-- 'amberlaw22.FerryAllOrNothing', WHERE WHAT IT READS IS OF BULK AT MOST 1048576: true; the input reads as it did. -/
def ferryAllOrNothingUptoRow : OpenClaim := { program := "ytgobibgpkcdmdaadoor", sum := "c61dd0115981ca41791c29bc348d7c48e16cc42220d0c624c662dddbeefe0989", func := "amber/amberlaw22.FerryAllOrNothing", spec := "ferryAllOrNothing", unfollowed := true, recurses := true, named := ["amber/ferry.forms"], plainKeys := false, apart := false, laid := [("amber/ferry.forms", laid_amber_ferry_forms)], narrowed := true }
def FerryAllOrNothingUptoSaid : Prop := ferryAllOrNothingUptoRow.holds Tryd.pinned (OpenSpec.upto ferryAllOrNothingSpec)

/-- 'amberlaw22.FerryEnds', WHERE WHAT IT READS IS OF BULK AT MOST 1048576: true; the input reads as it did. -/
def ferryEndsUptoRow : OpenClaim := { program := "ytgobibgpkcdmdaadoor", sum := "c61dd0115981ca41791c29bc348d7c48e16cc42220d0c624c662dddbeefe0989", func := "amber/amberlaw22.FerryEnds", spec := "ferryEnds", unfollowed := true, recurses := true, named := ["amber/ferry.forms"], plainKeys := false, apart := false, laid := [("amber/ferry.forms", laid_amber_ferry_forms)], narrowed := true }
def FerryEndsUptoSaid : Prop := ferryEndsUptoRow.holds Tryd.pinned (OpenSpec.upto ferryEndsSpec)

/-- 'amberlaw22.FerryAnyOrder', WHERE WHAT IT READS IS OF BULK AT MOST 1048576: true; the input reads as it did. -/
def ferryAnyOrderUptoRow : OpenClaim := { program := "ytgobibgpkcdmdaadoor", sum := "c61dd0115981ca41791c29bc348d7c48e16cc42220d0c624c662dddbeefe0989", func := "amber/amberlaw22.FerryAnyOrder", spec := "ferryAnyOrder", unfollowed := true, recurses := true, named := ["amber/ferry.forms"], plainKeys := false, apart := false, laid := [("amber/ferry.forms", laid_amber_ferry_forms)], narrowed := true }
def FerryAnyOrderUptoSaid : Prop := ferryAnyOrderUptoRow.holds Tryd.pinned (OpenSpec.upto ferryAnyOrderSpec)

/-- 'amberlaw22.FerryLoads', WHERE WHAT IT READS IS OF BULK AT MOST 1048576: true; the input reads as it did. -/
def ferryLoadsUptoRow : OpenClaim := { program := "ytgobibgpkcdmdaadoor", sum := "c61dd0115981ca41791c29bc348d7c48e16cc42220d0c624c662dddbeefe0989", func := "amber/amberlaw22.FerryLoads", spec := "ferryLoads", unfollowed := true, recurses := true, named := ["amber/ferry.forms", "amber/image.ErrForest", "amber/image.rules", "amber/image.ErrSize"], plainKeys := false, apart := false, laid := [("amber/image.rules", laid_amber_image_rules), ("amber/image.ErrForest", laid_amber_image_ErrForest), ("amber/image.ErrSize", laid_amber_image_ErrSize), ("amber/ferry.forms", laid_amber_ferry_forms)], narrowed := true }
def FerryLoadsUptoSaid : Prop := ferryLoadsUptoRow.holds Tryd.pinned (OpenSpec.upto ferryLoadsSpec)

/-- 'amberlaw13.ImageChecks', WHERE WHAT IT READS IS OF BULK AT MOST 1048576: true; the input reads as it did. -/
def imageChecksUptoRow : OpenClaim := { program := "ytgobibgpkcdmdaadoor", sum := "c61dd0115981ca41791c29bc348d7c48e16cc42220d0c624c662dddbeefe0989", func := "amber/amberlaw13.ImageChecks", spec := "imageChecks", inPlace := ["internal/reflectlite.TypeOf", "internal/reflectlite.ValueOf", "(internal/reflectlite.Value).Type", "(internal/reflectlite.Value).IsNil", "(internal/reflectlite.Value).Elem", "(internal/reflectlite.Value).Set"], unfollowed := true, recurses := true, named := ["amber/image.ErrForest", "amber/image.rules", "amber/image.ErrSize", "amber/image.readers", "amber/image.ErrShort", "amber/image.ErrMagic", "amber/image.ErrHeader", "amber/image.ErrLength", "errors.errorType", "amber/image.ErrVersion", "amber/image.ErrForm", "amber/image.sizes", "amber/image.ErrSum"], plainKeys := false, apart := false, laid := [("errors.errorType", laid_errors_errorType), ("amber/image.rules", laid_amber_image_rules), ("amber/image.ErrShort", laid_amber_image_ErrShort), ("amber/image.ErrMagic", laid_amber_image_ErrMagic), ("amber/image.ErrVersion", laid_amber_image_ErrVersion), ("amber/image.ErrHeader", laid_amber_image_ErrHeader), ("amber/image.ErrLength", laid_amber_image_ErrLength), ("amber/image.ErrSum", laid_amber_image_ErrSum), ("amber/image.ErrForm", laid_amber_image_ErrForm), ("amber/image.ErrForest", laid_amber_image_ErrForest), ("amber/image.ErrSize", laid_amber_image_ErrSize), ("amber/image.sizes", laid_amber_image_sizes), ("amber/image.readers", laid_amber_image_readers)], narrowed := true }
def ImageChecksUptoSaid : Prop := imageChecksUptoRow.holds Tryd.pinned (OpenSpec.upto imageChecksSpec)

/-- 'amberlaw13.ImageOne', WHERE WHAT IT READS IS OF BULK AT MOST 1048576: true; the input reads as it did. -/
def imageOneUptoRow : OpenClaim := { program := "ytgobibgpkcdmdaadoor", sum := "c61dd0115981ca41791c29bc348d7c48e16cc42220d0c624c662dddbeefe0989", func := "amber/amberlaw13.ImageOne", spec := "imageOne", inPlace := ["internal/reflectlite.TypeOf", "internal/reflectlite.ValueOf", "(internal/reflectlite.Value).Type", "(internal/reflectlite.Value).IsNil", "(internal/reflectlite.Value).Elem", "(internal/reflectlite.Value).Set"], unfollowed := true, recurses := true, named := ["amber/image.ErrForest", "amber/image.rules", "amber/image.ErrSize", "amber/image.readers", "amber/image.ErrShort", "amber/image.ErrMagic", "amber/image.ErrHeader", "amber/image.ErrLength", "errors.errorType", "amber/image.ErrVersion", "amber/image.ErrForm", "amber/image.sizes", "amber/image.ErrSum"], plainKeys := false, apart := false, laid := [("errors.errorType", laid_errors_errorType), ("amber/image.rules", laid_amber_image_rules), ("amber/image.ErrShort", laid_amber_image_ErrShort), ("amber/image.ErrMagic", laid_amber_image_ErrMagic), ("amber/image.ErrVersion", laid_amber_image_ErrVersion), ("amber/image.ErrHeader", laid_amber_image_ErrHeader), ("amber/image.ErrLength", laid_amber_image_ErrLength), ("amber/image.ErrSum", laid_amber_image_ErrSum), ("amber/image.ErrForm", laid_amber_image_ErrForm), ("amber/image.ErrForest", laid_amber_image_ErrForest), ("amber/image.ErrSize", laid_amber_image_ErrSize), ("amber/image.sizes", laid_amber_image_sizes), ("amber/image.readers", laid_amber_image_readers)], narrowed := true }
def ImageOneUptoSaid : Prop := imageOneUptoRow.holds Tryd.pinned (OpenSpec.upto imageOneSpec)

/-- 'amberlaw13.ImageBurst', WHERE WHAT IT READS IS OF BULK AT MOST 1048576: true; the input reads as it did. -/
def imageBurstUptoRow : OpenClaim := { program := "ytgobibgpkcdmdaadoor", sum := "c61dd0115981ca41791c29bc348d7c48e16cc42220d0c624c662dddbeefe0989", func := "amber/amberlaw13.ImageBurst", spec := "imageBurst", inPlace := ["internal/reflectlite.TypeOf", "internal/reflectlite.ValueOf", "(internal/reflectlite.Value).Type", "(internal/reflectlite.Value).IsNil", "(internal/reflectlite.Value).Elem", "(internal/reflectlite.Value).Set"], unfollowed := true, recurses := true, named := ["amber/image.ErrForest", "amber/image.rules", "amber/image.ErrSize", "amber/image.readers", "amber/image.ErrShort", "amber/image.ErrMagic", "amber/image.ErrHeader", "amber/image.ErrLength", "errors.errorType", "amber/image.ErrVersion", "amber/image.ErrForm", "amber/image.sizes", "amber/image.ErrSum"], plainKeys := false, apart := false, laid := [("errors.errorType", laid_errors_errorType), ("amber/image.rules", laid_amber_image_rules), ("amber/image.ErrShort", laid_amber_image_ErrShort), ("amber/image.ErrMagic", laid_amber_image_ErrMagic), ("amber/image.ErrVersion", laid_amber_image_ErrVersion), ("amber/image.ErrHeader", laid_amber_image_ErrHeader), ("amber/image.ErrLength", laid_amber_image_ErrLength), ("amber/image.ErrSum", laid_amber_image_ErrSum), ("amber/image.ErrForm", laid_amber_image_ErrForm), ("amber/image.ErrForest", laid_amber_image_ErrForest), ("amber/image.ErrSize", laid_amber_image_ErrSize), ("amber/image.sizes", laid_amber_image_sizes), ("amber/image.readers", laid_amber_image_readers)], narrowed := true }
def ImageBurstUptoSaid : Prop := imageBurstUptoRow.holds Tryd.pinned (OpenSpec.upto imageBurstSpec)

/-- 'amberlaw13.ImageCut', WHERE WHAT IT READS IS OF BULK AT MOST 1048576: true; the input reads as it did. -/
def imageCutUptoRow : OpenClaim := { program := "ytgobibgpkcdmdaadoor", sum := "c61dd0115981ca41791c29bc348d7c48e16cc42220d0c624c662dddbeefe0989", func := "amber/amberlaw13.ImageCut", spec := "imageCut", inPlace := ["internal/reflectlite.TypeOf", "internal/reflectlite.ValueOf", "(internal/reflectlite.Value).Type", "(internal/reflectlite.Value).IsNil", "(internal/reflectlite.Value).Elem", "(internal/reflectlite.Value).Set"], unfollowed := true, recurses := true, named := ["amber/image.ErrForest", "amber/image.rules", "amber/image.ErrSize", "amber/image.readers", "amber/image.ErrShort", "amber/image.ErrMagic", "amber/image.ErrHeader", "amber/image.ErrLength", "errors.errorType", "amber/image.ErrVersion", "amber/image.ErrForm", "amber/image.sizes", "amber/image.ErrSum"], plainKeys := false, apart := false, laid := [("errors.errorType", laid_errors_errorType), ("amber/image.rules", laid_amber_image_rules), ("amber/image.ErrShort", laid_amber_image_ErrShort), ("amber/image.ErrMagic", laid_amber_image_ErrMagic), ("amber/image.ErrVersion", laid_amber_image_ErrVersion), ("amber/image.ErrHeader", laid_amber_image_ErrHeader), ("amber/image.ErrLength", laid_amber_image_ErrLength), ("amber/image.ErrSum", laid_amber_image_ErrSum), ("amber/image.ErrForm", laid_amber_image_ErrForm), ("amber/image.ErrForest", laid_amber_image_ErrForest), ("amber/image.ErrSize", laid_amber_image_ErrSize), ("amber/image.sizes", laid_amber_image_sizes), ("amber/image.readers", laid_amber_image_readers)], narrowed := true }
def ImageCutUptoSaid : Prop := imageCutUptoRow.holds Tryd.pinned (OpenSpec.upto imageCutSpec)

/-- 'amberlaw13.ImageMixed', WHERE WHAT IT READS IS OF BULK AT MOST 1048576: true; the input reads as it did. -/
def imageMixedUptoRow : OpenClaim := { program := "ytgobibgpkcdmdaadoor", sum := "c61dd0115981ca41791c29bc348d7c48e16cc42220d0c624c662dddbeefe0989", func := "amber/amberlaw13.ImageMixed", spec := "imageMixed", inPlace := ["internal/reflectlite.TypeOf", "internal/reflectlite.ValueOf", "(internal/reflectlite.Value).Type", "(internal/reflectlite.Value).IsNil", "(internal/reflectlite.Value).Elem", "(internal/reflectlite.Value).Set"], unfollowed := true, recurses := true, named := ["amber/image.ErrForest", "amber/image.rules", "amber/image.ErrSize", "amber/image.readers", "amber/image.ErrShort", "amber/image.ErrMagic", "amber/image.ErrHeader", "amber/image.ErrLength", "errors.errorType", "amber/image.ErrVersion", "amber/image.ErrForm", "amber/image.sizes", "amber/image.ErrSum"], plainKeys := false, apart := false, laid := [("errors.errorType", laid_errors_errorType), ("amber/image.rules", laid_amber_image_rules), ("amber/image.ErrShort", laid_amber_image_ErrShort), ("amber/image.ErrMagic", laid_amber_image_ErrMagic), ("amber/image.ErrVersion", laid_amber_image_ErrVersion), ("amber/image.ErrHeader", laid_amber_image_ErrHeader), ("amber/image.ErrLength", laid_amber_image_ErrLength), ("amber/image.ErrSum", laid_amber_image_ErrSum), ("amber/image.ErrForm", laid_amber_image_ErrForm), ("amber/image.ErrForest", laid_amber_image_ErrForest), ("amber/image.ErrSize", laid_amber_image_ErrSize), ("amber/image.sizes", laid_amber_image_sizes), ("amber/image.readers", laid_amber_image_readers)], narrowed := true }
def ImageMixedUptoSaid : Prop := imageMixedUptoRow.holds Tryd.pinned (OpenSpec.upto imageMixedSpec)

/-- 'amberlaw13.ImageValids', WHERE WHAT IT READS IS OF BULK AT MOST 1048576: true; the input reads as it did. -/
def imageValidsUptoRow : OpenClaim := { program := "ytgobibgpkcdmdaadoor", sum := "c61dd0115981ca41791c29bc348d7c48e16cc42220d0c624c662dddbeefe0989", func := "amber/amberlaw13.ImageValids", spec := "imageValids", inPlace := ["internal/reflectlite.TypeOf", "internal/reflectlite.ValueOf", "(internal/reflectlite.Value).Type", "(internal/reflectlite.Value).IsNil", "(internal/reflectlite.Value).Elem", "(internal/reflectlite.Value).Set"], unfollowed := true, recurses := true, named := ["amber/image.ErrForest", "amber/image.rules", "amber/image.ErrSize", "amber/image.readers", "amber/image.ErrShort", "amber/image.ErrMagic", "amber/image.ErrHeader", "amber/image.ErrLength", "errors.errorType", "amber/image.ErrVersion", "amber/image.ErrForm", "amber/image.sizes", "amber/image.ErrSum"], plainKeys := false, apart := false, laid := [("errors.errorType", laid_errors_errorType), ("amber/image.rules", laid_amber_image_rules), ("amber/image.ErrShort", laid_amber_image_ErrShort), ("amber/image.ErrMagic", laid_amber_image_ErrMagic), ("amber/image.ErrVersion", laid_amber_image_ErrVersion), ("amber/image.ErrHeader", laid_amber_image_ErrHeader), ("amber/image.ErrLength", laid_amber_image_ErrLength), ("amber/image.ErrSum", laid_amber_image_ErrSum), ("amber/image.ErrForm", laid_amber_image_ErrForm), ("amber/image.ErrForest", laid_amber_image_ErrForest), ("amber/image.ErrSize", laid_amber_image_ErrSize), ("amber/image.sizes", laid_amber_image_sizes), ("amber/image.readers", laid_amber_image_readers)], narrowed := true }
def ImageValidsUptoSaid : Prop := imageValidsUptoRow.holds Tryd.pinned (OpenSpec.upto imageValidsSpec)

/-- 'amberlaw13.ImageBack', WHERE WHAT IT READS IS OF BULK AT MOST 1048576: true; the input reads as it did. -/
def imageBackUptoRow : OpenClaim := { program := "ytgobibgpkcdmdaadoor", sum := "c61dd0115981ca41791c29bc348d7c48e16cc42220d0c624c662dddbeefe0989", func := "amber/amberlaw13.ImageBack", spec := "imageBack", inPlace := ["internal/reflectlite.TypeOf", "internal/reflectlite.ValueOf", "(internal/reflectlite.Value).Type", "(internal/reflectlite.Value).IsNil", "(internal/reflectlite.Value).Elem", "(internal/reflectlite.Value).Set"], unfollowed := true, recurses := true, named := ["amber/image.ErrForest", "amber/image.rules", "amber/image.ErrSize", "amber/image.readers", "amber/image.ErrShort", "amber/image.ErrMagic", "amber/image.ErrHeader", "amber/image.ErrLength", "errors.errorType", "amber/image.ErrVersion", "amber/image.ErrForm", "amber/image.sizes", "amber/image.ErrSum"], plainKeys := false, apart := false, laid := [("errors.errorType", laid_errors_errorType), ("amber/image.rules", laid_amber_image_rules), ("amber/image.ErrShort", laid_amber_image_ErrShort), ("amber/image.ErrMagic", laid_amber_image_ErrMagic), ("amber/image.ErrVersion", laid_amber_image_ErrVersion), ("amber/image.ErrHeader", laid_amber_image_ErrHeader), ("amber/image.ErrLength", laid_amber_image_ErrLength), ("amber/image.ErrSum", laid_amber_image_ErrSum), ("amber/image.ErrForm", laid_amber_image_ErrForm), ("amber/image.ErrForest", laid_amber_image_ErrForest), ("amber/image.ErrSize", laid_amber_image_ErrSize), ("amber/image.sizes", laid_amber_image_sizes), ("amber/image.readers", laid_amber_image_readers)], narrowed := true }
def ImageBackUptoSaid : Prop := imageBackUptoRow.holds Tryd.pinned (OpenSpec.upto imageBackSpec)

/-- 'amberlaw13.ImageIdents', WHERE WHAT IT READS IS OF BULK AT MOST 1048576: true; the input reads as it did. -/
def imageIdentsUptoRow : OpenClaim := { program := "ytgobibgpkcdmdaadoor", sum := "c61dd0115981ca41791c29bc348d7c48e16cc42220d0c624c662dddbeefe0989", func := "amber/amberlaw13.ImageIdents", spec := "imageIdents", inPlace := ["internal/reflectlite.TypeOf", "internal/reflectlite.ValueOf", "(internal/reflectlite.Value).Type", "(internal/reflectlite.Value).IsNil", "(internal/reflectlite.Value).Elem", "(internal/reflectlite.Value).Set"], unfollowed := true, recurses := true, named := ["amber/image.ErrForest", "amber/image.rules", "amber/image.ErrSize", "amber/image.readers", "amber/image.ErrShort", "amber/image.ErrMagic", "amber/image.ErrHeader", "amber/image.ErrLength", "errors.errorType", "amber/image.ErrVersion", "amber/image.ErrForm", "amber/image.sizes", "amber/image.ErrSum"], plainKeys := false, apart := false, laid := [("errors.errorType", laid_errors_errorType), ("amber/image.rules", laid_amber_image_rules), ("amber/image.ErrShort", laid_amber_image_ErrShort), ("amber/image.ErrMagic", laid_amber_image_ErrMagic), ("amber/image.ErrVersion", laid_amber_image_ErrVersion), ("amber/image.ErrHeader", laid_amber_image_ErrHeader), ("amber/image.ErrLength", laid_amber_image_ErrLength), ("amber/image.ErrSum", laid_amber_image_ErrSum), ("amber/image.ErrForm", laid_amber_image_ErrForm), ("amber/image.ErrForest", laid_amber_image_ErrForest), ("amber/image.ErrSize", laid_amber_image_ErrSize), ("amber/image.sizes", laid_amber_image_sizes), ("amber/image.readers", laid_amber_image_readers)], narrowed := true }
def ImageIdentsUptoSaid : Prop := imageIdentsUptoRow.holds Tryd.pinned (OpenSpec.upto imageIdentsSpec)

/-- 'amberlaw13.ImageLaid', WHERE WHAT IT READS IS OF BULK AT MOST 1048576: true; the input reads as it did. -/
def imageLaidUptoRow : OpenClaim := { program := "ytgobibgpkcdmdaadoor", sum := "c61dd0115981ca41791c29bc348d7c48e16cc42220d0c624c662dddbeefe0989", func := "amber/amberlaw13.ImageLaid", spec := "imageLaid", inPlace := ["internal/reflectlite.TypeOf", "internal/reflectlite.ValueOf", "(internal/reflectlite.Value).Type", "(internal/reflectlite.Value).IsNil", "(internal/reflectlite.Value).Elem", "(internal/reflectlite.Value).Set"], unfollowed := true, recurses := true, named := ["amber/image.ErrForest", "amber/image.rules", "amber/image.ErrSize", "amber/image.readers", "amber/image.ErrShort", "amber/image.ErrMagic", "amber/image.ErrHeader", "amber/image.ErrLength", "errors.errorType", "amber/image.ErrVersion", "amber/image.ErrForm", "amber/image.sizes", "amber/image.ErrSum"], plainKeys := false, apart := false, laid := [("errors.errorType", laid_errors_errorType), ("amber/image.rules", laid_amber_image_rules), ("amber/image.ErrShort", laid_amber_image_ErrShort), ("amber/image.ErrMagic", laid_amber_image_ErrMagic), ("amber/image.ErrVersion", laid_amber_image_ErrVersion), ("amber/image.ErrHeader", laid_amber_image_ErrHeader), ("amber/image.ErrLength", laid_amber_image_ErrLength), ("amber/image.ErrSum", laid_amber_image_ErrSum), ("amber/image.ErrForm", laid_amber_image_ErrForm), ("amber/image.ErrForest", laid_amber_image_ErrForest), ("amber/image.ErrSize", laid_amber_image_ErrSize), ("amber/image.sizes", laid_amber_image_sizes), ("amber/image.readers", laid_amber_image_readers)], narrowed := true }
def ImageLaidUptoSaid : Prop := imageLaidUptoRow.holds Tryd.pinned (OpenSpec.upto imageLaidSpec)

/-- 'amberlaw13.ImageHead', WHERE WHAT IT READS IS OF BULK AT MOST 1048576: true; the input reads as it did. -/
def imageHeadUptoRow : OpenClaim := { program := "ytgobibgpkcdmdaadoor", sum := "c61dd0115981ca41791c29bc348d7c48e16cc42220d0c624c662dddbeefe0989", func := "amber/amberlaw13.ImageHead", spec := "imageHead", inPlace := ["internal/reflectlite.TypeOf", "internal/reflectlite.ValueOf", "(internal/reflectlite.Value).Type", "(internal/reflectlite.Value).IsNil", "(internal/reflectlite.Value).Elem", "(internal/reflectlite.Value).Set"], unfollowed := true, recurses := true, named := ["amber/image.ErrForest", "amber/image.rules", "amber/image.ErrSize", "amber/image.readers", "amber/image.ErrShort", "amber/image.ErrMagic", "amber/image.ErrHeader", "amber/image.ErrLength", "errors.errorType", "amber/image.ErrVersion", "amber/image.ErrForm", "amber/image.sizes", "amber/image.ErrSum"], plainKeys := false, apart := false, laid := [("errors.errorType", laid_errors_errorType), ("amber/image.rules", laid_amber_image_rules), ("amber/image.ErrShort", laid_amber_image_ErrShort), ("amber/image.ErrMagic", laid_amber_image_ErrMagic), ("amber/image.ErrVersion", laid_amber_image_ErrVersion), ("amber/image.ErrHeader", laid_amber_image_ErrHeader), ("amber/image.ErrLength", laid_amber_image_ErrLength), ("amber/image.ErrSum", laid_amber_image_ErrSum), ("amber/image.ErrForm", laid_amber_image_ErrForm), ("amber/image.ErrForest", laid_amber_image_ErrForest), ("amber/image.ErrSize", laid_amber_image_ErrSize), ("amber/image.sizes", laid_amber_image_sizes), ("amber/image.readers", laid_amber_image_readers)], narrowed := true }
def ImageHeadUptoSaid : Prop := imageHeadUptoRow.holds Tryd.pinned (OpenSpec.upto imageHeadSpec)

/-- 'amberlaw13.ImageApart', WHERE WHAT IT READS IS OF BULK AT MOST 1048576: true; the input reads as it did. -/
def imageApartUptoRow : OpenClaim := { program := "ytgobibgpkcdmdaadoor", sum := "c61dd0115981ca41791c29bc348d7c48e16cc42220d0c624c662dddbeefe0989", func := "amber/amberlaw13.ImageApart", spec := "imageApart", inPlace := ["internal/reflectlite.TypeOf", "internal/reflectlite.ValueOf", "(internal/reflectlite.Value).Type", "(internal/reflectlite.Value).IsNil", "(internal/reflectlite.Value).Elem", "(internal/reflectlite.Value).Set"], unfollowed := true, recurses := true, named := ["amber/image.ErrForest", "amber/image.rules", "amber/image.ErrSize", "amber/image.readers", "amber/image.ErrShort", "amber/image.ErrMagic", "amber/image.ErrHeader", "amber/image.ErrLength", "errors.errorType", "amber/image.ErrVersion", "amber/image.ErrForm", "amber/image.sizes", "amber/image.ErrSum"], plainKeys := false, apart := false, laid := [("errors.errorType", laid_errors_errorType), ("amber/image.rules", laid_amber_image_rules), ("amber/image.ErrShort", laid_amber_image_ErrShort), ("amber/image.ErrMagic", laid_amber_image_ErrMagic), ("amber/image.ErrVersion", laid_amber_image_ErrVersion), ("amber/image.ErrHeader", laid_amber_image_ErrHeader), ("amber/image.ErrLength", laid_amber_image_ErrLength), ("amber/image.ErrSum", laid_amber_image_ErrSum), ("amber/image.ErrForm", laid_amber_image_ErrForm), ("amber/image.ErrForest", laid_amber_image_ErrForest), ("amber/image.ErrSize", laid_amber_image_ErrSize), ("amber/image.sizes", laid_amber_image_sizes), ("amber/image.readers", laid_amber_image_readers)], narrowed := true }
def ImageApartUptoSaid : Prop := imageApartUptoRow.holds Tryd.pinned (OpenSpec.upto imageApartSpec)

/-- 'amberlaw13.ImageFaults', WHERE WHAT IT READS IS OF BULK AT MOST 1048576: true; the input reads as it did. -/
def imageFaultsUptoRow : OpenClaim := { program := "ytgobibgpkcdmdaadoor", sum := "c61dd0115981ca41791c29bc348d7c48e16cc42220d0c624c662dddbeefe0989", func := "amber/amberlaw13.ImageFaults", spec := "imageFaults", inPlace := ["internal/reflectlite.TypeOf", "internal/reflectlite.ValueOf", "(internal/reflectlite.Value).Type", "(internal/reflectlite.Value).IsNil", "(internal/reflectlite.Value).Elem", "(internal/reflectlite.Value).Set"], unfollowed := true, recurses := true, named := ["amber/image.ErrShort", "amber/image.ErrMagic", "amber/image.ErrVersion", "amber/image.ErrHeader", "amber/image.ErrLength", "amber/image.ErrSum", "amber/image.ErrForm", "amber/image.ErrForest", "amber/image.ErrSize", "amber/image.rules", "amber/image.readers", "errors.errorType", "amber/image.sizes"], plainKeys := false, apart := false, laid := [("errors.errorType", laid_errors_errorType), ("amber/image.rules", laid_amber_image_rules), ("amber/image.ErrShort", laid_amber_image_ErrShort), ("amber/image.ErrMagic", laid_amber_image_ErrMagic), ("amber/image.ErrVersion", laid_amber_image_ErrVersion), ("amber/image.ErrHeader", laid_amber_image_ErrHeader), ("amber/image.ErrLength", laid_amber_image_ErrLength), ("amber/image.ErrSum", laid_amber_image_ErrSum), ("amber/image.ErrForm", laid_amber_image_ErrForm), ("amber/image.ErrForest", laid_amber_image_ErrForest), ("amber/image.ErrSize", laid_amber_image_ErrSize), ("amber/image.sizes", laid_amber_image_sizes), ("amber/image.readers", laid_amber_image_readers)], narrowed := true }
def ImageFaultsUptoSaid : Prop := imageFaultsUptoRow.holds Tryd.pinned (OpenSpec.upto imageFaultsSpec)

end Rows
end Go.Proofs.YtgobibgpkcdmdaaDoor

/- The closed facts of the row FerryAllOrNothing. -/
import Derived.Test.YtgobibgpkcdmdaaDoorRow0
set_option linter.all false
namespace Go.Proofs.YtgobibgpkcdmdaaDoor.ferryAllOrNothingUpto
set_option maxRecDepth 100000
set_option maxHeartbeats 8000000 in
theorem facts : joinedFacts Tryd.prog 4 Tryd.f4 (Rows.OpenSpec.upto Rows.ferryAllOrNothingSpec).bare Rows.ferryAllOrNothingUptoRow = true := by
  unfold joinedFacts
  simp only [Bool.and_eq_true]
  repeat' apply And.intro
  all_goals as_aux_lemma => kernel_rfl
end Go.Proofs.YtgobibgpkcdmdaaDoor.ferryAllOrNothingUpto

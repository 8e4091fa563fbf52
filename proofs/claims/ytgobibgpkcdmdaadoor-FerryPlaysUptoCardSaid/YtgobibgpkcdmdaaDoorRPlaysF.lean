/- The closed facts of the row FerryPlays. -/
import Derived.Test.YtgobibgpkcdmdaaDoorRow0
set_option linter.all false
namespace Go.Proofs.YtgobibgpkcdmdaaDoor.ferryPlaysUpto
set_option maxRecDepth 100000
set_option maxHeartbeats 8000000 in
theorem facts : joinedFacts Tryd.prog 3 Tryd.f3 (Rows.OpenSpec.upto Rows.ferryPlaysSpec).bare Rows.ferryPlaysUptoRow = true := by
  unfold joinedFacts
  simp only [Bool.and_eq_true]
  repeat' apply And.intro
  all_goals as_aux_lemma => kernel_rfl
end Go.Proofs.YtgobibgpkcdmdaaDoor.ferryPlaysUpto

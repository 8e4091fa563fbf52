/- The closed facts of the row FerryEnds. -/
import Derived.Test.YtgobibgpkcdmdaaDoorRow0
set_option linter.all false
namespace Go.Proofs.YtgobibgpkcdmdaaDoor.ferryEndsUpto
set_option maxRecDepth 100000
set_option maxHeartbeats 8000000 in
theorem facts : joinedFacts Tryd.prog 5 Tryd.f5 (Rows.OpenSpec.upto Rows.ferryEndsSpec).bare Rows.ferryEndsUptoRow = true := by
  unfold joinedFacts
  simp only [Bool.and_eq_true]
  repeat' apply And.intro
  all_goals as_aux_lemma => kernel_rfl
end Go.Proofs.YtgobibgpkcdmdaaDoor.ferryEndsUpto

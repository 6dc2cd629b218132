/- The closed facts of ClientNumbers' row, one by one. -/
import Derived.Test.YtfdplefijefeiaaGreatDoorCards
import Derived.ProofKit
import Derived.JoinedCond
namespace Go.Proofs.YtfdplefijefeiaaGreatDoor.numbers
set_option maxRecDepth 100000 in
set_option maxHeartbeats 100000000 in
theorem closed : joinedFacts Tryz.pinned.checked.prog 4 Tryz.f4 (OpenSpec.ofChange Rows.clientNumbersSpec).bare Rows.clientNumbersRow = true := by
  unfold joinedFacts
  simp only [Bool.and_eq_true]
  repeat' (refine And.intro ?_ ?_)
  all_goals decide +kernel
end Go.Proofs.YtfdplefijefeiaaGreatDoor.numbers

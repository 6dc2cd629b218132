/- The closed facts of HouseNames' row, one by one. -/
import Derived.Test.YtfdplefijefeiaaGreatDoorCards
import Derived.ProofKit
import Derived.JoinedCond
namespace Go.Proofs.YtfdplefijefeiaaGreatDoor.house
set_option maxRecDepth 100000 in
set_option maxHeartbeats 100000000 in
theorem closed : joinedFacts Tryz.pinned.checked.prog 3 Tryz.f3 (OpenSpec.ofChange Rows.houseNamesSpec).bare Rows.houseNamesRow = true := by
  unfold joinedFacts
  simp only [Bool.and_eq_true]
  repeat' (refine And.intro ?_ ?_)
  all_goals decide +kernel
end Go.Proofs.YtfdplefijefeiaaGreatDoor.house

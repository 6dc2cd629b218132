/- The run of HouseNames. -/
import Derived.Test.YtfdplefijefeiaaGreatDoorR0
namespace Go.Proofs.YtfdplefijefeiaaGreatDoor
open Go.Dx Go.Proofs Go.RowKit
/-- what is known of memory when the call begins -/
def h0 (m : Int) : DHeap := ⟨Tr.set .nil 12 (some (.cells [.int .i64 m] true 0)), 19⟩
theorem run3 (m : Int) : (callD DP 5000 60 3 [] (h0 m)).map (·.1) = some (.bool true) := by kernel_rfl
end Go.Proofs.YtfdplefijefeiaaGreatDoor

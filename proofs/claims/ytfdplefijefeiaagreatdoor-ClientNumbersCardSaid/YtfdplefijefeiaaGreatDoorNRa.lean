/- The run of shown: its first part. -/
import Derived.Test.YtfdplefijefeiaaGreatDoorNC
import Derived.KernelRfl
namespace Go.Proofs.YtfdplefijefeiaaGreatDoor
open Go.Dx
theorem stage1 (m : Int) : codeF DP (callF DP 5000 59) 5000 (preS 9 d7.body) (frameD 0 [] .nil) (h0 m) = some (.normal, t1, h1 m) := by kernel_rfl
end Go.Proofs.YtfdplefijefeiaaGreatDoor

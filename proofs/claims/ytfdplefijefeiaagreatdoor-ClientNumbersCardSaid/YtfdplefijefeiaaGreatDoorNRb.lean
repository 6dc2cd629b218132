/- The run of shown: its second part. -/
import Derived.Test.YtfdplefijefeiaaGreatDoorNC
import Derived.KernelRfl
namespace Go.Proofs.YtfdplefijefeiaaGreatDoor
open Go.Dx
def finF (rs : List DRes) : Option (Ex × Fr × DHeap) → Option DV
  | some (.exit _, _, _) => none
  | some (_, t, h) => retD t h rs
  | none => none
theorem stage2 (m : Int) : finF d7.results (codeF DP (callF DP 5000 59) 5000 (postS 9 d7.body) t1 (h1 m)) = some (.bool true) := by kernel_rfl
end Go.Proofs.YtfdplefijefeiaaGreatDoor

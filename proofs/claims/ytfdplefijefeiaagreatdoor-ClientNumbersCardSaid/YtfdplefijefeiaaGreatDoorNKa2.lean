/- Each stands for its function. -/
import Derived.Test.YtfdplefijefeiaaGreatDoorNK
import Derived.Test.YtfdplefijefeiaaGreatDoorNKd2
namespace Go.Proofs.YtfdplefijefeiaaGreatDoor
open Go.Dx
set_option maxRecDepth 100000
theorem ok245 : Fok 245 d245 := ⟨_, Tryz.func245, by kernel_rfl⟩
theorem ok287 : Fok 287 d287 := ⟨_, Tryz.func287, by kernel_rfl⟩
theorem ok300 : Fok 300 d300 := ⟨_, Tryz.func300, by kernel_rfl⟩
theorem ok301 : Fok 301 d301 := ⟨_, Tryz.func301, by kernel_rfl⟩
theorem ok302 : Fok 302 d302 := ⟨_, Tryz.func302, by kernel_rfl⟩
theorem ok303 : Fok 303 d303 := ⟨_, Tryz.func303, by kernel_rfl⟩
theorem ok304 : Fok 304 d304 := ⟨_, Tryz.func304, by kernel_rfl⟩
theorem ok305 : Fok 305 d305 := ⟨_, Tryz.func305, by kernel_rfl⟩
theorem ok306 : Fok 306 d306 := ⟨_, Tryz.func306, by kernel_rfl⟩
theorem ok307 : Fok 307 d307 := ⟨_, Tryz.func307, by kernel_rfl⟩
theorem ok308 : Fok 308 d308 := ⟨_, Tryz.func308, by kernel_rfl⟩
theorem ok309 : Fok 309 d309 := ⟨_, Tryz.func309, by kernel_rfl⟩
theorem ok310 : Fok 310 d310 := ⟨_, Tryz.func310, by kernel_rfl⟩
theorem ok311 : Fok 311 d311 := ⟨_, Tryz.func311, by kernel_rfl⟩
theorem ok312 : Fok 312 d312 := ⟨_, Tryz.func312, by kernel_rfl⟩
theorem ok313 : Fok 313 d313 := ⟨_, Tryz.func313, by kernel_rfl⟩
theorem ok314 : Fok 314 d314 := ⟨_, Tryz.func314, by kernel_rfl⟩
theorem ok315 : Fok 315 d315 := ⟨_, Tryz.func315, by kernel_rfl⟩
theorem ok332 : Fok 332 d332 := ⟨_, Tryz.func332, by kernel_rfl⟩
theorem ok416 : Fok 416 d416 := ⟨_, Tryz.func416, by kernel_rfl⟩
end Go.Proofs.YtfdplefijefeiaaGreatDoor

/- Helper text: a call, run. Conditions: none. -/
import Derived.Test.YtldjbgklmeigmaaGreatDoorKD
import Derived.Test.YtldjbgklmeigmaaGreatDoorProg
import Derived.KernelRfl
namespace Go.Proofs.YtldjbgklmeigmaaGreatDoor.Ev
open Go
noncomputable section
set_option maxRecDepth 100000
theorem k1_ok : ChunkOk Tryz.prog k1 := chk_ok (n := 100000) noHook_ok (by kernel_rfl)
end
end Go.Proofs.YtldjbgklmeigmaaGreatDoor.Ev

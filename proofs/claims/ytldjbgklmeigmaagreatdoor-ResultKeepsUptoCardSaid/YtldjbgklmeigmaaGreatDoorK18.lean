/- Helper text: a call, run. Conditions: none. -/
import Derived.Test.YtldjbgklmeigmaaGreatDoorKD
import Derived.Test.YtldjbgklmeigmaaGreatDoorProg
import Derived.KernelRfl
import Derived.Test.YtldjbgklmeigmaaGreatDoorK3
import Derived.Test.YtldjbgklmeigmaaGreatDoorK15
import Derived.Test.YtldjbgklmeigmaaGreatDoorK16
import Derived.Test.YtldjbgklmeigmaaGreatDoorK17
namespace Go.Proofs.YtldjbgklmeigmaaGreatDoor.Ev
open Go
noncomputable section
set_option maxRecDepth 100000
def k18_hk : Hook := hookC 15393162789120 [k3, k15, k16, k17]
theorem k18_hk_ok : HookOk Tryz.prog k18_hk := hookC_ok (by simp only [List.mem_cons, List.not_mem_nil, or_false, forall_eq_or_imp, forall_eq]; exact ⟨k3_ok, k15_ok, k16_ok, k17_ok⟩)
theorem k18_ok : ChunkOk Tryz.prog k18 := chk_ok (n := 100000) k18_hk_ok (by kernel_rfl)
end
end Go.Proofs.YtldjbgklmeigmaaGreatDoor.Ev

/- Helper text: a call, run. Conditions: none. -/
import Derived.Test.YtldjbgklmeigmaaGreatDoorKD
import Derived.Test.YtldjbgklmeigmaaGreatDoorProg
import Derived.KernelRfl
import Derived.Test.YtldjbgklmeigmaaGreatDoorK0
import Derived.Test.YtldjbgklmeigmaaGreatDoorK1
import Derived.Test.YtldjbgklmeigmaaGreatDoorK2
namespace Go.Proofs.YtldjbgklmeigmaaGreatDoor.Ev
open Go
noncomputable section
set_option maxRecDepth 100000
def k3_hk : Hook := hookC 66113130760175032991744 [k0, k1, k2]
theorem k3_hk_ok : HookOk Tryz.prog k3_hk := hookC_ok (by simp only [List.mem_cons, List.not_mem_nil, or_false, forall_eq_or_imp, forall_eq]; exact ⟨k0_ok, k1_ok, k2_ok⟩)
theorem k3_ok : ChunkOk Tryz.prog k3 := chk_ok (n := 100000) k3_hk_ok (by kernel_rfl)
end
end Go.Proofs.YtldjbgklmeigmaaGreatDoor.Ev

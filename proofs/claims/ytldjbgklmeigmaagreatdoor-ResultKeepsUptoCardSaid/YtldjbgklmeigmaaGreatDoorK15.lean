/- Helper text: a call, run. Conditions: none. -/
import Derived.Test.YtldjbgklmeigmaaGreatDoorKD
import Derived.Test.YtldjbgklmeigmaaGreatDoorProg
import Derived.KernelRfl
import Derived.Test.YtldjbgklmeigmaaGreatDoorK4
import Derived.Test.YtldjbgklmeigmaaGreatDoorK6
import Derived.Test.YtldjbgklmeigmaaGreatDoorK7
import Derived.Test.YtldjbgklmeigmaaGreatDoorK8
import Derived.Test.YtldjbgklmeigmaaGreatDoorK9
import Derived.Test.YtldjbgklmeigmaaGreatDoorK10
import Derived.Test.YtldjbgklmeigmaaGreatDoorK11
import Derived.Test.YtldjbgklmeigmaaGreatDoorK12
import Derived.Test.YtldjbgklmeigmaaGreatDoorK13
import Derived.Test.YtldjbgklmeigmaaGreatDoorK14
namespace Go.Proofs.YtldjbgklmeigmaaGreatDoor.Ev
open Go
noncomputable section
set_option maxRecDepth 100000
def k15_hk : Hook := hookC 308880546911546550230450176 [k4, k6, k7, k8, k9, k10, k11, k12, k13, k14]
theorem k15_hk_ok : HookOk Tryz.prog k15_hk := hookC_ok (by simp only [List.mem_cons, List.not_mem_nil, or_false, forall_eq_or_imp, forall_eq]; exact ⟨k4_ok, k6_ok, k7_ok, k8_ok, k9_ok, k10_ok, k11_ok, k12_ok, k13_ok, k14_ok⟩)
theorem k15_ok : ChunkOk Tryz.prog k15 := chk_ok (n := 100000) k15_hk_ok (by kernel_rfl)
end
end Go.Proofs.YtldjbgklmeigmaaGreatDoor.Ev

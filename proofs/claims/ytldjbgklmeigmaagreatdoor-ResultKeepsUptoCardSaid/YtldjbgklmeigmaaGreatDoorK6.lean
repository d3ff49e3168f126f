/- Helper text: a call, run. Conditions: none. -/
import Derived.Test.YtldjbgklmeigmaaGreatDoorKD
import Derived.Test.YtldjbgklmeigmaaGreatDoorProg
import Derived.KernelRfl
import Derived.Test.YtldjbgklmeigmaaGreatDoorK5
set_option linter.unusedVariables false
set_option linter.unusedSimpArgs false
namespace Go.Proofs.YtldjbgklmeigmaaGreatDoor.Ev
open Go
noncomputable section
set_option maxRecDepth 100000
def k6_hk : Hook := hookC 8796093022208 [k5]
theorem k6_hk_ok : HookOk Tryz.prog k6_hk := hookC_ok (by simp only [List.mem_cons, List.not_mem_nil, or_false, forall_eq_or_imp, forall_eq]; exact k5_ok)
theorem k6_ok : ChunkOk Tryz.prog k6 := chk_ok (n := 100000) k6_hk_ok (by kernel_rfl)
end
end Go.Proofs.YtldjbgklmeigmaaGreatDoor.Ev

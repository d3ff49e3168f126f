/- Helper text: a call, run. Conditions: none. -/
import Derived.Test.YtldjbgklmeigmaaGreatDoorKD
import Derived.Test.YtldjbgklmeigmaaGreatDoorProg
import Derived.KernelRfl
import Derived.Test.YtldjbgklmeigmaaGreatDoorK18
import Derived.Test.YtldjbgklmeigmaaGreatDoorPackP
namespace Go.Proofs.YtldjbgklmeigmaaGreatDoor.Ev
open Go
noncomputable section
set_option maxRecDepth 100000
def k20_hk : Hook := hookC 137438957568 [k18, k19]
theorem k20_hk_ok : HookOk Tryz.prog k20_hk := hookC_ok (by simp only [List.mem_cons, List.not_mem_nil, or_false, forall_eq_or_imp, forall_eq]; exact ⟨k18_ok, k19_ok⟩)
theorem k20_ok : ChunkOk Tryz.prog k20 := chk_ok (n := 100000) k20_hk_ok (by kernel_rfl)
end
end Go.Proofs.YtldjbgklmeigmaaGreatDoor.Ev

/- Helper text: a call, run: Type of S over the schema's type system. Conditions: none. -/
import Derived.Test.YtldjbgklmeigmaaGreatDoorKD
import Derived.Test.YtldjbgklmeigmaaGreatDoorEvPC
import Derived.Test.YtldjbgklmeigmaaGreatDoorProg
import Derived.KernelRfl
namespace Go.Proofs.YtldjbgklmeigmaaGreatDoor.Ev
open Go
noncomputable section
set_option maxRecDepth 100000
def kT : Chunk := ⟨28, [.ptr (nm 5090) 0, .str 1 83], nm 6816, frzH k18_K, (.tup [(.agg [(.int .i64 (.ofNat 2)), (.bool false), (.bool false), (.bool false), (.str 0 0), (.str 1 83), (.nils 0 0), (.nils 0 0), (.nils 0 0), (.nils 0 0), (.nils 0 0), (.nils 0 0), (.nils 0 0), (.bool false), (.nils 0 0), (.int .i64 (.ofNat 1)), (.int .i64 (.ofNat 25))]), (.bool true)]), nm 6819, frzH k18_K⟩
theorem kT_ok : ChunkOk Tryz.prog kT := chk_ok (n := 100000) noHook_ok (by kernel_rfl)
end
end Go.Proofs.YtldjbgklmeigmaaGreatDoor.Ev

/- The law's first lines (layer 27), run by the kernel. -/
import Derived.Test.YtjgpbhodbgjggaaGreatKNewW
set_option maxRecDepth 100000
set_option maxHeartbeats 0
namespace Go.Proofs.YtjgpbhodbgjggaaGreat.K
open Go Go.Proofs
theorem run27 : (evQ S1 RT1 300 22 [] T0).map (fun p => p.1) = some (.bool true) := by kernel_rfl
theorem aw27_ok : PrimOK Go.Proofs.Tryz.prog 22 (prim0 (.bool true)) := prim0_ok S1_ok rfl (by kernel_rfl) (wf_of_q RT1_ok run27)
end Go.Proofs.YtjgpbhodbgjggaaGreat.K

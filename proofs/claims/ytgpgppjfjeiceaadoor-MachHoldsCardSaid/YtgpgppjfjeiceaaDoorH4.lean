/- MachHolds: closed runs, in the kernel (signed true, divisor 0 false, divisor -1 true, least true). By AI agents. -/
import Derived.Test.YtgpgppjfjeiceaaDoorH0
namespace Go.Proofs.YtgpgppjfjeiceaaDoor
set_option maxRecDepth 1000000 in
theorem run4a : okRes (ran ⟨true, true, true, false, true, true⟩) = true := by kernel_rfl
set_option maxRecDepth 1000000 in
theorem run4b : okRes (ran ⟨true, false, true, false, true, true⟩) = true := by kernel_rfl
set_option maxRecDepth 1000000 in
theorem run4c : okRes (ran ⟨true, false, false, false, true, true⟩) = true := by kernel_rfl
end Go.Proofs.YtgpgppjfjeiceaaDoor

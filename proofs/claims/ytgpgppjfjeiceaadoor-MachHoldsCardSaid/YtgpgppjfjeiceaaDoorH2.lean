/- MachHolds: closed runs, in the kernel (signed true, divisor 0 false, divisor -1 false, least false). By AI agents. -/
import Derived.Test.YtgpgppjfjeiceaaDoorH0
namespace Go.Proofs.YtgpgppjfjeiceaaDoor
set_option maxRecDepth 1000000 in
theorem run2a : okRes (ran ⟨true, true, true, false, false, false⟩) = true := by kernel_rfl
set_option maxRecDepth 1000000 in
theorem run2b : okRes (ran ⟨true, false, true, false, false, false⟩) = true := by kernel_rfl
set_option maxRecDepth 1000000 in
theorem run2c : okRes (ran ⟨true, false, false, false, false, false⟩) = true := by kernel_rfl
end Go.Proofs.YtgpgppjfjeiceaaDoor

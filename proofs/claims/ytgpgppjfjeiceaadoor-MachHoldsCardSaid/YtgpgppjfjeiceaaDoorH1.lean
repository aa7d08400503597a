/- MachHolds: closed runs, in the kernel (signed true, divisor 0 true, divisor -1 false, least false). By AI agents. -/
import Derived.Test.YtgpgppjfjeiceaaDoorH0
namespace Go.Proofs.YtgpgppjfjeiceaaDoor
set_option maxRecDepth 1000000 in
theorem run1a : okRes (ran ⟨true, true, true, true, false, false⟩) = true := by kernel_rfl
set_option maxRecDepth 1000000 in
theorem run1b : okRes (ran ⟨true, false, true, true, false, false⟩) = true := by kernel_rfl
set_option maxRecDepth 1000000 in
theorem run1c : okRes (ran ⟨true, false, false, true, false, false⟩) = true := by kernel_rfl
end Go.Proofs.YtgpgppjfjeiceaaDoor

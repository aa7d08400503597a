/- MachHolds: closed runs, in the kernel (signed false, divisor 0 true, divisor -1 false, least false). By AI agents. -/
import Derived.Test.YtgpgppjfjeiceaaDoorH0
namespace Go.Proofs.YtgpgppjfjeiceaaDoor
set_option maxRecDepth 1000000 in
theorem run5a : okRes (ran ⟨false, true, true, true, false, false⟩) = true := by kernel_rfl
set_option maxRecDepth 1000000 in
theorem run5b : okRes (ran ⟨false, false, true, true, false, false⟩) = true := by kernel_rfl
set_option maxRecDepth 1000000 in
theorem run5c : okRes (ran ⟨false, false, false, true, false, false⟩) = true := by kernel_rfl
end Go.Proofs.YtgpgppjfjeiceaaDoor

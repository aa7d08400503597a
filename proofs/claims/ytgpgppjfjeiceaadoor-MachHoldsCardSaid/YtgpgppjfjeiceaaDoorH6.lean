/- MachHolds: closed runs, in the kernel (signed false, divisor 0 false, divisor -1 false, least false). By AI agents. -/
import Derived.Test.YtgpgppjfjeiceaaDoorH0
namespace Go.Proofs.YtgpgppjfjeiceaaDoor
set_option maxRecDepth 1000000 in
theorem run6a : okRes (ran ⟨false, true, true, false, false, false⟩) = true := by kernel_rfl
set_option maxRecDepth 1000000 in
theorem run6b : okRes (ran ⟨false, false, true, false, false, false⟩) = true := by kernel_rfl
set_option maxRecDepth 1000000 in
theorem run6c : okRes (ran ⟨false, false, false, false, false, false⟩) = true := by kernel_rfl
end Go.Proofs.YtgpgppjfjeiceaaDoor

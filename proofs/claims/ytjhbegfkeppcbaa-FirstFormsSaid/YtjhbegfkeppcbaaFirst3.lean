/- Runs of the executor, by the kernel. -/
import Derived.Test.YtjhbegfkeppcbaaFirstRun
import Derived.KernelRfl
set_option autoImplicit false
set_option maxRecDepth 1000000
namespace Go.Proofs.Ytjhbegfkeppcbaa
theorem ran12 : runF (.ofNat 12) = True := by kernel_rfl
theorem ran13 : runF (.ofNat 13) = True := by kernel_rfl
theorem ran14 : runF (.ofNat 14) = True := by kernel_rfl
theorem ran15 : runF (.ofNat 15) = True := by kernel_rfl
end Go.Proofs.Ytjhbegfkeppcbaa

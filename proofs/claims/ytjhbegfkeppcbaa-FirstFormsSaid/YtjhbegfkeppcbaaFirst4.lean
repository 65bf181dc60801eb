/- Runs of the executor, by the kernel. -/
import Derived.Test.YtjhbegfkeppcbaaFirstRun
import Derived.KernelRfl
set_option autoImplicit false
set_option maxRecDepth 1000000
namespace Go.Proofs.Ytjhbegfkeppcbaa
theorem ran16 : runF (.ofNat 16) = True := by kernel_rfl
theorem ran17 : runF (.ofNat 17) = True := by kernel_rfl
theorem ran18 : runF (.ofNat 18) = True := by kernel_rfl
end Go.Proofs.Ytjhbegfkeppcbaa

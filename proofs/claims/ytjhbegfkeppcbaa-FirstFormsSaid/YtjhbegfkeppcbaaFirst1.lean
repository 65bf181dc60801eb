/- Runs of the executor, by the kernel. -/
import Derived.Test.YtjhbegfkeppcbaaFirstRun
import Derived.KernelRfl
set_option autoImplicit false
set_option maxRecDepth 1000000
namespace Go.Proofs.Ytjhbegfkeppcbaa
theorem ran4 : runF (.ofNat 4) = True := by kernel_rfl
theorem ran5 : runF (.ofNat 5) = True := by kernel_rfl
theorem ran6 : runF (.ofNat 6) = True := by kernel_rfl
theorem ran7 : runF (.ofNat 7) = True := by kernel_rfl
end Go.Proofs.Ytjhbegfkeppcbaa

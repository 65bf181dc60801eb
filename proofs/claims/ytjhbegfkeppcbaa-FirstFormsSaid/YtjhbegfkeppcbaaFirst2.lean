/- Runs of the executor, by the kernel. -/
import Derived.Test.YtjhbegfkeppcbaaFirstRun
import Derived.KernelRfl
set_option autoImplicit false
set_option maxRecDepth 1000000
namespace Go.Proofs.Ytjhbegfkeppcbaa
theorem ran8 : runF (.ofNat 8) = True := by kernel_rfl
theorem ran9 : runF (.ofNat 9) = True := by kernel_rfl
theorem ran10 : runF (.ofNat 10) = True := by kernel_rfl
theorem ran11 : runF (.ofNat 11) = True := by kernel_rfl
end Go.Proofs.Ytjhbegfkeppcbaa

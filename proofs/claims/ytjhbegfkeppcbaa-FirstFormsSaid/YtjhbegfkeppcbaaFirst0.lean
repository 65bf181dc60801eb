/- Runs of the executor, by the kernel. -/
import Derived.Test.YtjhbegfkeppcbaaFirstRun
import Derived.KernelRfl
set_option autoImplicit false
set_option maxRecDepth 1000000
namespace Go.Proofs.Ytjhbegfkeppcbaa
theorem ran0 : runF (.ofNat 0) = True := by kernel_rfl
theorem ran1 : runF (.ofNat 1) = True := by kernel_rfl
theorem ran2 : runF (.ofNat 2) = True := by kernel_rfl
theorem ran3 : runF (.ofNat 3) = True := by kernel_rfl
end Go.Proofs.Ytjhbegfkeppcbaa

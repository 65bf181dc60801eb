/- Runs of the executor, by the kernel. -/
import Derived.Test.YtjhbegfkeppcbaaFirstRun
import Derived.KernelRfl
set_option autoImplicit false
set_option maxRecDepth 1000000
namespace Go.Proofs.Ytjhbegfkeppcbaa
theorem ranA : runA = True := by kernel_rfl
theorem ranN (k : Nat) : runF (.negSucc k) = True := by kernel_rfl
theorem ranB (k : Nat) : runF (.ofNat (k + 19)) = True := by kernel_rfl
end Go.Proofs.Ytjhbegfkeppcbaa

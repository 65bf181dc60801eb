/- Drat: the program itself is alive. -/
import Derived.Test.YtagfnjpjmmleiaaDoorC
set_option linter.unusedVariables false
set_option linter.unusedSimpArgs false
set_option autoImplicit false
set_option linter.unusedVariables false
set_option maxRecDepth 1000000
set_option maxHeartbeats 2000000
namespace Go.Proofs.YtagfnjpjmmleiaaDoor
noncomputable section
open Go.X
theorem alive_run (e : TypeId) : Ran (xfun CE Tryd.prog (xcode CE Tryd.prog F) 8 [] (hA e) [] (fun v _ _ => v = .bool true)) :=
  ⟨Eq.mpr (β := AV.bool true = AV.bool true) (by kernel_rfl) rfl⟩
end
end Go.Proofs.YtagfnjpjmmleiaaDoor

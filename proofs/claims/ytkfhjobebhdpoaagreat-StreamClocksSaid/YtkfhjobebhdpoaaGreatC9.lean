/- Stream: StreamClocks of nothing. -/
import Derived.Test.YtkfhjobebhdpoaaGreatC8
set_option linter.unusedVariables false
set_option autoImplicit false
set_option maxRecDepth 1000000
set_option maxHeartbeats 2000000
set_option linter.unusedVariables false
namespace Go.Proofs.YtkfhjobebhdpoaaGreat
noncomputable section
open Go.X
theorem law0C_run : Ran (xfun CL0C Tryz.prog (xcode CL0C Tryz.prog F) 5 [.emp] hNil [] (fun v _ _ => v = .bool true)) :=
  ⟨Eq.mpr (β := ([AV.str nCt vCt] = [.str nCt vCt]) ∧ (AV.bool true = AV.bool true)) (by kernel_rfl) ⟨rfl, rfl⟩⟩
end
end Go.Proofs.YtkfhjobebhdpoaaGreat

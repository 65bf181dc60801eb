/- Stream: StreamBoth of nothing. -/
import Derived.Test.YtkfhjobebhdpoaaGreatO8
set_option linter.unusedVariables false
set_option autoImplicit false
set_option maxRecDepth 1000000
set_option maxHeartbeats 2000000
set_option linter.unusedVariables false
namespace Go.Proofs.YtkfhjobebhdpoaaGreat
noncomputable section
open Go.X
theorem law0O_run : Ran (xfun CL0O Tryz.prog (xcode CL0O Tryz.prog F) 11 [.emp] hNil [] (fun v _ _ => v = .bool true)) :=
  ⟨Eq.mpr (β := ([AV.str nOt vOt] = [.str nOt vOt]) ∧ (AV.bool true = AV.bool true)) (by kernel_rfl) ⟨rfl, rfl⟩⟩
end
end Go.Proofs.YtkfhjobebhdpoaaGreat

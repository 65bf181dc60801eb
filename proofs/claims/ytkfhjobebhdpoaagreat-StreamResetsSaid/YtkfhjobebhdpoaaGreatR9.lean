/- Stream: StreamResets of nothing. -/
import Derived.Test.YtkfhjobebhdpoaaGreatR8
set_option linter.unusedVariables false
set_option autoImplicit false
set_option maxRecDepth 1000000
set_option maxHeartbeats 2000000
set_option linter.unusedVariables false
namespace Go.Proofs.YtkfhjobebhdpoaaGreat
noncomputable section
open Go.X
def CL0 : Cfg := (C0.addCon 12 conTrue).addCon 13 conReadyR
theorem CL0_good : X.Good CL0 Tryz.prog :=
  (good0.addCon 12 conTrue conTrue_spl (conTrue_ok alive_true)).addCon 13 conReadyR (fun args h ds K hk => ⟨_, _, _, hk.2, by show h.next ≤ h.next + llen gRt; omega, fun K' hk' => ⟨hk.1, hk'⟩⟩) (fun args h ds K hk => by obtain ⟨rfl, hk⟩ := hk; exact readyRt_ok hk)
theorem law0_run : Ran (xfun CL0 Tryz.prog (xcode CL0 Tryz.prog F) 4 [.emp] hNil [] (fun v _ _ => v = .bool true)) :=
  ⟨Eq.mpr (β := ([AV.str nRt vRt] = [.str nRt vRt]) ∧ (AV.bool true = AV.bool true)) (by kernel_rfl) ⟨rfl, rfl⟩⟩
end
end Go.Proofs.YtkfhjobebhdpoaaGreat

/- Stream: alive is told as true. -/
import Derived.Test.YtkfhjobebhdpoaaGreatB
set_option linter.unusedVariables false
set_option autoImplicit false
set_option maxRecDepth 1000000
set_option maxHeartbeats 1000000
namespace Go.Proofs.YtkfhjobebhdpoaaGreat
noncomputable section
open Go.X
def conA : Con := fun args h ds K => args = [.str nA vA] ∧ K (ren (shf h.next) VA) (addAll h gA) ds
theorem conA_good : X.Good (C0.addCon 13 conA) Tryz.prog :=
  good0.addCon 13 conA (fun args h ds K hk => ⟨_, _, _, hk.2, by show h.next ≤ h.next + llen gA; omega, fun K' hk' => ⟨hk.1, hk'⟩⟩) (fun args h ds K hk => by obtain ⟨rfl, hk⟩ := hk; exact readyA_ok hk)
theorem alive_run : Ran (xfun (C0.addCon 13 conA) Tryz.prog (xcode (C0.addCon 13 conA) Tryz.prog F) 12 [] hNil [] (fun v _ _ => v = .bool true)) :=
  ⟨Eq.mpr (β := ([AV.str nA vA] = [.str nA vA]) ∧ (AV.bool true = AV.bool true)) (by kernel_rfl) ⟨rfl, rfl⟩⟩
end
end Go.Proofs.YtkfhjobebhdpoaaGreat

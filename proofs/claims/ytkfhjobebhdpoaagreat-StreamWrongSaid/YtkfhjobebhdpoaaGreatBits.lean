/- Stream: a list of truth values by a number's bits. -/
import Derived.Test.YtkfhjobebhdpoaaGreatE7
set_option linter.unusedVariables false
set_option autoImplicit false
namespace Go.Proofs.YtkfhjobebhdpoaaGreat
noncomputable section
/-- the lowest n bits of a number -/
def bitsL (n : Nat) : Nat → List Bool := Nat.rec (motive := fun _ => Nat → List Bool) (fun _ => []) (fun _ ih v => Nat.beq (Nat.mod v 2) 1 :: ih (Nat.div v 2)) n
end
end Go.Proofs.YtkfhjobebhdpoaaGreat

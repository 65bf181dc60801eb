/- Stream: closed facts of a row, one by one. -/
import Derived.Test.YtkfhjobebhdpoaaGreatRows
import Derived.WalkKit
import Derived.ProofKit
set_option linter.unusedVariables false
set_option autoImplicit false
set_option maxRecDepth 100000
namespace Go.Proofs.YtkfhjobebhdpoaaGreat
theorem rjfX12 : (Rows.streamSumsRow.recurses == Tryz.prog.recurses 3) = true := by kernel_rfl
theorem rjfX13 : (Rows.streamSumsRow.named == Tryz.prog.varsNamed 3) = true := by kernel_rfl
end Go.Proofs.YtkfhjobebhdpoaaGreat

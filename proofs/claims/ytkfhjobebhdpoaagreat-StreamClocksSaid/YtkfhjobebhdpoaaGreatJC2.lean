/- Stream: closed facts of a row, one by one. -/
import Derived.Test.YtkfhjobebhdpoaaGreatRows
import Derived.WalkKit
import Derived.ProofKit
set_option linter.unusedVariables false
set_option autoImplicit false
set_option maxRecDepth 100000
namespace Go.Proofs.YtkfhjobebhdpoaaGreat
theorem rjfC12 : (Rows.streamClocksRow.recurses == Tryz.prog.recurses 5) = true := by kernel_rfl
theorem rjfC13 : (Rows.streamClocksRow.named == Tryz.prog.varsNamed 5) = true := by kernel_rfl
end Go.Proofs.YtkfhjobebhdpoaaGreat

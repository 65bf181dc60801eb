/- Stream: closed facts of a row, one by one. -/
import Derived.Test.YtkfhjobebhdpoaaGreatRows
import Derived.WalkKit
import Derived.ProofKit
set_option linter.unusedVariables false
set_option autoImplicit false
set_option maxRecDepth 100000
namespace Go.Proofs.YtkfhjobebhdpoaaGreat
theorem rjfD12 : (Rows.streamDeepRow.recurses == Tryz.prog.recurses 9) = true := by kernel_rfl
theorem rjfD13 : (Rows.streamDeepRow.named == Tryz.prog.varsNamed 9) = true := by kernel_rfl
end Go.Proofs.YtkfhjobebhdpoaaGreat

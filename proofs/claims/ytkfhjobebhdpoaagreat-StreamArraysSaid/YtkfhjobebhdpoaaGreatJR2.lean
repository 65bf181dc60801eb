/- Stream: closed facts of a row, one by one. -/
import Derived.Test.YtkfhjobebhdpoaaGreatRows
import Derived.WalkKit
import Derived.ProofKit
set_option linter.unusedVariables false
set_option linter.unusedSimpArgs false
set_option autoImplicit false
set_option maxRecDepth 100000
namespace Go.Proofs.YtkfhjobebhdpoaaGreat
theorem rjfR12 : (Rows.streamArraysRow.recurses == Tryz.prog.recurses 7) = true := by kernel_rfl
theorem rjfR13 : (Rows.streamArraysRow.named == Tryz.prog.varsNamed 7) = true := by kernel_rfl
end Go.Proofs.YtkfhjobebhdpoaaGreat

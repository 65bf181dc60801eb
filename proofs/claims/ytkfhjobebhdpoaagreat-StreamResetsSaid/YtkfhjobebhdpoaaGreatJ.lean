/- Stream: the closed facts of a row. -/
import Derived.Test.YtkfhjobebhdpoaaGreatJ0
import Derived.Test.YtkfhjobebhdpoaaGreatJ1
import Derived.Test.YtkfhjobebhdpoaaGreatJ2
import Derived.Test.YtkfhjobebhdpoaaGreatJ3
set_option linter.unusedVariables false
set_option autoImplicit false
set_option maxRecDepth 100000
namespace Go.Proofs.YtkfhjobebhdpoaaGreat
theorem rjf : joinedFacts Tryz.prog 4 Tryz.f4 Rows.streamResetsSpec Rows.streamResetsRow = true := by
  unfold joinedFacts
  simp only [Bool.and_eq_true]
  exact ⟨⟨⟨⟨⟨⟨⟨⟨⟨⟨⟨⟨⟨⟨⟨⟨⟨⟨⟨⟨⟨⟨⟨⟨⟨⟨⟨⟨⟨⟨⟨rjf1, rjf2⟩, rjf3⟩, rjf4⟩, rjf5⟩, rjf6⟩, rjf7⟩, rjf8⟩, rjf9⟩, rjf10⟩, rjf11⟩, rjf12⟩, rjf13⟩, rjf14⟩, rjf15⟩, rjf16⟩, rjf17⟩, rjf18⟩, rjf19⟩, rjf20⟩, rjf21⟩, rjf22⟩, rjf23⟩, rjf24⟩, rjf25⟩, rjf26⟩, rjf27⟩, rjf28⟩, rjf29⟩, rjf30⟩, rjf31⟩, rjf32⟩
end Go.Proofs.YtkfhjobebhdpoaaGreat

/- Stream: the closed facts of a row. -/
import Derived.Test.YtkfhjobebhdpoaaGreatJO0
import Derived.Test.YtkfhjobebhdpoaaGreatJO1
import Derived.Test.YtkfhjobebhdpoaaGreatJO2
import Derived.Test.YtkfhjobebhdpoaaGreatJO3
set_option linter.unusedVariables false
set_option autoImplicit false
set_option maxRecDepth 100000
namespace Go.Proofs.YtkfhjobebhdpoaaGreat
theorem rjfO : joinedFacts Tryz.prog 11 Tryz.f11 Rows.streamBothSpec Rows.streamBothRow = true := by
  unfold joinedFacts
  simp only [Bool.and_eq_true]
  exact ⟨⟨⟨⟨⟨⟨⟨⟨⟨⟨⟨⟨⟨⟨⟨⟨⟨⟨⟨⟨⟨⟨⟨⟨⟨⟨⟨⟨⟨⟨⟨rjfO1, rjfO2⟩, rjfO3⟩, rjfO4⟩, rjfO5⟩, rjfO6⟩, rjfO7⟩, rjfO8⟩, rjfO9⟩, rjfO10⟩, rjfO11⟩, rjfO12⟩, rjfO13⟩, rjfO14⟩, rjfO15⟩, rjfO16⟩, rjfO17⟩, rjfO18⟩, rjfO19⟩, rjfO20⟩, rjfO21⟩, rjfO22⟩, rjfO23⟩, rjfO24⟩, rjfO25⟩, rjfO26⟩, rjfO27⟩, rjfO28⟩, rjfO29⟩, rjfO30⟩, rjfO31⟩, rjfO32⟩
end Go.Proofs.YtkfhjobebhdpoaaGreat

/- Stream: the closed facts of a row. -/
import Derived.Test.YtkfhjobebhdpoaaGreatJA0
import Derived.Test.YtkfhjobebhdpoaaGreatJA1
import Derived.Test.YtkfhjobebhdpoaaGreatJA2
import Derived.Test.YtkfhjobebhdpoaaGreatJA3
set_option linter.unusedVariables false
set_option autoImplicit false
set_option maxRecDepth 100000
namespace Go.Proofs.YtkfhjobebhdpoaaGreat
theorem rjfA : joinedFacts Tryz.prog 6 Tryz.f6 Rows.streamAutomataSpec Rows.streamAutomataRow = true := by
  unfold joinedFacts
  simp only [Bool.and_eq_true]
  exact ⟨⟨⟨⟨⟨⟨⟨⟨⟨⟨⟨⟨⟨⟨⟨⟨⟨⟨⟨⟨⟨⟨⟨⟨⟨⟨⟨⟨⟨⟨⟨rjfA1, rjfA2⟩, rjfA3⟩, rjfA4⟩, rjfA5⟩, rjfA6⟩, rjfA7⟩, rjfA8⟩, rjfA9⟩, rjfA10⟩, rjfA11⟩, rjfA12⟩, rjfA13⟩, rjfA14⟩, rjfA15⟩, rjfA16⟩, rjfA17⟩, rjfA18⟩, rjfA19⟩, rjfA20⟩, rjfA21⟩, rjfA22⟩, rjfA23⟩, rjfA24⟩, rjfA25⟩, rjfA26⟩, rjfA27⟩, rjfA28⟩, rjfA29⟩, rjfA30⟩, rjfA31⟩, rjfA32⟩
end Go.Proofs.YtkfhjobebhdpoaaGreat

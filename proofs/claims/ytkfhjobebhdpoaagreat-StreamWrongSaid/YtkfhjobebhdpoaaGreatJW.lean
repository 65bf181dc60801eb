/- Stream: the closed facts of a row. -/
import Derived.Test.YtkfhjobebhdpoaaGreatJW0
import Derived.Test.YtkfhjobebhdpoaaGreatJW1
import Derived.Test.YtkfhjobebhdpoaaGreatJW2
import Derived.Test.YtkfhjobebhdpoaaGreatJW3
set_option linter.unusedVariables false
set_option autoImplicit false
set_option maxRecDepth 100000
namespace Go.Proofs.YtkfhjobebhdpoaaGreat
theorem rjfW : joinedFacts Tryz.prog 8 Tryz.f8 Rows.streamWrongSpec Rows.streamWrongRow = true := by
  unfold joinedFacts
  simp only [Bool.and_eq_true]
  exact ⟨⟨⟨⟨⟨⟨⟨⟨⟨⟨⟨⟨⟨⟨⟨⟨⟨⟨⟨⟨⟨⟨⟨⟨⟨⟨⟨⟨⟨⟨⟨rjfW1, rjfW2⟩, rjfW3⟩, rjfW4⟩, rjfW5⟩, rjfW6⟩, rjfW7⟩, rjfW8⟩, rjfW9⟩, rjfW10⟩, rjfW11⟩, rjfW12⟩, rjfW13⟩, rjfW14⟩, rjfW15⟩, rjfW16⟩, rjfW17⟩, rjfW18⟩, rjfW19⟩, rjfW20⟩, rjfW21⟩, rjfW22⟩, rjfW23⟩, rjfW24⟩, rjfW25⟩, rjfW26⟩, rjfW27⟩, rjfW28⟩, rjfW29⟩, rjfW30⟩, rjfW31⟩, rjfW32⟩
end Go.Proofs.YtkfhjobebhdpoaaGreat

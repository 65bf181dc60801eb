/- Stream: the closed facts of a row. -/
import Derived.Test.YtkfhjobebhdpoaaGreatJC0
import Derived.Test.YtkfhjobebhdpoaaGreatJC1
import Derived.Test.YtkfhjobebhdpoaaGreatJC2
import Derived.Test.YtkfhjobebhdpoaaGreatJC3
set_option linter.unusedVariables false
set_option autoImplicit false
set_option maxRecDepth 100000
namespace Go.Proofs.YtkfhjobebhdpoaaGreat
theorem rjfC : joinedFacts Tryz.prog 5 Tryz.f5 Rows.streamClocksSpec Rows.streamClocksRow = true := by
  unfold joinedFacts
  simp only [Bool.and_eq_true]
  exact ⟨⟨⟨⟨⟨⟨⟨⟨⟨⟨⟨⟨⟨⟨⟨⟨⟨⟨⟨⟨⟨⟨⟨⟨⟨⟨⟨⟨⟨⟨⟨rjfC1, rjfC2⟩, rjfC3⟩, rjfC4⟩, rjfC5⟩, rjfC6⟩, rjfC7⟩, rjfC8⟩, rjfC9⟩, rjfC10⟩, rjfC11⟩, rjfC12⟩, rjfC13⟩, rjfC14⟩, rjfC15⟩, rjfC16⟩, rjfC17⟩, rjfC18⟩, rjfC19⟩, rjfC20⟩, rjfC21⟩, rjfC22⟩, rjfC23⟩, rjfC24⟩, rjfC25⟩, rjfC26⟩, rjfC27⟩, rjfC28⟩, rjfC29⟩, rjfC30⟩, rjfC31⟩, rjfC32⟩
end Go.Proofs.YtkfhjobebhdpoaaGreat

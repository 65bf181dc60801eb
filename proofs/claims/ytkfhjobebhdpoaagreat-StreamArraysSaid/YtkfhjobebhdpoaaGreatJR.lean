/- Stream: the closed facts of a row. -/
import Derived.Test.YtkfhjobebhdpoaaGreatJR0
import Derived.Test.YtkfhjobebhdpoaaGreatJR1
import Derived.Test.YtkfhjobebhdpoaaGreatJR2
import Derived.Test.YtkfhjobebhdpoaaGreatJR3
set_option linter.unusedVariables false
set_option linter.unusedSimpArgs false
set_option autoImplicit false
set_option maxRecDepth 100000
namespace Go.Proofs.YtkfhjobebhdpoaaGreat
theorem rjfR : joinedFacts Tryz.prog 7 Tryz.f7 Rows.streamArraysSpec Rows.streamArraysRow = true := by
  unfold joinedFacts
  simp only [Bool.and_eq_true]
  exact ⟨⟨⟨⟨⟨⟨⟨⟨⟨⟨⟨⟨⟨⟨⟨⟨⟨⟨⟨⟨⟨⟨⟨⟨⟨⟨⟨⟨⟨⟨⟨rjfR1, rjfR2⟩, rjfR3⟩, rjfR4⟩, rjfR5⟩, rjfR6⟩, rjfR7⟩, rjfR8⟩, rjfR9⟩, rjfR10⟩, rjfR11⟩, rjfR12⟩, rjfR13⟩, rjfR14⟩, rjfR15⟩, rjfR16⟩, rjfR17⟩, rjfR18⟩, rjfR19⟩, rjfR20⟩, rjfR21⟩, rjfR22⟩, rjfR23⟩, rjfR24⟩, rjfR25⟩, rjfR26⟩, rjfR27⟩, rjfR28⟩, rjfR29⟩, rjfR30⟩, rjfR31⟩, rjfR32⟩
end Go.Proofs.YtkfhjobebhdpoaaGreat

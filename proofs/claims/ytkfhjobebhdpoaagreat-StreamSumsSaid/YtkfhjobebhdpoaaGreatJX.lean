/- Stream: the closed facts of a row. -/
import Derived.Test.YtkfhjobebhdpoaaGreatJX0
import Derived.Test.YtkfhjobebhdpoaaGreatJX1
import Derived.Test.YtkfhjobebhdpoaaGreatJX2
import Derived.Test.YtkfhjobebhdpoaaGreatJX3
set_option linter.unusedVariables false
set_option autoImplicit false
set_option maxRecDepth 100000
namespace Go.Proofs.YtkfhjobebhdpoaaGreat
theorem rjfX : joinedFacts Tryz.prog 3 Tryz.f3 Rows.streamSumsSpec Rows.streamSumsRow = true := by
  unfold joinedFacts
  simp only [Bool.and_eq_true]
  exact ⟨⟨⟨⟨⟨⟨⟨⟨⟨⟨⟨⟨⟨⟨⟨⟨⟨⟨⟨⟨⟨⟨⟨⟨⟨⟨⟨⟨⟨⟨⟨rjfX1, rjfX2⟩, rjfX3⟩, rjfX4⟩, rjfX5⟩, rjfX6⟩, rjfX7⟩, rjfX8⟩, rjfX9⟩, rjfX10⟩, rjfX11⟩, rjfX12⟩, rjfX13⟩, rjfX14⟩, rjfX15⟩, rjfX16⟩, rjfX17⟩, rjfX18⟩, rjfX19⟩, rjfX20⟩, rjfX21⟩, rjfX22⟩, rjfX23⟩, rjfX24⟩, rjfX25⟩, rjfX26⟩, rjfX27⟩, rjfX28⟩, rjfX29⟩, rjfX30⟩, rjfX31⟩, rjfX32⟩
end Go.Proofs.YtkfhjobebhdpoaaGreat

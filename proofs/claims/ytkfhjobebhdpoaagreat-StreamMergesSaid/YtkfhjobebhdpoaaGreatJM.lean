/- Stream: the closed facts of a row. -/
import Derived.Test.YtkfhjobebhdpoaaGreatJM0
import Derived.Test.YtkfhjobebhdpoaaGreatJM1
import Derived.Test.YtkfhjobebhdpoaaGreatJM2
import Derived.Test.YtkfhjobebhdpoaaGreatJM3
set_option linter.unusedVariables false
set_option autoImplicit false
set_option maxRecDepth 100000
namespace Go.Proofs.YtkfhjobebhdpoaaGreat
theorem rjfM : joinedFacts Tryz.prog 10 Tryz.f10 Rows.streamMergesSpec Rows.streamMergesRow = true := by
  unfold joinedFacts
  simp only [Bool.and_eq_true]
  exact ⟨⟨⟨⟨⟨⟨⟨⟨⟨⟨⟨⟨⟨⟨⟨⟨⟨⟨⟨⟨⟨⟨⟨⟨⟨⟨⟨⟨⟨⟨⟨rjfM1, rjfM2⟩, rjfM3⟩, rjfM4⟩, rjfM5⟩, rjfM6⟩, rjfM7⟩, rjfM8⟩, rjfM9⟩, rjfM10⟩, rjfM11⟩, rjfM12⟩, rjfM13⟩, rjfM14⟩, rjfM15⟩, rjfM16⟩, rjfM17⟩, rjfM18⟩, rjfM19⟩, rjfM20⟩, rjfM21⟩, rjfM22⟩, rjfM23⟩, rjfM24⟩, rjfM25⟩, rjfM26⟩, rjfM27⟩, rjfM28⟩, rjfM29⟩, rjfM30⟩, rjfM31⟩, rjfM32⟩
end Go.Proofs.YtkfhjobebhdpoaaGreat

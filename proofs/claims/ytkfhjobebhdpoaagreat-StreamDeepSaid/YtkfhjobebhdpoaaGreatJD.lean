/- Stream: the closed facts of a row. -/
import Derived.Test.YtkfhjobebhdpoaaGreatJD0
import Derived.Test.YtkfhjobebhdpoaaGreatJD1
import Derived.Test.YtkfhjobebhdpoaaGreatJD2
import Derived.Test.YtkfhjobebhdpoaaGreatJD3
set_option linter.unusedVariables false
set_option autoImplicit false
set_option maxRecDepth 100000
namespace Go.Proofs.YtkfhjobebhdpoaaGreat
theorem rjfD : joinedFacts Tryz.prog 9 Tryz.f9 Rows.streamDeepSpec Rows.streamDeepRow = true := by
  unfold joinedFacts
  simp only [Bool.and_eq_true]
  exact ⟨⟨⟨⟨⟨⟨⟨⟨⟨⟨⟨⟨⟨⟨⟨⟨⟨⟨⟨⟨⟨⟨⟨⟨⟨⟨⟨⟨⟨⟨⟨rjfD1, rjfD2⟩, rjfD3⟩, rjfD4⟩, rjfD5⟩, rjfD6⟩, rjfD7⟩, rjfD8⟩, rjfD9⟩, rjfD10⟩, rjfD11⟩, rjfD12⟩, rjfD13⟩, rjfD14⟩, rjfD15⟩, rjfD16⟩, rjfD17⟩, rjfD18⟩, rjfD19⟩, rjfD20⟩, rjfD21⟩, rjfD22⟩, rjfD23⟩, rjfD24⟩, rjfD25⟩, rjfD26⟩, rjfD27⟩, rjfD28⟩, rjfD29⟩, rjfD30⟩, rjfD31⟩, rjfD32⟩
end Go.Proofs.YtkfhjobebhdpoaaGreat

/- LexSigns: all runs. -/
import Derived.Test.YtoeoaiipchklbaaDoorQ0
import Derived.Test.YtoeoaiipchklbaaDoorQ1
import Derived.Test.YtoeoaiipchklbaaDoorQ2
import Derived.Test.YtoeoaiipchklbaaDoorQ3
import Derived.Test.YtoeoaiipchklbaaDoorQ4
import Derived.Test.YtoeoaiipchklbaaDoorQ5
set_option linter.unusedVariables false
set_option autoImplicit false
set_option linter.unusedVariables false
set_option maxRecDepth 1000000
set_option maxHeartbeats 1000000
namespace Go.Proofs.YtoeoaiipchklbaaDoor
noncomputable section
open Go.X
theorem signs_all (e : TypeId) (i j : Int) : Ran (signs e i j) :=
  each23 (p := fun i => Ran (signs e i j)) (fun k => ran_of (signsN e k j)) (fun k => ran_of (signsB e k j)) (signs0 e j) (signs1 e j) (signs2 e j) (signs3 e j) (signs4 e j) (signs5 e j) (signs6 e j) (signs7 e j) (signs8 e j) (signs9 e j) (signs10 e j) (signs11 e j) (signs12 e j) (signs13 e j) (signs14 e j) (signs15 e j) (signs16 e j) (signs17 e j) (signs18 e j) (signs19 e j) (signs20 e j) (signs21 e j) (signs22 e j) i
end
end Go.Proofs.YtoeoaiipchklbaaDoor

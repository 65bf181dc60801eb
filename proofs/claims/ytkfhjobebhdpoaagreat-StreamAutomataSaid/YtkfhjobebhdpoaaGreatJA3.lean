/- Stream: closed facts of a row, one by one. -/
import Derived.Test.YtkfhjobebhdpoaaGreatRows
import Derived.WalkKit
import Derived.ProofKit
set_option linter.unusedVariables false
set_option autoImplicit false
set_option maxRecDepth 100000
namespace Go.Proofs.YtkfhjobebhdpoaaGreat
theorem rjfA14 : (Rows.streamAutomataRow.maps == (Tryz.f6.params.toList ++ Rows.streamAutomataSpec.plain.varTypes Tryz.prog).any (Tryz.prog.mapsRec ·)) = true := by kernel_rfl
theorem rjfA15 : (Rows.streamAutomataRow.ifaces == (Tryz.f6.params.toList ++ Rows.streamAutomataSpec.plain.varTypes Tryz.prog).any (Tryz.prog.ifacesRec ·)) = true := by kernel_rfl
theorem rjfA16 : (Rows.streamAutomataRow.mapsOut == Tryz.prog.mapsAmong Tryz.f6.resultTypes.toList) = true := by kernel_rfl
theorem rjfA17 : (Rows.streamAutomataRow.loops == (Tryz.f6.params.toList ++ Rows.streamAutomataSpec.plain.varTypes Tryz.prog).any (Tryz.prog.loopsFrom ·)) = true := by kernel_rfl
theorem rjfA18 : (Rows.streamAutomataRow.wideKeys == (Tryz.f6.params.toList ++ Rows.streamAutomataSpec.plain.varTypes Tryz.prog ++ Tryz.f6.resultTypes.toList).any (Tryz.prog.wideKeysFrom ·)) = true := by kernel_rfl
theorem rjfA19 : (Rows.streamAutomataSpec.vars.all (Tryz.prog.varReadable ·)) = true := by kernel_rfl
theorem rjfA20 : (Tryz.f6.resultTypes.all (fun t => Tryz.prog.readableRec t && decide (t < Tryz.prog.types.size))) = true := by kernel_rfl
theorem rjfA21 : (Rows.streamAutomataRow.ifacesOut == Tryz.f6.resultTypes.toList.any (Tryz.prog.ifacesRec ·)) = true := by kernel_rfl
theorem rjfA22 : (Rows.streamAutomataRow.loopsOut == Tryz.f6.resultTypes.toList.any (Tryz.prog.loopsFrom ·)) = true := by kernel_rfl
theorem rjfA23 : (Rows.streamAutomataRow.plainKeys == Tryz.prog.plainKeys) = true := by kernel_rfl
theorem rjfA24 : (Rows.streamAutomataRow.shortTexts.isNone) = true := by kernel_rfl
theorem rjfA25 : (Tryz.prog.stopsHeard) = true := by kernel_rfl
theorem rjfA26 : (Tryz.prog.mayEnter) = true := by kernel_rfl
theorem rjfA27 : (Rows.streamAutomataRow.lifted == Tryz.prog.liftsFinal) = true := by kernel_rfl
theorem rjfA28 : (Tryz.prog.make == some Rows.streamAutomataRow.make) = true := by kernel_rfl
theorem rjfA29 : (Rows.streamAutomataRow.kinds == (if Rows.streamAutomataRow.domain.isEmpty then [] else Tryz.f6.params.toList.map fun t => match Tryz.prog.underlying t with | some (.int k) => some k | _ => none)) = true := by kernel_rfl
theorem rjfA30 : (Rows.streamAutomataRow.pinned == Rows.streamAutomataRow.pinnedBy) = true := by kernel_rfl
theorem rjfA31 : (Rows.streamAutomataRow.veiled == (Tryz.f6.params.toList ++ Rows.streamAutomataSpec.plain.varTypes Tryz.prog ++ Tryz.f6.resultTypes.toList).any (Tryz.prog.veiledRec ·)) = true := by kernel_rfl
theorem rjfA32 : (Rows.streamAutomataRow.veiledFits Tryz.prog Tryz.f6.params.toList (Tryz.f6.params.toList ++ Rows.streamAutomataSpec.plain.varTypes Tryz.prog ++ Tryz.f6.resultTypes.toList)) = true := by kernel_rfl
end Go.Proofs.YtkfhjobebhdpoaaGreat

/- Stream: closed facts of a row, one by one. -/
import Derived.Test.YtkfhjobebhdpoaaGreatRows
import Derived.WalkKit
import Derived.ProofKit
set_option linter.unusedVariables false
set_option autoImplicit false
set_option maxRecDepth 100000
namespace Go.Proofs.YtkfhjobebhdpoaaGreat
theorem rjfW14 : (Rows.streamWrongRow.maps == (Tryz.f8.params.toList ++ Rows.streamWrongSpec.plain.varTypes Tryz.prog).any (Tryz.prog.mapsRec ·)) = true := by kernel_rfl
theorem rjfW15 : (Rows.streamWrongRow.ifaces == (Tryz.f8.params.toList ++ Rows.streamWrongSpec.plain.varTypes Tryz.prog).any (Tryz.prog.ifacesRec ·)) = true := by kernel_rfl
theorem rjfW16 : (Rows.streamWrongRow.mapsOut == Tryz.prog.mapsAmong Tryz.f8.resultTypes.toList) = true := by kernel_rfl
theorem rjfW17 : (Rows.streamWrongRow.loops == (Tryz.f8.params.toList ++ Rows.streamWrongSpec.plain.varTypes Tryz.prog).any (Tryz.prog.loopsFrom ·)) = true := by kernel_rfl
theorem rjfW18 : (Rows.streamWrongRow.wideKeys == (Tryz.f8.params.toList ++ Rows.streamWrongSpec.plain.varTypes Tryz.prog ++ Tryz.f8.resultTypes.toList).any (Tryz.prog.wideKeysFrom ·)) = true := by kernel_rfl
theorem rjfW19 : (Rows.streamWrongSpec.vars.all (Tryz.prog.varReadable ·)) = true := by kernel_rfl
theorem rjfW20 : (Tryz.f8.resultTypes.all (fun t => Tryz.prog.readableRec t && decide (t < Tryz.prog.types.size))) = true := by kernel_rfl
theorem rjfW21 : (Rows.streamWrongRow.ifacesOut == Tryz.f8.resultTypes.toList.any (Tryz.prog.ifacesRec ·)) = true := by kernel_rfl
theorem rjfW22 : (Rows.streamWrongRow.loopsOut == Tryz.f8.resultTypes.toList.any (Tryz.prog.loopsFrom ·)) = true := by kernel_rfl
theorem rjfW23 : (Rows.streamWrongRow.plainKeys == Tryz.prog.plainKeys) = true := by kernel_rfl
theorem rjfW24 : (Rows.streamWrongRow.shortTexts.isNone) = true := by kernel_rfl
theorem rjfW25 : (Tryz.prog.stopsHeard) = true := by kernel_rfl
theorem rjfW26 : (Tryz.prog.mayEnter) = true := by kernel_rfl
theorem rjfW27 : (Rows.streamWrongRow.lifted == Tryz.prog.liftsFinal) = true := by kernel_rfl
theorem rjfW28 : (Tryz.prog.make == some Rows.streamWrongRow.make) = true := by kernel_rfl
theorem rjfW29 : (Rows.streamWrongRow.kinds == (if Rows.streamWrongRow.domain.isEmpty then [] else Tryz.f8.params.toList.map fun t => match Tryz.prog.underlying t with | some (.int k) => some k | _ => none)) = true := by kernel_rfl
theorem rjfW30 : (Rows.streamWrongRow.pinned == Rows.streamWrongRow.pinnedBy) = true := by kernel_rfl
theorem rjfW31 : (Rows.streamWrongRow.veiled == (Tryz.f8.params.toList ++ Rows.streamWrongSpec.plain.varTypes Tryz.prog ++ Tryz.f8.resultTypes.toList).any (Tryz.prog.veiledRec ·)) = true := by kernel_rfl
theorem rjfW32 : (Rows.streamWrongRow.veiledFits Tryz.prog Tryz.f8.params.toList (Tryz.f8.params.toList ++ Rows.streamWrongSpec.plain.varTypes Tryz.prog ++ Tryz.f8.resultTypes.toList)) = true := by kernel_rfl
end Go.Proofs.YtkfhjobebhdpoaaGreat

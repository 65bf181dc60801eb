/- Stream: closed facts of a row, one by one. -/
import Derived.Test.YtkfhjobebhdpoaaGreatRows
import Derived.WalkKit
import Derived.ProofKit
set_option linter.unusedVariables false
set_option autoImplicit false
set_option maxRecDepth 100000
namespace Go.Proofs.YtkfhjobebhdpoaaGreat
theorem rjf14 : (Rows.streamResetsRow.maps == (Tryz.f4.params.toList ++ Rows.streamResetsSpec.plain.varTypes Tryz.prog).any (Tryz.prog.mapsRec ·)) = true := by kernel_rfl
theorem rjf15 : (Rows.streamResetsRow.ifaces == (Tryz.f4.params.toList ++ Rows.streamResetsSpec.plain.varTypes Tryz.prog).any (Tryz.prog.ifacesRec ·)) = true := by kernel_rfl
theorem rjf16 : (Rows.streamResetsRow.mapsOut == Tryz.prog.mapsAmong Tryz.f4.resultTypes.toList) = true := by kernel_rfl
theorem rjf17 : (Rows.streamResetsRow.loops == (Tryz.f4.params.toList ++ Rows.streamResetsSpec.plain.varTypes Tryz.prog).any (Tryz.prog.loopsFrom ·)) = true := by kernel_rfl
theorem rjf18 : (Rows.streamResetsRow.wideKeys == (Tryz.f4.params.toList ++ Rows.streamResetsSpec.plain.varTypes Tryz.prog ++ Tryz.f4.resultTypes.toList).any (Tryz.prog.wideKeysFrom ·)) = true := by kernel_rfl
theorem rjf19 : (Rows.streamResetsSpec.vars.all (Tryz.prog.varReadable ·)) = true := by kernel_rfl
theorem rjf20 : (Tryz.f4.resultTypes.all (fun t => Tryz.prog.readableRec t && decide (t < Tryz.prog.types.size))) = true := by kernel_rfl
theorem rjf21 : (Rows.streamResetsRow.ifacesOut == Tryz.f4.resultTypes.toList.any (Tryz.prog.ifacesRec ·)) = true := by kernel_rfl
theorem rjf22 : (Rows.streamResetsRow.loopsOut == Tryz.f4.resultTypes.toList.any (Tryz.prog.loopsFrom ·)) = true := by kernel_rfl
theorem rjf23 : (Rows.streamResetsRow.plainKeys == Tryz.prog.plainKeys) = true := by kernel_rfl
theorem rjf24 : (Rows.streamResetsRow.shortTexts.isNone) = true := by kernel_rfl
theorem rjf25 : (Tryz.prog.stopsHeard) = true := by kernel_rfl
theorem rjf26 : (Tryz.prog.mayEnter) = true := by kernel_rfl
theorem rjf27 : (Rows.streamResetsRow.lifted == Tryz.prog.liftsFinal) = true := by kernel_rfl
theorem rjf28 : (Tryz.prog.make == some Rows.streamResetsRow.make) = true := by kernel_rfl
theorem rjf29 : (Rows.streamResetsRow.kinds == (if Rows.streamResetsRow.domain.isEmpty then [] else Tryz.f4.params.toList.map fun t => match Tryz.prog.underlying t with | some (.int k) => some k | _ => none)) = true := by kernel_rfl
theorem rjf30 : (Rows.streamResetsRow.pinned == Rows.streamResetsRow.pinnedBy) = true := by kernel_rfl
theorem rjf31 : (Rows.streamResetsRow.veiled == (Tryz.f4.params.toList ++ Rows.streamResetsSpec.plain.varTypes Tryz.prog ++ Tryz.f4.resultTypes.toList).any (Tryz.prog.veiledRec ·)) = true := by kernel_rfl
theorem rjf32 : (Rows.streamResetsRow.veiledFits Tryz.prog Tryz.f4.params.toList (Tryz.f4.params.toList ++ Rows.streamResetsSpec.plain.varTypes Tryz.prog ++ Tryz.f4.resultTypes.toList)) = true := by kernel_rfl
end Go.Proofs.YtkfhjobebhdpoaaGreat

/- Stream: closed facts of a row, one by one. -/
import Derived.Test.YtkfhjobebhdpoaaGreatRows
import Derived.WalkKit
import Derived.ProofKit
set_option linter.unusedVariables false
set_option autoImplicit false
set_option maxRecDepth 100000
namespace Go.Proofs.YtkfhjobebhdpoaaGreat
theorem rjfO14 : (Rows.streamBothRow.maps == (Tryz.f11.params.toList ++ Rows.streamBothSpec.plain.varTypes Tryz.prog).any (Tryz.prog.mapsRec ·)) = true := by kernel_rfl
theorem rjfO15 : (Rows.streamBothRow.ifaces == (Tryz.f11.params.toList ++ Rows.streamBothSpec.plain.varTypes Tryz.prog).any (Tryz.prog.ifacesRec ·)) = true := by kernel_rfl
theorem rjfO16 : (Rows.streamBothRow.mapsOut == Tryz.prog.mapsAmong Tryz.f11.resultTypes.toList) = true := by kernel_rfl
theorem rjfO17 : (Rows.streamBothRow.loops == (Tryz.f11.params.toList ++ Rows.streamBothSpec.plain.varTypes Tryz.prog).any (Tryz.prog.loopsFrom ·)) = true := by kernel_rfl
theorem rjfO18 : (Rows.streamBothRow.wideKeys == (Tryz.f11.params.toList ++ Rows.streamBothSpec.plain.varTypes Tryz.prog ++ Tryz.f11.resultTypes.toList).any (Tryz.prog.wideKeysFrom ·)) = true := by kernel_rfl
theorem rjfO19 : (Rows.streamBothSpec.vars.all (Tryz.prog.varReadable ·)) = true := by kernel_rfl
theorem rjfO20 : (Tryz.f11.resultTypes.all (fun t => Tryz.prog.readableRec t && decide (t < Tryz.prog.types.size))) = true := by kernel_rfl
theorem rjfO21 : (Rows.streamBothRow.ifacesOut == Tryz.f11.resultTypes.toList.any (Tryz.prog.ifacesRec ·)) = true := by kernel_rfl
theorem rjfO22 : (Rows.streamBothRow.loopsOut == Tryz.f11.resultTypes.toList.any (Tryz.prog.loopsFrom ·)) = true := by kernel_rfl
theorem rjfO23 : (Rows.streamBothRow.plainKeys == Tryz.prog.plainKeys) = true := by kernel_rfl
theorem rjfO24 : (Rows.streamBothRow.shortTexts.isNone) = true := by kernel_rfl
theorem rjfO25 : (Tryz.prog.stopsHeard) = true := by kernel_rfl
theorem rjfO26 : (Tryz.prog.mayEnter) = true := by kernel_rfl
theorem rjfO27 : (Rows.streamBothRow.lifted == Tryz.prog.liftsFinal) = true := by kernel_rfl
theorem rjfO28 : (Tryz.prog.make == some Rows.streamBothRow.make) = true := by kernel_rfl
theorem rjfO29 : (Rows.streamBothRow.kinds == (if Rows.streamBothRow.domain.isEmpty then [] else Tryz.f11.params.toList.map fun t => match Tryz.prog.underlying t with | some (.int k) => some k | _ => none)) = true := by kernel_rfl
theorem rjfO30 : (Rows.streamBothRow.pinned == Rows.streamBothRow.pinnedBy) = true := by kernel_rfl
theorem rjfO31 : (Rows.streamBothRow.veiled == (Tryz.f11.params.toList ++ Rows.streamBothSpec.plain.varTypes Tryz.prog ++ Tryz.f11.resultTypes.toList).any (Tryz.prog.veiledRec ·)) = true := by kernel_rfl
theorem rjfO32 : (Rows.streamBothRow.veiledFits Tryz.prog Tryz.f11.params.toList (Tryz.f11.params.toList ++ Rows.streamBothSpec.plain.varTypes Tryz.prog ++ Tryz.f11.resultTypes.toList)) = true := by kernel_rfl
end Go.Proofs.YtkfhjobebhdpoaaGreat

/- Stream: closed facts of a row, one by one. -/
import Derived.Test.YtkfhjobebhdpoaaGreatRows
import Derived.WalkKit
import Derived.ProofKit
set_option linter.unusedVariables false
set_option linter.unusedSimpArgs false
set_option autoImplicit false
set_option maxRecDepth 100000
namespace Go.Proofs.YtkfhjobebhdpoaaGreat
theorem rjfR14 : (Rows.streamArraysRow.maps == (Tryz.f7.params.toList ++ Rows.streamArraysSpec.plain.varTypes Tryz.prog).any (Tryz.prog.mapsRec ·)) = true := by kernel_rfl
theorem rjfR15 : (Rows.streamArraysRow.ifaces == (Tryz.f7.params.toList ++ Rows.streamArraysSpec.plain.varTypes Tryz.prog).any (Tryz.prog.ifacesRec ·)) = true := by kernel_rfl
theorem rjfR16 : (Rows.streamArraysRow.mapsOut == Tryz.prog.mapsAmong Tryz.f7.resultTypes.toList) = true := by kernel_rfl
theorem rjfR17 : (Rows.streamArraysRow.loops == (Tryz.f7.params.toList ++ Rows.streamArraysSpec.plain.varTypes Tryz.prog).any (Tryz.prog.loopsFrom ·)) = true := by kernel_rfl
theorem rjfR18 : (Rows.streamArraysRow.wideKeys == (Tryz.f7.params.toList ++ Rows.streamArraysSpec.plain.varTypes Tryz.prog ++ Tryz.f7.resultTypes.toList).any (Tryz.prog.wideKeysFrom ·)) = true := by kernel_rfl
theorem rjfR19 : (Rows.streamArraysSpec.vars.all (Tryz.prog.varReadable ·)) = true := by kernel_rfl
theorem rjfR20 : (Tryz.f7.resultTypes.all (fun t => Tryz.prog.readableRec t && decide (t < Tryz.prog.types.size))) = true := by kernel_rfl
theorem rjfR21 : (Rows.streamArraysRow.ifacesOut == Tryz.f7.resultTypes.toList.any (Tryz.prog.ifacesRec ·)) = true := by kernel_rfl
theorem rjfR22 : (Rows.streamArraysRow.loopsOut == Tryz.f7.resultTypes.toList.any (Tryz.prog.loopsFrom ·)) = true := by kernel_rfl
theorem rjfR23 : (Rows.streamArraysRow.plainKeys == Tryz.prog.plainKeys) = true := by kernel_rfl
theorem rjfR24 : (Rows.streamArraysRow.shortTexts.isNone) = true := by kernel_rfl
theorem rjfR25 : (Tryz.prog.stopsHeard) = true := by kernel_rfl
theorem rjfR26 : (Tryz.prog.mayEnter) = true := by kernel_rfl
theorem rjfR27 : (Rows.streamArraysRow.lifted == Tryz.prog.liftsFinal) = true := by kernel_rfl
theorem rjfR28 : (Tryz.prog.make == some Rows.streamArraysRow.make) = true := by kernel_rfl
theorem rjfR29 : (Rows.streamArraysRow.kinds == (if Rows.streamArraysRow.domain.isEmpty then [] else Tryz.f7.params.toList.map fun t => match Tryz.prog.underlying t with | some (.int k) => some k | _ => none)) = true := by kernel_rfl
theorem rjfR30 : (Rows.streamArraysRow.pinned == Rows.streamArraysRow.pinnedBy) = true := by kernel_rfl
theorem rjfR31 : (Rows.streamArraysRow.veiled == (Tryz.f7.params.toList ++ Rows.streamArraysSpec.plain.varTypes Tryz.prog ++ Tryz.f7.resultTypes.toList).any (Tryz.prog.veiledRec ·)) = true := by kernel_rfl
theorem rjfR32 : (Rows.streamArraysRow.veiledFits Tryz.prog Tryz.f7.params.toList (Tryz.f7.params.toList ++ Rows.streamArraysSpec.plain.varTypes Tryz.prog ++ Tryz.f7.resultTypes.toList)) = true := by kernel_rfl
end Go.Proofs.YtkfhjobebhdpoaaGreat

/- Stream: closed facts of a row, one by one. -/
import Derived.Test.YtkfhjobebhdpoaaGreatRows
import Derived.WalkKit
import Derived.ProofKit
set_option linter.unusedVariables false
set_option autoImplicit false
set_option maxRecDepth 100000
namespace Go.Proofs.YtkfhjobebhdpoaaGreat
theorem rjfM14 : (Rows.streamMergesRow.maps == (Tryz.f10.params.toList ++ Rows.streamMergesSpec.plain.varTypes Tryz.prog).any (Tryz.prog.mapsRec ·)) = true := by kernel_rfl
theorem rjfM15 : (Rows.streamMergesRow.ifaces == (Tryz.f10.params.toList ++ Rows.streamMergesSpec.plain.varTypes Tryz.prog).any (Tryz.prog.ifacesRec ·)) = true := by kernel_rfl
theorem rjfM16 : (Rows.streamMergesRow.mapsOut == Tryz.prog.mapsAmong Tryz.f10.resultTypes.toList) = true := by kernel_rfl
theorem rjfM17 : (Rows.streamMergesRow.loops == (Tryz.f10.params.toList ++ Rows.streamMergesSpec.plain.varTypes Tryz.prog).any (Tryz.prog.loopsFrom ·)) = true := by kernel_rfl
theorem rjfM18 : (Rows.streamMergesRow.wideKeys == (Tryz.f10.params.toList ++ Rows.streamMergesSpec.plain.varTypes Tryz.prog ++ Tryz.f10.resultTypes.toList).any (Tryz.prog.wideKeysFrom ·)) = true := by kernel_rfl
theorem rjfM19 : (Rows.streamMergesSpec.vars.all (Tryz.prog.varReadable ·)) = true := by kernel_rfl
theorem rjfM20 : (Tryz.f10.resultTypes.all (fun t => Tryz.prog.readableRec t && decide (t < Tryz.prog.types.size))) = true := by kernel_rfl
theorem rjfM21 : (Rows.streamMergesRow.ifacesOut == Tryz.f10.resultTypes.toList.any (Tryz.prog.ifacesRec ·)) = true := by kernel_rfl
theorem rjfM22 : (Rows.streamMergesRow.loopsOut == Tryz.f10.resultTypes.toList.any (Tryz.prog.loopsFrom ·)) = true := by kernel_rfl
theorem rjfM23 : (Rows.streamMergesRow.plainKeys == Tryz.prog.plainKeys) = true := by kernel_rfl
theorem rjfM24 : (Rows.streamMergesRow.shortTexts.isNone) = true := by kernel_rfl
theorem rjfM25 : (Tryz.prog.stopsHeard) = true := by kernel_rfl
theorem rjfM26 : (Tryz.prog.mayEnter) = true := by kernel_rfl
theorem rjfM27 : (Rows.streamMergesRow.lifted == Tryz.prog.liftsFinal) = true := by kernel_rfl
theorem rjfM28 : (Tryz.prog.make == some Rows.streamMergesRow.make) = true := by kernel_rfl
theorem rjfM29 : (Rows.streamMergesRow.kinds == (if Rows.streamMergesRow.domain.isEmpty then [] else Tryz.f10.params.toList.map fun t => match Tryz.prog.underlying t with | some (.int k) => some k | _ => none)) = true := by kernel_rfl
theorem rjfM30 : (Rows.streamMergesRow.pinned == Rows.streamMergesRow.pinnedBy) = true := by kernel_rfl
theorem rjfM31 : (Rows.streamMergesRow.veiled == (Tryz.f10.params.toList ++ Rows.streamMergesSpec.plain.varTypes Tryz.prog ++ Tryz.f10.resultTypes.toList).any (Tryz.prog.veiledRec ·)) = true := by kernel_rfl
theorem rjfM32 : (Rows.streamMergesRow.veiledFits Tryz.prog Tryz.f10.params.toList (Tryz.f10.params.toList ++ Rows.streamMergesSpec.plain.varTypes Tryz.prog ++ Tryz.f10.resultTypes.toList)) = true := by kernel_rfl
end Go.Proofs.YtkfhjobebhdpoaaGreat

/- Stream: closed facts of a row, one by one. -/
import Derived.Test.YtkfhjobebhdpoaaGreatRows
import Derived.WalkKit
import Derived.ProofKit
set_option linter.unusedVariables false
set_option autoImplicit false
set_option maxRecDepth 100000
namespace Go.Proofs.YtkfhjobebhdpoaaGreat
theorem rjfC14 : (Rows.streamClocksRow.maps == (Tryz.f5.params.toList ++ Rows.streamClocksSpec.plain.varTypes Tryz.prog).any (Tryz.prog.mapsRec ·)) = true := by kernel_rfl
theorem rjfC15 : (Rows.streamClocksRow.ifaces == (Tryz.f5.params.toList ++ Rows.streamClocksSpec.plain.varTypes Tryz.prog).any (Tryz.prog.ifacesRec ·)) = true := by kernel_rfl
theorem rjfC16 : (Rows.streamClocksRow.mapsOut == Tryz.prog.mapsAmong Tryz.f5.resultTypes.toList) = true := by kernel_rfl
theorem rjfC17 : (Rows.streamClocksRow.loops == (Tryz.f5.params.toList ++ Rows.streamClocksSpec.plain.varTypes Tryz.prog).any (Tryz.prog.loopsFrom ·)) = true := by kernel_rfl
theorem rjfC18 : (Rows.streamClocksRow.wideKeys == (Tryz.f5.params.toList ++ Rows.streamClocksSpec.plain.varTypes Tryz.prog ++ Tryz.f5.resultTypes.toList).any (Tryz.prog.wideKeysFrom ·)) = true := by kernel_rfl
theorem rjfC19 : (Rows.streamClocksSpec.vars.all (Tryz.prog.varReadable ·)) = true := by kernel_rfl
theorem rjfC20 : (Tryz.f5.resultTypes.all (fun t => Tryz.prog.readableRec t && decide (t < Tryz.prog.types.size))) = true := by kernel_rfl
theorem rjfC21 : (Rows.streamClocksRow.ifacesOut == Tryz.f5.resultTypes.toList.any (Tryz.prog.ifacesRec ·)) = true := by kernel_rfl
theorem rjfC22 : (Rows.streamClocksRow.loopsOut == Tryz.f5.resultTypes.toList.any (Tryz.prog.loopsFrom ·)) = true := by kernel_rfl
theorem rjfC23 : (Rows.streamClocksRow.plainKeys == Tryz.prog.plainKeys) = true := by kernel_rfl
theorem rjfC24 : (Rows.streamClocksRow.shortTexts.isNone) = true := by kernel_rfl
theorem rjfC25 : (Tryz.prog.stopsHeard) = true := by kernel_rfl
theorem rjfC26 : (Tryz.prog.mayEnter) = true := by kernel_rfl
theorem rjfC27 : (Rows.streamClocksRow.lifted == Tryz.prog.liftsFinal) = true := by kernel_rfl
theorem rjfC28 : (Tryz.prog.make == some Rows.streamClocksRow.make) = true := by kernel_rfl
theorem rjfC29 : (Rows.streamClocksRow.kinds == (if Rows.streamClocksRow.domain.isEmpty then [] else Tryz.f5.params.toList.map fun t => match Tryz.prog.underlying t with | some (.int k) => some k | _ => none)) = true := by kernel_rfl
theorem rjfC30 : (Rows.streamClocksRow.pinned == Rows.streamClocksRow.pinnedBy) = true := by kernel_rfl
theorem rjfC31 : (Rows.streamClocksRow.veiled == (Tryz.f5.params.toList ++ Rows.streamClocksSpec.plain.varTypes Tryz.prog ++ Tryz.f5.resultTypes.toList).any (Tryz.prog.veiledRec ·)) = true := by kernel_rfl
theorem rjfC32 : (Rows.streamClocksRow.veiledFits Tryz.prog Tryz.f5.params.toList (Tryz.f5.params.toList ++ Rows.streamClocksSpec.plain.varTypes Tryz.prog ++ Tryz.f5.resultTypes.toList)) = true := by kernel_rfl
end Go.Proofs.YtkfhjobebhdpoaaGreat

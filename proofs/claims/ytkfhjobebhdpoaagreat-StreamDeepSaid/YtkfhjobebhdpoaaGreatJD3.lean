/- Stream: closed facts of a row, one by one. -/
import Derived.Test.YtkfhjobebhdpoaaGreatRows
import Derived.WalkKit
import Derived.ProofKit
set_option linter.unusedVariables false
set_option autoImplicit false
set_option maxRecDepth 100000
namespace Go.Proofs.YtkfhjobebhdpoaaGreat
theorem rjfD14 : (Rows.streamDeepRow.maps == (Tryz.f9.params.toList ++ Rows.streamDeepSpec.plain.varTypes Tryz.prog).any (Tryz.prog.mapsRec ·)) = true := by kernel_rfl
theorem rjfD15 : (Rows.streamDeepRow.ifaces == (Tryz.f9.params.toList ++ Rows.streamDeepSpec.plain.varTypes Tryz.prog).any (Tryz.prog.ifacesRec ·)) = true := by kernel_rfl
theorem rjfD16 : (Rows.streamDeepRow.mapsOut == Tryz.prog.mapsAmong Tryz.f9.resultTypes.toList) = true := by kernel_rfl
theorem rjfD17 : (Rows.streamDeepRow.loops == (Tryz.f9.params.toList ++ Rows.streamDeepSpec.plain.varTypes Tryz.prog).any (Tryz.prog.loopsFrom ·)) = true := by kernel_rfl
theorem rjfD18 : (Rows.streamDeepRow.wideKeys == (Tryz.f9.params.toList ++ Rows.streamDeepSpec.plain.varTypes Tryz.prog ++ Tryz.f9.resultTypes.toList).any (Tryz.prog.wideKeysFrom ·)) = true := by kernel_rfl
theorem rjfD19 : (Rows.streamDeepSpec.vars.all (Tryz.prog.varReadable ·)) = true := by kernel_rfl
theorem rjfD20 : (Tryz.f9.resultTypes.all (fun t => Tryz.prog.readableRec t && decide (t < Tryz.prog.types.size))) = true := by kernel_rfl
theorem rjfD21 : (Rows.streamDeepRow.ifacesOut == Tryz.f9.resultTypes.toList.any (Tryz.prog.ifacesRec ·)) = true := by kernel_rfl
theorem rjfD22 : (Rows.streamDeepRow.loopsOut == Tryz.f9.resultTypes.toList.any (Tryz.prog.loopsFrom ·)) = true := by kernel_rfl
theorem rjfD23 : (Rows.streamDeepRow.plainKeys == Tryz.prog.plainKeys) = true := by kernel_rfl
theorem rjfD24 : (Rows.streamDeepRow.shortTexts.isNone) = true := by kernel_rfl
theorem rjfD25 : (Tryz.prog.stopsHeard) = true := by kernel_rfl
theorem rjfD26 : (Tryz.prog.mayEnter) = true := by kernel_rfl
theorem rjfD27 : (Rows.streamDeepRow.lifted == Tryz.prog.liftsFinal) = true := by kernel_rfl
theorem rjfD28 : (Tryz.prog.make == some Rows.streamDeepRow.make) = true := by kernel_rfl
theorem rjfD29 : (Rows.streamDeepRow.kinds == (if Rows.streamDeepRow.domain.isEmpty then [] else Tryz.f9.params.toList.map fun t => match Tryz.prog.underlying t with | some (.int k) => some k | _ => none)) = true := by kernel_rfl
theorem rjfD30 : (Rows.streamDeepRow.pinned == Rows.streamDeepRow.pinnedBy) = true := by kernel_rfl
theorem rjfD31 : (Rows.streamDeepRow.veiled == (Tryz.f9.params.toList ++ Rows.streamDeepSpec.plain.varTypes Tryz.prog ++ Tryz.f9.resultTypes.toList).any (Tryz.prog.veiledRec ·)) = true := by kernel_rfl
theorem rjfD32 : (Rows.streamDeepRow.veiledFits Tryz.prog Tryz.f9.params.toList (Tryz.f9.params.toList ++ Rows.streamDeepSpec.plain.varTypes Tryz.prog ++ Tryz.f9.resultTypes.toList)) = true := by kernel_rfl
end Go.Proofs.YtkfhjobebhdpoaaGreat

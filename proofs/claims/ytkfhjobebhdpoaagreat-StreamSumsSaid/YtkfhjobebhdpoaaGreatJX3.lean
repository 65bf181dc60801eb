/- Stream: closed facts of a row, one by one. -/
import Derived.Test.YtkfhjobebhdpoaaGreatRows
import Derived.WalkKit
import Derived.ProofKit
set_option linter.unusedVariables false
set_option autoImplicit false
set_option maxRecDepth 100000
namespace Go.Proofs.YtkfhjobebhdpoaaGreat
theorem rjfX14 : (Rows.streamSumsRow.maps == (Tryz.f3.params.toList ++ Rows.streamSumsSpec.plain.varTypes Tryz.prog).any (Tryz.prog.mapsRec ·)) = true := by kernel_rfl
theorem rjfX15 : (Rows.streamSumsRow.ifaces == (Tryz.f3.params.toList ++ Rows.streamSumsSpec.plain.varTypes Tryz.prog).any (Tryz.prog.ifacesRec ·)) = true := by kernel_rfl
theorem rjfX16 : (Rows.streamSumsRow.mapsOut == Tryz.prog.mapsAmong Tryz.f3.resultTypes.toList) = true := by kernel_rfl
theorem rjfX17 : (Rows.streamSumsRow.loops == (Tryz.f3.params.toList ++ Rows.streamSumsSpec.plain.varTypes Tryz.prog).any (Tryz.prog.loopsFrom ·)) = true := by kernel_rfl
theorem rjfX18 : (Rows.streamSumsRow.wideKeys == (Tryz.f3.params.toList ++ Rows.streamSumsSpec.plain.varTypes Tryz.prog ++ Tryz.f3.resultTypes.toList).any (Tryz.prog.wideKeysFrom ·)) = true := by kernel_rfl
theorem rjfX19 : (Rows.streamSumsSpec.vars.all (Tryz.prog.varReadable ·)) = true := by kernel_rfl
theorem rjfX20 : (Tryz.f3.resultTypes.all (fun t => Tryz.prog.readableRec t && decide (t < Tryz.prog.types.size))) = true := by kernel_rfl
theorem rjfX21 : (Rows.streamSumsRow.ifacesOut == Tryz.f3.resultTypes.toList.any (Tryz.prog.ifacesRec ·)) = true := by kernel_rfl
theorem rjfX22 : (Rows.streamSumsRow.loopsOut == Tryz.f3.resultTypes.toList.any (Tryz.prog.loopsFrom ·)) = true := by kernel_rfl
theorem rjfX23 : (Rows.streamSumsRow.plainKeys == Tryz.prog.plainKeys) = true := by kernel_rfl
theorem rjfX24 : (Rows.streamSumsRow.shortTexts.isNone) = true := by kernel_rfl
theorem rjfX25 : (Tryz.prog.stopsHeard) = true := by kernel_rfl
theorem rjfX26 : (Tryz.prog.mayEnter) = true := by kernel_rfl
theorem rjfX27 : (Rows.streamSumsRow.lifted == Tryz.prog.liftsFinal) = true := by kernel_rfl
theorem rjfX28 : (Tryz.prog.make == some Rows.streamSumsRow.make) = true := by kernel_rfl
theorem rjfX29 : (Rows.streamSumsRow.kinds == (if Rows.streamSumsRow.domain.isEmpty then [] else Tryz.f3.params.toList.map fun t => match Tryz.prog.underlying t with | some (.int k) => some k | _ => none)) = true := by kernel_rfl
theorem rjfX30 : (Rows.streamSumsRow.pinned == Rows.streamSumsRow.pinnedBy) = true := by kernel_rfl
theorem rjfX31 : (Rows.streamSumsRow.veiled == (Tryz.f3.params.toList ++ Rows.streamSumsSpec.plain.varTypes Tryz.prog ++ Tryz.f3.resultTypes.toList).any (Tryz.prog.veiledRec ·)) = true := by kernel_rfl
theorem rjfX32 : (Rows.streamSumsRow.veiledFits Tryz.prog Tryz.f3.params.toList (Tryz.f3.params.toList ++ Rows.streamSumsSpec.plain.varTypes Tryz.prog ++ Tryz.f3.resultTypes.toList)) = true := by kernel_rfl
end Go.Proofs.YtkfhjobebhdpoaaGreat

/- Stream: StreamWrong of no ticks. -/
import Derived.Test.YtkfhjobebhdpoaaGreatW9
set_option linter.unusedVariables false
set_option autoImplicit false
set_option maxRecDepth 1000000
set_option maxHeartbeats 2000000
set_option linter.unusedVariables false
namespace Go.Proofs.YtkfhjobebhdpoaaGreat
noncomputable section
open Go.X
def bN3 : List (Nat × Blk) := [(269, .row [.int .i64 2, .int .i64 1] 3 true [266]), (18, .row [.slc 15 0 2 2 true 1, .slc 16 0 1 1 true 1] 22 true []), (15, .row [.int .i64 200, .int .i64 1] 3 true [])]
def conAskN : Con := fun args h ds K => (args = [.slc 269 0 2 2 false 1, .slc 18 0 2 2 false 1] ∧ h.next = 270 ∧ lmap (fun p => T.get h.b p.1) bN3 = lmap (fun p => some p.2) bN3 ∧ zget h.b 12 = T.leaf) ∧ K (.int .i64 (Int.ofNat 1)) h ds
theorem askN_run : Ran (xfun C0 Tryz.prog (xcode C0 Tryz.prog F) 24 [.slc 269 0 2 2 false 1, .slc 18 0 2 2 false 1] (hsB bN3 T.leaf 270) [] (fun v _ _ => v = .int .i64 (Int.ofNat 1))) :=
  ⟨Eq.mpr (β := AV.int .i64 (Int.ofNat 1) = .int .i64 (Int.ofNat 1)) (by kernel_rfl) rfl⟩
def CN3 : Cfg := CL1W.addCon 24 conAskN
theorem nil0W_key (w : Int) (K : AV → Prop) : xfun CL1W Tryz.prog (xcode CL1W Tryz.prog F) 8 [.int .i64 (Int.ofNat 0), .int .i64 w] hLW [false, false, false, false, true] (fun v _ _ => K v) =
  bcase (dcq false (ltI (Int.ofNat 0) (Int.ofNat 0))) (bcase (dcq false (ltI (Int.ofNat 30) (Int.ofNat 0))) ([AV.str nWt vWt] = [.str nWt vWt] ∧ bcase (dcq false (ltI (Int.ofNat 0) (Int.ofNat 0))) (∃ z, z = zW w ∧ bcase (dcq true (eqI z (Int.ofNat 0))) (K (.bool true)) False) False) False) False := by kernel_rfl
theorem nil1W_key (w : Int) (K : AV → Prop) : xfun CL1W Tryz.prog (xcode CL1W Tryz.prog F) 8 [.int .i64 (Int.ofNat 0), .int .i64 w] hLW [false, false, false, false, false, true] (fun v _ _ => K v) =
  bcase (dcq false (ltI (Int.ofNat 0) (Int.ofNat 0))) (bcase (dcq false (ltI (Int.ofNat 30) (Int.ofNat 0))) ([AV.str nWt vWt] = [.str nWt vWt] ∧ bcase (dcq false (ltI (Int.ofNat 0) (Int.ofNat 0))) (∃ z, z = zW w ∧ bcase (dcq false (eqI z (Int.ofNat 0))) (bcase (dcq true (eqI z (Int.ofNat 1))) (K (.bool true)) False) False) False) False) False := by kernel_rfl
theorem nil2W_key (w : Int) (K : AV → Prop) : xfun CL1W Tryz.prog (xcode CL1W Tryz.prog F) 8 [.int .i64 (Int.ofNat 0), .int .i64 w] hLW [false, false, false, false, false, false, true] (fun v _ _ => K v) =
  bcase (dcq false (ltI (Int.ofNat 0) (Int.ofNat 0))) (bcase (dcq false (ltI (Int.ofNat 30) (Int.ofNat 0))) ([AV.str nWt vWt] = [.str nWt vWt] ∧ bcase (dcq false (ltI (Int.ofNat 0) (Int.ofNat 0))) (∃ z, z = zW w ∧ bcase (dcq false (eqI z (Int.ofNat 0))) (bcase (dcq false (eqI z (Int.ofNat 1))) (bcase (dcq true (eqI z (Int.ofNat 2))) (K (.bool true)) False) False) False) False) False) False := by kernel_rfl
theorem nil3W_key (w : Int) (K : AV → Prop) : xfun CN3 Tryz.prog (xcode CN3 Tryz.prog F) 8 [.int .i64 (Int.ofNat 0), .int .i64 w] hLW [false, false, false, false, false, false, false, true] (fun v _ _ => K v) =
  bcase (dcq false (ltI (Int.ofNat 0) (Int.ofNat 0))) (bcase (dcq false (ltI (Int.ofNat 30) (Int.ofNat 0))) ([AV.str nWt vWt] = [.str nWt vWt] ∧ bcase (dcq false (ltI (Int.ofNat 0) (Int.ofNat 0))) (∃ z, z = zW w ∧ bcase (dcq false (eqI z (Int.ofNat 0))) (bcase (dcq false (eqI z (Int.ofNat 1))) (bcase (dcq false (eqI z (Int.ofNat 2))) (bcase (dcq true (eqI z (Int.ofNat 3))) (([AV.slc 269 0 2 2 false 1, .slc 18 0 2 2 false 1] = [.slc 269 0 2 2 false 1, .slc 18 0 2 2 false 1] ∧ 270 = 270 ∧ lmap (fun p => some p.2) bN3 = lmap (fun p => some p.2) bN3 ∧ T.leaf (α := Blk) = T.leaf) ∧ K (.bool true)) False) False) False) False) False) False) False := by kernel_rfl
theorem nil4W_key (w : Int) (K : AV → Prop) : xfun CL1W Tryz.prog (xcode CL1W Tryz.prog F) 8 [.int .i64 (Int.ofNat 0), .int .i64 w] hLW [false, false, false, false, false, false, false, false, true] (fun v _ _ => K v) =
  bcase (dcq false (ltI (Int.ofNat 0) (Int.ofNat 0))) (bcase (dcq false (ltI (Int.ofNat 30) (Int.ofNat 0))) ([AV.str nWt vWt] = [.str nWt vWt] ∧ bcase (dcq false (ltI (Int.ofNat 0) (Int.ofNat 0))) (∃ z, z = zW w ∧ bcase (dcq false (eqI z (Int.ofNat 0))) (bcase (dcq false (eqI z (Int.ofNat 1))) (bcase (dcq false (eqI z (Int.ofNat 2))) (bcase (dcq false (eqI z (Int.ofNat 3))) (bcase (dcq true (eqI z (Int.ofNat 4))) (K (.bool true)) False) False) False) False) False) False) False) False := by kernel_rfl
theorem nil7W_key (w : Int) (K : AV → Prop) : xfun CL1W Tryz.prog (xcode CL1W Tryz.prog F) 8 [.int .i64 (Int.ofNat 0), .int .i64 w] hLW [false, false, false, false, false, false, false, false, false, false, false] (fun v _ _ => K v) =
  bcase (dcq false (ltI (Int.ofNat 0) (Int.ofNat 0))) (bcase (dcq false (ltI (Int.ofNat 30) (Int.ofNat 0))) ([AV.str nWt vWt] = [.str nWt vWt] ∧ bcase (dcq false (ltI (Int.ofNat 0) (Int.ofNat 0))) (∃ z, z = zW w ∧ bcase (dcq false (eqI z (Int.ofNat 0))) (bcase (dcq false (eqI z (Int.ofNat 1))) (bcase (dcq false (eqI z (Int.ofNat 2))) (bcase (dcq false (eqI z (Int.ofNat 3))) (bcase (dcq false (eqI z (Int.ofNat 4))) (bcase (dcq false (eqI z (Int.ofNat 5))) (bcase (dcq false (eqI z (Int.ofNat 6))) (K (.bool true)) False) False) False) False) False) False) False) False) False) False := by kernel_rfl
end
end Go.Proofs.YtkfhjobebhdpoaaGreat

/- Stream: what Ready makes of the text of a law (W). -/
import Derived.Test.YtkfhjobebhdpoaaGreatM
set_option linter.unusedVariables false
set_option autoImplicit false
set_option maxRecDepth 1000000
set_option maxHeartbeats 1000000
namespace Go.Proofs.YtkfhjobebhdpoaaGreat
noncomputable section
open Go.X
def nWt : Nat := 72
def vWt : Nat := 104725395259173152099848285467556840474543368940999834194147823281756790214810710037809304731431335033379876271887669644202122652576722638576795984195847912538749145671036782
def VWt : AV := AV.tup [AV.agg [AV.slc 0 0 1 1 false 6], AV.bool true]
def sWt : List Nat := [593, 584, 250, 225, 542, 284]
def bWt0 : Blk := .row [.str 1 102, .slc 3 0 2 2 false 5, .slc 2 0 1 1 false 5, .nils, .slc 1 0 1 1 false 12, .int .i64 (.ofNat 0)] 51 true []
def bWt1 : Blk := .row [.slc 5 0 1 1 true 1, .int .i64 (.ofNat 5), .int .i64 (.ofNat 0), .str 0 0, .int .i64 (.ofNat 0), .int .i64 (.ofNat 0), .int .i64 (.ofNat 0), .int .i64 (.ofNat 0), .slc 4 0 3 3 true 9, .int .i64 (.ofNat 47), .nils, .int .i64 (.ofNat 43)] 160 true []
def bWt2 : Blk := .row [.str 1 121, .int .i64 (.ofNat 2), .int .i64 (.ofNat 0), .nils, .int .i64 (.ofNat 32)] 85 true []
def bWt3 : Blk := .row [.str 1 120, .int .i64 (.ofNat 2), .int .i64 (.ofNat 0), .nils, .int .i64 (.ofNat 7), .str 1 99, .int .i64 (.ofNat 1), .int .i64 (.ofNat 0), .nils, .int .i64 (.ofNat 14)] 85 true []
def bWt4 : Blk := .row [.int .i64 (.ofNat 2), .int .i64 (.ofNat 0), .str 1 99, .int .i64 (.ofNat 0), .int .i64 (.ofNat 0), .int .i64 (.ofNat 0), .int .i64 (.ofNat 0), .nils, .int .i64 (.ofNat 50), .int .i64 (.ofNat 2), .int .i64 (.ofNat 0), .str 1 120, .int .i64 (.ofNat 0), .int .i64 (.ofNat 0), .int .i64 (.ofNat 0), .int .i64 (.ofNat 0), .nils, .int .i64 (.ofNat 57), .int .i64 (.ofNat 1), .int .i64 (.ofNat 0), .str 0 0, .int .i64 (.ofNat 2), .int .i64 (.ofNat 0), .int .i64 (.ofNat 0), .int .i64 (.ofNat 0), .nils, .int .i64 (.ofNat 64)] 157 true []
def bWt5 : Blk := .row [.str 1 121] 9 true []
def gWt : List Blk := [bWt0, bWt1, bWt2, bWt3, bWt4, bWt5]
theorem readyWt_run : Ran (xfun C0 Tryz.prog (xcode C0 Tryz.prog F) 13 [.str nWt vWt] hNil [] (fun v h' _ => v = ren (nm sWt) VWt ∧ gotFrom sWt h' gWt 0)) :=
  ⟨Eq.mpr (β := (AV.tup [AV.agg [AV.slc 593 0 1 1 false 6], AV.bool true] = ren (nm sWt) VWt) ∧ (gotB sWt 0 bWt0 (some (.row [.str 1 102, .slc 225 0 2 2 false 5, .slc 250 0 1 1 false 5, .nils, .slc 584 0 1 1 false 12, .int .i64 (.ofNat 0)] 51 true []))) ∧ (gotB sWt 1 bWt1 (some (.row [.slc 284 0 1 1 true 1, .int .i64 (.ofNat 5), .int .i64 (.ofNat 0), .str 0 0, .int .i64 (.ofNat 0), .int .i64 (.ofNat 0), .int .i64 (.ofNat 0), .int .i64 (.ofNat 0), .slc 542 0 3 3 true 9, .int .i64 (.ofNat 47), .nils, .int .i64 (.ofNat 43)] 160 true []))) ∧ (gotB sWt 2 bWt2 (some (.row [.str 1 121, .int .i64 (.ofNat 2), .int .i64 (.ofNat 0), .nils, .int .i64 (.ofNat 32)] 85 true []))) ∧ (gotB sWt 3 bWt3 (some (.row [.str 1 120, .int .i64 (.ofNat 2), .int .i64 (.ofNat 0), .nils, .int .i64 (.ofNat 7), .str 1 99, .int .i64 (.ofNat 1), .int .i64 (.ofNat 0), .nils, .int .i64 (.ofNat 14)] 85 true [206]))) ∧ (gotB sWt 4 bWt4 (some (.row [.int .i64 (.ofNat 2), .int .i64 (.ofNat 0), .str 1 99, .int .i64 (.ofNat 0), .int .i64 (.ofNat 0), .int .i64 (.ofNat 0), .int .i64 (.ofNat 0), .nils, .int .i64 (.ofNat 50), .int .i64 (.ofNat 2), .int .i64 (.ofNat 0), .str 1 120, .int .i64 (.ofNat 0), .int .i64 (.ofNat 0), .int .i64 (.ofNat 0), .int .i64 (.ofNat 0), .nils, .int .i64 (.ofNat 57), .int .i64 (.ofNat 1), .int .i64 (.ofNat 0), .str 0 0, .int .i64 (.ofNat 2), .int .i64 (.ofNat 0), .int .i64 (.ofNat 0), .int .i64 (.ofNat 0), .nils, .int .i64 (.ofNat 64)] 157 true []))) ∧ (gotB sWt 5 bWt5 (some (.row [.str 1 121] 9 true []))) ∧ True) (by kernel_rfl) ⟨rfl, ⟨[], rfl, rfl⟩, ⟨[], rfl, rfl⟩, ⟨[], rfl, rfl⟩, ⟨[206], rfl, rfl⟩, ⟨[], rfl, rfl⟩, ⟨[], rfl, rfl⟩, trivial⟩⟩
theorem readyWt_ok {gl : Glob} {h : H} {ds : List Bool} {K : KV} (hK : K (ren (shf h.next) VWt) (addAll h gWt) ds) : CallOK Tryz.prog gl 13 [.str nWt vWt] h K :=
  frame_make good0 rfl (ds1 := []) (fuel := F) rfl rfl (by decide) rfl (by decide) readyWt_run hK
end
end Go.Proofs.YtkfhjobebhdpoaaGreat

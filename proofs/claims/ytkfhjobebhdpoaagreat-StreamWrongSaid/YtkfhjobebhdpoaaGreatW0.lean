/- Stream: the states of Run's loop over ticks. -/
import Derived.Test.YtkfhjobebhdpoaaGreatE7
import Derived.Test.YtkfhjobebhdpoaaGreatM
import Derived.Test.YtkfhjobebhdpoaaGreatBits
set_option linter.unusedVariables false
set_option autoImplicit false
set_option maxRecDepth 1000000
set_option maxHeartbeats 1000000
namespace Go.Proofs.YtkfhjobebhdpoaaGreat
noncomputable section
open Go.X
def n0W : Nat := 8388931
def kW0 : Nat × Blk := (8388863, .row [.ptr 8388861 0, .int .i64 (.ofNat 0), .nils, .str 1 102, .slc 11 0 2 2 false 5, .slc 10 0 1 1 false 5, .nils, .slc 9 0 1 1 false 12, .int .i64 (.ofNat 0), .ptr 8388878 0] 94 true [])
def kW1 : Nat × Blk := (8388861, .row [.map 8388859, .map 8388860] 63 true [])
def kW2 : Nat × Blk := (11, .row [.str 1 120, .int .i64 (.ofNat 2), .int .i64 (.ofNat 0), .nils, .int .i64 (.ofNat 7), .str 1 99, .int .i64 (.ofNat 1), .int .i64 (.ofNat 0), .nils, .int .i64 (.ofNat 14)] 85 true [])
def kW3 : Nat × Blk := (10, .row [.str 1 121, .int .i64 (.ofNat 2), .int .i64 (.ofNat 0), .nils, .int .i64 (.ofNat 32)] 85 true [])
def kW4 : Nat × Blk := (9, .row [.slc 13 0 1 1 true 1, .int .i64 (.ofNat 5), .int .i64 (.ofNat 0), .str 0 0, .int .i64 (.ofNat 0), .int .i64 (.ofNat 0), .int .i64 (.ofNat 0), .int .i64 (.ofNat 0), .slc 12 0 3 3 true 9, .int .i64 (.ofNat 47), .nils, .int .i64 (.ofNat 43)] 160 true [])
def kW5 : Nat × Blk := (8388878, .row [.ptr 8388863 0, .ptr 8388866 0, .map 8388877, .slc 8388930 0 1 1 false 1, .nils, .nils] 108 true [])
def kW6 : Nat × Blk := (8388859, .map [0] 1 [(.str 1 102, .agg [.str 1 102, .slc 11 0 2 2 false 5, .slc 10 0 1 1 false 5, .nils, .slc 9 0 1 1 false 12, .int .i64 (.ofNat 0)])])
def kW7 : Nat × Blk := (8388860, .map [0, 1, 2, 3, 4, 5, 6, 7, 8, 9, 10, 11, 12, 13, 14, 15, 16, 17, 18] 19 [(.int .i64 (.ofNat 1), .fn (Go.Fn.func 41) [] []), (.int .i64 (.ofNat 2), .fn (Go.Fn.func 42) [] []), (.int .i64 (.ofNat 3), .fn (Go.Fn.func 43) [] []), (.int .i64 (.ofNat 4), .fn (Go.Fn.func 44) [] []), (.int .i64 (.ofNat 5), .fn (Go.Fn.func 45) [] []), (.int .i64 (.ofNat 6), .fn (Go.Fn.func 46) [] []), (.int .i64 (.ofNat 7), .fn (Go.Fn.func 47) [] []), (.int .i64 (.ofNat 8), .fn (Go.Fn.func 48) [] []), (.int .i64 (.ofNat 9), .fn (Go.Fn.func 49) [] []), (.int .i64 (.ofNat 10), .fn (Go.Fn.func 50) [] []), (.int .i64 (.ofNat 11), .fn (Go.Fn.func 51) [] []), (.int .i64 (.ofNat 12), .fn (Go.Fn.func 52) [] []), (.int .i64 (.ofNat 13), .fn (Go.Fn.func 53) [] []), (.int .i64 (.ofNat 14), .fn (Go.Fn.func 54) [] []), (.int .i64 (.ofNat 15), .fn (Go.Fn.func 55) [] []), (.int .i64 (.ofNat 16), .fn (Go.Fn.func 56) [] []), (.int .i64 (.ofNat 17), .fn (Go.Fn.func 57) [] []), (.int .i64 (.ofNat 18), .fn (Go.Fn.func 58) [] []), (.int .i64 (.ofNat 19), .fn (Go.Fn.func 59) [] [])])
def kW8 : Nat × Blk := (13, .row [.str 1 121] 9 true [])
def kW9 : Nat × Blk := (12, .row [.int .i64 (.ofNat 2), .int .i64 (.ofNat 0), .str 1 99, .int .i64 (.ofNat 0), .int .i64 (.ofNat 0), .int .i64 (.ofNat 0), .int .i64 (.ofNat 0), .nils, .int .i64 (.ofNat 50), .int .i64 (.ofNat 2), .int .i64 (.ofNat 0), .str 1 120, .int .i64 (.ofNat 0), .int .i64 (.ofNat 0), .int .i64 (.ofNat 0), .int .i64 (.ofNat 0), .nils, .int .i64 (.ofNat 57), .int .i64 (.ofNat 1), .int .i64 (.ofNat 0), .str 0 0, .int .i64 (.ofNat 2), .int .i64 (.ofNat 0), .int .i64 (.ofNat 0), .int .i64 (.ofNat 0), .nils, .int .i64 (.ofNat 64)] 157 true [])
def kW10 : Nat × Blk := (8388866, .row [.map 8388864, .map 8388865, .nilp] 98 true [])
def kW11 : Nat × Blk := (8388877, .map [] 0 [])
def kW12 : Nat × Blk := (8388930, .row [.ptr 8388876 0] 101 true [])
def kW13 : Nat × Blk := (8388864, .map [0, 1, 2] 3 [(.str 1 120, .ptr 8388870 0), (.str 1 99, .ptr 8388873 0), (.str 1 121, .ptr 8388876 0)])
def kW14 : Nat × Blk := (8388865, .map [0, 1, 2] 3 [(.str 1 120, .agg [.str 1 120, .int .i64 (.ofNat 2), .int .i64 (.ofNat 0), .nils, .int .i64 (.ofNat 7)]), (.str 1 99, .agg [.str 1 99, .int .i64 (.ofNat 1), .int .i64 (.ofNat 0), .nils, .int .i64 (.ofNat 14)]), (.str 1 121, .agg [.str 1 121, .int .i64 (.ofNat 2), .int .i64 (.ofNat 0), .nils, .int .i64 (.ofNat 32)])])
def kW15 : Nat × Blk := (8388876, .row [.slc 8388875 0 1 1 true 1, .bool false, .int .i64 (.ofNat 0), .fn (Go.Fn.func 229) [] [.ptr 8388920 0, .ptr 8388880 0, .ptr 8388883 0, .ptr 8388919 0, .ptr 8388921 0, .ptr 8388922 0]] 110 true [])
def kW16 : Nat × Blk := (8388870, .row [.slc 8388869 0 1 1 true 1, .bool false, .int .i64 (.ofNat 0), .fn (Go.Fn.func 122) [] []] 110 true [])
def kW17 : Nat × Blk := (8388873, .row [.slc 8388872 0 1 1 true 1, .bool false, .int .i64 (.ofNat 0), .fn (Go.Fn.func 122) [] []] 110 true [])
def kW18 : Nat × Blk := (8388875, .row [.int .i64 (.ofNat 0)] 3 true [])
def kW19 : Nat × Blk := (8388920, .row [.int .i64 (.ofNat 0)] 3 true [])
def kW20 : Nat × Blk := (8388880, .row [.ptr 8388878 0] 89 true [])
def kW21 : Nat × Blk := (8388883, .row [.str 1 121, .int .i64 (.ofNat 2), .int .i64 (.ofNat 0), .nils, .int .i64 (.ofNat 32)] 85 true [])
def kW22 : Nat × Blk := (8388919, .row [.fn (Go.Fn.func 97) [] [.ptr 8388918 0], .int .i64 (.ofNat 2)] 171 true [])
def kW23 : Nat × Blk := (8388921, .row [.slc 8388926 0 1 1 false 1] 104 true [])
def kW24 : Nat × Blk := (8388922, .row [.slc 8388928 0 1 1 false 1] 22 true [])
def kW25 : Nat × Blk := (8388869, .row [.int .i64 (.ofNat 0)] 3 true [])
def kW26 : Nat × Blk := (8388872, .row [.int .i64 (.ofNat 0)] 3 true [])
def kW27 : Nat × Blk := (8388918, .row [.slc 8388917 0 3 3 false 2] 174 true [])
def kW28 : Nat × Blk := (8388926, .row [.ptr 8388876 0] 101 true [])
def kW29 : Nat × Blk := (8388928, .row [.int .i64 (.ofNat 1)] 3 true [])
def kW30 : Nat × Blk := (8388917, .row [.fn (Go.Fn.func 89) [] [.ptr 8388892 0, .ptr 8388896 0], .int .i64 (.ofNat 1), .fn (Go.Fn.func 89) [] [.ptr 8388903 0, .ptr 8388907 0], .int .i64 (.ofNat 2), .fn (Go.Fn.func 88) [] [.ptr 8388914 0], .int .i64 (.ofNat 2)] 171 true [8388910])
def kW31 : Nat × Blk := (8388892, .row [.ptr 8388878 0] 89 true [])
def kW32 : Nat × Blk := (8388896, .row [.ptr 8388873 0] 101 true [])
def kW33 : Nat × Blk := (8388903, .row [.ptr 8388878 0] 89 true [])
def kW34 : Nat × Blk := (8388907, .row [.ptr 8388870 0] 101 true [])
def kW35 : Nat × Blk := (8388914, .row [.int .i64 (.ofNat 1), .int .i64 (.ofNat 0), .str 0 0, .int .i64 (.ofNat 2), .int .i64 (.ofNat 0), .int .i64 (.ofNat 0), .int .i64 (.ofNat 0), .nils, .int .i64 (.ofNat 64)] 157 true [])
def kW36 (x0 : Int) : Nat × Blk := (8388863, .row [.ptr 8388861 0, .int .i64 x0, .nils, .str 1 102, .slc 11 0 2 2 false 5, .slc 10 0 1 1 false 5, .nils, .slc 9 0 1 1 false 12, .int .i64 (.ofNat 0), .ptr 8388878 0] 94 true [])
def kW37 (x0 : Int) : Nat × Blk := (8388876, .row [.slc 8388932 0 1 1 true 1, .bool true, .int .i64 x0, .fn (Go.Fn.func 229) [] [.ptr 8388920 0, .ptr 8388880 0, .ptr 8388883 0, .ptr 8388919 0, .ptr 8388921 0, .ptr 8388922 0]] 110 true [])
def kW38 (x0 : Int) : Nat × Blk := (8388870, .row [.slc 8388932 0 1 1 true 1, .bool true, .int .i64 x0, .fn (Go.Fn.func 122) [] []] 110 true [])
def kW39 (x0 : Int) : Nat × Blk := (8388873, .row [.slc 8388932 1 1 1 true 1, .bool true, .int .i64 x0, .fn (Go.Fn.func 122) [] []] 110 true [])
def kW40 (x0 : Int) : Nat × Blk := (8388932, .row [.int .i64 x0, .int .i64 (.ofNat 1)] 3 true [])
def kW41 (x0 : Int) : Nat × Blk := (8388920, .row [.int .i64 x0] 3 true [])
def kW42 : Nat × Blk := (8388917, .row [.fn (Go.Fn.func 89) [] [.ptr 8388892 0, .ptr 8388896 0], .int .i64 (.ofNat 1), .fn (Go.Fn.func 89) [] [.ptr 8388903 0, .ptr 8388907 0], .int .i64 (.ofNat 2), .fn (Go.Fn.func 88) [] [.ptr 8388914 0], .int .i64 (.ofNat 2)] 171 true [])
def kW43 (x0 : Int) : Nat × Blk := (8388870, .row [.slc 8388933 0 1 1 true 1, .bool true, .int .i64 x0, .fn (Go.Fn.func 122) [] []] 110 true [])
def kW44 (x0 : Int) : Nat × Blk := (8388873, .row [.slc 8388933 1 1 1 true 1, .bool true, .int .i64 x0, .fn (Go.Fn.func 122) [] []] 110 true [])
def kW45 : Nat × Blk := (8388932, .row [.int .i64 (.ofNat 0)] 3 true [])
def kW46 (x0 : Int) : Nat × Blk := (8388933, .row [.int .i64 x0, .int .i64 (.ofNat 0)] 3 true [])
def bW0 : List (Nat × Blk) := [kW0, kW1, kW2, kW3, kW4, kW5, kW6, kW7, kW8, kW9, kW10, kW11, kW12, kW13, kW14, kW15, kW16, kW17, kW18, kW19, kW20, kW21, kW22, kW23, kW24, kW25, kW26, kW27, kW28, kW29, kW30, kW31, kW32, kW33, kW34, kW35]
def bW1 (a0 : Int) (a1 : Int) : List (Nat × Blk) := [kW36 a0, kW1, kW2, kW3, kW4, kW5, kW6, kW7, kW8, kW9, kW10, kW11, kW12, kW13, kW14, kW37 a0, kW38 a0, kW39 a0, kW40 a1, kW41 a0, kW20, kW21, kW22, kW23, kW24, kW27, kW28, kW29, kW42, kW31, kW32, kW33, kW34, kW35]
def bW2 (a0 : Int) (a1 : Int) : List (Nat × Blk) := [kW36 a0, kW1, kW2, kW3, kW4, kW5, kW6, kW7, kW8, kW9, kW10, kW11, kW12, kW13, kW14, kW37 a0, kW43 a0, kW44 a0, kW45, kW41 a0, kW20, kW21, kW22, kW23, kW24, kW46 a1, kW27, kW28, kW29, kW42, kW31, kW32, kW33, kW34, kW35]
def actW : AV := AV.fn (Go.Fn.func 28) [AV.ptr 8388863 0] []
def eW (n : Nat) (g : Nat → CV) (out : AV) (i : Nat) : List (Nat × AV) := [(6, .nils), (7, .int .i64 (Int.ofNat 0)), (16, actW), (17, out), (71, .vs 131073 0 n g), (72, .int .i64 (Int.ofNat n)), (73, .int .i64 (Int.ofNat i))]
/-- a row of the output -/
def rowW (l : List AV) : Blk := .row l 3 true []
/-- the blocks that all states have: the rows of the output (if some are there), of the inputs, of what is wanted -/
def rrW (cs csI csW : List AV) : List (Nat × Blk) := [(n0W, .row cs 22 true []), (131073, .row csI 22 true [])]
def rr0W (csI csW : List AV) : List (Nat × Blk) := [(131073, .row csI 22 true [])]
def dW_0_x_1 : List Bool := bitsL 40 588592490983
def kW_0_x_1 : List Nat := [8388863, 8388861, 11, 10, 9, 8388878, 8388859, 8388860, 13, 12, 8388866, 8388877, 8388930, 8388864, 8388865, 8388876, 8388870, 8388873, 8388931, 8388920, 8388880, 8388883, 8388919, 8388921, 8388922, 8388918, 8388926, 8388928, 8388917, 8388892, 8388896, 8388903, 8388907, 8388914]
def dW_1_x_0 : List Bool := bitsL 41 1138350402023
def kW_1_x_0 : List Nat := [8388863, 8388861, 11, 10, 9, 8388878, 8388859, 8388860, 13, 12, 8388866, 8388877, 8388930, 8388864, 8388865, 8388876, 8388870, 8388873, 16777223, 8388920, 8388880, 8388883, 8388919, 8388921, 8388922, 16777216, 8388918, 8388926, 8388928, 8388917, 8388892, 8388896, 8388903, 8388907, 8388914]
def dW_2_x_0 : List Bool := bitsL 41 1138350402023
def kW_2_x_0 : List Nat := [8388863, 8388861, 11, 10, 9, 8388878, 8388859, 8388860, 13, 12, 8388866, 8388877, 8388930, 8388864, 8388865, 8388876, 8388870, 8388873, 16777223, 8388920, 8388880, 8388883, 8388919, 8388921, 8388922, 16777216, 8388918, 8388926, 8388928, 8388917, 8388892, 8388896, 8388903, 8388907, 8388914]
def dW_2_x_1 : List Bool := bitsL 41 1138348304871
def kW_2_x_1 : List Nat := [8388863, 8388861, 11, 10, 9, 8388878, 8388859, 8388860, 13, 12, 8388866, 8388877, 8388930, 8388864, 8388865, 8388876, 8388870, 8388873, 16777216, 8388920, 8388880, 8388883, 8388919, 8388921, 8388922, 8388918, 8388926, 8388928, 8388917, 8388892, 8388896, 8388903, 8388907, 8388914]
def dW_1_x_1 : List Bool := bitsL 41 1138348304871
def kW_1_x_1 : List Nat := [8388863, 8388861, 11, 10, 9, 8388878, 8388859, 8388860, 13, 12, 8388866, 8388877, 8388930, 8388864, 8388865, 8388876, 8388870, 8388873, 16777216, 8388920, 8388880, 8388883, 8388919, 8388921, 8388922, 8388918, 8388926, 8388928, 8388917, 8388892, 8388896, 8388903, 8388907, 8388914]
def dW_0_x_0 : List Bool := bitsL 40 588594588135
def kW_0_x_0 : List Nat := [8388863, 8388861, 11, 10, 9, 8388878, 8388859, 8388860, 13, 12, 8388866, 8388877, 8388930, 8388864, 8388865, 8388876, 8388870, 8388873, 8388938, 8388920, 8388880, 8388883, 8388919, 8388921, 8388922, 8388931, 8388918, 8388926, 8388928, 8388917, 8388892, 8388896, 8388903, 8388907, 8388914]
/-- what is told ahead of this round's inputs -/
def ggW (r : Nat) (b : List Int) : Nat → CV := fun _ => .row r 2 (fun k => Option.rec 0 (fun x => x) (lget b k))
end
end Go.Proofs.YtkfhjobebhdpoaaGreat

/- Stream: the states of Run's loop over ticks. -/
import Derived.Test.YtkfhjobebhdpoaaGreatE7
import Derived.Test.YtkfhjobebhdpoaaGreatM
import Derived.Test.YtkfhjobebhdpoaaGreatBits
import Derived.Test.YtkfhjobebhdpoaaGreatSK
set_option linter.unusedVariables false
set_option autoImplicit false
set_option maxRecDepth 1000000
set_option maxHeartbeats 1000000
namespace Go.Proofs.YtkfhjobebhdpoaaGreat
noncomputable section
open Go.X
def n0X : Nat := 1050507
def kX0 : Nat × Blk := (1050033, .row [.ptr 1050029 0, .int .i64 (.ofNat 0), .nils, .str 1 102, .slc 4 0 1 1 false 5, .slc 3 0 4 4 false 5, .nils, .slc 2 0 4 4 false 12, .int .i64 (.ofNat 120), .ptr 1050054 0] 94 true [])
def kX1 : Nat × Blk := (1050029, .row [.map 1050027, .map 1050028] 63 true [])
def kX2 : Nat × Blk := (4, .row [.str 1 120, .int .i64 (.ofNat 2), .int .i64 (.ofNat 0), .nils, .int .i64 (.ofNat 127)] 85 true [])
def kX3 : Nat × Blk := (3, .row [.str 1 112, .int .i64 (.ofNat 2), .int .i64 (.ofNat 0), .nils, .int .i64 (.ofNat 143), .str 1 113, .int .i64 (.ofNat 2), .int .i64 (.ofNat 0), .nils, .int .i64 (.ofNat 146), .str 1 114, .int .i64 (.ofNat 2), .int .i64 (.ofNat 0), .nils, .int .i64 (.ofNat 149), .str 1 116, .int .i64 (.ofNat 2), .int .i64 (.ofNat 0), .nils, .int .i64 (.ofNat 152)] 85 true [])
def kX4 : Nat × Blk := (2, .row [.slc 17 0 1 1 true 1, .int .i64 (.ofNat 7), .int .i64 (.ofNat 0), .str 0 0, .int .i64 (.ofNat 0), .int .i64 (.ofNat 0), .int .i64 (.ofNat 0), .int .i64 (.ofNat 0), .slc 16 0 2 2 true 9, .int .i64 (.ofNat 167), .nils, .int .i64 (.ofNat 163), .slc 15 0 1 1 true 1, .int .i64 (.ofNat 4), .int .i64 (.ofNat 3), .str 0 0, .int .i64 (.ofNat 0), .int .i64 (.ofNat 0), .int .i64 (.ofNat 0), .int .i64 (.ofNat 0), .slc 14 0 2 2 true 9, .int .i64 (.ofNat 188), .nils, .int .i64 (.ofNat 183), .slc 13 0 1 1 true 1, .int .i64 (.ofNat 13), .int .i64 (.ofNat 0), .str 1 115, .int .i64 (.ofNat 0), .int .i64 (.ofNat 0), .int .i64 (.ofNat 0), .int .i64 (.ofNat 0), .slc 12 0 1 1 false 9, .int .i64 (.ofNat 208), .nils, .int .i64 (.ofNat 204), .nils, .int .i64 (.ofNat 0), .int .i64 (.ofNat 0), .str 0 0, .int .i64 (.ofNat 0), .int .i64 (.ofNat 0), .int .i64 (.ofNat 0), .int .i64 (.ofNat 0), .nils, .int .i64 (.ofNat 0), .slc 11 0 1 1 false 6, .int .i64 (.ofNat 214)] 160 true [])
def kX5 : Nat × Blk := (1050054, .row [.ptr 1050033 0, .ptr 1050036 0, .map 1050053, .slc 1050506 0 4 4 false 1, .slc 1050501 0 1 1 false 1, .nils] 108 true [])
def kX6 : Nat × Blk := (1050027, .map [0, 1, 2] 3 [(.str 3 6579297, .agg [.str 3 6579297, .slc 10 0 2 2 false 5, .slc 9 0 1 1 false 5, .nils, .slc 8 0 1 1 false 12, .int .i64 (.ofNat 0)]), (.str 1 115, .agg [.str 1 115, .slc 7 0 1 1 false 5, .slc 6 0 1 1 false 5, .nils, .slc 5 0 1 1 false 12, .int .i64 (.ofNat 58)]), (.str 1 102, .agg [.str 1 102, .slc 4 0 1 1 false 5, .slc 3 0 4 4 false 5, .nils, .slc 2 0 4 4 false 12, .int .i64 (.ofNat 120)])])
def kX7 : Nat × Blk := (1050028, .map [0, 1, 2, 3, 4, 5, 6, 7, 8, 9, 10, 11, 12, 13, 14, 15, 16, 17, 18] 19 [(.int .i64 (.ofNat 1), .fn (Go.Fn.func 41) [] []), (.int .i64 (.ofNat 2), .fn (Go.Fn.func 42) [] []), (.int .i64 (.ofNat 3), .fn (Go.Fn.func 43) [] []), (.int .i64 (.ofNat 4), .fn (Go.Fn.func 44) [] []), (.int .i64 (.ofNat 5), .fn (Go.Fn.func 45) [] []), (.int .i64 (.ofNat 6), .fn (Go.Fn.func 46) [] []), (.int .i64 (.ofNat 7), .fn (Go.Fn.func 47) [] []), (.int .i64 (.ofNat 8), .fn (Go.Fn.func 48) [] []), (.int .i64 (.ofNat 9), .fn (Go.Fn.func 49) [] []), (.int .i64 (.ofNat 10), .fn (Go.Fn.func 50) [] []), (.int .i64 (.ofNat 11), .fn (Go.Fn.func 51) [] []), (.int .i64 (.ofNat 12), .fn (Go.Fn.func 52) [] []), (.int .i64 (.ofNat 13), .fn (Go.Fn.func 53) [] []), (.int .i64 (.ofNat 14), .fn (Go.Fn.func 54) [] []), (.int .i64 (.ofNat 15), .fn (Go.Fn.func 55) [] []), (.int .i64 (.ofNat 16), .fn (Go.Fn.func 56) [] []), (.int .i64 (.ofNat 17), .fn (Go.Fn.func 57) [] []), (.int .i64 (.ofNat 18), .fn (Go.Fn.func 58) [] []), (.int .i64 (.ofNat 19), .fn (Go.Fn.func 59) [] [])])
def kX8 : Nat × Blk := (17, .row [.str 1 112] 9 true [])
def kX9 : Nat × Blk := (16, .row [.int .i64 (.ofNat 2), .int .i64 (.ofNat 0), .str 1 120, .int .i64 (.ofNat 0), .int .i64 (.ofNat 0), .int .i64 (.ofNat 0), .int .i64 (.ofNat 0), .nils, .int .i64 (.ofNat 167), .int .i64 (.ofNat 4), .int .i64 (.ofNat 3), .str 0 0, .int .i64 (.ofNat 0), .int .i64 (.ofNat 0), .int .i64 (.ofNat 0), .int .i64 (.ofNat 0), .slc 24 0 2 2 true 9, .int .i64 (.ofNat 172)] 157 true [])
def kX10 : Nat × Blk := (15, .row [.str 1 113] 9 true [])
def kX11 : Nat × Blk := (14, .row [.int .i64 (.ofNat 8), .int .i64 (.ofNat 0), .str 0 0, .int .i64 (.ofNat 0), .int .i64 (.ofNat 0), .int .i64 (.ofNat 0), .int .i64 (.ofNat 0), .slc 23 0 2 2 true 9, .int .i64 (.ofNat 188), .int .i64 (.ofNat 2), .int .i64 (.ofNat 0), .str 1 120, .int .i64 (.ofNat 0), .int .i64 (.ofNat 0), .int .i64 (.ofNat 0), .int .i64 (.ofNat 0), .nils, .int .i64 (.ofNat 201)] 157 true [])
def kX12 : Nat × Blk := (13, .row [.str 1 114] 9 true [])
def kX13 : Nat × Blk := (12, .row [.int .i64 (.ofNat 2), .int .i64 (.ofNat 0), .str 1 120, .int .i64 (.ofNat 0), .int .i64 (.ofNat 0), .int .i64 (.ofNat 0), .int .i64 (.ofNat 0), .nils, .int .i64 (.ofNat 210)] 157 true [])
def kX14 : Nat × Blk := (11, .row [.str 1 97, .nils, .nils, .nils, .slc 22 0 1 1 false 12, .int .i64 (.ofNat 224)] 163 true [])
def kX15 : Nat × Blk := (1050036, .row [.map 1050034, .map 1050035, .nilp] 98 true [])
def kX16 : Nat × Blk := (1050053, .map [] 0 [])
def kX17 : Nat × Blk := (1050506, .row [.ptr 1050043 0, .ptr 1050046 0, .ptr 1050049 0, .ptr 1050052 0] 101 true [1050347])
def kX18 : Nat × Blk := (1050501, .row [.ptr 1050352 0] 189 true [])
def kX19 : Nat × Blk := (10, .row [.str 1 97, .int .i64 (.ofNat 2), .int .i64 (.ofNat 0), .nils, .int .i64 (.ofNat 9), .str 1 98, .int .i64 (.ofNat 2), .int .i64 (.ofNat 0), .nils, .int .i64 (.ofNat 16)] 85 true [])
def kX20 : Nat × Blk := (9, .row [.str 1 99, .int .i64 (.ofNat 2), .int .i64 (.ofNat 0), .nils, .int .i64 (.ofNat 32)] 85 true [])
def kX21 : Nat × Blk := (8, .row [.slc 21 0 1 1 true 1, .int .i64 (.ofNat 4), .int .i64 (.ofNat 3), .str 0 0, .int .i64 (.ofNat 0), .int .i64 (.ofNat 0), .int .i64 (.ofNat 0), .int .i64 (.ofNat 0), .slc 20 0 2 2 true 9, .int .i64 (.ofNat 47), .nils, .int .i64 (.ofNat 43)] 160 true [])
def kX22 : Nat × Blk := (7, .row [.str 1 120, .int .i64 (.ofNat 2), .int .i64 (.ofNat 0), .nils, .int .i64 (.ofNat 65)] 85 true [])
def kX23 : Nat × Blk := (6, .row [.str 1 121, .int .i64 (.ofNat 2), .int .i64 (.ofNat 0), .nils, .int .i64 (.ofNat 81)] 85 true [])
def kX24 : Nat × Blk := (5, .row [.slc 19 0 1 1 true 1, .int .i64 (.ofNat 4), .int .i64 (.ofNat 3), .str 0 0, .int .i64 (.ofNat 0), .int .i64 (.ofNat 0), .int .i64 (.ofNat 0), .int .i64 (.ofNat 0), .slc 18 0 2 2 true 9, .int .i64 (.ofNat 96), .nils, .int .i64 (.ofNat 92)] 160 true [])
def kX25 : Nat × Blk := (24, .row [.int .i64 (.ofNat 6), .int .i64 (.ofNat 0), .str 0 0, .int .i64 (.ofNat 0), .int .i64 (.ofNat 0), .int .i64 (.ofNat 0), .int .i64 (.ofNat 0), .slc 28 0 1 1 true 9, .int .i64 (.ofNat 172), .int .i64 (.ofNat 2), .int .i64 (.ofNat 0), .str 1 120, .int .i64 (.ofNat 0), .int .i64 (.ofNat 0), .int .i64 (.ofNat 0), .int .i64 (.ofNat 0), .nils, .int .i64 (.ofNat 180)] 157 true [])
def kX26 : Nat × Blk := (23, .row [.int .i64 (.ofNat 1), .int .i64 (.ofNat 0), .str 0 0, .int .i64 (.ofNat 2), .int .i64 (.ofNat 0), .int .i64 (.ofNat 0), .int .i64 (.ofNat 0), .nils, .int .i64 (.ofNat 188), .int .i64 (.ofNat 2), .int .i64 (.ofNat 0), .str 1 113, .int .i64 (.ofNat 0), .int .i64 (.ofNat 0), .int .i64 (.ofNat 0), .int .i64 (.ofNat 0), .nils, .int .i64 (.ofNat 196)] 157 true [])
def kX27 : Nat × Blk := (22, .row [.slc 27 0 1 1 true 1, .int .i64 (.ofNat 13), .int .i64 (.ofNat 0), .str 3 6579297, .int .i64 (.ofNat 0), .int .i64 (.ofNat 0), .int .i64 (.ofNat 0), .int .i64 (.ofNat 0), .slc 26 0 2 2 false 9, .int .i64 (.ofNat 239), .nils, .int .i64 (.ofNat 235)] 160 true [])
def kX28 : Nat × Blk := (1050034, .map [0, 1, 2, 3, 4] 5 [(.str 1 120, .ptr 1050040 0), (.str 1 112, .ptr 1050043 0), (.str 1 113, .ptr 1050046 0), (.str 1 114, .ptr 1050049 0), (.str 1 116, .ptr 1050052 0)])
def kX29 : Nat × Blk := (1050035, .map [0, 1, 2, 3, 4] 5 [(.str 1 120, .agg [.str 1 120, .int .i64 (.ofNat 2), .int .i64 (.ofNat 0), .nils, .int .i64 (.ofNat 127)]), (.str 1 112, .agg [.str 1 112, .int .i64 (.ofNat 2), .int .i64 (.ofNat 0), .nils, .int .i64 (.ofNat 143)]), (.str 1 113, .agg [.str 1 113, .int .i64 (.ofNat 2), .int .i64 (.ofNat 0), .nils, .int .i64 (.ofNat 146)]), (.str 1 114, .agg [.str 1 114, .int .i64 (.ofNat 2), .int .i64 (.ofNat 0), .nils, .int .i64 (.ofNat 149)]), (.str 1 116, .agg [.str 1 116, .int .i64 (.ofNat 2), .int .i64 (.ofNat 0), .nils, .int .i64 (.ofNat 152)])])
def kX30 : Nat × Blk := (1050043, .row [.slc 1050042 0 1 1 true 1, .bool false, .int .i64 (.ofNat 0), .fn (Go.Fn.func 229) [] [.ptr 1050132 0, .ptr 1050056 0, .ptr 1050059 0, .ptr 1050131 0, .ptr 1050133 0, .ptr 1050134 0]] 110 true [])
def kX31 : Nat × Blk := (1050046, .row [.slc 1050045 0 1 1 true 1, .bool false, .int .i64 (.ofNat 0), .fn (Go.Fn.func 229) [] [.ptr 1050205 0, .ptr 1050144 0, .ptr 1050147 0, .ptr 1050204 0, .ptr 1050206 0, .ptr 1050207 0]] 110 true [])
def kX32 : Nat × Blk := (1050049, .row [.slc 1050048 0 1 1 true 1, .bool false, .int .i64 (.ofNat 0), .fn (Go.Fn.func 229) [] [.ptr 1050337 0, .ptr 1050217 0, .ptr 1050220 0, .ptr 1050336 0, .ptr 1050338 0, .ptr 1050339 0]] 110 true [])
def kX33 : Nat × Blk := (1050052, .row [.slc 1050051 0 1 1 true 1, .bool false, .int .i64 (.ofNat 0), .fn (Go.Fn.func 228) [] [.ptr 1050353 0, .ptr 1050349 0, .ptr 1050503 0, .ptr 1050504 0]] 110 true [])
def kX34 : Nat × Blk := (1050352, .row [.ptr 1050054 0, .nils, .int .i64 (.ofNat 0), .int .i64 (.ofNat 0), .str 0 0, .int .i64 (.ofNat 0), .int .i64 (.ofNat 0), .int .i64 (.ofNat 0), .int .i64 (.ofNat 0), .nils, .int .i64 (.ofNat 0), .slc 11 0 1 1 false 6, .int .i64 (.ofNat 214), .int .i64 (.ofNat 0), .bool false, .slc 1050351 0 1 1 true 1, .slc 1050356 0 1 1 false 1, .int .i64 (.ofNat 0)] 193 true [])
def kX35 : Nat × Blk := (21, .row [.str 1 99] 9 true [])
def kX36 : Nat × Blk := (20, .row [.int .i64 (.ofNat 2), .int .i64 (.ofNat 0), .str 1 97, .int .i64 (.ofNat 0), .int .i64 (.ofNat 0), .int .i64 (.ofNat 0), .int .i64 (.ofNat 0), .nils, .int .i64 (.ofNat 47), .int .i64 (.ofNat 2), .int .i64 (.ofNat 0), .str 1 98, .int .i64 (.ofNat 0), .int .i64 (.ofNat 0), .int .i64 (.ofNat 0), .int .i64 (.ofNat 0), .nils, .int .i64 (.ofNat 51)] 157 true [])
def kX37 : Nat × Blk := (19, .row [.str 1 121] 9 true [])
def kX38 : Nat × Blk := (18, .row [.int .i64 (.ofNat 2), .int .i64 (.ofNat 0), .str 1 120, .int .i64 (.ofNat 0), .int .i64 (.ofNat 0), .int .i64 (.ofNat 0), .int .i64 (.ofNat 0), .nils, .int .i64 (.ofNat 96), .int .i64 (.ofNat 7), .int .i64 (.ofNat 0), .str 0 0, .int .i64 (.ofNat 0), .int .i64 (.ofNat 0), .int .i64 (.ofNat 0), .int .i64 (.ofNat 0), .slc 25 0 2 2 true 9, .int .i64 (.ofNat 101)] 157 true [])
def kX39 : Nat × Blk := (28, .row [.int .i64 (.ofNat 2), .int .i64 (.ofNat 0), .str 1 112, .int .i64 (.ofNat 0), .int .i64 (.ofNat 0), .int .i64 (.ofNat 0), .int .i64 (.ofNat 0), .nils, .int .i64 (.ofNat 176)] 157 true [])
def kX40 : Nat × Blk := (27, .row [.str 1 116] 9 true [])
def kX41 : Nat × Blk := (26, .row [.int .i64 (.ofNat 2), .int .i64 (.ofNat 0), .str 1 120, .int .i64 (.ofNat 0), .int .i64 (.ofNat 0), .int .i64 (.ofNat 0), .int .i64 (.ofNat 0), .nils, .int .i64 (.ofNat 243), .int .i64 (.ofNat 8), .int .i64 (.ofNat 0), .str 0 0, .int .i64 (.ofNat 0), .int .i64 (.ofNat 0), .int .i64 (.ofNat 0), .int .i64 (.ofNat 0), .slc 30 0 2 2 true 9, .int .i64 (.ofNat 246)] 157 true [])
def kX42 : Nat × Blk := (1050040, .row [.slc 1050039 0 1 1 true 1, .bool false, .int .i64 (.ofNat 0), .fn (Go.Fn.func 122) [] []] 110 true [])
def kX43 : Nat × Blk := (1050042, .row [.int .i64 (.ofNat 0)] 3 true [])
def kX44 : Nat × Blk := (1050132, .row [.int .i64 (.ofNat 0)] 3 true [])
def kX45 : Nat × Blk := (1050056, .row [.ptr 1050054 0] 89 true [])
def kX46 : Nat × Blk := (1050059, .row [.str 1 112, .int .i64 (.ofNat 2), .int .i64 (.ofNat 0), .nils, .int .i64 (.ofNat 143)] 85 true [])
def kX47 : Nat × Blk := (1050131, .row [.fn (Go.Fn.func 100) [] [.ptr 1050129 0, .ptr 1050130 0], .int .i64 (.ofNat 2)] 171 true [])
def kX48 : Nat × Blk := (1050133, .row [.slc 1050138 0 1 1 false 1] 104 true [])
def kX49 : Nat × Blk := (1050134, .row [.slc 1050140 0 1 1 false 1] 22 true [])
def kX50 : Nat × Blk := (1050045, .row [.int .i64 (.ofNat 0)] 3 true [])
def kX51 : Nat × Blk := (1050205, .row [.int .i64 (.ofNat 0)] 3 true [])
def kX52 : Nat × Blk := (1050144, .row [.ptr 1050054 0] 89 true [])
def kX53 : Nat × Blk := (1050147, .row [.str 1 113, .int .i64 (.ofNat 2), .int .i64 (.ofNat 0), .nils, .int .i64 (.ofNat 146)] 85 true [])
def kX54 : Nat × Blk := (1050204, .row [.fn (Go.Fn.func 95) [] [.ptr 1050193 0, .ptr 1050150 0], .int .i64 (.ofNat 2)] 171 true [])
def kX55 : Nat × Blk := (1050206, .row [.slc 1050211 0 1 1 false 1] 104 true [])
def kX56 : Nat × Blk := (1050207, .row [.slc 1050213 0 1 1 false 1] 22 true [])
def kX57 : Nat × Blk := (1050048, .row [.int .i64 (.ofNat 0)] 3 true [])
def kX58 : Nat × Blk := (1050337, .row [.int .i64 (.ofNat 0)] 3 true [])
def kX59 : Nat × Blk := (1050217, .row [.ptr 1050054 0] 89 true [])
def kX60 : Nat × Blk := (1050220, .row [.str 1 114, .int .i64 (.ofNat 2), .int .i64 (.ofNat 0), .nils, .int .i64 (.ofNat 149)] 85 true [])
def kX61 : Nat × Blk := (1050336, .row [.fn (Go.Fn.func 112) [] [.ptr 1050335 0, .ptr 1050237 0], .int .i64 (.ofNat 2)] 171 true [])
def kX62 : Nat × Blk := (1050338, .row [.slc 1050343 0 1 1 false 1] 104 true [])
def kX63 : Nat × Blk := (1050339, .row [.slc 1050345 0 1 1 false 1] 22 true [])
def kX64 : Nat × Blk := (1050051, .row [.int .i64 (.ofNat 0)] 3 true [])
def kX65 : Nat × Blk := (1050353, .row [.ptr 1050352 0] 189 true [])
def kX66 : Nat × Blk := (1050349, .row [.ptr 1050054 0] 89 true [])
def kX67 : Nat × Blk := (1050503, .row [.str 1 116] 9 true [])
def kX68 : Nat × Blk := (1050504, .row [.ptr 1050052 0] 101 true [])
def kX69 : Nat × Blk := (1050351, .row [.ptr 1050362 0] 89 true [])
def kX70 : Nat × Blk := (1050356, .row [.nils] 106 true [])
def kX71 : Nat × Blk := (25, .row [.int .i64 (.ofNat 1), .int .i64 (.ofNat 0), .str 0 0, .int .i64 (.ofNat 2), .int .i64 (.ofNat 0), .int .i64 (.ofNat 0), .int .i64 (.ofNat 0), .nils, .int .i64 (.ofNat 101), .int .i64 (.ofNat 6), .int .i64 (.ofNat 0), .str 0 0, .int .i64 (.ofNat 0), .int .i64 (.ofNat 0), .int .i64 (.ofNat 0), .int .i64 (.ofNat 0), .slc 29 0 1 1 true 9, .int .i64 (.ofNat 108)] 157 true [])
def kX72 : Nat × Blk := (30, .row [.int .i64 (.ofNat 1), .int .i64 (.ofNat 0), .str 0 0, .int .i64 (.ofNat 2), .int .i64 (.ofNat 0), .int .i64 (.ofNat 0), .int .i64 (.ofNat 0), .nils, .int .i64 (.ofNat 246), .int .i64 (.ofNat 2), .int .i64 (.ofNat 0), .str 1 116, .int .i64 (.ofNat 0), .int .i64 (.ofNat 0), .int .i64 (.ofNat 0), .int .i64 (.ofNat 0), .nils, .int .i64 (.ofNat 254)] 157 true [])
def kX73 : Nat × Blk := (1050039, .row [.int .i64 (.ofNat 0)] 3 true [])
def kX74 : Nat × Blk := (1050129, .row [.slc 1050128 0 2 2 false 2] 174 true [])
def kX75 : Nat × Blk := (1050130, .row [.bool false] 4 true [])
def kX76 : Nat × Blk := (1050138, .row [.ptr 1050043 0] 101 true [])
def kX77 : Nat × Blk := (1050140, .row [.int .i64 (.ofNat 1)] 3 true [])
def kX78 : Nat × Blk := (1050193, .row [.slc 1050192 0 2 2 false 2] 174 true [])
def kX79 : Nat × Blk := (1050150, .row [.int .i64 (.ofNat 4), .int .i64 (.ofNat 3), .str 0 0, .int .i64 (.ofNat 0), .int .i64 (.ofNat 0), .int .i64 (.ofNat 0), .int .i64 (.ofNat 0), .slc 14 0 2 2 true 9, .int .i64 (.ofNat 188)] 157 true [])
def kX80 : Nat × Blk := (1050211, .row [.ptr 1050046 0] 101 true [])
def kX81 : Nat × Blk := (1050213, .row [.int .i64 (.ofNat 1)] 3 true [])
def kX82 : Nat × Blk := (1050335, .row [.fn (Go.Fn.func 28) [.ptr 1050238 0] []] 64 true [])
def kX83 : Nat × Blk := (1050237, .row [.slc 1050236 0 1 1 false 2] 174 true [])
def kX84 : Nat × Blk := (1050343, .row [.ptr 1050049 0] 101 true [])
def kX85 : Nat × Blk := (1050345, .row [.int .i64 (.ofNat 1)] 3 true [])
def kX86 : Nat × Blk := (1050362, .row [.ptr 1050033 0, .ptr 1050360 0, .map 1050361, .slc 1050499 0 1 1 false 1, .nils, .nils] 108 true [])
def kX87 : Nat × Blk := (29, .row [.int .i64 (.ofNat 2), .int .i64 (.ofNat 0), .str 1 121, .int .i64 (.ofNat 0), .int .i64 (.ofNat 0), .int .i64 (.ofNat 0), .int .i64 (.ofNat 0), .nils, .int .i64 (.ofNat 112)] 157 true [])
def kX88 : Nat × Blk := (1050128, .row [.fn (Go.Fn.func 89) [] [.ptr 1050068 0, .ptr 1050072 0], .int .i64 (.ofNat 2), .fn (Go.Fn.func 95) [] [.ptr 1050116 0, .ptr 1050079 0], .int .i64 (.ofNat 2)] 171 true [1050075])
def kX89 : Nat × Blk := (1050192, .row [.fn (Go.Fn.func 101) [] [.ptr 1050178 0, .ptr 1050179 0, .ptr 1050156 0], .int .i64 (.ofNat 2), .fn (Go.Fn.func 89) [] [.ptr 1050185 0, .ptr 1050189 0], .int .i64 (.ofNat 2)] 171 true [1050181])
def kX90 : Nat × Blk := (1050238, .row [.ptr 1050029 0, .int .i64 (.ofNat 0), .nils, .str 1 115, .slc 7 0 1 1 false 5, .slc 6 0 1 1 false 5, .nils, .slc 5 0 1 1 false 12, .int .i64 (.ofNat 58), .ptr 1050250 0] 94 true [])
def kX91 : Nat × Blk := (1050236, .row [.fn (Go.Fn.func 89) [] [.ptr 1050229 0, .ptr 1050233 0], .int .i64 (.ofNat 2)] 171 true [])
def kX92 : Nat × Blk := (1050360, .row [.map 1050358, .map 1050359, .ptr 1050036 0] 98 true [])
def kX93 : Nat × Blk := (1050361, .map [0] 1 [(.str 1 116, .ptr 1050493 0)])
def kX94 : Nat × Blk := (1050499, .row [.ptr 1050493 0] 101 true [])
def kX95 : Nat × Blk := (1050068, .row [.ptr 1050054 0] 89 true [])
def kX96 : Nat × Blk := (1050072, .row [.ptr 1050040 0] 101 true [])
def kX97 : Nat × Blk := (1050116, .row [.slc 1050115 0 2 2 false 2] 174 true [])
def kX98 : Nat × Blk := (1050079, .row [.int .i64 (.ofNat 4), .int .i64 (.ofNat 3), .str 0 0, .int .i64 (.ofNat 0), .int .i64 (.ofNat 0), .int .i64 (.ofNat 0), .int .i64 (.ofNat 0), .slc 24 0 2 2 true 9, .int .i64 (.ofNat 172)] 157 true [])
def kX99 : Nat × Blk := (1050178, .row [.slc 1050177 0 2 2 false 2] 174 true [])
def kX100 : Nat × Blk := (1050179, .row [.nils] 67 true [])
def kX101 : Nat × Blk := (1050156, .row [.ptr 1050054 0] 89 true [])
def kX102 : Nat × Blk := (1050185, .row [.ptr 1050054 0] 89 true [])
def kX103 : Nat × Blk := (1050189, .row [.ptr 1050040 0] 101 true [])
def kX104 : Nat × Blk := (1050250, .row [.ptr 1050238 0, .ptr 1050241 0, .map 1050249, .slc 1050334 0 1 1 false 1, .nils, .nils] 108 true [])
def kX105 : Nat × Blk := (1050229, .row [.ptr 1050054 0] 89 true [])
def kX106 : Nat × Blk := (1050233, .row [.ptr 1050040 0] 101 true [])
def kX107 : Nat × Blk := (1050358, .map [] 0 [])
def kX108 : Nat × Blk := (1050359, .map [] 0 [])
def kX109 : Nat × Blk := (1050493, .row [.slc 1050492 0 1 1 true 1, .bool false, .int .i64 (.ofNat 0), .fn (Go.Fn.func 229) [] [.ptr 1050487 0, .ptr 1050364 0, .ptr 1050367 0, .ptr 1050486 0, .ptr 1050488 0, .ptr 1050489 0]] 110 true [])
def kX110 : Nat × Blk := (1050115, .row [.fn (Go.Fn.func 98) [] [.ptr 1050085 0, .ptr 1050100 0, .ptr 1050102 0], .int .i64 (.ofNat 2), .fn (Go.Fn.func 89) [] [.ptr 1050108 0, .ptr 1050112 0], .int .i64 (.ofNat 2)] 171 true [1050104])
def kX111 : Nat × Blk := (1050177, .row [.fn (Go.Fn.func 88) [] [.ptr 1050163 0], .int .i64 (.ofNat 2), .fn (Go.Fn.func 89) [] [.ptr 1050170 0, .ptr 1050174 0], .int .i64 (.ofNat 2)] 171 true [1050166])
def kX112 : Nat × Blk := (1050241, .row [.map 1050239, .map 1050240, .nilp] 98 true [])
def kX113 : Nat × Blk := (1050249, .map [] 0 [])
def kX114 : Nat × Blk := (1050334, .row [.ptr 1050248 0] 101 true [])
def kX115 : Nat × Blk := (1050492, .row [.int .i64 (.ofNat 0)] 3 true [])
def kX116 : Nat × Blk := (1050487, .row [.int .i64 (.ofNat 0)] 3 true [])
def kX117 : Nat × Blk := (1050364, .row [.ptr 1050362 0] 89 true [])
def kX118 : Nat × Blk := (1050367, .row [.str 1 116, .int .i64 (.ofNat 2), .int .i64 (.ofNat 0), .nils, .int .i64 (.ofNat 152)] 85 true [])
def kX119 : Nat × Blk := (1050486, .row [.fn (Go.Fn.func 112) [] [.ptr 1050485 0, .ptr 1050413 0], .int .i64 (.ofNat 2)] 171 true [])
def kX120 : Nat × Blk := (1050488, .row [.slc 1050495 0 1 1 false 1] 104 true [])
def kX121 : Nat × Blk := (1050489, .row [.slc 1050497 0 1 1 false 1] 22 true [])
def kX122 : Nat × Blk := (1050085, .row [.ptr 1050054 0] 89 true [])
def kX123 : Nat × Blk := (1050100, .row [.slc 1050099 0 1 1 false 2] 174 true [])
def kX124 : Nat × Blk := (1050102, .row [.slc 1050101 0 16 16 true 1] 67 true [])
def kX125 : Nat × Blk := (1050108, .row [.ptr 1050054 0] 89 true [])
def kX126 : Nat × Blk := (1050112, .row [.ptr 1050040 0] 101 true [])
def kX127 : Nat × Blk := (1050163, .row [.int .i64 (.ofNat 1), .int .i64 (.ofNat 0), .str 0 0, .int .i64 (.ofNat 2), .int .i64 (.ofNat 0), .int .i64 (.ofNat 0), .int .i64 (.ofNat 0), .nils, .int .i64 (.ofNat 188)] 157 true [])
def kX128 : Nat × Blk := (1050170, .row [.ptr 1050054 0] 89 true [])
def kX129 : Nat × Blk := (1050174, .row [.ptr 1050046 0] 101 true [])
def kX130 : Nat × Blk := (1050239, .map [0, 1] 2 [(.str 1 120, .ptr 1050245 0), (.str 1 121, .ptr 1050248 0)])
def kX131 : Nat × Blk := (1050240, .map [0, 1] 2 [(.str 1 120, .agg [.str 1 120, .int .i64 (.ofNat 2), .int .i64 (.ofNat 0), .nils, .int .i64 (.ofNat 65)]), (.str 1 121, .agg [.str 1 121, .int .i64 (.ofNat 2), .int .i64 (.ofNat 0), .nils, .int .i64 (.ofNat 81)])])
def kX132 : Nat × Blk := (1050248, .row [.slc 1050247 0 1 1 true 1, .bool false, .int .i64 (.ofNat 0), .fn (Go.Fn.func 229) [] [.ptr 1050324 0, .ptr 1050252 0, .ptr 1050255 0, .ptr 1050323 0, .ptr 1050325 0, .ptr 1050326 0]] 110 true [])
def kX133 : Nat × Blk := (1050485, .row [.fn (Go.Fn.func 28) [.ptr 1050414 0] []] 64 true [])
def kX134 : Nat × Blk := (1050413, .row [.slc 1050412 0 2 2 false 2] 174 true [])
def kX135 : Nat × Blk := (1050495, .row [.ptr 1050493 0] 101 true [])
def kX136 : Nat × Blk := (1050497, .row [.int .i64 (.ofNat 1)] 3 true [])
def kX137 : Nat × Blk := (1050099, .row [.fn (Go.Fn.func 89) [] [.ptr 1050092 0, .ptr 1050096 0], .int .i64 (.ofNat 2)] 171 true [])
def kX138 : Nat × Blk := (1050101, .row [.int .i64 (.ofNat 0), .int .i64 (.ofNat 0), .int .i64 (.ofNat 0), .int .i64 (.ofNat 0), .int .i64 (.ofNat 0), .int .i64 (.ofNat 0), .int .i64 (.ofNat 0), .int .i64 (.ofNat 0), .int .i64 (.ofNat 0), .int .i64 (.ofNat 0), .int .i64 (.ofNat 0), .int .i64 (.ofNat 0), .int .i64 (.ofNat 0), .int .i64 (.ofNat 0), .int .i64 (.ofNat 0), .int .i64 (.ofNat 0)] 3 true [])
def kX139 : Nat × Blk := (1050245, .row [.slc 1050244 0 1 1 true 1, .bool false, .int .i64 (.ofNat 0), .fn (Go.Fn.func 122) [] []] 110 true [])
def kX140 : Nat × Blk := (1050247, .row [.int .i64 (.ofNat 0)] 3 true [])
def kX141 : Nat × Blk := (1050324, .row [.int .i64 (.ofNat 0)] 3 true [])
def kX142 : Nat × Blk := (1050252, .row [.ptr 1050250 0] 89 true [])
def kX143 : Nat × Blk := (1050255, .row [.str 1 121, .int .i64 (.ofNat 2), .int .i64 (.ofNat 0), .nils, .int .i64 (.ofNat 81)] 85 true [])
def kX144 : Nat × Blk := (1050323, .row [.fn (Go.Fn.func 95) [] [.ptr 1050312 0, .ptr 1050258 0], .int .i64 (.ofNat 2)] 171 true [])
def kX145 : Nat × Blk := (1050325, .row [.slc 1050330 0 1 1 false 1] 104 true [])
def kX146 : Nat × Blk := (1050326, .row [.slc 1050332 0 1 1 false 1] 22 true [])
def kX147 : Nat × Blk := (1050414, .row [.ptr 1050029 0, .int .i64 (.ofNat 0), .nils, .str 3 6579297, .slc 10 0 2 2 false 5, .slc 9 0 1 1 false 5, .nils, .slc 8 0 1 1 false 12, .int .i64 (.ofNat 0), .ptr 1050429 0] 94 true [])
def kX148 : Nat × Blk := (1050412, .row [.fn (Go.Fn.func 89) [] [.ptr 1050376 0, .ptr 1050380 0], .int .i64 (.ofNat 2), .fn (Go.Fn.func 101) [] [.ptr 1050409 0, .ptr 1050410 0, .ptr 1050387 0], .int .i64 (.ofNat 2)] 171 true [1050383])
def kX149 : Nat × Blk := (1050092, .row [.ptr 1050054 0] 89 true [])
def kX150 : Nat × Blk := (1050096, .row [.ptr 1050043 0] 101 true [])
def kX151 : Nat × Blk := (1050244, .row [.int .i64 (.ofNat 0)] 3 true [])
def kX152 : Nat × Blk := (1050312, .row [.slc 1050311 0 2 2 false 2] 174 true [])
def kX153 : Nat × Blk := (1050258, .row [.int .i64 (.ofNat 4), .int .i64 (.ofNat 3), .str 0 0, .int .i64 (.ofNat 0), .int .i64 (.ofNat 0), .int .i64 (.ofNat 0), .int .i64 (.ofNat 0), .slc 18 0 2 2 true 9, .int .i64 (.ofNat 96)] 157 true [])
def kX154 : Nat × Blk := (1050330, .row [.ptr 1050248 0] 101 true [])
def kX155 : Nat × Blk := (1050332, .row [.int .i64 (.ofNat 1)] 3 true [])
def kX156 : Nat × Blk := (1050429, .row [.ptr 1050414 0, .ptr 1050417 0, .map 1050428, .slc 1050484 0 1 1 false 1, .nils, .nils] 108 true [])
def kX157 : Nat × Blk := (1050376, .row [.ptr 1050362 0] 89 true [])
def kX158 : Nat × Blk := (1050380, .row [.ptr 1050040 0] 101 true [])
def kX159 : Nat × Blk := (1050409, .row [.slc 1050408 0 2 2 false 2] 174 true [])
def kX160 : Nat × Blk := (1050410, .row [.nils] 67 true [])
def kX161 : Nat × Blk := (1050387, .row [.ptr 1050362 0] 89 true [])
def kX162 : Nat × Blk := (1050311, .row [.fn (Go.Fn.func 89) [] [.ptr 1050264 0, .ptr 1050268 0], .int .i64 (.ofNat 2), .fn (Go.Fn.func 100) [] [.ptr 1050308 0, .ptr 1050309 0], .int .i64 (.ofNat 2)] 171 true [1050271])
def kX163 : Nat × Blk := (1050417, .row [.map 1050415, .map 1050416, .nilp] 98 true [])
def kX164 : Nat × Blk := (1050428, .map [] 0 [])
def kX165 : Nat × Blk := (1050484, .row [.ptr 1050427 0] 101 true [])
def kX166 : Nat × Blk := (1050408, .row [.fn (Go.Fn.func 88) [] [.ptr 1050394 0], .int .i64 (.ofNat 2), .fn (Go.Fn.func 89) [] [.ptr 1050401 0, .ptr 1050405 0], .int .i64 (.ofNat 2)] 171 true [1050397])
def kX167 : Nat × Blk := (1050264, .row [.ptr 1050250 0] 89 true [])
def kX168 : Nat × Blk := (1050268, .row [.ptr 1050245 0] 101 true [])
def kX169 : Nat × Blk := (1050308, .row [.slc 1050307 0 2 2 false 2] 174 true [])
def kX170 : Nat × Blk := (1050309, .row [.bool false] 4 true [])
def kX171 : Nat × Blk := (1050415, .map [0, 1, 2] 3 [(.str 1 97, .ptr 1050421 0), (.str 1 98, .ptr 1050424 0), (.str 1 99, .ptr 1050427 0)])
def kX172 : Nat × Blk := (1050416, .map [0, 1, 2] 3 [(.str 1 97, .agg [.str 1 97, .int .i64 (.ofNat 2), .int .i64 (.ofNat 0), .nils, .int .i64 (.ofNat 9)]), (.str 1 98, .agg [.str 1 98, .int .i64 (.ofNat 2), .int .i64 (.ofNat 0), .nils, .int .i64 (.ofNat 16)]), (.str 1 99, .agg [.str 1 99, .int .i64 (.ofNat 2), .int .i64 (.ofNat 0), .nils, .int .i64 (.ofNat 32)])])
def kX173 : Nat × Blk := (1050427, .row [.slc 1050426 0 1 1 true 1, .bool false, .int .i64 (.ofNat 0), .fn (Go.Fn.func 229) [] [.ptr 1050474 0, .ptr 1050431 0, .ptr 1050434 0, .ptr 1050473 0, .ptr 1050475 0, .ptr 1050476 0]] 110 true [])
def kX174 : Nat × Blk := (1050394, .row [.int .i64 (.ofNat 1), .int .i64 (.ofNat 0), .str 0 0, .int .i64 (.ofNat 2), .int .i64 (.ofNat 0), .int .i64 (.ofNat 0), .int .i64 (.ofNat 0), .nils, .int .i64 (.ofNat 246)] 157 true [])
def kX175 : Nat × Blk := (1050401, .row [.ptr 1050362 0] 89 true [])
def kX176 : Nat × Blk := (1050405, .row [.ptr 1050052 0] 101 true [])
def kX177 : Nat × Blk := (1050307, .row [.fn (Go.Fn.func 88) [] [.ptr 1050281 0], .int .i64 (.ofNat 2), .fn (Go.Fn.func 98) [] [.ptr 1050288 0, .ptr 1050303 0, .ptr 1050305 0], .int .i64 (.ofNat 2)] 171 true [1050284])
def kX178 : Nat × Blk := (1050421, .row [.slc 1050420 0 1 1 true 1, .bool false, .int .i64 (.ofNat 0), .fn (Go.Fn.func 122) [] []] 110 true [])
def kX179 : Nat × Blk := (1050424, .row [.slc 1050423 0 1 1 true 1, .bool false, .int .i64 (.ofNat 0), .fn (Go.Fn.func 122) [] []] 110 true [])
def kX180 : Nat × Blk := (1050426, .row [.int .i64 (.ofNat 0)] 3 true [])
def kX181 : Nat × Blk := (1050474, .row [.int .i64 (.ofNat 0)] 3 true [])
def kX182 : Nat × Blk := (1050431, .row [.ptr 1050429 0] 89 true [])
def kX183 : Nat × Blk := (1050434, .row [.str 1 99, .int .i64 (.ofNat 2), .int .i64 (.ofNat 0), .nils, .int .i64 (.ofNat 32)] 85 true [])
def kX184 : Nat × Blk := (1050473, .row [.fn (Go.Fn.func 95) [] [.ptr 1050462 0, .ptr 1050437 0], .int .i64 (.ofNat 2)] 171 true [])
def kX185 : Nat × Blk := (1050475, .row [.slc 1050480 0 1 1 false 1] 104 true [])
def kX186 : Nat × Blk := (1050476, .row [.slc 1050482 0 1 1 false 1] 22 true [])
def kX187 : Nat × Blk := (1050281, .row [.int .i64 (.ofNat 1), .int .i64 (.ofNat 0), .str 0 0, .int .i64 (.ofNat 2), .int .i64 (.ofNat 0), .int .i64 (.ofNat 0), .int .i64 (.ofNat 0), .nils, .int .i64 (.ofNat 101)] 157 true [])
def kX188 : Nat × Blk := (1050288, .row [.ptr 1050250 0] 89 true [])
def kX189 : Nat × Blk := (1050303, .row [.slc 1050302 0 1 1 false 2] 174 true [])
def kX190 : Nat × Blk := (1050305, .row [.slc 1050304 0 16 16 true 1] 67 true [])
def kX191 : Nat × Blk := (1050420, .row [.int .i64 (.ofNat 0)] 3 true [])
def kX192 : Nat × Blk := (1050423, .row [.int .i64 (.ofNat 0)] 3 true [])
def kX193 : Nat × Blk := (1050462, .row [.slc 1050461 0 2 2 false 2] 174 true [])
def kX194 : Nat × Blk := (1050437, .row [.int .i64 (.ofNat 4), .int .i64 (.ofNat 3), .str 0 0, .int .i64 (.ofNat 0), .int .i64 (.ofNat 0), .int .i64 (.ofNat 0), .int .i64 (.ofNat 0), .slc 20 0 2 2 true 9, .int .i64 (.ofNat 47)] 157 true [])
def kX195 : Nat × Blk := (1050480, .row [.ptr 1050427 0] 101 true [])
def kX196 : Nat × Blk := (1050482, .row [.int .i64 (.ofNat 1)] 3 true [])
def kX197 : Nat × Blk := (1050302, .row [.fn (Go.Fn.func 89) [] [.ptr 1050295 0, .ptr 1050299 0], .int .i64 (.ofNat 2)] 171 true [])
def kX198 : Nat × Blk := (1050304, .row [.int .i64 (.ofNat 0), .int .i64 (.ofNat 0), .int .i64 (.ofNat 0), .int .i64 (.ofNat 0), .int .i64 (.ofNat 0), .int .i64 (.ofNat 0), .int .i64 (.ofNat 0), .int .i64 (.ofNat 0), .int .i64 (.ofNat 0), .int .i64 (.ofNat 0), .int .i64 (.ofNat 0), .int .i64 (.ofNat 0), .int .i64 (.ofNat 0), .int .i64 (.ofNat 0), .int .i64 (.ofNat 0), .int .i64 (.ofNat 0)] 3 true [])
def kX199 : Nat × Blk := (1050461, .row [.fn (Go.Fn.func 89) [] [.ptr 1050443 0, .ptr 1050447 0], .int .i64 (.ofNat 2), .fn (Go.Fn.func 89) [] [.ptr 1050454 0, .ptr 1050458 0], .int .i64 (.ofNat 2)] 171 true [1050450])
def kX200 : Nat × Blk := (1050295, .row [.ptr 1050250 0] 89 true [])
def kX201 : Nat × Blk := (1050299, .row [.ptr 1050248 0] 101 true [])
def kX202 : Nat × Blk := (1050443, .row [.ptr 1050429 0] 89 true [])
def kX203 : Nat × Blk := (1050447, .row [.ptr 1050421 0] 101 true [])
def kX204 : Nat × Blk := (1050454, .row [.ptr 1050429 0] 89 true [])
def kX205 : Nat × Blk := (1050458, .row [.ptr 1050424 0] 101 true [])
def kX206 : Nat × Blk := (1050033, .row [.ptr 1050029 0, .int .i64 (.ofNat 1), .nils, .str 1 102, .slc 4 0 1 1 false 5, .slc 3 0 4 4 false 5, .nils, .slc 2 0 4 4 false 12, .int .i64 (.ofNat 120), .ptr 1050054 0] 94 true [])
def kX207 : Nat × Blk := (1050506, .row [.ptr 1050043 0, .ptr 1050046 0, .ptr 1050049 0, .ptr 1050052 0] 101 true [])
def kX208 : Nat × Blk := (1050043, .row [.slc 1050508 0 1 1 true 1, .bool true, .int .i64 (.ofNat 1), .fn (Go.Fn.func 229) [] [.ptr 1050132 0, .ptr 1050056 0, .ptr 1050059 0, .ptr 1050131 0, .ptr 1050133 0, .ptr 1050134 0]] 110 true [])
def kX209 : Nat × Blk := (1050046, .row [.slc 1050509 0 1 1 true 1, .bool true, .int .i64 (.ofNat 1), .fn (Go.Fn.func 229) [] [.ptr 1050205 0, .ptr 1050144 0, .ptr 1050147 0, .ptr 1050204 0, .ptr 1050206 0, .ptr 1050207 0]] 110 true [])
def kX210 : Nat × Blk := (1050049, .row [.slc 1050510 0 1 1 true 1, .bool true, .int .i64 (.ofNat 1), .fn (Go.Fn.func 229) [] [.ptr 1050337 0, .ptr 1050217 0, .ptr 1050220 0, .ptr 1050336 0, .ptr 1050338 0, .ptr 1050339 0]] 110 true [])
def kX211 : Nat × Blk := (1050052, .row [.slc 1050511 0 1 1 true 1, .bool true, .int .i64 (.ofNat 1), .fn (Go.Fn.func 228) [] [.ptr 1050353 0, .ptr 1050349 0, .ptr 1050503 0, .ptr 1050504 0]] 110 true [])
def kX212 : Nat × Blk := (1050352, .row [.ptr 1050054 0, .nils, .int .i64 (.ofNat 0), .int .i64 (.ofNat 0), .str 0 0, .int .i64 (.ofNat 0), .int .i64 (.ofNat 0), .int .i64 (.ofNat 0), .int .i64 (.ofNat 0), .nils, .int .i64 (.ofNat 0), .slc 11 0 1 1 false 6, .int .i64 (.ofNat 214), .int .i64 (.ofNat 0), .bool false, .slc 1050351 0 1 1 true 1, .slc 1050356 0 1 1 false 1, .int .i64 (.ofNat 1)] 193 true [])
def kX213 : Nat × Blk := (1050040, .row [.slc 1050508 0 1 1 true 1, .bool true, .int .i64 (.ofNat 1), .fn (Go.Fn.func 122) [] []] 110 true [])
def kX214 (x0 : Int) : Nat × Blk := (1050508, .row [.int .i64 x0] 3 true [])
def kX215 : Nat × Blk := (1050132, .row [.int .i64 (.ofNat 1)] 3 true [])
def kX216 (x0 : Int) : Nat × Blk := (1050509, .row [.int .i64 x0] 3 true [])
def kX217 : Nat × Blk := (1050205, .row [.int .i64 (.ofNat 1)] 3 true [])
def kX218 (x0 : Int) : Nat × Blk := (1050510, .row [.int .i64 x0] 3 true [])
def kX219 : Nat × Blk := (1050337, .row [.int .i64 (.ofNat 1)] 3 true [])
def kX220 (x0 : Int) : Nat × Blk := (1050511, .row [.int .i64 x0] 3 true [])
def kX221 : Nat × Blk := (1050130, .row [.bool true] 4 true [])
def kX222 : Nat × Blk := (1050128, .row [.fn (Go.Fn.func 89) [] [.ptr 1050068 0, .ptr 1050072 0], .int .i64 (.ofNat 2), .fn (Go.Fn.func 95) [] [.ptr 1050116 0, .ptr 1050079 0], .int .i64 (.ofNat 2)] 171 true [])
def kX223 : Nat × Blk := (1050192, .row [.fn (Go.Fn.func 101) [] [.ptr 1050178 0, .ptr 1050179 0, .ptr 1050156 0], .int .i64 (.ofNat 2), .fn (Go.Fn.func 89) [] [.ptr 1050185 0, .ptr 1050189 0], .int .i64 (.ofNat 2)] 171 true [])
def kX224 : Nat × Blk := (1050238, .row [.ptr 1050029 0, .int .i64 (.ofNat 1), .nils, .str 1 115, .slc 7 0 1 1 false 5, .slc 6 0 1 1 false 5, .nils, .slc 5 0 1 1 false 12, .int .i64 (.ofNat 58), .ptr 1050250 0] 94 true [])
def kX225 : Nat × Blk := (1050179, .row [.slc 1050509 0 1 1 true 1] 67 true [])
def kX226 : Nat × Blk := (1050493, .row [.slc 1050511 0 1 1 true 1, .bool true, .int .i64 (.ofNat 1), .fn (Go.Fn.func 229) [] [.ptr 1050487 0, .ptr 1050364 0, .ptr 1050367 0, .ptr 1050486 0, .ptr 1050488 0, .ptr 1050489 0]] 110 true [])
def kX227 : Nat × Blk := (1050115, .row [.fn (Go.Fn.func 98) [] [.ptr 1050085 0, .ptr 1050100 0, .ptr 1050102 0], .int .i64 (.ofNat 2), .fn (Go.Fn.func 89) [] [.ptr 1050108 0, .ptr 1050112 0], .int .i64 (.ofNat 2)] 171 true [])
def kX228 : Nat × Blk := (1050177, .row [.fn (Go.Fn.func 88) [] [.ptr 1050163 0], .int .i64 (.ofNat 2), .fn (Go.Fn.func 89) [] [.ptr 1050170 0, .ptr 1050174 0], .int .i64 (.ofNat 2)] 171 true [])
def kX229 : Nat × Blk := (1050487, .row [.int .i64 (.ofNat 1)] 3 true [])
def kX230 : Nat × Blk := (1050102, .row [.slc 1050508 0 1 1 true 1] 67 true [])
def kX231 : Nat × Blk := (1050248, .row [.slc 1050512 0 1 1 true 1, .bool true, .int .i64 (.ofNat 1), .fn (Go.Fn.func 229) [] [.ptr 1050324 0, .ptr 1050252 0, .ptr 1050255 0, .ptr 1050323 0, .ptr 1050325 0, .ptr 1050326 0]] 110 true [])
def kX232 : Nat × Blk := (1050245, .row [.slc 1050513 0 1 1 true 1, .bool true, .int .i64 (.ofNat 1), .fn (Go.Fn.func 122) [] []] 110 true [])
def kX233 (x0 : Int) : Nat × Blk := (1050512, .row [.int .i64 x0] 3 true [])
def kX234 : Nat × Blk := (1050324, .row [.int .i64 (.ofNat 1)] 3 true [])
def kX235 : Nat × Blk := (1050414, .row [.ptr 1050029 0, .int .i64 (.ofNat 1), .nils, .str 3 6579297, .slc 10 0 2 2 false 5, .slc 9 0 1 1 false 5, .nils, .slc 8 0 1 1 false 12, .int .i64 (.ofNat 0), .ptr 1050429 0] 94 true [])
def kX236 : Nat × Blk := (1050412, .row [.fn (Go.Fn.func 89) [] [.ptr 1050376 0, .ptr 1050380 0], .int .i64 (.ofNat 2), .fn (Go.Fn.func 101) [] [.ptr 1050409 0, .ptr 1050410 0, .ptr 1050387 0], .int .i64 (.ofNat 2)] 171 true [])
def kX237 (x0 : Int) : Nat × Blk := (1050513, .row [.int .i64 x0] 3 true [])
def kX238 : Nat × Blk := (1050410, .row [.slc 1050511 0 1 1 true 1] 67 true [])
def kX239 : Nat × Blk := (1050311, .row [.fn (Go.Fn.func 89) [] [.ptr 1050264 0, .ptr 1050268 0], .int .i64 (.ofNat 2), .fn (Go.Fn.func 100) [] [.ptr 1050308 0, .ptr 1050309 0], .int .i64 (.ofNat 2)] 171 true [])
def kX240 : Nat × Blk := (1050408, .row [.fn (Go.Fn.func 88) [] [.ptr 1050394 0], .int .i64 (.ofNat 2), .fn (Go.Fn.func 89) [] [.ptr 1050401 0, .ptr 1050405 0], .int .i64 (.ofNat 2)] 171 true [])
def kX241 : Nat × Blk := (1050309, .row [.bool true] 4 true [])
def kX242 : Nat × Blk := (1050427, .row [.slc 1050514 0 1 1 true 1, .bool true, .int .i64 (.ofNat 1), .fn (Go.Fn.func 229) [] [.ptr 1050474 0, .ptr 1050431 0, .ptr 1050434 0, .ptr 1050473 0, .ptr 1050475 0, .ptr 1050476 0]] 110 true [])
def kX243 : Nat × Blk := (1050307, .row [.fn (Go.Fn.func 88) [] [.ptr 1050281 0], .int .i64 (.ofNat 2), .fn (Go.Fn.func 98) [] [.ptr 1050288 0, .ptr 1050303 0, .ptr 1050305 0], .int .i64 (.ofNat 2)] 171 true [])
def kX244 : Nat × Blk := (1050421, .row [.slc 1050515 0 1 1 true 1, .bool true, .int .i64 (.ofNat 1), .fn (Go.Fn.func 122) [] []] 110 true [])
def kX245 : Nat × Blk := (1050424, .row [.slc 1050515 1 1 1 true 1, .bool true, .int .i64 (.ofNat 1), .fn (Go.Fn.func 122) [] []] 110 true [])
def kX246 (x0 : Int) : Nat × Blk := (1050514, .row [.int .i64 x0] 3 true [])
def kX247 : Nat × Blk := (1050474, .row [.int .i64 (.ofNat 1)] 3 true [])
def kX248 : Nat × Blk := (1050305, .row [.slc 1050512 0 1 1 true 1] 67 true [])
def kX249 (x0 : Int) : Nat × Blk := (1050515, .row [.int .i64 x0, .int .i64 (.ofNat 0)] 3 true [])
def kX250 : Nat × Blk := (1050461, .row [.fn (Go.Fn.func 89) [] [.ptr 1050443 0, .ptr 1050447 0], .int .i64 (.ofNat 2), .fn (Go.Fn.func 89) [] [.ptr 1050454 0, .ptr 1050458 0], .int .i64 (.ofNat 2)] 171 true [])
def kX251 (x0 : Int) : Nat × Blk := (1050033, .row [.ptr 1050029 0, .int .i64 x0, .nils, .str 1 102, .slc 4 0 1 1 false 5, .slc 3 0 4 4 false 5, .nils, .slc 2 0 4 4 false 12, .int .i64 (.ofNat 120), .ptr 1050054 0] 94 true [])
def kX252 (x0 : Int) : Nat × Blk := (1050043, .row [.slc 1050508 0 1 1 true 1, .bool true, .int .i64 x0, .fn (Go.Fn.func 229) [] [.ptr 1050132 0, .ptr 1050056 0, .ptr 1050059 0, .ptr 1050131 0, .ptr 1050133 0, .ptr 1050134 0]] 110 true [])
def kX253 (x0 : Int) : Nat × Blk := (1050046, .row [.slc 1050509 0 1 1 true 1, .bool true, .int .i64 x0, .fn (Go.Fn.func 229) [] [.ptr 1050205 0, .ptr 1050144 0, .ptr 1050147 0, .ptr 1050204 0, .ptr 1050206 0, .ptr 1050207 0]] 110 true [])
def kX254 (x0 : Int) : Nat × Blk := (1050049, .row [.slc 1050510 0 1 1 true 1, .bool true, .int .i64 x0, .fn (Go.Fn.func 229) [] [.ptr 1050337 0, .ptr 1050217 0, .ptr 1050220 0, .ptr 1050336 0, .ptr 1050338 0, .ptr 1050339 0]] 110 true [])
def kX255 (x0 : Int) : Nat × Blk := (1050052, .row [.slc 1050511 0 1 1 true 1, .bool true, .int .i64 x0, .fn (Go.Fn.func 228) [] [.ptr 1050353 0, .ptr 1050349 0, .ptr 1050503 0, .ptr 1050504 0]] 110 true [])
def kX256 (x0 : Int) : Nat × Blk := (1050352, .row [.ptr 1050054 0, .nils, .int .i64 (.ofNat 0), .int .i64 (.ofNat 0), .str 0 0, .int .i64 (.ofNat 0), .int .i64 (.ofNat 0), .int .i64 (.ofNat 0), .int .i64 (.ofNat 0), .nils, .int .i64 (.ofNat 0), .slc 11 0 1 1 false 6, .int .i64 (.ofNat 214), .int .i64 (.ofNat 0), .bool false, .slc 1050351 0 1 1 true 1, .slc 1050356 0 1 1 false 1, .int .i64 x0] 193 true [])
def kX257 (x0 : Int) : Nat × Blk := (1050040, .row [.slc 1050512 0 1 1 true 1, .bool true, .int .i64 x0, .fn (Go.Fn.func 122) [] []] 110 true [])
def kX258 (x0 : Int) : Nat × Blk := (1050132, .row [.int .i64 x0] 3 true [])
def kX259 (x0 : Int) : Nat × Blk := (1050205, .row [.int .i64 x0] 3 true [])
def kX260 (x0 : Int) : Nat × Blk := (1050337, .row [.int .i64 x0] 3 true [])
def kX261 (x0 : Int) : Nat × Blk := (1050238, .row [.ptr 1050029 0, .int .i64 x0, .nils, .str 1 115, .slc 7 0 1 1 false 5, .slc 6 0 1 1 false 5, .nils, .slc 5 0 1 1 false 12, .int .i64 (.ofNat 58), .ptr 1050250 0] 94 true [])
def kX262 (x0 : Int) : Nat × Blk := (1050493, .row [.slc 1050511 0 1 1 true 1, .bool true, .int .i64 x0, .fn (Go.Fn.func 229) [] [.ptr 1050487 0, .ptr 1050364 0, .ptr 1050367 0, .ptr 1050486 0, .ptr 1050488 0, .ptr 1050489 0]] 110 true [])
def kX263 (x0 : Int) : Nat × Blk := (1050487, .row [.int .i64 x0] 3 true [])
def kX264 (x0 : Int) : Nat × Blk := (1050248, .row [.slc 1050513 0 1 1 true 1, .bool true, .int .i64 x0, .fn (Go.Fn.func 229) [] [.ptr 1050324 0, .ptr 1050252 0, .ptr 1050255 0, .ptr 1050323 0, .ptr 1050325 0, .ptr 1050326 0]] 110 true [])
def kX265 (x0 : Int) : Nat × Blk := (1050245, .row [.slc 1050514 0 1 1 true 1, .bool true, .int .i64 x0, .fn (Go.Fn.func 122) [] []] 110 true [])
def kX266 (x0 : Int) : Nat × Blk := (1050324, .row [.int .i64 x0] 3 true [])
def kX267 (x0 : Int) : Nat × Blk := (1050414, .row [.ptr 1050029 0, .int .i64 x0, .nils, .str 3 6579297, .slc 10 0 2 2 false 5, .slc 9 0 1 1 false 5, .nils, .slc 8 0 1 1 false 12, .int .i64 (.ofNat 0), .ptr 1050429 0] 94 true [])
def kX268 (x0 : Int) : Nat × Blk := (1050427, .row [.slc 1050515 0 1 1 true 1, .bool true, .int .i64 x0, .fn (Go.Fn.func 229) [] [.ptr 1050474 0, .ptr 1050431 0, .ptr 1050434 0, .ptr 1050473 0, .ptr 1050475 0, .ptr 1050476 0]] 110 true [])
def kX269 (x0 : Int) : Nat × Blk := (1050421, .row [.slc 1050516 0 1 1 true 1, .bool true, .int .i64 x0, .fn (Go.Fn.func 122) [] []] 110 true [])
def kX270 (x0 : Int) : Nat × Blk := (1050424, .row [.slc 1050516 1 1 1 true 1, .bool true, .int .i64 x0, .fn (Go.Fn.func 122) [] []] 110 true [])
def kX271 (x0 : Int) : Nat × Blk := (1050515, .row [.int .i64 x0] 3 true [])
def kX272 (x0 : Int) : Nat × Blk := (1050474, .row [.int .i64 x0] 3 true [])
def kX273 : Nat × Blk := (1050305, .row [.slc 1050513 0 1 1 true 1] 67 true [])
def kX274 (x0 : Int) (x1 : Int) : Nat × Blk := (1050516, .row [.int .i64 x0, .int .i64 x1] 3 true [])
def bX0 : List (Nat × Blk) := [kX0, kX1, kX2, kX3, kX4, kX5, kX6, kX7, kX8, kX9, kX10, kX11, kX12, kX13, kX14, kX15, kX16, kX17, kX18, kX19, kX20, kX21, kX22, kX23, kX24, kX25, kX26, kX27, kX28, kX29, kX30, kX31, kX32, kX33, kX34, kX35, kX36, kX37, kX38, kX39, kX40, kX41, kX42, kX43, kX44, kX45, kX46, kX47, kX48, kX49, kX50, kX51, kX52, kX53, kX54, kX55, kX56, kX57, kX58, kX59, kX60, kX61, kX62, kX63, kX64, kX65, kX66, kX67, kX68, kX69, kX70, kX71, kX72, kX73, kX74, kX75, kX76, kX77, kX78, kX79, kX80, kX81, kX82, kX83, kX84, kX85, kX86, kX87, kX88, kX89, kX90, kX91, kX92, kX93, kX94, kX95, kX96, kX97, kX98, kX99, kX100, kX101, kX102, kX103, kX104, kX105, kX106, kX107, kX108, kX109, kX110, kX111, kX112, kX113, kX114, kX115, kX116, kX117, kX118, kX119, kX120, kX121, kX122, kX123, kX124, kX125, kX126, kX127, kX128, kX129, kX130, kX131, kX132, kX133, kX134, kX135, kX136, kX137, kX138, kX139, kX140, kX141, kX142, kX143, kX144, kX145, kX146, kX147, kX148, kX149, kX150, kX151, kX152, kX153, kX154, kX155, kX156, kX157, kX158, kX159, kX160, kX161, kX162, kX163, kX164, kX165, kX166, kX167, kX168, kX169, kX170, kX171, kX172, kX173, kX174, kX175, kX176, kX177, kX178, kX179, kX180, kX181, kX182, kX183, kX184, kX185, kX186, kX187, kX188, kX189, kX190, kX191, kX192, kX193, kX194, kX195, kX196, kX197, kX198, kX199, kX200, kX201, kX202, kX203, kX204, kX205]
def bX1 (a0 : Int) (a1 : Int) (a2 : Int) : List (Nat × Blk) := [kX206, kX1, kX2, kX3, kX4, kX5, kX6, kX7, kX8, kX9, kX10, kX11, kX12, kX13, kX14, kX15, kX16, kX207, kX18, kX19, kX20, kX21, kX22, kX23, kX24, kX25, kX26, kX27, kX28, kX29, kX208, kX209, kX210, kX211, kX212, kX35, kX36, kX37, kX38, kX39, kX40, kX41, kX213, kX214 a0, kX215, kX45, kX46, kX47, kX48, kX49, kX216 a1, kX217, kX52, kX53, kX54, kX55, kX56, kX218 a2, kX219, kX59, kX60, kX61, kX62, kX63, kX220 a2, kX65, kX66, kX67, kX68, kX69, kX70, kX71, kX72, kX74, kX221, kX76, kX77, kX78, kX79, kX80, kX81, kX82, kX83, kX84, kX85, kX86, kX87, kX222, kX223, kX224, kX91, kX92, kX93, kX94, kX95, kX96, kX97, kX98, kX99, kX225, kX101, kX102, kX103, kX104, kX105, kX106, kX107, kX108, kX226, kX227, kX228, kX112, kX113, kX114, kX229, kX117, kX118, kX119, kX120, kX121, kX122, kX123, kX230, kX125, kX126, kX127, kX128, kX129, kX130, kX131, kX231, kX133, kX134, kX135, kX136, kX137, kX232, kX233 a2, kX234, kX142, kX143, kX144, kX145, kX146, kX235, kX236, kX149, kX150, kX237 a0, kX152, kX153, kX154, kX155, kX156, kX157, kX158, kX159, kX238, kX161, kX239, kX163, kX164, kX165, kX240, kX167, kX168, kX169, kX241, kX171, kX172, kX242, kX174, kX175, kX176, kX243, kX244, kX245, kX246 a2, kX247, kX182, kX183, kX184, kX185, kX186, kX187, kX188, kX189, kX248, kX249 a0, kX193, kX194, kX195, kX196, kX197, kX250, kX200, kX201, kX202, kX203, kX204, kX205]
def bX2 (a0 : Int) (a1 : Int) (a2 : Int) (a3 : Int) (a4 : Int) (a5 : Int) : List (Nat × Blk) := [kX251 a0, kX1, kX2, kX3, kX4, kX5, kX6, kX7, kX8, kX9, kX10, kX11, kX12, kX13, kX14, kX15, kX16, kX207, kX18, kX19, kX20, kX21, kX22, kX23, kX24, kX25, kX26, kX27, kX28, kX29, kX252 a0, kX253 a0, kX254 a0, kX255 a0, kX256 a0, kX35, kX36, kX37, kX38, kX39, kX40, kX41, kX257 a0, kX214 a1, kX258 a0, kX45, kX46, kX47, kX48, kX49, kX216 a2, kX259 a0, kX52, kX53, kX54, kX55, kX56, kX218 a3, kX260 a0, kX59, kX60, kX61, kX62, kX63, kX220 a3, kX65, kX66, kX67, kX68, kX69, kX70, kX71, kX72, kX233 a4, kX74, kX221, kX76, kX77, kX78, kX79, kX80, kX81, kX82, kX83, kX84, kX85, kX86, kX87, kX222, kX223, kX261 a0, kX91, kX92, kX93, kX94, kX95, kX96, kX97, kX98, kX99, kX225, kX101, kX102, kX103, kX104, kX105, kX106, kX107, kX108, kX262 a0, kX227, kX228, kX112, kX113, kX114, kX263 a0, kX117, kX118, kX119, kX120, kX121, kX122, kX123, kX230, kX125, kX126, kX127, kX128, kX129, kX130, kX131, kX264 a0, kX133, kX134, kX135, kX136, kX137, kX265 a0, kX237 a3, kX266 a0, kX142, kX143, kX144, kX145, kX146, kX267 a0, kX236, kX149, kX150, kX246 a4, kX152, kX153, kX154, kX155, kX156, kX157, kX158, kX159, kX238, kX161, kX239, kX163, kX164, kX165, kX240, kX167, kX168, kX169, kX241, kX171, kX172, kX268 a0, kX174, kX175, kX176, kX243, kX269 a0, kX270 a0, kX271 a3, kX272 a0, kX182, kX183, kX184, kX185, kX186, kX187, kX188, kX189, kX273, kX274 a4 a5, kX193, kX194, kX195, kX196, kX197, kX250, kX200, kX201, kX202, kX203, kX204, kX205]
def actX : AV := AV.fn (Go.Fn.func 28) [AV.ptr 1050033 0] []
def eX (n : Nat) (g : Nat → CV) (out : AV) (i : Nat) : List (Nat × AV) := [(6, .nils), (7, .int .i64 (Int.ofNat 0)), (16, actX), (17, out), (71, .vs 50 0 n g), (72, .int .i64 (Int.ofNat n)), (73, .int .i64 (Int.ofNat i))]
/-- a row of the output -/
def rowX (l : List AV) : Blk := .row l 3 true []
/-- the blocks that all states have: the rows of the output (if some are there), of the inputs, of what is wanted -/
def rrX (cs csI csW : List AV) : List (Nat × Blk) := [(n0X, .row cs 22 true []), (50, .row csI 22 true []), (51, .row csW 22 true [])]
def rr0X (csI csW : List AV) : List (Nat × Blk) := [(50, .row csI 22 true []), (51, .row csW 22 true [])]
def dX_0_x : List Bool := bitsL 303 8706687035648881953733572413812864061567094855932178141066036332248557861409886448504971943
def kX_0_x : List Nat := [1050033, 1050029, 4, 3, 2, 1050054, 1050027, 1050028, 17, 16, 15, 14, 13, 12, 11, 1050036, 1050053, 1050506, 1050501, 10, 9, 8, 7, 6, 5, 24, 23, 22, 1050034, 1050035, 1050043, 1050046, 1050049, 1050052, 1050352, 21, 20, 19, 18, 28, 27, 26, 1050040, 1050507, 1050132, 1050056, 1050059, 1050131, 1050133, 1050134, 1050537, 1050205, 1050144, 1050147, 1050204, 1050206, 1050207, 1050560, 1050337, 1050217, 1050220, 1050336, 1050338, 1050339, 1050588, 1050353, 1050349, 1050503, 1050504, 1050351, 1050356, 25, 30, 1050129, 1050130, 1050138, 1050140, 1050193, 1050150, 1050211, 1050213, 1050335, 1050237, 1050343, 1050345, 1050362, 29, 1050128, 1050192, 1050238, 1050236, 1050360, 1050361, 1050499, 1050068, 1050072, 1050116, 1050079, 1050178, 1050179, 1050156, 1050185, 1050189, 1050250, 1050229, 1050233, 1050358, 1050359, 1050493, 1050115, 1050177, 1050241, 1050249, 1050334, 1050487, 1050364, 1050367, 1050486, 1050488, 1050489, 1050085, 1050100, 1050102, 1050108, 1050112, 1050163, 1050170, 1050174, 1050239, 1050240, 1050248, 1050485, 1050413, 1050495, 1050497, 1050099, 1050245, 1050556, 1050324, 1050252, 1050255, 1050323, 1050325, 1050326, 1050414, 1050412, 1050092, 1050096, 1050539, 1050312, 1050258, 1050330, 1050332, 1050429, 1050376, 1050380, 1050409, 1050410, 1050387, 1050311, 1050417, 1050428, 1050484, 1050408, 1050264, 1050268, 1050308, 1050309, 1050415, 1050416, 1050427, 1050394, 1050401, 1050405, 1050307, 1050421, 1050424, 1050584, 1050474, 1050431, 1050434, 1050473, 1050475, 1050476, 1050281, 1050288, 1050303, 1050305, 1050567, 1050462, 1050437, 1050480, 1050482, 1050302, 1050461, 1050295, 1050299, 1050443, 1050447, 1050454, 1050458]
def dX_1_x : List Bool := bitsL 304 16854830940986826298807355167450376705006720660162978714431424616090928468635849313637278375
def kX_1_x : List Nat := [1050033, 1050029, 4, 3, 2, 1050054, 1050027, 1050028, 17, 16, 15, 14, 13, 12, 11, 1050036, 1050053, 1050506, 1050501, 10, 9, 8, 7, 6, 5, 24, 23, 22, 1050034, 1050035, 1050043, 1050046, 1050049, 1050052, 1050352, 21, 20, 19, 18, 28, 27, 26, 1050040, 2097168, 1050132, 1050056, 1050059, 1050131, 1050133, 1050134, 2097182, 1050205, 1050144, 1050147, 1050204, 1050206, 1050207, 2097205, 1050337, 1050217, 1050220, 1050336, 1050338, 1050339, 2097233, 1050353, 1050349, 1050503, 1050504, 1050351, 1050356, 25, 30, 2097152, 1050129, 1050130, 1050138, 1050140, 1050193, 1050150, 1050211, 1050213, 1050335, 1050237, 1050343, 1050345, 1050362, 29, 1050128, 1050192, 1050238, 1050236, 1050360, 1050361, 1050499, 1050068, 1050072, 1050116, 1050079, 1050178, 1050179, 1050156, 1050185, 1050189, 1050250, 1050229, 1050233, 1050358, 1050359, 1050493, 1050115, 1050177, 1050241, 1050249, 1050334, 1050487, 1050364, 1050367, 1050486, 1050488, 1050489, 1050085, 1050100, 1050102, 1050108, 1050112, 1050163, 1050170, 1050174, 1050239, 1050240, 1050248, 1050485, 1050413, 1050495, 1050497, 1050099, 1050245, 2097201, 1050324, 1050252, 1050255, 1050323, 1050325, 1050326, 1050414, 1050412, 1050092, 1050096, 2097184, 1050312, 1050258, 1050330, 1050332, 1050429, 1050376, 1050380, 1050409, 1050410, 1050387, 1050311, 1050417, 1050428, 1050484, 1050408, 1050264, 1050268, 1050308, 1050309, 1050415, 1050416, 1050427, 1050394, 1050401, 1050405, 1050307, 1050421, 1050424, 2097229, 1050474, 1050431, 1050434, 1050473, 1050475, 1050476, 1050281, 1050288, 1050303, 1050305, 2097212, 1050462, 1050437, 1050480, 1050482, 1050302, 1050461, 1050295, 1050299, 1050443, 1050447, 1050454, 1050458]
def dX_2_x : List Bool := bitsL 304 16854830940986826298807355167450376705006720660162978714431424616090928468635849313637278375
def kX_2_x : List Nat := [1050033, 1050029, 4, 3, 2, 1050054, 1050027, 1050028, 17, 16, 15, 14, 13, 12, 11, 1050036, 1050053, 1050506, 1050501, 10, 9, 8, 7, 6, 5, 24, 23, 22, 1050034, 1050035, 1050043, 1050046, 1050049, 1050052, 1050352, 21, 20, 19, 18, 28, 27, 26, 1050040, 2097168, 1050132, 1050056, 1050059, 1050131, 1050133, 1050134, 2097182, 1050205, 1050144, 1050147, 1050204, 1050206, 1050207, 2097205, 1050337, 1050217, 1050220, 1050336, 1050338, 1050339, 2097233, 1050353, 1050349, 1050503, 1050504, 1050351, 1050356, 25, 30, 2097152, 1050129, 1050130, 1050138, 1050140, 1050193, 1050150, 1050211, 1050213, 1050335, 1050237, 1050343, 1050345, 1050362, 29, 1050128, 1050192, 1050238, 1050236, 1050360, 1050361, 1050499, 1050068, 1050072, 1050116, 1050079, 1050178, 1050179, 1050156, 1050185, 1050189, 1050250, 1050229, 1050233, 1050358, 1050359, 1050493, 1050115, 1050177, 1050241, 1050249, 1050334, 1050487, 1050364, 1050367, 1050486, 1050488, 1050489, 1050085, 1050100, 1050102, 1050108, 1050112, 1050163, 1050170, 1050174, 1050239, 1050240, 1050248, 1050485, 1050413, 1050495, 1050497, 1050099, 1050245, 2097201, 1050324, 1050252, 1050255, 1050323, 1050325, 1050326, 1050414, 1050412, 1050092, 1050096, 2097184, 1050312, 1050258, 1050330, 1050332, 1050429, 1050376, 1050380, 1050409, 1050410, 1050387, 1050311, 1050417, 1050428, 1050484, 1050408, 1050264, 1050268, 1050308, 1050309, 1050415, 1050416, 1050427, 1050394, 1050401, 1050405, 1050307, 1050421, 1050424, 2097229, 1050474, 1050431, 1050434, 1050473, 1050475, 1050476, 1050281, 1050288, 1050303, 1050305, 2097212, 1050462, 1050437, 1050480, 1050482, 1050302, 1050461, 1050295, 1050299, 1050443, 1050447, 1050454, 1050458]
/-- what is told ahead of this round's inputs -/
def ggX (r : Nat) (b : List Int) : Nat → CV := fun _ => .row r 1 (fun k => Option.rec 0 (fun x => x) (lget b k))
end
end Go.Proofs.YtkfhjobebhdpoaaGreat
/- Stream: the rounds of Run's loop over ticks. -/
set_option autoImplicit false
set_option maxRecDepth 1000000
set_option maxHeartbeats 1000000
namespace Go.Proofs.YtkfhjobebhdpoaaGreat
noncomputable section
open Go.X
def RX (csI csW : List AV) (oa i : Nat) : List (Nat × Nat × Blk) := [(n0X, oa, .row (zrows 300 4 i) 22 true []), (50, 50, .row csI 22 true []), (51, 51, .row csW 22 true [])]
def rawX (csI csW cs : List AV) : List (Option Blk × Bool) := [(some (.row cs 22 true []), true), (some (.row csI 22 true []), true), (some (.row csW 22 true []), true)]
def ocX (i ra : Nat) : List AV := lapp (ltake (ldrop (zrows 300 4 i) 0) (Nat.mul i 1)) [.slc ra 0 4 4 false 1]
def hX (z : T Blk) (csI csW : List AV) (i : Nat) (B : List (Nat × Blk)) : H := ⟨mkB z (lapp (rrX (zrows 300 4 i) csI csW) B), 2097152⟩
def hfX (z : T Blk) (csI csW : List AV) (B : List (Nat × Blk)) : H := ⟨mkB z (lapp (rr0X csI csW) B), n0X⟩
def goX (h : H) (n i r : Nat) (out : AV) (b : List Int) (d : List Bool) (K : KE) : Prop := xcode C1 Tryz.prog F 14 (loopC Tryz.prog 14 22) (mask 14) (tmpsN Tryz.prog 14) (mkE (eX n (ggX r b) out i)) h d K
def obX (csI csW : List AV) (i : Nat) (A : List (Nat × Nat × Blk)) (oa ra : Nat) (row : List AV) (Kv : XE → Obs → Prop) : KE := fun x env h _ => Kv x (obs [6, 7, 16, 17, 71, 72, 73] (actsOf (lapp (RX csI csW oa (i + 1)) A) [(300 + i, ra, rowX row)]) (lapp (RX csI csW oa (i + 1)) A) [(300 + i, ra, rowX row)] env h)
def obfX (csI csW : List AV) (A : List (Nat × Nat × Blk)) (oa ra : Nat) (row : List AV) (Kv : XE → Obs → Prop) : KE := fun x env h _ => Kv x (obs [6, 7, 16, 17, 71, 72, 73] (actsOf (lapp (RX csI csW oa 1) A) [(300, ra, rowX row)]) (lapp (RX csI csW oa 1) A) [(300, ra, rowX row)] env h)
def lfX (z : T Blk) (csI csW : List AV) (n i r : Nat) (b : List Int) (A : List (Nat × Nat × Blk)) (oa ra : Nat) (row : List AV) (Kv : XE → Obs → Prop) : Prop := Kv .nrm (expsR n0X (kpOf z) (eX n (ggX r b) (.slc n0X 0 (i + 1) (i + 1) false 1) (i + 1)) (RX csI csW oa (i + 1)) A [(300 + i, ra, rowX row)] z (rawX csI csW (ocX i ra)))
def lffX (z : T Blk) (csI csW : List AV) (n r : Nat) (b : List Int) (A : List (Nat × Nat × Blk)) (oa ra : Nat) (row : List AV) (Kv : XE → Obs → Prop) : Prop := Kv .nrm (expsR n0X (kpOf z) (eX n (ggX r b) (.slc n0X 0 1 1 false 1) 1) (RX csI csW oa 1) A [(300, ra, rowX row)] z (rawX csI csW [.slc ra 0 4 4 false 1]))
def cIX (h : H) (i r : Nat) (b : List Int) : Prop := cellIs h 50 i (.row r 1 (fun k => Option.rec 0 (fun x => x) (lget b k)))
def cRX (h : H) (r : Nat) (b : List Int) : Prop := cellsAre h r (fun k => .sc (Option.rec 0 (fun x => x) (lget b k))) 1 0
def hdX (h : H) (n i j r : Nat) (b : List Int) (t : Prop) : Prop := bcase (dcq true (ltI (Int.ofNat i) (Int.ofNat n))) (bcase (inB (Int.ofNat i) n) (cIX h j r b ∧ (cRX h r b ∧ t)) False) False
def ttX (i : Nat) (t : Prop) : Prop := bcase (dcq false (Nat.ble (Nat.add i 1) i)) (bcase (appC (zrows 300 4 i) i) (bcase (Nat.ble (llen (zrows 300 4 i)) (Nat.mul i 1)) (bcase (inR .i64 (Int.ofNat i + Int.ofNat 1)) t False) (bcase (inR .i64 (Int.ofNat i + Int.ofNat 1)) t False)) False) False
def ixX (i : Nat) : Nat := Nat.add 0 (Nat.mul (Int.toNat (Int.ofNat i)) 1)
theorem tX_0_x (z : T Blk) (csI csW : List AV) (n r : Nat) (x : Int) (Kv : XE → Obs → Prop) : goX (hfX z csI csW (bX0)) n 0 r .nils [x] dX_0_x (obfX csI csW (zipA (bX1 x (wrapF .i8 (0 + x)) (wrapF .i8 (x + 0))) kX_0_x) 1050607 1050605 [.int .i64 x, .int .i64 (wrapF .i8 (0 + x)), .int .i64 (wrapF .i8 (x + 0)), .int .i64 (wrapF .i8 (x + 0))] Kv) = (hdX (hfX z csI csW (bX0)) n 0 0 r [x] (bcase (inR .i64 (wrapF .i8 x)) (bcase (dcq true (eqI (wrapF .i8 x) x)) (bcase (inR .i64 (0 + x)) (bcase (inR .i64 (wrapF .i8 (0 + x))) (bcase (inR .i64 (wrapF .i8 x)) (bcase (dcq true (eqI (wrapF .i8 x) x)) (bcase (inR .i64 (0 + x)) (bcase (inR .i64 (wrapF .i8 (0 + x))) (bcase (inR .i64 (wrapF .i8 x)) (bcase (dcq true (eqI (wrapF .i8 x) x)) (bcase (inR .i64 (x + 0)) (bcase (inR .i64 (wrapF .i8 (x + 0))) (bcase (inR .i64 (wrapF .i8 x)) (bcase (dcq true (eqI (wrapF .i8 x) x)) (bcase (inR .i64 (x + 0)) (bcase (inR .i64 (wrapF .i8 (x + 0))) (lffX z csI csW n r [x] (zipA (bX1 x (wrapF .i8 (0 + x)) (wrapF .i8 (x + 0))) kX_0_x) 1050607 1050605 [.int .i64 x, .int .i64 (wrapF .i8 (0 + x)), .int .i64 (wrapF .i8 (x + 0)), .int .i64 (wrapF .i8 (x + 0))] Kv) False) False) False) False) False) False) False) False) False) False) False) False) False) False) False) False)) := by kernel_rfl
theorem tX_1_x (z : T Blk) (csI csW : List AV) (n i r : Nat) (a0 : Int) (a1 : Int) (a2 : Int) (x : Int) (Kv : XE → Obs → Prop) : goX (hX z csI csW i (bX1 a0 a1 a2)) n i r (.slc n0X 0 i i false 1) [x] dX_1_x (obX csI csW i (zipA (bX2 2 (wrapF .i8 (a0 + x)) (wrapF .i8 (a1 + x)) (wrapF .i8 (x + a2)) x a2) kX_1_x) 2097252 2097250 [.int .i64 (wrapF .i8 (a0 + x)), .int .i64 (wrapF .i8 (a1 + x)), .int .i64 (wrapF .i8 (x + a2)), .int .i64 (wrapF .i8 (x + a2))] Kv) = (hdX (hX z csI csW i (bX1 a0 a1 a2)) n i (ixX i) r [x] (bcase (inR .i64 (wrapF .i8 a0)) (bcase (dcq true (eqI (wrapF .i8 a0) a0)) (bcase (inR .i64 (wrapF .i8 x)) (bcase (dcq true (eqI (wrapF .i8 x) x)) (bcase (inR .i64 (a0 + x)) (bcase (inR .i64 (wrapF .i8 (a0 + x))) (bcase (inR .i64 (wrapF .i8 a1)) (bcase (dcq true (eqI (wrapF .i8 a1) a1)) (bcase (inR .i64 (wrapF .i8 x)) (bcase (dcq true (eqI (wrapF .i8 x) x)) (bcase (inR .i64 (a1 + x)) (bcase (inR .i64 (wrapF .i8 (a1 + x))) (bcase (inR .i64 (wrapF .i8 x)) (bcase (dcq true (eqI (wrapF .i8 x) x)) (bcase (inR .i64 (wrapF .i8 a2)) (bcase (dcq true (eqI (wrapF .i8 a2) a2)) (bcase (inR .i64 (x + a2)) (bcase (inR .i64 (wrapF .i8 (x + a2))) (bcase (inR .i64 (wrapF .i8 x)) (bcase (dcq true (eqI (wrapF .i8 x) x)) (bcase (inR .i64 (wrapF .i8 a2)) (bcase (dcq true (eqI (wrapF .i8 a2) a2)) (bcase (inR .i64 (x + a2)) (bcase (inR .i64 (wrapF .i8 (x + a2))) (ttX i (lfX z csI csW n i r [x] (zipA (bX2 2 (wrapF .i8 (a0 + x)) (wrapF .i8 (a1 + x)) (wrapF .i8 (x + a2)) x a2) kX_1_x) 2097252 2097250 [.int .i64 (wrapF .i8 (a0 + x)), .int .i64 (wrapF .i8 (a1 + x)), .int .i64 (wrapF .i8 (x + a2)), .int .i64 (wrapF .i8 (x + a2))] Kv)) False) False) False) False) False) False) False) False) False) False) False) False) False) False) False) False) False) False) False) False) False) False) False) False)) := by kernel_rfl
theorem tX_2_x (z : T Blk) (csI csW : List AV) (n i r : Nat) (a0 : Int) (a1 : Int) (a2 : Int) (a3 : Int) (a4 : Int) (a5 : Int) (x : Int) (Kv : XE → Obs → Prop) : goX (hX z csI csW i (bX2 a0 a1 a2 a3 a4 a5)) n i r (.slc n0X 0 i i false 1) [x] dX_2_x (obX csI csW i (zipA (bX2 (a0 + 1) (wrapF .i8 (a1 + x)) (wrapF .i8 (a2 + x)) (wrapF .i8 (x + a3)) x a3) kX_2_x) 2097252 2097250 [.int .i64 (wrapF .i8 (a1 + x)), .int .i64 (wrapF .i8 (a2 + x)), .int .i64 (wrapF .i8 (x + a3)), .int .i64 (wrapF .i8 (x + a3))] Kv) = (hdX (hX z csI csW i (bX2 a0 a1 a2 a3 a4 a5)) n i (ixX i) r [x] (bcase (inR .i64 (a0 + 1)) (bcase (dcq false (eqI a0 (a0 + 1))) (bcase (dcq false (eqI a0 (a0 + 1))) (bcase (dcq true (eqI (a0 + 1) (a0 + 1))) (bcase (dcq true (eqI (a0 + 1) (a0 + 1))) (bcase (inR .i64 (wrapF .i8 a1)) (bcase (dcq true (eqI (wrapF .i8 a1) a1)) (bcase (inR .i64 (wrapF .i8 x)) (bcase (dcq true (eqI (wrapF .i8 x) x)) (bcase (inR .i64 (a1 + x)) (bcase (inR .i64 (wrapF .i8 (a1 + x))) (bcase (dcq false (eqI a0 (a0 + 1))) (bcase (dcq false (eqI a0 (a0 + 1))) (bcase (dcq true (eqI (a0 + 1) (a0 + 1))) (bcase (inR .i64 (wrapF .i8 a2)) (bcase (dcq true (eqI (wrapF .i8 a2) a2)) (bcase (inR .i64 (wrapF .i8 x)) (bcase (dcq true (eqI (wrapF .i8 x) x)) (bcase (inR .i64 (a2 + x)) (bcase (inR .i64 (wrapF .i8 (a2 + x))) (bcase (dcq false (eqI a0 (a0 + 1))) (bcase (dcq false (eqI a0 (a0 + 1))) (bcase (dcq true (eqI (a0 + 1) (a0 + 1))) (bcase (inR .i64 (a0 + 1)) (bcase (dcq false (eqI a0 (a0 + 1))) (bcase (dcq false (eqI a0 (a0 + 1))) (bcase (dcq true (eqI (a0 + 1) (a0 + 1))) (bcase (inR .i64 (wrapF .i8 x)) (bcase (dcq true (eqI (wrapF .i8 x) x)) (bcase (inR .i64 (wrapF .i8 a3)) (bcase (dcq true (eqI (wrapF .i8 a3) a3)) (bcase (inR .i64 (x + a3)) (bcase (inR .i64 (wrapF .i8 (x + a3))) (bcase (dcq true (eqI (a0 + 1) (a0 + 1))) (bcase (dcq false (eqI a0 (a0 + 1))) (bcase (dcq false (eqI a0 (a0 + 1))) (bcase (dcq false (eqI a0 (a0 + 1))) (bcase (dcq false (eqI a0 (a0 + 1))) (bcase (dcq true (eqI (a0 + 1) (a0 + 1))) (bcase (inR .i64 (a0 + 1)) (bcase (dcq false (eqI a0 (a0 + 1))) (bcase (dcq false (eqI a0 (a0 + 1))) (bcase (dcq true (eqI (a0 + 1) (a0 + 1))) (bcase (dcq true (eqI (a0 + 1) (a0 + 1))) (bcase (inR .i64 (wrapF .i8 x)) (bcase (dcq true (eqI (wrapF .i8 x) x)) (bcase (inR .i64 (wrapF .i8 a3)) (bcase (dcq true (eqI (wrapF .i8 a3) a3)) (bcase (inR .i64 (x + a3)) (bcase (inR .i64 (wrapF .i8 (x + a3))) (bcase (dcq true (eqI (a0 + 1) (a0 + 1))) (bcase (dcq true (eqI (a0 + 1) (a0 + 1))) (bcase (dcq true (eqI (a0 + 1) (a0 + 1))) (bcase (dcq true (eqI (a0 + 1) (a0 + 1))) (bcase (dcq true (eqI (a0 + 1) (a0 + 1))) (ttX i (lfX z csI csW n i r [x] (zipA (bX2 (a0 + 1) (wrapF .i8 (a1 + x)) (wrapF .i8 (a2 + x)) (wrapF .i8 (x + a3)) x a3) kX_2_x) 2097252 2097250 [.int .i64 (wrapF .i8 (a1 + x)), .int .i64 (wrapF .i8 (a2 + x)), .int .i64 (wrapF .i8 (x + a3)), .int .i64 (wrapF .i8 (x + a3))] Kv)) False) False) False) False) False) False) False) False) False) False) False) False) False) False) False) False) False) False) False) False) False) False) False) False) False) False) False) False) False) False) False) False) False) False) False) False) False) False) False) False) False) False) False) False) False) False) False) False) False) False) False) False) False) False) False)) := by kernel_rfl
theorem xX_1 (z : T Blk) (csI csW : List AV) (n i : Nat) (g : Nat → CV) (a0 : Int) (a1 : Int) (a2 : Int) (Kv : XE → Obs → Prop) : xcode C1 Tryz.prog F 14 (loopC Tryz.prog 14 22) (mask 14) (tmpsN Tryz.prog 14) (mkE (eX n g (.slc n0X 0 i i false 1) i)) ⟨mkB z (lapp (rrX (zrows 300 4 i) csI csW) (bX1 a0 a1 a2)), 2097152⟩ [false] (fun x env h _ => Kv x (obs [6, 7, 17] (actsOf (lapp [(n0X, n0X, .row (zrows 300 4 i) 22 true []), (50, 50, .row csI 22 true []), (51, 51, .row csW 22 true [])] []) []) (lapp [(n0X, n0X, .row (zrows 300 4 i) 22 true []), (50, 50, .row csI 22 true []), (51, 51, .row csW 22 true [])] []) [] env h)) = (bcase (dcq false (ltI (Int.ofNat i) (Int.ofNat n))) (Kv (.ext 2) (expsR n0X (kpOf z) [(6, .nils), (7, .int .i64 (Int.ofNat 0)), (17, .slc n0X 0 i i false 1)] [(n0X, n0X, .row (zrows 300 4 i) 22 true []), (50, 50, .row csI 22 true []), (51, 51, .row csW 22 true [])] [] [] z [(some (.row (zrows 300 4 i) 22 true []), true), (some (.row csI 22 true []), true), (some (.row csW 22 true []), true)])) False) := by kernel_rfl
theorem xX_2 (z : T Blk) (csI csW : List AV) (n i : Nat) (g : Nat → CV) (a0 : Int) (a1 : Int) (a2 : Int) (a3 : Int) (a4 : Int) (a5 : Int) (Kv : XE → Obs → Prop) : xcode C1 Tryz.prog F 14 (loopC Tryz.prog 14 22) (mask 14) (tmpsN Tryz.prog 14) (mkE (eX n g (.slc n0X 0 i i false 1) i)) ⟨mkB z (lapp (rrX (zrows 300 4 i) csI csW) (bX2 a0 a1 a2 a3 a4 a5)), 2097152⟩ [false] (fun x env h _ => Kv x (obs [6, 7, 17] (actsOf (lapp [(n0X, n0X, .row (zrows 300 4 i) 22 true []), (50, 50, .row csI 22 true []), (51, 51, .row csW 22 true [])] []) []) (lapp [(n0X, n0X, .row (zrows 300 4 i) 22 true []), (50, 50, .row csI 22 true []), (51, 51, .row csW 22 true [])] []) [] env h)) = (bcase (dcq false (ltI (Int.ofNat i) (Int.ofNat n))) (Kv (.ext 2) (expsR n0X (kpOf z) [(6, .nils), (7, .int .i64 (Int.ofNat 0)), (17, .slc n0X 0 i i false 1)] [(n0X, n0X, .row (zrows 300 4 i) 22 true []), (50, 50, .row csI 22 true []), (51, 51, .row csW 22 true [])] [] [] z [(some (.row (zrows 300 4 i) 22 true []), true), (some (.row csI 22 true []), true), (some (.row csW 22 true []), true)])) False) := by kernel_rfl
end
end Go.Proofs.YtkfhjobebhdpoaaGreat
/- Stream: what the rounds of Run's loop do. -/
set_option autoImplicit false
set_option maxRecDepth 1000000
set_option maxHeartbeats 2000000
set_option linter.unusedVariables false
namespace Go.Proofs.YtkfhjobebhdpoaaGreat
noncomputable section
open Go.X
theorem w8 (n : Int) : -128 ≤ wrapF .i8 n ∧ wrapF .i8 n ≤ 127 := by
  have e : wrapF .i8 n = wrapQ .i8 n := by rw [wrapF_eq, wrapQ_eq]
  have e2 : wrapQ .i8 n = sWr 256 128 n := rfl
  rw [e, e2, sWr_eq _ _ _ (by decide)]
  split <;> omega
theorem w8_id {n : Int} (h0 : -128 ≤ n) (h1 : n ≤ 127) : wrapF .i8 n = n := by
  rw [wrapF_eq]; exact wrap_in (inR_i8 h0 (by omega))
theorem inR_w8 (n : Int) : inR .i64 (wrapF .i8 n) = true := by
  have := w8 n
  exact inR_i64 (by omega) (by omega)
theorem dcq_w8 {n : Int} (h0 : -128 ≤ n) (h1 : n ≤ 127) : dcq true (eqI (wrapF .i8 n) n) = true := dcq_eq (w8_id h0 h1)
/-- what goes in -/
def xX (l : Nat → Int) (j : Nat) : Int := wrapF .i8 (l j)
/-- the sum so far -/
def cntX (l : Nat → Int) : Nat → Int := fun i => Nat.rec 0 (fun j ih => wrapF .i8 (ih + xX l j)) i
theorem cntX_succ (l : Nat → Int) (i : Nat) : cntX l (i + 1) = wrapF .i8 (cntX l i + xX l i) := rfl
theorem xX_le (l : Nat → Int) (i : Nat) : -128 ≤ xX l i ∧ xX l i ≤ 127 := w8 _
theorem leX (l : Nat → Int) : ∀ i : Nat, -128 ≤ cntX l i ∧ cntX l i ≤ 127
  | 0 => ⟨by show (-128 : Int) ≤ 0; decide, by show (0 : Int) ≤ 127; decide⟩
  | i + 1 => w8 _
theorem firstX (l : Nat → Int) : cntX l 1 = xX l 0 ∧ wrapF .i8 (0 + xX l 0) = xX l 0 ∧ wrapF .i8 (xX l 0 + 0) = xX l 0 := by
  have h := xX_le l 0
  have e : wrapF .i8 (0 + xX l 0) = xX l 0 := by rw [Int.zero_add]; exact w8_id h.1 h.2
  exact ⟨e, e, by rw [Int.add_zero]; exact w8_id h.1 h.2⟩
def inRowX (l : Nat → Int) (j : Nat) : Blk := .row [.int .i64 (xX l j)] 3 true []
def outX (l : Nat → Int) (j : Nat) : Blk := rowX [.int .i64 (cntX l (j + 1)), .int .i64 (cntX l (j + 1)), .int .i64 (cntX l (j + 1)), .int .i64 (cntX l (j + 1))]
theorem outX_int (l : Nat → Int) (j : Nat) : IntRow (outX l j) := ⟨[cntX l (j + 1), cntX l (j + 1), cntX l (j + 1), cntX l (j + 1)], 3, true, rfl⟩
/-- the zone that holds the rows of the inputs and those that are wanted -/
structure ZinX (l : Nat → Int) (n : Nat) (z : T Blk) : Prop where
  ins : ∀ j, j < n → z.get j = some (inRowX l j)
  want : ∀ j, j < n → z.get (100 + j) = some (outX l j)
  only : ∀ x k, z.get x = some k → x < 200 ∧ IntRow k
theorem blksX0 : blksN n0X (bX0) = true := by kernel_rfl
theorem getX0 (z : T Blk) (csI csW : List AV) : T.get (mkB z (lapp (rr0X csI csW) bX0)) 50 = some (.row csI 22 true []) := by kernel_rfl
theorem zgX0 (z : T Blk) (csI csW : List AV) : zget (mkB z (lapp (rr0X csI csW) bX0)) 12 = z := by kernel_rfl
theorem getX1 (z : T Blk) (cs csI csW : List AV) (a0 : Int) (a1 : Int) (a2 : Int) : T.get (mkB z (lapp (rrX cs csI csW) (bX1 a0 a1 a2))) 50 = some (.row csI 22 true []) := by kernel_rfl
theorem zgX1 (z : T Blk) (cs csI csW : List AV) (a0 : Int) (a1 : Int) (a2 : Int) : zget (mkB z (lapp (rrX cs csI csW) (bX1 a0 a1 a2))) 12 = z := by kernel_rfl
theorem getX2 (z : T Blk) (cs csI csW : List AV) (a0 : Int) (a1 : Int) (a2 : Int) (a3 : Int) (a4 : Int) (a5 : Int) : T.get (mkB z (lapp (rrX cs csI csW) (bX2 a0 a1 a2 a3 a4 a5))) 50 = some (.row csI 22 true []) := by kernel_rfl
theorem zgX2 (z : T Blk) (cs csI csW : List AV) (a0 : Int) (a1 : Int) (a2 : Int) (a3 : Int) (a4 : Int) (a5 : Int) : zget (mkB z (lapp (rrX cs csI csW) (bX2 a0 a1 a2 a3 a4 a5))) 12 = z := by kernel_rfl
/-- the zone as far as round i -/
def zoX (l : Nat → Int) (z : T Blk) (i : Nat) : T Blk := zgrow z 300 (outX l) i
theorem zoX_ok {l : Nat → Int} {n : Nat} {z : T Blk} (Zs : ZinX l n z) {i : Nat} (hi : i ≤ 40) : ZoneOK (zoX l z i) 2097152 := by
  refine zgrow_ok (fun x k h => ?_) fun j hj => ⟨outX_int l j, by rw [zn_eq]; omega, by rw [zn_eq]; show _ < 1000000000000; omega⟩
  obtain ⟨a, b⟩ := Zs.only x k h
  exact ⟨b, by rw [zn_eq]; omega, by rw [zn_eq]; show _ < 1000000000000; omega⟩
theorem zoX_low {l : Nat → Int} {z : T Blk} {i x : Nat} (hx : x < 300) : (zoX l z i).get x = z.get x := zgrow_old (.inl hx)
theorem belX_I {n : Nat} (hn : n ≤ 40) : belL 2097152 (zrowsT 0 1 n) = true := belL_slc _ _ _ _ _ fun j hj => by have := List.mem_range.1 hj; rw [zn_eq]; omega
theorem belX_W {n : Nat} (hn : n ≤ 40) : belL 2097152 (zrowsT 100 4 n) = true := belL_slc _ _ _ _ _ fun j hj => by have := List.mem_range.1 hj; rw [zn_eq]; omega
theorem belX_O {i : Nat} (hi : i ≤ 40) : belL 2097152 (zrows 300 4 i) = true := belL_slc _ _ _ _ _ fun j hj => by have := List.mem_range.1 hj; rw [zn_eq]; omega
/-- the state that shape B makes at round i -/
def stX (l : Nat → Int) (n : Nat) (z : T Blk) (i : Nat) (g : Nat → CV) (B : List (Nat × Blk)) : ZS := ⟨eX n g (.slc n0X 0 i i false 1) i, lapp (rrX (zrows 300 4 i) (zrowsT 0 1 n) (zrowsT 100 4 n)) B, zoX l z i, 2097152⟩
def finX (l : Nat → Int) (n : Nat) (z : T Blk) : ZS := ⟨[(6, .nils), (7, .int .i64 (Int.ofNat 0)), (17, .slc n0X 0 n n false 1)], rrX (zrows 300 4 n) (zrowsT 0 1 n) (zrowsT 100 4 n), zoX l z n, 2097152⟩
theorem keepIX {l : Nat → Int} {n : Nat} {z : T Blk} (Zs : ZinX l n z) (hn : n ≤ 40) {i : Nat} {A Zn : List (Nat × Nat × Blk)} (hA : okLit n0X 2097152 A = true) (hZ : ∀ p ∈ Zn, 300 ≤ p.1) :
    renL (szs n0X (namesOf A Zn) (kpOf (zoX l z i))) (zrowsT 0 1 n) = (zrowsT 0 1 n) ∧ renL (szs n0X (namesOf A Zn) (kpOf (zoX l z i))) (zrowsT 100 4 n) = (zrowsT 100 4 n) := by
  constructor
  · unfold zrowsT
    rw [renL_slc]
    refine List.map_congr_left fun j hj => ?_
    have hj := List.mem_range.1 hj
    rw [szs_zone hA (k := inRowX l j) (by rw [zoX_low (by omega), Nat.zero_add]; exact Zs.ins j hj) (fun p hp e => by have := hZ p hp; omega)]
  · unfold zrowsT
    rw [renL_slc]
    refine List.map_congr_left fun j hj => ?_
    have hj := List.mem_range.1 hj
    rw [szs_zone hA (k := outX l j) (by rw [zoX_low (by omega)]; exact Zs.want j hj) (fun p hp e => by have := hZ p hp; omega)]
def usefTX (l : Nat → Int) (n : Nat) (z : T Blk) (b : List Int) (d : List Bool) (B B2 : List (Nat × Blk)) : Prop :=
  cIX (hfX z (zrowsT 0 1 n) (zrowsT 100 4 n) B) 0 (zn 0) b → cRX (hfX z (zrowsT 0 1 n) (zrowsT 100 4 n) B) (zn 0) b → ∀ {K : KE}, (∀ env h ds σ, Abs n0X σ (stX l n z 1 (ggX (zn 0) b) B2).env (stX l n z 1 (ggX (zn 0) b) B2).h env h → K .nrm env h ds) → goX (hfX z (zrowsT 0 1 n) (zrowsT 100 4 n) B) n 0 (zn 0) .nils b d K
theorem usefGX {l : Nat → Int} {n : Nat} {z : T Blk} {b : List Int} {d : List Bool} {B B2 : List (Nat × Blk)} {ks : List Nat} {oa ra : Nat} {rw : List AV} {C : Prop → Prop} (ho1 : okLit n0X 2097152 [(n0X, oa, .row [] 22 true [])] = true) (Zs : ZinX l n z) (hn : n ≤ 40) (hi : 0 < n)
    (ht : ∀ Kv, goX (hfX z (zrowsT 0 1 n) (zrowsT 100 4 n) B) n 0 (zn 0) .nils b d (obfX (zrowsT 0 1 n) (zrowsT 100 4 n) (zipA B2 ks) oa ra rw Kv) = hdX (hfX z (zrowsT 0 1 n) (zrowsT 100 4 n) B) n 0 0 (zn 0) b (C (lffX z (zrowsT 0 1 n) (zrowsT 100 4 n) n (zn 0) b (zipA B2 ks) oa ra rw Kv)))
    (hC : ∀ t, t → C t) (hl : okLit n0X 2097152 (zipA B2 ks) = true) (hk : nodupQ (lmap (fun p => p.1) (lapp (RX (zrowsT 0 1 n) (zrowsT 100 4 n) oa 1) (zipA B2 ks))) = true) (ha : nodupQ (actsOf (lapp (RX (zrowsT 0 1 n) (zrowsT 100 4 n) oa 1) (zipA B2 ks)) [(300, ra, rowX rw)]) = true)
    (r1 : 1050507 ≤ ra) (r2 : ra < 1000000000000) (r3 : ra % 4096 ≠ 4095) (hint : IntRow (rowX rw)) (hrow : rowX rw = outX l 0) : usefTX l n z b d B B2 := by
  intro hcI hcR K hK
  have hlit : okLit n0X 2097152 (lapp (RX (zrowsT 0 1 n) (zrowsT 100 4 n) oa 1) (zipA B2 ks)) = true := okLit_row ho1 (belX_O (by omega)) (okLit_row rfl (belX_I hn) (okLit_row rfl (belX_W hn) hl))
  have hZ3 : ∀ p ∈ ([(300, ra, rowX rw)] : List (Nat × Nat × Blk)), 300 ≤ p.1 := fun p hp => by rw [List.mem_singleton.1 hp]; show 300 ≤ 300; omega
  have hnd : (([(300, ra, rowX rw)] : List (Nat × Nat × Blk)).map (·.1)).Nodup := by simp
  have k1 := keepIX Zs hn (i := 0) hlit hZ3
  refine round_use2 good1.spl ht ?_
  refine bcase_tt (dcq_lt (by simp only [Int.ofNat_eq_natCast]; omega)) (bcase_tt (inB_of hi) ⟨hcI, hcR, hC _ ?_⟩)
  have leaf : ∀ (env : Env) (h : H) (ds : List Bool), obs [6, 7, 16, 17, 71, 72, 73] (actsOf (lapp (RX (zrowsT 0 1 n) (zrowsT 100 4 n) oa 1) (zipA B2 ks)) [(300, ra, rowX rw)]) (lapp (RX (zrowsT 0 1 n) (zrowsT 100 4 n) oa 1) (zipA B2 ks)) [(300, ra, rowX rw)] env h = expsR n0X (kpOf z) (eX n (ggX (zn 0) b) (.slc n0X 0 1 1 false 1) 1) (RX (zrowsT 0 1 n) (zrowsT 100 4 n) oa 1) (zipA B2 ks) [(300, ra, rowX rw)] z (rawX (zrowsT 0 1 n) (zrowsT 100 4 n) [.slc ra 0 4 4 false 1]) → K .nrm env h ds := by
    intro env h ds ho
    have fin : ∃ σ, Abs n0X σ (stX l n z 1 (ggX (zn 0) b) B2).env (stX l n z 1 (ggX (zn 0) b) B2).h env h := by
      rw [expsR_eq] at ho
      · exact NewOK.abs (t := (stX l n z 1 (ggX (zn 0) b) B2)) (A := lapp (RX (zrowsT 0 1 n) (zrowsT 100 4 n) oa 1) (zipA B2 ks)) (Z := [(300, ra, rowX rw)]) (z := z)
          ⟨by rw [lmap_app, zipA_B]; rfl, by show T.set z (outX l 0) (300 + 0) = T.set z (rowX rw) 300; rw [hrow], by show 1050507 ≤ 2097152; decide, by kernel_rfl, hlit, hk, ha,
            fun p hp => by
              rw [List.mem_singleton.1 hp]
              exact ⟨by show 1050507 ≤ zn 300; rw [zn_eq]; omega, by show zn 300 < 2097152; rw [zn_eq]; omega, r1, r2, r3, hint⟩,
            hnd, by have := zoX_ok Zs (i := 0) (by omega); exact this⟩ rfl rfl rfl rfl ho
      · have e1 : [.slc ra 0 4 4 false 1] = renL (szs n0X (namesOf (lapp (RX (zrowsT 0 1 n) (zrowsT 100 4 n) oa 1) (zipA B2 ks)) [(300, ra, rowX rw)]) (kpOf z)) (zrows 300 4 1) := by
          refine zrows_grow (i := 0) (fun j hj => ?_) (szs_row hlit (by show 1050507 ≤ zn (300 + 0); rw [zn_eq]; omega) (List.mem_singleton.2 rfl) hnd)
          omega
        show [(some (Blk.row _ _ _ _), true), (some (Blk.row _ _ _ _), true), (some (Blk.row _ _ _ _), true)] = [(some (Blk.row (renL _ _) _ _ _), true), (some (Blk.row (renL _ _) _ _ _), true), (some (Blk.row (renL _ _) _ _ _), true)]
        rw [← e1]
        have k1 := k1
        change renL (szs n0X (namesOf _ _) (kpOf z)) _ = _ ∧ renL (szs n0X (namesOf _ _) (kpOf z)) _ = _ at k1
        rw [k1.1, k1.2]; rfl
    exact fin.elim fun σ ab => hK env h ds σ ab
  exact leaf
def useTX (l : Nat → Int) (n : Nat) (z : T Blk) (i : Nat) (b : List Int) (d : List Bool) (B B2 : List (Nat × Blk)) : Prop :=
  cIX (hX (zoX l z i) (zrowsT 0 1 n) (zrowsT 100 4 n) i B) (ixX i) (zn i) b → cRX (hX (zoX l z i) (zrowsT 0 1 n) (zrowsT 100 4 n) i B) (zn i) b → ∀ {K : KE}, (∀ env h ds σ, Abs n0X σ (stX l n z (i + 1) (ggX (zn i) b) B2).env (stX l n z (i + 1) (ggX (zn i) b) B2).h env h → K .nrm env h ds) → goX (hX (zoX l z i) (zrowsT 0 1 n) (zrowsT 100 4 n) i B) n i (zn i) (.slc n0X 0 i i false 1) b d K
theorem useGX {l : Nat → Int} {n : Nat} {z : T Blk} {i : Nat} {b : List Int} {d : List Bool} {B B2 : List (Nat × Blk)} {ks : List Nat} {oa ra : Nat} {rw : List AV} {C : Prop → Prop} (ho1 : okLit n0X 2097152 [(n0X, oa, .row [] 22 true [])] = true) (Zs : ZinX l n z) (hn : n ≤ 40) (hi : i < n)
    (ht : ∀ Kv, goX (hX (zoX l z i) (zrowsT 0 1 n) (zrowsT 100 4 n) i B) n i (zn i) (.slc n0X 0 i i false 1) b d (obX (zrowsT 0 1 n) (zrowsT 100 4 n) i (zipA B2 ks) oa ra rw Kv) = hdX (hX (zoX l z i) (zrowsT 0 1 n) (zrowsT 100 4 n) i B) n i (ixX i) (zn i) b (C (ttX i (lfX (zoX l z i) (zrowsT 0 1 n) (zrowsT 100 4 n) n i (zn i) b (zipA B2 ks) oa ra rw Kv))))
    (hC : ∀ t, t → C t) (hl : okLit n0X 2097152 (zipA B2 ks) = true) (hk : nodupQ (lmap (fun p => p.1) (lapp (RX (zrowsT 0 1 n) (zrowsT 100 4 n) oa (i + 1)) (zipA B2 ks))) = true) (ha : nodupQ (actsOf (lapp (RX (zrowsT 0 1 n) (zrowsT 100 4 n) oa (i + 1)) (zipA B2 ks)) [((300 + i), ra, rowX rw)]) = true)
    (r1 : 1050507 ≤ ra) (r2 : ra < 1000000000000) (r3 : ra % 4096 ≠ 4095) (hint : IntRow (rowX rw)) (hrow : rowX rw = outX l i) : useTX l n z i b d B B2 := by
  intro hcI hcR K hK
  have hlit : okLit n0X 2097152 (lapp (RX (zrowsT 0 1 n) (zrowsT 100 4 n) oa (i + 1)) (zipA B2 ks)) = true := okLit_row ho1 (belX_O (by omega)) (okLit_row rfl (belX_I hn) (okLit_row rfl (belX_W hn) hl))
  have hZ3 : ∀ p ∈ ([((300 + i), ra, rowX rw)] : List (Nat × Nat × Blk)), 300 ≤ p.1 := fun p hp => by rw [List.mem_singleton.1 hp]; show 300 ≤ 300 + i; omega
  have hnd : (([((300 + i), ra, rowX rw)] : List (Nat × Nat × Blk)).map (·.1)).Nodup := by simp
  have k1 := keepIX Zs hn (i := i) hlit hZ3
  refine round_use2 good1.spl ht ?_
  refine bcase_tt (dcq_lt (by simp only [Int.ofNat_eq_natCast]; omega)) (bcase_tt (inB_of hi) ⟨hcI, hcR, hC _ ?_⟩)
  have leaf : ∀ (env : Env) (h : H) (ds : List Bool), obs [6, 7, 16, 17, 71, 72, 73] (actsOf (lapp (RX (zrowsT 0 1 n) (zrowsT 100 4 n) oa (i + 1)) (zipA B2 ks)) [((300 + i), ra, rowX rw)]) (lapp (RX (zrowsT 0 1 n) (zrowsT 100 4 n) oa (i + 1)) (zipA B2 ks)) [((300 + i), ra, rowX rw)] env h = expsR n0X (kpOf (zoX l z i)) (eX n (ggX (zn i) b) (.slc n0X 0 (i + 1) (i + 1) false 1) (i + 1)) (RX (zrowsT 0 1 n) (zrowsT 100 4 n) oa (i + 1)) (zipA B2 ks) [((300 + i), ra, rowX rw)] (zoX l z i) (rawX (zrowsT 0 1 n) (zrowsT 100 4 n) (ocX i ra)) → K .nrm env h ds := by
    intro env h ds ho
    have fin : ∃ σ, Abs n0X σ (stX l n z (i + 1) (ggX (zn i) b) B2).env (stX l n z (i + 1) (ggX (zn i) b) B2).h env h := by
      rw [expsR_eq] at ho
      · exact NewOK.abs (t := (stX l n z (i + 1) (ggX (zn i) b) B2)) (A := lapp (RX (zrowsT 0 1 n) (zrowsT 100 4 n) oa (i + 1)) (zipA B2 ks)) (Z := [((300 + i), ra, rowX rw)]) (z := (zoX l z i))
          ⟨by rw [lmap_app, zipA_B]; rfl, by show T.set (zoX l z i) (outX l i) (300 + i) = T.set (zoX l z i) (rowX rw) (300 + i); rw [hrow], by show 1050507 ≤ 2097152; decide, by kernel_rfl, hlit, hk, ha,
            fun p hp => by
              rw [List.mem_singleton.1 hp]
              exact ⟨by show 1050507 ≤ zn (300 + i); rw [zn_eq]; omega, by show zn (300 + i) < 2097152; rw [zn_eq]; omega, r1, r2, r3, hint⟩,
            hnd, zoX_ok Zs (by omega)⟩ rfl rfl rfl rfl ho
      · have e1 : (ocX i ra) = renL (szs n0X (namesOf (lapp (RX (zrowsT 0 1 n) (zrowsT 100 4 n) oa (i + 1)) (zipA B2 ks)) [((300 + i), ra, rowX rw)]) (kpOf (zoX l z i))) (zrows 300 4 (i + 1)) := by
          refine zrows_grow (i := i) (fun j hj => ?_) (szs_row hlit (by show 1050507 ≤ zn (300 + i); rw [zn_eq]; omega) (List.mem_singleton.2 rfl) hnd)
          exact szs_zone hlit (zgrow_new hj) (fun p hp e => by rw [List.mem_singleton.1 hp] at e; have e : 300 + i = 300 + j := e; omega)
        show [(some (Blk.row _ _ _ _), true), (some (Blk.row _ _ _ _), true), (some (Blk.row _ _ _ _), true)] = [(some (Blk.row (renL _ _) _ _ _), true), (some (Blk.row (renL _ _) _ _ _), true), (some (Blk.row (renL _ _) _ _ _), true)]
        rw [← e1]
        have k1 := k1
        skip
        rw [k1.1, k1.2]; rfl
    exact fin.elim fun σ ab => hK env h ds σ ab
  exact bcase_tt (dcq_cap i) (bcase_tt (appC_ok (by rw [zrows_len]) (by omega)) (bcase_any (bcase_tt (inR_add (by omega)) leaf) (bcase_tt (inR_add (by omega)) leaf)))
theorem useX_0_x {l : Nat → Int} {n : Nat} {z : T Blk} (Zs : ZinX l n z) (hn : n ≤ 40) (hi : 0 < n) (x : Int) (hx : -128 ≤ x) (hx2 : x ≤ 127) (hrow : rowX [.int .i64 x, .int .i64 (wrapF .i8 (0 + x)), .int .i64 (wrapF .i8 (x + 0)), .int .i64 (wrapF .i8 (x + 0))] = outX l 0) : usefTX l n z [x] dX_0_x (bX0) (bX1 x (wrapF .i8 (0 + x)) (wrapF .i8 (x + 0))) :=
  usefGX (C := fun t => bcase (inR .i64 (wrapF .i8 x)) (bcase (dcq true (eqI (wrapF .i8 x) x)) (bcase (inR .i64 (0 + x)) (bcase (inR .i64 (wrapF .i8 (0 + x))) (bcase (inR .i64 (wrapF .i8 x)) (bcase (dcq true (eqI (wrapF .i8 x) x)) (bcase (inR .i64 (0 + x)) (bcase (inR .i64 (wrapF .i8 (0 + x))) (bcase (inR .i64 (wrapF .i8 x)) (bcase (dcq true (eqI (wrapF .i8 x) x)) (bcase (inR .i64 (x + 0)) (bcase (inR .i64 (wrapF .i8 (x + 0))) (bcase (inR .i64 (wrapF .i8 x)) (bcase (dcq true (eqI (wrapF .i8 x) x)) (bcase (inR .i64 (x + 0)) (bcase (inR .i64 (wrapF .i8 (x + 0))) (t) False) False) False) False) False) False) False) False) False) False) False) False) False) False) False) False) (by kernel_rfl) Zs hn hi (fun Kv => tX_0_x _ _ _ _ _ x Kv) (fun t x => bcase_tt (inR_w8 _) (bcase_tt (dcq_w8 (by omega) (by omega)) (bcase_tt (inR_i64 (by omega) (by omega)) (bcase_tt (inR_w8 _) (bcase_tt (inR_w8 _) (bcase_tt (dcq_w8 (by omega) (by omega)) (bcase_tt (inR_i64 (by omega) (by omega)) (bcase_tt (inR_w8 _) (bcase_tt (inR_w8 _) (bcase_tt (dcq_w8 (by omega) (by omega)) (bcase_tt (inR_i64 (by omega) (by omega)) (bcase_tt (inR_w8 _) (bcase_tt (inR_w8 _) (bcase_tt (dcq_w8 (by omega) (by omega)) (bcase_tt (inR_i64 (by omega) (by omega)) (bcase_tt (inR_w8 _) (x))))))))))))))))) (by kernel_rfl) (by kernel_rfl) (by kernel_rfl) (by decide) (by decide) (by decide) ⟨[x, (wrapF .i8 (0 + x)), (wrapF .i8 (x + 0)), (wrapF .i8 (x + 0))], 3, true, rfl⟩ hrow
theorem useX_1_x {l : Nat → Int} {n : Nat} {z : T Blk} (Zs : ZinX l n z) (hn : n ≤ 40) {i : Nat} (hi : i < n) (a0 : Int) (a1 : Int) (a2 : Int) (x : Int) (hx : -128 ≤ x) (hx2 : x ≤ 127) (ha0 : -128 ≤ a0) (ha0' : a0 ≤ 127) (ha1 : -128 ≤ a1) (ha1' : a1 ≤ 127) (ha2 : -128 ≤ a2) (ha2' : a2 ≤ 127) (hrow : rowX [.int .i64 (wrapF .i8 (a0 + x)), .int .i64 (wrapF .i8 (a1 + x)), .int .i64 (wrapF .i8 (x + a2)), .int .i64 (wrapF .i8 (x + a2))] = outX l i) : useTX l n z i [x] dX_1_x (bX1 a0 a1 a2) (bX2 2 (wrapF .i8 (a0 + x)) (wrapF .i8 (a1 + x)) (wrapF .i8 (x + a2)) x a2) :=
  useGX (C := fun t => bcase (inR .i64 (wrapF .i8 a0)) (bcase (dcq true (eqI (wrapF .i8 a0) a0)) (bcase (inR .i64 (wrapF .i8 x)) (bcase (dcq true (eqI (wrapF .i8 x) x)) (bcase (inR .i64 (a0 + x)) (bcase (inR .i64 (wrapF .i8 (a0 + x))) (bcase (inR .i64 (wrapF .i8 a1)) (bcase (dcq true (eqI (wrapF .i8 a1) a1)) (bcase (inR .i64 (wrapF .i8 x)) (bcase (dcq true (eqI (wrapF .i8 x) x)) (bcase (inR .i64 (a1 + x)) (bcase (inR .i64 (wrapF .i8 (a1 + x))) (bcase (inR .i64 (wrapF .i8 x)) (bcase (dcq true (eqI (wrapF .i8 x) x)) (bcase (inR .i64 (wrapF .i8 a2)) (bcase (dcq true (eqI (wrapF .i8 a2) a2)) (bcase (inR .i64 (x + a2)) (bcase (inR .i64 (wrapF .i8 (x + a2))) (bcase (inR .i64 (wrapF .i8 x)) (bcase (dcq true (eqI (wrapF .i8 x) x)) (bcase (inR .i64 (wrapF .i8 a2)) (bcase (dcq true (eqI (wrapF .i8 a2) a2)) (bcase (inR .i64 (x + a2)) (bcase (inR .i64 (wrapF .i8 (x + a2))) (t) False) False) False) False) False) False) False) False) False) False) False) False) False) False) False) False) False) False) False) False) False) False) False) False) (by kernel_rfl) Zs hn hi (fun Kv => tX_1_x _ _ _ _ _ _ a0 a1 a2 x Kv) (fun t x => bcase_tt (inR_w8 _) (bcase_tt (dcq_w8 (by omega) (by omega)) (bcase_tt (inR_w8 _) (bcase_tt (dcq_w8 (by omega) (by omega)) (bcase_tt (inR_i64 (by omega) (by omega)) (bcase_tt (inR_w8 _) (bcase_tt (inR_w8 _) (bcase_tt (dcq_w8 (by omega) (by omega)) (bcase_tt (inR_w8 _) (bcase_tt (dcq_w8 (by omega) (by omega)) (bcase_tt (inR_i64 (by omega) (by omega)) (bcase_tt (inR_w8 _) (bcase_tt (inR_w8 _) (bcase_tt (dcq_w8 (by omega) (by omega)) (bcase_tt (inR_w8 _) (bcase_tt (dcq_w8 (by omega) (by omega)) (bcase_tt (inR_i64 (by omega) (by omega)) (bcase_tt (inR_w8 _) (bcase_tt (inR_w8 _) (bcase_tt (dcq_w8 (by omega) (by omega)) (bcase_tt (inR_w8 _) (bcase_tt (dcq_w8 (by omega) (by omega)) (bcase_tt (inR_i64 (by omega) (by omega)) (bcase_tt (inR_w8 _) (x))))))))))))))))))))))))) (by kernel_rfl) (by kernel_rfl) (by kernel_rfl) (by decide) (by decide) (by decide) ⟨[(wrapF .i8 (a0 + x)), (wrapF .i8 (a1 + x)), (wrapF .i8 (x + a2)), (wrapF .i8 (x + a2))], 3, true, rfl⟩ hrow
theorem useX_2_x {l : Nat → Int} {n : Nat} {z : T Blk} (Zs : ZinX l n z) (hn : n ≤ 40) {i : Nat} (hi : i < n) (a0 : Int) (a1 : Int) (a2 : Int) (a3 : Int) (a4 : Int) (a5 : Int) (x : Int) (hx : -128 ≤ x) (hx2 : x ≤ 127) (ha0 : -128 ≤ a0) (ha0' : a0 ≤ 127) (ha1 : -128 ≤ a1) (ha1' : a1 ≤ 127) (ha2 : -128 ≤ a2) (ha2' : a2 ≤ 127) (ha3 : -128 ≤ a3) (ha3' : a3 ≤ 127) (hr0 : 0 ≤ a0) (hrow : rowX [.int .i64 (wrapF .i8 (a1 + x)), .int .i64 (wrapF .i8 (a2 + x)), .int .i64 (wrapF .i8 (x + a3)), .int .i64 (wrapF .i8 (x + a3))] = outX l i) : useTX l n z i [x] dX_2_x (bX2 a0 a1 a2 a3 a4 a5) (bX2 (a0 + 1) (wrapF .i8 (a1 + x)) (wrapF .i8 (a2 + x)) (wrapF .i8 (x + a3)) x a3) :=
  useGX (C := fun t => bcase (inR .i64 (a0 + 1)) (bcase (dcq false (eqI a0 (a0 + 1))) (bcase (dcq false (eqI a0 (a0 + 1))) (bcase (dcq true (eqI (a0 + 1) (a0 + 1))) (bcase (dcq true (eqI (a0 + 1) (a0 + 1))) (bcase (inR .i64 (wrapF .i8 a1)) (bcase (dcq true (eqI (wrapF .i8 a1) a1)) (bcase (inR .i64 (wrapF .i8 x)) (bcase (dcq true (eqI (wrapF .i8 x) x)) (bcase (inR .i64 (a1 + x)) (bcase (inR .i64 (wrapF .i8 (a1 + x))) (bcase (dcq false (eqI a0 (a0 + 1))) (bcase (dcq false (eqI a0 (a0 + 1))) (bcase (dcq true (eqI (a0 + 1) (a0 + 1))) (bcase (inR .i64 (wrapF .i8 a2)) (bcase (dcq true (eqI (wrapF .i8 a2) a2)) (bcase (inR .i64 (wrapF .i8 x)) (bcase (dcq true (eqI (wrapF .i8 x) x)) (bcase (inR .i64 (a2 + x)) (bcase (inR .i64 (wrapF .i8 (a2 + x))) (bcase (dcq false (eqI a0 (a0 + 1))) (bcase (dcq false (eqI a0 (a0 + 1))) (bcase (dcq true (eqI (a0 + 1) (a0 + 1))) (bcase (inR .i64 (a0 + 1)) (bcase (dcq false (eqI a0 (a0 + 1))) (bcase (dcq false (eqI a0 (a0 + 1))) (bcase (dcq true (eqI (a0 + 1) (a0 + 1))) (bcase (inR .i64 (wrapF .i8 x)) (bcase (dcq true (eqI (wrapF .i8 x) x)) (bcase (inR .i64 (wrapF .i8 a3)) (bcase (dcq true (eqI (wrapF .i8 a3) a3)) (bcase (inR .i64 (x + a3)) (bcase (inR .i64 (wrapF .i8 (x + a3))) (bcase (dcq true (eqI (a0 + 1) (a0 + 1))) (bcase (dcq false (eqI a0 (a0 + 1))) (bcase (dcq false (eqI a0 (a0 + 1))) (bcase (dcq false (eqI a0 (a0 + 1))) (bcase (dcq false (eqI a0 (a0 + 1))) (bcase (dcq true (eqI (a0 + 1) (a0 + 1))) (bcase (inR .i64 (a0 + 1)) (bcase (dcq false (eqI a0 (a0 + 1))) (bcase (dcq false (eqI a0 (a0 + 1))) (bcase (dcq true (eqI (a0 + 1) (a0 + 1))) (bcase (dcq true (eqI (a0 + 1) (a0 + 1))) (bcase (inR .i64 (wrapF .i8 x)) (bcase (dcq true (eqI (wrapF .i8 x) x)) (bcase (inR .i64 (wrapF .i8 a3)) (bcase (dcq true (eqI (wrapF .i8 a3) a3)) (bcase (inR .i64 (x + a3)) (bcase (inR .i64 (wrapF .i8 (x + a3))) (bcase (dcq true (eqI (a0 + 1) (a0 + 1))) (bcase (dcq true (eqI (a0 + 1) (a0 + 1))) (bcase (dcq true (eqI (a0 + 1) (a0 + 1))) (bcase (dcq true (eqI (a0 + 1) (a0 + 1))) (bcase (dcq true (eqI (a0 + 1) (a0 + 1))) (t) False) False) False) False) False) False) False) False) False) False) False) False) False) False) False) False) False) False) False) False) False) False) False) False) False) False) False) False) False) False) False) False) False) False) False) False) False) False) False) False) False) False) False) False) False) False) False) False) False) False) False) False) False) False) False) (by kernel_rfl) Zs hn hi (fun Kv => tX_2_x _ _ _ _ _ _ a0 a1 a2 a3 a4 a5 x Kv) (fun t x => bcase_tt (inR_i64 (by omega) (by omega)) (bcase_tt (dcq_ne (by omega)) (bcase_tt (dcq_ne (by omega)) (bcase_tt (dcq_eq (by omega)) (bcase_tt (dcq_eq (by omega)) (bcase_tt (inR_w8 _) (bcase_tt (dcq_w8 (by omega) (by omega)) (bcase_tt (inR_w8 _) (bcase_tt (dcq_w8 (by omega) (by omega)) (bcase_tt (inR_i64 (by omega) (by omega)) (bcase_tt (inR_w8 _) (bcase_tt (dcq_ne (by omega)) (bcase_tt (dcq_ne (by omega)) (bcase_tt (dcq_eq (by omega)) (bcase_tt (inR_w8 _) (bcase_tt (dcq_w8 (by omega) (by omega)) (bcase_tt (inR_w8 _) (bcase_tt (dcq_w8 (by omega) (by omega)) (bcase_tt (inR_i64 (by omega) (by omega)) (bcase_tt (inR_w8 _) (bcase_tt (dcq_ne (by omega)) (bcase_tt (dcq_ne (by omega)) (bcase_tt (dcq_eq (by omega)) (bcase_tt (inR_i64 (by omega) (by omega)) (bcase_tt (dcq_ne (by omega)) (bcase_tt (dcq_ne (by omega)) (bcase_tt (dcq_eq (by omega)) (bcase_tt (inR_w8 _) (bcase_tt (dcq_w8 (by omega) (by omega)) (bcase_tt (inR_w8 _) (bcase_tt (dcq_w8 (by omega) (by omega)) (bcase_tt (inR_i64 (by omega) (by omega)) (bcase_tt (inR_w8 _) (bcase_tt (dcq_eq (by omega)) (bcase_tt (dcq_ne (by omega)) (bcase_tt (dcq_ne (by omega)) (bcase_tt (dcq_ne (by omega)) (bcase_tt (dcq_ne (by omega)) (bcase_tt (dcq_eq (by omega)) (bcase_tt (inR_i64 (by omega) (by omega)) (bcase_tt (dcq_ne (by omega)) (bcase_tt (dcq_ne (by omega)) (bcase_tt (dcq_eq (by omega)) (bcase_tt (dcq_eq (by omega)) (bcase_tt (inR_w8 _) (bcase_tt (dcq_w8 (by omega) (by omega)) (bcase_tt (inR_w8 _) (bcase_tt (dcq_w8 (by omega) (by omega)) (bcase_tt (inR_i64 (by omega) (by omega)) (bcase_tt (inR_w8 _) (bcase_tt (dcq_eq (by omega)) (bcase_tt (dcq_eq (by omega)) (bcase_tt (dcq_eq (by omega)) (bcase_tt (dcq_eq (by omega)) (bcase_tt (dcq_eq (by omega)) (x)))))))))))))))))))))))))))))))))))))))))))))))))))))))) (by kernel_rfl) (by kernel_rfl) (by kernel_rfl) (by decide) (by decide) (by decide) ⟨[(wrapF .i8 (a1 + x)), (wrapF .i8 (a2 + x)), (wrapF .i8 (x + a3)), (wrapF .i8 (x + a3))], 3, true, rfl⟩ hrow
end
end Go.Proofs.YtkfhjobebhdpoaaGreat

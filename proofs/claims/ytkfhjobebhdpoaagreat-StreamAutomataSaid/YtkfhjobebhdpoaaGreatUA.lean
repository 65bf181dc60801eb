/- Stream: the states of Run's loop over ticks. -/
import Derived.Test.YtkfhjobebhdpoaaGreatE7
import Derived.Test.YtkfhjobebhdpoaaGreatM
import Derived.Test.YtkfhjobebhdpoaaGreatBits
import Derived.Test.YtkfhjobebhdpoaaGreatSK
import Derived.Test.YtkfhjobebhdpoaaGreatG
set_option linter.unusedVariables false
set_option autoImplicit false
set_option maxRecDepth 1000000
set_option maxHeartbeats 1000000
namespace Go.Proofs.YtkfhjobebhdpoaaGreat
noncomputable section
open Go.X
def n0U : Nat := 1049473
def kU0 : Nat × Blk := (1049263, .row [.ptr 1049261 0, .int .i64 (.ofNat 0), .nils, .str 1 102, .slc 11 0 1 1 false 5, .slc 10 0 1 1 false 5, .nils, .slc 9 0 1 1 false 12, .int .i64 (.ofNat 0), .ptr 1049275 0] 94 true [])
def kU1 : Nat × Blk := (1049261, .row [.map 1049259, .map 1049260] 63 true [])
def kU2 : Nat × Blk := (11, .row [.str 1 99, .int .i64 (.ofNat 1), .int .i64 (.ofNat 0), .nils, .int .i64 (.ofNat 7)] 85 true [])
def kU3 : Nat × Blk := (10, .row [.str 1 121, .int .i64 (.ofNat 6), .int .i64 (.ofNat 0), .nils, .int .i64 (.ofNat 25)] 85 true [])
def kU4 : Nat × Blk := (9, .row [.nils, .int .i64 (.ofNat 0), .int .i64 (.ofNat 0), .str 0 0, .int .i64 (.ofNat 0), .int .i64 (.ofNat 0), .int .i64 (.ofNat 0), .int .i64 (.ofNat 0), .nils, .int .i64 (.ofNat 0), .slc 12 0 2 2 false 6, .int .i64 (.ofNat 36)] 160 true [])
def kU5 : Nat × Blk := (1049275, .row [.ptr 1049263 0, .ptr 1049266 0, .map 1049274, .slc 1049472 0 1 1 false 1, .slc 1049467 0 1 1 false 1, .nils] 108 true [])
def kU6 : Nat × Blk := (1049259, .map [0] 1 [(.str 1 102, .agg [.str 1 102, .slc 11 0 1 1 false 5, .slc 10 0 1 1 false 5, .nils, .slc 9 0 1 1 false 12, .int .i64 (.ofNat 0)])])
def kU7 : Nat × Blk := (1049260, .map [0, 1, 2, 3, 4, 5, 6, 7, 8, 9, 10, 11, 12, 13, 14, 15, 16, 17, 18] 19 [(.int .i64 (.ofNat 1), .fn (Go.Fn.func 41) [] []), (.int .i64 (.ofNat 2), .fn (Go.Fn.func 42) [] []), (.int .i64 (.ofNat 3), .fn (Go.Fn.func 43) [] []), (.int .i64 (.ofNat 4), .fn (Go.Fn.func 44) [] []), (.int .i64 (.ofNat 5), .fn (Go.Fn.func 45) [] []), (.int .i64 (.ofNat 6), .fn (Go.Fn.func 46) [] []), (.int .i64 (.ofNat 7), .fn (Go.Fn.func 47) [] []), (.int .i64 (.ofNat 8), .fn (Go.Fn.func 48) [] []), (.int .i64 (.ofNat 9), .fn (Go.Fn.func 49) [] []), (.int .i64 (.ofNat 10), .fn (Go.Fn.func 50) [] []), (.int .i64 (.ofNat 11), .fn (Go.Fn.func 51) [] []), (.int .i64 (.ofNat 12), .fn (Go.Fn.func 52) [] []), (.int .i64 (.ofNat 13), .fn (Go.Fn.func 53) [] []), (.int .i64 (.ofNat 14), .fn (Go.Fn.func 54) [] []), (.int .i64 (.ofNat 15), .fn (Go.Fn.func 55) [] []), (.int .i64 (.ofNat 16), .fn (Go.Fn.func 56) [] []), (.int .i64 (.ofNat 17), .fn (Go.Fn.func 57) [] []), (.int .i64 (.ofNat 18), .fn (Go.Fn.func 58) [] []), (.int .i64 (.ofNat 19), .fn (Go.Fn.func 59) [] [])])
def kU8 : Nat × Blk := (12, .row [.str 1 97, .slc 16 0 1 1 false 12, .nils, .nils, .slc 15 0 1 1 false 12, .int .i64 (.ofNat 46), .str 1 98, .slc 14 0 1 1 false 12, .nils, .nils, .slc 13 0 1 1 false 12, .int .i64 (.ofNat 101)] 163 true [])
def kU9 : Nat × Blk := (1049266, .row [.map 1049264, .map 1049265, .nilp] 98 true [])
def kU10 : Nat × Blk := (1049274, .map [] 0 [])
def kU11 : Nat × Blk := (1049472, .row [.ptr 1049273 0] 101 true [])
def kU12 : Nat × Blk := (1049467, .row [.ptr 1049280 0] 189 true [])
def kU13 : Nat × Blk := (16, .row [.int .i64 (.ofNat 2), .int .i64 (.ofNat 0), .str 1 99, .int .i64 (.ofNat 0), .int .i64 (.ofNat 0), .int .i64 (.ofNat 0), .int .i64 (.ofNat 0), .nils, .int .i64 (.ofNat 61), .str 1 98, .bool true, .int .i64 (.ofNat 61)] 165 true [])
def kU14 : Nat × Blk := (15, .row [.slc 20 0 1 1 true 1, .int .i64 (.ofNat 8), .int .i64 (.ofNat 0), .str 0 0, .int .i64 (.ofNat 0), .int .i64 (.ofNat 0), .int .i64 (.ofNat 0), .int .i64 (.ofNat 0), .slc 19 0 2 2 true 9, .int .i64 (.ofNat 82), .nils, .int .i64 (.ofNat 78)] 160 true [])
def kU15 : Nat × Blk := (14, .row [.int .i64 (.ofNat 2), .int .i64 (.ofNat 0), .str 1 99, .int .i64 (.ofNat 0), .int .i64 (.ofNat 0), .int .i64 (.ofNat 0), .int .i64 (.ofNat 0), .nils, .int .i64 (.ofNat 116), .str 1 97, .bool true, .int .i64 (.ofNat 116)] 165 true [])
def kU16 : Nat × Blk := (13, .row [.slc 18 0 1 1 true 1, .int .i64 (.ofNat 8), .int .i64 (.ofNat 0), .str 0 0, .int .i64 (.ofNat 0), .int .i64 (.ofNat 0), .int .i64 (.ofNat 0), .int .i64 (.ofNat 0), .slc 17 0 2 2 true 9, .int .i64 (.ofNat 137), .nils, .int .i64 (.ofNat 133)] 160 true [])
def kU17 : Nat × Blk := (1049264, .map [0, 1] 2 [(.str 1 99, .ptr 1049270 0), (.str 1 121, .ptr 1049273 0)])
def kU18 : Nat × Blk := (1049265, .map [0, 1] 2 [(.str 1 99, .agg [.str 1 99, .int .i64 (.ofNat 1), .int .i64 (.ofNat 0), .nils, .int .i64 (.ofNat 7)]), (.str 1 121, .agg [.str 1 121, .int .i64 (.ofNat 6), .int .i64 (.ofNat 0), .nils, .int .i64 (.ofNat 25)])])
def kU19 : Nat × Blk := (1049273, .row [.slc 1049272 0 1 1 true 1, .bool false, .int .i64 (.ofNat 0), .fn (Go.Fn.func 228) [] [.ptr 1049281 0, .ptr 1049277 0, .ptr 1049469 0, .ptr 1049470 0]] 110 true [])
def kU20 : Nat × Blk := (1049280, .row [.ptr 1049275 0, .nils, .int .i64 (.ofNat 0), .int .i64 (.ofNat 0), .str 0 0, .int .i64 (.ofNat 0), .int .i64 (.ofNat 0), .int .i64 (.ofNat 0), .int .i64 (.ofNat 0), .nils, .int .i64 (.ofNat 0), .slc 12 0 2 2 false 6, .int .i64 (.ofNat 36), .int .i64 (.ofNat 0), .bool false, .slc 1049279 0 2 2 true 1, .slc 1049388 0 2 2 false 1, .int .i64 (.ofNat 0)] 193 true [])
def kU21 : Nat × Blk := (20, .row [.str 1 121] 9 true [])
def kU22 : Nat × Blk := (19, .row [.int .i64 (.ofNat 1), .int .i64 (.ofNat 0), .str 0 0, .int .i64 (.ofNat 6), .int .i64 (.ofNat 0), .int .i64 (.ofNat 0), .int .i64 (.ofNat 0), .nils, .int .i64 (.ofNat 82), .int .i64 (.ofNat 4), .int .i64 (.ofNat 3), .str 0 0, .int .i64 (.ofNat 0), .int .i64 (.ofNat 0), .int .i64 (.ofNat 0), .int .i64 (.ofNat 0), .slc 22 0 2 2 true 9, .int .i64 (.ofNat 91)] 157 true [])
def kU23 : Nat × Blk := (18, .row [.str 1 121] 9 true [])
def kU24 : Nat × Blk := (17, .row [.int .i64 (.ofNat 1), .int .i64 (.ofNat 0), .str 0 0, .int .i64 (.ofNat 6), .int .i64 (.ofNat 0), .int .i64 (.ofNat 100), .int .i64 (.ofNat 0), .nils, .int .i64 (.ofNat 137), .int .i64 (.ofNat 4), .int .i64 (.ofNat 3), .str 0 0, .int .i64 (.ofNat 0), .int .i64 (.ofNat 0), .int .i64 (.ofNat 0), .int .i64 (.ofNat 0), .slc 21 0 2 2 true 9, .int .i64 (.ofNat 148)] 157 true [])
def kU25 : Nat × Blk := (1049270, .row [.slc 1049269 0 1 1 true 1, .bool false, .int .i64 (.ofNat 0), .fn (Go.Fn.func 122) [] []] 110 true [])
def kU26 : Nat × Blk := (1049272, .row [.int .i64 (.ofNat 0)] 3 true [])
def kU27 : Nat × Blk := (1049281, .row [.ptr 1049280 0] 189 true [])
def kU28 : Nat × Blk := (1049277, .row [.ptr 1049275 0] 89 true [])
def kU29 : Nat × Blk := (1049469, .row [.str 1 121] 9 true [])
def kU30 : Nat × Blk := (1049470, .row [.ptr 1049273 0] 101 true [])
def kU31 : Nat × Blk := (1049279, .row [.ptr 1049302 0, .ptr 1049394 0] 89 true [])
def kU32 : Nat × Blk := (1049388, .row [.slc 1049294 0 1 1 false 1, .slc 1049386 0 1 1 false 1] 106 true [1049296])
def kU33 : Nat × Blk := (22, .row [.int .i64 (.ofNat 2), .int .i64 (.ofNat 0), .str 1 121, .int .i64 (.ofNat 0), .int .i64 (.ofNat 0), .int .i64 (.ofNat 0), .int .i64 (.ofNat 0), .nils, .int .i64 (.ofNat 91), .int .i64 (.ofNat 1), .int .i64 (.ofNat 0), .str 0 0, .int .i64 (.ofNat 6), .int .i64 (.ofNat 0), .int .i64 (.ofNat 1), .int .i64 (.ofNat 0), .nils, .int .i64 (.ofNat 95)] 157 true [])
def kU34 : Nat × Blk := (21, .row [.int .i64 (.ofNat 2), .int .i64 (.ofNat 0), .str 1 121, .int .i64 (.ofNat 0), .int .i64 (.ofNat 0), .int .i64 (.ofNat 0), .int .i64 (.ofNat 0), .nils, .int .i64 (.ofNat 148), .int .i64 (.ofNat 1), .int .i64 (.ofNat 0), .str 0 0, .int .i64 (.ofNat 6), .int .i64 (.ofNat 0), .int .i64 (.ofNat 1), .int .i64 (.ofNat 0), .nils, .int .i64 (.ofNat 152)] 157 true [])
def kU35 : Nat × Blk := (1049269, .row [.int .i64 (.ofNat 0)] 3 true [])
def kU36 : Nat × Blk := (1049302, .row [.ptr 1049263 0, .ptr 1049300 0, .map 1049301, .slc 1049373 0 1 1 false 1, .nils, .nils] 108 true [])
def kU37 : Nat × Blk := (1049394, .row [.ptr 1049263 0, .ptr 1049392 0, .map 1049393, .slc 1049465 0 1 1 false 1, .nils, .nils] 108 true [])
def kU38 : Nat × Blk := (1049294, .row [.fn (Go.Fn.func 270) [] [.ptr 1049292 0]] 23 true [])
def kU39 : Nat × Blk := (1049386, .row [.fn (Go.Fn.func 270) [] [.ptr 1049384 0]] 23 true [])
def kU40 : Nat × Blk := (1049300, .row [.map 1049298, .map 1049299, .ptr 1049266 0] 98 true [])
def kU41 : Nat × Blk := (1049301, .map [0] 1 [(.str 1 121, .ptr 1049367 0)])
def kU42 : Nat × Blk := (1049373, .row [.ptr 1049367 0] 101 true [])
def kU43 : Nat × Blk := (1049392, .row [.map 1049390, .map 1049391, .ptr 1049266 0] 98 true [])
def kU44 : Nat × Blk := (1049393, .map [0] 1 [(.str 1 121, .ptr 1049459 0)])
def kU45 : Nat × Blk := (1049465, .row [.ptr 1049459 0] 101 true [])
def kU46 : Nat × Blk := (1049292, .row [.fn (Go.Fn.func 89) [] [.ptr 1049286 0, .ptr 1049290 0], .int .i64 (.ofNat 1)] 171 true [])
def kU47 : Nat × Blk := (1049384, .row [.fn (Go.Fn.func 89) [] [.ptr 1049378 0, .ptr 1049382 0], .int .i64 (.ofNat 1)] 171 true [])
def kU48 : Nat × Blk := (1049298, .map [] 0 [])
def kU49 : Nat × Blk := (1049299, .map [] 0 [])
def kU50 : Nat × Blk := (1049367, .row [.slc 1049366 0 1 1 true 1, .bool false, .int .i64 (.ofNat 0), .fn (Go.Fn.func 229) [] [.ptr 1049361 0, .ptr 1049304 0, .ptr 1049307 0, .ptr 1049360 0, .ptr 1049362 0, .ptr 1049363 0]] 110 true [])
def kU51 : Nat × Blk := (1049390, .map [] 0 [])
def kU52 : Nat × Blk := (1049391, .map [] 0 [])
def kU53 : Nat × Blk := (1049459, .row [.slc 1049458 0 1 1 true 1, .bool false, .int .i64 (.ofNat 0), .fn (Go.Fn.func 229) [] [.ptr 1049453 0, .ptr 1049396 0, .ptr 1049399 0, .ptr 1049452 0, .ptr 1049454 0, .ptr 1049455 0]] 110 true [])
def kU54 : Nat × Blk := (1049286, .row [.ptr 1049275 0] 89 true [])
def kU55 : Nat × Blk := (1049290, .row [.ptr 1049270 0] 101 true [])
def kU56 : Nat × Blk := (1049378, .row [.ptr 1049275 0] 89 true [])
def kU57 : Nat × Blk := (1049382, .row [.ptr 1049270 0] 101 true [])
def kU58 : Nat × Blk := (1049366, .row [.int .i64 (.ofNat 0)] 3 true [])
def kU59 : Nat × Blk := (1049361, .row [.int .i64 (.ofNat 0)] 3 true [])
def kU60 : Nat × Blk := (1049304, .row [.ptr 1049302 0] 89 true [])
def kU61 : Nat × Blk := (1049307, .row [.str 1 121, .int .i64 (.ofNat 6), .int .i64 (.ofNat 0), .nils, .int .i64 (.ofNat 25)] 85 true [])
def kU62 : Nat × Blk := (1049360, .row [.fn (Go.Fn.func 101) [] [.ptr 1049358 0, .ptr 1049359 0, .ptr 1049310 0], .int .i64 (.ofNat 6)] 171 true [])
def kU63 : Nat × Blk := (1049362, .row [.slc 1049369 0 1 1 false 1] 104 true [])
def kU64 : Nat × Blk := (1049363, .row [.slc 1049371 0 1 1 false 1] 22 true [])
def kU65 : Nat × Blk := (1049458, .row [.int .i64 (.ofNat 0)] 3 true [])
def kU66 : Nat × Blk := (1049453, .row [.int .i64 (.ofNat 0)] 3 true [])
def kU67 : Nat × Blk := (1049396, .row [.ptr 1049394 0] 89 true [])
def kU68 : Nat × Blk := (1049399, .row [.str 1 121, .int .i64 (.ofNat 6), .int .i64 (.ofNat 0), .nils, .int .i64 (.ofNat 25)] 85 true [])
def kU69 : Nat × Blk := (1049452, .row [.fn (Go.Fn.func 101) [] [.ptr 1049450 0, .ptr 1049451 0, .ptr 1049402 0], .int .i64 (.ofNat 6)] 171 true [])
def kU70 : Nat × Blk := (1049454, .row [.slc 1049461 0 1 1 false 1] 104 true [])
def kU71 : Nat × Blk := (1049455, .row [.slc 1049463 0 1 1 false 1] 22 true [])
def kU72 : Nat × Blk := (1049358, .row [.slc 1049357 0 2 2 false 2] 174 true [])
def kU73 : Nat × Blk := (1049359, .row [.nils] 67 true [])
def kU74 : Nat × Blk := (1049310, .row [.ptr 1049302 0] 89 true [])
def kU75 : Nat × Blk := (1049369, .row [.ptr 1049367 0] 101 true [])
def kU76 : Nat × Blk := (1049371, .row [.int .i64 (.ofNat 1)] 3 true [])
def kU77 : Nat × Blk := (1049450, .row [.slc 1049449 0 2 2 false 2] 174 true [])
def kU78 : Nat × Blk := (1049451, .row [.nils] 67 true [])
def kU79 : Nat × Blk := (1049402, .row [.ptr 1049394 0] 89 true [])
def kU80 : Nat × Blk := (1049461, .row [.ptr 1049459 0] 101 true [])
def kU81 : Nat × Blk := (1049463, .row [.int .i64 (.ofNat 1)] 3 true [])
def kU82 : Nat × Blk := (1049357, .row [.fn (Go.Fn.func 88) [] [.ptr 1049317 0], .int .i64 (.ofNat 6), .fn (Go.Fn.func 95) [] [.ptr 1049345 0, .ptr 1049324 0], .int .i64 (.ofNat 6)] 171 true [1049320])
def kU83 : Nat × Blk := (1049449, .row [.fn (Go.Fn.func 88) [] [.ptr 1049409 0], .int .i64 (.ofNat 6), .fn (Go.Fn.func 95) [] [.ptr 1049437 0, .ptr 1049416 0], .int .i64 (.ofNat 6)] 171 true [1049412])
def kU84 : Nat × Blk := (1049317, .row [.int .i64 (.ofNat 1), .int .i64 (.ofNat 0), .str 0 0, .int .i64 (.ofNat 6), .int .i64 (.ofNat 0), .int .i64 (.ofNat 0), .int .i64 (.ofNat 0), .nils, .int .i64 (.ofNat 82)] 157 true [])
def kU85 : Nat × Blk := (1049345, .row [.slc 1049344 0 2 2 false 2] 174 true [])
def kU86 : Nat × Blk := (1049324, .row [.int .i64 (.ofNat 4), .int .i64 (.ofNat 3), .str 0 0, .int .i64 (.ofNat 0), .int .i64 (.ofNat 0), .int .i64 (.ofNat 0), .int .i64 (.ofNat 0), .slc 22 0 2 2 true 9, .int .i64 (.ofNat 91)] 157 true [])
def kU87 : Nat × Blk := (1049409, .row [.int .i64 (.ofNat 1), .int .i64 (.ofNat 0), .str 0 0, .int .i64 (.ofNat 6), .int .i64 (.ofNat 0), .int .i64 (.ofNat 100), .int .i64 (.ofNat 0), .nils, .int .i64 (.ofNat 137)] 157 true [])
def kU88 : Nat × Blk := (1049437, .row [.slc 1049436 0 2 2 false 2] 174 true [])
def kU89 : Nat × Blk := (1049416, .row [.int .i64 (.ofNat 4), .int .i64 (.ofNat 3), .str 0 0, .int .i64 (.ofNat 0), .int .i64 (.ofNat 0), .int .i64 (.ofNat 0), .int .i64 (.ofNat 0), .slc 21 0 2 2 true 9, .int .i64 (.ofNat 148)] 157 true [])
def kU90 : Nat × Blk := (1049344, .row [.fn (Go.Fn.func 89) [] [.ptr 1049330 0, .ptr 1049334 0], .int .i64 (.ofNat 6), .fn (Go.Fn.func 88) [] [.ptr 1049341 0], .int .i64 (.ofNat 6)] 171 true [1049337])
def kU91 : Nat × Blk := (1049436, .row [.fn (Go.Fn.func 89) [] [.ptr 1049422 0, .ptr 1049426 0], .int .i64 (.ofNat 6), .fn (Go.Fn.func 88) [] [.ptr 1049433 0], .int .i64 (.ofNat 6)] 171 true [1049429])
def kU92 : Nat × Blk := (1049330, .row [.ptr 1049302 0] 89 true [])
def kU93 : Nat × Blk := (1049334, .row [.ptr 1049273 0] 101 true [])
def kU94 : Nat × Blk := (1049341, .row [.int .i64 (.ofNat 1), .int .i64 (.ofNat 0), .str 0 0, .int .i64 (.ofNat 6), .int .i64 (.ofNat 0), .int .i64 (.ofNat 1), .int .i64 (.ofNat 0), .nils, .int .i64 (.ofNat 95)] 157 true [])
def kU95 : Nat × Blk := (1049422, .row [.ptr 1049394 0] 89 true [])
def kU96 : Nat × Blk := (1049426, .row [.ptr 1049273 0] 101 true [])
def kU97 : Nat × Blk := (1049433, .row [.int .i64 (.ofNat 1), .int .i64 (.ofNat 0), .str 0 0, .int .i64 (.ofNat 6), .int .i64 (.ofNat 0), .int .i64 (.ofNat 1), .int .i64 (.ofNat 0), .nils, .int .i64 (.ofNat 152)] 157 true [])
def kU98 (x0 : Int) : Nat × Blk := (1049263, .row [.ptr 1049261 0, .int .i64 x0, .nils, .str 1 102, .slc 11 0 1 1 false 5, .slc 10 0 1 1 false 5, .nils, .slc 9 0 1 1 false 12, .int .i64 (.ofNat 0), .ptr 1049275 0] 94 true [])
def kU99 (x0 : Int) : Nat × Blk := (1049273, .row [.slc 1049474 0 1 1 true 1, .bool true, .int .i64 x0, .fn (Go.Fn.func 228) [] [.ptr 1049281 0, .ptr 1049277 0, .ptr 1049469 0, .ptr 1049470 0]] 110 true [])
def kU100 (x0 : Int) : Nat × Blk := (1049280, .row [.ptr 1049275 0, .nils, .int .i64 (.ofNat 0), .int .i64 (.ofNat 0), .str 0 0, .int .i64 (.ofNat 0), .int .i64 (.ofNat 0), .int .i64 (.ofNat 0), .int .i64 (.ofNat 0), .nils, .int .i64 (.ofNat 0), .slc 12 0 2 2 false 6, .int .i64 (.ofNat 36), .int .i64 (.ofNat 0), .bool false, .slc 1049279 0 2 2 true 1, .slc 1049388 0 2 2 false 1, .int .i64 x0] 193 true [])
def kU101 (x0 : Int) : Nat × Blk := (1049270, .row [.slc 1049475 0 1 1 true 1, .bool true, .int .i64 x0, .fn (Go.Fn.func 122) [] []] 110 true [])
def kU102 (x0 : Int) : Nat × Blk := (1049474, .row [.int .i64 x0] 3 true [])
def kU103 : Nat × Blk := (1049388, .row [.slc 1049294 0 1 1 false 1, .slc 1049386 0 1 1 false 1] 106 true [])
def kU104 : Nat × Blk := (1049475, .row [.int .i64 (.ofNat 0)] 3 true [])
def kU105 (x0 : Int) : Nat × Blk := (1049367, .row [.slc 1049474 0 1 1 true 1, .bool true, .int .i64 x0, .fn (Go.Fn.func 229) [] [.ptr 1049361 0, .ptr 1049304 0, .ptr 1049307 0, .ptr 1049360 0, .ptr 1049362 0, .ptr 1049363 0]] 110 true [])
def kU106 (x0 : Int) : Nat × Blk := (1049361, .row [.int .i64 x0] 3 true [])
def kU107 : Nat × Blk := (1049359, .row [.slc 1049476 0 1 1 true 1] 67 true [])
def kU108 : Nat × Blk := (1049357, .row [.fn (Go.Fn.func 88) [] [.ptr 1049317 0], .int .i64 (.ofNat 6), .fn (Go.Fn.func 95) [] [.ptr 1049345 0, .ptr 1049324 0], .int .i64 (.ofNat 6)] 171 true [])
def kU109 (x0 : Int) : Nat × Blk := (1049476, .row [.int .i64 x0] 3 true [])
def kU110 : Nat × Blk := (1049449, .row [.fn (Go.Fn.func 88) [] [.ptr 1049409 0], .int .i64 (.ofNat 6), .fn (Go.Fn.func 95) [] [.ptr 1049437 0, .ptr 1049416 0], .int .i64 (.ofNat 6)] 171 true [])
def kU111 : Nat × Blk := (1049344, .row [.fn (Go.Fn.func 89) [] [.ptr 1049330 0, .ptr 1049334 0], .int .i64 (.ofNat 6), .fn (Go.Fn.func 88) [] [.ptr 1049341 0], .int .i64 (.ofNat 6)] 171 true [])
def kU112 : Nat × Blk := (1049436, .row [.fn (Go.Fn.func 89) [] [.ptr 1049422 0, .ptr 1049426 0], .int .i64 (.ofNat 6), .fn (Go.Fn.func 88) [] [.ptr 1049433 0], .int .i64 (.ofNat 6)] 171 true [])
def kU113 (x0 : Int) : Nat × Blk := (1049280, .row [.ptr 1049275 0, .nils, .int .i64 (.ofNat 0), .int .i64 (.ofNat 0), .str 0 0, .int .i64 (.ofNat 0), .int .i64 (.ofNat 0), .int .i64 (.ofNat 0), .int .i64 (.ofNat 0), .nils, .int .i64 (.ofNat 0), .slc 12 0 2 2 false 6, .int .i64 (.ofNat 36), .int .i64 (.ofNat 1), .bool false, .slc 1049279 0 2 2 true 1, .slc 1049388 0 2 2 false 1, .int .i64 x0] 193 true [])
def kU114 (x0 : Int) : Nat × Blk := (1049475, .row [.int .i64 x0] 3 true [])
def kU115 (x0 : Int) : Nat × Blk := (1049367, .row [.slc 1049476 0 1 1 true 1, .bool true, .int .i64 x0, .fn (Go.Fn.func 229) [] [.ptr 1049361 0, .ptr 1049304 0, .ptr 1049307 0, .ptr 1049360 0, .ptr 1049362 0, .ptr 1049363 0]] 110 true [])
def kU116 (x0 : Int) : Nat × Blk := (1049459, .row [.slc 1049474 0 1 1 true 1, .bool true, .int .i64 x0, .fn (Go.Fn.func 229) [] [.ptr 1049453 0, .ptr 1049396 0, .ptr 1049399 0, .ptr 1049452 0, .ptr 1049454 0, .ptr 1049455 0]] 110 true [])
def kU117 (x0 : Int) : Nat × Blk := (1049453, .row [.int .i64 x0] 3 true [])
def kU118 : Nat × Blk := (1049359, .row [.slc 1049477 0 1 1 true 1] 67 true [])
def kU119 : Nat × Blk := (1049451, .row [.slc 1049478 0 1 1 true 1] 67 true [])
def kU120 (x0 : Int) : Nat × Blk := (1049477, .row [.int .i64 x0] 3 true [])
def kU121 (x0 : Int) : Nat × Blk := (1049478, .row [.int .i64 x0] 3 true [])
def kU122 (x0 : Int) : Nat × Blk := (1049459, .row [.slc 1049476 0 1 1 true 1, .bool true, .int .i64 x0, .fn (Go.Fn.func 229) [] [.ptr 1049453 0, .ptr 1049396 0, .ptr 1049399 0, .ptr 1049452 0, .ptr 1049454 0, .ptr 1049455 0]] 110 true [])
def kU123 : Nat × Blk := (1049451, .row [.slc 1049476 0 1 1 true 1] 67 true [])
def bU0 : List (Nat × Blk) := [kU0, kU1, kU2, kU3, kU4, kU5, kU6, kU7, kU8, kU9, kU10, kU11, kU12, kU13, kU14, kU15, kU16, kU17, kU18, kU19, kU20, kU21, kU22, kU23, kU24, kU25, kU26, kU27, kU28, kU29, kU30, kU31, kU32, kU33, kU34, kU35, kU36, kU37, kU38, kU39, kU40, kU41, kU42, kU43, kU44, kU45, kU46, kU47, kU48, kU49, kU50, kU51, kU52, kU53, kU54, kU55, kU56, kU57, kU58, kU59, kU60, kU61, kU62, kU63, kU64, kU65, kU66, kU67, kU68, kU69, kU70, kU71, kU72, kU73, kU74, kU75, kU76, kU77, kU78, kU79, kU80, kU81, kU82, kU83, kU84, kU85, kU86, kU87, kU88, kU89, kU90, kU91, kU92, kU93, kU94, kU95, kU96, kU97]
def bU1 (a0 : Int) (a1 : Int) : List (Nat × Blk) := [kU98 a0, kU1, kU2, kU3, kU4, kU5, kU6, kU7, kU8, kU9, kU10, kU11, kU12, kU13, kU14, kU15, kU16, kU17, kU18, kU99 a0, kU100 a0, kU21, kU22, kU23, kU24, kU101 a0, kU102 a1, kU27, kU28, kU29, kU30, kU31, kU103, kU33, kU34, kU104, kU36, kU37, kU38, kU39, kU40, kU41, kU42, kU43, kU44, kU45, kU46, kU47, kU48, kU49, kU105 a0, kU51, kU52, kU53, kU54, kU55, kU56, kU57, kU106 a0, kU60, kU61, kU62, kU63, kU64, kU65, kU66, kU67, kU68, kU69, kU70, kU71, kU72, kU107, kU74, kU75, kU76, kU77, kU78, kU79, kU80, kU81, kU108, kU109 a0, kU110, kU84, kU85, kU86, kU87, kU88, kU89, kU111, kU112, kU92, kU93, kU94, kU95, kU96, kU97]
def bU2 (a0 : Int) (a1 : Int) (a2 : Int) (a3 : Int) (a4 : Int) (a5 : Int) (a6 : Int) : List (Nat × Blk) := [kU98 a0, kU1, kU2, kU3, kU4, kU5, kU6, kU7, kU8, kU9, kU10, kU11, kU12, kU13, kU14, kU15, kU16, kU17, kU18, kU99 a0, kU113 a0, kU21, kU22, kU23, kU24, kU101 a0, kU102 a1, kU27, kU28, kU29, kU30, kU31, kU103, kU33, kU34, kU114 a2, kU36, kU37, kU38, kU39, kU40, kU41, kU42, kU43, kU44, kU45, kU46, kU47, kU48, kU49, kU115 a3, kU51, kU52, kU116 a0, kU54, kU55, kU56, kU57, kU109 a4, kU106 a3, kU60, kU61, kU62, kU63, kU64, kU117 a0, kU67, kU68, kU69, kU70, kU71, kU72, kU118, kU74, kU75, kU76, kU77, kU119, kU79, kU80, kU81, kU108, kU120 a5, kU110, kU121 a6, kU84, kU85, kU86, kU87, kU88, kU89, kU111, kU112, kU92, kU93, kU94, kU95, kU96, kU97]
def bU3 (a0 : Int) (a1 : Int) (a2 : Int) (a3 : Int) (a4 : Int) (a5 : Int) (a6 : Int) : List (Nat × Blk) := [kU98 a0, kU1, kU2, kU3, kU4, kU5, kU6, kU7, kU8, kU9, kU10, kU11, kU12, kU13, kU14, kU15, kU16, kU17, kU18, kU99 a0, kU100 a0, kU21, kU22, kU23, kU24, kU101 a0, kU102 a1, kU27, kU28, kU29, kU30, kU31, kU103, kU33, kU34, kU114 a2, kU36, kU37, kU38, kU39, kU40, kU41, kU42, kU43, kU44, kU45, kU46, kU47, kU48, kU49, kU105 a0, kU51, kU52, kU122 a3, kU54, kU55, kU56, kU57, kU106 a0, kU60, kU61, kU62, kU63, kU64, kU109 a4, kU117 a3, kU67, kU68, kU69, kU70, kU71, kU72, kU118, kU74, kU75, kU76, kU77, kU119, kU79, kU80, kU81, kU108, kU120 a5, kU110, kU121 a6, kU84, kU85, kU86, kU87, kU88, kU89, kU111, kU112, kU92, kU93, kU94, kU95, kU96, kU97]
def bU4 (a0 : Int) (a1 : Int) (a2 : Int) (a3 : Int) : List (Nat × Blk) := [kU98 a0, kU1, kU2, kU3, kU4, kU5, kU6, kU7, kU8, kU9, kU10, kU11, kU12, kU13, kU14, kU15, kU16, kU17, kU18, kU99 a0, kU113 a0, kU21, kU22, kU23, kU24, kU101 a0, kU102 a1, kU27, kU28, kU29, kU30, kU31, kU103, kU33, kU34, kU114 a2, kU36, kU37, kU38, kU39, kU40, kU41, kU42, kU43, kU44, kU45, kU46, kU47, kU48, kU49, kU50, kU51, kU52, kU116 a0, kU54, kU55, kU56, kU57, kU58, kU59, kU60, kU61, kU62, kU63, kU64, kU117 a0, kU67, kU68, kU69, kU70, kU71, kU72, kU73, kU74, kU75, kU76, kU77, kU123, kU79, kU80, kU81, kU108, kU110, kU109 a3, kU84, kU85, kU86, kU87, kU88, kU89, kU111, kU112, kU92, kU93, kU94, kU95, kU96, kU97]
def actU : AV := AV.fn (Go.Fn.func 28) [AV.ptr 1049263 0] []
def eU (n : Nat) (g : Nat → CV) (out : AV) (i : Nat) : List (Nat × AV) := [(6, .nils), (7, .int .i64 (Int.ofNat 0)), (16, actU), (17, out), (71, .vs 30 0 n g), (72, .int .i64 (Int.ofNat n)), (73, .int .i64 (Int.ofNat i))]
/-- a row of the output -/
def rowU (l : List AV) : Blk := .row l 3 true []
/-- the blocks that all states have: the rows of the output (if some are there), of the inputs, of what is wanted -/
def rrU (cs csI csW : List AV) : List (Nat × Blk) := [(n0U, .row cs 22 true []), (30, .row csI 22 true []), (31, .row csW 22 true [])]
def rr0U (csI csW : List AV) : List (Nat × Blk) := [(30, .row csI 22 true []), (31, .row csW 22 true [])]
def dU_0_0 : List Bool := bitsL 94 10622687843563009314284171943
def kU_0_0 : List Nat := [1049263, 1049261, 11, 10, 9, 1049275, 1049259, 1049260, 12, 1049266, 1049274, 1049472, 1049467, 16, 15, 14, 13, 1049264, 1049265, 1049273, 1049280, 20, 19, 18, 17, 1049270, 1049477, 1049281, 1049277, 1049469, 1049470, 1049279, 1049388, 22, 21, 1049473, 1049302, 1049394, 1049294, 1049386, 1049300, 1049301, 1049373, 1049392, 1049393, 1049465, 1049292, 1049384, 1049298, 1049299, 1049367, 1049390, 1049391, 1049459, 1049286, 1049290, 1049378, 1049382, 1049361, 1049304, 1049307, 1049360, 1049362, 1049363, 1049458, 1049453, 1049396, 1049399, 1049452, 1049454, 1049455, 1049358, 1049359, 1049310, 1049369, 1049371, 1049450, 1049451, 1049402, 1049461, 1049463, 1049357, 1049491, 1049449, 1049317, 1049345, 1049324, 1049409, 1049437, 1049416, 1049344, 1049436, 1049330, 1049334, 1049341, 1049422, 1049426, 1049433]
def dU_1_0 : List Bool := bitsL 95 20526208157846051513476117159
def kU_1_0 : List Nat := [1049263, 1049261, 11, 10, 9, 1049275, 1049259, 1049260, 12, 1049266, 1049274, 1049472, 1049467, 16, 15, 14, 13, 1049264, 1049265, 1049273, 1049280, 20, 19, 18, 17, 1049270, 1049476, 1049281, 1049277, 1049469, 1049470, 1049279, 1049388, 22, 21, 2097152, 1049302, 1049394, 1049294, 1049386, 1049300, 1049301, 1049373, 1049392, 1049393, 1049465, 1049292, 1049384, 1049298, 1049299, 1049367, 1049390, 1049391, 1049459, 1049286, 1049290, 1049378, 1049382, 1049361, 1049304, 1049307, 1049360, 1049362, 1049363, 1049458, 1049453, 1049396, 1049399, 1049452, 1049454, 1049455, 1049358, 1049359, 1049310, 1049369, 1049371, 1049450, 1049451, 1049402, 1049461, 1049463, 1049357, 2097170, 1049449, 1049317, 1049345, 1049324, 1049409, 1049437, 1049416, 1049344, 1049436, 1049330, 1049334, 1049341, 1049422, 1049426, 1049433]
def dU_1_1 : List Bool := bitsL 98 164209665262768412107817792167
def kU_1_1 : List Nat := [1049263, 1049261, 11, 10, 9, 1049275, 1049259, 1049260, 12, 1049266, 1049274, 1049472, 1049467, 16, 15, 14, 13, 1049264, 1049265, 1049273, 1049280, 20, 19, 18, 17, 1049270, 2097159, 1049281, 1049277, 1049469, 1049470, 1049279, 1049388, 22, 21, 2097152, 1049302, 1049394, 1049294, 1049386, 1049300, 1049301, 1049373, 1049392, 1049393, 1049465, 1049292, 1049384, 1049298, 1049299, 1049367, 1049390, 1049391, 1049459, 1049286, 1049290, 1049378, 1049382, 1049474, 1049361, 1049304, 1049307, 1049360, 1049362, 1049363, 1049453, 1049396, 1049399, 1049452, 1049454, 1049455, 1049358, 1049359, 1049310, 1049369, 1049371, 1049450, 1049451, 1049402, 1049461, 1049463, 1049357, 1049476, 1049449, 2097173, 1049317, 1049345, 1049324, 1049409, 1049437, 1049416, 1049344, 1049436, 1049330, 1049334, 1049341, 1049422, 1049426, 1049433]
def dU_2_1 : List Bool := bitsL 95 20526208157846051513476166311
def kU_2_1 : List Nat := [1049263, 1049261, 11, 10, 9, 1049275, 1049259, 1049260, 12, 1049266, 1049274, 1049472, 1049467, 16, 15, 14, 13, 1049264, 1049265, 1049273, 1049280, 20, 19, 18, 17, 1049270, 1049477, 1049281, 1049277, 1049469, 1049470, 1049279, 1049388, 22, 21, 2097152, 1049302, 1049394, 1049294, 1049386, 1049300, 1049301, 1049373, 1049392, 1049393, 1049465, 1049292, 1049384, 1049298, 1049299, 1049367, 1049390, 1049391, 1049459, 1049286, 1049290, 1049378, 1049382, 1049361, 1049304, 1049307, 1049360, 1049362, 1049363, 1049474, 1049453, 1049396, 1049399, 1049452, 1049454, 1049455, 1049358, 1049359, 1049310, 1049369, 1049371, 1049450, 1049451, 1049402, 1049461, 1049463, 1049357, 2097172, 1049449, 1049478, 1049317, 1049345, 1049324, 1049409, 1049437, 1049416, 1049344, 1049436, 1049330, 1049334, 1049341, 1049422, 1049426, 1049433]
def dU_3_1 : List Bool := bitsL 98 164209665262768412107809403559
def kU_3_1 : List Nat := [1049263, 1049261, 11, 10, 9, 1049275, 1049259, 1049260, 12, 1049266, 1049274, 1049472, 1049467, 16, 15, 14, 13, 1049264, 1049265, 1049273, 1049280, 20, 19, 18, 17, 1049270, 1049478, 1049281, 1049277, 1049469, 1049470, 1049279, 1049388, 22, 21, 2097152, 1049302, 1049394, 1049294, 1049386, 1049300, 1049301, 1049373, 1049392, 1049393, 1049465, 1049292, 1049384, 1049298, 1049299, 1049367, 1049390, 1049391, 1049459, 1049286, 1049290, 1049378, 1049382, 1049474, 1049361, 1049304, 1049307, 1049360, 1049362, 1049363, 1049453, 1049396, 1049399, 1049452, 1049454, 1049455, 1049358, 1049359, 1049310, 1049369, 1049371, 1049450, 1049451, 1049402, 1049461, 1049463, 1049357, 1049477, 1049449, 2097173, 1049317, 1049345, 1049324, 1049409, 1049437, 1049416, 1049344, 1049436, 1049330, 1049334, 1049341, 1049422, 1049426, 1049433]
def dU_2_0 : List Bool := bitsL 95 20526208157846051513476117159
def kU_2_0 : List Nat := [1049263, 1049261, 11, 10, 9, 1049275, 1049259, 1049260, 12, 1049266, 1049274, 1049472, 1049467, 16, 15, 14, 13, 1049264, 1049265, 1049273, 1049280, 20, 19, 18, 17, 1049270, 1049478, 1049281, 1049277, 1049469, 1049470, 1049279, 1049388, 22, 21, 2097152, 1049302, 1049394, 1049294, 1049386, 1049300, 1049301, 1049373, 1049392, 1049393, 1049465, 1049292, 1049384, 1049298, 1049299, 1049367, 1049390, 1049391, 1049459, 1049286, 1049290, 1049378, 1049382, 1049476, 1049361, 1049304, 1049307, 1049360, 1049362, 1049363, 1049453, 1049396, 1049399, 1049452, 1049454, 1049455, 1049358, 1049359, 1049310, 1049369, 1049371, 1049450, 1049451, 1049402, 1049461, 1049463, 1049357, 1049477, 1049449, 2097170, 1049317, 1049345, 1049324, 1049409, 1049437, 1049416, 1049344, 1049436, 1049330, 1049334, 1049341, 1049422, 1049426, 1049433]
def dU_3_0 : List Bool := bitsL 95 20526208157846051513476117159
def kU_3_0 : List Nat := [1049263, 1049261, 11, 10, 9, 1049275, 1049259, 1049260, 12, 1049266, 1049274, 1049472, 1049467, 16, 15, 14, 13, 1049264, 1049265, 1049273, 1049280, 20, 19, 18, 17, 1049270, 1049477, 1049281, 1049277, 1049469, 1049470, 1049279, 1049388, 22, 21, 2097152, 1049302, 1049394, 1049294, 1049386, 1049300, 1049301, 1049373, 1049392, 1049393, 1049465, 1049292, 1049384, 1049298, 1049299, 1049367, 1049390, 1049391, 1049459, 1049286, 1049290, 1049378, 1049382, 1049361, 1049304, 1049307, 1049360, 1049362, 1049363, 1049476, 1049453, 1049396, 1049399, 1049452, 1049454, 1049455, 1049358, 1049359, 1049310, 1049369, 1049371, 1049450, 1049451, 1049402, 1049461, 1049463, 1049357, 2097170, 1049449, 1049478, 1049317, 1049345, 1049324, 1049409, 1049437, 1049416, 1049344, 1049436, 1049330, 1049334, 1049341, 1049422, 1049426, 1049433]
def dU_0_1 : List Bool := bitsL 97 84981502748504074514273841831
def kU_0_1 : List Nat := [1049263, 1049261, 11, 10, 9, 1049275, 1049259, 1049260, 12, 1049266, 1049274, 1049472, 1049467, 16, 15, 14, 13, 1049264, 1049265, 1049273, 1049280, 20, 19, 18, 17, 1049270, 1049480, 1049281, 1049277, 1049469, 1049470, 1049279, 1049388, 22, 21, 1049473, 1049302, 1049394, 1049294, 1049386, 1049300, 1049301, 1049373, 1049392, 1049393, 1049465, 1049292, 1049384, 1049298, 1049299, 1049367, 1049390, 1049391, 1049459, 1049286, 1049290, 1049378, 1049382, 1049366, 1049361, 1049304, 1049307, 1049360, 1049362, 1049363, 1049453, 1049396, 1049399, 1049452, 1049454, 1049455, 1049358, 1049359, 1049310, 1049369, 1049371, 1049450, 1049451, 1049402, 1049461, 1049463, 1049357, 1049449, 1049494, 1049317, 1049345, 1049324, 1049409, 1049437, 1049416, 1049344, 1049436, 1049330, 1049334, 1049341, 1049422, 1049426, 1049433]
def dU_4_0 : List Bool := bitsL 95 20526208157846051513476117159
def kU_4_0 : List Nat := [1049263, 1049261, 11, 10, 9, 1049275, 1049259, 1049260, 12, 1049266, 1049274, 1049472, 1049467, 16, 15, 14, 13, 1049264, 1049265, 1049273, 1049280, 20, 19, 18, 17, 1049270, 1049476, 1049281, 1049277, 1049469, 1049470, 1049279, 1049388, 22, 21, 2097152, 1049302, 1049394, 1049294, 1049386, 1049300, 1049301, 1049373, 1049392, 1049393, 1049465, 1049292, 1049384, 1049298, 1049299, 1049367, 1049390, 1049391, 1049459, 1049286, 1049290, 1049378, 1049382, 1049366, 1049361, 1049304, 1049307, 1049360, 1049362, 1049363, 1049453, 1049396, 1049399, 1049452, 1049454, 1049455, 1049358, 1049359, 1049310, 1049369, 1049371, 1049450, 1049451, 1049402, 1049461, 1049463, 1049357, 1049449, 2097170, 1049317, 1049345, 1049324, 1049409, 1049437, 1049416, 1049344, 1049436, 1049330, 1049334, 1049341, 1049422, 1049426, 1049433]
def dU_4_1 : List Bool := bitsL 95 20526208157846051513477214887
def kU_4_1 : List Nat := [1049263, 1049261, 11, 10, 9, 1049275, 1049259, 1049260, 12, 1049266, 1049274, 1049472, 1049467, 16, 15, 14, 13, 1049264, 1049265, 1049273, 1049280, 20, 19, 18, 17, 1049270, 2097158, 1049281, 1049277, 1049469, 1049470, 1049279, 1049388, 22, 21, 2097152, 1049302, 1049394, 1049294, 1049386, 1049300, 1049301, 1049373, 1049392, 1049393, 1049465, 1049292, 1049384, 1049298, 1049299, 1049367, 1049390, 1049391, 1049459, 1049286, 1049290, 1049378, 1049382, 1049361, 1049304, 1049307, 1049360, 1049362, 1049363, 1049474, 1049453, 1049396, 1049399, 1049452, 1049454, 1049455, 1049358, 1049359, 1049310, 1049369, 1049371, 1049450, 1049451, 1049402, 1049461, 1049463, 1049357, 2097172, 1049449, 1049476, 1049317, 1049345, 1049324, 1049409, 1049437, 1049416, 1049344, 1049436, 1049330, 1049334, 1049341, 1049422, 1049426, 1049433]
/-- what is told ahead of this round's inputs -/
def ggU (r : Nat) (b : List Int) : Nat → CV := fun _ => .row r 1 (fun k => Option.rec 0 (fun x => x) (lget b k))
end
end Go.Proofs.YtkfhjobebhdpoaaGreat
/- Stream: the rounds of Run's loop over ticks. -/
set_option autoImplicit false
set_option maxRecDepth 1000000
set_option maxHeartbeats 1000000
namespace Go.Proofs.YtkfhjobebhdpoaaGreat
noncomputable section
open Go.X
def RU (csI csW : List AV) (oa i : Nat) : List (Nat × Nat × Blk) := [(n0U, oa, .row (zrows 300 1 i) 22 true []), (30, 30, .row csI 22 true []), (31, 31, .row csW 22 true [])]
def rawU (csI csW cs : List AV) : List (Option Blk × Bool) := [(some (.row cs 22 true []), true), (some (.row csI 22 true []), true), (some (.row csW 22 true []), true)]
def ocU (i ra : Nat) : List AV := lapp (ltake (ldrop (zrows 300 1 i) 0) (Nat.mul i 1)) [.slc ra 0 1 1 false 1]
def hU (z : T Blk) (csI csW : List AV) (i : Nat) (B : List (Nat × Blk)) : H := ⟨mkB z (lapp (rrU (zrows 300 1 i) csI csW) B), 2097152⟩
def hfU (z : T Blk) (csI csW : List AV) (B : List (Nat × Blk)) : H := ⟨mkB z (lapp (rr0U csI csW) B), n0U⟩
def goU (h : H) (n i r : Nat) (out : AV) (b : List Int) (d : List Bool) (K : KE) : Prop := xcode C1 Tryz.prog F 14 (loopC Tryz.prog 14 22) (mask 14) (tmpsN Tryz.prog 14) (mkE (eU n (ggU r b) out i)) h d K
def obU (csI csW : List AV) (i : Nat) (A : List (Nat × Nat × Blk)) (oa ra : Nat) (row : List AV) (Kv : XE → Obs → Prop) : KE := fun x env h _ => Kv x (obs [6, 7, 16, 17, 71, 72, 73] (actsOf (lapp (RU csI csW oa (i + 1)) A) [(300 + i, ra, rowU row)]) (lapp (RU csI csW oa (i + 1)) A) [(300 + i, ra, rowU row)] env h)
def obfU (csI csW : List AV) (A : List (Nat × Nat × Blk)) (oa ra : Nat) (row : List AV) (Kv : XE → Obs → Prop) : KE := fun x env h _ => Kv x (obs [6, 7, 16, 17, 71, 72, 73] (actsOf (lapp (RU csI csW oa 1) A) [(300, ra, rowU row)]) (lapp (RU csI csW oa 1) A) [(300, ra, rowU row)] env h)
def lfU (z : T Blk) (csI csW : List AV) (n i r : Nat) (b : List Int) (A : List (Nat × Nat × Blk)) (oa ra : Nat) (row : List AV) (Kv : XE → Obs → Prop) : Prop := Kv .nrm (expsR n0U (kpOf z) (eU n (ggU r b) (.slc n0U 0 (i + 1) (i + 1) false 1) (i + 1)) (RU csI csW oa (i + 1)) A [(300 + i, ra, rowU row)] z (rawU csI csW (ocU i ra)))
def lffU (z : T Blk) (csI csW : List AV) (n r : Nat) (b : List Int) (A : List (Nat × Nat × Blk)) (oa ra : Nat) (row : List AV) (Kv : XE → Obs → Prop) : Prop := Kv .nrm (expsR n0U (kpOf z) (eU n (ggU r b) (.slc n0U 0 1 1 false 1) 1) (RU csI csW oa 1) A [(300, ra, rowU row)] z (rawU csI csW [.slc ra 0 1 1 false 1]))
def cIU (h : H) (i r : Nat) (b : List Int) : Prop := cellIs h 30 i (.row r 1 (fun k => Option.rec 0 (fun x => x) (lget b k)))
def cRU (h : H) (r : Nat) (b : List Int) : Prop := cellsAre h r (fun k => .sc (Option.rec 0 (fun x => x) (lget b k))) 1 0
def hdU (h : H) (n i j r : Nat) (b : List Int) (t : Prop) : Prop := bcase (dcq true (ltI (Int.ofNat i) (Int.ofNat n))) (bcase (inB (Int.ofNat i) n) (cIU h j r b ∧ (cRU h r b ∧ t)) False) False
def ttU (i : Nat) (t : Prop) : Prop := bcase (dcq false (Nat.ble (Nat.add i 1) i)) (bcase (appC (zrows 300 1 i) i) (bcase (Nat.ble (llen (zrows 300 1 i)) (Nat.mul i 1)) (bcase (inR .i64 (Int.ofNat i + Int.ofNat 1)) t False) (bcase (inR .i64 (Int.ofNat i + Int.ofNat 1)) t False)) False) False
def ixU (i : Nat) : Nat := Nat.add 0 (Nat.mul (Int.toNat (Int.ofNat i)) 1)
theorem tU_0_0 (z : T Blk) (csI csW : List AV) (n r : Nat) (Kv : XE → Obs → Prop) : goU (hfU z csI csW (bU0)) n 0 r .nils [0] dU_0_0 (obfU csI csW (zipA (bU1 1 0) kU_0_0) 1049498 1049496 [.int .i64 0] Kv) = (hdU (hfU z csI csW (bU0)) n 0 0 r [0] (lffU z csI csW n r [0] (zipA (bU1 1 0) kU_0_0) 1049498 1049496 [.int .i64 0] Kv)) := by kernel_rfl
theorem tU_1_0 (z : T Blk) (csI csW : List AV) (n i r : Nat) (a0 : Int) (a1 : Int) (Kv : XE → Obs → Prop) : goU (hU z csI csW i (bU1 a0 a1)) n i r (.slc n0U 0 i i false 1) [0] dU_1_0 (obU csI csW i (zipA (bU1 (a0 + 1) a0) kU_1_0) 2097177 2097175 [.int .i64 a0] Kv) = (hdU (hU z csI csW i (bU1 a0 a1)) n i (ixU i) r [0] (bcase (inR .i64 (a0 + 1)) (bcase (dcq false (eqI a0 (a0 + 1))) (bcase (dcq false (eqI a0 (a0 + 1))) (bcase (dcq true (eqI (a0 + 1) (a0 + 1))) (bcase (dcq false (eqI a0 (a0 + 1))) (bcase (dcq false (eqI a0 (a0 + 1))) (bcase (dcq true (eqI (a0 + 1) (a0 + 1))) (bcase (dcq true (eqI (a0 + 1) (a0 + 1))) (bcase (dcq true (eqI (a0 + 1) (a0 + 1))) (bcase (inR .u8 a0) (bcase (inR .i64 a0) (bcase (dcq true (eqI a0 a0)) (bcase (inR .i64 (a0 + 1)) (bcase (inR .u8 (a0 + 1)) (bcase (inR .i64 (a0 + 1)) (ttU i (lfU z csI csW n i r [0] (zipA (bU1 (a0 + 1) a0) kU_1_0) 2097177 2097175 [.int .i64 a0] Kv)) False) False) False) False) False) False) False) False) False) False) False) False) False) False) False)) := by kernel_rfl
theorem tU_1_1 (z : T Blk) (csI csW : List AV) (n i r : Nat) (a0 : Int) (a1 : Int) (Kv : XE → Obs → Prop) : goU (hU z csI csW i (bU1 a0 a1)) n i r (.slc n0U 0 i i false 1) [1] dU_1_1 (obU csI csW i (zipA (bU2 (a0 + 1) 100 1 a0 a1 a0 101) kU_1_1) 2097180 2097178 [.int .i64 100] Kv) = (hdU (hU z csI csW i (bU1 a0 a1)) n i (ixU i) r [1] (bcase (inR .i64 (a0 + 1)) (bcase (dcq false (eqI a0 (a0 + 1))) (bcase (dcq false (eqI a0 (a0 + 1))) (bcase (dcq true (eqI (a0 + 1) (a0 + 1))) (bcase (dcq false (eqI 0 (a0 + 1))) (bcase (dcq false (eqI 0 (a0 + 1))) (bcase (dcq true (eqI (a0 + 1) (a0 + 1))) (bcase (dcq true (eqI (a0 + 1) (a0 + 1))) (bcase (dcq true (eqI (a0 + 1) (a0 + 1))) (ttU i (lfU z csI csW n i r [1] (zipA (bU2 (a0 + 1) 100 1 a0 a1 a0 101) kU_1_1) 2097180 2097178 [.int .i64 100] Kv)) False) False) False) False) False) False) False) False) False)) := by kernel_rfl
theorem tU_2_1 (z : T Blk) (csI csW : List AV) (n i r : Nat) (a0 : Int) (a1 : Int) (a2 : Int) (a3 : Int) (a4 : Int) (a5 : Int) (a6 : Int) (Kv : XE → Obs → Prop) : goU (hU z csI csW i (bU2 a0 a1 a2 a3 a4 a5 a6)) n i r (.slc n0U 0 i i false 1) [1] dU_2_1 (obU csI csW i (zipA (bU3 (a0 + 1) a5 1 a0 a1 (a5 + 1) a6) kU_2_1) 2097179 2097177 [.int .i64 a5] Kv) = (hdU (hU z csI csW i (bU2 a0 a1 a2 a3 a4 a5 a6)) n i (ixU i) r [1] (bcase (inR .i64 (a0 + 1)) (bcase (dcq false (eqI a0 (a0 + 1))) (bcase (dcq false (eqI a0 (a0 + 1))) (bcase (dcq true (eqI (a0 + 1) (a0 + 1))) (bcase (dcq false (eqI a3 (a0 + 1))) (bcase (dcq false (eqI a3 (a0 + 1))) (bcase (dcq true (eqI (a0 + 1) (a0 + 1))) (bcase (dcq true (eqI (a0 + 1) (a0 + 1))) (bcase (dcq true (eqI (a0 + 1) (a0 + 1))) (bcase (inR .u8 a5) (bcase (inR .i64 a5) (bcase (dcq true (eqI a5 a5)) (bcase (inR .i64 (a5 + 1)) (bcase (inR .u8 (a5 + 1)) (bcase (inR .i64 (a5 + 1)) (ttU i (lfU z csI csW n i r [1] (zipA (bU3 (a0 + 1) a5 1 a0 a1 (a5 + 1) a6) kU_2_1) 2097179 2097177 [.int .i64 a5] Kv)) False) False) False) False) False) False) False) False) False) False) False) False) False) False) False)) := by kernel_rfl
theorem tU_3_1 (z : T Blk) (csI csW : List AV) (n i r : Nat) (a0 : Int) (a1 : Int) (a2 : Int) (a3 : Int) (a4 : Int) (a5 : Int) (a6 : Int) (Kv : XE → Obs → Prop) : goU (hU z csI csW i (bU3 a0 a1 a2 a3 a4 a5 a6)) n i r (.slc n0U 0 i i false 1) [1] dU_3_1 (obU csI csW i (zipA (bU2 (a0 + 1) a6 1 a0 a1 a5 (a6 + 1)) kU_3_1) 2097180 2097178 [.int .i64 a6] Kv) = (hdU (hU z csI csW i (bU3 a0 a1 a2 a3 a4 a5 a6)) n i (ixU i) r [1] (bcase (inR .i64 (a0 + 1)) (bcase (dcq false (eqI a0 (a0 + 1))) (bcase (dcq false (eqI a0 (a0 + 1))) (bcase (dcq true (eqI (a0 + 1) (a0 + 1))) (bcase (dcq false (eqI a3 (a0 + 1))) (bcase (dcq false (eqI a3 (a0 + 1))) (bcase (dcq true (eqI (a0 + 1) (a0 + 1))) (bcase (dcq true (eqI (a0 + 1) (a0 + 1))) (bcase (dcq true (eqI (a0 + 1) (a0 + 1))) (bcase (inR .u8 a6) (bcase (inR .i64 a6) (bcase (dcq true (eqI a6 a6)) (bcase (inR .i64 (a6 + 1)) (bcase (inR .u8 (a6 + 1)) (bcase (inR .i64 (a6 + 1)) (ttU i (lfU z csI csW n i r [1] (zipA (bU2 (a0 + 1) a6 1 a0 a1 a5 (a6 + 1)) kU_3_1) 2097180 2097178 [.int .i64 a6] Kv)) False) False) False) False) False) False) False) False) False) False) False) False) False) False) False)) := by kernel_rfl
theorem tU_2_0 (z : T Blk) (csI csW : List AV) (n i r : Nat) (a0 : Int) (a1 : Int) (a2 : Int) (a3 : Int) (a4 : Int) (a5 : Int) (a6 : Int) (Kv : XE → Obs → Prop) : goU (hU z csI csW i (bU2 a0 a1 a2 a3 a4 a5 a6)) n i r (.slc n0U 0 i i false 1) [0] dU_2_0 (obU csI csW i (zipA (bU2 (a0 + 1) a6 0 a3 a4 a5 (a6 + 1)) kU_2_0) 2097177 2097175 [.int .i64 a6] Kv) = (hdU (hU z csI csW i (bU2 a0 a1 a2 a3 a4 a5 a6)) n i (ixU i) r [0] (bcase (inR .i64 (a0 + 1)) (bcase (dcq false (eqI a0 (a0 + 1))) (bcase (dcq false (eqI a0 (a0 + 1))) (bcase (dcq true (eqI (a0 + 1) (a0 + 1))) (bcase (dcq false (eqI a0 (a0 + 1))) (bcase (dcq false (eqI a0 (a0 + 1))) (bcase (dcq true (eqI (a0 + 1) (a0 + 1))) (bcase (dcq true (eqI (a0 + 1) (a0 + 1))) (bcase (dcq true (eqI (a0 + 1) (a0 + 1))) (bcase (inR .u8 a6) (bcase (inR .i64 a6) (bcase (dcq true (eqI a6 a6)) (bcase (inR .i64 (a6 + 1)) (bcase (inR .u8 (a6 + 1)) (bcase (inR .i64 (a6 + 1)) (ttU i (lfU z csI csW n i r [0] (zipA (bU2 (a0 + 1) a6 0 a3 a4 a5 (a6 + 1)) kU_2_0) 2097177 2097175 [.int .i64 a6] Kv)) False) False) False) False) False) False) False) False) False) False) False) False) False) False) False)) := by kernel_rfl
theorem tU_3_0 (z : T Blk) (csI csW : List AV) (n i r : Nat) (a0 : Int) (a1 : Int) (a2 : Int) (a3 : Int) (a4 : Int) (a5 : Int) (a6 : Int) (Kv : XE → Obs → Prop) : goU (hU z csI csW i (bU3 a0 a1 a2 a3 a4 a5 a6)) n i r (.slc n0U 0 i i false 1) [0] dU_3_0 (obU csI csW i (zipA (bU3 (a0 + 1) a5 0 a3 a4 (a5 + 1) a6) kU_3_0) 2097177 2097175 [.int .i64 a5] Kv) = (hdU (hU z csI csW i (bU3 a0 a1 a2 a3 a4 a5 a6)) n i (ixU i) r [0] (bcase (inR .i64 (a0 + 1)) (bcase (dcq false (eqI a0 (a0 + 1))) (bcase (dcq false (eqI a0 (a0 + 1))) (bcase (dcq true (eqI (a0 + 1) (a0 + 1))) (bcase (dcq false (eqI a0 (a0 + 1))) (bcase (dcq false (eqI a0 (a0 + 1))) (bcase (dcq true (eqI (a0 + 1) (a0 + 1))) (bcase (dcq true (eqI (a0 + 1) (a0 + 1))) (bcase (dcq true (eqI (a0 + 1) (a0 + 1))) (bcase (inR .u8 a5) (bcase (inR .i64 a5) (bcase (dcq true (eqI a5 a5)) (bcase (inR .i64 (a5 + 1)) (bcase (inR .u8 (a5 + 1)) (bcase (inR .i64 (a5 + 1)) (ttU i (lfU z csI csW n i r [0] (zipA (bU3 (a0 + 1) a5 0 a3 a4 (a5 + 1) a6) kU_3_0) 2097177 2097175 [.int .i64 a5] Kv)) False) False) False) False) False) False) False) False) False) False) False) False) False) False) False)) := by kernel_rfl
theorem tU_0_1 (z : T Blk) (csI csW : List AV) (n r : Nat) (Kv : XE → Obs → Prop) : goU (hfU z csI csW (bU0)) n 0 r .nils [1] dU_0_1 (obfU csI csW (zipA (bU4 1 100 1 101) kU_0_1) 1049501 1049499 [.int .i64 100] Kv) = (hdU (hfU z csI csW (bU0)) n 0 0 r [1] (lffU z csI csW n r [1] (zipA (bU4 1 100 1 101) kU_0_1) 1049501 1049499 [.int .i64 100] Kv)) := by kernel_rfl
theorem tU_4_0 (z : T Blk) (csI csW : List AV) (n i r : Nat) (a0 : Int) (a1 : Int) (a2 : Int) (a3 : Int) (Kv : XE → Obs → Prop) : goU (hU z csI csW i (bU4 a0 a1 a2 a3)) n i r (.slc n0U 0 i i false 1) [0] dU_4_0 (obU csI csW i (zipA (bU4 (a0 + 1) a3 0 (a3 + 1)) kU_4_0) 2097177 2097175 [.int .i64 a3] Kv) = (hdU (hU z csI csW i (bU4 a0 a1 a2 a3)) n i (ixU i) r [0] (bcase (inR .i64 (a0 + 1)) (bcase (dcq false (eqI a0 (a0 + 1))) (bcase (dcq false (eqI a0 (a0 + 1))) (bcase (dcq true (eqI (a0 + 1) (a0 + 1))) (bcase (dcq false (eqI a0 (a0 + 1))) (bcase (dcq false (eqI a0 (a0 + 1))) (bcase (dcq true (eqI (a0 + 1) (a0 + 1))) (bcase (dcq true (eqI (a0 + 1) (a0 + 1))) (bcase (dcq true (eqI (a0 + 1) (a0 + 1))) (bcase (inR .u8 a3) (bcase (inR .i64 a3) (bcase (dcq true (eqI a3 a3)) (bcase (inR .i64 (a3 + 1)) (bcase (inR .u8 (a3 + 1)) (bcase (inR .i64 (a3 + 1)) (ttU i (lfU z csI csW n i r [0] (zipA (bU4 (a0 + 1) a3 0 (a3 + 1)) kU_4_0) 2097177 2097175 [.int .i64 a3] Kv)) False) False) False) False) False) False) False) False) False) False) False) False) False) False) False)) := by kernel_rfl
theorem tU_4_1 (z : T Blk) (csI csW : List AV) (n i r : Nat) (a0 : Int) (a1 : Int) (a2 : Int) (a3 : Int) (Kv : XE → Obs → Prop) : goU (hU z csI csW i (bU4 a0 a1 a2 a3)) n i r (.slc n0U 0 i i false 1) [1] dU_4_1 (obU csI csW i (zipA (bU3 (a0 + 1) 0 1 a0 a1 1 a3) kU_4_1) 2097179 2097177 [.int .i64 0] Kv) = (hdU (hU z csI csW i (bU4 a0 a1 a2 a3)) n i (ixU i) r [1] (bcase (inR .i64 (a0 + 1)) (bcase (dcq false (eqI a0 (a0 + 1))) (bcase (dcq false (eqI a0 (a0 + 1))) (bcase (dcq true (eqI (a0 + 1) (a0 + 1))) (bcase (dcq false (eqI 0 (a0 + 1))) (bcase (dcq false (eqI 0 (a0 + 1))) (bcase (dcq true (eqI (a0 + 1) (a0 + 1))) (bcase (dcq true (eqI (a0 + 1) (a0 + 1))) (bcase (dcq true (eqI (a0 + 1) (a0 + 1))) (ttU i (lfU z csI csW n i r [1] (zipA (bU3 (a0 + 1) 0 1 a0 a1 1 a3) kU_4_1) 2097179 2097177 [.int .i64 0] Kv)) False) False) False) False) False) False) False) False) False)) := by kernel_rfl
theorem xU_1 (z : T Blk) (csI csW : List AV) (n i : Nat) (g : Nat → CV) (a0 : Int) (a1 : Int) (Kv : XE → Obs → Prop) : xcode C1 Tryz.prog F 14 (loopC Tryz.prog 14 22) (mask 14) (tmpsN Tryz.prog 14) (mkE (eU n g (.slc n0U 0 i i false 1) i)) ⟨mkB z (lapp (rrU (zrows 300 1 i) csI csW) (bU1 a0 a1)), 2097152⟩ [false] (fun x env h _ => Kv x (obs [6, 7, 17] (actsOf (lapp [(n0U, n0U, .row (zrows 300 1 i) 22 true []), (30, 30, .row csI 22 true []), (31, 31, .row csW 22 true [])] []) []) (lapp [(n0U, n0U, .row (zrows 300 1 i) 22 true []), (30, 30, .row csI 22 true []), (31, 31, .row csW 22 true [])] []) [] env h)) = (bcase (dcq false (ltI (Int.ofNat i) (Int.ofNat n))) (Kv (.ext 2) (expsR n0U (kpOf z) [(6, .nils), (7, .int .i64 (Int.ofNat 0)), (17, .slc n0U 0 i i false 1)] [(n0U, n0U, .row (zrows 300 1 i) 22 true []), (30, 30, .row csI 22 true []), (31, 31, .row csW 22 true [])] [] [] z [(some (.row (zrows 300 1 i) 22 true []), true), (some (.row csI 22 true []), true), (some (.row csW 22 true []), true)])) False) := by kernel_rfl
theorem xU_2 (z : T Blk) (csI csW : List AV) (n i : Nat) (g : Nat → CV) (a0 : Int) (a1 : Int) (a2 : Int) (a3 : Int) (a4 : Int) (a5 : Int) (a6 : Int) (Kv : XE → Obs → Prop) : xcode C1 Tryz.prog F 14 (loopC Tryz.prog 14 22) (mask 14) (tmpsN Tryz.prog 14) (mkE (eU n g (.slc n0U 0 i i false 1) i)) ⟨mkB z (lapp (rrU (zrows 300 1 i) csI csW) (bU2 a0 a1 a2 a3 a4 a5 a6)), 2097152⟩ [false] (fun x env h _ => Kv x (obs [6, 7, 17] (actsOf (lapp [(n0U, n0U, .row (zrows 300 1 i) 22 true []), (30, 30, .row csI 22 true []), (31, 31, .row csW 22 true [])] []) []) (lapp [(n0U, n0U, .row (zrows 300 1 i) 22 true []), (30, 30, .row csI 22 true []), (31, 31, .row csW 22 true [])] []) [] env h)) = (bcase (dcq false (ltI (Int.ofNat i) (Int.ofNat n))) (Kv (.ext 2) (expsR n0U (kpOf z) [(6, .nils), (7, .int .i64 (Int.ofNat 0)), (17, .slc n0U 0 i i false 1)] [(n0U, n0U, .row (zrows 300 1 i) 22 true []), (30, 30, .row csI 22 true []), (31, 31, .row csW 22 true [])] [] [] z [(some (.row (zrows 300 1 i) 22 true []), true), (some (.row csI 22 true []), true), (some (.row csW 22 true []), true)])) False) := by kernel_rfl
theorem xU_3 (z : T Blk) (csI csW : List AV) (n i : Nat) (g : Nat → CV) (a0 : Int) (a1 : Int) (a2 : Int) (a3 : Int) (a4 : Int) (a5 : Int) (a6 : Int) (Kv : XE → Obs → Prop) : xcode C1 Tryz.prog F 14 (loopC Tryz.prog 14 22) (mask 14) (tmpsN Tryz.prog 14) (mkE (eU n g (.slc n0U 0 i i false 1) i)) ⟨mkB z (lapp (rrU (zrows 300 1 i) csI csW) (bU3 a0 a1 a2 a3 a4 a5 a6)), 2097152⟩ [false] (fun x env h _ => Kv x (obs [6, 7, 17] (actsOf (lapp [(n0U, n0U, .row (zrows 300 1 i) 22 true []), (30, 30, .row csI 22 true []), (31, 31, .row csW 22 true [])] []) []) (lapp [(n0U, n0U, .row (zrows 300 1 i) 22 true []), (30, 30, .row csI 22 true []), (31, 31, .row csW 22 true [])] []) [] env h)) = (bcase (dcq false (ltI (Int.ofNat i) (Int.ofNat n))) (Kv (.ext 2) (expsR n0U (kpOf z) [(6, .nils), (7, .int .i64 (Int.ofNat 0)), (17, .slc n0U 0 i i false 1)] [(n0U, n0U, .row (zrows 300 1 i) 22 true []), (30, 30, .row csI 22 true []), (31, 31, .row csW 22 true [])] [] [] z [(some (.row (zrows 300 1 i) 22 true []), true), (some (.row csI 22 true []), true), (some (.row csW 22 true []), true)])) False) := by kernel_rfl
theorem xU_4 (z : T Blk) (csI csW : List AV) (n i : Nat) (g : Nat → CV) (a0 : Int) (a1 : Int) (a2 : Int) (a3 : Int) (Kv : XE → Obs → Prop) : xcode C1 Tryz.prog F 14 (loopC Tryz.prog 14 22) (mask 14) (tmpsN Tryz.prog 14) (mkE (eU n g (.slc n0U 0 i i false 1) i)) ⟨mkB z (lapp (rrU (zrows 300 1 i) csI csW) (bU4 a0 a1 a2 a3)), 2097152⟩ [false] (fun x env h _ => Kv x (obs [6, 7, 17] (actsOf (lapp [(n0U, n0U, .row (zrows 300 1 i) 22 true []), (30, 30, .row csI 22 true []), (31, 31, .row csW 22 true [])] []) []) (lapp [(n0U, n0U, .row (zrows 300 1 i) 22 true []), (30, 30, .row csI 22 true []), (31, 31, .row csW 22 true [])] []) [] env h)) = (bcase (dcq false (ltI (Int.ofNat i) (Int.ofNat n))) (Kv (.ext 2) (expsR n0U (kpOf z) [(6, .nils), (7, .int .i64 (Int.ofNat 0)), (17, .slc n0U 0 i i false 1)] [(n0U, n0U, .row (zrows 300 1 i) 22 true []), (30, 30, .row csI 22 true []), (31, 31, .row csW 22 true [])] [] [] z [(some (.row (zrows 300 1 i) 22 true []), true), (some (.row csI 22 true []), true), (some (.row csW 22 true []), true)])) False) := by kernel_rfl
end
end Go.Proofs.YtkfhjobebhdpoaaGreat
/- Stream: what the rounds of Run's loop do. -/
set_option autoImplicit false
set_option maxRecDepth 1000000
set_option maxHeartbeats 2000000
set_option linter.unusedVariables false
namespace Go.Proofs.YtkfhjobebhdpoaaGreat
noncomputable section
open Go.X
/-- in which state it is at the beginning of a tick, and what the counters are -/
def nxU (b : Bool) (s : Int × Int × Int) : Int × Int × Int := Bool.rec (if s.1 = 0 then (0, (s.2.1 + 1), s.2.2) else (1, s.2.1, (s.2.2 + 1))) (if s.1 = 0 then (1, s.2.1, (s.2.2 + 1)) else (0, (s.2.1 + 1), s.2.2)) b
def vlU (b : Bool) (s : Int × Int × Int) : Int := Bool.rec (if s.1 = 0 then s.2.1 else s.2.2) (if s.1 = 0 then s.2.2 else s.2.1) b
def st3U (l : Nat → Bool) : Nat → Int × Int × Int := fun i => Nat.rec (0, 0, 100) (fun j ih => nxU (l j) ih) i
def nowU (l : Nat → Bool) (i : Nat) : Int := (st3U l i).1
def uU (l : Nat → Bool) (i : Nat) : Int := (st3U l i).2.1
def vU (l : Nat → Bool) (i : Nat) : Int := (st3U l i).2.2
def valU (l : Nat → Bool) (j : Nat) : Int := vlU (l j) (st3U l j)
theorem stepU_false {l : Nat → Bool} {i : Nat} (h : l i = false) : (nowU l i = 0 → nowU l (i + 1) = 0 ∧ uU l (i + 1) = (uU l i + 1) ∧ vU l (i + 1) = vU l i ∧ valU l i = uU l i) ∧ (nowU l i ≠ 0 → nowU l (i + 1) = 1 ∧ uU l (i + 1) = uU l i ∧ vU l (i + 1) = (vU l i + 1) ∧ valU l i = vU l i) := by
  have e : st3U l (i + 1) = nxU (l i) (st3U l i) := rfl
  unfold nowU uU vU valU
  rw [e, h]
  refine ⟨fun k => ?_, fun k => ?_⟩
  · have e1 : nxU false (st3U l i) = _ := if_pos k
    have e2 : vlU false (st3U l i) = _ := if_pos k
    rw [e1, e2]; exact ⟨rfl, rfl, rfl, rfl⟩
  · have e1 : nxU false (st3U l i) = _ := if_neg k
    have e2 : vlU false (st3U l i) = _ := if_neg k
    rw [e1, e2]; exact ⟨rfl, rfl, rfl, rfl⟩
theorem stepU_true {l : Nat → Bool} {i : Nat} (h : l i = true) : (nowU l i = 0 → nowU l (i + 1) = 1 ∧ uU l (i + 1) = uU l i ∧ vU l (i + 1) = (vU l i + 1) ∧ valU l i = vU l i) ∧ (nowU l i ≠ 0 → nowU l (i + 1) = 0 ∧ uU l (i + 1) = (uU l i + 1) ∧ vU l (i + 1) = vU l i ∧ valU l i = uU l i) := by
  have e : st3U l (i + 1) = nxU (l i) (st3U l i) := rfl
  unfold nowU uU vU valU
  rw [e, h]
  refine ⟨fun k => ?_, fun k => ?_⟩
  · have e1 : nxU true (st3U l i) = _ := if_pos k
    have e2 : vlU true (st3U l i) = _ := if_pos k
    rw [e1, e2]; exact ⟨rfl, rfl, rfl, rfl⟩
  · have e1 : nxU true (st3U l i) = _ := if_neg k
    have e2 : vlU true (st3U l i) = _ := if_neg k
    rw [e1, e2]; exact ⟨rfl, rfl, rfl, rfl⟩
theorem stepU_false0 {l : Nat → Bool} (h : l 0 = false) : (nowU l 0 = 0 → nowU l 1 = 0 ∧ uU l 1 = (uU l 0 + 1) ∧ vU l 1 = vU l 0 ∧ valU l 0 = uU l 0) ∧ (nowU l 0 ≠ 0 → nowU l 1 = 1 ∧ uU l 1 = uU l 0 ∧ vU l 1 = (vU l 0 + 1) ∧ valU l 0 = vU l 0) := stepU_false h
theorem stepU_true0 {l : Nat → Bool} (h : l 0 = true) : (nowU l 0 = 0 → nowU l 1 = 1 ∧ uU l 1 = uU l 0 ∧ vU l 1 = (vU l 0 + 1) ∧ valU l 0 = vU l 0) ∧ (nowU l 0 ≠ 0 → nowU l 1 = 0 ∧ uU l 1 = (uU l 0 + 1) ∧ vU l 1 = vU l 0 ∧ valU l 0 = uU l 0) := stepU_true h
theorem leU (l : Nat → Bool) : ∀ i : Nat, (nowU l i = 0 ∨ nowU l i = 1) ∧ 0 ≤ uU l i ∧ uU l i ≤ i ∧ 100 ≤ vU l i ∧ vU l i ≤ 100 + i
  | 0 => ⟨.inl rfl, Int.le_refl _, Int.le_refl _, Int.le_refl _, Int.le_refl _⟩
  | i + 1 => by
    have ih := leU l i
    cases h : l i with
    | true => have := stepU_true h; omega
    | false => have := stepU_false h; omega
def inRowU (l : Nat → Bool) (j : Nat) : Blk := .row [.int .i64 (bi (l j))] 3 true []
def outU (l : Nat → Bool) (j : Nat) : Blk := rowU [.int .i64 (valU l j)]
theorem outU_int (l : Nat → Bool) (j : Nat) : IntRow (outU l j) := ⟨[valU l j], 3, true, rfl⟩
/-- the zone that holds the rows of the inputs and those that are wanted -/
structure ZinU (l : Nat → Bool) (n : Nat) (z : T Blk) : Prop where
  ins : ∀ j, j < n → z.get j = some (inRowU l j)
  want : ∀ j, j < n → z.get (100 + j) = some (outU l j)
  only : ∀ x k, z.get x = some k → x < 200 ∧ IntRow k
theorem blksU0 : blksN n0U (bU0) = true := by kernel_rfl
theorem getU0 (z : T Blk) (csI csW : List AV) : T.get (mkB z (lapp (rr0U csI csW) bU0)) 30 = some (.row csI 22 true []) := by kernel_rfl
theorem zgU0 (z : T Blk) (csI csW : List AV) : zget (mkB z (lapp (rr0U csI csW) bU0)) 12 = z := by kernel_rfl
theorem getU1 (z : T Blk) (cs csI csW : List AV) (a0 : Int) (a1 : Int) : T.get (mkB z (lapp (rrU cs csI csW) (bU1 a0 a1))) 30 = some (.row csI 22 true []) := by kernel_rfl
theorem zgU1 (z : T Blk) (cs csI csW : List AV) (a0 : Int) (a1 : Int) : zget (mkB z (lapp (rrU cs csI csW) (bU1 a0 a1))) 12 = z := by kernel_rfl
theorem getU2 (z : T Blk) (cs csI csW : List AV) (a0 : Int) (a1 : Int) (a2 : Int) (a3 : Int) (a4 : Int) (a5 : Int) (a6 : Int) : T.get (mkB z (lapp (rrU cs csI csW) (bU2 a0 a1 a2 a3 a4 a5 a6))) 30 = some (.row csI 22 true []) := by kernel_rfl
theorem zgU2 (z : T Blk) (cs csI csW : List AV) (a0 : Int) (a1 : Int) (a2 : Int) (a3 : Int) (a4 : Int) (a5 : Int) (a6 : Int) : zget (mkB z (lapp (rrU cs csI csW) (bU2 a0 a1 a2 a3 a4 a5 a6))) 12 = z := by kernel_rfl
theorem getU3 (z : T Blk) (cs csI csW : List AV) (a0 : Int) (a1 : Int) (a2 : Int) (a3 : Int) (a4 : Int) (a5 : Int) (a6 : Int) : T.get (mkB z (lapp (rrU cs csI csW) (bU3 a0 a1 a2 a3 a4 a5 a6))) 30 = some (.row csI 22 true []) := by kernel_rfl
theorem zgU3 (z : T Blk) (cs csI csW : List AV) (a0 : Int) (a1 : Int) (a2 : Int) (a3 : Int) (a4 : Int) (a5 : Int) (a6 : Int) : zget (mkB z (lapp (rrU cs csI csW) (bU3 a0 a1 a2 a3 a4 a5 a6))) 12 = z := by kernel_rfl
theorem getU4 (z : T Blk) (cs csI csW : List AV) (a0 : Int) (a1 : Int) (a2 : Int) (a3 : Int) : T.get (mkB z (lapp (rrU cs csI csW) (bU4 a0 a1 a2 a3))) 30 = some (.row csI 22 true []) := by kernel_rfl
theorem zgU4 (z : T Blk) (cs csI csW : List AV) (a0 : Int) (a1 : Int) (a2 : Int) (a3 : Int) : zget (mkB z (lapp (rrU cs csI csW) (bU4 a0 a1 a2 a3))) 12 = z := by kernel_rfl
/-- the zone as far as round i -/
def zoU (l : Nat → Bool) (z : T Blk) (i : Nat) : T Blk := zgrow z 300 (outU l) i
theorem zoU_ok {l : Nat → Bool} {n : Nat} {z : T Blk} (Zs : ZinU l n z) {i : Nat} (hi : i ≤ 60) : ZoneOK (zoU l z i) 2097152 := by
  refine zgrow_ok (fun x k h => ?_) fun j hj => ⟨outU_int l j, by rw [zn_eq]; omega, by rw [zn_eq]; show _ < 1000000000000; omega⟩
  obtain ⟨a, b⟩ := Zs.only x k h
  exact ⟨b, by rw [zn_eq]; omega, by rw [zn_eq]; show _ < 1000000000000; omega⟩
theorem zoU_low {l : Nat → Bool} {z : T Blk} {i x : Nat} (hx : x < 300) : (zoU l z i).get x = z.get x := zgrow_old (.inl hx)
theorem belU_I {n : Nat} (hn : n ≤ 60) : belL 2097152 (zrowsT 0 1 n) = true := belL_slc _ _ _ _ _ fun j hj => by have := List.mem_range.1 hj; rw [zn_eq]; omega
theorem belU_W {n : Nat} (hn : n ≤ 60) : belL 2097152 (zrowsT 100 1 n) = true := belL_slc _ _ _ _ _ fun j hj => by have := List.mem_range.1 hj; rw [zn_eq]; omega
theorem belU_O {i : Nat} (hi : i ≤ 60) : belL 2097152 (zrows 300 1 i) = true := belL_slc _ _ _ _ _ fun j hj => by have := List.mem_range.1 hj; rw [zn_eq]; omega
/-- the state that shape B makes at round i -/
def stU (l : Nat → Bool) (n : Nat) (z : T Blk) (i : Nat) (g : Nat → CV) (B : List (Nat × Blk)) : ZS := ⟨eU n g (.slc n0U 0 i i false 1) i, lapp (rrU (zrows 300 1 i) (zrowsT 0 1 n) (zrowsT 100 1 n)) B, zoU l z i, 2097152⟩
def finU (l : Nat → Bool) (n : Nat) (z : T Blk) : ZS := ⟨[(6, .nils), (7, .int .i64 (Int.ofNat 0)), (17, .slc n0U 0 n n false 1)], rrU (zrows 300 1 n) (zrowsT 0 1 n) (zrowsT 100 1 n), zoU l z n, 2097152⟩
theorem keepIU {l : Nat → Bool} {n : Nat} {z : T Blk} (Zs : ZinU l n z) (hn : n ≤ 60) {i : Nat} {A Zn : List (Nat × Nat × Blk)} (hA : okLit n0U 2097152 A = true) (hZ : ∀ p ∈ Zn, 300 ≤ p.1) :
    renL (szs n0U (namesOf A Zn) (kpOf (zoU l z i))) (zrowsT 0 1 n) = (zrowsT 0 1 n) ∧ renL (szs n0U (namesOf A Zn) (kpOf (zoU l z i))) (zrowsT 100 1 n) = (zrowsT 100 1 n) := by
  constructor
  · unfold zrowsT
    rw [renL_slc]
    refine List.map_congr_left fun j hj => ?_
    have hj := List.mem_range.1 hj
    rw [szs_zone hA (k := inRowU l j) (by rw [zoU_low (by omega), Nat.zero_add]; exact Zs.ins j hj) (fun p hp e => by have := hZ p hp; omega)]
  · unfold zrowsT
    rw [renL_slc]
    refine List.map_congr_left fun j hj => ?_
    have hj := List.mem_range.1 hj
    rw [szs_zone hA (k := outU l j) (by rw [zoU_low (by omega)]; exact Zs.want j hj) (fun p hp e => by have := hZ p hp; omega)]
def usefTU (l : Nat → Bool) (n : Nat) (z : T Blk) (b : List Int) (d : List Bool) (B B2 : List (Nat × Blk)) : Prop :=
  cIU (hfU z (zrowsT 0 1 n) (zrowsT 100 1 n) B) 0 (zn 0) b → cRU (hfU z (zrowsT 0 1 n) (zrowsT 100 1 n) B) (zn 0) b → ∀ {K : KE}, (∀ env h ds σ, Abs n0U σ (stU l n z 1 (ggU (zn 0) b) B2).env (stU l n z 1 (ggU (zn 0) b) B2).h env h → K .nrm env h ds) → goU (hfU z (zrowsT 0 1 n) (zrowsT 100 1 n) B) n 0 (zn 0) .nils b d K
theorem usefGU {l : Nat → Bool} {n : Nat} {z : T Blk} {b : List Int} {d : List Bool} {B B2 : List (Nat × Blk)} {ks : List Nat} {oa ra : Nat} {rw : List AV} {C : Prop → Prop} (ho1 : okLit n0U 2097152 [(n0U, oa, .row [] 22 true [])] = true) (Zs : ZinU l n z) (hn : n ≤ 60) (hi : 0 < n)
    (ht : ∀ Kv, goU (hfU z (zrowsT 0 1 n) (zrowsT 100 1 n) B) n 0 (zn 0) .nils b d (obfU (zrowsT 0 1 n) (zrowsT 100 1 n) (zipA B2 ks) oa ra rw Kv) = hdU (hfU z (zrowsT 0 1 n) (zrowsT 100 1 n) B) n 0 0 (zn 0) b (C (lffU z (zrowsT 0 1 n) (zrowsT 100 1 n) n (zn 0) b (zipA B2 ks) oa ra rw Kv)))
    (hC : ∀ t, t → C t) (hl : okLit n0U 2097152 (zipA B2 ks) = true) (hk : nodupQ (lmap (fun p => p.1) (lapp (RU (zrowsT 0 1 n) (zrowsT 100 1 n) oa 1) (zipA B2 ks))) = true) (ha : nodupQ (actsOf (lapp (RU (zrowsT 0 1 n) (zrowsT 100 1 n) oa 1) (zipA B2 ks)) [(300, ra, rowU rw)]) = true)
    (r1 : 1049473 ≤ ra) (r2 : ra < 1000000000000) (r3 : ra % 4096 ≠ 4095) (hint : IntRow (rowU rw)) (hrow : rowU rw = outU l 0) : usefTU l n z b d B B2 := by
  intro hcI hcR K hK
  have hlit : okLit n0U 2097152 (lapp (RU (zrowsT 0 1 n) (zrowsT 100 1 n) oa 1) (zipA B2 ks)) = true := okLit_row ho1 (belU_O (by omega)) (okLit_row rfl (belU_I hn) (okLit_row rfl (belU_W hn) hl))
  have hZ3 : ∀ p ∈ ([(300, ra, rowU rw)] : List (Nat × Nat × Blk)), 300 ≤ p.1 := fun p hp => by rw [List.mem_singleton.1 hp]; show 300 ≤ 300; omega
  have hnd : (([(300, ra, rowU rw)] : List (Nat × Nat × Blk)).map (·.1)).Nodup := by simp
  have k1 := keepIU Zs hn (i := 0) hlit hZ3
  refine round_use2 good1.spl ht ?_
  refine bcase_tt (dcq_lt (by simp only [Int.ofNat_eq_natCast]; omega)) (bcase_tt (inB_of hi) ⟨hcI, hcR, hC _ ?_⟩)
  have leaf : ∀ (env : Env) (h : H) (ds : List Bool), obs [6, 7, 16, 17, 71, 72, 73] (actsOf (lapp (RU (zrowsT 0 1 n) (zrowsT 100 1 n) oa 1) (zipA B2 ks)) [(300, ra, rowU rw)]) (lapp (RU (zrowsT 0 1 n) (zrowsT 100 1 n) oa 1) (zipA B2 ks)) [(300, ra, rowU rw)] env h = expsR n0U (kpOf z) (eU n (ggU (zn 0) b) (.slc n0U 0 1 1 false 1) 1) (RU (zrowsT 0 1 n) (zrowsT 100 1 n) oa 1) (zipA B2 ks) [(300, ra, rowU rw)] z (rawU (zrowsT 0 1 n) (zrowsT 100 1 n) [.slc ra 0 1 1 false 1]) → K .nrm env h ds := by
    intro env h ds ho
    have fin : ∃ σ, Abs n0U σ (stU l n z 1 (ggU (zn 0) b) B2).env (stU l n z 1 (ggU (zn 0) b) B2).h env h := by
      rw [expsR_eq] at ho
      · exact NewOK.abs (t := (stU l n z 1 (ggU (zn 0) b) B2)) (A := lapp (RU (zrowsT 0 1 n) (zrowsT 100 1 n) oa 1) (zipA B2 ks)) (Z := [(300, ra, rowU rw)]) (z := z)
          ⟨by rw [lmap_app, zipA_B]; rfl, by show T.set z (outU l 0) (300 + 0) = T.set z (rowU rw) 300; rw [hrow], by show 1049473 ≤ 2097152; decide, by kernel_rfl, hlit, hk, ha,
            fun p hp => by
              rw [List.mem_singleton.1 hp]
              exact ⟨by show 1049473 ≤ zn 300; rw [zn_eq]; omega, by show zn 300 < 2097152; rw [zn_eq]; omega, r1, r2, r3, hint⟩,
            hnd, by have := zoU_ok Zs (i := 0) (by omega); exact this⟩ rfl rfl rfl rfl ho
      · have e1 : [.slc ra 0 1 1 false 1] = renL (szs n0U (namesOf (lapp (RU (zrowsT 0 1 n) (zrowsT 100 1 n) oa 1) (zipA B2 ks)) [(300, ra, rowU rw)]) (kpOf z)) (zrows 300 1 1) := by
          refine zrows_grow (i := 0) (fun j hj => ?_) (szs_row hlit (by show 1049473 ≤ zn (300 + 0); rw [zn_eq]; omega) (List.mem_singleton.2 rfl) hnd)
          omega
        show [(some (Blk.row _ _ _ _), true), (some (Blk.row _ _ _ _), true), (some (Blk.row _ _ _ _), true)] = [(some (Blk.row (renL _ _) _ _ _), true), (some (Blk.row (renL _ _) _ _ _), true), (some (Blk.row (renL _ _) _ _ _), true)]
        rw [← e1]
        have k1 := k1
        change renL (szs n0U (namesOf _ _) (kpOf z)) _ = _ ∧ renL (szs n0U (namesOf _ _) (kpOf z)) _ = _ at k1
        rw [k1.1, k1.2]; rfl
    exact fin.elim fun σ ab => hK env h ds σ ab
  exact leaf
def useTU (l : Nat → Bool) (n : Nat) (z : T Blk) (i : Nat) (b : List Int) (d : List Bool) (B B2 : List (Nat × Blk)) : Prop :=
  cIU (hU (zoU l z i) (zrowsT 0 1 n) (zrowsT 100 1 n) i B) (ixU i) (zn i) b → cRU (hU (zoU l z i) (zrowsT 0 1 n) (zrowsT 100 1 n) i B) (zn i) b → ∀ {K : KE}, (∀ env h ds σ, Abs n0U σ (stU l n z (i + 1) (ggU (zn i) b) B2).env (stU l n z (i + 1) (ggU (zn i) b) B2).h env h → K .nrm env h ds) → goU (hU (zoU l z i) (zrowsT 0 1 n) (zrowsT 100 1 n) i B) n i (zn i) (.slc n0U 0 i i false 1) b d K
theorem useGU {l : Nat → Bool} {n : Nat} {z : T Blk} {i : Nat} {b : List Int} {d : List Bool} {B B2 : List (Nat × Blk)} {ks : List Nat} {oa ra : Nat} {rw : List AV} {C : Prop → Prop} (ho1 : okLit n0U 2097152 [(n0U, oa, .row [] 22 true [])] = true) (Zs : ZinU l n z) (hn : n ≤ 60) (hi : i < n)
    (ht : ∀ Kv, goU (hU (zoU l z i) (zrowsT 0 1 n) (zrowsT 100 1 n) i B) n i (zn i) (.slc n0U 0 i i false 1) b d (obU (zrowsT 0 1 n) (zrowsT 100 1 n) i (zipA B2 ks) oa ra rw Kv) = hdU (hU (zoU l z i) (zrowsT 0 1 n) (zrowsT 100 1 n) i B) n i (ixU i) (zn i) b (C (ttU i (lfU (zoU l z i) (zrowsT 0 1 n) (zrowsT 100 1 n) n i (zn i) b (zipA B2 ks) oa ra rw Kv))))
    (hC : ∀ t, t → C t) (hl : okLit n0U 2097152 (zipA B2 ks) = true) (hk : nodupQ (lmap (fun p => p.1) (lapp (RU (zrowsT 0 1 n) (zrowsT 100 1 n) oa (i + 1)) (zipA B2 ks))) = true) (ha : nodupQ (actsOf (lapp (RU (zrowsT 0 1 n) (zrowsT 100 1 n) oa (i + 1)) (zipA B2 ks)) [((300 + i), ra, rowU rw)]) = true)
    (r1 : 1049473 ≤ ra) (r2 : ra < 1000000000000) (r3 : ra % 4096 ≠ 4095) (hint : IntRow (rowU rw)) (hrow : rowU rw = outU l i) : useTU l n z i b d B B2 := by
  intro hcI hcR K hK
  have hlit : okLit n0U 2097152 (lapp (RU (zrowsT 0 1 n) (zrowsT 100 1 n) oa (i + 1)) (zipA B2 ks)) = true := okLit_row ho1 (belU_O (by omega)) (okLit_row rfl (belU_I hn) (okLit_row rfl (belU_W hn) hl))
  have hZ3 : ∀ p ∈ ([((300 + i), ra, rowU rw)] : List (Nat × Nat × Blk)), 300 ≤ p.1 := fun p hp => by rw [List.mem_singleton.1 hp]; show 300 ≤ 300 + i; omega
  have hnd : (([((300 + i), ra, rowU rw)] : List (Nat × Nat × Blk)).map (·.1)).Nodup := by simp
  have k1 := keepIU Zs hn (i := i) hlit hZ3
  refine round_use2 good1.spl ht ?_
  refine bcase_tt (dcq_lt (by simp only [Int.ofNat_eq_natCast]; omega)) (bcase_tt (inB_of hi) ⟨hcI, hcR, hC _ ?_⟩)
  have leaf : ∀ (env : Env) (h : H) (ds : List Bool), obs [6, 7, 16, 17, 71, 72, 73] (actsOf (lapp (RU (zrowsT 0 1 n) (zrowsT 100 1 n) oa (i + 1)) (zipA B2 ks)) [((300 + i), ra, rowU rw)]) (lapp (RU (zrowsT 0 1 n) (zrowsT 100 1 n) oa (i + 1)) (zipA B2 ks)) [((300 + i), ra, rowU rw)] env h = expsR n0U (kpOf (zoU l z i)) (eU n (ggU (zn i) b) (.slc n0U 0 (i + 1) (i + 1) false 1) (i + 1)) (RU (zrowsT 0 1 n) (zrowsT 100 1 n) oa (i + 1)) (zipA B2 ks) [((300 + i), ra, rowU rw)] (zoU l z i) (rawU (zrowsT 0 1 n) (zrowsT 100 1 n) (ocU i ra)) → K .nrm env h ds := by
    intro env h ds ho
    have fin : ∃ σ, Abs n0U σ (stU l n z (i + 1) (ggU (zn i) b) B2).env (stU l n z (i + 1) (ggU (zn i) b) B2).h env h := by
      rw [expsR_eq] at ho
      · exact NewOK.abs (t := (stU l n z (i + 1) (ggU (zn i) b) B2)) (A := lapp (RU (zrowsT 0 1 n) (zrowsT 100 1 n) oa (i + 1)) (zipA B2 ks)) (Z := [((300 + i), ra, rowU rw)]) (z := (zoU l z i))
          ⟨by rw [lmap_app, zipA_B]; rfl, by show T.set (zoU l z i) (outU l i) (300 + i) = T.set (zoU l z i) (rowU rw) (300 + i); rw [hrow], by show 1049473 ≤ 2097152; decide, by kernel_rfl, hlit, hk, ha,
            fun p hp => by
              rw [List.mem_singleton.1 hp]
              exact ⟨by show 1049473 ≤ zn (300 + i); rw [zn_eq]; omega, by show zn (300 + i) < 2097152; rw [zn_eq]; omega, r1, r2, r3, hint⟩,
            hnd, zoU_ok Zs (by omega)⟩ rfl rfl rfl rfl ho
      · have e1 : (ocU i ra) = renL (szs n0U (namesOf (lapp (RU (zrowsT 0 1 n) (zrowsT 100 1 n) oa (i + 1)) (zipA B2 ks)) [((300 + i), ra, rowU rw)]) (kpOf (zoU l z i))) (zrows 300 1 (i + 1)) := by
          refine zrows_grow (i := i) (fun j hj => ?_) (szs_row hlit (by show 1049473 ≤ zn (300 + i); rw [zn_eq]; omega) (List.mem_singleton.2 rfl) hnd)
          exact szs_zone hlit (zgrow_new hj) (fun p hp e => by rw [List.mem_singleton.1 hp] at e; have e : 300 + i = 300 + j := e; omega)
        show [(some (Blk.row _ _ _ _), true), (some (Blk.row _ _ _ _), true), (some (Blk.row _ _ _ _), true)] = [(some (Blk.row (renL _ _) _ _ _), true), (some (Blk.row (renL _ _) _ _ _), true), (some (Blk.row (renL _ _) _ _ _), true)]
        rw [← e1]
        have k1 := k1
        skip
        rw [k1.1, k1.2]; rfl
    exact fin.elim fun σ ab => hK env h ds σ ab
  exact bcase_tt (dcq_cap i) (bcase_tt (appC_ok (by rw [zrows_len]) (by omega)) (bcase_any (bcase_tt (inR_add (by omega)) leaf) (bcase_tt (inR_add (by omega)) leaf)))
theorem useU_0_0 {l : Nat → Bool} {n : Nat} {z : T Blk} (Zs : ZinU l n z) (hn : n ≤ 60) (hi : 0 < n) (hrow : rowU [.int .i64 0] = outU l 0) : usefTU l n z [0] dU_0_0 (bU0) (bU1 1 0) :=
  usefGU (C := fun t => t) (by kernel_rfl) Zs hn hi (fun Kv => tU_0_0 _ _ _ _ _ Kv) (fun t x => x) (by kernel_rfl) (by kernel_rfl) (by kernel_rfl) (by decide) (by decide) (by decide) ⟨[0], 3, true, rfl⟩ hrow
theorem useU_1_0 {l : Nat → Bool} {n : Nat} {z : T Blk} (Zs : ZinU l n z) (hn : n ≤ 60) {i : Nat} (hi : i < n) (a0 : Int) (a1 : Int) (ha0 : 0 ≤ a0) (ha0' : a0 ≤ 170) (hrow : rowU [.int .i64 a0] = outU l i) : useTU l n z i [0] dU_1_0 (bU1 a0 a1) (bU1 (a0 + 1) a0) :=
  useGU (C := fun t => bcase (inR .i64 (a0 + 1)) (bcase (dcq false (eqI a0 (a0 + 1))) (bcase (dcq false (eqI a0 (a0 + 1))) (bcase (dcq true (eqI (a0 + 1) (a0 + 1))) (bcase (dcq false (eqI a0 (a0 + 1))) (bcase (dcq false (eqI a0 (a0 + 1))) (bcase (dcq true (eqI (a0 + 1) (a0 + 1))) (bcase (dcq true (eqI (a0 + 1) (a0 + 1))) (bcase (dcq true (eqI (a0 + 1) (a0 + 1))) (bcase (inR .u8 a0) (bcase (inR .i64 a0) (bcase (dcq true (eqI a0 a0)) (bcase (inR .i64 (a0 + 1)) (bcase (inR .u8 (a0 + 1)) (bcase (inR .i64 (a0 + 1)) (t) False) False) False) False) False) False) False) False) False) False) False) False) False) False) False) (by kernel_rfl) Zs hn hi (fun Kv => tU_1_0 _ _ _ _ _ _ a0 a1 Kv) (fun t x => bcase_tt (inR_i64 (by omega) (by omega)) (bcase_tt (dcq_ne (by omega)) (bcase_tt (dcq_ne (by omega)) (bcase_tt (dcq_eq (by omega)) (bcase_tt (dcq_ne (by omega)) (bcase_tt (dcq_ne (by omega)) (bcase_tt (dcq_eq (by omega)) (bcase_tt (dcq_eq (by omega)) (bcase_tt (dcq_eq (by omega)) (bcase_tt (inR_u8 (by omega) (by omega)) (bcase_tt (inR_i64 (by omega) (by omega)) (bcase_tt (dcq_eq (by omega)) (bcase_tt (inR_i64 (by omega) (by omega)) (bcase_tt (inR_u8 (by omega) (by omega)) (bcase_tt (inR_i64 (by omega) (by omega)) (x)))))))))))))))) (by kernel_rfl) (by kernel_rfl) (by kernel_rfl) (by decide) (by decide) (by decide) ⟨[a0], 3, true, rfl⟩ hrow
theorem useU_1_1 {l : Nat → Bool} {n : Nat} {z : T Blk} (Zs : ZinU l n z) (hn : n ≤ 60) {i : Nat} (hi : i < n) (a0 : Int) (a1 : Int) (ha0 : 0 ≤ a0) (ha0' : a0 ≤ 170) (hrow : rowU [.int .i64 100] = outU l i) : useTU l n z i [1] dU_1_1 (bU1 a0 a1) (bU2 (a0 + 1) 100 1 a0 a1 a0 101) :=
  useGU (C := fun t => bcase (inR .i64 (a0 + 1)) (bcase (dcq false (eqI a0 (a0 + 1))) (bcase (dcq false (eqI a0 (a0 + 1))) (bcase (dcq true (eqI (a0 + 1) (a0 + 1))) (bcase (dcq false (eqI 0 (a0 + 1))) (bcase (dcq false (eqI 0 (a0 + 1))) (bcase (dcq true (eqI (a0 + 1) (a0 + 1))) (bcase (dcq true (eqI (a0 + 1) (a0 + 1))) (bcase (dcq true (eqI (a0 + 1) (a0 + 1))) (t) False) False) False) False) False) False) False) False) False) (by kernel_rfl) Zs hn hi (fun Kv => tU_1_1 _ _ _ _ _ _ a0 a1 Kv) (fun t x => bcase_tt (inR_i64 (by omega) (by omega)) (bcase_tt (dcq_ne (by omega)) (bcase_tt (dcq_ne (by omega)) (bcase_tt (dcq_eq (by omega)) (bcase_tt (dcq_ne (by omega)) (bcase_tt (dcq_ne (by omega)) (bcase_tt (dcq_eq (by omega)) (bcase_tt (dcq_eq (by omega)) (bcase_tt (dcq_eq (by omega)) (x)))))))))) (by kernel_rfl) (by kernel_rfl) (by kernel_rfl) (by decide) (by decide) (by decide) ⟨[100], 3, true, rfl⟩ hrow
theorem useU_2_1 {l : Nat → Bool} {n : Nat} {z : T Blk} (Zs : ZinU l n z) (hn : n ≤ 60) {i : Nat} (hi : i < n) (a0 : Int) (a1 : Int) (a2 : Int) (a3 : Int) (a4 : Int) (a5 : Int) (a6 : Int) (ha0 : 0 ≤ a0) (ha0' : a0 ≤ 170) (ha3 : 0 ≤ a3) (ha3' : a3 ≤ 170) (ha5 : 0 ≤ a5) (ha5' : a5 ≤ 170) (hr0 : a3 ≤ a0) (hrow : rowU [.int .i64 a5] = outU l i) : useTU l n z i [1] dU_2_1 (bU2 a0 a1 a2 a3 a4 a5 a6) (bU3 (a0 + 1) a5 1 a0 a1 (a5 + 1) a6) :=
  useGU (C := fun t => bcase (inR .i64 (a0 + 1)) (bcase (dcq false (eqI a0 (a0 + 1))) (bcase (dcq false (eqI a0 (a0 + 1))) (bcase (dcq true (eqI (a0 + 1) (a0 + 1))) (bcase (dcq false (eqI a3 (a0 + 1))) (bcase (dcq false (eqI a3 (a0 + 1))) (bcase (dcq true (eqI (a0 + 1) (a0 + 1))) (bcase (dcq true (eqI (a0 + 1) (a0 + 1))) (bcase (dcq true (eqI (a0 + 1) (a0 + 1))) (bcase (inR .u8 a5) (bcase (inR .i64 a5) (bcase (dcq true (eqI a5 a5)) (bcase (inR .i64 (a5 + 1)) (bcase (inR .u8 (a5 + 1)) (bcase (inR .i64 (a5 + 1)) (t) False) False) False) False) False) False) False) False) False) False) False) False) False) False) False) (by kernel_rfl) Zs hn hi (fun Kv => tU_2_1 _ _ _ _ _ _ a0 a1 a2 a3 a4 a5 a6 Kv) (fun t x => bcase_tt (inR_i64 (by omega) (by omega)) (bcase_tt (dcq_ne (by omega)) (bcase_tt (dcq_ne (by omega)) (bcase_tt (dcq_eq (by omega)) (bcase_tt (dcq_ne (by omega)) (bcase_tt (dcq_ne (by omega)) (bcase_tt (dcq_eq (by omega)) (bcase_tt (dcq_eq (by omega)) (bcase_tt (dcq_eq (by omega)) (bcase_tt (inR_u8 (by omega) (by omega)) (bcase_tt (inR_i64 (by omega) (by omega)) (bcase_tt (dcq_eq (by omega)) (bcase_tt (inR_i64 (by omega) (by omega)) (bcase_tt (inR_u8 (by omega) (by omega)) (bcase_tt (inR_i64 (by omega) (by omega)) (x)))))))))))))))) (by kernel_rfl) (by kernel_rfl) (by kernel_rfl) (by decide) (by decide) (by decide) ⟨[a5], 3, true, rfl⟩ hrow
theorem useU_3_1 {l : Nat → Bool} {n : Nat} {z : T Blk} (Zs : ZinU l n z) (hn : n ≤ 60) {i : Nat} (hi : i < n) (a0 : Int) (a1 : Int) (a2 : Int) (a3 : Int) (a4 : Int) (a5 : Int) (a6 : Int) (ha0 : 0 ≤ a0) (ha0' : a0 ≤ 170) (ha3 : 0 ≤ a3) (ha3' : a3 ≤ 170) (ha6 : 0 ≤ a6) (ha6' : a6 ≤ 170) (hr0 : a3 ≤ a0) (hrow : rowU [.int .i64 a6] = outU l i) : useTU l n z i [1] dU_3_1 (bU3 a0 a1 a2 a3 a4 a5 a6) (bU2 (a0 + 1) a6 1 a0 a1 a5 (a6 + 1)) :=
  useGU (C := fun t => bcase (inR .i64 (a0 + 1)) (bcase (dcq false (eqI a0 (a0 + 1))) (bcase (dcq false (eqI a0 (a0 + 1))) (bcase (dcq true (eqI (a0 + 1) (a0 + 1))) (bcase (dcq false (eqI a3 (a0 + 1))) (bcase (dcq false (eqI a3 (a0 + 1))) (bcase (dcq true (eqI (a0 + 1) (a0 + 1))) (bcase (dcq true (eqI (a0 + 1) (a0 + 1))) (bcase (dcq true (eqI (a0 + 1) (a0 + 1))) (bcase (inR .u8 a6) (bcase (inR .i64 a6) (bcase (dcq true (eqI a6 a6)) (bcase (inR .i64 (a6 + 1)) (bcase (inR .u8 (a6 + 1)) (bcase (inR .i64 (a6 + 1)) (t) False) False) False) False) False) False) False) False) False) False) False) False) False) False) False) (by kernel_rfl) Zs hn hi (fun Kv => tU_3_1 _ _ _ _ _ _ a0 a1 a2 a3 a4 a5 a6 Kv) (fun t x => bcase_tt (inR_i64 (by omega) (by omega)) (bcase_tt (dcq_ne (by omega)) (bcase_tt (dcq_ne (by omega)) (bcase_tt (dcq_eq (by omega)) (bcase_tt (dcq_ne (by omega)) (bcase_tt (dcq_ne (by omega)) (bcase_tt (dcq_eq (by omega)) (bcase_tt (dcq_eq (by omega)) (bcase_tt (dcq_eq (by omega)) (bcase_tt (inR_u8 (by omega) (by omega)) (bcase_tt (inR_i64 (by omega) (by omega)) (bcase_tt (dcq_eq (by omega)) (bcase_tt (inR_i64 (by omega) (by omega)) (bcase_tt (inR_u8 (by omega) (by omega)) (bcase_tt (inR_i64 (by omega) (by omega)) (x)))))))))))))))) (by kernel_rfl) (by kernel_rfl) (by kernel_rfl) (by decide) (by decide) (by decide) ⟨[a6], 3, true, rfl⟩ hrow
theorem useU_2_0 {l : Nat → Bool} {n : Nat} {z : T Blk} (Zs : ZinU l n z) (hn : n ≤ 60) {i : Nat} (hi : i < n) (a0 : Int) (a1 : Int) (a2 : Int) (a3 : Int) (a4 : Int) (a5 : Int) (a6 : Int) (ha0 : 0 ≤ a0) (ha0' : a0 ≤ 170) (ha6 : 0 ≤ a6) (ha6' : a6 ≤ 170) (hr0 : a3 ≤ a0) (hrow : rowU [.int .i64 a6] = outU l i) : useTU l n z i [0] dU_2_0 (bU2 a0 a1 a2 a3 a4 a5 a6) (bU2 (a0 + 1) a6 0 a3 a4 a5 (a6 + 1)) :=
  useGU (C := fun t => bcase (inR .i64 (a0 + 1)) (bcase (dcq false (eqI a0 (a0 + 1))) (bcase (dcq false (eqI a0 (a0 + 1))) (bcase (dcq true (eqI (a0 + 1) (a0 + 1))) (bcase (dcq false (eqI a0 (a0 + 1))) (bcase (dcq false (eqI a0 (a0 + 1))) (bcase (dcq true (eqI (a0 + 1) (a0 + 1))) (bcase (dcq true (eqI (a0 + 1) (a0 + 1))) (bcase (dcq true (eqI (a0 + 1) (a0 + 1))) (bcase (inR .u8 a6) (bcase (inR .i64 a6) (bcase (dcq true (eqI a6 a6)) (bcase (inR .i64 (a6 + 1)) (bcase (inR .u8 (a6 + 1)) (bcase (inR .i64 (a6 + 1)) (t) False) False) False) False) False) False) False) False) False) False) False) False) False) False) False) (by kernel_rfl) Zs hn hi (fun Kv => tU_2_0 _ _ _ _ _ _ a0 a1 a2 a3 a4 a5 a6 Kv) (fun t x => bcase_tt (inR_i64 (by omega) (by omega)) (bcase_tt (dcq_ne (by omega)) (bcase_tt (dcq_ne (by omega)) (bcase_tt (dcq_eq (by omega)) (bcase_tt (dcq_ne (by omega)) (bcase_tt (dcq_ne (by omega)) (bcase_tt (dcq_eq (by omega)) (bcase_tt (dcq_eq (by omega)) (bcase_tt (dcq_eq (by omega)) (bcase_tt (inR_u8 (by omega) (by omega)) (bcase_tt (inR_i64 (by omega) (by omega)) (bcase_tt (dcq_eq (by omega)) (bcase_tt (inR_i64 (by omega) (by omega)) (bcase_tt (inR_u8 (by omega) (by omega)) (bcase_tt (inR_i64 (by omega) (by omega)) (x)))))))))))))))) (by kernel_rfl) (by kernel_rfl) (by kernel_rfl) (by decide) (by decide) (by decide) ⟨[a6], 3, true, rfl⟩ hrow
theorem useU_3_0 {l : Nat → Bool} {n : Nat} {z : T Blk} (Zs : ZinU l n z) (hn : n ≤ 60) {i : Nat} (hi : i < n) (a0 : Int) (a1 : Int) (a2 : Int) (a3 : Int) (a4 : Int) (a5 : Int) (a6 : Int) (ha0 : 0 ≤ a0) (ha0' : a0 ≤ 170) (ha5 : 0 ≤ a5) (ha5' : a5 ≤ 170) (hr0 : a3 ≤ a0) (hrow : rowU [.int .i64 a5] = outU l i) : useTU l n z i [0] dU_3_0 (bU3 a0 a1 a2 a3 a4 a5 a6) (bU3 (a0 + 1) a5 0 a3 a4 (a5 + 1) a6) :=
  useGU (C := fun t => bcase (inR .i64 (a0 + 1)) (bcase (dcq false (eqI a0 (a0 + 1))) (bcase (dcq false (eqI a0 (a0 + 1))) (bcase (dcq true (eqI (a0 + 1) (a0 + 1))) (bcase (dcq false (eqI a0 (a0 + 1))) (bcase (dcq false (eqI a0 (a0 + 1))) (bcase (dcq true (eqI (a0 + 1) (a0 + 1))) (bcase (dcq true (eqI (a0 + 1) (a0 + 1))) (bcase (dcq true (eqI (a0 + 1) (a0 + 1))) (bcase (inR .u8 a5) (bcase (inR .i64 a5) (bcase (dcq true (eqI a5 a5)) (bcase (inR .i64 (a5 + 1)) (bcase (inR .u8 (a5 + 1)) (bcase (inR .i64 (a5 + 1)) (t) False) False) False) False) False) False) False) False) False) False) False) False) False) False) False) (by kernel_rfl) Zs hn hi (fun Kv => tU_3_0 _ _ _ _ _ _ a0 a1 a2 a3 a4 a5 a6 Kv) (fun t x => bcase_tt (inR_i64 (by omega) (by omega)) (bcase_tt (dcq_ne (by omega)) (bcase_tt (dcq_ne (by omega)) (bcase_tt (dcq_eq (by omega)) (bcase_tt (dcq_ne (by omega)) (bcase_tt (dcq_ne (by omega)) (bcase_tt (dcq_eq (by omega)) (bcase_tt (dcq_eq (by omega)) (bcase_tt (dcq_eq (by omega)) (bcase_tt (inR_u8 (by omega) (by omega)) (bcase_tt (inR_i64 (by omega) (by omega)) (bcase_tt (dcq_eq (by omega)) (bcase_tt (inR_i64 (by omega) (by omega)) (bcase_tt (inR_u8 (by omega) (by omega)) (bcase_tt (inR_i64 (by omega) (by omega)) (x)))))))))))))))) (by kernel_rfl) (by kernel_rfl) (by kernel_rfl) (by decide) (by decide) (by decide) ⟨[a5], 3, true, rfl⟩ hrow
theorem useU_0_1 {l : Nat → Bool} {n : Nat} {z : T Blk} (Zs : ZinU l n z) (hn : n ≤ 60) (hi : 0 < n) (hrow : rowU [.int .i64 100] = outU l 0) : usefTU l n z [1] dU_0_1 (bU0) (bU4 1 100 1 101) :=
  usefGU (C := fun t => t) (by kernel_rfl) Zs hn hi (fun Kv => tU_0_1 _ _ _ _ _ Kv) (fun t x => x) (by kernel_rfl) (by kernel_rfl) (by kernel_rfl) (by decide) (by decide) (by decide) ⟨[100], 3, true, rfl⟩ hrow
theorem useU_4_0 {l : Nat → Bool} {n : Nat} {z : T Blk} (Zs : ZinU l n z) (hn : n ≤ 60) {i : Nat} (hi : i < n) (a0 : Int) (a1 : Int) (a2 : Int) (a3 : Int) (ha0 : 0 ≤ a0) (ha0' : a0 ≤ 170) (ha3 : 0 ≤ a3) (ha3' : a3 ≤ 170) (hrow : rowU [.int .i64 a3] = outU l i) : useTU l n z i [0] dU_4_0 (bU4 a0 a1 a2 a3) (bU4 (a0 + 1) a3 0 (a3 + 1)) :=
  useGU (C := fun t => bcase (inR .i64 (a0 + 1)) (bcase (dcq false (eqI a0 (a0 + 1))) (bcase (dcq false (eqI a0 (a0 + 1))) (bcase (dcq true (eqI (a0 + 1) (a0 + 1))) (bcase (dcq false (eqI a0 (a0 + 1))) (bcase (dcq false (eqI a0 (a0 + 1))) (bcase (dcq true (eqI (a0 + 1) (a0 + 1))) (bcase (dcq true (eqI (a0 + 1) (a0 + 1))) (bcase (dcq true (eqI (a0 + 1) (a0 + 1))) (bcase (inR .u8 a3) (bcase (inR .i64 a3) (bcase (dcq true (eqI a3 a3)) (bcase (inR .i64 (a3 + 1)) (bcase (inR .u8 (a3 + 1)) (bcase (inR .i64 (a3 + 1)) (t) False) False) False) False) False) False) False) False) False) False) False) False) False) False) False) (by kernel_rfl) Zs hn hi (fun Kv => tU_4_0 _ _ _ _ _ _ a0 a1 a2 a3 Kv) (fun t x => bcase_tt (inR_i64 (by omega) (by omega)) (bcase_tt (dcq_ne (by omega)) (bcase_tt (dcq_ne (by omega)) (bcase_tt (dcq_eq (by omega)) (bcase_tt (dcq_ne (by omega)) (bcase_tt (dcq_ne (by omega)) (bcase_tt (dcq_eq (by omega)) (bcase_tt (dcq_eq (by omega)) (bcase_tt (dcq_eq (by omega)) (bcase_tt (inR_u8 (by omega) (by omega)) (bcase_tt (inR_i64 (by omega) (by omega)) (bcase_tt (dcq_eq (by omega)) (bcase_tt (inR_i64 (by omega) (by omega)) (bcase_tt (inR_u8 (by omega) (by omega)) (bcase_tt (inR_i64 (by omega) (by omega)) (x)))))))))))))))) (by kernel_rfl) (by kernel_rfl) (by kernel_rfl) (by decide) (by decide) (by decide) ⟨[a3], 3, true, rfl⟩ hrow
theorem useU_4_1 {l : Nat → Bool} {n : Nat} {z : T Blk} (Zs : ZinU l n z) (hn : n ≤ 60) {i : Nat} (hi : i < n) (a0 : Int) (a1 : Int) (a2 : Int) (a3 : Int) (ha0 : 0 ≤ a0) (ha0' : a0 ≤ 170) (hrow : rowU [.int .i64 0] = outU l i) : useTU l n z i [1] dU_4_1 (bU4 a0 a1 a2 a3) (bU3 (a0 + 1) 0 1 a0 a1 1 a3) :=
  useGU (C := fun t => bcase (inR .i64 (a0 + 1)) (bcase (dcq false (eqI a0 (a0 + 1))) (bcase (dcq false (eqI a0 (a0 + 1))) (bcase (dcq true (eqI (a0 + 1) (a0 + 1))) (bcase (dcq false (eqI 0 (a0 + 1))) (bcase (dcq false (eqI 0 (a0 + 1))) (bcase (dcq true (eqI (a0 + 1) (a0 + 1))) (bcase (dcq true (eqI (a0 + 1) (a0 + 1))) (bcase (dcq true (eqI (a0 + 1) (a0 + 1))) (t) False) False) False) False) False) False) False) False) False) (by kernel_rfl) Zs hn hi (fun Kv => tU_4_1 _ _ _ _ _ _ a0 a1 a2 a3 Kv) (fun t x => bcase_tt (inR_i64 (by omega) (by omega)) (bcase_tt (dcq_ne (by omega)) (bcase_tt (dcq_ne (by omega)) (bcase_tt (dcq_eq (by omega)) (bcase_tt (dcq_ne (by omega)) (bcase_tt (dcq_ne (by omega)) (bcase_tt (dcq_eq (by omega)) (bcase_tt (dcq_eq (by omega)) (bcase_tt (dcq_eq (by omega)) (x)))))))))) (by kernel_rfl) (by kernel_rfl) (by kernel_rfl) (by decide) (by decide) (by decide) ⟨[0], 3, true, rfl⟩ hrow
end
end Go.Proofs.YtkfhjobebhdpoaaGreat
/- Stream: Run's loop over ticks, as a contract (the program of StreamAutomata). -/
set_option autoImplicit false
set_option maxRecDepth 1000000
set_option maxHeartbeats 2000000
set_option linter.unusedVariables false
namespace Go.Proofs.YtkfhjobebhdpoaaGreat
noncomputable section
open Go.X
inductive SU where
  | s0 (g : Nat → CV)
  | s1 (i : Nat) (a0 : Int) (a1 : Int) (g : Nat → CV)
  | s2 (i : Nat) (a0 : Int) (a1 : Int) (a2 : Int) (a3 : Int) (a4 : Int) (a5 : Int) (a6 : Int) (g : Nat → CV)
  | s3 (i : Nat) (a0 : Int) (a1 : Int) (a2 : Int) (a3 : Int) (a4 : Int) (a5 : Int) (a6 : Int) (g : Nat → CV)
  | s4 (i : Nat) (a0 : Int) (a1 : Int) (a2 : Int) (a3 : Int) (g : Nat → CV)
def SU.ok (l : Nat → Bool) (n : Nat) : SU → Prop
  | .s0 _ => True
  | .s1 i a0 a1 _ => 1 ≤ i ∧ i ≤ n ∧ nowU l i = 0 ∧ a0 = (i : Int) ∧ a0 = uU l i ∧ vU l i = 100
  | .s2 i a0 a1 a2 a3 a4 a5 a6 _ => 1 ≤ i ∧ i ≤ n ∧ nowU l i = 1 ∧ a0 = (i : Int) ∧ 0 ≤ a3 ∧ a3 ≤ (i : Int) ∧ a5 = uU l i ∧ a6 = vU l i
  | .s3 i a0 a1 a2 a3 a4 a5 a6 _ => 1 ≤ i ∧ i ≤ n ∧ nowU l i = 0 ∧ a0 = (i : Int) ∧ 0 ≤ a3 ∧ a3 ≤ (i : Int) ∧ a5 = uU l i ∧ a6 = vU l i
  | .s4 i a0 a1 a2 a3 _ => 1 ≤ i ∧ i ≤ n ∧ nowU l i = 1 ∧ a0 = (i : Int) ∧ a3 = vU l i ∧ uU l i = 0
def SU.st (l : Nat → Bool) (n : Nat) (z : T Blk) : SU → ZS
  | .s0 g => ⟨eU n g .nils 0, lapp (rr0U (zrowsT 0 1 n) (zrowsT 100 1 n)) bU0, z, n0U⟩
  | .s1 i a0 a1 g => stU l n z i g (bU1 a0 a1)
  | .s2 i a0 a1 a2 a3 a4 a5 a6 g => stU l n z i g (bU2 a0 a1 a2 a3 a4 a5 a6)
  | .s3 i a0 a1 a2 a3 a4 a5 a6 g => stU l n z i g (bU3 a0 a1 a2 a3 a4 a5 a6)
  | .s4 i a0 a1 a2 a3 g => stU l n z i g (bU4 a0 a1 a2 a3)
def SU.er (l : Nat → Bool) (n : Nat) : SU → List (Nat × AV)
  | .s0 _ => eU n (ggU (zn 0) [bi (l 0)]) .nils 0
  | .s1 i _ _ _ => eU n (ggU (zn i) [bi (l i)]) (.slc n0U 0 i i false 1) i
  | .s2 i _ _ _ _ _ _ _ _ => eU n (ggU (zn i) [bi (l i)]) (.slc n0U 0 i i false 1) i
  | .s3 i _ _ _ _ _ _ _ _ => eU n (ggU (zn i) [bi (l i)]) (.slc n0U 0 i i false 1) i
  | .s4 i _ _ _ _ _ => eU n (ggU (zn i) [bi (l i)]) (.slc n0U 0 i i false 1) i
def SU.dr (l : Nat → Bool) (n : Nat) : SU → List Bool
  | .s0 _ => (cond (l 0) dU_0_1 dU_0_0)
  | .s1 i _ _ _ => cond (Nat.ble (i + 1) n) (cond (l i) dU_1_1 dU_1_0) [false]
  | .s2 i _ _ _ _ _ _ _ _ => cond (Nat.ble (i + 1) n) (cond (l i) dU_2_1 dU_2_0) [false]
  | .s3 i _ _ _ _ _ _ _ _ => cond (Nat.ble (i + 1) n) (cond (l i) dU_3_1 dU_3_0) [false]
  | .s4 i _ _ _ _ _ => cond (Nat.ble (i + 1) n) (cond (l i) dU_4_1 dU_4_0) [false]
def SU.mu (n : Nat) : SU → Nat
  | .s0 _ => n + 1
  | .s1 i _ _ _ => n - i
  | .s2 i _ _ _ _ _ _ _ _ => n - i
  | .s3 i _ _ _ _ _ _ _ _ => n - i
  | .s4 i _ _ _ _ _ => n - i
theorem pe_eU (n : Nat) (g g' : Nat → CV) (out : AV) (i : Nat) : Pe (eU n g out i) (eU n g' out i) :=
  .cons _ _ _ _ _ (.inl rfl) (.cons _ _ _ _ _ (.inl rfl) (.cons _ _ _ _ _ (.inl rfl) (.cons _ _ _ _ _ (.inl rfl) (.cons _ _ _ _ _ (.inr ⟨_, _, _, _, _, rfl, rfl⟩) (.cons _ _ _ _ _ (.inl rfl) (.cons _ _ _ _ _ (.inl rfl) .nil))))))
theorem done_U1 {l : Nat → Bool} {n : Nat} {z : T Blk} (Zs : ZinU l n z) (hn : n ≤ 60) (R : List (Nat × Nat × Blk)) (hR : R = [(n0U, n0U, .row (zrows 300 1 n) 22 true []), (30, 30, .row (zrowsT 0 1 n) 22 true []), (31, 31, .row (zrowsT 100 1 n) 22 true [])]) {env : Env} {h : H}
    (ho : obs [6, 7, 17] (actsOf (lapp R []) []) (lapp R []) [] env h = expsR n0U (kpOf (zoU l z n)) [(6, .nils), (7, .int .i64 (Int.ofNat 0)), (17, .slc n0U 0 n n false 1)] R [] [] (zoU l z n) [(some (.row (zrows 300 1 n) 22 true []), true), (some (.row (zrowsT 0 1 n) 22 true []), true), (some (.row (zrowsT 100 1 n) 22 true []), true)]) :
    ∃ σ, Abs n0U σ (finU l n z).env (finU l n z).h env h := by
  subst hR
  have hlit : okLit n0U 2097152 (lapp [(n0U, n0U, .row (zrows 300 1 n) 22 true []), (30, 30, .row (zrowsT 0 1 n) 22 true []), (31, 31, .row (zrowsT 100 1 n) 22 true [])] []) = true := okLit_row rfl (belU_O (by omega)) (okLit_row rfl (belU_I hn) (okLit_row rfl (belU_W hn) rfl))
  have k1 := keepIU Zs hn (i := n) (Zn := []) hlit (fun p hp => by cases hp)
  have k2 : renL (szs n0U (namesOf (lapp [(n0U, n0U, .row (zrows 300 1 n) 22 true []), (30, 30, .row (zrowsT 0 1 n) 22 true []), (31, 31, .row (zrowsT 100 1 n) 22 true [])] []) []) (kpOf (zoU l z n))) (zrows 300 1 n) = zrows 300 1 n := by
    exact zrows_keep fun j hj => szs_zone hlit (zgrow_new hj) (fun p hp e => by cases hp)
  rw [expsR_eq] at ho
  · exact NewOK.abs (t := finU l n z) (A := lapp [(n0U, n0U, .row (zrows 300 1 n) 22 true []), (30, 30, .row (zrowsT 0 1 n) 22 true []), (31, 31, .row (zrowsT 100 1 n) 22 true [])] []) (Z := []) (z := zoU l z n)
      ⟨rfl, rfl, by show 1049473 ≤ 2097152; decide, rfl, hlit, rfl, rfl, (fun p hp => (by cases hp)), List.nodup_nil, zoU_ok Zs (by omega)⟩ rfl rfl rfl rfl ho
  · show _ = [(some (Blk.row (renL _ _) _ _ _), true), (some (Blk.row (renL _ _) _ _ _), true), (some (Blk.row (renL _ _) _ _ _), true)]
    rw [k2, k1.1, k1.2]; rfl
theorem belU_I0 {n : Nat} (hn : n ≤ 60) : belL n0U (zrowsT 0 1 n) = true := belL_slc _ (fun j => zn (0 + j)) _ _ _ fun j hj => by have := List.mem_range.1 hj; rw [zn_eq]; show _ < 1049473; omega
theorem belU_W0 {n : Nat} (hn : n ≤ 60) : belL n0U (zrowsT 100 1 n) = true := belL_slc _ (fun j => zn (100 + j)) _ _ _ fun j hj => by have := List.mem_range.1 hj; rw [zn_eq]; show _ < 1049473; omega
theorem loopU_good {C : Cfg} (G : X.Good C Tryz.prog) (hg : C.gl = fun _ => none) (hm : C.mask 14 = mask 14) {l : Nat → Bool} {n : Nat} (hn1 : 1 ≤ n) (hn : n ≤ 60) {z : T Blk} (Zs : ZinU l n z) (g : Nat → CV) :
    X.Good (C.addLc 14 22 (lcZ (S0 := Unit) (fun _ => True) (lmap (fun p => p.1) (eU n g .nils 0)) (lmap (fun p => p.1) (lapp (rr0U (zrowsT 0 1 n) (zrowsT 100 1 n)) bU0)) (fun _ => SU.st l n z (.s0 g)) (fun _ => (.ext 2, finU l n z)))) Tryz.prog := by
  refine G.addZR good1 (by rw [hg]; rfl) (S := SU) (SU.dr l n) (n0 := n0U) (ι := fun _ => .s0 g) (ok := SU.ok l n) (St := SU.st l n z) (SU.er l n) (μ := SU.mu n) (fin := fun _ => (.ext 2, finU l n z)) (fuel := F) hm.symm (by rfl) ?_ ?_ ?_ (fun g i h => by rw [hg] at h; cases h)
  · intro s _
    cases s <;> exact pe_eU ..
  · intro _ _
    refine ⟨trivial, rfl, rfl, ⟨rfl, ?_, ?_, ?_⟩, by show 1049473 ≤ 2097152; decide, rfl, rfl⟩
    · show belEs n0U (eU n g .nils 0) = true
      kernel_rfl
    · exact blksN_app (R := rr0U (zrowsT 0 1 n) (zrowsT 100 1 n)) blksU0 (blksN_row (by show 30 < 1049473; decide) (belU_I0 hn) (blksN_row (by show 31 < 1049473; decide) (belU_W0 hn) rfl))
    · intro x k h
      obtain ⟨a, b⟩ := Zs.only x k h
      exact ⟨b, by rw [zn_eq]; show _ < 1049473; omega, by rw [zn_eq]; show _ < 1000000000000; omega⟩
  · intro s hs
    rw [hm]
    cases s with
    | s0 g0 =>
      have hc := leU l 0
      have z0 : nowU l 0 = 0 := rfl
      have z1 : uU l 0 = 0 := rfl
      have z2 : vU l 0 = 100 := rfl
      cases hb : l 0 with
      | false =>
        have q1 := stepU_false0 hb
        refine ⟨?_⟩
        show xcode C1 Tryz.prog F 14 (loopC Tryz.prog 14 22) (mask 14) (tmpsN Tryz.prog 14) (mkE (eU n (ggU (zn 0) [bi (l 0)]) .nils 0)) _ (cond (l 0) dU_0_1 dU_0_0) _
        rw [hb]
        exact useU_0_0 Zs hn (by omega) (row1_eq (by omega)) (cellI (i := 0) (by omega) (getU0 ..) _) (cellR (zgU0 ..) (by rw [Zs.ins 0 (by omega)]; unfold inRowU; rw [hb]; rfl) _ rfl)
          (fun env h ds σ ab => ⟨.s1 1 1 0 _, σ, ⟨Nat.le_refl _, hn1, by omega, by omega, by omega, by omega⟩, (by show n - 1 < n + 1; omega), rfl, ab⟩)
      | true =>
        have q1 := stepU_true0 hb
        refine ⟨?_⟩
        show xcode C1 Tryz.prog F 14 (loopC Tryz.prog 14 22) (mask 14) (tmpsN Tryz.prog 14) (mkE (eU n (ggU (zn 0) [bi (l 0)]) .nils 0)) _ (cond (l 0) dU_0_1 dU_0_0) _
        rw [hb]
        exact useU_0_1 Zs hn (by omega) (row1_eq (by omega)) (cellI (i := 0) (by omega) (getU0 ..) _) (cellR (zgU0 ..) (by rw [Zs.ins 0 (by omega)]; unfold inRowU; rw [hb]; rfl) _ rfl)
          (fun env h ds σ ab => ⟨.s4 1 1 100 1 101 _, σ, ⟨Nat.le_refl _, hn1, by omega, by omega, by omega, by omega⟩, (by show n - 1 < n + 1; omega), rfl, ab⟩)
    | s1 i a0 a1 g0 =>
      obtain ⟨h1, h2, p0, p1, p2, p3⟩ := hs
      have hc := leU l i
      by_cases hlt : i < n
      · cases hb : l i with
        | false =>
          have q1 := stepU_false hb
          refine ⟨?_⟩
          show xcode C1 Tryz.prog F 14 (loopC Tryz.prog 14 22) (mask 14) (tmpsN Tryz.prog 14) (mkE (eU n (ggU (zn i) [bi (l i)]) (.slc n0U 0 i i false 1) i)) _ (cond (Nat.ble (i + 1) n) (cond (l i) dU_1_1 dU_1_0) [false]) _
          rw [hb, ble_t hlt]
          exact useU_1_0 Zs hn hlt a0 a1 (by omega) (by omega) (row1_eq (by omega)) (cellI hlt (getU1 ..) _) (cellR (zgU1 ..) (by rw [zoU_low (by omega), Zs.ins i hlt]; unfold inRowU; rw [hb]; rfl) _ rfl)
            (fun env h ds σ ab => ⟨.s1 (i + 1) (a0 + 1) a0 _, σ, ⟨by omega, hlt, by omega, by omega, by omega, by omega⟩, (by show n - (i + 1) < n - i; omega), rfl, ab⟩)
        | true =>
          have q1 := stepU_true hb
          refine ⟨?_⟩
          show xcode C1 Tryz.prog F 14 (loopC Tryz.prog 14 22) (mask 14) (tmpsN Tryz.prog 14) (mkE (eU n (ggU (zn i) [bi (l i)]) (.slc n0U 0 i i false 1) i)) _ (cond (Nat.ble (i + 1) n) (cond (l i) dU_1_1 dU_1_0) [false]) _
          rw [hb, ble_t hlt]
          exact useU_1_1 Zs hn hlt a0 a1 (by omega) (by omega) (row1_eq (by omega)) (cellI hlt (getU1 ..) _) (cellR (zgU1 ..) (by rw [zoU_low (by omega), Zs.ins i hlt]; unfold inRowU; rw [hb]; rfl) _ rfl)
            (fun env h ds σ ab => ⟨.s2 (i + 1) (a0 + 1) 100 1 a0 a1 a0 101 _, σ, ⟨by omega, hlt, by omega, by omega, by omega, by omega, by omega, by omega⟩, (by show n - (i + 1) < n - i; omega), rfl, ab⟩)
      · have hin : i = n := by omega
        subst hin
        refine ⟨?_⟩
        show xcode C1 Tryz.prog F 14 (loopC Tryz.prog 14 22) (mask 14) (tmpsN Tryz.prog 14) (mkE (eU i (ggU (zn i) [bi (l i)]) (.slc n0U 0 i i false 1) i)) _ (cond (Nat.ble (i + 1) i) (cond (l i) dU_1_1 dU_1_0) [false]) _
        rw [ble_f (Nat.lt_irrefl i)]
        exact round_use2 good1.spl (fun Kv => xU_1 (zoU l z i) (zrowsT 0 1 i) (zrowsT 100 1 i) i i _ a0 a1 Kv)
          (bcase_tt (dcq_ge (by omega)) (fun env h ds ho => (done_U1 Zs hn _ rfl ho).elim fun σ ab => ⟨σ, rfl, ab⟩))
    | s2 i a0 a1 a2 a3 a4 a5 a6 g0 =>
      obtain ⟨h1, h2, p0, p1, p2, p3, p4, p5⟩ := hs
      have hc := leU l i
      by_cases hlt : i < n
      · cases hb : l i with
        | false =>
          have q1 := stepU_false hb
          refine ⟨?_⟩
          show xcode C1 Tryz.prog F 14 (loopC Tryz.prog 14 22) (mask 14) (tmpsN Tryz.prog 14) (mkE (eU n (ggU (zn i) [bi (l i)]) (.slc n0U 0 i i false 1) i)) _ (cond (Nat.ble (i + 1) n) (cond (l i) dU_2_1 dU_2_0) [false]) _
          rw [hb, ble_t hlt]
          exact useU_2_0 Zs hn hlt a0 a1 a2 a3 a4 a5 a6 (by omega) (by omega) (by omega) (by omega) (by omega) (row1_eq (by omega)) (cellI hlt (getU2 ..) _) (cellR (zgU2 ..) (by rw [zoU_low (by omega), Zs.ins i hlt]; unfold inRowU; rw [hb]; rfl) _ rfl)
            (fun env h ds σ ab => ⟨.s2 (i + 1) (a0 + 1) a6 0 a3 a4 a5 (a6 + 1) _, σ, ⟨by omega, hlt, by omega, by omega, by omega, by omega, by omega, by omega⟩, (by show n - (i + 1) < n - i; omega), rfl, ab⟩)
        | true =>
          have q1 := stepU_true hb
          refine ⟨?_⟩
          show xcode C1 Tryz.prog F 14 (loopC Tryz.prog 14 22) (mask 14) (tmpsN Tryz.prog 14) (mkE (eU n (ggU (zn i) [bi (l i)]) (.slc n0U 0 i i false 1) i)) _ (cond (Nat.ble (i + 1) n) (cond (l i) dU_2_1 dU_2_0) [false]) _
          rw [hb, ble_t hlt]
          exact useU_2_1 Zs hn hlt a0 a1 a2 a3 a4 a5 a6 (by omega) (by omega) (by omega) (by omega) (by omega) (by omega) (by omega) (row1_eq (by omega)) (cellI hlt (getU2 ..) _) (cellR (zgU2 ..) (by rw [zoU_low (by omega), Zs.ins i hlt]; unfold inRowU; rw [hb]; rfl) _ rfl)
            (fun env h ds σ ab => ⟨.s3 (i + 1) (a0 + 1) a5 1 a0 a1 (a5 + 1) a6 _, σ, ⟨by omega, hlt, by omega, by omega, by omega, by omega, by omega, by omega⟩, (by show n - (i + 1) < n - i; omega), rfl, ab⟩)
      · have hin : i = n := by omega
        subst hin
        refine ⟨?_⟩
        show xcode C1 Tryz.prog F 14 (loopC Tryz.prog 14 22) (mask 14) (tmpsN Tryz.prog 14) (mkE (eU i (ggU (zn i) [bi (l i)]) (.slc n0U 0 i i false 1) i)) _ (cond (Nat.ble (i + 1) i) (cond (l i) dU_2_1 dU_2_0) [false]) _
        rw [ble_f (Nat.lt_irrefl i)]
        exact round_use2 good1.spl (fun Kv => xU_2 (zoU l z i) (zrowsT 0 1 i) (zrowsT 100 1 i) i i _ a0 a1 a2 a3 a4 a5 a6 Kv)
          (bcase_tt (dcq_ge (by omega)) (fun env h ds ho => (done_U1 Zs hn _ rfl ho).elim fun σ ab => ⟨σ, rfl, ab⟩))
    | s3 i a0 a1 a2 a3 a4 a5 a6 g0 =>
      obtain ⟨h1, h2, p0, p1, p2, p3, p4, p5⟩ := hs
      have hc := leU l i
      by_cases hlt : i < n
      · cases hb : l i with
        | false =>
          have q1 := stepU_false hb
          refine ⟨?_⟩
          show xcode C1 Tryz.prog F 14 (loopC Tryz.prog 14 22) (mask 14) (tmpsN Tryz.prog 14) (mkE (eU n (ggU (zn i) [bi (l i)]) (.slc n0U 0 i i false 1) i)) _ (cond (Nat.ble (i + 1) n) (cond (l i) dU_3_1 dU_3_0) [false]) _
          rw [hb, ble_t hlt]
          exact useU_3_0 Zs hn hlt a0 a1 a2 a3 a4 a5 a6 (by omega) (by omega) (by omega) (by omega) (by omega) (row1_eq (by omega)) (cellI hlt (getU3 ..) _) (cellR (zgU3 ..) (by rw [zoU_low (by omega), Zs.ins i hlt]; unfold inRowU; rw [hb]; rfl) _ rfl)
            (fun env h ds σ ab => ⟨.s3 (i + 1) (a0 + 1) a5 0 a3 a4 (a5 + 1) a6 _, σ, ⟨by omega, hlt, by omega, by omega, by omega, by omega, by omega, by omega⟩, (by show n - (i + 1) < n - i; omega), rfl, ab⟩)
        | true =>
          have q1 := stepU_true hb
          refine ⟨?_⟩
          show xcode C1 Tryz.prog F 14 (loopC Tryz.prog 14 22) (mask 14) (tmpsN Tryz.prog 14) (mkE (eU n (ggU (zn i) [bi (l i)]) (.slc n0U 0 i i false 1) i)) _ (cond (Nat.ble (i + 1) n) (cond (l i) dU_3_1 dU_3_0) [false]) _
          rw [hb, ble_t hlt]
          exact useU_3_1 Zs hn hlt a0 a1 a2 a3 a4 a5 a6 (by omega) (by omega) (by omega) (by omega) (by omega) (by omega) (by omega) (row1_eq (by omega)) (cellI hlt (getU3 ..) _) (cellR (zgU3 ..) (by rw [zoU_low (by omega), Zs.ins i hlt]; unfold inRowU; rw [hb]; rfl) _ rfl)
            (fun env h ds σ ab => ⟨.s2 (i + 1) (a0 + 1) a6 1 a0 a1 a5 (a6 + 1) _, σ, ⟨by omega, hlt, by omega, by omega, by omega, by omega, by omega, by omega⟩, (by show n - (i + 1) < n - i; omega), rfl, ab⟩)
      · have hin : i = n := by omega
        subst hin
        refine ⟨?_⟩
        show xcode C1 Tryz.prog F 14 (loopC Tryz.prog 14 22) (mask 14) (tmpsN Tryz.prog 14) (mkE (eU i (ggU (zn i) [bi (l i)]) (.slc n0U 0 i i false 1) i)) _ (cond (Nat.ble (i + 1) i) (cond (l i) dU_3_1 dU_3_0) [false]) _
        rw [ble_f (Nat.lt_irrefl i)]
        exact round_use2 good1.spl (fun Kv => xU_3 (zoU l z i) (zrowsT 0 1 i) (zrowsT 100 1 i) i i _ a0 a1 a2 a3 a4 a5 a6 Kv)
          (bcase_tt (dcq_ge (by omega)) (fun env h ds ho => (done_U1 Zs hn _ rfl ho).elim fun σ ab => ⟨σ, rfl, ab⟩))
    | s4 i a0 a1 a2 a3 g0 =>
      obtain ⟨h1, h2, p0, p1, p2, p3⟩ := hs
      have hc := leU l i
      by_cases hlt : i < n
      · cases hb : l i with
        | false =>
          have q1 := stepU_false hb
          refine ⟨?_⟩
          show xcode C1 Tryz.prog F 14 (loopC Tryz.prog 14 22) (mask 14) (tmpsN Tryz.prog 14) (mkE (eU n (ggU (zn i) [bi (l i)]) (.slc n0U 0 i i false 1) i)) _ (cond (Nat.ble (i + 1) n) (cond (l i) dU_4_1 dU_4_0) [false]) _
          rw [hb, ble_t hlt]
          exact useU_4_0 Zs hn hlt a0 a1 a2 a3 (by omega) (by omega) (by omega) (by omega) (row1_eq (by omega)) (cellI hlt (getU4 ..) _) (cellR (zgU4 ..) (by rw [zoU_low (by omega), Zs.ins i hlt]; unfold inRowU; rw [hb]; rfl) _ rfl)
            (fun env h ds σ ab => ⟨.s4 (i + 1) (a0 + 1) a3 0 (a3 + 1) _, σ, ⟨by omega, hlt, by omega, by omega, by omega, by omega⟩, (by show n - (i + 1) < n - i; omega), rfl, ab⟩)
        | true =>
          have q1 := stepU_true hb
          refine ⟨?_⟩
          show xcode C1 Tryz.prog F 14 (loopC Tryz.prog 14 22) (mask 14) (tmpsN Tryz.prog 14) (mkE (eU n (ggU (zn i) [bi (l i)]) (.slc n0U 0 i i false 1) i)) _ (cond (Nat.ble (i + 1) n) (cond (l i) dU_4_1 dU_4_0) [false]) _
          rw [hb, ble_t hlt]
          exact useU_4_1 Zs hn hlt a0 a1 a2 a3 (by omega) (by omega) (row1_eq (by omega)) (cellI hlt (getU4 ..) _) (cellR (zgU4 ..) (by rw [zoU_low (by omega), Zs.ins i hlt]; unfold inRowU; rw [hb]; rfl) _ rfl)
            (fun env h ds σ ab => ⟨.s3 (i + 1) (a0 + 1) 0 1 a0 a1 1 a3 _, σ, ⟨by omega, hlt, by omega, by omega, by omega, by omega, by omega, by omega⟩, (by show n - (i + 1) < n - i; omega), rfl, ab⟩)
      · have hin : i = n := by omega
        subst hin
        refine ⟨?_⟩
        show xcode C1 Tryz.prog F 14 (loopC Tryz.prog 14 22) (mask 14) (tmpsN Tryz.prog 14) (mkE (eU i (ggU (zn i) [bi (l i)]) (.slc n0U 0 i i false 1) i)) _ (cond (Nat.ble (i + 1) i) (cond (l i) dU_4_1 dU_4_0) [false]) _
        rw [ble_f (Nat.lt_irrefl i)]
        exact round_use2 good1.spl (fun Kv => xU_4 (zoU l z i) (zrowsT 0 1 i) (zrowsT 100 1 i) i i _ a0 a1 a2 a3 Kv)
          (bcase_tt (dcq_ge (by omega)) (fun env h ds ho => (done_U1 Zs hn _ rfl ho).elim fun σ ab => ⟨σ, rfl, ab⟩))
end
end Go.Proofs.YtkfhjobebhdpoaaGreat

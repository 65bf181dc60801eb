/- Stream: the states of Run's loop over ticks. -/
import Derived.Test.YtkfhjobebhdpoaaGreatE7
import Derived.Test.YtkfhjobebhdpoaaGreatM
import Derived.Test.YtkfhjobebhdpoaaGreatBits
import Derived.Test.YtkfhjobebhdpoaaGreatSK
import Derived.Test.YtkfhjobebhdpoaaGreatG
set_option linter.unusedVariables false
set_option autoImplicit false
set_option maxRecDepth 1000000
set_option maxHeartbeats 1000000
namespace Go.Proofs.YtkfhjobebhdpoaaGreat
noncomputable section
open Go.X
def n0T : Nat := 1049473
def kT0 : Nat × Blk := (1049263, .row [.ptr 1049261 0, .int .i64 (.ofNat 0), .nils, .str 1 102, .slc 11 0 1 1 false 5, .slc 10 0 1 1 false 5, .nils, .slc 9 0 1 1 false 12, .int .i64 (.ofNat 0), .ptr 1049275 0] 94 true [])
def kT1 : Nat × Blk := (1049261, .row [.map 1049259, .map 1049260] 63 true [])
def kT2 : Nat × Blk := (11, .row [.str 1 99, .int .i64 (.ofNat 1), .int .i64 (.ofNat 0), .nils, .int .i64 (.ofNat 7)] 85 true [])
def kT3 : Nat × Blk := (10, .row [.str 1 121, .int .i64 (.ofNat 6), .int .i64 (.ofNat 0), .nils, .int .i64 (.ofNat 25)] 85 true [])
def kT4 : Nat × Blk := (9, .row [.nils, .int .i64 (.ofNat 0), .int .i64 (.ofNat 0), .str 0 0, .int .i64 (.ofNat 0), .int .i64 (.ofNat 0), .int .i64 (.ofNat 0), .int .i64 (.ofNat 0), .nils, .int .i64 (.ofNat 0), .slc 12 0 2 2 false 6, .int .i64 (.ofNat 36)] 160 true [])
def kT5 : Nat × Blk := (1049275, .row [.ptr 1049263 0, .ptr 1049266 0, .map 1049274, .slc 1049472 0 1 1 false 1, .slc 1049467 0 1 1 false 1, .nils] 108 true [])
def kT6 : Nat × Blk := (1049259, .map [0] 1 [(.str 1 102, .agg [.str 1 102, .slc 11 0 1 1 false 5, .slc 10 0 1 1 false 5, .nils, .slc 9 0 1 1 false 12, .int .i64 (.ofNat 0)])])
def kT7 : Nat × Blk := (1049260, .map [0, 1, 2, 3, 4, 5, 6, 7, 8, 9, 10, 11, 12, 13, 14, 15, 16, 17, 18] 19 [(.int .i64 (.ofNat 1), .fn (Go.Fn.func 41) [] []), (.int .i64 (.ofNat 2), .fn (Go.Fn.func 42) [] []), (.int .i64 (.ofNat 3), .fn (Go.Fn.func 43) [] []), (.int .i64 (.ofNat 4), .fn (Go.Fn.func 44) [] []), (.int .i64 (.ofNat 5), .fn (Go.Fn.func 45) [] []), (.int .i64 (.ofNat 6), .fn (Go.Fn.func 46) [] []), (.int .i64 (.ofNat 7), .fn (Go.Fn.func 47) [] []), (.int .i64 (.ofNat 8), .fn (Go.Fn.func 48) [] []), (.int .i64 (.ofNat 9), .fn (Go.Fn.func 49) [] []), (.int .i64 (.ofNat 10), .fn (Go.Fn.func 50) [] []), (.int .i64 (.ofNat 11), .fn (Go.Fn.func 51) [] []), (.int .i64 (.ofNat 12), .fn (Go.Fn.func 52) [] []), (.int .i64 (.ofNat 13), .fn (Go.Fn.func 53) [] []), (.int .i64 (.ofNat 14), .fn (Go.Fn.func 54) [] []), (.int .i64 (.ofNat 15), .fn (Go.Fn.func 55) [] []), (.int .i64 (.ofNat 16), .fn (Go.Fn.func 56) [] []), (.int .i64 (.ofNat 17), .fn (Go.Fn.func 57) [] []), (.int .i64 (.ofNat 18), .fn (Go.Fn.func 58) [] []), (.int .i64 (.ofNat 19), .fn (Go.Fn.func 59) [] [])])
def kT8 : Nat × Blk := (12, .row [.str 1 97, .slc 16 0 1 1 false 12, .nils, .nils, .slc 15 0 1 1 false 12, .int .i64 (.ofNat 46), .str 1 98, .slc 14 0 1 1 false 12, .nils, .nils, .slc 13 0 1 1 false 12, .int .i64 (.ofNat 97)] 163 true [])
def kT9 : Nat × Blk := (1049266, .row [.map 1049264, .map 1049265, .nilp] 98 true [])
def kT10 : Nat × Blk := (1049274, .map [] 0 [])
def kT11 : Nat × Blk := (1049472, .row [.ptr 1049273 0] 101 true [])
def kT12 : Nat × Blk := (1049467, .row [.ptr 1049280 0] 189 true [])
def kT13 : Nat × Blk := (16, .row [.int .i64 (.ofNat 2), .int .i64 (.ofNat 0), .str 1 99, .int .i64 (.ofNat 0), .int .i64 (.ofNat 0), .int .i64 (.ofNat 0), .int .i64 (.ofNat 0), .nils, .int .i64 (.ofNat 61), .str 1 98, .bool false, .int .i64 (.ofNat 61)] 165 true [])
def kT14 : Nat × Blk := (15, .row [.slc 20 0 1 1 true 1, .int .i64 (.ofNat 8), .int .i64 (.ofNat 0), .str 0 0, .int .i64 (.ofNat 0), .int .i64 (.ofNat 0), .int .i64 (.ofNat 0), .int .i64 (.ofNat 0), .slc 19 0 2 2 true 9, .int .i64 (.ofNat 78), .nils, .int .i64 (.ofNat 74)] 160 true [])
def kT15 : Nat × Blk := (14, .row [.int .i64 (.ofNat 2), .int .i64 (.ofNat 0), .str 1 99, .int .i64 (.ofNat 0), .int .i64 (.ofNat 0), .int .i64 (.ofNat 0), .int .i64 (.ofNat 0), .nils, .int .i64 (.ofNat 112), .str 1 97, .bool false, .int .i64 (.ofNat 112)] 165 true [])
def kT16 : Nat × Blk := (13, .row [.slc 18 0 1 1 true 1, .int .i64 (.ofNat 8), .int .i64 (.ofNat 0), .str 0 0, .int .i64 (.ofNat 0), .int .i64 (.ofNat 0), .int .i64 (.ofNat 0), .int .i64 (.ofNat 0), .slc 17 0 2 2 true 9, .int .i64 (.ofNat 129), .nils, .int .i64 (.ofNat 125)] 160 true [])
def kT17 : Nat × Blk := (1049264, .map [0, 1] 2 [(.str 1 99, .ptr 1049270 0), (.str 1 121, .ptr 1049273 0)])
def kT18 : Nat × Blk := (1049265, .map [0, 1] 2 [(.str 1 99, .agg [.str 1 99, .int .i64 (.ofNat 1), .int .i64 (.ofNat 0), .nils, .int .i64 (.ofNat 7)]), (.str 1 121, .agg [.str 1 121, .int .i64 (.ofNat 6), .int .i64 (.ofNat 0), .nils, .int .i64 (.ofNat 25)])])
def kT19 : Nat × Blk := (1049273, .row [.slc 1049272 0 1 1 true 1, .bool false, .int .i64 (.ofNat 0), .fn (Go.Fn.func 228) [] [.ptr 1049281 0, .ptr 1049277 0, .ptr 1049469 0, .ptr 1049470 0]] 110 true [])
def kT20 : Nat × Blk := (1049280, .row [.ptr 1049275 0, .nils, .int .i64 (.ofNat 0), .int .i64 (.ofNat 0), .str 0 0, .int .i64 (.ofNat 0), .int .i64 (.ofNat 0), .int .i64 (.ofNat 0), .int .i64 (.ofNat 0), .nils, .int .i64 (.ofNat 0), .slc 12 0 2 2 false 6, .int .i64 (.ofNat 36), .int .i64 (.ofNat 0), .bool false, .slc 1049279 0 2 2 true 1, .slc 1049388 0 2 2 false 1, .int .i64 (.ofNat 0)] 193 true [])
def kT21 : Nat × Blk := (20, .row [.str 1 121] 9 true [])
def kT22 : Nat × Blk := (19, .row [.int .i64 (.ofNat 1), .int .i64 (.ofNat 0), .str 0 0, .int .i64 (.ofNat 6), .int .i64 (.ofNat 0), .int .i64 (.ofNat 0), .int .i64 (.ofNat 0), .nils, .int .i64 (.ofNat 78), .int .i64 (.ofNat 4), .int .i64 (.ofNat 3), .str 0 0, .int .i64 (.ofNat 0), .int .i64 (.ofNat 0), .int .i64 (.ofNat 0), .int .i64 (.ofNat 0), .slc 22 0 2 2 true 9, .int .i64 (.ofNat 87)] 157 true [])
def kT23 : Nat × Blk := (18, .row [.str 1 121] 9 true [])
def kT24 : Nat × Blk := (17, .row [.int .i64 (.ofNat 1), .int .i64 (.ofNat 0), .str 0 0, .int .i64 (.ofNat 6), .int .i64 (.ofNat 0), .int .i64 (.ofNat 100), .int .i64 (.ofNat 0), .nils, .int .i64 (.ofNat 129), .int .i64 (.ofNat 4), .int .i64 (.ofNat 3), .str 0 0, .int .i64 (.ofNat 0), .int .i64 (.ofNat 0), .int .i64 (.ofNat 0), .int .i64 (.ofNat 0), .slc 21 0 2 2 true 9, .int .i64 (.ofNat 140)] 157 true [])
def kT25 : Nat × Blk := (1049270, .row [.slc 1049269 0 1 1 true 1, .bool false, .int .i64 (.ofNat 0), .fn (Go.Fn.func 122) [] []] 110 true [])
def kT26 : Nat × Blk := (1049272, .row [.int .i64 (.ofNat 0)] 3 true [])
def kT27 : Nat × Blk := (1049281, .row [.ptr 1049280 0] 189 true [])
def kT28 : Nat × Blk := (1049277, .row [.ptr 1049275 0] 89 true [])
def kT29 : Nat × Blk := (1049469, .row [.str 1 121] 9 true [])
def kT30 : Nat × Blk := (1049470, .row [.ptr 1049273 0] 101 true [])
def kT31 : Nat × Blk := (1049279, .row [.ptr 1049302 0, .ptr 1049394 0] 89 true [])
def kT32 : Nat × Blk := (1049388, .row [.slc 1049294 0 1 1 false 1, .slc 1049386 0 1 1 false 1] 106 true [1049296])
def kT33 : Nat × Blk := (22, .row [.int .i64 (.ofNat 2), .int .i64 (.ofNat 0), .str 1 121, .int .i64 (.ofNat 0), .int .i64 (.ofNat 0), .int .i64 (.ofNat 0), .int .i64 (.ofNat 0), .nils, .int .i64 (.ofNat 87), .int .i64 (.ofNat 1), .int .i64 (.ofNat 0), .str 0 0, .int .i64 (.ofNat 6), .int .i64 (.ofNat 0), .int .i64 (.ofNat 1), .int .i64 (.ofNat 0), .nils, .int .i64 (.ofNat 91)] 157 true [])
def kT34 : Nat × Blk := (21, .row [.int .i64 (.ofNat 2), .int .i64 (.ofNat 0), .str 1 121, .int .i64 (.ofNat 0), .int .i64 (.ofNat 0), .int .i64 (.ofNat 0), .int .i64 (.ofNat 0), .nils, .int .i64 (.ofNat 140), .int .i64 (.ofNat 1), .int .i64 (.ofNat 0), .str 0 0, .int .i64 (.ofNat 6), .int .i64 (.ofNat 0), .int .i64 (.ofNat 1), .int .i64 (.ofNat 0), .nils, .int .i64 (.ofNat 144)] 157 true [])
def kT35 : Nat × Blk := (1049269, .row [.int .i64 (.ofNat 0)] 3 true [])
def kT36 : Nat × Blk := (1049302, .row [.ptr 1049263 0, .ptr 1049300 0, .map 1049301, .slc 1049373 0 1 1 false 1, .nils, .nils] 108 true [])
def kT37 : Nat × Blk := (1049394, .row [.ptr 1049263 0, .ptr 1049392 0, .map 1049393, .slc 1049465 0 1 1 false 1, .nils, .nils] 108 true [])
def kT38 : Nat × Blk := (1049294, .row [.fn (Go.Fn.func 270) [] [.ptr 1049292 0]] 23 true [])
def kT39 : Nat × Blk := (1049386, .row [.fn (Go.Fn.func 270) [] [.ptr 1049384 0]] 23 true [])
def kT40 : Nat × Blk := (1049300, .row [.map 1049298, .map 1049299, .ptr 1049266 0] 98 true [])
def kT41 : Nat × Blk := (1049301, .map [0] 1 [(.str 1 121, .ptr 1049367 0)])
def kT42 : Nat × Blk := (1049373, .row [.ptr 1049367 0] 101 true [])
def kT43 : Nat × Blk := (1049392, .row [.map 1049390, .map 1049391, .ptr 1049266 0] 98 true [])
def kT44 : Nat × Blk := (1049393, .map [0] 1 [(.str 1 121, .ptr 1049459 0)])
def kT45 : Nat × Blk := (1049465, .row [.ptr 1049459 0] 101 true [])
def kT46 : Nat × Blk := (1049292, .row [.fn (Go.Fn.func 89) [] [.ptr 1049286 0, .ptr 1049290 0], .int .i64 (.ofNat 1)] 171 true [])
def kT47 : Nat × Blk := (1049384, .row [.fn (Go.Fn.func 89) [] [.ptr 1049378 0, .ptr 1049382 0], .int .i64 (.ofNat 1)] 171 true [])
def kT48 : Nat × Blk := (1049298, .map [] 0 [])
def kT49 : Nat × Blk := (1049299, .map [] 0 [])
def kT50 : Nat × Blk := (1049367, .row [.slc 1049366 0 1 1 true 1, .bool false, .int .i64 (.ofNat 0), .fn (Go.Fn.func 229) [] [.ptr 1049361 0, .ptr 1049304 0, .ptr 1049307 0, .ptr 1049360 0, .ptr 1049362 0, .ptr 1049363 0]] 110 true [])
def kT51 : Nat × Blk := (1049390, .map [] 0 [])
def kT52 : Nat × Blk := (1049391, .map [] 0 [])
def kT53 : Nat × Blk := (1049459, .row [.slc 1049458 0 1 1 true 1, .bool false, .int .i64 (.ofNat 0), .fn (Go.Fn.func 229) [] [.ptr 1049453 0, .ptr 1049396 0, .ptr 1049399 0, .ptr 1049452 0, .ptr 1049454 0, .ptr 1049455 0]] 110 true [])
def kT54 : Nat × Blk := (1049286, .row [.ptr 1049275 0] 89 true [])
def kT55 : Nat × Blk := (1049290, .row [.ptr 1049270 0] 101 true [])
def kT56 : Nat × Blk := (1049378, .row [.ptr 1049275 0] 89 true [])
def kT57 : Nat × Blk := (1049382, .row [.ptr 1049270 0] 101 true [])
def kT58 : Nat × Blk := (1049366, .row [.int .i64 (.ofNat 0)] 3 true [])
def kT59 : Nat × Blk := (1049361, .row [.int .i64 (.ofNat 0)] 3 true [])
def kT60 : Nat × Blk := (1049304, .row [.ptr 1049302 0] 89 true [])
def kT61 : Nat × Blk := (1049307, .row [.str 1 121, .int .i64 (.ofNat 6), .int .i64 (.ofNat 0), .nils, .int .i64 (.ofNat 25)] 85 true [])
def kT62 : Nat × Blk := (1049360, .row [.fn (Go.Fn.func 101) [] [.ptr 1049358 0, .ptr 1049359 0, .ptr 1049310 0], .int .i64 (.ofNat 6)] 171 true [])
def kT63 : Nat × Blk := (1049362, .row [.slc 1049369 0 1 1 false 1] 104 true [])
def kT64 : Nat × Blk := (1049363, .row [.slc 1049371 0 1 1 false 1] 22 true [])
def kT65 : Nat × Blk := (1049458, .row [.int .i64 (.ofNat 0)] 3 true [])
def kT66 : Nat × Blk := (1049453, .row [.int .i64 (.ofNat 0)] 3 true [])
def kT67 : Nat × Blk := (1049396, .row [.ptr 1049394 0] 89 true [])
def kT68 : Nat × Blk := (1049399, .row [.str 1 121, .int .i64 (.ofNat 6), .int .i64 (.ofNat 0), .nils, .int .i64 (.ofNat 25)] 85 true [])
def kT69 : Nat × Blk := (1049452, .row [.fn (Go.Fn.func 101) [] [.ptr 1049450 0, .ptr 1049451 0, .ptr 1049402 0], .int .i64 (.ofNat 6)] 171 true [])
def kT70 : Nat × Blk := (1049454, .row [.slc 1049461 0 1 1 false 1] 104 true [])
def kT71 : Nat × Blk := (1049455, .row [.slc 1049463 0 1 1 false 1] 22 true [])
def kT72 : Nat × Blk := (1049358, .row [.slc 1049357 0 2 2 false 2] 174 true [])
def kT73 : Nat × Blk := (1049359, .row [.nils] 67 true [])
def kT74 : Nat × Blk := (1049310, .row [.ptr 1049302 0] 89 true [])
def kT75 : Nat × Blk := (1049369, .row [.ptr 1049367 0] 101 true [])
def kT76 : Nat × Blk := (1049371, .row [.int .i64 (.ofNat 1)] 3 true [])
def kT77 : Nat × Blk := (1049450, .row [.slc 1049449 0 2 2 false 2] 174 true [])
def kT78 : Nat × Blk := (1049451, .row [.nils] 67 true [])
def kT79 : Nat × Blk := (1049402, .row [.ptr 1049394 0] 89 true [])
def kT80 : Nat × Blk := (1049461, .row [.ptr 1049459 0] 101 true [])
def kT81 : Nat × Blk := (1049463, .row [.int .i64 (.ofNat 1)] 3 true [])
def kT82 : Nat × Blk := (1049357, .row [.fn (Go.Fn.func 88) [] [.ptr 1049317 0], .int .i64 (.ofNat 6), .fn (Go.Fn.func 95) [] [.ptr 1049345 0, .ptr 1049324 0], .int .i64 (.ofNat 6)] 171 true [1049320])
def kT83 : Nat × Blk := (1049449, .row [.fn (Go.Fn.func 88) [] [.ptr 1049409 0], .int .i64 (.ofNat 6), .fn (Go.Fn.func 95) [] [.ptr 1049437 0, .ptr 1049416 0], .int .i64 (.ofNat 6)] 171 true [1049412])
def kT84 : Nat × Blk := (1049317, .row [.int .i64 (.ofNat 1), .int .i64 (.ofNat 0), .str 0 0, .int .i64 (.ofNat 6), .int .i64 (.ofNat 0), .int .i64 (.ofNat 0), .int .i64 (.ofNat 0), .nils, .int .i64 (.ofNat 78)] 157 true [])
def kT85 : Nat × Blk := (1049345, .row [.slc 1049344 0 2 2 false 2] 174 true [])
def kT86 : Nat × Blk := (1049324, .row [.int .i64 (.ofNat 4), .int .i64 (.ofNat 3), .str 0 0, .int .i64 (.ofNat 0), .int .i64 (.ofNat 0), .int .i64 (.ofNat 0), .int .i64 (.ofNat 0), .slc 22 0 2 2 true 9, .int .i64 (.ofNat 87)] 157 true [])
def kT87 : Nat × Blk := (1049409, .row [.int .i64 (.ofNat 1), .int .i64 (.ofNat 0), .str 0 0, .int .i64 (.ofNat 6), .int .i64 (.ofNat 0), .int .i64 (.ofNat 100), .int .i64 (.ofNat 0), .nils, .int .i64 (.ofNat 129)] 157 true [])
def kT88 : Nat × Blk := (1049437, .row [.slc 1049436 0 2 2 false 2] 174 true [])
def kT89 : Nat × Blk := (1049416, .row [.int .i64 (.ofNat 4), .int .i64 (.ofNat 3), .str 0 0, .int .i64 (.ofNat 0), .int .i64 (.ofNat 0), .int .i64 (.ofNat 0), .int .i64 (.ofNat 0), .slc 21 0 2 2 true 9, .int .i64 (.ofNat 140)] 157 true [])
def kT90 : Nat × Blk := (1049344, .row [.fn (Go.Fn.func 89) [] [.ptr 1049330 0, .ptr 1049334 0], .int .i64 (.ofNat 6), .fn (Go.Fn.func 88) [] [.ptr 1049341 0], .int .i64 (.ofNat 6)] 171 true [1049337])
def kT91 : Nat × Blk := (1049436, .row [.fn (Go.Fn.func 89) [] [.ptr 1049422 0, .ptr 1049426 0], .int .i64 (.ofNat 6), .fn (Go.Fn.func 88) [] [.ptr 1049433 0], .int .i64 (.ofNat 6)] 171 true [1049429])
def kT92 : Nat × Blk := (1049330, .row [.ptr 1049302 0] 89 true [])
def kT93 : Nat × Blk := (1049334, .row [.ptr 1049273 0] 101 true [])
def kT94 : Nat × Blk := (1049341, .row [.int .i64 (.ofNat 1), .int .i64 (.ofNat 0), .str 0 0, .int .i64 (.ofNat 6), .int .i64 (.ofNat 0), .int .i64 (.ofNat 1), .int .i64 (.ofNat 0), .nils, .int .i64 (.ofNat 91)] 157 true [])
def kT95 : Nat × Blk := (1049422, .row [.ptr 1049394 0] 89 true [])
def kT96 : Nat × Blk := (1049426, .row [.ptr 1049273 0] 101 true [])
def kT97 : Nat × Blk := (1049433, .row [.int .i64 (.ofNat 1), .int .i64 (.ofNat 0), .str 0 0, .int .i64 (.ofNat 6), .int .i64 (.ofNat 0), .int .i64 (.ofNat 1), .int .i64 (.ofNat 0), .nils, .int .i64 (.ofNat 144)] 157 true [])
def kT98 (x0 : Int) : Nat × Blk := (1049263, .row [.ptr 1049261 0, .int .i64 x0, .nils, .str 1 102, .slc 11 0 1 1 false 5, .slc 10 0 1 1 false 5, .nils, .slc 9 0 1 1 false 12, .int .i64 (.ofNat 0), .ptr 1049275 0] 94 true [])
def kT99 (x0 : Int) : Nat × Blk := (1049273, .row [.slc 1049474 0 1 1 true 1, .bool true, .int .i64 x0, .fn (Go.Fn.func 228) [] [.ptr 1049281 0, .ptr 1049277 0, .ptr 1049469 0, .ptr 1049470 0]] 110 true [])
def kT100 (x0 : Int) : Nat × Blk := (1049280, .row [.ptr 1049275 0, .nils, .int .i64 (.ofNat 0), .int .i64 (.ofNat 0), .str 0 0, .int .i64 (.ofNat 0), .int .i64 (.ofNat 0), .int .i64 (.ofNat 0), .int .i64 (.ofNat 0), .nils, .int .i64 (.ofNat 0), .slc 12 0 2 2 false 6, .int .i64 (.ofNat 36), .int .i64 (.ofNat 0), .bool false, .slc 1049279 0 2 2 true 1, .slc 1049388 0 2 2 false 1, .int .i64 x0] 193 true [])
def kT101 (x0 : Int) : Nat × Blk := (1049270, .row [.slc 1049475 0 1 1 true 1, .bool true, .int .i64 x0, .fn (Go.Fn.func 122) [] []] 110 true [])
def kT102 (x0 : Int) : Nat × Blk := (1049474, .row [.int .i64 x0] 3 true [])
def kT103 : Nat × Blk := (1049388, .row [.slc 1049294 0 1 1 false 1, .slc 1049386 0 1 1 false 1] 106 true [])
def kT104 : Nat × Blk := (1049475, .row [.int .i64 (.ofNat 0)] 3 true [])
def kT105 (x0 : Int) : Nat × Blk := (1049367, .row [.slc 1049474 0 1 1 true 1, .bool true, .int .i64 x0, .fn (Go.Fn.func 229) [] [.ptr 1049361 0, .ptr 1049304 0, .ptr 1049307 0, .ptr 1049360 0, .ptr 1049362 0, .ptr 1049363 0]] 110 true [])
def kT106 (x0 : Int) : Nat × Blk := (1049361, .row [.int .i64 x0] 3 true [])
def kT107 : Nat × Blk := (1049359, .row [.slc 1049476 0 1 1 true 1] 67 true [])
def kT108 : Nat × Blk := (1049357, .row [.fn (Go.Fn.func 88) [] [.ptr 1049317 0], .int .i64 (.ofNat 6), .fn (Go.Fn.func 95) [] [.ptr 1049345 0, .ptr 1049324 0], .int .i64 (.ofNat 6)] 171 true [])
def kT109 (x0 : Int) : Nat × Blk := (1049476, .row [.int .i64 x0] 3 true [])
def kT110 : Nat × Blk := (1049449, .row [.fn (Go.Fn.func 88) [] [.ptr 1049409 0], .int .i64 (.ofNat 6), .fn (Go.Fn.func 95) [] [.ptr 1049437 0, .ptr 1049416 0], .int .i64 (.ofNat 6)] 171 true [])
def kT111 : Nat × Blk := (1049344, .row [.fn (Go.Fn.func 89) [] [.ptr 1049330 0, .ptr 1049334 0], .int .i64 (.ofNat 6), .fn (Go.Fn.func 88) [] [.ptr 1049341 0], .int .i64 (.ofNat 6)] 171 true [])
def kT112 : Nat × Blk := (1049436, .row [.fn (Go.Fn.func 89) [] [.ptr 1049422 0, .ptr 1049426 0], .int .i64 (.ofNat 6), .fn (Go.Fn.func 88) [] [.ptr 1049433 0], .int .i64 (.ofNat 6)] 171 true [])
def kT113 (x0 : Int) : Nat × Blk := (1049280, .row [.ptr 1049275 0, .nils, .int .i64 (.ofNat 0), .int .i64 (.ofNat 0), .str 0 0, .int .i64 (.ofNat 0), .int .i64 (.ofNat 0), .int .i64 (.ofNat 0), .int .i64 (.ofNat 0), .nils, .int .i64 (.ofNat 0), .slc 12 0 2 2 false 6, .int .i64 (.ofNat 36), .int .i64 (.ofNat 1), .bool false, .slc 1049279 0 2 2 true 1, .slc 1049388 0 2 2 false 1, .int .i64 x0] 193 true [])
def kT114 : Nat × Blk := (1049279, .row [.ptr 1049302 0, .ptr 1049476 0] 89 true [])
def kT115 (x0 : Int) : Nat × Blk := (1049475, .row [.int .i64 x0] 3 true [])
def kT116 : Nat × Blk := (1049476, .row [.ptr 1049263 0, .ptr 1049477 0, .map 1049478, .slc 1049479 0 1 1 false 1, .nils, .nils] 108 true [])
def kT117 : Nat × Blk := (1049477, .row [.map 1049480, .map 1049481, .ptr 1049266 0] 98 true [])
def kT118 : Nat × Blk := (1049478, .map [0] 1 [(.str 1 121, .ptr 1049482 0)])
def kT119 : Nat × Blk := (1049479, .row [.ptr 1049482 0] 101 true [])
def kT120 (x0 : Int) : Nat × Blk := (1049367, .row [.slc 1049483 0 1 1 true 1, .bool true, .int .i64 x0, .fn (Go.Fn.func 229) [] [.ptr 1049361 0, .ptr 1049304 0, .ptr 1049307 0, .ptr 1049360 0, .ptr 1049362 0, .ptr 1049363 0]] 110 true [])
def kT121 : Nat × Blk := (1049480, .map [] 0 [])
def kT122 : Nat × Blk := (1049481, .map [] 0 [])
def kT123 (x0 : Int) : Nat × Blk := (1049482, .row [.slc 1049474 0 1 1 true 1, .bool true, .int .i64 x0, .fn (Go.Fn.func 229) [] [.ptr 1049484 0, .ptr 1049485 0, .ptr 1049486 0, .ptr 1049487 0, .ptr 1049488 0, .ptr 1049489 0]] 110 true [])
def kT124 (x0 : Int) : Nat × Blk := (1049483, .row [.int .i64 x0] 3 true [])
def kT125 (x0 : Int) : Nat × Blk := (1049484, .row [.int .i64 x0] 3 true [])
def kT126 : Nat × Blk := (1049485, .row [.ptr 1049476 0] 89 true [])
def kT127 : Nat × Blk := (1049486, .row [.str 1 121, .int .i64 (.ofNat 6), .int .i64 (.ofNat 0), .nils, .int .i64 (.ofNat 25)] 85 true [])
def kT128 : Nat × Blk := (1049487, .row [.fn (Go.Fn.func 101) [] [.ptr 1049490 0, .ptr 1049491 0, .ptr 1049492 0], .int .i64 (.ofNat 6)] 171 true [])
def kT129 : Nat × Blk := (1049488, .row [.slc 1049493 0 1 1 false 1] 104 true [])
def kT130 : Nat × Blk := (1049489, .row [.slc 1049494 0 1 1 false 1] 22 true [])
def kT131 : Nat × Blk := (1049359, .row [.slc 1049495 0 1 1 true 1] 67 true [])
def kT132 : Nat × Blk := (1049490, .row [.slc 1049496 0 2 2 false 2] 174 true [])
def kT133 : Nat × Blk := (1049491, .row [.slc 1049497 0 1 1 true 1] 67 true [])
def kT134 : Nat × Blk := (1049492, .row [.ptr 1049476 0] 89 true [])
def kT135 : Nat × Blk := (1049493, .row [.ptr 1049482 0] 101 true [])
def kT136 : Nat × Blk := (1049494, .row [.int .i64 (.ofNat 1)] 3 true [])
def kT137 (x0 : Int) : Nat × Blk := (1049495, .row [.int .i64 x0] 3 true [])
def kT138 : Nat × Blk := (1049496, .row [.fn (Go.Fn.func 88) [] [.ptr 1049498 0], .int .i64 (.ofNat 6), .fn (Go.Fn.func 95) [] [.ptr 1049499 0, .ptr 1049500 0], .int .i64 (.ofNat 6)] 171 true [])
def kT139 (x0 : Int) : Nat × Blk := (1049497, .row [.int .i64 x0] 3 true [])
def kT140 : Nat × Blk := (1049498, .row [.int .i64 (.ofNat 1), .int .i64 (.ofNat 0), .str 0 0, .int .i64 (.ofNat 6), .int .i64 (.ofNat 0), .int .i64 (.ofNat 100), .int .i64 (.ofNat 0), .nils, .int .i64 (.ofNat 129)] 157 true [])
def kT141 : Nat × Blk := (1049499, .row [.slc 1049501 0 2 2 false 2] 174 true [])
def kT142 : Nat × Blk := (1049500, .row [.int .i64 (.ofNat 4), .int .i64 (.ofNat 3), .str 0 0, .int .i64 (.ofNat 0), .int .i64 (.ofNat 0), .int .i64 (.ofNat 0), .int .i64 (.ofNat 0), .slc 21 0 2 2 true 9, .int .i64 (.ofNat 140)] 157 true [])
def kT143 : Nat × Blk := (1049501, .row [.fn (Go.Fn.func 89) [] [.ptr 1049502 0, .ptr 1049503 0], .int .i64 (.ofNat 6), .fn (Go.Fn.func 88) [] [.ptr 1049504 0], .int .i64 (.ofNat 6)] 171 true [])
def kT144 : Nat × Blk := (1049502, .row [.ptr 1049476 0] 89 true [])
def kT145 : Nat × Blk := (1049503, .row [.ptr 1049273 0] 101 true [])
def kT146 : Nat × Blk := (1049504, .row [.int .i64 (.ofNat 1), .int .i64 (.ofNat 0), .str 0 0, .int .i64 (.ofNat 6), .int .i64 (.ofNat 0), .int .i64 (.ofNat 1), .int .i64 (.ofNat 0), .nils, .int .i64 (.ofNat 144)] 157 true [])
def kT147 : Nat × Blk := (1049279, .row [.ptr 1049476 0, .ptr 1049477 0] 89 true [])
def kT148 : Nat × Blk := (1049476, .row [.ptr 1049263 0, .ptr 1049478 0, .map 1049479, .slc 1049480 0 1 1 false 1, .nils, .nils] 108 true [])
def kT149 : Nat × Blk := (1049477, .row [.ptr 1049263 0, .ptr 1049481 0, .map 1049482, .slc 1049483 0 1 1 false 1, .nils, .nils] 108 true [])
def kT150 : Nat × Blk := (1049478, .row [.map 1049484, .map 1049485, .ptr 1049266 0] 98 true [])
def kT151 : Nat × Blk := (1049479, .map [0] 1 [(.str 1 121, .ptr 1049486 0)])
def kT152 : Nat × Blk := (1049480, .row [.ptr 1049486 0] 101 true [])
def kT153 : Nat × Blk := (1049481, .row [.map 1049487, .map 1049488, .ptr 1049266 0] 98 true [])
def kT154 : Nat × Blk := (1049482, .map [0] 1 [(.str 1 121, .ptr 1049489 0)])
def kT155 : Nat × Blk := (1049483, .row [.ptr 1049489 0] 101 true [])
def kT156 : Nat × Blk := (1049484, .map [] 0 [])
def kT157 : Nat × Blk := (1049485, .map [] 0 [])
def kT158 (x0 : Int) : Nat × Blk := (1049486, .row [.slc 1049474 0 1 1 true 1, .bool true, .int .i64 x0, .fn (Go.Fn.func 229) [] [.ptr 1049490 0, .ptr 1049491 0, .ptr 1049492 0, .ptr 1049493 0, .ptr 1049494 0, .ptr 1049495 0]] 110 true [])
def kT159 : Nat × Blk := (1049487, .map [] 0 [])
def kT160 : Nat × Blk := (1049488, .map [] 0 [])
def kT161 (x0 : Int) : Nat × Blk := (1049489, .row [.slc 1049496 0 1 1 true 1, .bool true, .int .i64 x0, .fn (Go.Fn.func 229) [] [.ptr 1049497 0, .ptr 1049498 0, .ptr 1049499 0, .ptr 1049500 0, .ptr 1049501 0, .ptr 1049502 0]] 110 true [])
def kT162 (x0 : Int) : Nat × Blk := (1049490, .row [.int .i64 x0] 3 true [])
def kT163 : Nat × Blk := (1049491, .row [.ptr 1049476 0] 89 true [])
def kT164 : Nat × Blk := (1049492, .row [.str 1 121, .int .i64 (.ofNat 6), .int .i64 (.ofNat 0), .nils, .int .i64 (.ofNat 25)] 85 true [])
def kT165 : Nat × Blk := (1049493, .row [.fn (Go.Fn.func 101) [] [.ptr 1049503 0, .ptr 1049504 0, .ptr 1049505 0], .int .i64 (.ofNat 6)] 171 true [])
def kT166 : Nat × Blk := (1049494, .row [.slc 1049506 0 1 1 false 1] 104 true [])
def kT167 : Nat × Blk := (1049495, .row [.slc 1049507 0 1 1 false 1] 22 true [])
def kT168 (x0 : Int) : Nat × Blk := (1049496, .row [.int .i64 x0] 3 true [])
def kT169 : Nat × Blk := (1049498, .row [.ptr 1049477 0] 89 true [])
def kT170 : Nat × Blk := (1049499, .row [.str 1 121, .int .i64 (.ofNat 6), .int .i64 (.ofNat 0), .nils, .int .i64 (.ofNat 25)] 85 true [])
def kT171 : Nat × Blk := (1049500, .row [.fn (Go.Fn.func 101) [] [.ptr 1049508 0, .ptr 1049509 0, .ptr 1049510 0], .int .i64 (.ofNat 6)] 171 true [])
def kT172 : Nat × Blk := (1049501, .row [.slc 1049511 0 1 1 false 1] 104 true [])
def kT173 : Nat × Blk := (1049502, .row [.slc 1049512 0 1 1 false 1] 22 true [])
def kT174 : Nat × Blk := (1049503, .row [.slc 1049513 0 2 2 false 2] 174 true [])
def kT175 : Nat × Blk := (1049504, .row [.slc 1049514 0 1 1 true 1] 67 true [])
def kT176 : Nat × Blk := (1049505, .row [.ptr 1049476 0] 89 true [])
def kT177 : Nat × Blk := (1049506, .row [.ptr 1049486 0] 101 true [])
def kT178 : Nat × Blk := (1049507, .row [.int .i64 (.ofNat 1)] 3 true [])
def kT179 : Nat × Blk := (1049508, .row [.slc 1049515 0 2 2 false 2] 174 true [])
def kT180 : Nat × Blk := (1049509, .row [.slc 1049516 0 1 1 true 1] 67 true [])
def kT181 : Nat × Blk := (1049510, .row [.ptr 1049477 0] 89 true [])
def kT182 : Nat × Blk := (1049511, .row [.ptr 1049489 0] 101 true [])
def kT183 : Nat × Blk := (1049512, .row [.int .i64 (.ofNat 1)] 3 true [])
def kT184 : Nat × Blk := (1049513, .row [.fn (Go.Fn.func 88) [] [.ptr 1049517 0], .int .i64 (.ofNat 6), .fn (Go.Fn.func 95) [] [.ptr 1049518 0, .ptr 1049519 0], .int .i64 (.ofNat 6)] 171 true [])
def kT185 (x0 : Int) : Nat × Blk := (1049514, .row [.int .i64 x0] 3 true [])
def kT186 : Nat × Blk := (1049515, .row [.fn (Go.Fn.func 88) [] [.ptr 1049520 0], .int .i64 (.ofNat 6), .fn (Go.Fn.func 95) [] [.ptr 1049521 0, .ptr 1049522 0], .int .i64 (.ofNat 6)] 171 true [])
def kT187 (x0 : Int) : Nat × Blk := (1049516, .row [.int .i64 x0] 3 true [])
def kT188 : Nat × Blk := (1049517, .row [.int .i64 (.ofNat 1), .int .i64 (.ofNat 0), .str 0 0, .int .i64 (.ofNat 6), .int .i64 (.ofNat 0), .int .i64 (.ofNat 0), .int .i64 (.ofNat 0), .nils, .int .i64 (.ofNat 78)] 157 true [])
def kT189 : Nat × Blk := (1049518, .row [.slc 1049523 0 2 2 false 2] 174 true [])
def kT190 : Nat × Blk := (1049519, .row [.int .i64 (.ofNat 4), .int .i64 (.ofNat 3), .str 0 0, .int .i64 (.ofNat 0), .int .i64 (.ofNat 0), .int .i64 (.ofNat 0), .int .i64 (.ofNat 0), .slc 22 0 2 2 true 9, .int .i64 (.ofNat 87)] 157 true [])
def kT191 : Nat × Blk := (1049520, .row [.int .i64 (.ofNat 1), .int .i64 (.ofNat 0), .str 0 0, .int .i64 (.ofNat 6), .int .i64 (.ofNat 0), .int .i64 (.ofNat 100), .int .i64 (.ofNat 0), .nils, .int .i64 (.ofNat 129)] 157 true [])
def kT192 : Nat × Blk := (1049521, .row [.slc 1049524 0 2 2 false 2] 174 true [])
def kT193 : Nat × Blk := (1049522, .row [.int .i64 (.ofNat 4), .int .i64 (.ofNat 3), .str 0 0, .int .i64 (.ofNat 0), .int .i64 (.ofNat 0), .int .i64 (.ofNat 0), .int .i64 (.ofNat 0), .slc 21 0 2 2 true 9, .int .i64 (.ofNat 140)] 157 true [])
def kT194 : Nat × Blk := (1049523, .row [.fn (Go.Fn.func 89) [] [.ptr 1049525 0, .ptr 1049526 0], .int .i64 (.ofNat 6), .fn (Go.Fn.func 88) [] [.ptr 1049527 0], .int .i64 (.ofNat 6)] 171 true [])
def kT195 : Nat × Blk := (1049524, .row [.fn (Go.Fn.func 89) [] [.ptr 1049528 0, .ptr 1049529 0], .int .i64 (.ofNat 6), .fn (Go.Fn.func 88) [] [.ptr 1049530 0], .int .i64 (.ofNat 6)] 171 true [])
def kT196 : Nat × Blk := (1049525, .row [.ptr 1049476 0] 89 true [])
def kT197 : Nat × Blk := (1049526, .row [.ptr 1049273 0] 101 true [])
def kT198 : Nat × Blk := (1049527, .row [.int .i64 (.ofNat 1), .int .i64 (.ofNat 0), .str 0 0, .int .i64 (.ofNat 6), .int .i64 (.ofNat 0), .int .i64 (.ofNat 1), .int .i64 (.ofNat 0), .nils, .int .i64 (.ofNat 91)] 157 true [])
def kT199 : Nat × Blk := (1049528, .row [.ptr 1049477 0] 89 true [])
def kT200 : Nat × Blk := (1049529, .row [.ptr 1049273 0] 101 true [])
def kT201 : Nat × Blk := (1049530, .row [.int .i64 (.ofNat 1), .int .i64 (.ofNat 0), .str 0 0, .int .i64 (.ofNat 6), .int .i64 (.ofNat 0), .int .i64 (.ofNat 1), .int .i64 (.ofNat 0), .nils, .int .i64 (.ofNat 144)] 157 true [])
def kT202 (x0 : Int) : Nat × Blk := (1049486, .row [.slc 1049490 0 1 1 true 1, .bool true, .int .i64 x0, .fn (Go.Fn.func 229) [] [.ptr 1049491 0, .ptr 1049492 0, .ptr 1049493 0, .ptr 1049494 0, .ptr 1049495 0, .ptr 1049496 0]] 110 true [])
def kT203 (x0 : Int) : Nat × Blk := (1049489, .row [.slc 1049474 0 1 1 true 1, .bool true, .int .i64 x0, .fn (Go.Fn.func 229) [] [.ptr 1049497 0, .ptr 1049498 0, .ptr 1049499 0, .ptr 1049500 0, .ptr 1049501 0, .ptr 1049502 0]] 110 true [])
def kT204 (x0 : Int) : Nat × Blk := (1049491, .row [.int .i64 x0] 3 true [])
def kT205 : Nat × Blk := (1049493, .row [.str 1 121, .int .i64 (.ofNat 6), .int .i64 (.ofNat 0), .nils, .int .i64 (.ofNat 25)] 85 true [])
def kT206 : Nat × Blk := (1049494, .row [.fn (Go.Fn.func 101) [] [.ptr 1049503 0, .ptr 1049504 0, .ptr 1049505 0], .int .i64 (.ofNat 6)] 171 true [])
def kT207 : Nat × Blk := (1049495, .row [.slc 1049506 0 1 1 false 1] 104 true [])
def kT208 : Nat × Blk := (1049496, .row [.slc 1049507 0 1 1 false 1] 22 true [])
def kT209 (x0 : Int) : Nat × Blk := (1049482, .row [.slc 1049474 0 1 1 true 1, .bool true, .int .i64 x0, .fn (Go.Fn.func 229) [] [.ptr 1049483 0, .ptr 1049484 0, .ptr 1049485 0, .ptr 1049486 0, .ptr 1049487 0, .ptr 1049488 0]] 110 true [])
def kT210 : Nat × Blk := (1049484, .row [.ptr 1049476 0] 89 true [])
def kT211 : Nat × Blk := (1049485, .row [.str 1 121, .int .i64 (.ofNat 6), .int .i64 (.ofNat 0), .nils, .int .i64 (.ofNat 25)] 85 true [])
def kT212 : Nat × Blk := (1049486, .row [.fn (Go.Fn.func 101) [] [.ptr 1049489 0, .ptr 1049490 0, .ptr 1049491 0], .int .i64 (.ofNat 6)] 171 true [])
def kT213 : Nat × Blk := (1049487, .row [.slc 1049492 0 1 1 false 1] 104 true [])
def kT214 : Nat × Blk := (1049488, .row [.slc 1049493 0 1 1 false 1] 22 true [])
def kT215 : Nat × Blk := (1049489, .row [.slc 1049494 0 2 2 false 2] 174 true [])
def kT216 : Nat × Blk := (1049490, .row [.slc 1049495 0 1 1 true 1] 67 true [])
def kT217 : Nat × Blk := (1049492, .row [.ptr 1049482 0] 101 true [])
def kT218 : Nat × Blk := (1049493, .row [.int .i64 (.ofNat 1)] 3 true [])
def kT219 : Nat × Blk := (1049494, .row [.fn (Go.Fn.func 88) [] [.ptr 1049496 0], .int .i64 (.ofNat 6), .fn (Go.Fn.func 95) [] [.ptr 1049497 0, .ptr 1049498 0], .int .i64 (.ofNat 6)] 171 true [])
def kT220 : Nat × Blk := (1049496, .row [.int .i64 (.ofNat 1), .int .i64 (.ofNat 0), .str 0 0, .int .i64 (.ofNat 6), .int .i64 (.ofNat 0), .int .i64 (.ofNat 100), .int .i64 (.ofNat 0), .nils, .int .i64 (.ofNat 129)] 157 true [])
def kT221 : Nat × Blk := (1049497, .row [.slc 1049499 0 2 2 false 2] 174 true [])
def kT222 : Nat × Blk := (1049498, .row [.int .i64 (.ofNat 4), .int .i64 (.ofNat 3), .str 0 0, .int .i64 (.ofNat 0), .int .i64 (.ofNat 0), .int .i64 (.ofNat 0), .int .i64 (.ofNat 0), .slc 21 0 2 2 true 9, .int .i64 (.ofNat 140)] 157 true [])
def kT223 : Nat × Blk := (1049499, .row [.fn (Go.Fn.func 89) [] [.ptr 1049500 0, .ptr 1049501 0], .int .i64 (.ofNat 6), .fn (Go.Fn.func 88) [] [.ptr 1049502 0], .int .i64 (.ofNat 6)] 171 true [])
def kT224 : Nat × Blk := (1049500, .row [.ptr 1049476 0] 89 true [])
def kT225 : Nat × Blk := (1049501, .row [.ptr 1049273 0] 101 true [])
def kT226 : Nat × Blk := (1049502, .row [.int .i64 (.ofNat 1), .int .i64 (.ofNat 0), .str 0 0, .int .i64 (.ofNat 6), .int .i64 (.ofNat 0), .int .i64 (.ofNat 1), .int .i64 (.ofNat 0), .nils, .int .i64 (.ofNat 144)] 157 true [])
def bT0 : List (Nat × Blk) := [kT0, kT1, kT2, kT3, kT4, kT5, kT6, kT7, kT8, kT9, kT10, kT11, kT12, kT13, kT14, kT15, kT16, kT17, kT18, kT19, kT20, kT21, kT22, kT23, kT24, kT25, kT26, kT27, kT28, kT29, kT30, kT31, kT32, kT33, kT34, kT35, kT36, kT37, kT38, kT39, kT40, kT41, kT42, kT43, kT44, kT45, kT46, kT47, kT48, kT49, kT50, kT51, kT52, kT53, kT54, kT55, kT56, kT57, kT58, kT59, kT60, kT61, kT62, kT63, kT64, kT65, kT66, kT67, kT68, kT69, kT70, kT71, kT72, kT73, kT74, kT75, kT76, kT77, kT78, kT79, kT80, kT81, kT82, kT83, kT84, kT85, kT86, kT87, kT88, kT89, kT90, kT91, kT92, kT93, kT94, kT95, kT96, kT97]
def bT1 (a0 : Int) (a1 : Int) : List (Nat × Blk) := [kT98 a0, kT1, kT2, kT3, kT4, kT5, kT6, kT7, kT8, kT9, kT10, kT11, kT12, kT13, kT14, kT15, kT16, kT17, kT18, kT99 a0, kT100 a0, kT21, kT22, kT23, kT24, kT101 a0, kT102 a1, kT27, kT28, kT29, kT30, kT31, kT103, kT33, kT34, kT104, kT36, kT37, kT38, kT39, kT40, kT41, kT42, kT43, kT44, kT45, kT46, kT47, kT48, kT49, kT105 a0, kT51, kT52, kT53, kT54, kT55, kT56, kT57, kT106 a0, kT60, kT61, kT62, kT63, kT64, kT65, kT66, kT67, kT68, kT69, kT70, kT71, kT72, kT107, kT74, kT75, kT76, kT77, kT78, kT79, kT80, kT81, kT108, kT109 a0, kT110, kT84, kT85, kT86, kT87, kT88, kT89, kT111, kT112, kT92, kT93, kT94, kT95, kT96, kT97]
def bT2 (a0 : Int) (a1 : Int) (a2 : Int) (a3 : Int) (a4 : Int) (a5 : Int) : List (Nat × Blk) := [kT98 a0, kT1, kT2, kT3, kT4, kT5, kT6, kT7, kT8, kT9, kT10, kT11, kT12, kT13, kT14, kT15, kT16, kT17, kT18, kT99 a0, kT113 a0, kT21, kT22, kT23, kT24, kT101 a0, kT102 a1, kT27, kT28, kT29, kT30, kT114, kT103, kT33, kT34, kT115 a2, kT36, kT116, kT38, kT39, kT40, kT41, kT42, kT117, kT118, kT119, kT46, kT47, kT48, kT49, kT120 a3, kT121, kT122, kT123 a0, kT54, kT55, kT56, kT57, kT124 a4, kT106 a3, kT60, kT61, kT62, kT63, kT64, kT125 a0, kT126, kT127, kT128, kT129, kT130, kT72, kT131, kT74, kT75, kT76, kT132, kT133, kT134, kT135, kT136, kT108, kT137 a3, kT138, kT139 a5, kT84, kT85, kT86, kT140, kT141, kT142, kT111, kT143, kT92, kT93, kT94, kT144, kT145, kT146]
def bT3 (a0 : Int) (a1 : Int) (a2 : Int) (a3 : Int) (a4 : Int) (a5 : Int) (a6 : Int) : List (Nat × Blk) := [kT98 a0, kT1, kT2, kT3, kT4, kT5, kT6, kT7, kT8, kT9, kT10, kT11, kT12, kT13, kT14, kT15, kT16, kT17, kT18, kT99 a0, kT100 a0, kT21, kT22, kT23, kT24, kT101 a0, kT102 a1, kT27, kT28, kT29, kT30, kT147, kT103, kT33, kT34, kT115 a2, kT148, kT149, kT38, kT39, kT150, kT151, kT152, kT153, kT154, kT155, kT46, kT47, kT156, kT157, kT158 a0, kT159, kT160, kT161 a3, kT54, kT55, kT56, kT57, kT162 a0, kT163, kT164, kT165, kT166, kT167, kT168 a4, kT139 a3, kT169, kT170, kT171, kT172, kT173, kT174, kT175, kT176, kT177, kT178, kT179, kT180, kT181, kT182, kT183, kT184, kT185 a5, kT186, kT187 a6, kT188, kT189, kT190, kT191, kT192, kT193, kT194, kT195, kT196, kT197, kT198, kT199, kT200, kT201]
def bT4 (a0 : Int) (a1 : Int) (a2 : Int) (a3 : Int) (a4 : Int) (a5 : Int) (a6 : Int) : List (Nat × Blk) := [kT98 a0, kT1, kT2, kT3, kT4, kT5, kT6, kT7, kT8, kT9, kT10, kT11, kT12, kT13, kT14, kT15, kT16, kT17, kT18, kT99 a0, kT113 a0, kT21, kT22, kT23, kT24, kT101 a0, kT102 a1, kT27, kT28, kT29, kT30, kT147, kT103, kT33, kT34, kT115 a2, kT148, kT149, kT38, kT39, kT150, kT151, kT152, kT153, kT154, kT155, kT46, kT47, kT156, kT157, kT202 a3, kT159, kT160, kT203 a0, kT54, kT55, kT56, kT57, kT162 a4, kT204 a3, kT134, kT205, kT206, kT207, kT208, kT139 a0, kT169, kT170, kT171, kT172, kT173, kT174, kT175, kT176, kT177, kT178, kT179, kT180, kT181, kT182, kT183, kT184, kT185 a5, kT186, kT187 a6, kT188, kT189, kT190, kT191, kT192, kT193, kT194, kT195, kT196, kT197, kT198, kT199, kT200, kT201]
def bT5 (a0 : Int) (a1 : Int) (a2 : Int) (a3 : Int) : List (Nat × Blk) := [kT98 a0, kT1, kT2, kT3, kT4, kT5, kT6, kT7, kT8, kT9, kT10, kT11, kT12, kT13, kT14, kT15, kT16, kT17, kT18, kT99 a0, kT113 a0, kT21, kT22, kT23, kT24, kT101 a0, kT102 a1, kT27, kT28, kT29, kT30, kT114, kT103, kT33, kT34, kT115 a2, kT36, kT116, kT38, kT39, kT40, kT41, kT42, kT117, kT118, kT119, kT46, kT47, kT48, kT49, kT50, kT121, kT122, kT209 a0, kT54, kT55, kT56, kT57, kT58, kT59, kT60, kT61, kT62, kT63, kT64, kT124 a0, kT210, kT211, kT212, kT213, kT214, kT72, kT73, kT74, kT75, kT76, kT215, kT216, kT163, kT217, kT218, kT108, kT219, kT137 a3, kT84, kT85, kT86, kT220, kT221, kT222, kT111, kT223, kT92, kT93, kT94, kT224, kT225, kT226]
def actT : AV := AV.fn (Go.Fn.func 28) [AV.ptr 1049263 0] []
def eT (n : Nat) (g : Nat → CV) (out : AV) (i : Nat) : List (Nat × AV) := [(6, .nils), (7, .int .i64 (Int.ofNat 0)), (16, actT), (17, out), (71, .vs 30 0 n g), (72, .int .i64 (Int.ofNat n)), (73, .int .i64 (Int.ofNat i))]
/-- a row of the output -/
def rowT (l : List AV) : Blk := .row l 3 true []
/-- the blocks that all states have: the rows of the output (if some are there), of the inputs, of what is wanted -/
def rrT (cs csI csW : List AV) : List (Nat × Blk) := [(n0T, .row cs 22 true []), (30, .row csI 22 true []), (31, .row csW 22 true [])]
def rr0T (csI csW : List AV) : List (Nat × Blk) := [(30, .row csI 22 true []), (31, .row csW 22 true [])]
def dT_0_0 : List Bool := bitsL 94 10622687843563009314284171943
def kT_0_0 : List Nat := [1049263, 1049261, 11, 10, 9, 1049275, 1049259, 1049260, 12, 1049266, 1049274, 1049472, 1049467, 16, 15, 14, 13, 1049264, 1049265, 1049273, 1049280, 20, 19, 18, 17, 1049270, 1049477, 1049281, 1049277, 1049469, 1049470, 1049279, 1049388, 22, 21, 1049473, 1049302, 1049394, 1049294, 1049386, 1049300, 1049301, 1049373, 1049392, 1049393, 1049465, 1049292, 1049384, 1049298, 1049299, 1049367, 1049390, 1049391, 1049459, 1049286, 1049290, 1049378, 1049382, 1049361, 1049304, 1049307, 1049360, 1049362, 1049363, 1049458, 1049453, 1049396, 1049399, 1049452, 1049454, 1049455, 1049358, 1049359, 1049310, 1049369, 1049371, 1049450, 1049451, 1049402, 1049461, 1049463, 1049357, 1049491, 1049449, 1049317, 1049345, 1049324, 1049409, 1049437, 1049416, 1049344, 1049436, 1049330, 1049334, 1049341, 1049422, 1049426, 1049433]
def dT_1_0 : List Bool := bitsL 95 20526208157846051513476117159
def kT_1_0 : List Nat := [1049263, 1049261, 11, 10, 9, 1049275, 1049259, 1049260, 12, 1049266, 1049274, 1049472, 1049467, 16, 15, 14, 13, 1049264, 1049265, 1049273, 1049280, 20, 19, 18, 17, 1049270, 1049476, 1049281, 1049277, 1049469, 1049470, 1049279, 1049388, 22, 21, 2097152, 1049302, 1049394, 1049294, 1049386, 1049300, 1049301, 1049373, 1049392, 1049393, 1049465, 1049292, 1049384, 1049298, 1049299, 1049367, 1049390, 1049391, 1049459, 1049286, 1049290, 1049378, 1049382, 1049361, 1049304, 1049307, 1049360, 1049362, 1049363, 1049458, 1049453, 1049396, 1049399, 1049452, 1049454, 1049455, 1049358, 1049359, 1049310, 1049369, 1049371, 1049450, 1049451, 1049402, 1049461, 1049463, 1049357, 2097170, 1049449, 1049317, 1049345, 1049324, 1049409, 1049437, 1049416, 1049344, 1049436, 1049330, 1049334, 1049341, 1049422, 1049426, 1049433]
def dT_1_1 : List Bool := bitsL 176 49629326041609050963501238415505222971281642412225191
def kT_1_1 : List Nat := [1049263, 1049261, 11, 10, 9, 1049275, 1049259, 1049260, 12, 1049266, 1049274, 1049472, 1049467, 16, 15, 14, 13, 1049264, 1049265, 1049273, 1049280, 20, 19, 18, 17, 1049270, 2097236, 1049281, 1049277, 1049469, 1049470, 1049279, 1049388, 22, 21, 2097152, 1049302, 2097164, 1049294, 1049386, 1049300, 1049301, 1049373, 2097162, 2097163, 2097235, 1049292, 1049384, 1049298, 1049299, 1049367, 2097160, 2097161, 2097229, 1049286, 1049290, 1049378, 1049382, 1049474, 1049361, 1049304, 1049307, 1049360, 1049362, 1049363, 2097223, 2097166, 2097169, 2097222, 2097224, 2097225, 1049358, 1049359, 1049310, 1049369, 1049371, 2097220, 2097221, 2097172, 2097231, 2097233, 1049357, 1049476, 2097219, 2097250, 1049317, 1049345, 1049324, 2097179, 2097207, 2097186, 1049344, 2097206, 1049330, 1049334, 1049341, 2097192, 2097196, 2097203]
def dT_2_1 : List Bool := bitsL 173 6203665755201131370437654801938152871410205301519015
def kT_2_1 : List Nat := [1049263, 1049261, 11, 10, 9, 1049275, 1049259, 1049260, 12, 1049266, 1049274, 1049472, 1049467, 16, 15, 14, 13, 1049264, 1049265, 1049273, 1049280, 20, 19, 18, 17, 1049270, 2097235, 1049281, 1049277, 1049469, 1049470, 1049279, 1049388, 22, 21, 2097152, 2097163, 1049476, 1049294, 1049386, 2097161, 2097162, 2097234, 1049477, 1049478, 1049479, 1049292, 1049384, 2097159, 2097160, 2097228, 1049480, 1049481, 1049482, 1049286, 1049290, 1049378, 1049382, 2097222, 2097165, 2097168, 2097221, 2097223, 2097224, 1049474, 1049484, 1049485, 1049486, 1049487, 1049488, 1049489, 2097219, 2097220, 2097171, 2097230, 2097232, 1049490, 1049491, 1049492, 1049493, 1049494, 2097218, 2097249, 1049496, 1049497, 2097178, 2097206, 2097185, 1049498, 1049499, 1049500, 2097205, 1049501, 2097191, 2097195, 2097202, 1049502, 1049503, 1049504]
def dT_3_1 : List Bool := bitsL 176 49629326041609050963501238415505222971281642412225191
def kT_3_1 : List Nat := [1049263, 1049261, 11, 10, 9, 1049275, 1049259, 1049260, 12, 1049266, 1049274, 1049472, 1049467, 16, 15, 14, 13, 1049264, 1049265, 1049273, 1049280, 20, 19, 18, 17, 1049270, 2097236, 1049281, 1049277, 1049469, 1049470, 1049279, 1049388, 22, 21, 2097152, 1049476, 2097164, 1049294, 1049386, 1049478, 1049479, 1049480, 2097162, 2097163, 2097235, 1049292, 1049384, 1049484, 1049485, 1049486, 2097160, 2097161, 2097229, 1049286, 1049290, 1049378, 1049382, 1049474, 1049490, 1049491, 1049492, 1049493, 1049494, 1049495, 2097223, 2097166, 2097169, 2097222, 2097224, 2097225, 1049503, 1049504, 1049505, 1049506, 1049507, 2097220, 2097221, 2097172, 2097231, 2097233, 1049513, 1049514, 2097219, 2097250, 1049517, 1049518, 1049519, 2097179, 2097207, 2097186, 1049523, 2097206, 1049525, 1049526, 1049527, 2097192, 2097196, 2097203]
def dT_4_0 : List Bool := bitsL 95 20526208157846051513476117159
def kT_4_0 : List Nat := [1049263, 1049261, 11, 10, 9, 1049275, 1049259, 1049260, 12, 1049266, 1049274, 1049472, 1049467, 16, 15, 14, 13, 1049264, 1049265, 1049273, 1049280, 20, 19, 18, 17, 1049270, 1049516, 1049281, 1049277, 1049469, 1049470, 1049279, 1049388, 22, 21, 2097152, 1049476, 1049477, 1049294, 1049386, 1049478, 1049479, 1049480, 1049481, 1049482, 1049483, 1049292, 1049384, 1049484, 1049485, 1049486, 1049487, 1049488, 1049489, 1049286, 1049290, 1049378, 1049382, 1049490, 1049491, 1049492, 1049493, 1049494, 1049495, 1049496, 1049497, 1049498, 1049499, 1049500, 1049501, 1049502, 1049503, 1049504, 1049505, 1049506, 1049507, 1049508, 1049509, 1049510, 1049511, 1049512, 1049513, 1049514, 1049515, 2097170, 1049517, 1049518, 1049519, 1049520, 1049521, 1049522, 1049523, 1049524, 1049525, 1049526, 1049527, 1049528, 1049529, 1049530]
def dT_4_1 : List Bool := bitsL 173 6203665755201131370437654801938152871410205301519015
def kT_4_1 : List Nat := [1049263, 1049261, 11, 10, 9, 1049275, 1049259, 1049260, 12, 1049266, 1049274, 1049472, 1049467, 16, 15, 14, 13, 1049264, 1049265, 1049273, 1049280, 20, 19, 18, 17, 1049270, 2097235, 1049281, 1049277, 1049469, 1049470, 1049279, 1049388, 22, 21, 2097152, 2097163, 1049477, 1049294, 1049386, 2097161, 2097162, 2097234, 1049481, 1049482, 1049483, 1049292, 1049384, 2097159, 2097160, 2097228, 1049487, 1049488, 1049489, 1049286, 1049290, 1049378, 1049382, 2097222, 2097165, 2097168, 2097221, 2097223, 2097224, 1049474, 1049497, 1049498, 1049499, 1049500, 1049501, 1049502, 2097219, 2097220, 2097171, 2097230, 2097232, 1049508, 1049509, 1049510, 1049511, 1049512, 2097218, 2097249, 1049515, 1049516, 2097178, 2097206, 2097185, 1049520, 1049521, 1049522, 2097205, 1049524, 2097191, 2097195, 2097202, 1049528, 1049529, 1049530]
def dT_3_0 : List Bool := bitsL 95 20526208157846051513476117159
def kT_3_0 : List Nat := [1049263, 1049261, 11, 10, 9, 1049275, 1049259, 1049260, 12, 1049266, 1049274, 1049472, 1049467, 16, 15, 14, 13, 1049264, 1049265, 1049273, 1049280, 20, 19, 18, 17, 1049270, 1049514, 1049281, 1049277, 1049469, 1049470, 1049279, 1049388, 22, 21, 2097152, 1049476, 1049477, 1049294, 1049386, 1049478, 1049479, 1049480, 1049481, 1049482, 1049483, 1049292, 1049384, 1049484, 1049485, 1049486, 1049487, 1049488, 1049489, 1049286, 1049290, 1049378, 1049382, 1049490, 1049491, 1049492, 1049493, 1049494, 1049495, 1049496, 1049497, 1049498, 1049499, 1049500, 1049501, 1049502, 1049503, 1049504, 1049505, 1049506, 1049507, 1049508, 1049509, 1049510, 1049511, 1049512, 1049513, 2097170, 1049515, 1049516, 1049517, 1049518, 1049519, 1049520, 1049521, 1049522, 1049523, 1049524, 1049525, 1049526, 1049527, 1049528, 1049529, 1049530]
def dT_0_1 : List Bool := bitsL 175 25684083215579537551652066116281641977238843628106407
def kT_0_1 : List Nat := [1049263, 1049261, 11, 10, 9, 1049275, 1049259, 1049260, 12, 1049266, 1049274, 1049472, 1049467, 16, 15, 14, 13, 1049264, 1049265, 1049273, 1049280, 20, 19, 18, 17, 1049270, 1049557, 1049281, 1049277, 1049469, 1049470, 1049279, 1049388, 22, 21, 1049473, 1049302, 1049485, 1049294, 1049386, 1049300, 1049301, 1049373, 1049483, 1049484, 1049556, 1049292, 1049384, 1049298, 1049299, 1049367, 1049481, 1049482, 1049550, 1049286, 1049290, 1049378, 1049382, 1049366, 1049361, 1049304, 1049307, 1049360, 1049362, 1049363, 1049544, 1049487, 1049490, 1049543, 1049545, 1049546, 1049358, 1049359, 1049310, 1049369, 1049371, 1049541, 1049542, 1049493, 1049552, 1049554, 1049357, 1049540, 1049571, 1049317, 1049345, 1049324, 1049500, 1049528, 1049507, 1049344, 1049527, 1049330, 1049334, 1049341, 1049513, 1049517, 1049524]
def dT_5_0 : List Bool := bitsL 95 20526208157846051513476117159
def kT_5_0 : List Nat := [1049263, 1049261, 11, 10, 9, 1049275, 1049259, 1049260, 12, 1049266, 1049274, 1049472, 1049467, 16, 15, 14, 13, 1049264, 1049265, 1049273, 1049280, 20, 19, 18, 17, 1049270, 1049495, 1049281, 1049277, 1049469, 1049470, 1049279, 1049388, 22, 21, 2097152, 1049302, 1049476, 1049294, 1049386, 1049300, 1049301, 1049373, 1049477, 1049478, 1049479, 1049292, 1049384, 1049298, 1049299, 1049367, 1049480, 1049481, 1049482, 1049286, 1049290, 1049378, 1049382, 1049366, 1049361, 1049304, 1049307, 1049360, 1049362, 1049363, 1049483, 1049484, 1049485, 1049486, 1049487, 1049488, 1049358, 1049359, 1049310, 1049369, 1049371, 1049489, 1049490, 1049491, 1049492, 1049493, 1049357, 1049494, 2097170, 1049317, 1049345, 1049324, 1049496, 1049497, 1049498, 1049344, 1049499, 1049330, 1049334, 1049341, 1049500, 1049501, 1049502]
def dT_5_1 : List Bool := bitsL 173 6203665755201131370437654801938152871410205301519015
def kT_5_1 : List Nat := [1049263, 1049261, 11, 10, 9, 1049275, 1049259, 1049260, 12, 1049266, 1049274, 1049472, 1049467, 16, 15, 14, 13, 1049264, 1049265, 1049273, 1049280, 20, 19, 18, 17, 1049270, 2097235, 1049281, 1049277, 1049469, 1049470, 1049279, 1049388, 22, 21, 2097152, 2097163, 1049476, 1049294, 1049386, 2097161, 2097162, 2097234, 1049477, 1049478, 1049479, 1049292, 1049384, 2097159, 2097160, 2097228, 1049480, 1049481, 1049482, 1049286, 1049290, 1049378, 1049382, 2097222, 2097165, 2097168, 2097221, 2097223, 2097224, 1049474, 1049483, 1049484, 1049485, 1049486, 1049487, 1049488, 2097219, 2097220, 2097171, 2097230, 2097232, 1049489, 1049490, 1049491, 1049492, 1049493, 2097218, 2097249, 1049494, 1049495, 2097178, 2097206, 2097185, 1049496, 1049497, 1049498, 2097205, 1049499, 2097191, 2097195, 2097202, 1049500, 1049501, 1049502]
def dT_2_0 : List Bool := bitsL 95 20526208157846051513476117159
def kT_2_0 : List Nat := [1049263, 1049261, 11, 10, 9, 1049275, 1049259, 1049260, 12, 1049266, 1049274, 1049472, 1049467, 16, 15, 14, 13, 1049264, 1049265, 1049273, 1049280, 20, 19, 18, 17, 1049270, 1049497, 1049281, 1049277, 1049469, 1049470, 1049279, 1049388, 22, 21, 2097152, 1049302, 1049476, 1049294, 1049386, 1049300, 1049301, 1049373, 1049477, 1049478, 1049479, 1049292, 1049384, 1049298, 1049299, 1049367, 1049480, 1049481, 1049482, 1049286, 1049290, 1049378, 1049382, 1049483, 1049361, 1049304, 1049307, 1049360, 1049362, 1049363, 1049484, 1049485, 1049486, 1049487, 1049488, 1049489, 1049358, 1049359, 1049310, 1049369, 1049371, 1049490, 1049491, 1049492, 1049493, 1049494, 1049357, 1049495, 1049496, 2097170, 1049317, 1049345, 1049324, 1049498, 1049499, 1049500, 1049344, 1049501, 1049330, 1049334, 1049341, 1049502, 1049503, 1049504]
/-- what is told ahead of this round's inputs -/
def ggT (r : Nat) (b : List Int) : Nat → CV := fun _ => .row r 1 (fun k => Option.rec 0 (fun x => x) (lget b k))
end
end Go.Proofs.YtkfhjobebhdpoaaGreat
/- Stream: the rounds of Run's loop over ticks. -/
set_option autoImplicit false
set_option maxRecDepth 1000000
set_option maxHeartbeats 1000000
namespace Go.Proofs.YtkfhjobebhdpoaaGreat
noncomputable section
open Go.X
def RT (csI csW : List AV) (oa i : Nat) : List (Nat × Nat × Blk) := [(n0T, oa, .row (zrows 300 1 i) 22 true []), (30, 30, .row csI 22 true []), (31, 31, .row csW 22 true [])]
def rawT (csI csW cs : List AV) : List (Option Blk × Bool) := [(some (.row cs 22 true []), true), (some (.row csI 22 true []), true), (some (.row csW 22 true []), true)]
def ocT (i ra : Nat) : List AV := lapp (ltake (ldrop (zrows 300 1 i) 0) (Nat.mul i 1)) [.slc ra 0 1 1 false 1]
def hT (z : T Blk) (csI csW : List AV) (i : Nat) (B : List (Nat × Blk)) : H := ⟨mkB z (lapp (rrT (zrows 300 1 i) csI csW) B), 2097152⟩
def hfT (z : T Blk) (csI csW : List AV) (B : List (Nat × Blk)) : H := ⟨mkB z (lapp (rr0T csI csW) B), n0T⟩
def goT (h : H) (n i r : Nat) (out : AV) (b : List Int) (d : List Bool) (K : KE) : Prop := xcode C1 Tryz.prog F 14 (loopC Tryz.prog 14 22) (mask 14) (tmpsN Tryz.prog 14) (mkE (eT n (ggT r b) out i)) h d K
def obT (csI csW : List AV) (i : Nat) (A : List (Nat × Nat × Blk)) (oa ra : Nat) (row : List AV) (Kv : XE → Obs → Prop) : KE := fun x env h _ => Kv x (obs [6, 7, 16, 17, 71, 72, 73] (actsOf (lapp (RT csI csW oa (i + 1)) A) [(300 + i, ra, rowT row)]) (lapp (RT csI csW oa (i + 1)) A) [(300 + i, ra, rowT row)] env h)
def obfT (csI csW : List AV) (A : List (Nat × Nat × Blk)) (oa ra : Nat) (row : List AV) (Kv : XE → Obs → Prop) : KE := fun x env h _ => Kv x (obs [6, 7, 16, 17, 71, 72, 73] (actsOf (lapp (RT csI csW oa 1) A) [(300, ra, rowT row)]) (lapp (RT csI csW oa 1) A) [(300, ra, rowT row)] env h)
def lfT (z : T Blk) (csI csW : List AV) (n i r : Nat) (b : List Int) (A : List (Nat × Nat × Blk)) (oa ra : Nat) (row : List AV) (Kv : XE → Obs → Prop) : Prop := Kv .nrm (expsR n0T (kpOf z) (eT n (ggT r b) (.slc n0T 0 (i + 1) (i + 1) false 1) (i + 1)) (RT csI csW oa (i + 1)) A [(300 + i, ra, rowT row)] z (rawT csI csW (ocT i ra)))
def lffT (z : T Blk) (csI csW : List AV) (n r : Nat) (b : List Int) (A : List (Nat × Nat × Blk)) (oa ra : Nat) (row : List AV) (Kv : XE → Obs → Prop) : Prop := Kv .nrm (expsR n0T (kpOf z) (eT n (ggT r b) (.slc n0T 0 1 1 false 1) 1) (RT csI csW oa 1) A [(300, ra, rowT row)] z (rawT csI csW [.slc ra 0 1 1 false 1]))
def cIT (h : H) (i r : Nat) (b : List Int) : Prop := cellIs h 30 i (.row r 1 (fun k => Option.rec 0 (fun x => x) (lget b k)))
def cRT (h : H) (r : Nat) (b : List Int) : Prop := cellsAre h r (fun k => .sc (Option.rec 0 (fun x => x) (lget b k))) 1 0
def hdT (h : H) (n i j r : Nat) (b : List Int) (t : Prop) : Prop := bcase (dcq true (ltI (Int.ofNat i) (Int.ofNat n))) (bcase (inB (Int.ofNat i) n) (cIT h j r b ∧ (cRT h r b ∧ t)) False) False
def ttT (i : Nat) (t : Prop) : Prop := bcase (dcq false (Nat.ble (Nat.add i 1) i)) (bcase (appC (zrows 300 1 i) i) (bcase (Nat.ble (llen (zrows 300 1 i)) (Nat.mul i 1)) (bcase (inR .i64 (Int.ofNat i + Int.ofNat 1)) t False) (bcase (inR .i64 (Int.ofNat i + Int.ofNat 1)) t False)) False) False
def ixT (i : Nat) : Nat := Nat.add 0 (Nat.mul (Int.toNat (Int.ofNat i)) 1)
theorem tT_0_0 (z : T Blk) (csI csW : List AV) (n r : Nat) (Kv : XE → Obs → Prop) : goT (hfT z csI csW (bT0)) n 0 r .nils [0] dT_0_0 (obfT csI csW (zipA (bT1 1 0) kT_0_0) 1049498 1049496 [.int .i64 0] Kv) = (hdT (hfT z csI csW (bT0)) n 0 0 r [0] (lffT z csI csW n r [0] (zipA (bT1 1 0) kT_0_0) 1049498 1049496 [.int .i64 0] Kv)) := by kernel_rfl
theorem tT_1_0 (z : T Blk) (csI csW : List AV) (n i r : Nat) (a0 : Int) (a1 : Int) (Kv : XE → Obs → Prop) : goT (hT z csI csW i (bT1 a0 a1)) n i r (.slc n0T 0 i i false 1) [0] dT_1_0 (obT csI csW i (zipA (bT1 (a0 + 1) a0) kT_1_0) 2097177 2097175 [.int .i64 a0] Kv) = (hdT (hT z csI csW i (bT1 a0 a1)) n i (ixT i) r [0] (bcase (inR .i64 (a0 + 1)) (bcase (dcq false (eqI a0 (a0 + 1))) (bcase (dcq false (eqI a0 (a0 + 1))) (bcase (dcq true (eqI (a0 + 1) (a0 + 1))) (bcase (dcq false (eqI a0 (a0 + 1))) (bcase (dcq false (eqI a0 (a0 + 1))) (bcase (dcq true (eqI (a0 + 1) (a0 + 1))) (bcase (dcq true (eqI (a0 + 1) (a0 + 1))) (bcase (dcq true (eqI (a0 + 1) (a0 + 1))) (bcase (inR .u8 a0) (bcase (inR .i64 a0) (bcase (dcq true (eqI a0 a0)) (bcase (inR .i64 (a0 + 1)) (bcase (inR .u8 (a0 + 1)) (bcase (inR .i64 (a0 + 1)) (ttT i (lfT z csI csW n i r [0] (zipA (bT1 (a0 + 1) a0) kT_1_0) 2097177 2097175 [.int .i64 a0] Kv)) False) False) False) False) False) False) False) False) False) False) False) False) False) False) False)) := by kernel_rfl
theorem tT_1_1 (z : T Blk) (csI csW : List AV) (n i r : Nat) (a0 : Int) (a1 : Int) (Kv : XE → Obs → Prop) : goT (hT z csI csW i (bT1 a0 a1)) n i r (.slc n0T 0 i i false 1) [1] dT_1_1 (obT csI csW i (zipA (bT2 (a0 + 1) 100 1 a0 a1 101) kT_1_1) 2097257 2097255 [.int .i64 100] Kv) = (hdT (hT z csI csW i (bT1 a0 a1)) n i (ixT i) r [1] (bcase (inR .i64 (a0 + 1)) (bcase (dcq false (eqI a0 (a0 + 1))) (bcase (dcq false (eqI a0 (a0 + 1))) (bcase (dcq true (eqI (a0 + 1) (a0 + 1))) (bcase (dcq false (eqI 0 (a0 + 1))) (bcase (dcq false (eqI 0 (a0 + 1))) (bcase (dcq true (eqI (a0 + 1) (a0 + 1))) (bcase (dcq true (eqI (a0 + 1) (a0 + 1))) (bcase (dcq true (eqI (a0 + 1) (a0 + 1))) (ttT i (lfT z csI csW n i r [1] (zipA (bT2 (a0 + 1) 100 1 a0 a1 101) kT_1_1) 2097257 2097255 [.int .i64 100] Kv)) False) False) False) False) False) False) False) False) False)) := by kernel_rfl
theorem tT_2_1 (z : T Blk) (csI csW : List AV) (n i r : Nat) (a0 : Int) (a1 : Int) (a2 : Int) (a3 : Int) (a4 : Int) (a5 : Int) (Kv : XE → Obs → Prop) : goT (hT z csI csW i (bT2 a0 a1 a2 a3 a4 a5)) n i r (.slc n0T 0 i i false 1) [1] dT_2_1 (obT csI csW i (zipA (bT3 (a0 + 1) 0 1 a0 a1 1 a5) kT_2_1) 2097256 2097254 [.int .i64 0] Kv) = (hdT (hT z csI csW i (bT2 a0 a1 a2 a3 a4 a5)) n i (ixT i) r [1] (bcase (inR .i64 (a0 + 1)) (bcase (dcq false (eqI a0 (a0 + 1))) (bcase (dcq false (eqI a0 (a0 + 1))) (bcase (dcq true (eqI (a0 + 1) (a0 + 1))) (bcase (dcq false (eqI 0 (a0 + 1))) (bcase (dcq false (eqI 0 (a0 + 1))) (bcase (dcq true (eqI (a0 + 1) (a0 + 1))) (bcase (dcq true (eqI (a0 + 1) (a0 + 1))) (bcase (dcq true (eqI (a0 + 1) (a0 + 1))) (ttT i (lfT z csI csW n i r [1] (zipA (bT3 (a0 + 1) 0 1 a0 a1 1 a5) kT_2_1) 2097256 2097254 [.int .i64 0] Kv)) False) False) False) False) False) False) False) False) False)) := by kernel_rfl
theorem tT_3_1 (z : T Blk) (csI csW : List AV) (n i r : Nat) (a0 : Int) (a1 : Int) (a2 : Int) (a3 : Int) (a4 : Int) (a5 : Int) (a6 : Int) (Kv : XE → Obs → Prop) : goT (hT z csI csW i (bT3 a0 a1 a2 a3 a4 a5 a6)) n i r (.slc n0T 0 i i false 1) [1] dT_3_1 (obT csI csW i (zipA (bT4 (a0 + 1) 100 1 a0 a1 a5 101) kT_3_1) 2097257 2097255 [.int .i64 100] Kv) = (hdT (hT z csI csW i (bT3 a0 a1 a2 a3 a4 a5 a6)) n i (ixT i) r [1] (bcase (inR .i64 (a0 + 1)) (bcase (dcq false (eqI a0 (a0 + 1))) (bcase (dcq false (eqI a0 (a0 + 1))) (bcase (dcq true (eqI (a0 + 1) (a0 + 1))) (bcase (dcq false (eqI 0 (a0 + 1))) (bcase (dcq false (eqI 0 (a0 + 1))) (bcase (dcq true (eqI (a0 + 1) (a0 + 1))) (bcase (dcq true (eqI (a0 + 1) (a0 + 1))) (bcase (dcq true (eqI (a0 + 1) (a0 + 1))) (ttT i (lfT z csI csW n i r [1] (zipA (bT4 (a0 + 1) 100 1 a0 a1 a5 101) kT_3_1) 2097257 2097255 [.int .i64 100] Kv)) False) False) False) False) False) False) False) False) False)) := by kernel_rfl
theorem tT_4_0 (z : T Blk) (csI csW : List AV) (n i r : Nat) (a0 : Int) (a1 : Int) (a2 : Int) (a3 : Int) (a4 : Int) (a5 : Int) (a6 : Int) (Kv : XE → Obs → Prop) : goT (hT z csI csW i (bT4 a0 a1 a2 a3 a4 a5 a6)) n i r (.slc n0T 0 i i false 1) [0] dT_4_0 (obT csI csW i (zipA (bT4 (a0 + 1) a6 0 a3 a4 a5 (a6 + 1)) kT_4_0) 2097177 2097175 [.int .i64 a6] Kv) = (hdT (hT z csI csW i (bT4 a0 a1 a2 a3 a4 a5 a6)) n i (ixT i) r [0] (bcase (inR .i64 (a0 + 1)) (bcase (dcq false (eqI a0 (a0 + 1))) (bcase (dcq false (eqI a0 (a0 + 1))) (bcase (dcq true (eqI (a0 + 1) (a0 + 1))) (bcase (dcq false (eqI a0 (a0 + 1))) (bcase (dcq false (eqI a0 (a0 + 1))) (bcase (dcq true (eqI (a0 + 1) (a0 + 1))) (bcase (dcq true (eqI (a0 + 1) (a0 + 1))) (bcase (dcq true (eqI (a0 + 1) (a0 + 1))) (bcase (inR .u8 a6) (bcase (inR .i64 a6) (bcase (dcq true (eqI a6 a6)) (bcase (inR .i64 (a6 + 1)) (bcase (inR .u8 (a6 + 1)) (bcase (inR .i64 (a6 + 1)) (ttT i (lfT z csI csW n i r [0] (zipA (bT4 (a0 + 1) a6 0 a3 a4 a5 (a6 + 1)) kT_4_0) 2097177 2097175 [.int .i64 a6] Kv)) False) False) False) False) False) False) False) False) False) False) False) False) False) False) False)) := by kernel_rfl
theorem tT_4_1 (z : T Blk) (csI csW : List AV) (n i r : Nat) (a0 : Int) (a1 : Int) (a2 : Int) (a3 : Int) (a4 : Int) (a5 : Int) (a6 : Int) (Kv : XE → Obs → Prop) : goT (hT z csI csW i (bT4 a0 a1 a2 a3 a4 a5 a6)) n i r (.slc n0T 0 i i false 1) [1] dT_4_1 (obT csI csW i (zipA (bT3 (a0 + 1) 0 1 a0 a1 1 a6) kT_4_1) 2097256 2097254 [.int .i64 0] Kv) = (hdT (hT z csI csW i (bT4 a0 a1 a2 a3 a4 a5 a6)) n i (ixT i) r [1] (bcase (inR .i64 (a0 + 1)) (bcase (dcq false (eqI a0 (a0 + 1))) (bcase (dcq false (eqI a0 (a0 + 1))) (bcase (dcq true (eqI (a0 + 1) (a0 + 1))) (bcase (dcq false (eqI 0 (a0 + 1))) (bcase (dcq false (eqI 0 (a0 + 1))) (bcase (dcq true (eqI (a0 + 1) (a0 + 1))) (bcase (dcq true (eqI (a0 + 1) (a0 + 1))) (bcase (dcq true (eqI (a0 + 1) (a0 + 1))) (ttT i (lfT z csI csW n i r [1] (zipA (bT3 (a0 + 1) 0 1 a0 a1 1 a6) kT_4_1) 2097256 2097254 [.int .i64 0] Kv)) False) False) False) False) False) False) False) False) False)) := by kernel_rfl
theorem tT_3_0 (z : T Blk) (csI csW : List AV) (n i r : Nat) (a0 : Int) (a1 : Int) (a2 : Int) (a3 : Int) (a4 : Int) (a5 : Int) (a6 : Int) (Kv : XE → Obs → Prop) : goT (hT z csI csW i (bT3 a0 a1 a2 a3 a4 a5 a6)) n i r (.slc n0T 0 i i false 1) [0] dT_3_0 (obT csI csW i (zipA (bT3 (a0 + 1) a5 0 a3 a4 (a5 + 1) a6) kT_3_0) 2097177 2097175 [.int .i64 a5] Kv) = (hdT (hT z csI csW i (bT3 a0 a1 a2 a3 a4 a5 a6)) n i (ixT i) r [0] (bcase (inR .i64 (a0 + 1)) (bcase (dcq false (eqI a0 (a0 + 1))) (bcase (dcq false (eqI a0 (a0 + 1))) (bcase (dcq true (eqI (a0 + 1) (a0 + 1))) (bcase (dcq false (eqI a0 (a0 + 1))) (bcase (dcq false (eqI a0 (a0 + 1))) (bcase (dcq true (eqI (a0 + 1) (a0 + 1))) (bcase (dcq true (eqI (a0 + 1) (a0 + 1))) (bcase (dcq true (eqI (a0 + 1) (a0 + 1))) (bcase (inR .u8 a5) (bcase (inR .i64 a5) (bcase (dcq true (eqI a5 a5)) (bcase (inR .i64 (a5 + 1)) (bcase (inR .u8 (a5 + 1)) (bcase (inR .i64 (a5 + 1)) (ttT i (lfT z csI csW n i r [0] (zipA (bT3 (a0 + 1) a5 0 a3 a4 (a5 + 1) a6) kT_3_0) 2097177 2097175 [.int .i64 a5] Kv)) False) False) False) False) False) False) False) False) False) False) False) False) False) False) False)) := by kernel_rfl
theorem tT_0_1 (z : T Blk) (csI csW : List AV) (n r : Nat) (Kv : XE → Obs → Prop) : goT (hfT z csI csW (bT0)) n 0 r .nils [1] dT_0_1 (obfT csI csW (zipA (bT5 1 100 1 101) kT_0_1) 1049578 1049576 [.int .i64 100] Kv) = (hdT (hfT z csI csW (bT0)) n 0 0 r [1] (lffT z csI csW n r [1] (zipA (bT5 1 100 1 101) kT_0_1) 1049578 1049576 [.int .i64 100] Kv)) := by kernel_rfl
theorem tT_5_0 (z : T Blk) (csI csW : List AV) (n i r : Nat) (a0 : Int) (a1 : Int) (a2 : Int) (a3 : Int) (Kv : XE → Obs → Prop) : goT (hT z csI csW i (bT5 a0 a1 a2 a3)) n i r (.slc n0T 0 i i false 1) [0] dT_5_0 (obT csI csW i (zipA (bT5 (a0 + 1) a3 0 (a3 + 1)) kT_5_0) 2097177 2097175 [.int .i64 a3] Kv) = (hdT (hT z csI csW i (bT5 a0 a1 a2 a3)) n i (ixT i) r [0] (bcase (inR .i64 (a0 + 1)) (bcase (dcq false (eqI a0 (a0 + 1))) (bcase (dcq false (eqI a0 (a0 + 1))) (bcase (dcq true (eqI (a0 + 1) (a0 + 1))) (bcase (dcq false (eqI a0 (a0 + 1))) (bcase (dcq false (eqI a0 (a0 + 1))) (bcase (dcq true (eqI (a0 + 1) (a0 + 1))) (bcase (dcq true (eqI (a0 + 1) (a0 + 1))) (bcase (dcq true (eqI (a0 + 1) (a0 + 1))) (bcase (inR .u8 a3) (bcase (inR .i64 a3) (bcase (dcq true (eqI a3 a3)) (bcase (inR .i64 (a3 + 1)) (bcase (inR .u8 (a3 + 1)) (bcase (inR .i64 (a3 + 1)) (ttT i (lfT z csI csW n i r [0] (zipA (bT5 (a0 + 1) a3 0 (a3 + 1)) kT_5_0) 2097177 2097175 [.int .i64 a3] Kv)) False) False) False) False) False) False) False) False) False) False) False) False) False) False) False)) := by kernel_rfl
theorem tT_5_1 (z : T Blk) (csI csW : List AV) (n i r : Nat) (a0 : Int) (a1 : Int) (a2 : Int) (a3 : Int) (Kv : XE → Obs → Prop) : goT (hT z csI csW i (bT5 a0 a1 a2 a3)) n i r (.slc n0T 0 i i false 1) [1] dT_5_1 (obT csI csW i (zipA (bT3 (a0 + 1) 0 1 a0 a1 1 a3) kT_5_1) 2097256 2097254 [.int .i64 0] Kv) = (hdT (hT z csI csW i (bT5 a0 a1 a2 a3)) n i (ixT i) r [1] (bcase (inR .i64 (a0 + 1)) (bcase (dcq false (eqI a0 (a0 + 1))) (bcase (dcq false (eqI a0 (a0 + 1))) (bcase (dcq true (eqI (a0 + 1) (a0 + 1))) (bcase (dcq false (eqI 0 (a0 + 1))) (bcase (dcq false (eqI 0 (a0 + 1))) (bcase (dcq true (eqI (a0 + 1) (a0 + 1))) (bcase (dcq true (eqI (a0 + 1) (a0 + 1))) (bcase (dcq true (eqI (a0 + 1) (a0 + 1))) (ttT i (lfT z csI csW n i r [1] (zipA (bT3 (a0 + 1) 0 1 a0 a1 1 a3) kT_5_1) 2097256 2097254 [.int .i64 0] Kv)) False) False) False) False) False) False) False) False) False)) := by kernel_rfl
theorem tT_2_0 (z : T Blk) (csI csW : List AV) (n i r : Nat) (a0 : Int) (a1 : Int) (a2 : Int) (a3 : Int) (a4 : Int) (a5 : Int) (Kv : XE → Obs → Prop) : goT (hT z csI csW i (bT2 a0 a1 a2 a3 a4 a5)) n i r (.slc n0T 0 i i false 1) [0] dT_2_0 (obT csI csW i (zipA (bT2 (a0 + 1) a5 0 a3 a4 (a5 + 1)) kT_2_0) 2097177 2097175 [.int .i64 a5] Kv) = (hdT (hT z csI csW i (bT2 a0 a1 a2 a3 a4 a5)) n i (ixT i) r [0] (bcase (inR .i64 (a0 + 1)) (bcase (dcq false (eqI a0 (a0 + 1))) (bcase (dcq false (eqI a0 (a0 + 1))) (bcase (dcq true (eqI (a0 + 1) (a0 + 1))) (bcase (dcq false (eqI a0 (a0 + 1))) (bcase (dcq false (eqI a0 (a0 + 1))) (bcase (dcq true (eqI (a0 + 1) (a0 + 1))) (bcase (dcq true (eqI (a0 + 1) (a0 + 1))) (bcase (dcq true (eqI (a0 + 1) (a0 + 1))) (bcase (inR .u8 a5) (bcase (inR .i64 a5) (bcase (dcq true (eqI a5 a5)) (bcase (inR .i64 (a5 + 1)) (bcase (inR .u8 (a5 + 1)) (bcase (inR .i64 (a5 + 1)) (ttT i (lfT z csI csW n i r [0] (zipA (bT2 (a0 + 1) a5 0 a3 a4 (a5 + 1)) kT_2_0) 2097177 2097175 [.int .i64 a5] Kv)) False) False) False) False) False) False) False) False) False) False) False) False) False) False) False)) := by kernel_rfl
theorem xT_1 (z : T Blk) (csI csW : List AV) (n i : Nat) (g : Nat → CV) (a0 : Int) (a1 : Int) (Kv : XE → Obs → Prop) : xcode C1 Tryz.prog F 14 (loopC Tryz.prog 14 22) (mask 14) (tmpsN Tryz.prog 14) (mkE (eT n g (.slc n0T 0 i i false 1) i)) ⟨mkB z (lapp (rrT (zrows 300 1 i) csI csW) (bT1 a0 a1)), 2097152⟩ [false] (fun x env h _ => Kv x (obs [6, 7, 17] (actsOf (lapp [(n0T, n0T, .row (zrows 300 1 i) 22 true []), (30, 30, .row csI 22 true []), (31, 31, .row csW 22 true [])] []) []) (lapp [(n0T, n0T, .row (zrows 300 1 i) 22 true []), (30, 30, .row csI 22 true []), (31, 31, .row csW 22 true [])] []) [] env h)) = (bcase (dcq false (ltI (Int.ofNat i) (Int.ofNat n))) (Kv (.ext 2) (expsR n0T (kpOf z) [(6, .nils), (7, .int .i64 (Int.ofNat 0)), (17, .slc n0T 0 i i false 1)] [(n0T, n0T, .row (zrows 300 1 i) 22 true []), (30, 30, .row csI 22 true []), (31, 31, .row csW 22 true [])] [] [] z [(some (.row (zrows 300 1 i) 22 true []), true), (some (.row csI 22 true []), true), (some (.row csW 22 true []), true)])) False) := by kernel_rfl
theorem xT_2 (z : T Blk) (csI csW : List AV) (n i : Nat) (g : Nat → CV) (a0 : Int) (a1 : Int) (a2 : Int) (a3 : Int) (a4 : Int) (a5 : Int) (Kv : XE → Obs → Prop) : xcode C1 Tryz.prog F 14 (loopC Tryz.prog 14 22) (mask 14) (tmpsN Tryz.prog 14) (mkE (eT n g (.slc n0T 0 i i false 1) i)) ⟨mkB z (lapp (rrT (zrows 300 1 i) csI csW) (bT2 a0 a1 a2 a3 a4 a5)), 2097152⟩ [false] (fun x env h _ => Kv x (obs [6, 7, 17] (actsOf (lapp [(n0T, n0T, .row (zrows 300 1 i) 22 true []), (30, 30, .row csI 22 true []), (31, 31, .row csW 22 true [])] []) []) (lapp [(n0T, n0T, .row (zrows 300 1 i) 22 true []), (30, 30, .row csI 22 true []), (31, 31, .row csW 22 true [])] []) [] env h)) = (bcase (dcq false (ltI (Int.ofNat i) (Int.ofNat n))) (Kv (.ext 2) (expsR n0T (kpOf z) [(6, .nils), (7, .int .i64 (Int.ofNat 0)), (17, .slc n0T 0 i i false 1)] [(n0T, n0T, .row (zrows 300 1 i) 22 true []), (30, 30, .row csI 22 true []), (31, 31, .row csW 22 true [])] [] [] z [(some (.row (zrows 300 1 i) 22 true []), true), (some (.row csI 22 true []), true), (some (.row csW 22 true []), true)])) False) := by kernel_rfl
theorem xT_3 (z : T Blk) (csI csW : List AV) (n i : Nat) (g : Nat → CV) (a0 : Int) (a1 : Int) (a2 : Int) (a3 : Int) (a4 : Int) (a5 : Int) (a6 : Int) (Kv : XE → Obs → Prop) : xcode C1 Tryz.prog F 14 (loopC Tryz.prog 14 22) (mask 14) (tmpsN Tryz.prog 14) (mkE (eT n g (.slc n0T 0 i i false 1) i)) ⟨mkB z (lapp (rrT (zrows 300 1 i) csI csW) (bT3 a0 a1 a2 a3 a4 a5 a6)), 2097152⟩ [false] (fun x env h _ => Kv x (obs [6, 7, 17] (actsOf (lapp [(n0T, n0T, .row (zrows 300 1 i) 22 true []), (30, 30, .row csI 22 true []), (31, 31, .row csW 22 true [])] []) []) (lapp [(n0T, n0T, .row (zrows 300 1 i) 22 true []), (30, 30, .row csI 22 true []), (31, 31, .row csW 22 true [])] []) [] env h)) = (bcase (dcq false (ltI (Int.ofNat i) (Int.ofNat n))) (Kv (.ext 2) (expsR n0T (kpOf z) [(6, .nils), (7, .int .i64 (Int.ofNat 0)), (17, .slc n0T 0 i i false 1)] [(n0T, n0T, .row (zrows 300 1 i) 22 true []), (30, 30, .row csI 22 true []), (31, 31, .row csW 22 true [])] [] [] z [(some (.row (zrows 300 1 i) 22 true []), true), (some (.row csI 22 true []), true), (some (.row csW 22 true []), true)])) False) := by kernel_rfl
theorem xT_4 (z : T Blk) (csI csW : List AV) (n i : Nat) (g : Nat → CV) (a0 : Int) (a1 : Int) (a2 : Int) (a3 : Int) (a4 : Int) (a5 : Int) (a6 : Int) (Kv : XE → Obs → Prop) : xcode C1 Tryz.prog F 14 (loopC Tryz.prog 14 22) (mask 14) (tmpsN Tryz.prog 14) (mkE (eT n g (.slc n0T 0 i i false 1) i)) ⟨mkB z (lapp (rrT (zrows 300 1 i) csI csW) (bT4 a0 a1 a2 a3 a4 a5 a6)), 2097152⟩ [false] (fun x env h _ => Kv x (obs [6, 7, 17] (actsOf (lapp [(n0T, n0T, .row (zrows 300 1 i) 22 true []), (30, 30, .row csI 22 true []), (31, 31, .row csW 22 true [])] []) []) (lapp [(n0T, n0T, .row (zrows 300 1 i) 22 true []), (30, 30, .row csI 22 true []), (31, 31, .row csW 22 true [])] []) [] env h)) = (bcase (dcq false (ltI (Int.ofNat i) (Int.ofNat n))) (Kv (.ext 2) (expsR n0T (kpOf z) [(6, .nils), (7, .int .i64 (Int.ofNat 0)), (17, .slc n0T 0 i i false 1)] [(n0T, n0T, .row (zrows 300 1 i) 22 true []), (30, 30, .row csI 22 true []), (31, 31, .row csW 22 true [])] [] [] z [(some (.row (zrows 300 1 i) 22 true []), true), (some (.row csI 22 true []), true), (some (.row csW 22 true []), true)])) False) := by kernel_rfl
theorem xT_5 (z : T Blk) (csI csW : List AV) (n i : Nat) (g : Nat → CV) (a0 : Int) (a1 : Int) (a2 : Int) (a3 : Int) (Kv : XE → Obs → Prop) : xcode C1 Tryz.prog F 14 (loopC Tryz.prog 14 22) (mask 14) (tmpsN Tryz.prog 14) (mkE (eT n g (.slc n0T 0 i i false 1) i)) ⟨mkB z (lapp (rrT (zrows 300 1 i) csI csW) (bT5 a0 a1 a2 a3)), 2097152⟩ [false] (fun x env h _ => Kv x (obs [6, 7, 17] (actsOf (lapp [(n0T, n0T, .row (zrows 300 1 i) 22 true []), (30, 30, .row csI 22 true []), (31, 31, .row csW 22 true [])] []) []) (lapp [(n0T, n0T, .row (zrows 300 1 i) 22 true []), (30, 30, .row csI 22 true []), (31, 31, .row csW 22 true [])] []) [] env h)) = (bcase (dcq false (ltI (Int.ofNat i) (Int.ofNat n))) (Kv (.ext 2) (expsR n0T (kpOf z) [(6, .nils), (7, .int .i64 (Int.ofNat 0)), (17, .slc n0T 0 i i false 1)] [(n0T, n0T, .row (zrows 300 1 i) 22 true []), (30, 30, .row csI 22 true []), (31, 31, .row csW 22 true [])] [] [] z [(some (.row (zrows 300 1 i) 22 true []), true), (some (.row csI 22 true []), true), (some (.row csW 22 true []), true)])) False) := by kernel_rfl
end
end Go.Proofs.YtkfhjobebhdpoaaGreat
/- Stream: what the rounds of Run's loop do. -/
set_option autoImplicit false
set_option maxRecDepth 1000000
set_option maxHeartbeats 2000000
set_option linter.unusedVariables false
namespace Go.Proofs.YtkfhjobebhdpoaaGreat
noncomputable section
open Go.X
/-- in which state it is at the beginning of a tick, and what the counters are -/
def nxT (b : Bool) (s : Int × Int × Int) : Int × Int × Int := Bool.rec (if s.1 = 0 then (0, (s.2.1 + 1), s.2.2) else (1, s.2.1, (s.2.2 + 1))) (if s.1 = 0 then (1, s.2.1, 101) else (0, 1, s.2.2)) b
def vlT (b : Bool) (s : Int × Int × Int) : Int := Bool.rec (if s.1 = 0 then s.2.1 else s.2.2) (if s.1 = 0 then 100 else 0) b
def st3T (l : Nat → Bool) : Nat → Int × Int × Int := fun i => Nat.rec (0, 0, 100) (fun j ih => nxT (l j) ih) i
def nowT (l : Nat → Bool) (i : Nat) : Int := (st3T l i).1
def uT (l : Nat → Bool) (i : Nat) : Int := (st3T l i).2.1
def vT (l : Nat → Bool) (i : Nat) : Int := (st3T l i).2.2
def valT (l : Nat → Bool) (j : Nat) : Int := vlT (l j) (st3T l j)
theorem stepT_false {l : Nat → Bool} {i : Nat} (h : l i = false) : (nowT l i = 0 → nowT l (i + 1) = 0 ∧ uT l (i + 1) = (uT l i + 1) ∧ vT l (i + 1) = vT l i ∧ valT l i = uT l i) ∧ (nowT l i ≠ 0 → nowT l (i + 1) = 1 ∧ uT l (i + 1) = uT l i ∧ vT l (i + 1) = (vT l i + 1) ∧ valT l i = vT l i) := by
  have e : st3T l (i + 1) = nxT (l i) (st3T l i) := rfl
  unfold nowT uT vT valT
  rw [e, h]
  refine ⟨fun k => ?_, fun k => ?_⟩
  · have e1 : nxT false (st3T l i) = _ := if_pos k
    have e2 : vlT false (st3T l i) = _ := if_pos k
    rw [e1, e2]; exact ⟨rfl, rfl, rfl, rfl⟩
  · have e1 : nxT false (st3T l i) = _ := if_neg k
    have e2 : vlT false (st3T l i) = _ := if_neg k
    rw [e1, e2]; exact ⟨rfl, rfl, rfl, rfl⟩
theorem stepT_true {l : Nat → Bool} {i : Nat} (h : l i = true) : (nowT l i = 0 → nowT l (i + 1) = 1 ∧ uT l (i + 1) = uT l i ∧ vT l (i + 1) = 101 ∧ valT l i = 100) ∧ (nowT l i ≠ 0 → nowT l (i + 1) = 0 ∧ uT l (i + 1) = 1 ∧ vT l (i + 1) = vT l i ∧ valT l i = 0) := by
  have e : st3T l (i + 1) = nxT (l i) (st3T l i) := rfl
  unfold nowT uT vT valT
  rw [e, h]
  refine ⟨fun k => ?_, fun k => ?_⟩
  · have e1 : nxT true (st3T l i) = _ := if_pos k
    have e2 : vlT true (st3T l i) = _ := if_pos k
    rw [e1, e2]; exact ⟨rfl, rfl, rfl, rfl⟩
  · have e1 : nxT true (st3T l i) = _ := if_neg k
    have e2 : vlT true (st3T l i) = _ := if_neg k
    rw [e1, e2]; exact ⟨rfl, rfl, rfl, rfl⟩
theorem stepT_false0 {l : Nat → Bool} (h : l 0 = false) : (nowT l 0 = 0 → nowT l 1 = 0 ∧ uT l 1 = (uT l 0 + 1) ∧ vT l 1 = vT l 0 ∧ valT l 0 = uT l 0) ∧ (nowT l 0 ≠ 0 → nowT l 1 = 1 ∧ uT l 1 = uT l 0 ∧ vT l 1 = (vT l 0 + 1) ∧ valT l 0 = vT l 0) := stepT_false h
theorem stepT_true0 {l : Nat → Bool} (h : l 0 = true) : (nowT l 0 = 0 → nowT l 1 = 1 ∧ uT l 1 = uT l 0 ∧ vT l 1 = 101 ∧ valT l 0 = 100) ∧ (nowT l 0 ≠ 0 → nowT l 1 = 0 ∧ uT l 1 = 1 ∧ vT l 1 = vT l 0 ∧ valT l 0 = 0) := stepT_true h
theorem leT (l : Nat → Bool) : ∀ i : Nat, (nowT l i = 0 ∨ nowT l i = 1) ∧ 0 ≤ uT l i ∧ uT l i ≤ i ∧ 100 ≤ vT l i ∧ vT l i ≤ 100 + i
  | 0 => ⟨.inl rfl, Int.le_refl _, Int.le_refl _, Int.le_refl _, Int.le_refl _⟩
  | i + 1 => by
    have ih := leT l i
    cases h : l i with
    | true => have := stepT_true h; omega
    | false => have := stepT_false h; omega
def inRowT (l : Nat → Bool) (j : Nat) : Blk := .row [.int .i64 (bi (l j))] 3 true []
def outT (l : Nat → Bool) (j : Nat) : Blk := rowT [.int .i64 (valT l j)]
theorem outT_int (l : Nat → Bool) (j : Nat) : IntRow (outT l j) := ⟨[valT l j], 3, true, rfl⟩
/-- the zone that holds the rows of the inputs and those that are wanted -/
structure ZinT (l : Nat → Bool) (n : Nat) (z : T Blk) : Prop where
  ins : ∀ j, j < n → z.get j = some (inRowT l j)
  want : ∀ j, j < n → z.get (100 + j) = some (outT l j)
  only : ∀ x k, z.get x = some k → x < 200 ∧ IntRow k
theorem blksT0 : blksN n0T (bT0) = true := by kernel_rfl
theorem getT0 (z : T Blk) (csI csW : List AV) : T.get (mkB z (lapp (rr0T csI csW) bT0)) 30 = some (.row csI 22 true []) := by kernel_rfl
theorem zgT0 (z : T Blk) (csI csW : List AV) : zget (mkB z (lapp (rr0T csI csW) bT0)) 12 = z := by kernel_rfl
theorem getT1 (z : T Blk) (cs csI csW : List AV) (a0 : Int) (a1 : Int) : T.get (mkB z (lapp (rrT cs csI csW) (bT1 a0 a1))) 30 = some (.row csI 22 true []) := by kernel_rfl
theorem zgT1 (z : T Blk) (cs csI csW : List AV) (a0 : Int) (a1 : Int) : zget (mkB z (lapp (rrT cs csI csW) (bT1 a0 a1))) 12 = z := by kernel_rfl
theorem getT2 (z : T Blk) (cs csI csW : List AV) (a0 : Int) (a1 : Int) (a2 : Int) (a3 : Int) (a4 : Int) (a5 : Int) : T.get (mkB z (lapp (rrT cs csI csW) (bT2 a0 a1 a2 a3 a4 a5))) 30 = some (.row csI 22 true []) := by kernel_rfl
theorem zgT2 (z : T Blk) (cs csI csW : List AV) (a0 : Int) (a1 : Int) (a2 : Int) (a3 : Int) (a4 : Int) (a5 : Int) : zget (mkB z (lapp (rrT cs csI csW) (bT2 a0 a1 a2 a3 a4 a5))) 12 = z := by kernel_rfl
theorem getT3 (z : T Blk) (cs csI csW : List AV) (a0 : Int) (a1 : Int) (a2 : Int) (a3 : Int) (a4 : Int) (a5 : Int) (a6 : Int) : T.get (mkB z (lapp (rrT cs csI csW) (bT3 a0 a1 a2 a3 a4 a5 a6))) 30 = some (.row csI 22 true []) := by kernel_rfl
theorem zgT3 (z : T Blk) (cs csI csW : List AV) (a0 : Int) (a1 : Int) (a2 : Int) (a3 : Int) (a4 : Int) (a5 : Int) (a6 : Int) : zget (mkB z (lapp (rrT cs csI csW) (bT3 a0 a1 a2 a3 a4 a5 a6))) 12 = z := by kernel_rfl
theorem getT4 (z : T Blk) (cs csI csW : List AV) (a0 : Int) (a1 : Int) (a2 : Int) (a3 : Int) (a4 : Int) (a5 : Int) (a6 : Int) : T.get (mkB z (lapp (rrT cs csI csW) (bT4 a0 a1 a2 a3 a4 a5 a6))) 30 = some (.row csI 22 true []) := by kernel_rfl
theorem zgT4 (z : T Blk) (cs csI csW : List AV) (a0 : Int) (a1 : Int) (a2 : Int) (a3 : Int) (a4 : Int) (a5 : Int) (a6 : Int) : zget (mkB z (lapp (rrT cs csI csW) (bT4 a0 a1 a2 a3 a4 a5 a6))) 12 = z := by kernel_rfl
theorem getT5 (z : T Blk) (cs csI csW : List AV) (a0 : Int) (a1 : Int) (a2 : Int) (a3 : Int) : T.get (mkB z (lapp (rrT cs csI csW) (bT5 a0 a1 a2 a3))) 30 = some (.row csI 22 true []) := by kernel_rfl
theorem zgT5 (z : T Blk) (cs csI csW : List AV) (a0 : Int) (a1 : Int) (a2 : Int) (a3 : Int) : zget (mkB z (lapp (rrT cs csI csW) (bT5 a0 a1 a2 a3))) 12 = z := by kernel_rfl
/-- the zone as far as round i -/
def zoT (l : Nat → Bool) (z : T Blk) (i : Nat) : T Blk := zgrow z 300 (outT l) i
theorem zoT_ok {l : Nat → Bool} {n : Nat} {z : T Blk} (Zs : ZinT l n z) {i : Nat} (hi : i ≤ 60) : ZoneOK (zoT l z i) 2097152 := by
  refine zgrow_ok (fun x k h => ?_) fun j hj => ⟨outT_int l j, by rw [zn_eq]; omega, by rw [zn_eq]; show _ < 1000000000000; omega⟩
  obtain ⟨a, b⟩ := Zs.only x k h
  exact ⟨b, by rw [zn_eq]; omega, by rw [zn_eq]; show _ < 1000000000000; omega⟩
theorem zoT_low {l : Nat → Bool} {z : T Blk} {i x : Nat} (hx : x < 300) : (zoT l z i).get x = z.get x := zgrow_old (.inl hx)
theorem belT_I {n : Nat} (hn : n ≤ 60) : belL 2097152 (zrowsT 0 1 n) = true := belL_slc _ _ _ _ _ fun j hj => by have := List.mem_range.1 hj; rw [zn_eq]; omega
theorem belT_W {n : Nat} (hn : n ≤ 60) : belL 2097152 (zrowsT 100 1 n) = true := belL_slc _ _ _ _ _ fun j hj => by have := List.mem_range.1 hj; rw [zn_eq]; omega
theorem belT_O {i : Nat} (hi : i ≤ 60) : belL 2097152 (zrows 300 1 i) = true := belL_slc _ _ _ _ _ fun j hj => by have := List.mem_range.1 hj; rw [zn_eq]; omega
/-- the state that shape B makes at round i -/
def stT (l : Nat → Bool) (n : Nat) (z : T Blk) (i : Nat) (g : Nat → CV) (B : List (Nat × Blk)) : ZS := ⟨eT n g (.slc n0T 0 i i false 1) i, lapp (rrT (zrows 300 1 i) (zrowsT 0 1 n) (zrowsT 100 1 n)) B, zoT l z i, 2097152⟩
def finT (l : Nat → Bool) (n : Nat) (z : T Blk) : ZS := ⟨[(6, .nils), (7, .int .i64 (Int.ofNat 0)), (17, .slc n0T 0 n n false 1)], rrT (zrows 300 1 n) (zrowsT 0 1 n) (zrowsT 100 1 n), zoT l z n, 2097152⟩
theorem keepIT {l : Nat → Bool} {n : Nat} {z : T Blk} (Zs : ZinT l n z) (hn : n ≤ 60) {i : Nat} {A Zn : List (Nat × Nat × Blk)} (hA : okLit n0T 2097152 A = true) (hZ : ∀ p ∈ Zn, 300 ≤ p.1) :
    renL (szs n0T (namesOf A Zn) (kpOf (zoT l z i))) (zrowsT 0 1 n) = (zrowsT 0 1 n) ∧ renL (szs n0T (namesOf A Zn) (kpOf (zoT l z i))) (zrowsT 100 1 n) = (zrowsT 100 1 n) := by
  constructor
  · unfold zrowsT
    rw [renL_slc]
    refine List.map_congr_left fun j hj => ?_
    have hj := List.mem_range.1 hj
    rw [szs_zone hA (k := inRowT l j) (by rw [zoT_low (by omega), Nat.zero_add]; exact Zs.ins j hj) (fun p hp e => by have := hZ p hp; omega)]
  · unfold zrowsT
    rw [renL_slc]
    refine List.map_congr_left fun j hj => ?_
    have hj := List.mem_range.1 hj
    rw [szs_zone hA (k := outT l j) (by rw [zoT_low (by omega)]; exact Zs.want j hj) (fun p hp e => by have := hZ p hp; omega)]
def usefTT (l : Nat → Bool) (n : Nat) (z : T Blk) (b : List Int) (d : List Bool) (B B2 : List (Nat × Blk)) : Prop :=
  cIT (hfT z (zrowsT 0 1 n) (zrowsT 100 1 n) B) 0 (zn 0) b → cRT (hfT z (zrowsT 0 1 n) (zrowsT 100 1 n) B) (zn 0) b → ∀ {K : KE}, (∀ env h ds σ, Abs n0T σ (stT l n z 1 (ggT (zn 0) b) B2).env (stT l n z 1 (ggT (zn 0) b) B2).h env h → K .nrm env h ds) → goT (hfT z (zrowsT 0 1 n) (zrowsT 100 1 n) B) n 0 (zn 0) .nils b d K
theorem usefGT {l : Nat → Bool} {n : Nat} {z : T Blk} {b : List Int} {d : List Bool} {B B2 : List (Nat × Blk)} {ks : List Nat} {oa ra : Nat} {rw : List AV} {C : Prop → Prop} (ho1 : okLit n0T 2097152 [(n0T, oa, .row [] 22 true [])] = true) (Zs : ZinT l n z) (hn : n ≤ 60) (hi : 0 < n)
    (ht : ∀ Kv, goT (hfT z (zrowsT 0 1 n) (zrowsT 100 1 n) B) n 0 (zn 0) .nils b d (obfT (zrowsT 0 1 n) (zrowsT 100 1 n) (zipA B2 ks) oa ra rw Kv) = hdT (hfT z (zrowsT 0 1 n) (zrowsT 100 1 n) B) n 0 0 (zn 0) b (C (lffT z (zrowsT 0 1 n) (zrowsT 100 1 n) n (zn 0) b (zipA B2 ks) oa ra rw Kv)))
    (hC : ∀ t, t → C t) (hl : okLit n0T 2097152 (zipA B2 ks) = true) (hk : nodupQ (lmap (fun p => p.1) (lapp (RT (zrowsT 0 1 n) (zrowsT 100 1 n) oa 1) (zipA B2 ks))) = true) (ha : nodupQ (actsOf (lapp (RT (zrowsT 0 1 n) (zrowsT 100 1 n) oa 1) (zipA B2 ks)) [(300, ra, rowT rw)]) = true)
    (r1 : 1049473 ≤ ra) (r2 : ra < 1000000000000) (r3 : ra % 4096 ≠ 4095) (hint : IntRow (rowT rw)) (hrow : rowT rw = outT l 0) : usefTT l n z b d B B2 := by
  intro hcI hcR K hK
  have hlit : okLit n0T 2097152 (lapp (RT (zrowsT 0 1 n) (zrowsT 100 1 n) oa 1) (zipA B2 ks)) = true := okLit_row ho1 (belT_O (by omega)) (okLit_row rfl (belT_I hn) (okLit_row rfl (belT_W hn) hl))
  have hZ3 : ∀ p ∈ ([(300, ra, rowT rw)] : List (Nat × Nat × Blk)), 300 ≤ p.1 := fun p hp => by rw [List.mem_singleton.1 hp]; show 300 ≤ 300; omega
  have hnd : (([(300, ra, rowT rw)] : List (Nat × Nat × Blk)).map (·.1)).Nodup := by simp
  have k1 := keepIT Zs hn (i := 0) hlit hZ3
  refine round_use2 good1.spl ht ?_
  refine bcase_tt (dcq_lt (by simp only [Int.ofNat_eq_natCast]; omega)) (bcase_tt (inB_of hi) ⟨hcI, hcR, hC _ ?_⟩)
  have leaf : ∀ (env : Env) (h : H) (ds : List Bool), obs [6, 7, 16, 17, 71, 72, 73] (actsOf (lapp (RT (zrowsT 0 1 n) (zrowsT 100 1 n) oa 1) (zipA B2 ks)) [(300, ra, rowT rw)]) (lapp (RT (zrowsT 0 1 n) (zrowsT 100 1 n) oa 1) (zipA B2 ks)) [(300, ra, rowT rw)] env h = expsR n0T (kpOf z) (eT n (ggT (zn 0) b) (.slc n0T 0 1 1 false 1) 1) (RT (zrowsT 0 1 n) (zrowsT 100 1 n) oa 1) (zipA B2 ks) [(300, ra, rowT rw)] z (rawT (zrowsT 0 1 n) (zrowsT 100 1 n) [.slc ra 0 1 1 false 1]) → K .nrm env h ds := by
    intro env h ds ho
    have fin : ∃ σ, Abs n0T σ (stT l n z 1 (ggT (zn 0) b) B2).env (stT l n z 1 (ggT (zn 0) b) B2).h env h := by
      rw [expsR_eq] at ho
      · exact NewOK.abs (t := (stT l n z 1 (ggT (zn 0) b) B2)) (A := lapp (RT (zrowsT 0 1 n) (zrowsT 100 1 n) oa 1) (zipA B2 ks)) (Z := [(300, ra, rowT rw)]) (z := z)
          ⟨by rw [lmap_app, zipA_B]; rfl, by show T.set z (outT l 0) (300 + 0) = T.set z (rowT rw) 300; rw [hrow], by show 1049473 ≤ 2097152; decide, by kernel_rfl, hlit, hk, ha,
            fun p hp => by
              rw [List.mem_singleton.1 hp]
              exact ⟨by show 1049473 ≤ zn 300; rw [zn_eq]; omega, by show zn 300 < 2097152; rw [zn_eq]; omega, r1, r2, r3, hint⟩,
            hnd, by have := zoT_ok Zs (i := 0) (by omega); exact this⟩ rfl rfl rfl rfl ho
      · have e1 : [.slc ra 0 1 1 false 1] = renL (szs n0T (namesOf (lapp (RT (zrowsT 0 1 n) (zrowsT 100 1 n) oa 1) (zipA B2 ks)) [(300, ra, rowT rw)]) (kpOf z)) (zrows 300 1 1) := by
          refine zrows_grow (i := 0) (fun j hj => ?_) (szs_row hlit (by show 1049473 ≤ zn (300 + 0); rw [zn_eq]; omega) (List.mem_singleton.2 rfl) hnd)
          omega
        show [(some (Blk.row _ _ _ _), true), (some (Blk.row _ _ _ _), true), (some (Blk.row _ _ _ _), true)] = [(some (Blk.row (renL _ _) _ _ _), true), (some (Blk.row (renL _ _) _ _ _), true), (some (Blk.row (renL _ _) _ _ _), true)]
        rw [← e1]
        have k1 := k1
        change renL (szs n0T (namesOf _ _) (kpOf z)) _ = _ ∧ renL (szs n0T (namesOf _ _) (kpOf z)) _ = _ at k1
        rw [k1.1, k1.2]; rfl
    exact fin.elim fun σ ab => hK env h ds σ ab
  exact leaf
def useTT (l : Nat → Bool) (n : Nat) (z : T Blk) (i : Nat) (b : List Int) (d : List Bool) (B B2 : List (Nat × Blk)) : Prop :=
  cIT (hT (zoT l z i) (zrowsT 0 1 n) (zrowsT 100 1 n) i B) (ixT i) (zn i) b → cRT (hT (zoT l z i) (zrowsT 0 1 n) (zrowsT 100 1 n) i B) (zn i) b → ∀ {K : KE}, (∀ env h ds σ, Abs n0T σ (stT l n z (i + 1) (ggT (zn i) b) B2).env (stT l n z (i + 1) (ggT (zn i) b) B2).h env h → K .nrm env h ds) → goT (hT (zoT l z i) (zrowsT 0 1 n) (zrowsT 100 1 n) i B) n i (zn i) (.slc n0T 0 i i false 1) b d K
theorem useGT {l : Nat → Bool} {n : Nat} {z : T Blk} {i : Nat} {b : List Int} {d : List Bool} {B B2 : List (Nat × Blk)} {ks : List Nat} {oa ra : Nat} {rw : List AV} {C : Prop → Prop} (ho1 : okLit n0T 2097152 [(n0T, oa, .row [] 22 true [])] = true) (Zs : ZinT l n z) (hn : n ≤ 60) (hi : i < n)
    (ht : ∀ Kv, goT (hT (zoT l z i) (zrowsT 0 1 n) (zrowsT 100 1 n) i B) n i (zn i) (.slc n0T 0 i i false 1) b d (obT (zrowsT 0 1 n) (zrowsT 100 1 n) i (zipA B2 ks) oa ra rw Kv) = hdT (hT (zoT l z i) (zrowsT 0 1 n) (zrowsT 100 1 n) i B) n i (ixT i) (zn i) b (C (ttT i (lfT (zoT l z i) (zrowsT 0 1 n) (zrowsT 100 1 n) n i (zn i) b (zipA B2 ks) oa ra rw Kv))))
    (hC : ∀ t, t → C t) (hl : okLit n0T 2097152 (zipA B2 ks) = true) (hk : nodupQ (lmap (fun p => p.1) (lapp (RT (zrowsT 0 1 n) (zrowsT 100 1 n) oa (i + 1)) (zipA B2 ks))) = true) (ha : nodupQ (actsOf (lapp (RT (zrowsT 0 1 n) (zrowsT 100 1 n) oa (i + 1)) (zipA B2 ks)) [((300 + i), ra, rowT rw)]) = true)
    (r1 : 1049473 ≤ ra) (r2 : ra < 1000000000000) (r3 : ra % 4096 ≠ 4095) (hint : IntRow (rowT rw)) (hrow : rowT rw = outT l i) : useTT l n z i b d B B2 := by
  intro hcI hcR K hK
  have hlit : okLit n0T 2097152 (lapp (RT (zrowsT 0 1 n) (zrowsT 100 1 n) oa (i + 1)) (zipA B2 ks)) = true := okLit_row ho1 (belT_O (by omega)) (okLit_row rfl (belT_I hn) (okLit_row rfl (belT_W hn) hl))
  have hZ3 : ∀ p ∈ ([((300 + i), ra, rowT rw)] : List (Nat × Nat × Blk)), 300 ≤ p.1 := fun p hp => by rw [List.mem_singleton.1 hp]; show 300 ≤ 300 + i; omega
  have hnd : (([((300 + i), ra, rowT rw)] : List (Nat × Nat × Blk)).map (·.1)).Nodup := by simp
  have k1 := keepIT Zs hn (i := i) hlit hZ3
  refine round_use2 good1.spl ht ?_
  refine bcase_tt (dcq_lt (by simp only [Int.ofNat_eq_natCast]; omega)) (bcase_tt (inB_of hi) ⟨hcI, hcR, hC _ ?_⟩)
  have leaf : ∀ (env : Env) (h : H) (ds : List Bool), obs [6, 7, 16, 17, 71, 72, 73] (actsOf (lapp (RT (zrowsT 0 1 n) (zrowsT 100 1 n) oa (i + 1)) (zipA B2 ks)) [((300 + i), ra, rowT rw)]) (lapp (RT (zrowsT 0 1 n) (zrowsT 100 1 n) oa (i + 1)) (zipA B2 ks)) [((300 + i), ra, rowT rw)] env h = expsR n0T (kpOf (zoT l z i)) (eT n (ggT (zn i) b) (.slc n0T 0 (i + 1) (i + 1) false 1) (i + 1)) (RT (zrowsT 0 1 n) (zrowsT 100 1 n) oa (i + 1)) (zipA B2 ks) [((300 + i), ra, rowT rw)] (zoT l z i) (rawT (zrowsT 0 1 n) (zrowsT 100 1 n) (ocT i ra)) → K .nrm env h ds := by
    intro env h ds ho
    have fin : ∃ σ, Abs n0T σ (stT l n z (i + 1) (ggT (zn i) b) B2).env (stT l n z (i + 1) (ggT (zn i) b) B2).h env h := by
      rw [expsR_eq] at ho
      · exact NewOK.abs (t := (stT l n z (i + 1) (ggT (zn i) b) B2)) (A := lapp (RT (zrowsT 0 1 n) (zrowsT 100 1 n) oa (i + 1)) (zipA B2 ks)) (Z := [((300 + i), ra, rowT rw)]) (z := (zoT l z i))
          ⟨by rw [lmap_app, zipA_B]; rfl, by show T.set (zoT l z i) (outT l i) (300 + i) = T.set (zoT l z i) (rowT rw) (300 + i); rw [hrow], by show 1049473 ≤ 2097152; decide, by kernel_rfl, hlit, hk, ha,
            fun p hp => by
              rw [List.mem_singleton.1 hp]
              exact ⟨by show 1049473 ≤ zn (300 + i); rw [zn_eq]; omega, by show zn (300 + i) < 2097152; rw [zn_eq]; omega, r1, r2, r3, hint⟩,
            hnd, zoT_ok Zs (by omega)⟩ rfl rfl rfl rfl ho
      · have e1 : (ocT i ra) = renL (szs n0T (namesOf (lapp (RT (zrowsT 0 1 n) (zrowsT 100 1 n) oa (i + 1)) (zipA B2 ks)) [((300 + i), ra, rowT rw)]) (kpOf (zoT l z i))) (zrows 300 1 (i + 1)) := by
          refine zrows_grow (i := i) (fun j hj => ?_) (szs_row hlit (by show 1049473 ≤ zn (300 + i); rw [zn_eq]; omega) (List.mem_singleton.2 rfl) hnd)
          exact szs_zone hlit (zgrow_new hj) (fun p hp e => by rw [List.mem_singleton.1 hp] at e; have e : 300 + i = 300 + j := e; omega)
        show [(some (Blk.row _ _ _ _), true), (some (Blk.row _ _ _ _), true), (some (Blk.row _ _ _ _), true)] = [(some (Blk.row (renL _ _) _ _ _), true), (some (Blk.row (renL _ _) _ _ _), true), (some (Blk.row (renL _ _) _ _ _), true)]
        rw [← e1]
        have k1 := k1
        skip
        rw [k1.1, k1.2]; rfl
    exact fin.elim fun σ ab => hK env h ds σ ab
  exact bcase_tt (dcq_cap i) (bcase_tt (appC_ok (by rw [zrows_len]) (by omega)) (bcase_any (bcase_tt (inR_add (by omega)) leaf) (bcase_tt (inR_add (by omega)) leaf)))
theorem useT_0_0 {l : Nat → Bool} {n : Nat} {z : T Blk} (Zs : ZinT l n z) (hn : n ≤ 60) (hi : 0 < n) (hrow : rowT [.int .i64 0] = outT l 0) : usefTT l n z [0] dT_0_0 (bT0) (bT1 1 0) :=
  usefGT (C := fun t => t) (by kernel_rfl) Zs hn hi (fun Kv => tT_0_0 _ _ _ _ _ Kv) (fun t x => x) (by kernel_rfl) (by kernel_rfl) (by kernel_rfl) (by decide) (by decide) (by decide) ⟨[0], 3, true, rfl⟩ hrow
theorem useT_1_0 {l : Nat → Bool} {n : Nat} {z : T Blk} (Zs : ZinT l n z) (hn : n ≤ 60) {i : Nat} (hi : i < n) (a0 : Int) (a1 : Int) (ha0 : 0 ≤ a0) (ha0' : a0 ≤ 170) (hrow : rowT [.int .i64 a0] = outT l i) : useTT l n z i [0] dT_1_0 (bT1 a0 a1) (bT1 (a0 + 1) a0) :=
  useGT (C := fun t => bcase (inR .i64 (a0 + 1)) (bcase (dcq false (eqI a0 (a0 + 1))) (bcase (dcq false (eqI a0 (a0 + 1))) (bcase (dcq true (eqI (a0 + 1) (a0 + 1))) (bcase (dcq false (eqI a0 (a0 + 1))) (bcase (dcq false (eqI a0 (a0 + 1))) (bcase (dcq true (eqI (a0 + 1) (a0 + 1))) (bcase (dcq true (eqI (a0 + 1) (a0 + 1))) (bcase (dcq true (eqI (a0 + 1) (a0 + 1))) (bcase (inR .u8 a0) (bcase (inR .i64 a0) (bcase (dcq true (eqI a0 a0)) (bcase (inR .i64 (a0 + 1)) (bcase (inR .u8 (a0 + 1)) (bcase (inR .i64 (a0 + 1)) (t) False) False) False) False) False) False) False) False) False) False) False) False) False) False) False) (by kernel_rfl) Zs hn hi (fun Kv => tT_1_0 _ _ _ _ _ _ a0 a1 Kv) (fun t x => bcase_tt (inR_i64 (by omega) (by omega)) (bcase_tt (dcq_ne (by omega)) (bcase_tt (dcq_ne (by omega)) (bcase_tt (dcq_eq (by omega)) (bcase_tt (dcq_ne (by omega)) (bcase_tt (dcq_ne (by omega)) (bcase_tt (dcq_eq (by omega)) (bcase_tt (dcq_eq (by omega)) (bcase_tt (dcq_eq (by omega)) (bcase_tt (inR_u8 (by omega) (by omega)) (bcase_tt (inR_i64 (by omega) (by omega)) (bcase_tt (dcq_eq (by omega)) (bcase_tt (inR_i64 (by omega) (by omega)) (bcase_tt (inR_u8 (by omega) (by omega)) (bcase_tt (inR_i64 (by omega) (by omega)) (x)))))))))))))))) (by kernel_rfl) (by kernel_rfl) (by kernel_rfl) (by decide) (by decide) (by decide) ⟨[a0], 3, true, rfl⟩ hrow
theorem useT_1_1 {l : Nat → Bool} {n : Nat} {z : T Blk} (Zs : ZinT l n z) (hn : n ≤ 60) {i : Nat} (hi : i < n) (a0 : Int) (a1 : Int) (ha0 : 0 ≤ a0) (ha0' : a0 ≤ 170) (hrow : rowT [.int .i64 100] = outT l i) : useTT l n z i [1] dT_1_1 (bT1 a0 a1) (bT2 (a0 + 1) 100 1 a0 a1 101) :=
  useGT (C := fun t => bcase (inR .i64 (a0 + 1)) (bcase (dcq false (eqI a0 (a0 + 1))) (bcase (dcq false (eqI a0 (a0 + 1))) (bcase (dcq true (eqI (a0 + 1) (a0 + 1))) (bcase (dcq false (eqI 0 (a0 + 1))) (bcase (dcq false (eqI 0 (a0 + 1))) (bcase (dcq true (eqI (a0 + 1) (a0 + 1))) (bcase (dcq true (eqI (a0 + 1) (a0 + 1))) (bcase (dcq true (eqI (a0 + 1) (a0 + 1))) (t) False) False) False) False) False) False) False) False) False) (by kernel_rfl) Zs hn hi (fun Kv => tT_1_1 _ _ _ _ _ _ a0 a1 Kv) (fun t x => bcase_tt (inR_i64 (by omega) (by omega)) (bcase_tt (dcq_ne (by omega)) (bcase_tt (dcq_ne (by omega)) (bcase_tt (dcq_eq (by omega)) (bcase_tt (dcq_ne (by omega)) (bcase_tt (dcq_ne (by omega)) (bcase_tt (dcq_eq (by omega)) (bcase_tt (dcq_eq (by omega)) (bcase_tt (dcq_eq (by omega)) (x)))))))))) (by kernel_rfl) (by kernel_rfl) (by kernel_rfl) (by decide) (by decide) (by decide) ⟨[100], 3, true, rfl⟩ hrow
theorem useT_2_1 {l : Nat → Bool} {n : Nat} {z : T Blk} (Zs : ZinT l n z) (hn : n ≤ 60) {i : Nat} (hi : i < n) (a0 : Int) (a1 : Int) (a2 : Int) (a3 : Int) (a4 : Int) (a5 : Int) (ha0 : 0 ≤ a0) (ha0' : a0 ≤ 170) (hrow : rowT [.int .i64 0] = outT l i) : useTT l n z i [1] dT_2_1 (bT2 a0 a1 a2 a3 a4 a5) (bT3 (a0 + 1) 0 1 a0 a1 1 a5) :=
  useGT (C := fun t => bcase (inR .i64 (a0 + 1)) (bcase (dcq false (eqI a0 (a0 + 1))) (bcase (dcq false (eqI a0 (a0 + 1))) (bcase (dcq true (eqI (a0 + 1) (a0 + 1))) (bcase (dcq false (eqI 0 (a0 + 1))) (bcase (dcq false (eqI 0 (a0 + 1))) (bcase (dcq true (eqI (a0 + 1) (a0 + 1))) (bcase (dcq true (eqI (a0 + 1) (a0 + 1))) (bcase (dcq true (eqI (a0 + 1) (a0 + 1))) (t) False) False) False) False) False) False) False) False) False) (by kernel_rfl) Zs hn hi (fun Kv => tT_2_1 _ _ _ _ _ _ a0 a1 a2 a3 a4 a5 Kv) (fun t x => bcase_tt (inR_i64 (by omega) (by omega)) (bcase_tt (dcq_ne (by omega)) (bcase_tt (dcq_ne (by omega)) (bcase_tt (dcq_eq (by omega)) (bcase_tt (dcq_ne (by omega)) (bcase_tt (dcq_ne (by omega)) (bcase_tt (dcq_eq (by omega)) (bcase_tt (dcq_eq (by omega)) (bcase_tt (dcq_eq (by omega)) (x)))))))))) (by kernel_rfl) (by kernel_rfl) (by kernel_rfl) (by decide) (by decide) (by decide) ⟨[0], 3, true, rfl⟩ hrow
theorem useT_3_1 {l : Nat → Bool} {n : Nat} {z : T Blk} (Zs : ZinT l n z) (hn : n ≤ 60) {i : Nat} (hi : i < n) (a0 : Int) (a1 : Int) (a2 : Int) (a3 : Int) (a4 : Int) (a5 : Int) (a6 : Int) (ha0 : 0 ≤ a0) (ha0' : a0 ≤ 170) (hrow : rowT [.int .i64 100] = outT l i) : useTT l n z i [1] dT_3_1 (bT3 a0 a1 a2 a3 a4 a5 a6) (bT4 (a0 + 1) 100 1 a0 a1 a5 101) :=
  useGT (C := fun t => bcase (inR .i64 (a0 + 1)) (bcase (dcq false (eqI a0 (a0 + 1))) (bcase (dcq false (eqI a0 (a0 + 1))) (bcase (dcq true (eqI (a0 + 1) (a0 + 1))) (bcase (dcq false (eqI 0 (a0 + 1))) (bcase (dcq false (eqI 0 (a0 + 1))) (bcase (dcq true (eqI (a0 + 1) (a0 + 1))) (bcase (dcq true (eqI (a0 + 1) (a0 + 1))) (bcase (dcq true (eqI (a0 + 1) (a0 + 1))) (t) False) False) False) False) False) False) False) False) False) (by kernel_rfl) Zs hn hi (fun Kv => tT_3_1 _ _ _ _ _ _ a0 a1 a2 a3 a4 a5 a6 Kv) (fun t x => bcase_tt (inR_i64 (by omega) (by omega)) (bcase_tt (dcq_ne (by omega)) (bcase_tt (dcq_ne (by omega)) (bcase_tt (dcq_eq (by omega)) (bcase_tt (dcq_ne (by omega)) (bcase_tt (dcq_ne (by omega)) (bcase_tt (dcq_eq (by omega)) (bcase_tt (dcq_eq (by omega)) (bcase_tt (dcq_eq (by omega)) (x)))))))))) (by kernel_rfl) (by kernel_rfl) (by kernel_rfl) (by decide) (by decide) (by decide) ⟨[100], 3, true, rfl⟩ hrow
theorem useT_4_0 {l : Nat → Bool} {n : Nat} {z : T Blk} (Zs : ZinT l n z) (hn : n ≤ 60) {i : Nat} (hi : i < n) (a0 : Int) (a1 : Int) (a2 : Int) (a3 : Int) (a4 : Int) (a5 : Int) (a6 : Int) (ha0 : 0 ≤ a0) (ha0' : a0 ≤ 170) (ha6 : 0 ≤ a6) (ha6' : a6 ≤ 170) (hrow : rowT [.int .i64 a6] = outT l i) : useTT l n z i [0] dT_4_0 (bT4 a0 a1 a2 a3 a4 a5 a6) (bT4 (a0 + 1) a6 0 a3 a4 a5 (a6 + 1)) :=
  useGT (C := fun t => bcase (inR .i64 (a0 + 1)) (bcase (dcq false (eqI a0 (a0 + 1))) (bcase (dcq false (eqI a0 (a0 + 1))) (bcase (dcq true (eqI (a0 + 1) (a0 + 1))) (bcase (dcq false (eqI a0 (a0 + 1))) (bcase (dcq false (eqI a0 (a0 + 1))) (bcase (dcq true (eqI (a0 + 1) (a0 + 1))) (bcase (dcq true (eqI (a0 + 1) (a0 + 1))) (bcase (dcq true (eqI (a0 + 1) (a0 + 1))) (bcase (inR .u8 a6) (bcase (inR .i64 a6) (bcase (dcq true (eqI a6 a6)) (bcase (inR .i64 (a6 + 1)) (bcase (inR .u8 (a6 + 1)) (bcase (inR .i64 (a6 + 1)) (t) False) False) False) False) False) False) False) False) False) False) False) False) False) False) False) (by kernel_rfl) Zs hn hi (fun Kv => tT_4_0 _ _ _ _ _ _ a0 a1 a2 a3 a4 a5 a6 Kv) (fun t x => bcase_tt (inR_i64 (by omega) (by omega)) (bcase_tt (dcq_ne (by omega)) (bcase_tt (dcq_ne (by omega)) (bcase_tt (dcq_eq (by omega)) (bcase_tt (dcq_ne (by omega)) (bcase_tt (dcq_ne (by omega)) (bcase_tt (dcq_eq (by omega)) (bcase_tt (dcq_eq (by omega)) (bcase_tt (dcq_eq (by omega)) (bcase_tt (inR_u8 (by omega) (by omega)) (bcase_tt (inR_i64 (by omega) (by omega)) (bcase_tt (dcq_eq (by omega)) (bcase_tt (inR_i64 (by omega) (by omega)) (bcase_tt (inR_u8 (by omega) (by omega)) (bcase_tt (inR_i64 (by omega) (by omega)) (x)))))))))))))))) (by kernel_rfl) (by kernel_rfl) (by kernel_rfl) (by decide) (by decide) (by decide) ⟨[a6], 3, true, rfl⟩ hrow
theorem useT_4_1 {l : Nat → Bool} {n : Nat} {z : T Blk} (Zs : ZinT l n z) (hn : n ≤ 60) {i : Nat} (hi : i < n) (a0 : Int) (a1 : Int) (a2 : Int) (a3 : Int) (a4 : Int) (a5 : Int) (a6 : Int) (ha0 : 0 ≤ a0) (ha0' : a0 ≤ 170) (hrow : rowT [.int .i64 0] = outT l i) : useTT l n z i [1] dT_4_1 (bT4 a0 a1 a2 a3 a4 a5 a6) (bT3 (a0 + 1) 0 1 a0 a1 1 a6) :=
  useGT (C := fun t => bcase (inR .i64 (a0 + 1)) (bcase (dcq false (eqI a0 (a0 + 1))) (bcase (dcq false (eqI a0 (a0 + 1))) (bcase (dcq true (eqI (a0 + 1) (a0 + 1))) (bcase (dcq false (eqI 0 (a0 + 1))) (bcase (dcq false (eqI 0 (a0 + 1))) (bcase (dcq true (eqI (a0 + 1) (a0 + 1))) (bcase (dcq true (eqI (a0 + 1) (a0 + 1))) (bcase (dcq true (eqI (a0 + 1) (a0 + 1))) (t) False) False) False) False) False) False) False) False) False) (by kernel_rfl) Zs hn hi (fun Kv => tT_4_1 _ _ _ _ _ _ a0 a1 a2 a3 a4 a5 a6 Kv) (fun t x => bcase_tt (inR_i64 (by omega) (by omega)) (bcase_tt (dcq_ne (by omega)) (bcase_tt (dcq_ne (by omega)) (bcase_tt (dcq_eq (by omega)) (bcase_tt (dcq_ne (by omega)) (bcase_tt (dcq_ne (by omega)) (bcase_tt (dcq_eq (by omega)) (bcase_tt (dcq_eq (by omega)) (bcase_tt (dcq_eq (by omega)) (x)))))))))) (by kernel_rfl) (by kernel_rfl) (by kernel_rfl) (by decide) (by decide) (by decide) ⟨[0], 3, true, rfl⟩ hrow
theorem useT_3_0 {l : Nat → Bool} {n : Nat} {z : T Blk} (Zs : ZinT l n z) (hn : n ≤ 60) {i : Nat} (hi : i < n) (a0 : Int) (a1 : Int) (a2 : Int) (a3 : Int) (a4 : Int) (a5 : Int) (a6 : Int) (ha0 : 0 ≤ a0) (ha0' : a0 ≤ 170) (ha5 : 0 ≤ a5) (ha5' : a5 ≤ 170) (hrow : rowT [.int .i64 a5] = outT l i) : useTT l n z i [0] dT_3_0 (bT3 a0 a1 a2 a3 a4 a5 a6) (bT3 (a0 + 1) a5 0 a3 a4 (a5 + 1) a6) :=
  useGT (C := fun t => bcase (inR .i64 (a0 + 1)) (bcase (dcq false (eqI a0 (a0 + 1))) (bcase (dcq false (eqI a0 (a0 + 1))) (bcase (dcq true (eqI (a0 + 1) (a0 + 1))) (bcase (dcq false (eqI a0 (a0 + 1))) (bcase (dcq false (eqI a0 (a0 + 1))) (bcase (dcq true (eqI (a0 + 1) (a0 + 1))) (bcase (dcq true (eqI (a0 + 1) (a0 + 1))) (bcase (dcq true (eqI (a0 + 1) (a0 + 1))) (bcase (inR .u8 a5) (bcase (inR .i64 a5) (bcase (dcq true (eqI a5 a5)) (bcase (inR .i64 (a5 + 1)) (bcase (inR .u8 (a5 + 1)) (bcase (inR .i64 (a5 + 1)) (t) False) False) False) False) False) False) False) False) False) False) False) False) False) False) False) (by kernel_rfl) Zs hn hi (fun Kv => tT_3_0 _ _ _ _ _ _ a0 a1 a2 a3 a4 a5 a6 Kv) (fun t x => bcase_tt (inR_i64 (by omega) (by omega)) (bcase_tt (dcq_ne (by omega)) (bcase_tt (dcq_ne (by omega)) (bcase_tt (dcq_eq (by omega)) (bcase_tt (dcq_ne (by omega)) (bcase_tt (dcq_ne (by omega)) (bcase_tt (dcq_eq (by omega)) (bcase_tt (dcq_eq (by omega)) (bcase_tt (dcq_eq (by omega)) (bcase_tt (inR_u8 (by omega) (by omega)) (bcase_tt (inR_i64 (by omega) (by omega)) (bcase_tt (dcq_eq (by omega)) (bcase_tt (inR_i64 (by omega) (by omega)) (bcase_tt (inR_u8 (by omega) (by omega)) (bcase_tt (inR_i64 (by omega) (by omega)) (x)))))))))))))))) (by kernel_rfl) (by kernel_rfl) (by kernel_rfl) (by decide) (by decide) (by decide) ⟨[a5], 3, true, rfl⟩ hrow
theorem useT_0_1 {l : Nat → Bool} {n : Nat} {z : T Blk} (Zs : ZinT l n z) (hn : n ≤ 60) (hi : 0 < n) (hrow : rowT [.int .i64 100] = outT l 0) : usefTT l n z [1] dT_0_1 (bT0) (bT5 1 100 1 101) :=
  usefGT (C := fun t => t) (by kernel_rfl) Zs hn hi (fun Kv => tT_0_1 _ _ _ _ _ Kv) (fun t x => x) (by kernel_rfl) (by kernel_rfl) (by kernel_rfl) (by decide) (by decide) (by decide) ⟨[100], 3, true, rfl⟩ hrow
theorem useT_5_0 {l : Nat → Bool} {n : Nat} {z : T Blk} (Zs : ZinT l n z) (hn : n ≤ 60) {i : Nat} (hi : i < n) (a0 : Int) (a1 : Int) (a2 : Int) (a3 : Int) (ha0 : 0 ≤ a0) (ha0' : a0 ≤ 170) (ha3 : 0 ≤ a3) (ha3' : a3 ≤ 170) (hrow : rowT [.int .i64 a3] = outT l i) : useTT l n z i [0] dT_5_0 (bT5 a0 a1 a2 a3) (bT5 (a0 + 1) a3 0 (a3 + 1)) :=
  useGT (C := fun t => bcase (inR .i64 (a0 + 1)) (bcase (dcq false (eqI a0 (a0 + 1))) (bcase (dcq false (eqI a0 (a0 + 1))) (bcase (dcq true (eqI (a0 + 1) (a0 + 1))) (bcase (dcq false (eqI a0 (a0 + 1))) (bcase (dcq false (eqI a0 (a0 + 1))) (bcase (dcq true (eqI (a0 + 1) (a0 + 1))) (bcase (dcq true (eqI (a0 + 1) (a0 + 1))) (bcase (dcq true (eqI (a0 + 1) (a0 + 1))) (bcase (inR .u8 a3) (bcase (inR .i64 a3) (bcase (dcq true (eqI a3 a3)) (bcase (inR .i64 (a3 + 1)) (bcase (inR .u8 (a3 + 1)) (bcase (inR .i64 (a3 + 1)) (t) False) False) False) False) False) False) False) False) False) False) False) False) False) False) False) (by kernel_rfl) Zs hn hi (fun Kv => tT_5_0 _ _ _ _ _ _ a0 a1 a2 a3 Kv) (fun t x => bcase_tt (inR_i64 (by omega) (by omega)) (bcase_tt (dcq_ne (by omega)) (bcase_tt (dcq_ne (by omega)) (bcase_tt (dcq_eq (by omega)) (bcase_tt (dcq_ne (by omega)) (bcase_tt (dcq_ne (by omega)) (bcase_tt (dcq_eq (by omega)) (bcase_tt (dcq_eq (by omega)) (bcase_tt (dcq_eq (by omega)) (bcase_tt (inR_u8 (by omega) (by omega)) (bcase_tt (inR_i64 (by omega) (by omega)) (bcase_tt (dcq_eq (by omega)) (bcase_tt (inR_i64 (by omega) (by omega)) (bcase_tt (inR_u8 (by omega) (by omega)) (bcase_tt (inR_i64 (by omega) (by omega)) (x)))))))))))))))) (by kernel_rfl) (by kernel_rfl) (by kernel_rfl) (by decide) (by decide) (by decide) ⟨[a3], 3, true, rfl⟩ hrow
theorem useT_5_1 {l : Nat → Bool} {n : Nat} {z : T Blk} (Zs : ZinT l n z) (hn : n ≤ 60) {i : Nat} (hi : i < n) (a0 : Int) (a1 : Int) (a2 : Int) (a3 : Int) (ha0 : 0 ≤ a0) (ha0' : a0 ≤ 170) (hrow : rowT [.int .i64 0] = outT l i) : useTT l n z i [1] dT_5_1 (bT5 a0 a1 a2 a3) (bT3 (a0 + 1) 0 1 a0 a1 1 a3) :=
  useGT (C := fun t => bcase (inR .i64 (a0 + 1)) (bcase (dcq false (eqI a0 (a0 + 1))) (bcase (dcq false (eqI a0 (a0 + 1))) (bcase (dcq true (eqI (a0 + 1) (a0 + 1))) (bcase (dcq false (eqI 0 (a0 + 1))) (bcase (dcq false (eqI 0 (a0 + 1))) (bcase (dcq true (eqI (a0 + 1) (a0 + 1))) (bcase (dcq true (eqI (a0 + 1) (a0 + 1))) (bcase (dcq true (eqI (a0 + 1) (a0 + 1))) (t) False) False) False) False) False) False) False) False) False) (by kernel_rfl) Zs hn hi (fun Kv => tT_5_1 _ _ _ _ _ _ a0 a1 a2 a3 Kv) (fun t x => bcase_tt (inR_i64 (by omega) (by omega)) (bcase_tt (dcq_ne (by omega)) (bcase_tt (dcq_ne (by omega)) (bcase_tt (dcq_eq (by omega)) (bcase_tt (dcq_ne (by omega)) (bcase_tt (dcq_ne (by omega)) (bcase_tt (dcq_eq (by omega)) (bcase_tt (dcq_eq (by omega)) (bcase_tt (dcq_eq (by omega)) (x)))))))))) (by kernel_rfl) (by kernel_rfl) (by kernel_rfl) (by decide) (by decide) (by decide) ⟨[0], 3, true, rfl⟩ hrow
theorem useT_2_0 {l : Nat → Bool} {n : Nat} {z : T Blk} (Zs : ZinT l n z) (hn : n ≤ 60) {i : Nat} (hi : i < n) (a0 : Int) (a1 : Int) (a2 : Int) (a3 : Int) (a4 : Int) (a5 : Int) (ha0 : 0 ≤ a0) (ha0' : a0 ≤ 170) (ha5 : 0 ≤ a5) (ha5' : a5 ≤ 170) (hrow : rowT [.int .i64 a5] = outT l i) : useTT l n z i [0] dT_2_0 (bT2 a0 a1 a2 a3 a4 a5) (bT2 (a0 + 1) a5 0 a3 a4 (a5 + 1)) :=
  useGT (C := fun t => bcase (inR .i64 (a0 + 1)) (bcase (dcq false (eqI a0 (a0 + 1))) (bcase (dcq false (eqI a0 (a0 + 1))) (bcase (dcq true (eqI (a0 + 1) (a0 + 1))) (bcase (dcq false (eqI a0 (a0 + 1))) (bcase (dcq false (eqI a0 (a0 + 1))) (bcase (dcq true (eqI (a0 + 1) (a0 + 1))) (bcase (dcq true (eqI (a0 + 1) (a0 + 1))) (bcase (dcq true (eqI (a0 + 1) (a0 + 1))) (bcase (inR .u8 a5) (bcase (inR .i64 a5) (bcase (dcq true (eqI a5 a5)) (bcase (inR .i64 (a5 + 1)) (bcase (inR .u8 (a5 + 1)) (bcase (inR .i64 (a5 + 1)) (t) False) False) False) False) False) False) False) False) False) False) False) False) False) False) False) (by kernel_rfl) Zs hn hi (fun Kv => tT_2_0 _ _ _ _ _ _ a0 a1 a2 a3 a4 a5 Kv) (fun t x => bcase_tt (inR_i64 (by omega) (by omega)) (bcase_tt (dcq_ne (by omega)) (bcase_tt (dcq_ne (by omega)) (bcase_tt (dcq_eq (by omega)) (bcase_tt (dcq_ne (by omega)) (bcase_tt (dcq_ne (by omega)) (bcase_tt (dcq_eq (by omega)) (bcase_tt (dcq_eq (by omega)) (bcase_tt (dcq_eq (by omega)) (bcase_tt (inR_u8 (by omega) (by omega)) (bcase_tt (inR_i64 (by omega) (by omega)) (bcase_tt (dcq_eq (by omega)) (bcase_tt (inR_i64 (by omega) (by omega)) (bcase_tt (inR_u8 (by omega) (by omega)) (bcase_tt (inR_i64 (by omega) (by omega)) (x)))))))))))))))) (by kernel_rfl) (by kernel_rfl) (by kernel_rfl) (by decide) (by decide) (by decide) ⟨[a5], 3, true, rfl⟩ hrow
end
end Go.Proofs.YtkfhjobebhdpoaaGreat
/- Stream: Run's loop over ticks, as a contract (the program of StreamAutomata). -/
set_option autoImplicit false
set_option maxRecDepth 1000000
set_option maxHeartbeats 2000000
set_option linter.unusedVariables false
namespace Go.Proofs.YtkfhjobebhdpoaaGreat
noncomputable section
open Go.X
inductive ST where
  | s0 (g : Nat → CV)
  | s1 (i : Nat) (a0 : Int) (a1 : Int) (g : Nat → CV)
  | s2 (i : Nat) (a0 : Int) (a1 : Int) (a2 : Int) (a3 : Int) (a4 : Int) (a5 : Int) (g : Nat → CV)
  | s3 (i : Nat) (a0 : Int) (a1 : Int) (a2 : Int) (a3 : Int) (a4 : Int) (a5 : Int) (a6 : Int) (g : Nat → CV)
  | s4 (i : Nat) (a0 : Int) (a1 : Int) (a2 : Int) (a3 : Int) (a4 : Int) (a5 : Int) (a6 : Int) (g : Nat → CV)
  | s5 (i : Nat) (a0 : Int) (a1 : Int) (a2 : Int) (a3 : Int) (g : Nat → CV)
def ST.ok (l : Nat → Bool) (n : Nat) : ST → Prop
  | .s0 _ => True
  | .s1 i a0 a1 _ => 1 ≤ i ∧ i ≤ n ∧ nowT l i = 0 ∧ a0 = (i : Int) ∧ a0 = uT l i ∧ vT l i = 100
  | .s2 i a0 a1 a2 a3 a4 a5 _ => 1 ≤ i ∧ i ≤ n ∧ nowT l i = 1 ∧ a0 = (i : Int) ∧ a5 = vT l i
  | .s3 i a0 a1 a2 a3 a4 a5 a6 _ => 1 ≤ i ∧ i ≤ n ∧ nowT l i = 0 ∧ a0 = (i : Int) ∧ a5 = uT l i
  | .s4 i a0 a1 a2 a3 a4 a5 a6 _ => 1 ≤ i ∧ i ≤ n ∧ nowT l i = 1 ∧ a0 = (i : Int) ∧ a6 = vT l i
  | .s5 i a0 a1 a2 a3 _ => 1 ≤ i ∧ i ≤ n ∧ nowT l i = 1 ∧ a0 = (i : Int) ∧ a3 = vT l i ∧ uT l i = 0
def ST.st (l : Nat → Bool) (n : Nat) (z : T Blk) : ST → ZS
  | .s0 g => ⟨eT n g .nils 0, lapp (rr0T (zrowsT 0 1 n) (zrowsT 100 1 n)) bT0, z, n0T⟩
  | .s1 i a0 a1 g => stT l n z i g (bT1 a0 a1)
  | .s2 i a0 a1 a2 a3 a4 a5 g => stT l n z i g (bT2 a0 a1 a2 a3 a4 a5)
  | .s3 i a0 a1 a2 a3 a4 a5 a6 g => stT l n z i g (bT3 a0 a1 a2 a3 a4 a5 a6)
  | .s4 i a0 a1 a2 a3 a4 a5 a6 g => stT l n z i g (bT4 a0 a1 a2 a3 a4 a5 a6)
  | .s5 i a0 a1 a2 a3 g => stT l n z i g (bT5 a0 a1 a2 a3)
def ST.er (l : Nat → Bool) (n : Nat) : ST → List (Nat × AV)
  | .s0 _ => eT n (ggT (zn 0) [bi (l 0)]) .nils 0
  | .s1 i _ _ _ => eT n (ggT (zn i) [bi (l i)]) (.slc n0T 0 i i false 1) i
  | .s2 i _ _ _ _ _ _ _ => eT n (ggT (zn i) [bi (l i)]) (.slc n0T 0 i i false 1) i
  | .s3 i _ _ _ _ _ _ _ _ => eT n (ggT (zn i) [bi (l i)]) (.slc n0T 0 i i false 1) i
  | .s4 i _ _ _ _ _ _ _ _ => eT n (ggT (zn i) [bi (l i)]) (.slc n0T 0 i i false 1) i
  | .s5 i _ _ _ _ _ => eT n (ggT (zn i) [bi (l i)]) (.slc n0T 0 i i false 1) i
def ST.dr (l : Nat → Bool) (n : Nat) : ST → List Bool
  | .s0 _ => (cond (l 0) dT_0_1 dT_0_0)
  | .s1 i _ _ _ => cond (Nat.ble (i + 1) n) (cond (l i) dT_1_1 dT_1_0) [false]
  | .s2 i _ _ _ _ _ _ _ => cond (Nat.ble (i + 1) n) (cond (l i) dT_2_1 dT_2_0) [false]
  | .s3 i _ _ _ _ _ _ _ _ => cond (Nat.ble (i + 1) n) (cond (l i) dT_3_1 dT_3_0) [false]
  | .s4 i _ _ _ _ _ _ _ _ => cond (Nat.ble (i + 1) n) (cond (l i) dT_4_1 dT_4_0) [false]
  | .s5 i _ _ _ _ _ => cond (Nat.ble (i + 1) n) (cond (l i) dT_5_1 dT_5_0) [false]
def ST.mu (n : Nat) : ST → Nat
  | .s0 _ => n + 1
  | .s1 i _ _ _ => n - i
  | .s2 i _ _ _ _ _ _ _ => n - i
  | .s3 i _ _ _ _ _ _ _ _ => n - i
  | .s4 i _ _ _ _ _ _ _ _ => n - i
  | .s5 i _ _ _ _ _ => n - i
theorem pe_eT (n : Nat) (g g' : Nat → CV) (out : AV) (i : Nat) : Pe (eT n g out i) (eT n g' out i) :=
  .cons _ _ _ _ _ (.inl rfl) (.cons _ _ _ _ _ (.inl rfl) (.cons _ _ _ _ _ (.inl rfl) (.cons _ _ _ _ _ (.inl rfl) (.cons _ _ _ _ _ (.inr ⟨_, _, _, _, _, rfl, rfl⟩) (.cons _ _ _ _ _ (.inl rfl) (.cons _ _ _ _ _ (.inl rfl) .nil))))))
theorem done_T1 {l : Nat → Bool} {n : Nat} {z : T Blk} (Zs : ZinT l n z) (hn : n ≤ 60) (R : List (Nat × Nat × Blk)) (hR : R = [(n0T, n0T, .row (zrows 300 1 n) 22 true []), (30, 30, .row (zrowsT 0 1 n) 22 true []), (31, 31, .row (zrowsT 100 1 n) 22 true [])]) {env : Env} {h : H}
    (ho : obs [6, 7, 17] (actsOf (lapp R []) []) (lapp R []) [] env h = expsR n0T (kpOf (zoT l z n)) [(6, .nils), (7, .int .i64 (Int.ofNat 0)), (17, .slc n0T 0 n n false 1)] R [] [] (zoT l z n) [(some (.row (zrows 300 1 n) 22 true []), true), (some (.row (zrowsT 0 1 n) 22 true []), true), (some (.row (zrowsT 100 1 n) 22 true []), true)]) :
    ∃ σ, Abs n0T σ (finT l n z).env (finT l n z).h env h := by
  subst hR
  have hlit : okLit n0T 2097152 (lapp [(n0T, n0T, .row (zrows 300 1 n) 22 true []), (30, 30, .row (zrowsT 0 1 n) 22 true []), (31, 31, .row (zrowsT 100 1 n) 22 true [])] []) = true := okLit_row rfl (belT_O (by omega)) (okLit_row rfl (belT_I hn) (okLit_row rfl (belT_W hn) rfl))
  have k1 := keepIT Zs hn (i := n) (Zn := []) hlit (fun p hp => by cases hp)
  have k2 : renL (szs n0T (namesOf (lapp [(n0T, n0T, .row (zrows 300 1 n) 22 true []), (30, 30, .row (zrowsT 0 1 n) 22 true []), (31, 31, .row (zrowsT 100 1 n) 22 true [])] []) []) (kpOf (zoT l z n))) (zrows 300 1 n) = zrows 300 1 n := by
    exact zrows_keep fun j hj => szs_zone hlit (zgrow_new hj) (fun p hp e => by cases hp)
  rw [expsR_eq] at ho
  · exact NewOK.abs (t := finT l n z) (A := lapp [(n0T, n0T, .row (zrows 300 1 n) 22 true []), (30, 30, .row (zrowsT 0 1 n) 22 true []), (31, 31, .row (zrowsT 100 1 n) 22 true [])] []) (Z := []) (z := zoT l z n)
      ⟨rfl, rfl, by show 1049473 ≤ 2097152; decide, rfl, hlit, rfl, rfl, (fun p hp => (by cases hp)), List.nodup_nil, zoT_ok Zs (by omega)⟩ rfl rfl rfl rfl ho
  · show _ = [(some (Blk.row (renL _ _) _ _ _), true), (some (Blk.row (renL _ _) _ _ _), true), (some (Blk.row (renL _ _) _ _ _), true)]
    rw [k2, k1.1, k1.2]; rfl
theorem belT_I0 {n : Nat} (hn : n ≤ 60) : belL n0T (zrowsT 0 1 n) = true := belL_slc _ (fun j => zn (0 + j)) _ _ _ fun j hj => by have := List.mem_range.1 hj; rw [zn_eq]; show _ < 1049473; omega
theorem belT_W0 {n : Nat} (hn : n ≤ 60) : belL n0T (zrowsT 100 1 n) = true := belL_slc _ (fun j => zn (100 + j)) _ _ _ fun j hj => by have := List.mem_range.1 hj; rw [zn_eq]; show _ < 1049473; omega
theorem loopT_good {C : Cfg} (G : X.Good C Tryz.prog) (hg : C.gl = fun _ => none) (hm : C.mask 14 = mask 14) {l : Nat → Bool} {n : Nat} (hn1 : 1 ≤ n) (hn : n ≤ 60) {z : T Blk} (Zs : ZinT l n z) (g : Nat → CV) :
    X.Good (C.addLc 14 22 (lcZ (S0 := Unit) (fun _ => True) (lmap (fun p => p.1) (eT n g .nils 0)) (lmap (fun p => p.1) (lapp (rr0T (zrowsT 0 1 n) (zrowsT 100 1 n)) bT0)) (fun _ => ST.st l n z (.s0 g)) (fun _ => (.ext 2, finT l n z)))) Tryz.prog := by
  refine G.addZR good1 (by rw [hg]; rfl) (S := ST) (ST.dr l n) (n0 := n0T) (ι := fun _ => .s0 g) (ok := ST.ok l n) (St := ST.st l n z) (ST.er l n) (μ := ST.mu n) (fin := fun _ => (.ext 2, finT l n z)) (fuel := F) hm.symm (by rfl) ?_ ?_ ?_ (fun g i h => by rw [hg] at h; cases h)
  · intro s _
    cases s <;> exact pe_eT ..
  · intro _ _
    refine ⟨trivial, rfl, rfl, ⟨rfl, ?_, ?_, ?_⟩, by show 1049473 ≤ 2097152; decide, rfl, rfl⟩
    · show belEs n0T (eT n g .nils 0) = true
      kernel_rfl
    · exact blksN_app (R := rr0T (zrowsT 0 1 n) (zrowsT 100 1 n)) blksT0 (blksN_row (by show 30 < 1049473; decide) (belT_I0 hn) (blksN_row (by show 31 < 1049473; decide) (belT_W0 hn) rfl))
    · intro x k h
      obtain ⟨a, b⟩ := Zs.only x k h
      exact ⟨b, by rw [zn_eq]; show _ < 1049473; omega, by rw [zn_eq]; show _ < 1000000000000; omega⟩
  · intro s hs
    rw [hm]
    cases s with
    | s0 g0 =>
      have hc := leT l 0
      have z0 : nowT l 0 = 0 := rfl
      have z1 : uT l 0 = 0 := rfl
      have z2 : vT l 0 = 100 := rfl
      cases hb : l 0 with
      | false =>
        have q1 := stepT_false0 hb
        refine ⟨?_⟩
        show xcode C1 Tryz.prog F 14 (loopC Tryz.prog 14 22) (mask 14) (tmpsN Tryz.prog 14) (mkE (eT n (ggT (zn 0) [bi (l 0)]) .nils 0)) _ (cond (l 0) dT_0_1 dT_0_0) _
        rw [hb]
        exact useT_0_0 Zs hn (by omega) (row1_eq (by omega)) (cellI (i := 0) (by omega) (getT0 ..) _) (cellR (zgT0 ..) (by rw [Zs.ins 0 (by omega)]; unfold inRowT; rw [hb]; rfl) _ rfl)
          (fun env h ds σ ab => ⟨.s1 1 1 0 _, σ, ⟨Nat.le_refl _, hn1, by omega, by omega, by omega, by omega⟩, (by show n - 1 < n + 1; omega), rfl, ab⟩)
      | true =>
        have q1 := stepT_true0 hb
        refine ⟨?_⟩
        show xcode C1 Tryz.prog F 14 (loopC Tryz.prog 14 22) (mask 14) (tmpsN Tryz.prog 14) (mkE (eT n (ggT (zn 0) [bi (l 0)]) .nils 0)) _ (cond (l 0) dT_0_1 dT_0_0) _
        rw [hb]
        exact useT_0_1 Zs hn (by omega) (row1_eq (by omega)) (cellI (i := 0) (by omega) (getT0 ..) _) (cellR (zgT0 ..) (by rw [Zs.ins 0 (by omega)]; unfold inRowT; rw [hb]; rfl) _ rfl)
          (fun env h ds σ ab => ⟨.s5 1 1 100 1 101 _, σ, ⟨Nat.le_refl _, hn1, by omega, by omega, by omega, by omega⟩, (by show n - 1 < n + 1; omega), rfl, ab⟩)
    | s1 i a0 a1 g0 =>
      obtain ⟨h1, h2, p0, p1, p2, p3⟩ := hs
      have hc := leT l i
      by_cases hlt : i < n
      · cases hb : l i with
        | false =>
          have q1 := stepT_false hb
          refine ⟨?_⟩
          show xcode C1 Tryz.prog F 14 (loopC Tryz.prog 14 22) (mask 14) (tmpsN Tryz.prog 14) (mkE (eT n (ggT (zn i) [bi (l i)]) (.slc n0T 0 i i false 1) i)) _ (cond (Nat.ble (i + 1) n) (cond (l i) dT_1_1 dT_1_0) [false]) _
          rw [hb, ble_t hlt]
          exact useT_1_0 Zs hn hlt a0 a1 (by omega) (by omega) (row1_eq (by omega)) (cellI hlt (getT1 ..) _) (cellR (zgT1 ..) (by rw [zoT_low (by omega), Zs.ins i hlt]; unfold inRowT; rw [hb]; rfl) _ rfl)
            (fun env h ds σ ab => ⟨.s1 (i + 1) (a0 + 1) a0 _, σ, ⟨by omega, hlt, by omega, by omega, by omega, by omega⟩, (by show n - (i + 1) < n - i; omega), rfl, ab⟩)
        | true =>
          have q1 := stepT_true hb
          refine ⟨?_⟩
          show xcode C1 Tryz.prog F 14 (loopC Tryz.prog 14 22) (mask 14) (tmpsN Tryz.prog 14) (mkE (eT n (ggT (zn i) [bi (l i)]) (.slc n0T 0 i i false 1) i)) _ (cond (Nat.ble (i + 1) n) (cond (l i) dT_1_1 dT_1_0) [false]) _
          rw [hb, ble_t hlt]
          exact useT_1_1 Zs hn hlt a0 a1 (by omega) (by omega) (row1_eq (by omega)) (cellI hlt (getT1 ..) _) (cellR (zgT1 ..) (by rw [zoT_low (by omega), Zs.ins i hlt]; unfold inRowT; rw [hb]; rfl) _ rfl)
            (fun env h ds σ ab => ⟨.s2 (i + 1) (a0 + 1) 100 1 a0 a1 101 _, σ, ⟨by omega, hlt, by omega, by omega, by omega⟩, (by show n - (i + 1) < n - i; omega), rfl, ab⟩)
      · have hin : i = n := by omega
        subst hin
        refine ⟨?_⟩
        show xcode C1 Tryz.prog F 14 (loopC Tryz.prog 14 22) (mask 14) (tmpsN Tryz.prog 14) (mkE (eT i (ggT (zn i) [bi (l i)]) (.slc n0T 0 i i false 1) i)) _ (cond (Nat.ble (i + 1) i) (cond (l i) dT_1_1 dT_1_0) [false]) _
        rw [ble_f (Nat.lt_irrefl i)]
        exact round_use2 good1.spl (fun Kv => xT_1 (zoT l z i) (zrowsT 0 1 i) (zrowsT 100 1 i) i i _ a0 a1 Kv)
          (bcase_tt (dcq_ge (by omega)) (fun env h ds ho => (done_T1 Zs hn _ rfl ho).elim fun σ ab => ⟨σ, rfl, ab⟩))
    | s2 i a0 a1 a2 a3 a4 a5 g0 =>
      obtain ⟨h1, h2, p0, p1, p2⟩ := hs
      have hc := leT l i
      by_cases hlt : i < n
      · cases hb : l i with
        | false =>
          have q1 := stepT_false hb
          refine ⟨?_⟩
          show xcode C1 Tryz.prog F 14 (loopC Tryz.prog 14 22) (mask 14) (tmpsN Tryz.prog 14) (mkE (eT n (ggT (zn i) [bi (l i)]) (.slc n0T 0 i i false 1) i)) _ (cond (Nat.ble (i + 1) n) (cond (l i) dT_2_1 dT_2_0) [false]) _
          rw [hb, ble_t hlt]
          exact useT_2_0 Zs hn hlt a0 a1 a2 a3 a4 a5 (by omega) (by omega) (by omega) (by omega) (row1_eq (by omega)) (cellI hlt (getT2 ..) _) (cellR (zgT2 ..) (by rw [zoT_low (by omega), Zs.ins i hlt]; unfold inRowT; rw [hb]; rfl) _ rfl)
            (fun env h ds σ ab => ⟨.s2 (i + 1) (a0 + 1) a5 0 a3 a4 (a5 + 1) _, σ, ⟨by omega, hlt, by omega, by omega, by omega⟩, (by show n - (i + 1) < n - i; omega), rfl, ab⟩)
        | true =>
          have q1 := stepT_true hb
          refine ⟨?_⟩
          show xcode C1 Tryz.prog F 14 (loopC Tryz.prog 14 22) (mask 14) (tmpsN Tryz.prog 14) (mkE (eT n (ggT (zn i) [bi (l i)]) (.slc n0T 0 i i false 1) i)) _ (cond (Nat.ble (i + 1) n) (cond (l i) dT_2_1 dT_2_0) [false]) _
          rw [hb, ble_t hlt]
          exact useT_2_1 Zs hn hlt a0 a1 a2 a3 a4 a5 (by omega) (by omega) (row1_eq (by omega)) (cellI hlt (getT2 ..) _) (cellR (zgT2 ..) (by rw [zoT_low (by omega), Zs.ins i hlt]; unfold inRowT; rw [hb]; rfl) _ rfl)
            (fun env h ds σ ab => ⟨.s3 (i + 1) (a0 + 1) 0 1 a0 a1 1 a5 _, σ, ⟨by omega, hlt, by omega, by omega, by omega⟩, (by show n - (i + 1) < n - i; omega), rfl, ab⟩)
      · have hin : i = n := by omega
        subst hin
        refine ⟨?_⟩
        show xcode C1 Tryz.prog F 14 (loopC Tryz.prog 14 22) (mask 14) (tmpsN Tryz.prog 14) (mkE (eT i (ggT (zn i) [bi (l i)]) (.slc n0T 0 i i false 1) i)) _ (cond (Nat.ble (i + 1) i) (cond (l i) dT_2_1 dT_2_0) [false]) _
        rw [ble_f (Nat.lt_irrefl i)]
        exact round_use2 good1.spl (fun Kv => xT_2 (zoT l z i) (zrowsT 0 1 i) (zrowsT 100 1 i) i i _ a0 a1 a2 a3 a4 a5 Kv)
          (bcase_tt (dcq_ge (by omega)) (fun env h ds ho => (done_T1 Zs hn _ rfl ho).elim fun σ ab => ⟨σ, rfl, ab⟩))
    | s3 i a0 a1 a2 a3 a4 a5 a6 g0 =>
      obtain ⟨h1, h2, p0, p1, p2⟩ := hs
      have hc := leT l i
      by_cases hlt : i < n
      · cases hb : l i with
        | false =>
          have q1 := stepT_false hb
          refine ⟨?_⟩
          show xcode C1 Tryz.prog F 14 (loopC Tryz.prog 14 22) (mask 14) (tmpsN Tryz.prog 14) (mkE (eT n (ggT (zn i) [bi (l i)]) (.slc n0T 0 i i false 1) i)) _ (cond (Nat.ble (i + 1) n) (cond (l i) dT_3_1 dT_3_0) [false]) _
          rw [hb, ble_t hlt]
          exact useT_3_0 Zs hn hlt a0 a1 a2 a3 a4 a5 a6 (by omega) (by omega) (by omega) (by omega) (row1_eq (by omega)) (cellI hlt (getT3 ..) _) (cellR (zgT3 ..) (by rw [zoT_low (by omega), Zs.ins i hlt]; unfold inRowT; rw [hb]; rfl) _ rfl)
            (fun env h ds σ ab => ⟨.s3 (i + 1) (a0 + 1) a5 0 a3 a4 (a5 + 1) a6 _, σ, ⟨by omega, hlt, by omega, by omega, by omega⟩, (by show n - (i + 1) < n - i; omega), rfl, ab⟩)
        | true =>
          have q1 := stepT_true hb
          refine ⟨?_⟩
          show xcode C1 Tryz.prog F 14 (loopC Tryz.prog 14 22) (mask 14) (tmpsN Tryz.prog 14) (mkE (eT n (ggT (zn i) [bi (l i)]) (.slc n0T 0 i i false 1) i)) _ (cond (Nat.ble (i + 1) n) (cond (l i) dT_3_1 dT_3_0) [false]) _
          rw [hb, ble_t hlt]
          exact useT_3_1 Zs hn hlt a0 a1 a2 a3 a4 a5 a6 (by omega) (by omega) (row1_eq (by omega)) (cellI hlt (getT3 ..) _) (cellR (zgT3 ..) (by rw [zoT_low (by omega), Zs.ins i hlt]; unfold inRowT; rw [hb]; rfl) _ rfl)
            (fun env h ds σ ab => ⟨.s4 (i + 1) (a0 + 1) 100 1 a0 a1 a5 101 _, σ, ⟨by omega, hlt, by omega, by omega, by omega⟩, (by show n - (i + 1) < n - i; omega), rfl, ab⟩)
      · have hin : i = n := by omega
        subst hin
        refine ⟨?_⟩
        show xcode C1 Tryz.prog F 14 (loopC Tryz.prog 14 22) (mask 14) (tmpsN Tryz.prog 14) (mkE (eT i (ggT (zn i) [bi (l i)]) (.slc n0T 0 i i false 1) i)) _ (cond (Nat.ble (i + 1) i) (cond (l i) dT_3_1 dT_3_0) [false]) _
        rw [ble_f (Nat.lt_irrefl i)]
        exact round_use2 good1.spl (fun Kv => xT_3 (zoT l z i) (zrowsT 0 1 i) (zrowsT 100 1 i) i i _ a0 a1 a2 a3 a4 a5 a6 Kv)
          (bcase_tt (dcq_ge (by omega)) (fun env h ds ho => (done_T1 Zs hn _ rfl ho).elim fun σ ab => ⟨σ, rfl, ab⟩))
    | s4 i a0 a1 a2 a3 a4 a5 a6 g0 =>
      obtain ⟨h1, h2, p0, p1, p2⟩ := hs
      have hc := leT l i
      by_cases hlt : i < n
      · cases hb : l i with
        | false =>
          have q1 := stepT_false hb
          refine ⟨?_⟩
          show xcode C1 Tryz.prog F 14 (loopC Tryz.prog 14 22) (mask 14) (tmpsN Tryz.prog 14) (mkE (eT n (ggT (zn i) [bi (l i)]) (.slc n0T 0 i i false 1) i)) _ (cond (Nat.ble (i + 1) n) (cond (l i) dT_4_1 dT_4_0) [false]) _
          rw [hb, ble_t hlt]
          exact useT_4_0 Zs hn hlt a0 a1 a2 a3 a4 a5 a6 (by omega) (by omega) (by omega) (by omega) (row1_eq (by omega)) (cellI hlt (getT4 ..) _) (cellR (zgT4 ..) (by rw [zoT_low (by omega), Zs.ins i hlt]; unfold inRowT; rw [hb]; rfl) _ rfl)
            (fun env h ds σ ab => ⟨.s4 (i + 1) (a0 + 1) a6 0 a3 a4 a5 (a6 + 1) _, σ, ⟨by omega, hlt, by omega, by omega, by omega⟩, (by show n - (i + 1) < n - i; omega), rfl, ab⟩)
        | true =>
          have q1 := stepT_true hb
          refine ⟨?_⟩
          show xcode C1 Tryz.prog F 14 (loopC Tryz.prog 14 22) (mask 14) (tmpsN Tryz.prog 14) (mkE (eT n (ggT (zn i) [bi (l i)]) (.slc n0T 0 i i false 1) i)) _ (cond (Nat.ble (i + 1) n) (cond (l i) dT_4_1 dT_4_0) [false]) _
          rw [hb, ble_t hlt]
          exact useT_4_1 Zs hn hlt a0 a1 a2 a3 a4 a5 a6 (by omega) (by omega) (row1_eq (by omega)) (cellI hlt (getT4 ..) _) (cellR (zgT4 ..) (by rw [zoT_low (by omega), Zs.ins i hlt]; unfold inRowT; rw [hb]; rfl) _ rfl)
            (fun env h ds σ ab => ⟨.s3 (i + 1) (a0 + 1) 0 1 a0 a1 1 a6 _, σ, ⟨by omega, hlt, by omega, by omega, by omega⟩, (by show n - (i + 1) < n - i; omega), rfl, ab⟩)
      · have hin : i = n := by omega
        subst hin
        refine ⟨?_⟩
        show xcode C1 Tryz.prog F 14 (loopC Tryz.prog 14 22) (mask 14) (tmpsN Tryz.prog 14) (mkE (eT i (ggT (zn i) [bi (l i)]) (.slc n0T 0 i i false 1) i)) _ (cond (Nat.ble (i + 1) i) (cond (l i) dT_4_1 dT_4_0) [false]) _
        rw [ble_f (Nat.lt_irrefl i)]
        exact round_use2 good1.spl (fun Kv => xT_4 (zoT l z i) (zrowsT 0 1 i) (zrowsT 100 1 i) i i _ a0 a1 a2 a3 a4 a5 a6 Kv)
          (bcase_tt (dcq_ge (by omega)) (fun env h ds ho => (done_T1 Zs hn _ rfl ho).elim fun σ ab => ⟨σ, rfl, ab⟩))
    | s5 i a0 a1 a2 a3 g0 =>
      obtain ⟨h1, h2, p0, p1, p2, p3⟩ := hs
      have hc := leT l i
      by_cases hlt : i < n
      · cases hb : l i with
        | false =>
          have q1 := stepT_false hb
          refine ⟨?_⟩
          show xcode C1 Tryz.prog F 14 (loopC Tryz.prog 14 22) (mask 14) (tmpsN Tryz.prog 14) (mkE (eT n (ggT (zn i) [bi (l i)]) (.slc n0T 0 i i false 1) i)) _ (cond (Nat.ble (i + 1) n) (cond (l i) dT_5_1 dT_5_0) [false]) _
          rw [hb, ble_t hlt]
          exact useT_5_0 Zs hn hlt a0 a1 a2 a3 (by omega) (by omega) (by omega) (by omega) (row1_eq (by omega)) (cellI hlt (getT5 ..) _) (cellR (zgT5 ..) (by rw [zoT_low (by omega), Zs.ins i hlt]; unfold inRowT; rw [hb]; rfl) _ rfl)
            (fun env h ds σ ab => ⟨.s5 (i + 1) (a0 + 1) a3 0 (a3 + 1) _, σ, ⟨by omega, hlt, by omega, by omega, by omega, by omega⟩, (by show n - (i + 1) < n - i; omega), rfl, ab⟩)
        | true =>
          have q1 := stepT_true hb
          refine ⟨?_⟩
          show xcode C1 Tryz.prog F 14 (loopC Tryz.prog 14 22) (mask 14) (tmpsN Tryz.prog 14) (mkE (eT n (ggT (zn i) [bi (l i)]) (.slc n0T 0 i i false 1) i)) _ (cond (Nat.ble (i + 1) n) (cond (l i) dT_5_1 dT_5_0) [false]) _
          rw [hb, ble_t hlt]
          exact useT_5_1 Zs hn hlt a0 a1 a2 a3 (by omega) (by omega) (row1_eq (by omega)) (cellI hlt (getT5 ..) _) (cellR (zgT5 ..) (by rw [zoT_low (by omega), Zs.ins i hlt]; unfold inRowT; rw [hb]; rfl) _ rfl)
            (fun env h ds σ ab => ⟨.s3 (i + 1) (a0 + 1) 0 1 a0 a1 1 a3 _, σ, ⟨by omega, hlt, by omega, by omega, by omega⟩, (by show n - (i + 1) < n - i; omega), rfl, ab⟩)
      · have hin : i = n := by omega
        subst hin
        refine ⟨?_⟩
        show xcode C1 Tryz.prog F 14 (loopC Tryz.prog 14 22) (mask 14) (tmpsN Tryz.prog 14) (mkE (eT i (ggT (zn i) [bi (l i)]) (.slc n0T 0 i i false 1) i)) _ (cond (Nat.ble (i + 1) i) (cond (l i) dT_5_1 dT_5_0) [false]) _
        rw [ble_f (Nat.lt_irrefl i)]
        exact round_use2 good1.spl (fun Kv => xT_5 (zoT l z i) (zrowsT 0 1 i) (zrowsT 100 1 i) i i _ a0 a1 a2 a3 Kv)
          (bcase_tt (dcq_ge (by omega)) (fun env h ds ho => (done_T1 Zs hn _ rfl ho).elim fun σ ab => ⟨σ, rfl, ab⟩))
end
end Go.Proofs.YtkfhjobebhdpoaaGreat

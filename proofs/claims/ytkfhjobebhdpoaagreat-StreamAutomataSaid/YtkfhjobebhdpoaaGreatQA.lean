/- Stream: the states of Run's loop over ticks. -/
import Derived.Test.YtkfhjobebhdpoaaGreatE7
import Derived.Test.YtkfhjobebhdpoaaGreatM
import Derived.Test.YtkfhjobebhdpoaaGreatBits
import Derived.Test.YtkfhjobebhdpoaaGreatSK
import Derived.Test.YtkfhjobebhdpoaaGreatG
set_option linter.unusedVariables false
set_option autoImplicit false
set_option maxRecDepth 1000000
set_option maxHeartbeats 1000000
namespace Go.Proofs.YtkfhjobebhdpoaaGreat
noncomputable section
open Go.X
def n0Q : Nat := 1049465
def kQ0 : Nat × Blk := (1049255, .row [.ptr 1049253 0, .int .i64 (.ofNat 0), .nils, .str 1 102, .slc 11 0 1 1 false 5, .slc 10 0 1 1 false 5, .nils, .slc 9 0 1 1 false 12, .int .i64 (.ofNat 0), .ptr 1049267 0] 94 true [])
def kQ1 : Nat × Blk := (1049253, .row [.map 1049251, .map 1049252] 63 true [])
def kQ2 : Nat × Blk := (11, .row [.str 1 99, .int .i64 (.ofNat 1), .int .i64 (.ofNat 0), .nils, .int .i64 (.ofNat 7)] 85 true [])
def kQ3 : Nat × Blk := (10, .row [.str 1 121, .int .i64 (.ofNat 6), .int .i64 (.ofNat 0), .nils, .int .i64 (.ofNat 25)] 85 true [])
def kQ4 : Nat × Blk := (9, .row [.nils, .int .i64 (.ofNat 0), .int .i64 (.ofNat 0), .str 0 0, .int .i64 (.ofNat 0), .int .i64 (.ofNat 0), .int .i64 (.ofNat 0), .int .i64 (.ofNat 0), .nils, .int .i64 (.ofNat 0), .slc 12 0 2 2 false 6, .int .i64 (.ofNat 36)] 160 true [])
def kQ5 : Nat × Blk := (1049267, .row [.ptr 1049255 0, .ptr 1049258 0, .map 1049266, .slc 1049464 0 1 1 false 1, .slc 1049459 0 1 1 false 1, .nils] 108 true [])
def kQ6 : Nat × Blk := (1049251, .map [0] 1 [(.str 1 102, .agg [.str 1 102, .slc 11 0 1 1 false 5, .slc 10 0 1 1 false 5, .nils, .slc 9 0 1 1 false 12, .int .i64 (.ofNat 0)])])
def kQ7 : Nat × Blk := (1049252, .map [0, 1, 2, 3, 4, 5, 6, 7, 8, 9, 10, 11, 12, 13, 14, 15, 16, 17, 18] 19 [(.int .i64 (.ofNat 1), .fn (Go.Fn.func 41) [] []), (.int .i64 (.ofNat 2), .fn (Go.Fn.func 42) [] []), (.int .i64 (.ofNat 3), .fn (Go.Fn.func 43) [] []), (.int .i64 (.ofNat 4), .fn (Go.Fn.func 44) [] []), (.int .i64 (.ofNat 5), .fn (Go.Fn.func 45) [] []), (.int .i64 (.ofNat 6), .fn (Go.Fn.func 46) [] []), (.int .i64 (.ofNat 7), .fn (Go.Fn.func 47) [] []), (.int .i64 (.ofNat 8), .fn (Go.Fn.func 48) [] []), (.int .i64 (.ofNat 9), .fn (Go.Fn.func 49) [] []), (.int .i64 (.ofNat 10), .fn (Go.Fn.func 50) [] []), (.int .i64 (.ofNat 11), .fn (Go.Fn.func 51) [] []), (.int .i64 (.ofNat 12), .fn (Go.Fn.func 52) [] []), (.int .i64 (.ofNat 13), .fn (Go.Fn.func 53) [] []), (.int .i64 (.ofNat 14), .fn (Go.Fn.func 54) [] []), (.int .i64 (.ofNat 15), .fn (Go.Fn.func 55) [] []), (.int .i64 (.ofNat 16), .fn (Go.Fn.func 56) [] []), (.int .i64 (.ofNat 17), .fn (Go.Fn.func 57) [] []), (.int .i64 (.ofNat 18), .fn (Go.Fn.func 58) [] []), (.int .i64 (.ofNat 19), .fn (Go.Fn.func 59) [] [])])
def kQ8 : Nat × Blk := (12, .row [.str 1 97, .nils, .slc 16 0 1 1 false 12, .nils, .slc 15 0 1 1 false 12, .int .i64 (.ofNat 46), .str 1 98, .nils, .slc 14 0 1 1 false 12, .nils, .slc 13 0 1 1 false 12, .int .i64 (.ofNat 100)] 163 true [])
def kQ9 : Nat × Blk := (1049258, .row [.map 1049256, .map 1049257, .nilp] 98 true [])
def kQ10 : Nat × Blk := (1049266, .map [] 0 [])
def kQ11 : Nat × Blk := (1049464, .row [.ptr 1049265 0] 101 true [])
def kQ12 : Nat × Blk := (1049459, .row [.ptr 1049272 0] 189 true [])
def kQ13 : Nat × Blk := (16, .row [.int .i64 (.ofNat 2), .int .i64 (.ofNat 0), .str 1 99, .int .i64 (.ofNat 0), .int .i64 (.ofNat 0), .int .i64 (.ofNat 0), .int .i64 (.ofNat 0), .nils, .int .i64 (.ofNat 86), .str 1 98, .bool true, .int .i64 (.ofNat 86)] 165 true [])
def kQ14 : Nat × Blk := (15, .row [.slc 20 0 1 1 true 1, .int .i64 (.ofNat 8), .int .i64 (.ofNat 0), .str 0 0, .int .i64 (.ofNat 0), .int .i64 (.ofNat 0), .int .i64 (.ofNat 0), .int .i64 (.ofNat 0), .slc 19 0 2 2 true 9, .int .i64 (.ofNat 61), .nils, .int .i64 (.ofNat 57)] 160 true [])
def kQ15 : Nat × Blk := (14, .row [.int .i64 (.ofNat 2), .int .i64 (.ofNat 0), .str 1 99, .int .i64 (.ofNat 0), .int .i64 (.ofNat 0), .int .i64 (.ofNat 0), .int .i64 (.ofNat 0), .nils, .int .i64 (.ofNat 142), .str 1 97, .bool true, .int .i64 (.ofNat 142)] 165 true [])
def kQ16 : Nat × Blk := (13, .row [.slc 18 0 1 1 true 1, .int .i64 (.ofNat 8), .int .i64 (.ofNat 0), .str 0 0, .int .i64 (.ofNat 0), .int .i64 (.ofNat 0), .int .i64 (.ofNat 0), .int .i64 (.ofNat 0), .slc 17 0 2 2 true 9, .int .i64 (.ofNat 115), .nils, .int .i64 (.ofNat 111)] 160 true [])
def kQ17 : Nat × Blk := (1049256, .map [0, 1] 2 [(.str 1 99, .ptr 1049262 0), (.str 1 121, .ptr 1049265 0)])
def kQ18 : Nat × Blk := (1049257, .map [0, 1] 2 [(.str 1 99, .agg [.str 1 99, .int .i64 (.ofNat 1), .int .i64 (.ofNat 0), .nils, .int .i64 (.ofNat 7)]), (.str 1 121, .agg [.str 1 121, .int .i64 (.ofNat 6), .int .i64 (.ofNat 0), .nils, .int .i64 (.ofNat 25)])])
def kQ19 : Nat × Blk := (1049265, .row [.slc 1049264 0 1 1 true 1, .bool false, .int .i64 (.ofNat 0), .fn (Go.Fn.func 228) [] [.ptr 1049273 0, .ptr 1049269 0, .ptr 1049461 0, .ptr 1049462 0]] 110 true [])
def kQ20 : Nat × Blk := (1049272, .row [.ptr 1049267 0, .nils, .int .i64 (.ofNat 0), .int .i64 (.ofNat 0), .str 0 0, .int .i64 (.ofNat 0), .int .i64 (.ofNat 0), .int .i64 (.ofNat 0), .int .i64 (.ofNat 0), .nils, .int .i64 (.ofNat 0), .slc 12 0 2 2 false 6, .int .i64 (.ofNat 36), .int .i64 (.ofNat 0), .bool false, .slc 1049271 0 2 2 true 1, .slc 1049368 0 2 2 false 1, .int .i64 (.ofNat 0)] 193 true [])
def kQ21 : Nat × Blk := (20, .row [.str 1 121] 9 true [])
def kQ22 : Nat × Blk := (19, .row [.int .i64 (.ofNat 1), .int .i64 (.ofNat 0), .str 0 0, .int .i64 (.ofNat 6), .int .i64 (.ofNat 0), .int .i64 (.ofNat 0), .int .i64 (.ofNat 0), .nils, .int .i64 (.ofNat 61), .int .i64 (.ofNat 4), .int .i64 (.ofNat 3), .str 0 0, .int .i64 (.ofNat 0), .int .i64 (.ofNat 0), .int .i64 (.ofNat 0), .int .i64 (.ofNat 0), .slc 22 0 2 2 true 9, .int .i64 (.ofNat 70)] 157 true [])
def kQ23 : Nat × Blk := (18, .row [.str 1 121] 9 true [])
def kQ24 : Nat × Blk := (17, .row [.int .i64 (.ofNat 1), .int .i64 (.ofNat 0), .str 0 0, .int .i64 (.ofNat 6), .int .i64 (.ofNat 0), .int .i64 (.ofNat 100), .int .i64 (.ofNat 0), .nils, .int .i64 (.ofNat 115), .int .i64 (.ofNat 4), .int .i64 (.ofNat 3), .str 0 0, .int .i64 (.ofNat 0), .int .i64 (.ofNat 0), .int .i64 (.ofNat 0), .int .i64 (.ofNat 0), .slc 21 0 2 2 true 9, .int .i64 (.ofNat 126)] 157 true [])
def kQ25 : Nat × Blk := (1049262, .row [.slc 1049261 0 1 1 true 1, .bool false, .int .i64 (.ofNat 0), .fn (Go.Fn.func 122) [] []] 110 true [])
def kQ26 : Nat × Blk := (1049264, .row [.int .i64 (.ofNat 0)] 3 true [])
def kQ27 : Nat × Blk := (1049273, .row [.ptr 1049272 0] 189 true [])
def kQ28 : Nat × Blk := (1049269, .row [.ptr 1049267 0] 89 true [])
def kQ29 : Nat × Blk := (1049461, .row [.str 1 121] 9 true [])
def kQ30 : Nat × Blk := (1049462, .row [.ptr 1049265 0] 101 true [])
def kQ31 : Nat × Blk := (1049271, .row [.ptr 1049282 0, .ptr 1049374 0] 89 true [])
def kQ32 : Nat × Blk := (1049368, .row [.nils, .nils] 106 true [1049276])
def kQ33 : Nat × Blk := (22, .row [.int .i64 (.ofNat 2), .int .i64 (.ofNat 0), .str 1 121, .int .i64 (.ofNat 0), .int .i64 (.ofNat 0), .int .i64 (.ofNat 0), .int .i64 (.ofNat 0), .nils, .int .i64 (.ofNat 70), .int .i64 (.ofNat 1), .int .i64 (.ofNat 0), .str 0 0, .int .i64 (.ofNat 6), .int .i64 (.ofNat 0), .int .i64 (.ofNat 1), .int .i64 (.ofNat 0), .nils, .int .i64 (.ofNat 74)] 157 true [])
def kQ34 : Nat × Blk := (21, .row [.int .i64 (.ofNat 2), .int .i64 (.ofNat 0), .str 1 121, .int .i64 (.ofNat 0), .int .i64 (.ofNat 0), .int .i64 (.ofNat 0), .int .i64 (.ofNat 0), .nils, .int .i64 (.ofNat 126), .int .i64 (.ofNat 1), .int .i64 (.ofNat 0), .str 0 0, .int .i64 (.ofNat 6), .int .i64 (.ofNat 0), .int .i64 (.ofNat 1), .int .i64 (.ofNat 0), .nils, .int .i64 (.ofNat 130)] 157 true [])
def kQ35 : Nat × Blk := (1049261, .row [.int .i64 (.ofNat 0)] 3 true [])
def kQ36 : Nat × Blk := (1049282, .row [.ptr 1049255 0, .ptr 1049280 0, .map 1049281, .slc 1049353 0 1 1 false 1, .nils, .slc 1049365 0 1 1 false 1] 108 true [])
def kQ37 : Nat × Blk := (1049374, .row [.ptr 1049255 0, .ptr 1049372 0, .map 1049373, .slc 1049445 0 1 1 false 1, .nils, .slc 1049457 0 1 1 false 1] 108 true [])
def kQ38 : Nat × Blk := (1049280, .row [.map 1049278, .map 1049279, .ptr 1049258 0] 98 true [])
def kQ39 : Nat × Blk := (1049281, .map [0] 1 [(.str 1 121, .ptr 1049347 0)])
def kQ40 : Nat × Blk := (1049353, .row [.ptr 1049347 0] 101 true [])
def kQ41 : Nat × Blk := (1049365, .row [.fn (Go.Fn.func 270) [] [.ptr 1049363 0]] 23 true [])
def kQ42 : Nat × Blk := (1049372, .row [.map 1049370, .map 1049371, .ptr 1049258 0] 98 true [])
def kQ43 : Nat × Blk := (1049373, .map [0] 1 [(.str 1 121, .ptr 1049439 0)])
def kQ44 : Nat × Blk := (1049445, .row [.ptr 1049439 0] 101 true [])
def kQ45 : Nat × Blk := (1049457, .row [.fn (Go.Fn.func 270) [] [.ptr 1049455 0]] 23 true [])
def kQ46 : Nat × Blk := (1049278, .map [] 0 [])
def kQ47 : Nat × Blk := (1049279, .map [] 0 [])
def kQ48 : Nat × Blk := (1049347, .row [.slc 1049346 0 1 1 true 1, .bool false, .int .i64 (.ofNat 0), .fn (Go.Fn.func 229) [] [.ptr 1049341 0, .ptr 1049284 0, .ptr 1049287 0, .ptr 1049340 0, .ptr 1049342 0, .ptr 1049343 0]] 110 true [])
def kQ49 : Nat × Blk := (1049363, .row [.fn (Go.Fn.func 89) [] [.ptr 1049357 0, .ptr 1049361 0], .int .i64 (.ofNat 1)] 171 true [])
def kQ50 : Nat × Blk := (1049370, .map [] 0 [])
def kQ51 : Nat × Blk := (1049371, .map [] 0 [])
def kQ52 : Nat × Blk := (1049439, .row [.slc 1049438 0 1 1 true 1, .bool false, .int .i64 (.ofNat 0), .fn (Go.Fn.func 229) [] [.ptr 1049433 0, .ptr 1049376 0, .ptr 1049379 0, .ptr 1049432 0, .ptr 1049434 0, .ptr 1049435 0]] 110 true [])
def kQ53 : Nat × Blk := (1049455, .row [.fn (Go.Fn.func 89) [] [.ptr 1049449 0, .ptr 1049453 0], .int .i64 (.ofNat 1)] 171 true [])
def kQ54 : Nat × Blk := (1049346, .row [.int .i64 (.ofNat 0)] 3 true [])
def kQ55 : Nat × Blk := (1049341, .row [.int .i64 (.ofNat 0)] 3 true [])
def kQ56 : Nat × Blk := (1049284, .row [.ptr 1049282 0] 89 true [])
def kQ57 : Nat × Blk := (1049287, .row [.str 1 121, .int .i64 (.ofNat 6), .int .i64 (.ofNat 0), .nils, .int .i64 (.ofNat 25)] 85 true [])
def kQ58 : Nat × Blk := (1049340, .row [.fn (Go.Fn.func 101) [] [.ptr 1049338 0, .ptr 1049339 0, .ptr 1049290 0], .int .i64 (.ofNat 6)] 171 true [])
def kQ59 : Nat × Blk := (1049342, .row [.slc 1049349 0 1 1 false 1] 104 true [])
def kQ60 : Nat × Blk := (1049343, .row [.slc 1049351 0 1 1 false 1] 22 true [])
def kQ61 : Nat × Blk := (1049357, .row [.ptr 1049282 0] 89 true [])
def kQ62 : Nat × Blk := (1049361, .row [.ptr 1049262 0] 101 true [])
def kQ63 : Nat × Blk := (1049438, .row [.int .i64 (.ofNat 0)] 3 true [])
def kQ64 : Nat × Blk := (1049433, .row [.int .i64 (.ofNat 0)] 3 true [])
def kQ65 : Nat × Blk := (1049376, .row [.ptr 1049374 0] 89 true [])
def kQ66 : Nat × Blk := (1049379, .row [.str 1 121, .int .i64 (.ofNat 6), .int .i64 (.ofNat 0), .nils, .int .i64 (.ofNat 25)] 85 true [])
def kQ67 : Nat × Blk := (1049432, .row [.fn (Go.Fn.func 101) [] [.ptr 1049430 0, .ptr 1049431 0, .ptr 1049382 0], .int .i64 (.ofNat 6)] 171 true [])
def kQ68 : Nat × Blk := (1049434, .row [.slc 1049441 0 1 1 false 1] 104 true [])
def kQ69 : Nat × Blk := (1049435, .row [.slc 1049443 0 1 1 false 1] 22 true [])
def kQ70 : Nat × Blk := (1049449, .row [.ptr 1049374 0] 89 true [])
def kQ71 : Nat × Blk := (1049453, .row [.ptr 1049262 0] 101 true [])
def kQ72 : Nat × Blk := (1049338, .row [.slc 1049337 0 2 2 false 2] 174 true [])
def kQ73 : Nat × Blk := (1049339, .row [.nils] 67 true [])
def kQ74 : Nat × Blk := (1049290, .row [.ptr 1049282 0] 89 true [])
def kQ75 : Nat × Blk := (1049349, .row [.ptr 1049347 0] 101 true [])
def kQ76 : Nat × Blk := (1049351, .row [.int .i64 (.ofNat 1)] 3 true [])
def kQ77 : Nat × Blk := (1049430, .row [.slc 1049429 0 2 2 false 2] 174 true [])
def kQ78 : Nat × Blk := (1049431, .row [.nils] 67 true [])
def kQ79 : Nat × Blk := (1049382, .row [.ptr 1049374 0] 89 true [])
def kQ80 : Nat × Blk := (1049441, .row [.ptr 1049439 0] 101 true [])
def kQ81 : Nat × Blk := (1049443, .row [.int .i64 (.ofNat 1)] 3 true [])
def kQ82 : Nat × Blk := (1049337, .row [.fn (Go.Fn.func 88) [] [.ptr 1049297 0], .int .i64 (.ofNat 6), .fn (Go.Fn.func 95) [] [.ptr 1049325 0, .ptr 1049304 0], .int .i64 (.ofNat 6)] 171 true [1049300])
def kQ83 : Nat × Blk := (1049429, .row [.fn (Go.Fn.func 88) [] [.ptr 1049389 0], .int .i64 (.ofNat 6), .fn (Go.Fn.func 95) [] [.ptr 1049417 0, .ptr 1049396 0], .int .i64 (.ofNat 6)] 171 true [1049392])
def kQ84 : Nat × Blk := (1049297, .row [.int .i64 (.ofNat 1), .int .i64 (.ofNat 0), .str 0 0, .int .i64 (.ofNat 6), .int .i64 (.ofNat 0), .int .i64 (.ofNat 0), .int .i64 (.ofNat 0), .nils, .int .i64 (.ofNat 61)] 157 true [])
def kQ85 : Nat × Blk := (1049325, .row [.slc 1049324 0 2 2 false 2] 174 true [])
def kQ86 : Nat × Blk := (1049304, .row [.int .i64 (.ofNat 4), .int .i64 (.ofNat 3), .str 0 0, .int .i64 (.ofNat 0), .int .i64 (.ofNat 0), .int .i64 (.ofNat 0), .int .i64 (.ofNat 0), .slc 22 0 2 2 true 9, .int .i64 (.ofNat 70)] 157 true [])
def kQ87 : Nat × Blk := (1049389, .row [.int .i64 (.ofNat 1), .int .i64 (.ofNat 0), .str 0 0, .int .i64 (.ofNat 6), .int .i64 (.ofNat 0), .int .i64 (.ofNat 100), .int .i64 (.ofNat 0), .nils, .int .i64 (.ofNat 115)] 157 true [])
def kQ88 : Nat × Blk := (1049417, .row [.slc 1049416 0 2 2 false 2] 174 true [])
def kQ89 : Nat × Blk := (1049396, .row [.int .i64 (.ofNat 4), .int .i64 (.ofNat 3), .str 0 0, .int .i64 (.ofNat 0), .int .i64 (.ofNat 0), .int .i64 (.ofNat 0), .int .i64 (.ofNat 0), .slc 21 0 2 2 true 9, .int .i64 (.ofNat 126)] 157 true [])
def kQ90 : Nat × Blk := (1049324, .row [.fn (Go.Fn.func 89) [] [.ptr 1049310 0, .ptr 1049314 0], .int .i64 (.ofNat 6), .fn (Go.Fn.func 88) [] [.ptr 1049321 0], .int .i64 (.ofNat 6)] 171 true [1049317])
def kQ91 : Nat × Blk := (1049416, .row [.fn (Go.Fn.func 89) [] [.ptr 1049402 0, .ptr 1049406 0], .int .i64 (.ofNat 6), .fn (Go.Fn.func 88) [] [.ptr 1049413 0], .int .i64 (.ofNat 6)] 171 true [1049409])
def kQ92 : Nat × Blk := (1049310, .row [.ptr 1049282 0] 89 true [])
def kQ93 : Nat × Blk := (1049314, .row [.ptr 1049265 0] 101 true [])
def kQ94 : Nat × Blk := (1049321, .row [.int .i64 (.ofNat 1), .int .i64 (.ofNat 0), .str 0 0, .int .i64 (.ofNat 6), .int .i64 (.ofNat 0), .int .i64 (.ofNat 1), .int .i64 (.ofNat 0), .nils, .int .i64 (.ofNat 74)] 157 true [])
def kQ95 : Nat × Blk := (1049402, .row [.ptr 1049374 0] 89 true [])
def kQ96 : Nat × Blk := (1049406, .row [.ptr 1049265 0] 101 true [])
def kQ97 : Nat × Blk := (1049413, .row [.int .i64 (.ofNat 1), .int .i64 (.ofNat 0), .str 0 0, .int .i64 (.ofNat 6), .int .i64 (.ofNat 0), .int .i64 (.ofNat 1), .int .i64 (.ofNat 0), .nils, .int .i64 (.ofNat 130)] 157 true [])
def kQ98 (x0 : Int) : Nat × Blk := (1049255, .row [.ptr 1049253 0, .int .i64 x0, .nils, .str 1 102, .slc 11 0 1 1 false 5, .slc 10 0 1 1 false 5, .nils, .slc 9 0 1 1 false 12, .int .i64 (.ofNat 0), .ptr 1049267 0] 94 true [])
def kQ99 (x0 : Int) : Nat × Blk := (1049265, .row [.slc 1049466 0 1 1 true 1, .bool true, .int .i64 x0, .fn (Go.Fn.func 228) [] [.ptr 1049273 0, .ptr 1049269 0, .ptr 1049461 0, .ptr 1049462 0]] 110 true [])
def kQ100 (x0 : Int) : Nat × Blk := (1049272, .row [.ptr 1049267 0, .nils, .int .i64 (.ofNat 0), .int .i64 (.ofNat 0), .str 0 0, .int .i64 (.ofNat 0), .int .i64 (.ofNat 0), .int .i64 (.ofNat 0), .int .i64 (.ofNat 0), .nils, .int .i64 (.ofNat 0), .slc 12 0 2 2 false 6, .int .i64 (.ofNat 36), .int .i64 (.ofNat 0), .bool false, .slc 1049271 0 2 2 true 1, .slc 1049368 0 2 2 false 1, .int .i64 x0] 193 true [])
def kQ101 (x0 : Int) : Nat × Blk := (1049262, .row [.slc 1049467 0 1 1 true 1, .bool true, .int .i64 x0, .fn (Go.Fn.func 122) [] []] 110 true [])
def kQ102 (x0 : Int) : Nat × Blk := (1049466, .row [.int .i64 x0] 3 true [])
def kQ103 : Nat × Blk := (1049368, .row [.nils, .nils] 106 true [])
def kQ104 : Nat × Blk := (1049467, .row [.int .i64 (.ofNat 0)] 3 true [])
def kQ105 (x0 : Int) : Nat × Blk := (1049347, .row [.slc 1049466 0 1 1 true 1, .bool true, .int .i64 x0, .fn (Go.Fn.func 229) [] [.ptr 1049341 0, .ptr 1049284 0, .ptr 1049287 0, .ptr 1049340 0, .ptr 1049342 0, .ptr 1049343 0]] 110 true [])
def kQ106 (x0 : Int) : Nat × Blk := (1049341, .row [.int .i64 x0] 3 true [])
def kQ107 : Nat × Blk := (1049339, .row [.slc 1049468 0 1 1 true 1] 67 true [])
def kQ108 : Nat × Blk := (1049337, .row [.fn (Go.Fn.func 88) [] [.ptr 1049297 0], .int .i64 (.ofNat 6), .fn (Go.Fn.func 95) [] [.ptr 1049325 0, .ptr 1049304 0], .int .i64 (.ofNat 6)] 171 true [])
def kQ109 (x0 : Int) : Nat × Blk := (1049468, .row [.int .i64 x0] 3 true [])
def kQ110 : Nat × Blk := (1049429, .row [.fn (Go.Fn.func 88) [] [.ptr 1049389 0], .int .i64 (.ofNat 6), .fn (Go.Fn.func 95) [] [.ptr 1049417 0, .ptr 1049396 0], .int .i64 (.ofNat 6)] 171 true [])
def kQ111 : Nat × Blk := (1049324, .row [.fn (Go.Fn.func 89) [] [.ptr 1049310 0, .ptr 1049314 0], .int .i64 (.ofNat 6), .fn (Go.Fn.func 88) [] [.ptr 1049321 0], .int .i64 (.ofNat 6)] 171 true [])
def kQ112 : Nat × Blk := (1049416, .row [.fn (Go.Fn.func 89) [] [.ptr 1049402 0, .ptr 1049406 0], .int .i64 (.ofNat 6), .fn (Go.Fn.func 88) [] [.ptr 1049413 0], .int .i64 (.ofNat 6)] 171 true [])
def kQ113 (x0 : Int) : Nat × Blk := (1049272, .row [.ptr 1049267 0, .nils, .int .i64 (.ofNat 0), .int .i64 (.ofNat 0), .str 0 0, .int .i64 (.ofNat 0), .int .i64 (.ofNat 0), .int .i64 (.ofNat 0), .int .i64 (.ofNat 0), .nils, .int .i64 (.ofNat 0), .slc 12 0 2 2 false 6, .int .i64 (.ofNat 36), .int .i64 (.ofNat 1), .bool false, .slc 1049271 0 2 2 true 1, .slc 1049368 0 2 2 false 1, .int .i64 x0] 193 true [])
def kQ114 : Nat × Blk := (1049467, .row [.int .i64 (.ofNat 1)] 3 true [])
def kQ115 (x0 : Int) : Nat × Blk := (1049347, .row [.slc 1049468 0 1 1 true 1, .bool true, .int .i64 x0, .fn (Go.Fn.func 229) [] [.ptr 1049341 0, .ptr 1049284 0, .ptr 1049287 0, .ptr 1049340 0, .ptr 1049342 0, .ptr 1049343 0]] 110 true [])
def kQ116 (x0 : Int) : Nat × Blk := (1049439, .row [.slc 1049466 0 1 1 true 1, .bool true, .int .i64 x0, .fn (Go.Fn.func 229) [] [.ptr 1049433 0, .ptr 1049376 0, .ptr 1049379 0, .ptr 1049432 0, .ptr 1049434 0, .ptr 1049435 0]] 110 true [])
def kQ117 (x0 : Int) : Nat × Blk := (1049433, .row [.int .i64 x0] 3 true [])
def kQ118 : Nat × Blk := (1049339, .row [.slc 1049469 0 1 1 true 1] 67 true [])
def kQ119 : Nat × Blk := (1049431, .row [.slc 1049470 0 1 1 true 1] 67 true [])
def kQ120 (x0 : Int) : Nat × Blk := (1049469, .row [.int .i64 x0] 3 true [])
def kQ121 (x0 : Int) : Nat × Blk := (1049470, .row [.int .i64 x0] 3 true [])
def kQ122 (x0 : Int) : Nat × Blk := (1049439, .row [.slc 1049468 0 1 1 true 1, .bool true, .int .i64 x0, .fn (Go.Fn.func 229) [] [.ptr 1049433 0, .ptr 1049376 0, .ptr 1049379 0, .ptr 1049432 0, .ptr 1049434 0, .ptr 1049435 0]] 110 true [])
def bQ0 : List (Nat × Blk) := [kQ0, kQ1, kQ2, kQ3, kQ4, kQ5, kQ6, kQ7, kQ8, kQ9, kQ10, kQ11, kQ12, kQ13, kQ14, kQ15, kQ16, kQ17, kQ18, kQ19, kQ20, kQ21, kQ22, kQ23, kQ24, kQ25, kQ26, kQ27, kQ28, kQ29, kQ30, kQ31, kQ32, kQ33, kQ34, kQ35, kQ36, kQ37, kQ38, kQ39, kQ40, kQ41, kQ42, kQ43, kQ44, kQ45, kQ46, kQ47, kQ48, kQ49, kQ50, kQ51, kQ52, kQ53, kQ54, kQ55, kQ56, kQ57, kQ58, kQ59, kQ60, kQ61, kQ62, kQ63, kQ64, kQ65, kQ66, kQ67, kQ68, kQ69, kQ70, kQ71, kQ72, kQ73, kQ74, kQ75, kQ76, kQ77, kQ78, kQ79, kQ80, kQ81, kQ82, kQ83, kQ84, kQ85, kQ86, kQ87, kQ88, kQ89, kQ90, kQ91, kQ92, kQ93, kQ94, kQ95, kQ96, kQ97]
def bQ1 (a0 : Int) (a1 : Int) : List (Nat × Blk) := [kQ98 a0, kQ1, kQ2, kQ3, kQ4, kQ5, kQ6, kQ7, kQ8, kQ9, kQ10, kQ11, kQ12, kQ13, kQ14, kQ15, kQ16, kQ17, kQ18, kQ99 a0, kQ100 a0, kQ21, kQ22, kQ23, kQ24, kQ101 a0, kQ102 a1, kQ27, kQ28, kQ29, kQ30, kQ31, kQ103, kQ33, kQ34, kQ104, kQ36, kQ37, kQ38, kQ39, kQ40, kQ41, kQ42, kQ43, kQ44, kQ45, kQ46, kQ47, kQ105 a0, kQ49, kQ50, kQ51, kQ52, kQ53, kQ106 a0, kQ56, kQ57, kQ58, kQ59, kQ60, kQ61, kQ62, kQ63, kQ64, kQ65, kQ66, kQ67, kQ68, kQ69, kQ70, kQ71, kQ72, kQ107, kQ74, kQ75, kQ76, kQ77, kQ78, kQ79, kQ80, kQ81, kQ108, kQ109 a0, kQ110, kQ84, kQ85, kQ86, kQ87, kQ88, kQ89, kQ111, kQ112, kQ92, kQ93, kQ94, kQ95, kQ96, kQ97]
def bQ2 (a0 : Int) (a1 : Int) : List (Nat × Blk) := [kQ98 a0, kQ1, kQ2, kQ3, kQ4, kQ5, kQ6, kQ7, kQ8, kQ9, kQ10, kQ11, kQ12, kQ13, kQ14, kQ15, kQ16, kQ17, kQ18, kQ99 a0, kQ113 a0, kQ21, kQ22, kQ23, kQ24, kQ101 a0, kQ102 a1, kQ27, kQ28, kQ29, kQ30, kQ31, kQ103, kQ33, kQ34, kQ114, kQ36, kQ37, kQ38, kQ39, kQ40, kQ41, kQ42, kQ43, kQ44, kQ45, kQ46, kQ47, kQ105 a0, kQ49, kQ50, kQ51, kQ52, kQ53, kQ106 a0, kQ56, kQ57, kQ58, kQ59, kQ60, kQ61, kQ62, kQ63, kQ64, kQ65, kQ66, kQ67, kQ68, kQ69, kQ70, kQ71, kQ72, kQ107, kQ74, kQ75, kQ76, kQ77, kQ78, kQ79, kQ80, kQ81, kQ108, kQ109 a0, kQ110, kQ84, kQ85, kQ86, kQ87, kQ88, kQ89, kQ111, kQ112, kQ92, kQ93, kQ94, kQ95, kQ96, kQ97]
def bQ3 (a0 : Int) (a1 : Int) (a2 : Int) (a3 : Int) (a4 : Int) (a5 : Int) : List (Nat × Blk) := [kQ98 a0, kQ1, kQ2, kQ3, kQ4, kQ5, kQ6, kQ7, kQ8, kQ9, kQ10, kQ11, kQ12, kQ13, kQ14, kQ15, kQ16, kQ17, kQ18, kQ99 a0, kQ100 a0, kQ21, kQ22, kQ23, kQ24, kQ101 a0, kQ102 a1, kQ27, kQ28, kQ29, kQ30, kQ31, kQ103, kQ33, kQ34, kQ114, kQ36, kQ37, kQ38, kQ39, kQ40, kQ41, kQ42, kQ43, kQ44, kQ45, kQ46, kQ47, kQ115 a2, kQ49, kQ50, kQ51, kQ116 a0, kQ53, kQ109 a3, kQ106 a2, kQ56, kQ57, kQ58, kQ59, kQ60, kQ61, kQ62, kQ117 a0, kQ65, kQ66, kQ67, kQ68, kQ69, kQ70, kQ71, kQ72, kQ118, kQ74, kQ75, kQ76, kQ77, kQ119, kQ79, kQ80, kQ81, kQ108, kQ120 a4, kQ110, kQ121 a5, kQ84, kQ85, kQ86, kQ87, kQ88, kQ89, kQ111, kQ112, kQ92, kQ93, kQ94, kQ95, kQ96, kQ97]
def bQ4 (a0 : Int) (a1 : Int) (a2 : Int) (a3 : Int) (a4 : Int) (a5 : Int) : List (Nat × Blk) := [kQ98 a0, kQ1, kQ2, kQ3, kQ4, kQ5, kQ6, kQ7, kQ8, kQ9, kQ10, kQ11, kQ12, kQ13, kQ14, kQ15, kQ16, kQ17, kQ18, kQ99 a0, kQ113 a0, kQ21, kQ22, kQ23, kQ24, kQ101 a0, kQ102 a1, kQ27, kQ28, kQ29, kQ30, kQ31, kQ103, kQ33, kQ34, kQ114, kQ36, kQ37, kQ38, kQ39, kQ40, kQ41, kQ42, kQ43, kQ44, kQ45, kQ46, kQ47, kQ105 a0, kQ49, kQ50, kQ51, kQ122 a2, kQ53, kQ106 a0, kQ56, kQ57, kQ58, kQ59, kQ60, kQ61, kQ62, kQ109 a3, kQ117 a2, kQ65, kQ66, kQ67, kQ68, kQ69, kQ70, kQ71, kQ72, kQ118, kQ74, kQ75, kQ76, kQ77, kQ119, kQ79, kQ80, kQ81, kQ108, kQ120 a4, kQ110, kQ121 a5, kQ84, kQ85, kQ86, kQ87, kQ88, kQ89, kQ111, kQ112, kQ92, kQ93, kQ94, kQ95, kQ96, kQ97]
def bQ5 (a0 : Int) (a1 : Int) (a2 : Int) (a3 : Int) (a4 : Int) (a5 : Int) : List (Nat × Blk) := [kQ98 a0, kQ1, kQ2, kQ3, kQ4, kQ5, kQ6, kQ7, kQ8, kQ9, kQ10, kQ11, kQ12, kQ13, kQ14, kQ15, kQ16, kQ17, kQ18, kQ99 a0, kQ113 a0, kQ21, kQ22, kQ23, kQ24, kQ101 a0, kQ102 a1, kQ27, kQ28, kQ29, kQ30, kQ31, kQ103, kQ33, kQ34, kQ104, kQ36, kQ37, kQ38, kQ39, kQ40, kQ41, kQ42, kQ43, kQ44, kQ45, kQ46, kQ47, kQ115 a2, kQ49, kQ50, kQ51, kQ116 a0, kQ53, kQ109 a3, kQ106 a2, kQ56, kQ57, kQ58, kQ59, kQ60, kQ61, kQ62, kQ117 a0, kQ65, kQ66, kQ67, kQ68, kQ69, kQ70, kQ71, kQ72, kQ118, kQ74, kQ75, kQ76, kQ77, kQ119, kQ79, kQ80, kQ81, kQ108, kQ120 a4, kQ110, kQ121 a5, kQ84, kQ85, kQ86, kQ87, kQ88, kQ89, kQ111, kQ112, kQ92, kQ93, kQ94, kQ95, kQ96, kQ97]
def bQ6 (a0 : Int) (a1 : Int) (a2 : Int) (a3 : Int) (a4 : Int) (a5 : Int) : List (Nat × Blk) := [kQ98 a0, kQ1, kQ2, kQ3, kQ4, kQ5, kQ6, kQ7, kQ8, kQ9, kQ10, kQ11, kQ12, kQ13, kQ14, kQ15, kQ16, kQ17, kQ18, kQ99 a0, kQ100 a0, kQ21, kQ22, kQ23, kQ24, kQ101 a0, kQ102 a1, kQ27, kQ28, kQ29, kQ30, kQ31, kQ103, kQ33, kQ34, kQ104, kQ36, kQ37, kQ38, kQ39, kQ40, kQ41, kQ42, kQ43, kQ44, kQ45, kQ46, kQ47, kQ105 a0, kQ49, kQ50, kQ51, kQ122 a2, kQ53, kQ106 a0, kQ56, kQ57, kQ58, kQ59, kQ60, kQ61, kQ62, kQ109 a3, kQ117 a2, kQ65, kQ66, kQ67, kQ68, kQ69, kQ70, kQ71, kQ72, kQ118, kQ74, kQ75, kQ76, kQ77, kQ119, kQ79, kQ80, kQ81, kQ108, kQ120 a4, kQ110, kQ121 a5, kQ84, kQ85, kQ86, kQ87, kQ88, kQ89, kQ111, kQ112, kQ92, kQ93, kQ94, kQ95, kQ96, kQ97]
def actQ : AV := AV.fn (Go.Fn.func 28) [AV.ptr 1049255 0] []
def eQ (n : Nat) (g : Nat → CV) (out : AV) (i : Nat) : List (Nat × AV) := [(6, .nils), (7, .int .i64 (Int.ofNat 0)), (16, actQ), (17, out), (71, .vs 30 0 n g), (72, .int .i64 (Int.ofNat n)), (73, .int .i64 (Int.ofNat i))]
/-- a row of the output -/
def rowQ (l : List AV) : Blk := .row l 3 true []
/-- the blocks that all states have: the rows of the output (if some are there), of the inputs, of what is wanted -/
def rrQ (cs csI csW : List AV) : List (Nat × Blk) := [(n0Q, .row cs 22 true []), (30, .row csI 22 true []), (31, .row csW 22 true [])]
def rr0Q (csI csW : List AV) : List (Nat × Blk) := [(30, .row csI 22 true []), (31, .row csW 22 true [])]
def dQ_0_0 : List Bool := bitsL 94 10628489058396269054658413223
def kQ_0_0 : List Nat := [1049255, 1049253, 11, 10, 9, 1049267, 1049251, 1049252, 12, 1049258, 1049266, 1049464, 1049459, 16, 15, 14, 13, 1049256, 1049257, 1049265, 1049272, 20, 19, 18, 17, 1049262, 1049469, 1049273, 1049269, 1049461, 1049462, 1049271, 1049368, 22, 21, 1049465, 1049282, 1049374, 1049280, 1049281, 1049353, 1049365, 1049372, 1049373, 1049445, 1049457, 1049278, 1049279, 1049347, 1049363, 1049370, 1049371, 1049439, 1049455, 1049341, 1049284, 1049287, 1049340, 1049342, 1049343, 1049357, 1049361, 1049438, 1049433, 1049376, 1049379, 1049432, 1049434, 1049435, 1049449, 1049453, 1049338, 1049339, 1049290, 1049349, 1049351, 1049430, 1049431, 1049382, 1049441, 1049443, 1049337, 1049483, 1049429, 1049297, 1049325, 1049304, 1049389, 1049417, 1049396, 1049324, 1049416, 1049310, 1049314, 1049321, 1049402, 1049406, 1049413]
def dQ_1_0 : List Bool := bitsL 95 20532009372679311253851341479
def kQ_1_0 : List Nat := [1049255, 1049253, 11, 10, 9, 1049267, 1049251, 1049252, 12, 1049258, 1049266, 1049464, 1049459, 16, 15, 14, 13, 1049256, 1049257, 1049265, 1049272, 20, 19, 18, 17, 1049262, 1049468, 1049273, 1049269, 1049461, 1049462, 1049271, 1049368, 22, 21, 2097152, 1049282, 1049374, 1049280, 1049281, 1049353, 1049365, 1049372, 1049373, 1049445, 1049457, 1049278, 1049279, 1049347, 1049363, 1049370, 1049371, 1049439, 1049455, 1049341, 1049284, 1049287, 1049340, 1049342, 1049343, 1049357, 1049361, 1049438, 1049433, 1049376, 1049379, 1049432, 1049434, 1049435, 1049449, 1049453, 1049338, 1049339, 1049290, 1049349, 1049351, 1049430, 1049431, 1049382, 1049441, 1049443, 1049337, 2097170, 1049429, 1049297, 1049325, 1049304, 1049389, 1049417, 1049396, 1049324, 1049416, 1049310, 1049314, 1049321, 1049402, 1049406, 1049413]
def dQ_1_1 : List Bool := bitsL 98 164324064209282534551753327271
def kQ_1_1 : List Nat := [1049255, 1049253, 11, 10, 9, 1049267, 1049251, 1049252, 12, 1049258, 1049266, 1049464, 1049459, 16, 15, 14, 13, 1049256, 1049257, 1049265, 1049272, 20, 19, 18, 17, 1049262, 1049468, 1049273, 1049269, 1049461, 1049462, 1049271, 1049368, 22, 21, 2097152, 1049282, 1049374, 1049280, 1049281, 1049353, 1049365, 1049372, 1049373, 1049445, 1049457, 1049278, 1049279, 1049347, 1049363, 1049370, 1049371, 1049439, 1049455, 1049341, 1049284, 1049287, 1049340, 1049342, 1049343, 1049357, 1049361, 1049438, 1049433, 1049376, 1049379, 1049432, 1049434, 1049435, 1049449, 1049453, 1049338, 1049339, 1049290, 1049349, 1049351, 1049430, 1049431, 1049382, 1049441, 1049443, 1049337, 2097170, 1049429, 1049297, 1049325, 1049304, 1049389, 1049417, 1049396, 1049324, 1049416, 1049310, 1049314, 1049321, 1049402, 1049406, 1049413]
def dQ_2_1 : List Bool := bitsL 95 20539262927596999028899644071
def kQ_2_1 : List Nat := [1049255, 1049253, 11, 10, 9, 1049267, 1049251, 1049252, 12, 1049258, 1049266, 1049464, 1049459, 16, 15, 14, 13, 1049256, 1049257, 1049265, 1049272, 20, 19, 18, 17, 1049262, 2097156, 1049273, 1049269, 1049461, 1049462, 1049271, 1049368, 22, 21, 2097152, 1049282, 1049374, 1049280, 1049281, 1049353, 1049365, 1049372, 1049373, 1049445, 1049457, 1049278, 1049279, 1049347, 1049363, 1049370, 1049371, 1049439, 1049455, 1049466, 1049341, 1049284, 1049287, 1049340, 1049342, 1049343, 1049357, 1049361, 1049433, 1049376, 1049379, 1049432, 1049434, 1049435, 1049449, 1049453, 1049338, 1049339, 1049290, 1049349, 1049351, 1049430, 1049431, 1049382, 1049441, 1049443, 1049337, 1049468, 1049429, 2097170, 1049297, 1049325, 1049304, 1049389, 1049417, 1049396, 1049324, 1049416, 1049310, 1049314, 1049321, 1049402, 1049406, 1049413]
def dQ_3_1 : List Bool := bitsL 98 164324064209282534551753327271
def kQ_3_1 : List Nat := [1049255, 1049253, 11, 10, 9, 1049267, 1049251, 1049252, 12, 1049258, 1049266, 1049464, 1049459, 16, 15, 14, 13, 1049256, 1049257, 1049265, 1049272, 20, 19, 18, 17, 1049262, 1049469, 1049273, 1049269, 1049461, 1049462, 1049271, 1049368, 22, 21, 2097152, 1049282, 1049374, 1049280, 1049281, 1049353, 1049365, 1049372, 1049373, 1049445, 1049457, 1049278, 1049279, 1049347, 1049363, 1049370, 1049371, 1049439, 1049455, 1049341, 1049284, 1049287, 1049340, 1049342, 1049343, 1049357, 1049361, 1049466, 1049433, 1049376, 1049379, 1049432, 1049434, 1049435, 1049449, 1049453, 1049338, 1049339, 1049290, 1049349, 1049351, 1049430, 1049431, 1049382, 1049441, 1049443, 1049337, 2097170, 1049429, 1049470, 1049297, 1049325, 1049304, 1049389, 1049417, 1049396, 1049324, 1049416, 1049310, 1049314, 1049321, 1049402, 1049406, 1049413]
def dQ_4_0 : List Bool := bitsL 95 20532009372679311253851341479
def kQ_4_0 : List Nat := [1049255, 1049253, 11, 10, 9, 1049267, 1049251, 1049252, 12, 1049258, 1049266, 1049464, 1049459, 16, 15, 14, 13, 1049256, 1049257, 1049265, 1049272, 20, 19, 18, 17, 1049262, 1049470, 1049273, 1049269, 1049461, 1049462, 1049271, 1049368, 22, 21, 2097152, 1049282, 1049374, 1049280, 1049281, 1049353, 1049365, 1049372, 1049373, 1049445, 1049457, 1049278, 1049279, 1049347, 1049363, 1049370, 1049371, 1049439, 1049455, 1049466, 1049341, 1049284, 1049287, 1049340, 1049342, 1049343, 1049357, 1049361, 1049433, 1049376, 1049379, 1049432, 1049434, 1049435, 1049449, 1049453, 1049338, 1049339, 1049290, 1049349, 1049351, 1049430, 1049431, 1049382, 1049441, 1049443, 1049337, 1049469, 1049429, 2097170, 1049297, 1049325, 1049304, 1049389, 1049417, 1049396, 1049324, 1049416, 1049310, 1049314, 1049321, 1049402, 1049406, 1049413]
def dQ_5_0 : List Bool := bitsL 95 20532009372679311253851341479
def kQ_5_0 : List Nat := [1049255, 1049253, 11, 10, 9, 1049267, 1049251, 1049252, 12, 1049258, 1049266, 1049464, 1049459, 16, 15, 14, 13, 1049256, 1049257, 1049265, 1049272, 20, 19, 18, 17, 1049262, 1049470, 1049273, 1049269, 1049461, 1049462, 1049271, 1049368, 22, 21, 2097152, 1049282, 1049374, 1049280, 1049281, 1049353, 1049365, 1049372, 1049373, 1049445, 1049457, 1049278, 1049279, 1049347, 1049363, 1049370, 1049371, 1049439, 1049455, 1049468, 1049341, 1049284, 1049287, 1049340, 1049342, 1049343, 1049357, 1049361, 1049433, 1049376, 1049379, 1049432, 1049434, 1049435, 1049449, 1049453, 1049338, 1049339, 1049290, 1049349, 1049351, 1049430, 1049431, 1049382, 1049441, 1049443, 1049337, 1049469, 1049429, 2097170, 1049297, 1049325, 1049304, 1049389, 1049417, 1049396, 1049324, 1049416, 1049310, 1049314, 1049321, 1049402, 1049406, 1049413]
def dQ_5_1 : List Bool := bitsL 95 20539262927596999028899578535
def kQ_5_1 : List Nat := [1049255, 1049253, 11, 10, 9, 1049267, 1049251, 1049252, 12, 1049258, 1049266, 1049464, 1049459, 16, 15, 14, 13, 1049256, 1049257, 1049265, 1049272, 20, 19, 18, 17, 1049262, 1049470, 1049273, 1049269, 1049461, 1049462, 1049271, 1049368, 22, 21, 2097152, 1049282, 1049374, 1049280, 1049281, 1049353, 1049365, 1049372, 1049373, 1049445, 1049457, 1049278, 1049279, 1049347, 1049363, 1049370, 1049371, 1049439, 1049455, 1049468, 1049341, 1049284, 1049287, 1049340, 1049342, 1049343, 1049357, 1049361, 1049433, 1049376, 1049379, 1049432, 1049434, 1049435, 1049449, 1049453, 1049338, 1049339, 1049290, 1049349, 1049351, 1049430, 1049431, 1049382, 1049441, 1049443, 1049337, 1049469, 1049429, 2097170, 1049297, 1049325, 1049304, 1049389, 1049417, 1049396, 1049324, 1049416, 1049310, 1049314, 1049321, 1049402, 1049406, 1049413]
def dQ_3_0 : List Bool := bitsL 95 20532009372679311253851341479
def kQ_3_0 : List Nat := [1049255, 1049253, 11, 10, 9, 1049267, 1049251, 1049252, 12, 1049258, 1049266, 1049464, 1049459, 16, 15, 14, 13, 1049256, 1049257, 1049265, 1049272, 20, 19, 18, 17, 1049262, 1049469, 1049273, 1049269, 1049461, 1049462, 1049271, 1049368, 22, 21, 2097152, 1049282, 1049374, 1049280, 1049281, 1049353, 1049365, 1049372, 1049373, 1049445, 1049457, 1049278, 1049279, 1049347, 1049363, 1049370, 1049371, 1049439, 1049455, 1049341, 1049284, 1049287, 1049340, 1049342, 1049343, 1049357, 1049361, 1049466, 1049433, 1049376, 1049379, 1049432, 1049434, 1049435, 1049449, 1049453, 1049338, 1049339, 1049290, 1049349, 1049351, 1049430, 1049431, 1049382, 1049441, 1049443, 1049337, 2097170, 1049429, 1049470, 1049297, 1049325, 1049304, 1049389, 1049417, 1049396, 1049324, 1049416, 1049310, 1049314, 1049321, 1049402, 1049406, 1049413]
def dQ_6_1 : List Bool := bitsL 98 164324064209282534551753327271
def kQ_6_1 : List Nat := [1049255, 1049253, 11, 10, 9, 1049267, 1049251, 1049252, 12, 1049258, 1049266, 1049464, 1049459, 16, 15, 14, 13, 1049256, 1049257, 1049265, 1049272, 20, 19, 18, 17, 1049262, 1049469, 1049273, 1049269, 1049461, 1049462, 1049271, 1049368, 22, 21, 2097152, 1049282, 1049374, 1049280, 1049281, 1049353, 1049365, 1049372, 1049373, 1049445, 1049457, 1049278, 1049279, 1049347, 1049363, 1049370, 1049371, 1049439, 1049455, 1049341, 1049284, 1049287, 1049340, 1049342, 1049343, 1049357, 1049361, 1049468, 1049433, 1049376, 1049379, 1049432, 1049434, 1049435, 1049449, 1049453, 1049338, 1049339, 1049290, 1049349, 1049351, 1049430, 1049431, 1049382, 1049441, 1049443, 1049337, 2097170, 1049429, 1049470, 1049297, 1049325, 1049304, 1049389, 1049417, 1049396, 1049324, 1049416, 1049310, 1049314, 1049321, 1049402, 1049406, 1049413]
def dQ_0_1 : List Bool := bitsL 97 85095901695018196958209442471
def kQ_0_1 : List Nat := [1049255, 1049253, 11, 10, 9, 1049267, 1049251, 1049252, 12, 1049258, 1049266, 1049464, 1049459, 16, 15, 14, 13, 1049256, 1049257, 1049265, 1049272, 20, 19, 18, 17, 1049262, 1049469, 1049273, 1049269, 1049461, 1049462, 1049271, 1049368, 22, 21, 1049465, 1049282, 1049374, 1049280, 1049281, 1049353, 1049365, 1049372, 1049373, 1049445, 1049457, 1049278, 1049279, 1049347, 1049363, 1049370, 1049371, 1049439, 1049455, 1049341, 1049284, 1049287, 1049340, 1049342, 1049343, 1049357, 1049361, 1049438, 1049433, 1049376, 1049379, 1049432, 1049434, 1049435, 1049449, 1049453, 1049338, 1049339, 1049290, 1049349, 1049351, 1049430, 1049431, 1049382, 1049441, 1049443, 1049337, 1049483, 1049429, 1049297, 1049325, 1049304, 1049389, 1049417, 1049396, 1049324, 1049416, 1049310, 1049314, 1049321, 1049402, 1049406, 1049413]
def dQ_2_0 : List Bool := bitsL 95 20532009372679311253851407015
def kQ_2_0 : List Nat := [1049255, 1049253, 11, 10, 9, 1049267, 1049251, 1049252, 12, 1049258, 1049266, 1049464, 1049459, 16, 15, 14, 13, 1049256, 1049257, 1049265, 1049272, 20, 19, 18, 17, 1049262, 2097156, 1049273, 1049269, 1049461, 1049462, 1049271, 1049368, 22, 21, 2097152, 1049282, 1049374, 1049280, 1049281, 1049353, 1049365, 1049372, 1049373, 1049445, 1049457, 1049278, 1049279, 1049347, 1049363, 1049370, 1049371, 1049439, 1049455, 1049466, 1049341, 1049284, 1049287, 1049340, 1049342, 1049343, 1049357, 1049361, 1049433, 1049376, 1049379, 1049432, 1049434, 1049435, 1049449, 1049453, 1049338, 1049339, 1049290, 1049349, 1049351, 1049430, 1049431, 1049382, 1049441, 1049443, 1049337, 1049468, 1049429, 2097170, 1049297, 1049325, 1049304, 1049389, 1049417, 1049396, 1049324, 1049416, 1049310, 1049314, 1049321, 1049402, 1049406, 1049413]
def dQ_4_1 : List Bool := bitsL 95 20539262927596999028899578535
def kQ_4_1 : List Nat := [1049255, 1049253, 11, 10, 9, 1049267, 1049251, 1049252, 12, 1049258, 1049266, 1049464, 1049459, 16, 15, 14, 13, 1049256, 1049257, 1049265, 1049272, 20, 19, 18, 17, 1049262, 1049470, 1049273, 1049269, 1049461, 1049462, 1049271, 1049368, 22, 21, 2097152, 1049282, 1049374, 1049280, 1049281, 1049353, 1049365, 1049372, 1049373, 1049445, 1049457, 1049278, 1049279, 1049347, 1049363, 1049370, 1049371, 1049439, 1049455, 1049466, 1049341, 1049284, 1049287, 1049340, 1049342, 1049343, 1049357, 1049361, 1049433, 1049376, 1049379, 1049432, 1049434, 1049435, 1049449, 1049453, 1049338, 1049339, 1049290, 1049349, 1049351, 1049430, 1049431, 1049382, 1049441, 1049443, 1049337, 1049469, 1049429, 2097170, 1049297, 1049325, 1049304, 1049389, 1049417, 1049396, 1049324, 1049416, 1049310, 1049314, 1049321, 1049402, 1049406, 1049413]
def dQ_6_0 : List Bool := bitsL 95 20532009372679311253851341479
def kQ_6_0 : List Nat := [1049255, 1049253, 11, 10, 9, 1049267, 1049251, 1049252, 12, 1049258, 1049266, 1049464, 1049459, 16, 15, 14, 13, 1049256, 1049257, 1049265, 1049272, 20, 19, 18, 17, 1049262, 1049469, 1049273, 1049269, 1049461, 1049462, 1049271, 1049368, 22, 21, 2097152, 1049282, 1049374, 1049280, 1049281, 1049353, 1049365, 1049372, 1049373, 1049445, 1049457, 1049278, 1049279, 1049347, 1049363, 1049370, 1049371, 1049439, 1049455, 1049341, 1049284, 1049287, 1049340, 1049342, 1049343, 1049357, 1049361, 1049468, 1049433, 1049376, 1049379, 1049432, 1049434, 1049435, 1049449, 1049453, 1049338, 1049339, 1049290, 1049349, 1049351, 1049430, 1049431, 1049382, 1049441, 1049443, 1049337, 2097170, 1049429, 1049470, 1049297, 1049325, 1049304, 1049389, 1049417, 1049396, 1049324, 1049416, 1049310, 1049314, 1049321, 1049402, 1049406, 1049413]
/-- what is told ahead of this round's inputs -/
def ggQ (r : Nat) (b : List Int) : Nat → CV := fun _ => .row r 1 (fun k => Option.rec 0 (fun x => x) (lget b k))
end
end Go.Proofs.YtkfhjobebhdpoaaGreat
/- Stream: the rounds of Run's loop over ticks. -/
set_option autoImplicit false
set_option maxRecDepth 1000000
set_option maxHeartbeats 1000000
namespace Go.Proofs.YtkfhjobebhdpoaaGreat
noncomputable section
open Go.X
def RQ (csI csW : List AV) (oa i : Nat) : List (Nat × Nat × Blk) := [(n0Q, oa, .row (zrows 300 1 i) 22 true []), (30, 30, .row csI 22 true []), (31, 31, .row csW 22 true [])]
def rawQ (csI csW cs : List AV) : List (Option Blk × Bool) := [(some (.row cs 22 true []), true), (some (.row csI 22 true []), true), (some (.row csW 22 true []), true)]
def ocQ (i ra : Nat) : List AV := lapp (ltake (ldrop (zrows 300 1 i) 0) (Nat.mul i 1)) [.slc ra 0 1 1 false 1]
def hQ (z : T Blk) (csI csW : List AV) (i : Nat) (B : List (Nat × Blk)) : H := ⟨mkB z (lapp (rrQ (zrows 300 1 i) csI csW) B), 2097152⟩
def hfQ (z : T Blk) (csI csW : List AV) (B : List (Nat × Blk)) : H := ⟨mkB z (lapp (rr0Q csI csW) B), n0Q⟩
def goQ (h : H) (n i r : Nat) (out : AV) (b : List Int) (d : List Bool) (K : KE) : Prop := xcode C1 Tryz.prog F 14 (loopC Tryz.prog 14 22) (mask 14) (tmpsN Tryz.prog 14) (mkE (eQ n (ggQ r b) out i)) h d K
def obQ (csI csW : List AV) (i : Nat) (A : List (Nat × Nat × Blk)) (oa ra : Nat) (row : List AV) (Kv : XE → Obs → Prop) : KE := fun x env h _ => Kv x (obs [6, 7, 16, 17, 71, 72, 73] (actsOf (lapp (RQ csI csW oa (i + 1)) A) [(300 + i, ra, rowQ row)]) (lapp (RQ csI csW oa (i + 1)) A) [(300 + i, ra, rowQ row)] env h)
def obfQ (csI csW : List AV) (A : List (Nat × Nat × Blk)) (oa ra : Nat) (row : List AV) (Kv : XE → Obs → Prop) : KE := fun x env h _ => Kv x (obs [6, 7, 16, 17, 71, 72, 73] (actsOf (lapp (RQ csI csW oa 1) A) [(300, ra, rowQ row)]) (lapp (RQ csI csW oa 1) A) [(300, ra, rowQ row)] env h)
def lfQ (z : T Blk) (csI csW : List AV) (n i r : Nat) (b : List Int) (A : List (Nat × Nat × Blk)) (oa ra : Nat) (row : List AV) (Kv : XE → Obs → Prop) : Prop := Kv .nrm (expsR n0Q (kpOf z) (eQ n (ggQ r b) (.slc n0Q 0 (i + 1) (i + 1) false 1) (i + 1)) (RQ csI csW oa (i + 1)) A [(300 + i, ra, rowQ row)] z (rawQ csI csW (ocQ i ra)))
def lffQ (z : T Blk) (csI csW : List AV) (n r : Nat) (b : List Int) (A : List (Nat × Nat × Blk)) (oa ra : Nat) (row : List AV) (Kv : XE → Obs → Prop) : Prop := Kv .nrm (expsR n0Q (kpOf z) (eQ n (ggQ r b) (.slc n0Q 0 1 1 false 1) 1) (RQ csI csW oa 1) A [(300, ra, rowQ row)] z (rawQ csI csW [.slc ra 0 1 1 false 1]))
def cIQ (h : H) (i r : Nat) (b : List Int) : Prop := cellIs h 30 i (.row r 1 (fun k => Option.rec 0 (fun x => x) (lget b k)))
def cRQ (h : H) (r : Nat) (b : List Int) : Prop := cellsAre h r (fun k => .sc (Option.rec 0 (fun x => x) (lget b k))) 1 0
def hdQ (h : H) (n i j r : Nat) (b : List Int) (t : Prop) : Prop := bcase (dcq true (ltI (Int.ofNat i) (Int.ofNat n))) (bcase (inB (Int.ofNat i) n) (cIQ h j r b ∧ (cRQ h r b ∧ t)) False) False
def ttQ (i : Nat) (t : Prop) : Prop := bcase (dcq false (Nat.ble (Nat.add i 1) i)) (bcase (appC (zrows 300 1 i) i) (bcase (Nat.ble (llen (zrows 300 1 i)) (Nat.mul i 1)) (bcase (inR .i64 (Int.ofNat i + Int.ofNat 1)) t False) (bcase (inR .i64 (Int.ofNat i + Int.ofNat 1)) t False)) False) False
def ixQ (i : Nat) : Nat := Nat.add 0 (Nat.mul (Int.toNat (Int.ofNat i)) 1)
theorem tQ_0_0 (z : T Blk) (csI csW : List AV) (n r : Nat) (Kv : XE → Obs → Prop) : goQ (hfQ z csI csW (bQ0)) n 0 r .nils [0] dQ_0_0 (obfQ csI csW (zipA (bQ1 1 0) kQ_0_0) 1049490 1049488 [.int .i64 0] Kv) = (hdQ (hfQ z csI csW (bQ0)) n 0 0 r [0] (lffQ z csI csW n r [0] (zipA (bQ1 1 0) kQ_0_0) 1049490 1049488 [.int .i64 0] Kv)) := by kernel_rfl
theorem tQ_1_0 (z : T Blk) (csI csW : List AV) (n i r : Nat) (a0 : Int) (a1 : Int) (Kv : XE → Obs → Prop) : goQ (hQ z csI csW i (bQ1 a0 a1)) n i r (.slc n0Q 0 i i false 1) [0] dQ_1_0 (obQ csI csW i (zipA (bQ1 (a0 + 1) a0) kQ_1_0) 2097177 2097175 [.int .i64 a0] Kv) = (hdQ (hQ z csI csW i (bQ1 a0 a1)) n i (ixQ i) r [0] (bcase (inR .i64 (a0 + 1)) (bcase (dcq false (eqI a0 (a0 + 1))) (bcase (dcq false (eqI a0 (a0 + 1))) (bcase (dcq false (eqI a0 (a0 + 1))) (bcase (dcq false (eqI a0 (a0 + 1))) (bcase (dcq true (eqI (a0 + 1) (a0 + 1))) (bcase (dcq true (eqI (a0 + 1) (a0 + 1))) (bcase (dcq true (eqI (a0 + 1) (a0 + 1))) (bcase (inR .u8 a0) (bcase (inR .i64 a0) (bcase (dcq true (eqI a0 a0)) (bcase (inR .i64 (a0 + 1)) (bcase (inR .u8 (a0 + 1)) (bcase (inR .i64 (a0 + 1)) (bcase (dcq true (eqI (a0 + 1) (a0 + 1))) (ttQ i (lfQ z csI csW n i r [0] (zipA (bQ1 (a0 + 1) a0) kQ_1_0) 2097177 2097175 [.int .i64 a0] Kv)) False) False) False) False) False) False) False) False) False) False) False) False) False) False) False)) := by kernel_rfl
theorem tQ_1_1 (z : T Blk) (csI csW : List AV) (n i r : Nat) (a0 : Int) (a1 : Int) (Kv : XE → Obs → Prop) : goQ (hQ z csI csW i (bQ1 a0 a1)) n i r (.slc n0Q 0 i i false 1) [1] dQ_1_1 (obQ csI csW i (zipA (bQ2 (a0 + 1) a0) kQ_1_1) 2097180 2097178 [.int .i64 a0] Kv) = (hdQ (hQ z csI csW i (bQ1 a0 a1)) n i (ixQ i) r [1] (bcase (inR .i64 (a0 + 1)) (bcase (dcq false (eqI a0 (a0 + 1))) (bcase (dcq false (eqI a0 (a0 + 1))) (bcase (dcq false (eqI a0 (a0 + 1))) (bcase (dcq false (eqI a0 (a0 + 1))) (bcase (dcq true (eqI (a0 + 1) (a0 + 1))) (bcase (dcq true (eqI (a0 + 1) (a0 + 1))) (bcase (dcq true (eqI (a0 + 1) (a0 + 1))) (bcase (inR .u8 a0) (bcase (inR .i64 a0) (bcase (dcq true (eqI a0 a0)) (bcase (inR .i64 (a0 + 1)) (bcase (inR .u8 (a0 + 1)) (bcase (inR .i64 (a0 + 1)) (bcase (dcq true (eqI (a0 + 1) (a0 + 1))) (ttQ i (lfQ z csI csW n i r [1] (zipA (bQ2 (a0 + 1) a0) kQ_1_1) 2097180 2097178 [.int .i64 a0] Kv)) False) False) False) False) False) False) False) False) False) False) False) False) False) False) False)) := by kernel_rfl
theorem tQ_2_1 (z : T Blk) (csI csW : List AV) (n i r : Nat) (a0 : Int) (a1 : Int) (Kv : XE → Obs → Prop) : goQ (hQ z csI csW i (bQ2 a0 a1)) n i r (.slc n0Q 0 i i false 1) [1] dQ_2_1 (obQ csI csW i (zipA (bQ3 (a0 + 1) 100 a0 a1 a0 101) kQ_2_1) 2097179 2097177 [.int .i64 100] Kv) = (hdQ (hQ z csI csW i (bQ2 a0 a1)) n i (ixQ i) r [1] (bcase (inR .i64 (a0 + 1)) (bcase (dcq false (eqI a0 (a0 + 1))) (bcase (dcq false (eqI a0 (a0 + 1))) (bcase (dcq false (eqI 0 (a0 + 1))) (bcase (dcq false (eqI 0 (a0 + 1))) (bcase (dcq true (eqI (a0 + 1) (a0 + 1))) (bcase (dcq true (eqI (a0 + 1) (a0 + 1))) (bcase (dcq true (eqI (a0 + 1) (a0 + 1))) (bcase (dcq true (eqI (a0 + 1) (a0 + 1))) (ttQ i (lfQ z csI csW n i r [1] (zipA (bQ3 (a0 + 1) 100 a0 a1 a0 101) kQ_2_1) 2097179 2097177 [.int .i64 100] Kv)) False) False) False) False) False) False) False) False) False)) := by kernel_rfl
theorem tQ_3_1 (z : T Blk) (csI csW : List AV) (n i r : Nat) (a0 : Int) (a1 : Int) (a2 : Int) (a3 : Int) (a4 : Int) (a5 : Int) (Kv : XE → Obs → Prop) : goQ (hQ z csI csW i (bQ3 a0 a1 a2 a3 a4 a5)) n i r (.slc n0Q 0 i i false 1) [1] dQ_3_1 (obQ csI csW i (zipA (bQ4 (a0 + 1) a4 a0 a1 (a4 + 1) a5) kQ_3_1) 2097180 2097178 [.int .i64 a4] Kv) = (hdQ (hQ z csI csW i (bQ3 a0 a1 a2 a3 a4 a5)) n i (ixQ i) r [1] (bcase (inR .i64 (a0 + 1)) (bcase (dcq false (eqI a0 (a0 + 1))) (bcase (dcq false (eqI a0 (a0 + 1))) (bcase (dcq false (eqI a2 (a0 + 1))) (bcase (dcq false (eqI a2 (a0 + 1))) (bcase (dcq true (eqI (a0 + 1) (a0 + 1))) (bcase (dcq true (eqI (a0 + 1) (a0 + 1))) (bcase (dcq true (eqI (a0 + 1) (a0 + 1))) (bcase (inR .u8 a4) (bcase (inR .i64 a4) (bcase (dcq true (eqI a4 a4)) (bcase (inR .i64 (a4 + 1)) (bcase (inR .u8 (a4 + 1)) (bcase (inR .i64 (a4 + 1)) (bcase (dcq true (eqI (a0 + 1) (a0 + 1))) (ttQ i (lfQ z csI csW n i r [1] (zipA (bQ4 (a0 + 1) a4 a0 a1 (a4 + 1) a5) kQ_3_1) 2097180 2097178 [.int .i64 a4] Kv)) False) False) False) False) False) False) False) False) False) False) False) False) False) False) False)) := by kernel_rfl
theorem tQ_4_0 (z : T Blk) (csI csW : List AV) (n i r : Nat) (a0 : Int) (a1 : Int) (a2 : Int) (a3 : Int) (a4 : Int) (a5 : Int) (Kv : XE → Obs → Prop) : goQ (hQ z csI csW i (bQ4 a0 a1 a2 a3 a4 a5)) n i r (.slc n0Q 0 i i false 1) [0] dQ_4_0 (obQ csI csW i (zipA (bQ5 (a0 + 1) a5 a0 a1 a4 (a5 + 1)) kQ_4_0) 2097177 2097175 [.int .i64 a5] Kv) = (hdQ (hQ z csI csW i (bQ4 a0 a1 a2 a3 a4 a5)) n i (ixQ i) r [0] (bcase (inR .i64 (a0 + 1)) (bcase (dcq false (eqI a0 (a0 + 1))) (bcase (dcq false (eqI a0 (a0 + 1))) (bcase (dcq false (eqI a2 (a0 + 1))) (bcase (dcq false (eqI a2 (a0 + 1))) (bcase (dcq true (eqI (a0 + 1) (a0 + 1))) (bcase (dcq true (eqI (a0 + 1) (a0 + 1))) (bcase (dcq true (eqI (a0 + 1) (a0 + 1))) (bcase (inR .u8 a5) (bcase (inR .i64 a5) (bcase (dcq true (eqI a5 a5)) (bcase (inR .i64 (a5 + 1)) (bcase (inR .u8 (a5 + 1)) (bcase (inR .i64 (a5 + 1)) (bcase (dcq true (eqI (a0 + 1) (a0 + 1))) (ttQ i (lfQ z csI csW n i r [0] (zipA (bQ5 (a0 + 1) a5 a0 a1 a4 (a5 + 1)) kQ_4_0) 2097177 2097175 [.int .i64 a5] Kv)) False) False) False) False) False) False) False) False) False) False) False) False) False) False) False)) := by kernel_rfl
theorem tQ_5_0 (z : T Blk) (csI csW : List AV) (n i r : Nat) (a0 : Int) (a1 : Int) (a2 : Int) (a3 : Int) (a4 : Int) (a5 : Int) (Kv : XE → Obs → Prop) : goQ (hQ z csI csW i (bQ5 a0 a1 a2 a3 a4 a5)) n i r (.slc n0Q 0 i i false 1) [0] dQ_5_0 (obQ csI csW i (zipA (bQ5 (a0 + 1) a5 a2 a3 a4 (a5 + 1)) kQ_5_0) 2097177 2097175 [.int .i64 a5] Kv) = (hdQ (hQ z csI csW i (bQ5 a0 a1 a2 a3 a4 a5)) n i (ixQ i) r [0] (bcase (inR .i64 (a0 + 1)) (bcase (dcq false (eqI a0 (a0 + 1))) (bcase (dcq false (eqI a0 (a0 + 1))) (bcase (dcq false (eqI a0 (a0 + 1))) (bcase (dcq false (eqI a0 (a0 + 1))) (bcase (dcq true (eqI (a0 + 1) (a0 + 1))) (bcase (dcq true (eqI (a0 + 1) (a0 + 1))) (bcase (dcq true (eqI (a0 + 1) (a0 + 1))) (bcase (inR .u8 a5) (bcase (inR .i64 a5) (bcase (dcq true (eqI a5 a5)) (bcase (inR .i64 (a5 + 1)) (bcase (inR .u8 (a5 + 1)) (bcase (inR .i64 (a5 + 1)) (bcase (dcq true (eqI (a0 + 1) (a0 + 1))) (ttQ i (lfQ z csI csW n i r [0] (zipA (bQ5 (a0 + 1) a5 a2 a3 a4 (a5 + 1)) kQ_5_0) 2097177 2097175 [.int .i64 a5] Kv)) False) False) False) False) False) False) False) False) False) False) False) False) False) False) False)) := by kernel_rfl
theorem tQ_5_1 (z : T Blk) (csI csW : List AV) (n i r : Nat) (a0 : Int) (a1 : Int) (a2 : Int) (a3 : Int) (a4 : Int) (a5 : Int) (Kv : XE → Obs → Prop) : goQ (hQ z csI csW i (bQ5 a0 a1 a2 a3 a4 a5)) n i r (.slc n0Q 0 i i false 1) [1] dQ_5_1 (obQ csI csW i (zipA (bQ3 (a0 + 1) a5 a2 a3 a4 (a5 + 1)) kQ_5_1) 2097179 2097177 [.int .i64 a5] Kv) = (hdQ (hQ z csI csW i (bQ5 a0 a1 a2 a3 a4 a5)) n i (ixQ i) r [1] (bcase (inR .i64 (a0 + 1)) (bcase (dcq false (eqI a0 (a0 + 1))) (bcase (dcq false (eqI a0 (a0 + 1))) (bcase (dcq false (eqI a0 (a0 + 1))) (bcase (dcq false (eqI a0 (a0 + 1))) (bcase (dcq true (eqI (a0 + 1) (a0 + 1))) (bcase (dcq true (eqI (a0 + 1) (a0 + 1))) (bcase (dcq true (eqI (a0 + 1) (a0 + 1))) (bcase (inR .u8 a5) (bcase (inR .i64 a5) (bcase (dcq true (eqI a5 a5)) (bcase (inR .i64 (a5 + 1)) (bcase (inR .u8 (a5 + 1)) (bcase (inR .i64 (a5 + 1)) (bcase (dcq true (eqI (a0 + 1) (a0 + 1))) (ttQ i (lfQ z csI csW n i r [1] (zipA (bQ3 (a0 + 1) a5 a2 a3 a4 (a5 + 1)) kQ_5_1) 2097179 2097177 [.int .i64 a5] Kv)) False) False) False) False) False) False) False) False) False) False) False) False) False) False) False)) := by kernel_rfl
theorem tQ_3_0 (z : T Blk) (csI csW : List AV) (n i r : Nat) (a0 : Int) (a1 : Int) (a2 : Int) (a3 : Int) (a4 : Int) (a5 : Int) (Kv : XE → Obs → Prop) : goQ (hQ z csI csW i (bQ3 a0 a1 a2 a3 a4 a5)) n i r (.slc n0Q 0 i i false 1) [0] dQ_3_0 (obQ csI csW i (zipA (bQ6 (a0 + 1) a4 a0 a1 (a4 + 1) a5) kQ_3_0) 2097177 2097175 [.int .i64 a4] Kv) = (hdQ (hQ z csI csW i (bQ3 a0 a1 a2 a3 a4 a5)) n i (ixQ i) r [0] (bcase (inR .i64 (a0 + 1)) (bcase (dcq false (eqI a0 (a0 + 1))) (bcase (dcq false (eqI a0 (a0 + 1))) (bcase (dcq false (eqI a2 (a0 + 1))) (bcase (dcq false (eqI a2 (a0 + 1))) (bcase (dcq true (eqI (a0 + 1) (a0 + 1))) (bcase (dcq true (eqI (a0 + 1) (a0 + 1))) (bcase (dcq true (eqI (a0 + 1) (a0 + 1))) (bcase (inR .u8 a4) (bcase (inR .i64 a4) (bcase (dcq true (eqI a4 a4)) (bcase (inR .i64 (a4 + 1)) (bcase (inR .u8 (a4 + 1)) (bcase (inR .i64 (a4 + 1)) (bcase (dcq true (eqI (a0 + 1) (a0 + 1))) (ttQ i (lfQ z csI csW n i r [0] (zipA (bQ6 (a0 + 1) a4 a0 a1 (a4 + 1) a5) kQ_3_0) 2097177 2097175 [.int .i64 a4] Kv)) False) False) False) False) False) False) False) False) False) False) False) False) False) False) False)) := by kernel_rfl
theorem tQ_6_1 (z : T Blk) (csI csW : List AV) (n i r : Nat) (a0 : Int) (a1 : Int) (a2 : Int) (a3 : Int) (a4 : Int) (a5 : Int) (Kv : XE → Obs → Prop) : goQ (hQ z csI csW i (bQ6 a0 a1 a2 a3 a4 a5)) n i r (.slc n0Q 0 i i false 1) [1] dQ_6_1 (obQ csI csW i (zipA (bQ4 (a0 + 1) a4 a2 a3 (a4 + 1) a5) kQ_6_1) 2097180 2097178 [.int .i64 a4] Kv) = (hdQ (hQ z csI csW i (bQ6 a0 a1 a2 a3 a4 a5)) n i (ixQ i) r [1] (bcase (inR .i64 (a0 + 1)) (bcase (dcq false (eqI a0 (a0 + 1))) (bcase (dcq false (eqI a0 (a0 + 1))) (bcase (dcq false (eqI a0 (a0 + 1))) (bcase (dcq false (eqI a0 (a0 + 1))) (bcase (dcq true (eqI (a0 + 1) (a0 + 1))) (bcase (dcq true (eqI (a0 + 1) (a0 + 1))) (bcase (dcq true (eqI (a0 + 1) (a0 + 1))) (bcase (inR .u8 a4) (bcase (inR .i64 a4) (bcase (dcq true (eqI a4 a4)) (bcase (inR .i64 (a4 + 1)) (bcase (inR .u8 (a4 + 1)) (bcase (inR .i64 (a4 + 1)) (bcase (dcq true (eqI (a0 + 1) (a0 + 1))) (ttQ i (lfQ z csI csW n i r [1] (zipA (bQ4 (a0 + 1) a4 a2 a3 (a4 + 1) a5) kQ_6_1) 2097180 2097178 [.int .i64 a4] Kv)) False) False) False) False) False) False) False) False) False) False) False) False) False) False) False)) := by kernel_rfl
theorem tQ_0_1 (z : T Blk) (csI csW : List AV) (n r : Nat) (Kv : XE → Obs → Prop) : goQ (hfQ z csI csW (bQ0)) n 0 r .nils [1] dQ_0_1 (obfQ csI csW (zipA (bQ2 1 0) kQ_0_1) 1049493 1049491 [.int .i64 0] Kv) = (hdQ (hfQ z csI csW (bQ0)) n 0 0 r [1] (lffQ z csI csW n r [1] (zipA (bQ2 1 0) kQ_0_1) 1049493 1049491 [.int .i64 0] Kv)) := by kernel_rfl
theorem tQ_2_0 (z : T Blk) (csI csW : List AV) (n i r : Nat) (a0 : Int) (a1 : Int) (Kv : XE → Obs → Prop) : goQ (hQ z csI csW i (bQ2 a0 a1)) n i r (.slc n0Q 0 i i false 1) [0] dQ_2_0 (obQ csI csW i (zipA (bQ5 (a0 + 1) 100 a0 a1 a0 101) kQ_2_0) 2097177 2097175 [.int .i64 100] Kv) = (hdQ (hQ z csI csW i (bQ2 a0 a1)) n i (ixQ i) r [0] (bcase (inR .i64 (a0 + 1)) (bcase (dcq false (eqI a0 (a0 + 1))) (bcase (dcq false (eqI a0 (a0 + 1))) (bcase (dcq false (eqI 0 (a0 + 1))) (bcase (dcq false (eqI 0 (a0 + 1))) (bcase (dcq true (eqI (a0 + 1) (a0 + 1))) (bcase (dcq true (eqI (a0 + 1) (a0 + 1))) (bcase (dcq true (eqI (a0 + 1) (a0 + 1))) (bcase (dcq true (eqI (a0 + 1) (a0 + 1))) (ttQ i (lfQ z csI csW n i r [0] (zipA (bQ5 (a0 + 1) 100 a0 a1 a0 101) kQ_2_0) 2097177 2097175 [.int .i64 100] Kv)) False) False) False) False) False) False) False) False) False)) := by kernel_rfl
theorem tQ_4_1 (z : T Blk) (csI csW : List AV) (n i r : Nat) (a0 : Int) (a1 : Int) (a2 : Int) (a3 : Int) (a4 : Int) (a5 : Int) (Kv : XE → Obs → Prop) : goQ (hQ z csI csW i (bQ4 a0 a1 a2 a3 a4 a5)) n i r (.slc n0Q 0 i i false 1) [1] dQ_4_1 (obQ csI csW i (zipA (bQ3 (a0 + 1) a5 a0 a1 a4 (a5 + 1)) kQ_4_1) 2097179 2097177 [.int .i64 a5] Kv) = (hdQ (hQ z csI csW i (bQ4 a0 a1 a2 a3 a4 a5)) n i (ixQ i) r [1] (bcase (inR .i64 (a0 + 1)) (bcase (dcq false (eqI a0 (a0 + 1))) (bcase (dcq false (eqI a0 (a0 + 1))) (bcase (dcq false (eqI a2 (a0 + 1))) (bcase (dcq false (eqI a2 (a0 + 1))) (bcase (dcq true (eqI (a0 + 1) (a0 + 1))) (bcase (dcq true (eqI (a0 + 1) (a0 + 1))) (bcase (dcq true (eqI (a0 + 1) (a0 + 1))) (bcase (inR .u8 a5) (bcase (inR .i64 a5) (bcase (dcq true (eqI a5 a5)) (bcase (inR .i64 (a5 + 1)) (bcase (inR .u8 (a5 + 1)) (bcase (inR .i64 (a5 + 1)) (bcase (dcq true (eqI (a0 + 1) (a0 + 1))) (ttQ i (lfQ z csI csW n i r [1] (zipA (bQ3 (a0 + 1) a5 a0 a1 a4 (a5 + 1)) kQ_4_1) 2097179 2097177 [.int .i64 a5] Kv)) False) False) False) False) False) False) False) False) False) False) False) False) False) False) False)) := by kernel_rfl
theorem tQ_6_0 (z : T Blk) (csI csW : List AV) (n i r : Nat) (a0 : Int) (a1 : Int) (a2 : Int) (a3 : Int) (a4 : Int) (a5 : Int) (Kv : XE → Obs → Prop) : goQ (hQ z csI csW i (bQ6 a0 a1 a2 a3 a4 a5)) n i r (.slc n0Q 0 i i false 1) [0] dQ_6_0 (obQ csI csW i (zipA (bQ6 (a0 + 1) a4 a2 a3 (a4 + 1) a5) kQ_6_0) 2097177 2097175 [.int .i64 a4] Kv) = (hdQ (hQ z csI csW i (bQ6 a0 a1 a2 a3 a4 a5)) n i (ixQ i) r [0] (bcase (inR .i64 (a0 + 1)) (bcase (dcq false (eqI a0 (a0 + 1))) (bcase (dcq false (eqI a0 (a0 + 1))) (bcase (dcq false (eqI a0 (a0 + 1))) (bcase (dcq false (eqI a0 (a0 + 1))) (bcase (dcq true (eqI (a0 + 1) (a0 + 1))) (bcase (dcq true (eqI (a0 + 1) (a0 + 1))) (bcase (dcq true (eqI (a0 + 1) (a0 + 1))) (bcase (inR .u8 a4) (bcase (inR .i64 a4) (bcase (dcq true (eqI a4 a4)) (bcase (inR .i64 (a4 + 1)) (bcase (inR .u8 (a4 + 1)) (bcase (inR .i64 (a4 + 1)) (bcase (dcq true (eqI (a0 + 1) (a0 + 1))) (ttQ i (lfQ z csI csW n i r [0] (zipA (bQ6 (a0 + 1) a4 a2 a3 (a4 + 1) a5) kQ_6_0) 2097177 2097175 [.int .i64 a4] Kv)) False) False) False) False) False) False) False) False) False) False) False) False) False) False) False)) := by kernel_rfl
theorem xQ_1 (z : T Blk) (csI csW : List AV) (n i : Nat) (g : Nat → CV) (a0 : Int) (a1 : Int) (Kv : XE → Obs → Prop) : xcode C1 Tryz.prog F 14 (loopC Tryz.prog 14 22) (mask 14) (tmpsN Tryz.prog 14) (mkE (eQ n g (.slc n0Q 0 i i false 1) i)) ⟨mkB z (lapp (rrQ (zrows 300 1 i) csI csW) (bQ1 a0 a1)), 2097152⟩ [false] (fun x env h _ => Kv x (obs [6, 7, 17] (actsOf (lapp [(n0Q, n0Q, .row (zrows 300 1 i) 22 true []), (30, 30, .row csI 22 true []), (31, 31, .row csW 22 true [])] []) []) (lapp [(n0Q, n0Q, .row (zrows 300 1 i) 22 true []), (30, 30, .row csI 22 true []), (31, 31, .row csW 22 true [])] []) [] env h)) = (bcase (dcq false (ltI (Int.ofNat i) (Int.ofNat n))) (Kv (.ext 2) (expsR n0Q (kpOf z) [(6, .nils), (7, .int .i64 (Int.ofNat 0)), (17, .slc n0Q 0 i i false 1)] [(n0Q, n0Q, .row (zrows 300 1 i) 22 true []), (30, 30, .row csI 22 true []), (31, 31, .row csW 22 true [])] [] [] z [(some (.row (zrows 300 1 i) 22 true []), true), (some (.row csI 22 true []), true), (some (.row csW 22 true []), true)])) False) := by kernel_rfl
theorem xQ_2 (z : T Blk) (csI csW : List AV) (n i : Nat) (g : Nat → CV) (a0 : Int) (a1 : Int) (Kv : XE → Obs → Prop) : xcode C1 Tryz.prog F 14 (loopC Tryz.prog 14 22) (mask 14) (tmpsN Tryz.prog 14) (mkE (eQ n g (.slc n0Q 0 i i false 1) i)) ⟨mkB z (lapp (rrQ (zrows 300 1 i) csI csW) (bQ2 a0 a1)), 2097152⟩ [false] (fun x env h _ => Kv x (obs [6, 7, 17] (actsOf (lapp [(n0Q, n0Q, .row (zrows 300 1 i) 22 true []), (30, 30, .row csI 22 true []), (31, 31, .row csW 22 true [])] []) []) (lapp [(n0Q, n0Q, .row (zrows 300 1 i) 22 true []), (30, 30, .row csI 22 true []), (31, 31, .row csW 22 true [])] []) [] env h)) = (bcase (dcq false (ltI (Int.ofNat i) (Int.ofNat n))) (Kv (.ext 2) (expsR n0Q (kpOf z) [(6, .nils), (7, .int .i64 (Int.ofNat 0)), (17, .slc n0Q 0 i i false 1)] [(n0Q, n0Q, .row (zrows 300 1 i) 22 true []), (30, 30, .row csI 22 true []), (31, 31, .row csW 22 true [])] [] [] z [(some (.row (zrows 300 1 i) 22 true []), true), (some (.row csI 22 true []), true), (some (.row csW 22 true []), true)])) False) := by kernel_rfl
theorem xQ_3 (z : T Blk) (csI csW : List AV) (n i : Nat) (g : Nat → CV) (a0 : Int) (a1 : Int) (a2 : Int) (a3 : Int) (a4 : Int) (a5 : Int) (Kv : XE → Obs → Prop) : xcode C1 Tryz.prog F 14 (loopC Tryz.prog 14 22) (mask 14) (tmpsN Tryz.prog 14) (mkE (eQ n g (.slc n0Q 0 i i false 1) i)) ⟨mkB z (lapp (rrQ (zrows 300 1 i) csI csW) (bQ3 a0 a1 a2 a3 a4 a5)), 2097152⟩ [false] (fun x env h _ => Kv x (obs [6, 7, 17] (actsOf (lapp [(n0Q, n0Q, .row (zrows 300 1 i) 22 true []), (30, 30, .row csI 22 true []), (31, 31, .row csW 22 true [])] []) []) (lapp [(n0Q, n0Q, .row (zrows 300 1 i) 22 true []), (30, 30, .row csI 22 true []), (31, 31, .row csW 22 true [])] []) [] env h)) = (bcase (dcq false (ltI (Int.ofNat i) (Int.ofNat n))) (Kv (.ext 2) (expsR n0Q (kpOf z) [(6, .nils), (7, .int .i64 (Int.ofNat 0)), (17, .slc n0Q 0 i i false 1)] [(n0Q, n0Q, .row (zrows 300 1 i) 22 true []), (30, 30, .row csI 22 true []), (31, 31, .row csW 22 true [])] [] [] z [(some (.row (zrows 300 1 i) 22 true []), true), (some (.row csI 22 true []), true), (some (.row csW 22 true []), true)])) False) := by kernel_rfl
theorem xQ_4 (z : T Blk) (csI csW : List AV) (n i : Nat) (g : Nat → CV) (a0 : Int) (a1 : Int) (a2 : Int) (a3 : Int) (a4 : Int) (a5 : Int) (Kv : XE → Obs → Prop) : xcode C1 Tryz.prog F 14 (loopC Tryz.prog 14 22) (mask 14) (tmpsN Tryz.prog 14) (mkE (eQ n g (.slc n0Q 0 i i false 1) i)) ⟨mkB z (lapp (rrQ (zrows 300 1 i) csI csW) (bQ4 a0 a1 a2 a3 a4 a5)), 2097152⟩ [false] (fun x env h _ => Kv x (obs [6, 7, 17] (actsOf (lapp [(n0Q, n0Q, .row (zrows 300 1 i) 22 true []), (30, 30, .row csI 22 true []), (31, 31, .row csW 22 true [])] []) []) (lapp [(n0Q, n0Q, .row (zrows 300 1 i) 22 true []), (30, 30, .row csI 22 true []), (31, 31, .row csW 22 true [])] []) [] env h)) = (bcase (dcq false (ltI (Int.ofNat i) (Int.ofNat n))) (Kv (.ext 2) (expsR n0Q (kpOf z) [(6, .nils), (7, .int .i64 (Int.ofNat 0)), (17, .slc n0Q 0 i i false 1)] [(n0Q, n0Q, .row (zrows 300 1 i) 22 true []), (30, 30, .row csI 22 true []), (31, 31, .row csW 22 true [])] [] [] z [(some (.row (zrows 300 1 i) 22 true []), true), (some (.row csI 22 true []), true), (some (.row csW 22 true []), true)])) False) := by kernel_rfl
theorem xQ_5 (z : T Blk) (csI csW : List AV) (n i : Nat) (g : Nat → CV) (a0 : Int) (a1 : Int) (a2 : Int) (a3 : Int) (a4 : Int) (a5 : Int) (Kv : XE → Obs → Prop) : xcode C1 Tryz.prog F 14 (loopC Tryz.prog 14 22) (mask 14) (tmpsN Tryz.prog 14) (mkE (eQ n g (.slc n0Q 0 i i false 1) i)) ⟨mkB z (lapp (rrQ (zrows 300 1 i) csI csW) (bQ5 a0 a1 a2 a3 a4 a5)), 2097152⟩ [false] (fun x env h _ => Kv x (obs [6, 7, 17] (actsOf (lapp [(n0Q, n0Q, .row (zrows 300 1 i) 22 true []), (30, 30, .row csI 22 true []), (31, 31, .row csW 22 true [])] []) []) (lapp [(n0Q, n0Q, .row (zrows 300 1 i) 22 true []), (30, 30, .row csI 22 true []), (31, 31, .row csW 22 true [])] []) [] env h)) = (bcase (dcq false (ltI (Int.ofNat i) (Int.ofNat n))) (Kv (.ext 2) (expsR n0Q (kpOf z) [(6, .nils), (7, .int .i64 (Int.ofNat 0)), (17, .slc n0Q 0 i i false 1)] [(n0Q, n0Q, .row (zrows 300 1 i) 22 true []), (30, 30, .row csI 22 true []), (31, 31, .row csW 22 true [])] [] [] z [(some (.row (zrows 300 1 i) 22 true []), true), (some (.row csI 22 true []), true), (some (.row csW 22 true []), true)])) False) := by kernel_rfl
theorem xQ_6 (z : T Blk) (csI csW : List AV) (n i : Nat) (g : Nat → CV) (a0 : Int) (a1 : Int) (a2 : Int) (a3 : Int) (a4 : Int) (a5 : Int) (Kv : XE → Obs → Prop) : xcode C1 Tryz.prog F 14 (loopC Tryz.prog 14 22) (mask 14) (tmpsN Tryz.prog 14) (mkE (eQ n g (.slc n0Q 0 i i false 1) i)) ⟨mkB z (lapp (rrQ (zrows 300 1 i) csI csW) (bQ6 a0 a1 a2 a3 a4 a5)), 2097152⟩ [false] (fun x env h _ => Kv x (obs [6, 7, 17] (actsOf (lapp [(n0Q, n0Q, .row (zrows 300 1 i) 22 true []), (30, 30, .row csI 22 true []), (31, 31, .row csW 22 true [])] []) []) (lapp [(n0Q, n0Q, .row (zrows 300 1 i) 22 true []), (30, 30, .row csI 22 true []), (31, 31, .row csW 22 true [])] []) [] env h)) = (bcase (dcq false (ltI (Int.ofNat i) (Int.ofNat n))) (Kv (.ext 2) (expsR n0Q (kpOf z) [(6, .nils), (7, .int .i64 (Int.ofNat 0)), (17, .slc n0Q 0 i i false 1)] [(n0Q, n0Q, .row (zrows 300 1 i) 22 true []), (30, 30, .row csI 22 true []), (31, 31, .row csW 22 true [])] [] [] z [(some (.row (zrows 300 1 i) 22 true []), true), (some (.row csI 22 true []), true), (some (.row csW 22 true []), true)])) False) := by kernel_rfl
end
end Go.Proofs.YtkfhjobebhdpoaaGreat
/- Stream: what the rounds of Run's loop do. -/
set_option autoImplicit false
set_option maxRecDepth 1000000
set_option maxHeartbeats 2000000
set_option linter.unusedVariables false
namespace Go.Proofs.YtkfhjobebhdpoaaGreat
noncomputable section
open Go.X
/-- in which state it is at the beginning of a tick, and what the counters are -/
def nxQ (b : Bool) (s : Int × Int × Int) : Int × Int × Int := Bool.rec (if s.1 = 0 then (0, (s.2.1 + 1), s.2.2) else (1, s.2.1, (s.2.2 + 1))) (if s.1 = 0 then (1, (s.2.1 + 1), s.2.2) else (0, s.2.1, (s.2.2 + 1))) b
def vlQ (b : Bool) (s : Int × Int × Int) : Int := Bool.rec (if s.1 = 0 then s.2.1 else s.2.2) (if s.1 = 0 then s.2.1 else s.2.2) b
def st3Q (l : Nat → Bool) : Nat → Int × Int × Int := fun i => Nat.rec (0, 0, 100) (fun j ih => nxQ (l j) ih) i
def nowQ (l : Nat → Bool) (i : Nat) : Int := (st3Q l i).1
def uQ (l : Nat → Bool) (i : Nat) : Int := (st3Q l i).2.1
def vQ (l : Nat → Bool) (i : Nat) : Int := (st3Q l i).2.2
def valQ (l : Nat → Bool) (j : Nat) : Int := vlQ (l j) (st3Q l j)
theorem stepQ_false {l : Nat → Bool} {i : Nat} (h : l i = false) : (nowQ l i = 0 → nowQ l (i + 1) = 0 ∧ uQ l (i + 1) = (uQ l i + 1) ∧ vQ l (i + 1) = vQ l i ∧ valQ l i = uQ l i) ∧ (nowQ l i ≠ 0 → nowQ l (i + 1) = 1 ∧ uQ l (i + 1) = uQ l i ∧ vQ l (i + 1) = (vQ l i + 1) ∧ valQ l i = vQ l i) := by
  have e : st3Q l (i + 1) = nxQ (l i) (st3Q l i) := rfl
  unfold nowQ uQ vQ valQ
  rw [e, h]
  refine ⟨fun k => ?_, fun k => ?_⟩
  · have e1 : nxQ false (st3Q l i) = _ := if_pos k
    have e2 : vlQ false (st3Q l i) = _ := if_pos k
    rw [e1, e2]; exact ⟨rfl, rfl, rfl, rfl⟩
  · have e1 : nxQ false (st3Q l i) = _ := if_neg k
    have e2 : vlQ false (st3Q l i) = _ := if_neg k
    rw [e1, e2]; exact ⟨rfl, rfl, rfl, rfl⟩
theorem stepQ_true {l : Nat → Bool} {i : Nat} (h : l i = true) : (nowQ l i = 0 → nowQ l (i + 1) = 1 ∧ uQ l (i + 1) = (uQ l i + 1) ∧ vQ l (i + 1) = vQ l i ∧ valQ l i = uQ l i) ∧ (nowQ l i ≠ 0 → nowQ l (i + 1) = 0 ∧ uQ l (i + 1) = uQ l i ∧ vQ l (i + 1) = (vQ l i + 1) ∧ valQ l i = vQ l i) := by
  have e : st3Q l (i + 1) = nxQ (l i) (st3Q l i) := rfl
  unfold nowQ uQ vQ valQ
  rw [e, h]
  refine ⟨fun k => ?_, fun k => ?_⟩
  · have e1 : nxQ true (st3Q l i) = _ := if_pos k
    have e2 : vlQ true (st3Q l i) = _ := if_pos k
    rw [e1, e2]; exact ⟨rfl, rfl, rfl, rfl⟩
  · have e1 : nxQ true (st3Q l i) = _ := if_neg k
    have e2 : vlQ true (st3Q l i) = _ := if_neg k
    rw [e1, e2]; exact ⟨rfl, rfl, rfl, rfl⟩
theorem stepQ_false0 {l : Nat → Bool} (h : l 0 = false) : (nowQ l 0 = 0 → nowQ l 1 = 0 ∧ uQ l 1 = (uQ l 0 + 1) ∧ vQ l 1 = vQ l 0 ∧ valQ l 0 = uQ l 0) ∧ (nowQ l 0 ≠ 0 → nowQ l 1 = 1 ∧ uQ l 1 = uQ l 0 ∧ vQ l 1 = (vQ l 0 + 1) ∧ valQ l 0 = vQ l 0) := stepQ_false h
theorem stepQ_true0 {l : Nat → Bool} (h : l 0 = true) : (nowQ l 0 = 0 → nowQ l 1 = 1 ∧ uQ l 1 = (uQ l 0 + 1) ∧ vQ l 1 = vQ l 0 ∧ valQ l 0 = uQ l 0) ∧ (nowQ l 0 ≠ 0 → nowQ l 1 = 0 ∧ uQ l 1 = uQ l 0 ∧ vQ l 1 = (vQ l 0 + 1) ∧ valQ l 0 = vQ l 0) := stepQ_true h
theorem leQ (l : Nat → Bool) : ∀ i : Nat, (nowQ l i = 0 ∨ nowQ l i = 1) ∧ 0 ≤ uQ l i ∧ uQ l i ≤ i ∧ 100 ≤ vQ l i ∧ vQ l i ≤ 100 + i
  | 0 => ⟨.inl rfl, Int.le_refl _, Int.le_refl _, Int.le_refl _, Int.le_refl _⟩
  | i + 1 => by
    have ih := leQ l i
    cases h : l i with
    | true => have := stepQ_true h; omega
    | false => have := stepQ_false h; omega
def inRowQ (l : Nat → Bool) (j : Nat) : Blk := .row [.int .i64 (bi (l j))] 3 true []
def outQ (l : Nat → Bool) (j : Nat) : Blk := rowQ [.int .i64 (valQ l j)]
theorem outQ_int (l : Nat → Bool) (j : Nat) : IntRow (outQ l j) := ⟨[valQ l j], 3, true, rfl⟩
/-- the zone that holds the rows of the inputs and those that are wanted -/
structure ZinQ (l : Nat → Bool) (n : Nat) (z : T Blk) : Prop where
  ins : ∀ j, j < n → z.get j = some (inRowQ l j)
  want : ∀ j, j < n → z.get (100 + j) = some (outQ l j)
  only : ∀ x k, z.get x = some k → x < 200 ∧ IntRow k
theorem blksQ0 : blksN n0Q (bQ0) = true := by kernel_rfl
theorem getQ0 (z : T Blk) (csI csW : List AV) : T.get (mkB z (lapp (rr0Q csI csW) bQ0)) 30 = some (.row csI 22 true []) := by kernel_rfl
theorem zgQ0 (z : T Blk) (csI csW : List AV) : zget (mkB z (lapp (rr0Q csI csW) bQ0)) 12 = z := by kernel_rfl
theorem getQ1 (z : T Blk) (cs csI csW : List AV) (a0 : Int) (a1 : Int) : T.get (mkB z (lapp (rrQ cs csI csW) (bQ1 a0 a1))) 30 = some (.row csI 22 true []) := by kernel_rfl
theorem zgQ1 (z : T Blk) (cs csI csW : List AV) (a0 : Int) (a1 : Int) : zget (mkB z (lapp (rrQ cs csI csW) (bQ1 a0 a1))) 12 = z := by kernel_rfl
theorem getQ2 (z : T Blk) (cs csI csW : List AV) (a0 : Int) (a1 : Int) : T.get (mkB z (lapp (rrQ cs csI csW) (bQ2 a0 a1))) 30 = some (.row csI 22 true []) := by kernel_rfl
theorem zgQ2 (z : T Blk) (cs csI csW : List AV) (a0 : Int) (a1 : Int) : zget (mkB z (lapp (rrQ cs csI csW) (bQ2 a0 a1))) 12 = z := by kernel_rfl
theorem getQ3 (z : T Blk) (cs csI csW : List AV) (a0 : Int) (a1 : Int) (a2 : Int) (a3 : Int) (a4 : Int) (a5 : Int) : T.get (mkB z (lapp (rrQ cs csI csW) (bQ3 a0 a1 a2 a3 a4 a5))) 30 = some (.row csI 22 true []) := by kernel_rfl
theorem zgQ3 (z : T Blk) (cs csI csW : List AV) (a0 : Int) (a1 : Int) (a2 : Int) (a3 : Int) (a4 : Int) (a5 : Int) : zget (mkB z (lapp (rrQ cs csI csW) (bQ3 a0 a1 a2 a3 a4 a5))) 12 = z := by kernel_rfl
theorem getQ4 (z : T Blk) (cs csI csW : List AV) (a0 : Int) (a1 : Int) (a2 : Int) (a3 : Int) (a4 : Int) (a5 : Int) : T.get (mkB z (lapp (rrQ cs csI csW) (bQ4 a0 a1 a2 a3 a4 a5))) 30 = some (.row csI 22 true []) := by kernel_rfl
theorem zgQ4 (z : T Blk) (cs csI csW : List AV) (a0 : Int) (a1 : Int) (a2 : Int) (a3 : Int) (a4 : Int) (a5 : Int) : zget (mkB z (lapp (rrQ cs csI csW) (bQ4 a0 a1 a2 a3 a4 a5))) 12 = z := by kernel_rfl
theorem getQ5 (z : T Blk) (cs csI csW : List AV) (a0 : Int) (a1 : Int) (a2 : Int) (a3 : Int) (a4 : Int) (a5 : Int) : T.get (mkB z (lapp (rrQ cs csI csW) (bQ5 a0 a1 a2 a3 a4 a5))) 30 = some (.row csI 22 true []) := by kernel_rfl
theorem zgQ5 (z : T Blk) (cs csI csW : List AV) (a0 : Int) (a1 : Int) (a2 : Int) (a3 : Int) (a4 : Int) (a5 : Int) : zget (mkB z (lapp (rrQ cs csI csW) (bQ5 a0 a1 a2 a3 a4 a5))) 12 = z := by kernel_rfl
theorem getQ6 (z : T Blk) (cs csI csW : List AV) (a0 : Int) (a1 : Int) (a2 : Int) (a3 : Int) (a4 : Int) (a5 : Int) : T.get (mkB z (lapp (rrQ cs csI csW) (bQ6 a0 a1 a2 a3 a4 a5))) 30 = some (.row csI 22 true []) := by kernel_rfl
theorem zgQ6 (z : T Blk) (cs csI csW : List AV) (a0 : Int) (a1 : Int) (a2 : Int) (a3 : Int) (a4 : Int) (a5 : Int) : zget (mkB z (lapp (rrQ cs csI csW) (bQ6 a0 a1 a2 a3 a4 a5))) 12 = z := by kernel_rfl
/-- the zone as far as round i -/
def zoQ (l : Nat → Bool) (z : T Blk) (i : Nat) : T Blk := zgrow z 300 (outQ l) i
theorem zoQ_ok {l : Nat → Bool} {n : Nat} {z : T Blk} (Zs : ZinQ l n z) {i : Nat} (hi : i ≤ 60) : ZoneOK (zoQ l z i) 2097152 := by
  refine zgrow_ok (fun x k h => ?_) fun j hj => ⟨outQ_int l j, by rw [zn_eq]; omega, by rw [zn_eq]; show _ < 1000000000000; omega⟩
  obtain ⟨a, b⟩ := Zs.only x k h
  exact ⟨b, by rw [zn_eq]; omega, by rw [zn_eq]; show _ < 1000000000000; omega⟩
theorem zoQ_low {l : Nat → Bool} {z : T Blk} {i x : Nat} (hx : x < 300) : (zoQ l z i).get x = z.get x := zgrow_old (.inl hx)
theorem belQ_I {n : Nat} (hn : n ≤ 60) : belL 2097152 (zrowsT 0 1 n) = true := belL_slc _ _ _ _ _ fun j hj => by have := List.mem_range.1 hj; rw [zn_eq]; omega
theorem belQ_W {n : Nat} (hn : n ≤ 60) : belL 2097152 (zrowsT 100 1 n) = true := belL_slc _ _ _ _ _ fun j hj => by have := List.mem_range.1 hj; rw [zn_eq]; omega
theorem belQ_O {i : Nat} (hi : i ≤ 60) : belL 2097152 (zrows 300 1 i) = true := belL_slc _ _ _ _ _ fun j hj => by have := List.mem_range.1 hj; rw [zn_eq]; omega
/-- the state that shape B makes at round i -/
def stQ (l : Nat → Bool) (n : Nat) (z : T Blk) (i : Nat) (g : Nat → CV) (B : List (Nat × Blk)) : ZS := ⟨eQ n g (.slc n0Q 0 i i false 1) i, lapp (rrQ (zrows 300 1 i) (zrowsT 0 1 n) (zrowsT 100 1 n)) B, zoQ l z i, 2097152⟩
def finQ (l : Nat → Bool) (n : Nat) (z : T Blk) : ZS := ⟨[(6, .nils), (7, .int .i64 (Int.ofNat 0)), (17, .slc n0Q 0 n n false 1)], rrQ (zrows 300 1 n) (zrowsT 0 1 n) (zrowsT 100 1 n), zoQ l z n, 2097152⟩
theorem keepIQ {l : Nat → Bool} {n : Nat} {z : T Blk} (Zs : ZinQ l n z) (hn : n ≤ 60) {i : Nat} {A Zn : List (Nat × Nat × Blk)} (hA : okLit n0Q 2097152 A = true) (hZ : ∀ p ∈ Zn, 300 ≤ p.1) :
    renL (szs n0Q (namesOf A Zn) (kpOf (zoQ l z i))) (zrowsT 0 1 n) = (zrowsT 0 1 n) ∧ renL (szs n0Q (namesOf A Zn) (kpOf (zoQ l z i))) (zrowsT 100 1 n) = (zrowsT 100 1 n) := by
  constructor
  · unfold zrowsT
    rw [renL_slc]
    refine List.map_congr_left fun j hj => ?_
    have hj := List.mem_range.1 hj
    rw [szs_zone hA (k := inRowQ l j) (by rw [zoQ_low (by omega), Nat.zero_add]; exact Zs.ins j hj) (fun p hp e => by have := hZ p hp; omega)]
  · unfold zrowsT
    rw [renL_slc]
    refine List.map_congr_left fun j hj => ?_
    have hj := List.mem_range.1 hj
    rw [szs_zone hA (k := outQ l j) (by rw [zoQ_low (by omega)]; exact Zs.want j hj) (fun p hp e => by have := hZ p hp; omega)]
def usefTQ (l : Nat → Bool) (n : Nat) (z : T Blk) (b : List Int) (d : List Bool) (B B2 : List (Nat × Blk)) : Prop :=
  cIQ (hfQ z (zrowsT 0 1 n) (zrowsT 100 1 n) B) 0 (zn 0) b → cRQ (hfQ z (zrowsT 0 1 n) (zrowsT 100 1 n) B) (zn 0) b → ∀ {K : KE}, (∀ env h ds σ, Abs n0Q σ (stQ l n z 1 (ggQ (zn 0) b) B2).env (stQ l n z 1 (ggQ (zn 0) b) B2).h env h → K .nrm env h ds) → goQ (hfQ z (zrowsT 0 1 n) (zrowsT 100 1 n) B) n 0 (zn 0) .nils b d K
theorem usefGQ {l : Nat → Bool} {n : Nat} {z : T Blk} {b : List Int} {d : List Bool} {B B2 : List (Nat × Blk)} {ks : List Nat} {oa ra : Nat} {rw : List AV} {C : Prop → Prop} (ho1 : okLit n0Q 2097152 [(n0Q, oa, .row [] 22 true [])] = true) (Zs : ZinQ l n z) (hn : n ≤ 60) (hi : 0 < n)
    (ht : ∀ Kv, goQ (hfQ z (zrowsT 0 1 n) (zrowsT 100 1 n) B) n 0 (zn 0) .nils b d (obfQ (zrowsT 0 1 n) (zrowsT 100 1 n) (zipA B2 ks) oa ra rw Kv) = hdQ (hfQ z (zrowsT 0 1 n) (zrowsT 100 1 n) B) n 0 0 (zn 0) b (C (lffQ z (zrowsT 0 1 n) (zrowsT 100 1 n) n (zn 0) b (zipA B2 ks) oa ra rw Kv)))
    (hC : ∀ t, t → C t) (hl : okLit n0Q 2097152 (zipA B2 ks) = true) (hk : nodupQ (lmap (fun p => p.1) (lapp (RQ (zrowsT 0 1 n) (zrowsT 100 1 n) oa 1) (zipA B2 ks))) = true) (ha : nodupQ (actsOf (lapp (RQ (zrowsT 0 1 n) (zrowsT 100 1 n) oa 1) (zipA B2 ks)) [(300, ra, rowQ rw)]) = true)
    (r1 : 1049465 ≤ ra) (r2 : ra < 1000000000000) (r3 : ra % 4096 ≠ 4095) (hint : IntRow (rowQ rw)) (hrow : rowQ rw = outQ l 0) : usefTQ l n z b d B B2 := by
  intro hcI hcR K hK
  have hlit : okLit n0Q 2097152 (lapp (RQ (zrowsT 0 1 n) (zrowsT 100 1 n) oa 1) (zipA B2 ks)) = true := okLit_row ho1 (belQ_O (by omega)) (okLit_row rfl (belQ_I hn) (okLit_row rfl (belQ_W hn) hl))
  have hZ3 : ∀ p ∈ ([(300, ra, rowQ rw)] : List (Nat × Nat × Blk)), 300 ≤ p.1 := fun p hp => by rw [List.mem_singleton.1 hp]; show 300 ≤ 300; omega
  have hnd : (([(300, ra, rowQ rw)] : List (Nat × Nat × Blk)).map (·.1)).Nodup := by simp
  have k1 := keepIQ Zs hn (i := 0) hlit hZ3
  refine round_use2 good1.spl ht ?_
  refine bcase_tt (dcq_lt (by simp only [Int.ofNat_eq_natCast]; omega)) (bcase_tt (inB_of hi) ⟨hcI, hcR, hC _ ?_⟩)
  have leaf : ∀ (env : Env) (h : H) (ds : List Bool), obs [6, 7, 16, 17, 71, 72, 73] (actsOf (lapp (RQ (zrowsT 0 1 n) (zrowsT 100 1 n) oa 1) (zipA B2 ks)) [(300, ra, rowQ rw)]) (lapp (RQ (zrowsT 0 1 n) (zrowsT 100 1 n) oa 1) (zipA B2 ks)) [(300, ra, rowQ rw)] env h = expsR n0Q (kpOf z) (eQ n (ggQ (zn 0) b) (.slc n0Q 0 1 1 false 1) 1) (RQ (zrowsT 0 1 n) (zrowsT 100 1 n) oa 1) (zipA B2 ks) [(300, ra, rowQ rw)] z (rawQ (zrowsT 0 1 n) (zrowsT 100 1 n) [.slc ra 0 1 1 false 1]) → K .nrm env h ds := by
    intro env h ds ho
    have fin : ∃ σ, Abs n0Q σ (stQ l n z 1 (ggQ (zn 0) b) B2).env (stQ l n z 1 (ggQ (zn 0) b) B2).h env h := by
      rw [expsR_eq] at ho
      · exact NewOK.abs (t := (stQ l n z 1 (ggQ (zn 0) b) B2)) (A := lapp (RQ (zrowsT 0 1 n) (zrowsT 100 1 n) oa 1) (zipA B2 ks)) (Z := [(300, ra, rowQ rw)]) (z := z)
          ⟨by rw [lmap_app, zipA_B]; rfl, by show T.set z (outQ l 0) (300 + 0) = T.set z (rowQ rw) 300; rw [hrow], by show 1049465 ≤ 2097152; decide, by kernel_rfl, hlit, hk, ha,
            fun p hp => by
              rw [List.mem_singleton.1 hp]
              exact ⟨by show 1049465 ≤ zn 300; rw [zn_eq]; omega, by show zn 300 < 2097152; rw [zn_eq]; omega, r1, r2, r3, hint⟩,
            hnd, by have := zoQ_ok Zs (i := 0) (by omega); exact this⟩ rfl rfl rfl rfl ho
      · have e1 : [.slc ra 0 1 1 false 1] = renL (szs n0Q (namesOf (lapp (RQ (zrowsT 0 1 n) (zrowsT 100 1 n) oa 1) (zipA B2 ks)) [(300, ra, rowQ rw)]) (kpOf z)) (zrows 300 1 1) := by
          refine zrows_grow (i := 0) (fun j hj => ?_) (szs_row hlit (by show 1049465 ≤ zn (300 + 0); rw [zn_eq]; omega) (List.mem_singleton.2 rfl) hnd)
          omega
        show [(some (Blk.row _ _ _ _), true), (some (Blk.row _ _ _ _), true), (some (Blk.row _ _ _ _), true)] = [(some (Blk.row (renL _ _) _ _ _), true), (some (Blk.row (renL _ _) _ _ _), true), (some (Blk.row (renL _ _) _ _ _), true)]
        rw [← e1]
        have k1 := k1
        change renL (szs n0Q (namesOf _ _) (kpOf z)) _ = _ ∧ renL (szs n0Q (namesOf _ _) (kpOf z)) _ = _ at k1
        rw [k1.1, k1.2]; rfl
    exact fin.elim fun σ ab => hK env h ds σ ab
  exact leaf
def useTQ (l : Nat → Bool) (n : Nat) (z : T Blk) (i : Nat) (b : List Int) (d : List Bool) (B B2 : List (Nat × Blk)) : Prop :=
  cIQ (hQ (zoQ l z i) (zrowsT 0 1 n) (zrowsT 100 1 n) i B) (ixQ i) (zn i) b → cRQ (hQ (zoQ l z i) (zrowsT 0 1 n) (zrowsT 100 1 n) i B) (zn i) b → ∀ {K : KE}, (∀ env h ds σ, Abs n0Q σ (stQ l n z (i + 1) (ggQ (zn i) b) B2).env (stQ l n z (i + 1) (ggQ (zn i) b) B2).h env h → K .nrm env h ds) → goQ (hQ (zoQ l z i) (zrowsT 0 1 n) (zrowsT 100 1 n) i B) n i (zn i) (.slc n0Q 0 i i false 1) b d K
theorem useGQ {l : Nat → Bool} {n : Nat} {z : T Blk} {i : Nat} {b : List Int} {d : List Bool} {B B2 : List (Nat × Blk)} {ks : List Nat} {oa ra : Nat} {rw : List AV} {C : Prop → Prop} (ho1 : okLit n0Q 2097152 [(n0Q, oa, .row [] 22 true [])] = true) (Zs : ZinQ l n z) (hn : n ≤ 60) (hi : i < n)
    (ht : ∀ Kv, goQ (hQ (zoQ l z i) (zrowsT 0 1 n) (zrowsT 100 1 n) i B) n i (zn i) (.slc n0Q 0 i i false 1) b d (obQ (zrowsT 0 1 n) (zrowsT 100 1 n) i (zipA B2 ks) oa ra rw Kv) = hdQ (hQ (zoQ l z i) (zrowsT 0 1 n) (zrowsT 100 1 n) i B) n i (ixQ i) (zn i) b (C (ttQ i (lfQ (zoQ l z i) (zrowsT 0 1 n) (zrowsT 100 1 n) n i (zn i) b (zipA B2 ks) oa ra rw Kv))))
    (hC : ∀ t, t → C t) (hl : okLit n0Q 2097152 (zipA B2 ks) = true) (hk : nodupQ (lmap (fun p => p.1) (lapp (RQ (zrowsT 0 1 n) (zrowsT 100 1 n) oa (i + 1)) (zipA B2 ks))) = true) (ha : nodupQ (actsOf (lapp (RQ (zrowsT 0 1 n) (zrowsT 100 1 n) oa (i + 1)) (zipA B2 ks)) [((300 + i), ra, rowQ rw)]) = true)
    (r1 : 1049465 ≤ ra) (r2 : ra < 1000000000000) (r3 : ra % 4096 ≠ 4095) (hint : IntRow (rowQ rw)) (hrow : rowQ rw = outQ l i) : useTQ l n z i b d B B2 := by
  intro hcI hcR K hK
  have hlit : okLit n0Q 2097152 (lapp (RQ (zrowsT 0 1 n) (zrowsT 100 1 n) oa (i + 1)) (zipA B2 ks)) = true := okLit_row ho1 (belQ_O (by omega)) (okLit_row rfl (belQ_I hn) (okLit_row rfl (belQ_W hn) hl))
  have hZ3 : ∀ p ∈ ([((300 + i), ra, rowQ rw)] : List (Nat × Nat × Blk)), 300 ≤ p.1 := fun p hp => by rw [List.mem_singleton.1 hp]; show 300 ≤ 300 + i; omega
  have hnd : (([((300 + i), ra, rowQ rw)] : List (Nat × Nat × Blk)).map (·.1)).Nodup := by simp
  have k1 := keepIQ Zs hn (i := i) hlit hZ3
  refine round_use2 good1.spl ht ?_
  refine bcase_tt (dcq_lt (by simp only [Int.ofNat_eq_natCast]; omega)) (bcase_tt (inB_of hi) ⟨hcI, hcR, hC _ ?_⟩)
  have leaf : ∀ (env : Env) (h : H) (ds : List Bool), obs [6, 7, 16, 17, 71, 72, 73] (actsOf (lapp (RQ (zrowsT 0 1 n) (zrowsT 100 1 n) oa (i + 1)) (zipA B2 ks)) [((300 + i), ra, rowQ rw)]) (lapp (RQ (zrowsT 0 1 n) (zrowsT 100 1 n) oa (i + 1)) (zipA B2 ks)) [((300 + i), ra, rowQ rw)] env h = expsR n0Q (kpOf (zoQ l z i)) (eQ n (ggQ (zn i) b) (.slc n0Q 0 (i + 1) (i + 1) false 1) (i + 1)) (RQ (zrowsT 0 1 n) (zrowsT 100 1 n) oa (i + 1)) (zipA B2 ks) [((300 + i), ra, rowQ rw)] (zoQ l z i) (rawQ (zrowsT 0 1 n) (zrowsT 100 1 n) (ocQ i ra)) → K .nrm env h ds := by
    intro env h ds ho
    have fin : ∃ σ, Abs n0Q σ (stQ l n z (i + 1) (ggQ (zn i) b) B2).env (stQ l n z (i + 1) (ggQ (zn i) b) B2).h env h := by
      rw [expsR_eq] at ho
      · exact NewOK.abs (t := (stQ l n z (i + 1) (ggQ (zn i) b) B2)) (A := lapp (RQ (zrowsT 0 1 n) (zrowsT 100 1 n) oa (i + 1)) (zipA B2 ks)) (Z := [((300 + i), ra, rowQ rw)]) (z := (zoQ l z i))
          ⟨by rw [lmap_app, zipA_B]; rfl, by show T.set (zoQ l z i) (outQ l i) (300 + i) = T.set (zoQ l z i) (rowQ rw) (300 + i); rw [hrow], by show 1049465 ≤ 2097152; decide, by kernel_rfl, hlit, hk, ha,
            fun p hp => by
              rw [List.mem_singleton.1 hp]
              exact ⟨by show 1049465 ≤ zn (300 + i); rw [zn_eq]; omega, by show zn (300 + i) < 2097152; rw [zn_eq]; omega, r1, r2, r3, hint⟩,
            hnd, zoQ_ok Zs (by omega)⟩ rfl rfl rfl rfl ho
      · have e1 : (ocQ i ra) = renL (szs n0Q (namesOf (lapp (RQ (zrowsT 0 1 n) (zrowsT 100 1 n) oa (i + 1)) (zipA B2 ks)) [((300 + i), ra, rowQ rw)]) (kpOf (zoQ l z i))) (zrows 300 1 (i + 1)) := by
          refine zrows_grow (i := i) (fun j hj => ?_) (szs_row hlit (by show 1049465 ≤ zn (300 + i); rw [zn_eq]; omega) (List.mem_singleton.2 rfl) hnd)
          exact szs_zone hlit (zgrow_new hj) (fun p hp e => by rw [List.mem_singleton.1 hp] at e; have e : 300 + i = 300 + j := e; omega)
        show [(some (Blk.row _ _ _ _), true), (some (Blk.row _ _ _ _), true), (some (Blk.row _ _ _ _), true)] = [(some (Blk.row (renL _ _) _ _ _), true), (some (Blk.row (renL _ _) _ _ _), true), (some (Blk.row (renL _ _) _ _ _), true)]
        rw [← e1]
        have k1 := k1
        skip
        rw [k1.1, k1.2]; rfl
    exact fin.elim fun σ ab => hK env h ds σ ab
  exact bcase_tt (dcq_cap i) (bcase_tt (appC_ok (by rw [zrows_len]) (by omega)) (bcase_any (bcase_tt (inR_add (by omega)) leaf) (bcase_tt (inR_add (by omega)) leaf)))
theorem useQ_0_0 {l : Nat → Bool} {n : Nat} {z : T Blk} (Zs : ZinQ l n z) (hn : n ≤ 60) (hi : 0 < n) (hrow : rowQ [.int .i64 0] = outQ l 0) : usefTQ l n z [0] dQ_0_0 (bQ0) (bQ1 1 0) :=
  usefGQ (C := fun t => t) (by kernel_rfl) Zs hn hi (fun Kv => tQ_0_0 _ _ _ _ _ Kv) (fun t x => x) (by kernel_rfl) (by kernel_rfl) (by kernel_rfl) (by decide) (by decide) (by decide) ⟨[0], 3, true, rfl⟩ hrow
theorem useQ_1_0 {l : Nat → Bool} {n : Nat} {z : T Blk} (Zs : ZinQ l n z) (hn : n ≤ 60) {i : Nat} (hi : i < n) (a0 : Int) (a1 : Int) (ha0 : 0 ≤ a0) (ha0' : a0 ≤ 170) (hrow : rowQ [.int .i64 a0] = outQ l i) : useTQ l n z i [0] dQ_1_0 (bQ1 a0 a1) (bQ1 (a0 + 1) a0) :=
  useGQ (C := fun t => bcase (inR .i64 (a0 + 1)) (bcase (dcq false (eqI a0 (a0 + 1))) (bcase (dcq false (eqI a0 (a0 + 1))) (bcase (dcq false (eqI a0 (a0 + 1))) (bcase (dcq false (eqI a0 (a0 + 1))) (bcase (dcq true (eqI (a0 + 1) (a0 + 1))) (bcase (dcq true (eqI (a0 + 1) (a0 + 1))) (bcase (dcq true (eqI (a0 + 1) (a0 + 1))) (bcase (inR .u8 a0) (bcase (inR .i64 a0) (bcase (dcq true (eqI a0 a0)) (bcase (inR .i64 (a0 + 1)) (bcase (inR .u8 (a0 + 1)) (bcase (inR .i64 (a0 + 1)) (bcase (dcq true (eqI (a0 + 1) (a0 + 1))) (t) False) False) False) False) False) False) False) False) False) False) False) False) False) False) False) (by kernel_rfl) Zs hn hi (fun Kv => tQ_1_0 _ _ _ _ _ _ a0 a1 Kv) (fun t x => bcase_tt (inR_i64 (by omega) (by omega)) (bcase_tt (dcq_ne (by omega)) (bcase_tt (dcq_ne (by omega)) (bcase_tt (dcq_ne (by omega)) (bcase_tt (dcq_ne (by omega)) (bcase_tt (dcq_eq (by omega)) (bcase_tt (dcq_eq (by omega)) (bcase_tt (dcq_eq (by omega)) (bcase_tt (inR_u8 (by omega) (by omega)) (bcase_tt (inR_i64 (by omega) (by omega)) (bcase_tt (dcq_eq (by omega)) (bcase_tt (inR_i64 (by omega) (by omega)) (bcase_tt (inR_u8 (by omega) (by omega)) (bcase_tt (inR_i64 (by omega) (by omega)) (bcase_tt (dcq_eq (by omega)) (x)))))))))))))))) (by kernel_rfl) (by kernel_rfl) (by kernel_rfl) (by decide) (by decide) (by decide) ⟨[a0], 3, true, rfl⟩ hrow
theorem useQ_1_1 {l : Nat → Bool} {n : Nat} {z : T Blk} (Zs : ZinQ l n z) (hn : n ≤ 60) {i : Nat} (hi : i < n) (a0 : Int) (a1 : Int) (ha0 : 0 ≤ a0) (ha0' : a0 ≤ 170) (hrow : rowQ [.int .i64 a0] = outQ l i) : useTQ l n z i [1] dQ_1_1 (bQ1 a0 a1) (bQ2 (a0 + 1) a0) :=
  useGQ (C := fun t => bcase (inR .i64 (a0 + 1)) (bcase (dcq false (eqI a0 (a0 + 1))) (bcase (dcq false (eqI a0 (a0 + 1))) (bcase (dcq false (eqI a0 (a0 + 1))) (bcase (dcq false (eqI a0 (a0 + 1))) (bcase (dcq true (eqI (a0 + 1) (a0 + 1))) (bcase (dcq true (eqI (a0 + 1) (a0 + 1))) (bcase (dcq true (eqI (a0 + 1) (a0 + 1))) (bcase (inR .u8 a0) (bcase (inR .i64 a0) (bcase (dcq true (eqI a0 a0)) (bcase (inR .i64 (a0 + 1)) (bcase (inR .u8 (a0 + 1)) (bcase (inR .i64 (a0 + 1)) (bcase (dcq true (eqI (a0 + 1) (a0 + 1))) (t) False) False) False) False) False) False) False) False) False) False) False) False) False) False) False) (by kernel_rfl) Zs hn hi (fun Kv => tQ_1_1 _ _ _ _ _ _ a0 a1 Kv) (fun t x => bcase_tt (inR_i64 (by omega) (by omega)) (bcase_tt (dcq_ne (by omega)) (bcase_tt (dcq_ne (by omega)) (bcase_tt (dcq_ne (by omega)) (bcase_tt (dcq_ne (by omega)) (bcase_tt (dcq_eq (by omega)) (bcase_tt (dcq_eq (by omega)) (bcase_tt (dcq_eq (by omega)) (bcase_tt (inR_u8 (by omega) (by omega)) (bcase_tt (inR_i64 (by omega) (by omega)) (bcase_tt (dcq_eq (by omega)) (bcase_tt (inR_i64 (by omega) (by omega)) (bcase_tt (inR_u8 (by omega) (by omega)) (bcase_tt (inR_i64 (by omega) (by omega)) (bcase_tt (dcq_eq (by omega)) (x)))))))))))))))) (by kernel_rfl) (by kernel_rfl) (by kernel_rfl) (by decide) (by decide) (by decide) ⟨[a0], 3, true, rfl⟩ hrow
theorem useQ_2_1 {l : Nat → Bool} {n : Nat} {z : T Blk} (Zs : ZinQ l n z) (hn : n ≤ 60) {i : Nat} (hi : i < n) (a0 : Int) (a1 : Int) (ha0 : 0 ≤ a0) (ha0' : a0 ≤ 170) (hrow : rowQ [.int .i64 100] = outQ l i) : useTQ l n z i [1] dQ_2_1 (bQ2 a0 a1) (bQ3 (a0 + 1) 100 a0 a1 a0 101) :=
  useGQ (C := fun t => bcase (inR .i64 (a0 + 1)) (bcase (dcq false (eqI a0 (a0 + 1))) (bcase (dcq false (eqI a0 (a0 + 1))) (bcase (dcq false (eqI 0 (a0 + 1))) (bcase (dcq false (eqI 0 (a0 + 1))) (bcase (dcq true (eqI (a0 + 1) (a0 + 1))) (bcase (dcq true (eqI (a0 + 1) (a0 + 1))) (bcase (dcq true (eqI (a0 + 1) (a0 + 1))) (bcase (dcq true (eqI (a0 + 1) (a0 + 1))) (t) False) False) False) False) False) False) False) False) False) (by kernel_rfl) Zs hn hi (fun Kv => tQ_2_1 _ _ _ _ _ _ a0 a1 Kv) (fun t x => bcase_tt (inR_i64 (by omega) (by omega)) (bcase_tt (dcq_ne (by omega)) (bcase_tt (dcq_ne (by omega)) (bcase_tt (dcq_ne (by omega)) (bcase_tt (dcq_ne (by omega)) (bcase_tt (dcq_eq (by omega)) (bcase_tt (dcq_eq (by omega)) (bcase_tt (dcq_eq (by omega)) (bcase_tt (dcq_eq (by omega)) (x)))))))))) (by kernel_rfl) (by kernel_rfl) (by kernel_rfl) (by decide) (by decide) (by decide) ⟨[100], 3, true, rfl⟩ hrow
theorem useQ_3_1 {l : Nat → Bool} {n : Nat} {z : T Blk} (Zs : ZinQ l n z) (hn : n ≤ 60) {i : Nat} (hi : i < n) (a0 : Int) (a1 : Int) (a2 : Int) (a3 : Int) (a4 : Int) (a5 : Int) (ha0 : 0 ≤ a0) (ha0' : a0 ≤ 170) (ha2 : 0 ≤ a2) (ha2' : a2 ≤ 170) (ha4 : 0 ≤ a4) (ha4' : a4 ≤ 170) (hr0 : a2 ≤ a0) (hrow : rowQ [.int .i64 a4] = outQ l i) : useTQ l n z i [1] dQ_3_1 (bQ3 a0 a1 a2 a3 a4 a5) (bQ4 (a0 + 1) a4 a0 a1 (a4 + 1) a5) :=
  useGQ (C := fun t => bcase (inR .i64 (a0 + 1)) (bcase (dcq false (eqI a0 (a0 + 1))) (bcase (dcq false (eqI a0 (a0 + 1))) (bcase (dcq false (eqI a2 (a0 + 1))) (bcase (dcq false (eqI a2 (a0 + 1))) (bcase (dcq true (eqI (a0 + 1) (a0 + 1))) (bcase (dcq true (eqI (a0 + 1) (a0 + 1))) (bcase (dcq true (eqI (a0 + 1) (a0 + 1))) (bcase (inR .u8 a4) (bcase (inR .i64 a4) (bcase (dcq true (eqI a4 a4)) (bcase (inR .i64 (a4 + 1)) (bcase (inR .u8 (a4 + 1)) (bcase (inR .i64 (a4 + 1)) (bcase (dcq true (eqI (a0 + 1) (a0 + 1))) (t) False) False) False) False) False) False) False) False) False) False) False) False) False) False) False) (by kernel_rfl) Zs hn hi (fun Kv => tQ_3_1 _ _ _ _ _ _ a0 a1 a2 a3 a4 a5 Kv) (fun t x => bcase_tt (inR_i64 (by omega) (by omega)) (bcase_tt (dcq_ne (by omega)) (bcase_tt (dcq_ne (by omega)) (bcase_tt (dcq_ne (by omega)) (bcase_tt (dcq_ne (by omega)) (bcase_tt (dcq_eq (by omega)) (bcase_tt (dcq_eq (by omega)) (bcase_tt (dcq_eq (by omega)) (bcase_tt (inR_u8 (by omega) (by omega)) (bcase_tt (inR_i64 (by omega) (by omega)) (bcase_tt (dcq_eq (by omega)) (bcase_tt (inR_i64 (by omega) (by omega)) (bcase_tt (inR_u8 (by omega) (by omega)) (bcase_tt (inR_i64 (by omega) (by omega)) (bcase_tt (dcq_eq (by omega)) (x)))))))))))))))) (by kernel_rfl) (by kernel_rfl) (by kernel_rfl) (by decide) (by decide) (by decide) ⟨[a4], 3, true, rfl⟩ hrow
theorem useQ_4_0 {l : Nat → Bool} {n : Nat} {z : T Blk} (Zs : ZinQ l n z) (hn : n ≤ 60) {i : Nat} (hi : i < n) (a0 : Int) (a1 : Int) (a2 : Int) (a3 : Int) (a4 : Int) (a5 : Int) (ha0 : 0 ≤ a0) (ha0' : a0 ≤ 170) (ha2 : 0 ≤ a2) (ha2' : a2 ≤ 170) (ha5 : 0 ≤ a5) (ha5' : a5 ≤ 170) (hr0 : a2 ≤ a0) (hrow : rowQ [.int .i64 a5] = outQ l i) : useTQ l n z i [0] dQ_4_0 (bQ4 a0 a1 a2 a3 a4 a5) (bQ5 (a0 + 1) a5 a0 a1 a4 (a5 + 1)) :=
  useGQ (C := fun t => bcase (inR .i64 (a0 + 1)) (bcase (dcq false (eqI a0 (a0 + 1))) (bcase (dcq false (eqI a0 (a0 + 1))) (bcase (dcq false (eqI a2 (a0 + 1))) (bcase (dcq false (eqI a2 (a0 + 1))) (bcase (dcq true (eqI (a0 + 1) (a0 + 1))) (bcase (dcq true (eqI (a0 + 1) (a0 + 1))) (bcase (dcq true (eqI (a0 + 1) (a0 + 1))) (bcase (inR .u8 a5) (bcase (inR .i64 a5) (bcase (dcq true (eqI a5 a5)) (bcase (inR .i64 (a5 + 1)) (bcase (inR .u8 (a5 + 1)) (bcase (inR .i64 (a5 + 1)) (bcase (dcq true (eqI (a0 + 1) (a0 + 1))) (t) False) False) False) False) False) False) False) False) False) False) False) False) False) False) False) (by kernel_rfl) Zs hn hi (fun Kv => tQ_4_0 _ _ _ _ _ _ a0 a1 a2 a3 a4 a5 Kv) (fun t x => bcase_tt (inR_i64 (by omega) (by omega)) (bcase_tt (dcq_ne (by omega)) (bcase_tt (dcq_ne (by omega)) (bcase_tt (dcq_ne (by omega)) (bcase_tt (dcq_ne (by omega)) (bcase_tt (dcq_eq (by omega)) (bcase_tt (dcq_eq (by omega)) (bcase_tt (dcq_eq (by omega)) (bcase_tt (inR_u8 (by omega) (by omega)) (bcase_tt (inR_i64 (by omega) (by omega)) (bcase_tt (dcq_eq (by omega)) (bcase_tt (inR_i64 (by omega) (by omega)) (bcase_tt (inR_u8 (by omega) (by omega)) (bcase_tt (inR_i64 (by omega) (by omega)) (bcase_tt (dcq_eq (by omega)) (x)))))))))))))))) (by kernel_rfl) (by kernel_rfl) (by kernel_rfl) (by decide) (by decide) (by decide) ⟨[a5], 3, true, rfl⟩ hrow
theorem useQ_5_0 {l : Nat → Bool} {n : Nat} {z : T Blk} (Zs : ZinQ l n z) (hn : n ≤ 60) {i : Nat} (hi : i < n) (a0 : Int) (a1 : Int) (a2 : Int) (a3 : Int) (a4 : Int) (a5 : Int) (ha0 : 0 ≤ a0) (ha0' : a0 ≤ 170) (ha5 : 0 ≤ a5) (ha5' : a5 ≤ 170) (hr0 : a2 ≤ a0) (hrow : rowQ [.int .i64 a5] = outQ l i) : useTQ l n z i [0] dQ_5_0 (bQ5 a0 a1 a2 a3 a4 a5) (bQ5 (a0 + 1) a5 a2 a3 a4 (a5 + 1)) :=
  useGQ (C := fun t => bcase (inR .i64 (a0 + 1)) (bcase (dcq false (eqI a0 (a0 + 1))) (bcase (dcq false (eqI a0 (a0 + 1))) (bcase (dcq false (eqI a0 (a0 + 1))) (bcase (dcq false (eqI a0 (a0 + 1))) (bcase (dcq true (eqI (a0 + 1) (a0 + 1))) (bcase (dcq true (eqI (a0 + 1) (a0 + 1))) (bcase (dcq true (eqI (a0 + 1) (a0 + 1))) (bcase (inR .u8 a5) (bcase (inR .i64 a5) (bcase (dcq true (eqI a5 a5)) (bcase (inR .i64 (a5 + 1)) (bcase (inR .u8 (a5 + 1)) (bcase (inR .i64 (a5 + 1)) (bcase (dcq true (eqI (a0 + 1) (a0 + 1))) (t) False) False) False) False) False) False) False) False) False) False) False) False) False) False) False) (by kernel_rfl) Zs hn hi (fun Kv => tQ_5_0 _ _ _ _ _ _ a0 a1 a2 a3 a4 a5 Kv) (fun t x => bcase_tt (inR_i64 (by omega) (by omega)) (bcase_tt (dcq_ne (by omega)) (bcase_tt (dcq_ne (by omega)) (bcase_tt (dcq_ne (by omega)) (bcase_tt (dcq_ne (by omega)) (bcase_tt (dcq_eq (by omega)) (bcase_tt (dcq_eq (by omega)) (bcase_tt (dcq_eq (by omega)) (bcase_tt (inR_u8 (by omega) (by omega)) (bcase_tt (inR_i64 (by omega) (by omega)) (bcase_tt (dcq_eq (by omega)) (bcase_tt (inR_i64 (by omega) (by omega)) (bcase_tt (inR_u8 (by omega) (by omega)) (bcase_tt (inR_i64 (by omega) (by omega)) (bcase_tt (dcq_eq (by omega)) (x)))))))))))))))) (by kernel_rfl) (by kernel_rfl) (by kernel_rfl) (by decide) (by decide) (by decide) ⟨[a5], 3, true, rfl⟩ hrow
theorem useQ_5_1 {l : Nat → Bool} {n : Nat} {z : T Blk} (Zs : ZinQ l n z) (hn : n ≤ 60) {i : Nat} (hi : i < n) (a0 : Int) (a1 : Int) (a2 : Int) (a3 : Int) (a4 : Int) (a5 : Int) (ha0 : 0 ≤ a0) (ha0' : a0 ≤ 170) (ha5 : 0 ≤ a5) (ha5' : a5 ≤ 170) (hr0 : a2 ≤ a0) (hrow : rowQ [.int .i64 a5] = outQ l i) : useTQ l n z i [1] dQ_5_1 (bQ5 a0 a1 a2 a3 a4 a5) (bQ3 (a0 + 1) a5 a2 a3 a4 (a5 + 1)) :=
  useGQ (C := fun t => bcase (inR .i64 (a0 + 1)) (bcase (dcq false (eqI a0 (a0 + 1))) (bcase (dcq false (eqI a0 (a0 + 1))) (bcase (dcq false (eqI a0 (a0 + 1))) (bcase (dcq false (eqI a0 (a0 + 1))) (bcase (dcq true (eqI (a0 + 1) (a0 + 1))) (bcase (dcq true (eqI (a0 + 1) (a0 + 1))) (bcase (dcq true (eqI (a0 + 1) (a0 + 1))) (bcase (inR .u8 a5) (bcase (inR .i64 a5) (bcase (dcq true (eqI a5 a5)) (bcase (inR .i64 (a5 + 1)) (bcase (inR .u8 (a5 + 1)) (bcase (inR .i64 (a5 + 1)) (bcase (dcq true (eqI (a0 + 1) (a0 + 1))) (t) False) False) False) False) False) False) False) False) False) False) False) False) False) False) False) (by kernel_rfl) Zs hn hi (fun Kv => tQ_5_1 _ _ _ _ _ _ a0 a1 a2 a3 a4 a5 Kv) (fun t x => bcase_tt (inR_i64 (by omega) (by omega)) (bcase_tt (dcq_ne (by omega)) (bcase_tt (dcq_ne (by omega)) (bcase_tt (dcq_ne (by omega)) (bcase_tt (dcq_ne (by omega)) (bcase_tt (dcq_eq (by omega)) (bcase_tt (dcq_eq (by omega)) (bcase_tt (dcq_eq (by omega)) (bcase_tt (inR_u8 (by omega) (by omega)) (bcase_tt (inR_i64 (by omega) (by omega)) (bcase_tt (dcq_eq (by omega)) (bcase_tt (inR_i64 (by omega) (by omega)) (bcase_tt (inR_u8 (by omega) (by omega)) (bcase_tt (inR_i64 (by omega) (by omega)) (bcase_tt (dcq_eq (by omega)) (x)))))))))))))))) (by kernel_rfl) (by kernel_rfl) (by kernel_rfl) (by decide) (by decide) (by decide) ⟨[a5], 3, true, rfl⟩ hrow
theorem useQ_3_0 {l : Nat → Bool} {n : Nat} {z : T Blk} (Zs : ZinQ l n z) (hn : n ≤ 60) {i : Nat} (hi : i < n) (a0 : Int) (a1 : Int) (a2 : Int) (a3 : Int) (a4 : Int) (a5 : Int) (ha0 : 0 ≤ a0) (ha0' : a0 ≤ 170) (ha2 : 0 ≤ a2) (ha2' : a2 ≤ 170) (ha4 : 0 ≤ a4) (ha4' : a4 ≤ 170) (hr0 : a2 ≤ a0) (hrow : rowQ [.int .i64 a4] = outQ l i) : useTQ l n z i [0] dQ_3_0 (bQ3 a0 a1 a2 a3 a4 a5) (bQ6 (a0 + 1) a4 a0 a1 (a4 + 1) a5) :=
  useGQ (C := fun t => bcase (inR .i64 (a0 + 1)) (bcase (dcq false (eqI a0 (a0 + 1))) (bcase (dcq false (eqI a0 (a0 + 1))) (bcase (dcq false (eqI a2 (a0 + 1))) (bcase (dcq false (eqI a2 (a0 + 1))) (bcase (dcq true (eqI (a0 + 1) (a0 + 1))) (bcase (dcq true (eqI (a0 + 1) (a0 + 1))) (bcase (dcq true (eqI (a0 + 1) (a0 + 1))) (bcase (inR .u8 a4) (bcase (inR .i64 a4) (bcase (dcq true (eqI a4 a4)) (bcase (inR .i64 (a4 + 1)) (bcase (inR .u8 (a4 + 1)) (bcase (inR .i64 (a4 + 1)) (bcase (dcq true (eqI (a0 + 1) (a0 + 1))) (t) False) False) False) False) False) False) False) False) False) False) False) False) False) False) False) (by kernel_rfl) Zs hn hi (fun Kv => tQ_3_0 _ _ _ _ _ _ a0 a1 a2 a3 a4 a5 Kv) (fun t x => bcase_tt (inR_i64 (by omega) (by omega)) (bcase_tt (dcq_ne (by omega)) (bcase_tt (dcq_ne (by omega)) (bcase_tt (dcq_ne (by omega)) (bcase_tt (dcq_ne (by omega)) (bcase_tt (dcq_eq (by omega)) (bcase_tt (dcq_eq (by omega)) (bcase_tt (dcq_eq (by omega)) (bcase_tt (inR_u8 (by omega) (by omega)) (bcase_tt (inR_i64 (by omega) (by omega)) (bcase_tt (dcq_eq (by omega)) (bcase_tt (inR_i64 (by omega) (by omega)) (bcase_tt (inR_u8 (by omega) (by omega)) (bcase_tt (inR_i64 (by omega) (by omega)) (bcase_tt (dcq_eq (by omega)) (x)))))))))))))))) (by kernel_rfl) (by kernel_rfl) (by kernel_rfl) (by decide) (by decide) (by decide) ⟨[a4], 3, true, rfl⟩ hrow
theorem useQ_6_1 {l : Nat → Bool} {n : Nat} {z : T Blk} (Zs : ZinQ l n z) (hn : n ≤ 60) {i : Nat} (hi : i < n) (a0 : Int) (a1 : Int) (a2 : Int) (a3 : Int) (a4 : Int) (a5 : Int) (ha0 : 0 ≤ a0) (ha0' : a0 ≤ 170) (ha4 : 0 ≤ a4) (ha4' : a4 ≤ 170) (hr0 : a2 ≤ a0) (hrow : rowQ [.int .i64 a4] = outQ l i) : useTQ l n z i [1] dQ_6_1 (bQ6 a0 a1 a2 a3 a4 a5) (bQ4 (a0 + 1) a4 a2 a3 (a4 + 1) a5) :=
  useGQ (C := fun t => bcase (inR .i64 (a0 + 1)) (bcase (dcq false (eqI a0 (a0 + 1))) (bcase (dcq false (eqI a0 (a0 + 1))) (bcase (dcq false (eqI a0 (a0 + 1))) (bcase (dcq false (eqI a0 (a0 + 1))) (bcase (dcq true (eqI (a0 + 1) (a0 + 1))) (bcase (dcq true (eqI (a0 + 1) (a0 + 1))) (bcase (dcq true (eqI (a0 + 1) (a0 + 1))) (bcase (inR .u8 a4) (bcase (inR .i64 a4) (bcase (dcq true (eqI a4 a4)) (bcase (inR .i64 (a4 + 1)) (bcase (inR .u8 (a4 + 1)) (bcase (inR .i64 (a4 + 1)) (bcase (dcq true (eqI (a0 + 1) (a0 + 1))) (t) False) False) False) False) False) False) False) False) False) False) False) False) False) False) False) (by kernel_rfl) Zs hn hi (fun Kv => tQ_6_1 _ _ _ _ _ _ a0 a1 a2 a3 a4 a5 Kv) (fun t x => bcase_tt (inR_i64 (by omega) (by omega)) (bcase_tt (dcq_ne (by omega)) (bcase_tt (dcq_ne (by omega)) (bcase_tt (dcq_ne (by omega)) (bcase_tt (dcq_ne (by omega)) (bcase_tt (dcq_eq (by omega)) (bcase_tt (dcq_eq (by omega)) (bcase_tt (dcq_eq (by omega)) (bcase_tt (inR_u8 (by omega) (by omega)) (bcase_tt (inR_i64 (by omega) (by omega)) (bcase_tt (dcq_eq (by omega)) (bcase_tt (inR_i64 (by omega) (by omega)) (bcase_tt (inR_u8 (by omega) (by omega)) (bcase_tt (inR_i64 (by omega) (by omega)) (bcase_tt (dcq_eq (by omega)) (x)))))))))))))))) (by kernel_rfl) (by kernel_rfl) (by kernel_rfl) (by decide) (by decide) (by decide) ⟨[a4], 3, true, rfl⟩ hrow
theorem useQ_0_1 {l : Nat → Bool} {n : Nat} {z : T Blk} (Zs : ZinQ l n z) (hn : n ≤ 60) (hi : 0 < n) (hrow : rowQ [.int .i64 0] = outQ l 0) : usefTQ l n z [1] dQ_0_1 (bQ0) (bQ2 1 0) :=
  usefGQ (C := fun t => t) (by kernel_rfl) Zs hn hi (fun Kv => tQ_0_1 _ _ _ _ _ Kv) (fun t x => x) (by kernel_rfl) (by kernel_rfl) (by kernel_rfl) (by decide) (by decide) (by decide) ⟨[0], 3, true, rfl⟩ hrow
theorem useQ_2_0 {l : Nat → Bool} {n : Nat} {z : T Blk} (Zs : ZinQ l n z) (hn : n ≤ 60) {i : Nat} (hi : i < n) (a0 : Int) (a1 : Int) (ha0 : 0 ≤ a0) (ha0' : a0 ≤ 170) (hrow : rowQ [.int .i64 100] = outQ l i) : useTQ l n z i [0] dQ_2_0 (bQ2 a0 a1) (bQ5 (a0 + 1) 100 a0 a1 a0 101) :=
  useGQ (C := fun t => bcase (inR .i64 (a0 + 1)) (bcase (dcq false (eqI a0 (a0 + 1))) (bcase (dcq false (eqI a0 (a0 + 1))) (bcase (dcq false (eqI 0 (a0 + 1))) (bcase (dcq false (eqI 0 (a0 + 1))) (bcase (dcq true (eqI (a0 + 1) (a0 + 1))) (bcase (dcq true (eqI (a0 + 1) (a0 + 1))) (bcase (dcq true (eqI (a0 + 1) (a0 + 1))) (bcase (dcq true (eqI (a0 + 1) (a0 + 1))) (t) False) False) False) False) False) False) False) False) False) (by kernel_rfl) Zs hn hi (fun Kv => tQ_2_0 _ _ _ _ _ _ a0 a1 Kv) (fun t x => bcase_tt (inR_i64 (by omega) (by omega)) (bcase_tt (dcq_ne (by omega)) (bcase_tt (dcq_ne (by omega)) (bcase_tt (dcq_ne (by omega)) (bcase_tt (dcq_ne (by omega)) (bcase_tt (dcq_eq (by omega)) (bcase_tt (dcq_eq (by omega)) (bcase_tt (dcq_eq (by omega)) (bcase_tt (dcq_eq (by omega)) (x)))))))))) (by kernel_rfl) (by kernel_rfl) (by kernel_rfl) (by decide) (by decide) (by decide) ⟨[100], 3, true, rfl⟩ hrow
theorem useQ_4_1 {l : Nat → Bool} {n : Nat} {z : T Blk} (Zs : ZinQ l n z) (hn : n ≤ 60) {i : Nat} (hi : i < n) (a0 : Int) (a1 : Int) (a2 : Int) (a3 : Int) (a4 : Int) (a5 : Int) (ha0 : 0 ≤ a0) (ha0' : a0 ≤ 170) (ha2 : 0 ≤ a2) (ha2' : a2 ≤ 170) (ha5 : 0 ≤ a5) (ha5' : a5 ≤ 170) (hr0 : a2 ≤ a0) (hrow : rowQ [.int .i64 a5] = outQ l i) : useTQ l n z i [1] dQ_4_1 (bQ4 a0 a1 a2 a3 a4 a5) (bQ3 (a0 + 1) a5 a0 a1 a4 (a5 + 1)) :=
  useGQ (C := fun t => bcase (inR .i64 (a0 + 1)) (bcase (dcq false (eqI a0 (a0 + 1))) (bcase (dcq false (eqI a0 (a0 + 1))) (bcase (dcq false (eqI a2 (a0 + 1))) (bcase (dcq false (eqI a2 (a0 + 1))) (bcase (dcq true (eqI (a0 + 1) (a0 + 1))) (bcase (dcq true (eqI (a0 + 1) (a0 + 1))) (bcase (dcq true (eqI (a0 + 1) (a0 + 1))) (bcase (inR .u8 a5) (bcase (inR .i64 a5) (bcase (dcq true (eqI a5 a5)) (bcase (inR .i64 (a5 + 1)) (bcase (inR .u8 (a5 + 1)) (bcase (inR .i64 (a5 + 1)) (bcase (dcq true (eqI (a0 + 1) (a0 + 1))) (t) False) False) False) False) False) False) False) False) False) False) False) False) False) False) False) (by kernel_rfl) Zs hn hi (fun Kv => tQ_4_1 _ _ _ _ _ _ a0 a1 a2 a3 a4 a5 Kv) (fun t x => bcase_tt (inR_i64 (by omega) (by omega)) (bcase_tt (dcq_ne (by omega)) (bcase_tt (dcq_ne (by omega)) (bcase_tt (dcq_ne (by omega)) (bcase_tt (dcq_ne (by omega)) (bcase_tt (dcq_eq (by omega)) (bcase_tt (dcq_eq (by omega)) (bcase_tt (dcq_eq (by omega)) (bcase_tt (inR_u8 (by omega) (by omega)) (bcase_tt (inR_i64 (by omega) (by omega)) (bcase_tt (dcq_eq (by omega)) (bcase_tt (inR_i64 (by omega) (by omega)) (bcase_tt (inR_u8 (by omega) (by omega)) (bcase_tt (inR_i64 (by omega) (by omega)) (bcase_tt (dcq_eq (by omega)) (x)))))))))))))))) (by kernel_rfl) (by kernel_rfl) (by kernel_rfl) (by decide) (by decide) (by decide) ⟨[a5], 3, true, rfl⟩ hrow
theorem useQ_6_0 {l : Nat → Bool} {n : Nat} {z : T Blk} (Zs : ZinQ l n z) (hn : n ≤ 60) {i : Nat} (hi : i < n) (a0 : Int) (a1 : Int) (a2 : Int) (a3 : Int) (a4 : Int) (a5 : Int) (ha0 : 0 ≤ a0) (ha0' : a0 ≤ 170) (ha4 : 0 ≤ a4) (ha4' : a4 ≤ 170) (hr0 : a2 ≤ a0) (hrow : rowQ [.int .i64 a4] = outQ l i) : useTQ l n z i [0] dQ_6_0 (bQ6 a0 a1 a2 a3 a4 a5) (bQ6 (a0 + 1) a4 a2 a3 (a4 + 1) a5) :=
  useGQ (C := fun t => bcase (inR .i64 (a0 + 1)) (bcase (dcq false (eqI a0 (a0 + 1))) (bcase (dcq false (eqI a0 (a0 + 1))) (bcase (dcq false (eqI a0 (a0 + 1))) (bcase (dcq false (eqI a0 (a0 + 1))) (bcase (dcq true (eqI (a0 + 1) (a0 + 1))) (bcase (dcq true (eqI (a0 + 1) (a0 + 1))) (bcase (dcq true (eqI (a0 + 1) (a0 + 1))) (bcase (inR .u8 a4) (bcase (inR .i64 a4) (bcase (dcq true (eqI a4 a4)) (bcase (inR .i64 (a4 + 1)) (bcase (inR .u8 (a4 + 1)) (bcase (inR .i64 (a4 + 1)) (bcase (dcq true (eqI (a0 + 1) (a0 + 1))) (t) False) False) False) False) False) False) False) False) False) False) False) False) False) False) False) (by kernel_rfl) Zs hn hi (fun Kv => tQ_6_0 _ _ _ _ _ _ a0 a1 a2 a3 a4 a5 Kv) (fun t x => bcase_tt (inR_i64 (by omega) (by omega)) (bcase_tt (dcq_ne (by omega)) (bcase_tt (dcq_ne (by omega)) (bcase_tt (dcq_ne (by omega)) (bcase_tt (dcq_ne (by omega)) (bcase_tt (dcq_eq (by omega)) (bcase_tt (dcq_eq (by omega)) (bcase_tt (dcq_eq (by omega)) (bcase_tt (inR_u8 (by omega) (by omega)) (bcase_tt (inR_i64 (by omega) (by omega)) (bcase_tt (dcq_eq (by omega)) (bcase_tt (inR_i64 (by omega) (by omega)) (bcase_tt (inR_u8 (by omega) (by omega)) (bcase_tt (inR_i64 (by omega) (by omega)) (bcase_tt (dcq_eq (by omega)) (x)))))))))))))))) (by kernel_rfl) (by kernel_rfl) (by kernel_rfl) (by decide) (by decide) (by decide) ⟨[a4], 3, true, rfl⟩ hrow
end
end Go.Proofs.YtkfhjobebhdpoaaGreat
/- Stream: Run's loop over ticks, as a contract (the program of StreamAutomata). -/
set_option autoImplicit false
set_option maxRecDepth 1000000
set_option maxHeartbeats 2000000
set_option linter.unusedVariables false
namespace Go.Proofs.YtkfhjobebhdpoaaGreat
noncomputable section
open Go.X
inductive SQ where
  | s0 (g : Nat → CV)
  | s1 (i : Nat) (a0 : Int) (a1 : Int) (g : Nat → CV)
  | s2 (i : Nat) (a0 : Int) (a1 : Int) (g : Nat → CV)
  | s3 (i : Nat) (a0 : Int) (a1 : Int) (a2 : Int) (a3 : Int) (a4 : Int) (a5 : Int) (g : Nat → CV)
  | s4 (i : Nat) (a0 : Int) (a1 : Int) (a2 : Int) (a3 : Int) (a4 : Int) (a5 : Int) (g : Nat → CV)
  | s5 (i : Nat) (a0 : Int) (a1 : Int) (a2 : Int) (a3 : Int) (a4 : Int) (a5 : Int) (g : Nat → CV)
  | s6 (i : Nat) (a0 : Int) (a1 : Int) (a2 : Int) (a3 : Int) (a4 : Int) (a5 : Int) (g : Nat → CV)
def SQ.ok (l : Nat → Bool) (n : Nat) : SQ → Prop
  | .s0 _ => True
  | .s1 i a0 a1 _ => 1 ≤ i ∧ i ≤ n ∧ nowQ l i = 0 ∧ a0 = (i : Int) ∧ a0 = uQ l i ∧ vQ l i = 100
  | .s2 i a0 a1 _ => 1 ≤ i ∧ i ≤ n ∧ nowQ l i = 1 ∧ a0 = (i : Int) ∧ a0 = uQ l i ∧ vQ l i = 100
  | .s3 i a0 a1 a2 a3 a4 a5 _ => 1 ≤ i ∧ i ≤ n ∧ nowQ l i = 0 ∧ a0 = (i : Int) ∧ 0 ≤ a2 ∧ a2 ≤ (i : Int) ∧ a4 = uQ l i ∧ a5 = vQ l i
  | .s4 i a0 a1 a2 a3 a4 a5 _ => 1 ≤ i ∧ i ≤ n ∧ nowQ l i = 1 ∧ a0 = (i : Int) ∧ 0 ≤ a2 ∧ a2 ≤ (i : Int) ∧ a4 = uQ l i ∧ a5 = vQ l i
  | .s5 i a0 a1 a2 a3 a4 a5 _ => 1 ≤ i ∧ i ≤ n ∧ nowQ l i = 1 ∧ a0 = (i : Int) ∧ 0 ≤ a2 ∧ a2 ≤ (i : Int) ∧ a4 = uQ l i ∧ a5 = vQ l i
  | .s6 i a0 a1 a2 a3 a4 a5 _ => 1 ≤ i ∧ i ≤ n ∧ nowQ l i = 0 ∧ a0 = (i : Int) ∧ 0 ≤ a2 ∧ a2 ≤ (i : Int) ∧ a4 = uQ l i ∧ a5 = vQ l i
def SQ.st (l : Nat → Bool) (n : Nat) (z : T Blk) : SQ → ZS
  | .s0 g => ⟨eQ n g .nils 0, lapp (rr0Q (zrowsT 0 1 n) (zrowsT 100 1 n)) bQ0, z, n0Q⟩
  | .s1 i a0 a1 g => stQ l n z i g (bQ1 a0 a1)
  | .s2 i a0 a1 g => stQ l n z i g (bQ2 a0 a1)
  | .s3 i a0 a1 a2 a3 a4 a5 g => stQ l n z i g (bQ3 a0 a1 a2 a3 a4 a5)
  | .s4 i a0 a1 a2 a3 a4 a5 g => stQ l n z i g (bQ4 a0 a1 a2 a3 a4 a5)
  | .s5 i a0 a1 a2 a3 a4 a5 g => stQ l n z i g (bQ5 a0 a1 a2 a3 a4 a5)
  | .s6 i a0 a1 a2 a3 a4 a5 g => stQ l n z i g (bQ6 a0 a1 a2 a3 a4 a5)
def SQ.er (l : Nat → Bool) (n : Nat) : SQ → List (Nat × AV)
  | .s0 _ => eQ n (ggQ (zn 0) [bi (l 0)]) .nils 0
  | .s1 i _ _ _ => eQ n (ggQ (zn i) [bi (l i)]) (.slc n0Q 0 i i false 1) i
  | .s2 i _ _ _ => eQ n (ggQ (zn i) [bi (l i)]) (.slc n0Q 0 i i false 1) i
  | .s3 i _ _ _ _ _ _ _ => eQ n (ggQ (zn i) [bi (l i)]) (.slc n0Q 0 i i false 1) i
  | .s4 i _ _ _ _ _ _ _ => eQ n (ggQ (zn i) [bi (l i)]) (.slc n0Q 0 i i false 1) i
  | .s5 i _ _ _ _ _ _ _ => eQ n (ggQ (zn i) [bi (l i)]) (.slc n0Q 0 i i false 1) i
  | .s6 i _ _ _ _ _ _ _ => eQ n (ggQ (zn i) [bi (l i)]) (.slc n0Q 0 i i false 1) i
def SQ.dr (l : Nat → Bool) (n : Nat) : SQ → List Bool
  | .s0 _ => (cond (l 0) dQ_0_1 dQ_0_0)
  | .s1 i _ _ _ => cond (Nat.ble (i + 1) n) (cond (l i) dQ_1_1 dQ_1_0) [false]
  | .s2 i _ _ _ => cond (Nat.ble (i + 1) n) (cond (l i) dQ_2_1 dQ_2_0) [false]
  | .s3 i _ _ _ _ _ _ _ => cond (Nat.ble (i + 1) n) (cond (l i) dQ_3_1 dQ_3_0) [false]
  | .s4 i _ _ _ _ _ _ _ => cond (Nat.ble (i + 1) n) (cond (l i) dQ_4_1 dQ_4_0) [false]
  | .s5 i _ _ _ _ _ _ _ => cond (Nat.ble (i + 1) n) (cond (l i) dQ_5_1 dQ_5_0) [false]
  | .s6 i _ _ _ _ _ _ _ => cond (Nat.ble (i + 1) n) (cond (l i) dQ_6_1 dQ_6_0) [false]
def SQ.mu (n : Nat) : SQ → Nat
  | .s0 _ => n + 1
  | .s1 i _ _ _ => n - i
  | .s2 i _ _ _ => n - i
  | .s3 i _ _ _ _ _ _ _ => n - i
  | .s4 i _ _ _ _ _ _ _ => n - i
  | .s5 i _ _ _ _ _ _ _ => n - i
  | .s6 i _ _ _ _ _ _ _ => n - i
theorem pe_eQ (n : Nat) (g g' : Nat → CV) (out : AV) (i : Nat) : Pe (eQ n g out i) (eQ n g' out i) :=
  .cons _ _ _ _ _ (.inl rfl) (.cons _ _ _ _ _ (.inl rfl) (.cons _ _ _ _ _ (.inl rfl) (.cons _ _ _ _ _ (.inl rfl) (.cons _ _ _ _ _ (.inr ⟨_, _, _, _, _, rfl, rfl⟩) (.cons _ _ _ _ _ (.inl rfl) (.cons _ _ _ _ _ (.inl rfl) .nil))))))
theorem done_Q1 {l : Nat → Bool} {n : Nat} {z : T Blk} (Zs : ZinQ l n z) (hn : n ≤ 60) (R : List (Nat × Nat × Blk)) (hR : R = [(n0Q, n0Q, .row (zrows 300 1 n) 22 true []), (30, 30, .row (zrowsT 0 1 n) 22 true []), (31, 31, .row (zrowsT 100 1 n) 22 true [])]) {env : Env} {h : H}
    (ho : obs [6, 7, 17] (actsOf (lapp R []) []) (lapp R []) [] env h = expsR n0Q (kpOf (zoQ l z n)) [(6, .nils), (7, .int .i64 (Int.ofNat 0)), (17, .slc n0Q 0 n n false 1)] R [] [] (zoQ l z n) [(some (.row (zrows 300 1 n) 22 true []), true), (some (.row (zrowsT 0 1 n) 22 true []), true), (some (.row (zrowsT 100 1 n) 22 true []), true)]) :
    ∃ σ, Abs n0Q σ (finQ l n z).env (finQ l n z).h env h := by
  subst hR
  have hlit : okLit n0Q 2097152 (lapp [(n0Q, n0Q, .row (zrows 300 1 n) 22 true []), (30, 30, .row (zrowsT 0 1 n) 22 true []), (31, 31, .row (zrowsT 100 1 n) 22 true [])] []) = true := okLit_row rfl (belQ_O (by omega)) (okLit_row rfl (belQ_I hn) (okLit_row rfl (belQ_W hn) rfl))
  have k1 := keepIQ Zs hn (i := n) (Zn := []) hlit (fun p hp => by cases hp)
  have k2 : renL (szs n0Q (namesOf (lapp [(n0Q, n0Q, .row (zrows 300 1 n) 22 true []), (30, 30, .row (zrowsT 0 1 n) 22 true []), (31, 31, .row (zrowsT 100 1 n) 22 true [])] []) []) (kpOf (zoQ l z n))) (zrows 300 1 n) = zrows 300 1 n := by
    exact zrows_keep fun j hj => szs_zone hlit (zgrow_new hj) (fun p hp e => by cases hp)
  rw [expsR_eq] at ho
  · exact NewOK.abs (t := finQ l n z) (A := lapp [(n0Q, n0Q, .row (zrows 300 1 n) 22 true []), (30, 30, .row (zrowsT 0 1 n) 22 true []), (31, 31, .row (zrowsT 100 1 n) 22 true [])] []) (Z := []) (z := zoQ l z n)
      ⟨rfl, rfl, by show 1049465 ≤ 2097152; decide, rfl, hlit, rfl, rfl, (fun p hp => (by cases hp)), List.nodup_nil, zoQ_ok Zs (by omega)⟩ rfl rfl rfl rfl ho
  · show _ = [(some (Blk.row (renL _ _) _ _ _), true), (some (Blk.row (renL _ _) _ _ _), true), (some (Blk.row (renL _ _) _ _ _), true)]
    rw [k2, k1.1, k1.2]; rfl
theorem belQ_I0 {n : Nat} (hn : n ≤ 60) : belL n0Q (zrowsT 0 1 n) = true := belL_slc _ (fun j => zn (0 + j)) _ _ _ fun j hj => by have := List.mem_range.1 hj; rw [zn_eq]; show _ < 1049465; omega
theorem belQ_W0 {n : Nat} (hn : n ≤ 60) : belL n0Q (zrowsT 100 1 n) = true := belL_slc _ (fun j => zn (100 + j)) _ _ _ fun j hj => by have := List.mem_range.1 hj; rw [zn_eq]; show _ < 1049465; omega
theorem loopQ_good {C : Cfg} (G : X.Good C Tryz.prog) (hg : C.gl = fun _ => none) (hm : C.mask 14 = mask 14) {l : Nat → Bool} {n : Nat} (hn1 : 1 ≤ n) (hn : n ≤ 60) {z : T Blk} (Zs : ZinQ l n z) (g : Nat → CV) :
    X.Good (C.addLc 14 22 (lcZ (S0 := Unit) (fun _ => True) (lmap (fun p => p.1) (eQ n g .nils 0)) (lmap (fun p => p.1) (lapp (rr0Q (zrowsT 0 1 n) (zrowsT 100 1 n)) bQ0)) (fun _ => SQ.st l n z (.s0 g)) (fun _ => (.ext 2, finQ l n z)))) Tryz.prog := by
  refine G.addZR good1 (by rw [hg]; rfl) (S := SQ) (SQ.dr l n) (n0 := n0Q) (ι := fun _ => .s0 g) (ok := SQ.ok l n) (St := SQ.st l n z) (SQ.er l n) (μ := SQ.mu n) (fin := fun _ => (.ext 2, finQ l n z)) (fuel := F) hm.symm (by rfl) ?_ ?_ ?_ (fun g i h => by rw [hg] at h; cases h)
  · intro s _
    cases s <;> exact pe_eQ ..
  · intro _ _
    refine ⟨trivial, rfl, rfl, ⟨rfl, ?_, ?_, ?_⟩, by show 1049465 ≤ 2097152; decide, rfl, rfl⟩
    · show belEs n0Q (eQ n g .nils 0) = true
      kernel_rfl
    · exact blksN_app (R := rr0Q (zrowsT 0 1 n) (zrowsT 100 1 n)) blksQ0 (blksN_row (by show 30 < 1049465; decide) (belQ_I0 hn) (blksN_row (by show 31 < 1049465; decide) (belQ_W0 hn) rfl))
    · intro x k h
      obtain ⟨a, b⟩ := Zs.only x k h
      exact ⟨b, by rw [zn_eq]; show _ < 1049465; omega, by rw [zn_eq]; show _ < 1000000000000; omega⟩
  · intro s hs
    rw [hm]
    cases s with
    | s0 g0 =>
      have hc := leQ l 0
      have z0 : nowQ l 0 = 0 := rfl
      have z1 : uQ l 0 = 0 := rfl
      have z2 : vQ l 0 = 100 := rfl
      cases hb : l 0 with
      | false =>
        have q1 := stepQ_false0 hb
        refine ⟨?_⟩
        show xcode C1 Tryz.prog F 14 (loopC Tryz.prog 14 22) (mask 14) (tmpsN Tryz.prog 14) (mkE (eQ n (ggQ (zn 0) [bi (l 0)]) .nils 0)) _ (cond (l 0) dQ_0_1 dQ_0_0) _
        rw [hb]
        exact useQ_0_0 Zs hn (by omega) (row1_eq (by omega)) (cellI (i := 0) (by omega) (getQ0 ..) _) (cellR (zgQ0 ..) (by rw [Zs.ins 0 (by omega)]; unfold inRowQ; rw [hb]; rfl) _ rfl)
          (fun env h ds σ ab => ⟨.s1 1 1 0 _, σ, ⟨Nat.le_refl _, hn1, by omega, by omega, by omega, by omega⟩, (by show n - 1 < n + 1; omega), rfl, ab⟩)
      | true =>
        have q1 := stepQ_true0 hb
        refine ⟨?_⟩
        show xcode C1 Tryz.prog F 14 (loopC Tryz.prog 14 22) (mask 14) (tmpsN Tryz.prog 14) (mkE (eQ n (ggQ (zn 0) [bi (l 0)]) .nils 0)) _ (cond (l 0) dQ_0_1 dQ_0_0) _
        rw [hb]
        exact useQ_0_1 Zs hn (by omega) (row1_eq (by omega)) (cellI (i := 0) (by omega) (getQ0 ..) _) (cellR (zgQ0 ..) (by rw [Zs.ins 0 (by omega)]; unfold inRowQ; rw [hb]; rfl) _ rfl)
          (fun env h ds σ ab => ⟨.s2 1 1 0 _, σ, ⟨Nat.le_refl _, hn1, by omega, by omega, by omega, by omega⟩, (by show n - 1 < n + 1; omega), rfl, ab⟩)
    | s1 i a0 a1 g0 =>
      obtain ⟨h1, h2, p0, p1, p2, p3⟩ := hs
      have hc := leQ l i
      by_cases hlt : i < n
      · cases hb : l i with
        | false =>
          have q1 := stepQ_false hb
          refine ⟨?_⟩
          show xcode C1 Tryz.prog F 14 (loopC Tryz.prog 14 22) (mask 14) (tmpsN Tryz.prog 14) (mkE (eQ n (ggQ (zn i) [bi (l i)]) (.slc n0Q 0 i i false 1) i)) _ (cond (Nat.ble (i + 1) n) (cond (l i) dQ_1_1 dQ_1_0) [false]) _
          rw [hb, ble_t hlt]
          exact useQ_1_0 Zs hn hlt a0 a1 (by omega) (by omega) (row1_eq (by omega)) (cellI hlt (getQ1 ..) _) (cellR (zgQ1 ..) (by rw [zoQ_low (by omega), Zs.ins i hlt]; unfold inRowQ; rw [hb]; rfl) _ rfl)
            (fun env h ds σ ab => ⟨.s1 (i + 1) (a0 + 1) a0 _, σ, ⟨by omega, hlt, by omega, by omega, by omega, by omega⟩, (by show n - (i + 1) < n - i; omega), rfl, ab⟩)
        | true =>
          have q1 := stepQ_true hb
          refine ⟨?_⟩
          show xcode C1 Tryz.prog F 14 (loopC Tryz.prog 14 22) (mask 14) (tmpsN Tryz.prog 14) (mkE (eQ n (ggQ (zn i) [bi (l i)]) (.slc n0Q 0 i i false 1) i)) _ (cond (Nat.ble (i + 1) n) (cond (l i) dQ_1_1 dQ_1_0) [false]) _
          rw [hb, ble_t hlt]
          exact useQ_1_1 Zs hn hlt a0 a1 (by omega) (by omega) (row1_eq (by omega)) (cellI hlt (getQ1 ..) _) (cellR (zgQ1 ..) (by rw [zoQ_low (by omega), Zs.ins i hlt]; unfold inRowQ; rw [hb]; rfl) _ rfl)
            (fun env h ds σ ab => ⟨.s2 (i + 1) (a0 + 1) a0 _, σ, ⟨by omega, hlt, by omega, by omega, by omega, by omega⟩, (by show n - (i + 1) < n - i; omega), rfl, ab⟩)
      · have hin : i = n := by omega
        subst hin
        refine ⟨?_⟩
        show xcode C1 Tryz.prog F 14 (loopC Tryz.prog 14 22) (mask 14) (tmpsN Tryz.prog 14) (mkE (eQ i (ggQ (zn i) [bi (l i)]) (.slc n0Q 0 i i false 1) i)) _ (cond (Nat.ble (i + 1) i) (cond (l i) dQ_1_1 dQ_1_0) [false]) _
        rw [ble_f (Nat.lt_irrefl i)]
        exact round_use2 good1.spl (fun Kv => xQ_1 (zoQ l z i) (zrowsT 0 1 i) (zrowsT 100 1 i) i i _ a0 a1 Kv)
          (bcase_tt (dcq_ge (by omega)) (fun env h ds ho => (done_Q1 Zs hn _ rfl ho).elim fun σ ab => ⟨σ, rfl, ab⟩))
    | s2 i a0 a1 g0 =>
      obtain ⟨h1, h2, p0, p1, p2, p3⟩ := hs
      have hc := leQ l i
      by_cases hlt : i < n
      · cases hb : l i with
        | false =>
          have q1 := stepQ_false hb
          refine ⟨?_⟩
          show xcode C1 Tryz.prog F 14 (loopC Tryz.prog 14 22) (mask 14) (tmpsN Tryz.prog 14) (mkE (eQ n (ggQ (zn i) [bi (l i)]) (.slc n0Q 0 i i false 1) i)) _ (cond (Nat.ble (i + 1) n) (cond (l i) dQ_2_1 dQ_2_0) [false]) _
          rw [hb, ble_t hlt]
          exact useQ_2_0 Zs hn hlt a0 a1 (by omega) (by omega) (row1_eq (by omega)) (cellI hlt (getQ2 ..) _) (cellR (zgQ2 ..) (by rw [zoQ_low (by omega), Zs.ins i hlt]; unfold inRowQ; rw [hb]; rfl) _ rfl)
            (fun env h ds σ ab => ⟨.s5 (i + 1) (a0 + 1) 100 a0 a1 a0 101 _, σ, ⟨by omega, hlt, by omega, by omega, by omega, by omega, by omega, by omega⟩, (by show n - (i + 1) < n - i; omega), rfl, ab⟩)
        | true =>
          have q1 := stepQ_true hb
          refine ⟨?_⟩
          show xcode C1 Tryz.prog F 14 (loopC Tryz.prog 14 22) (mask 14) (tmpsN Tryz.prog 14) (mkE (eQ n (ggQ (zn i) [bi (l i)]) (.slc n0Q 0 i i false 1) i)) _ (cond (Nat.ble (i + 1) n) (cond (l i) dQ_2_1 dQ_2_0) [false]) _
          rw [hb, ble_t hlt]
          exact useQ_2_1 Zs hn hlt a0 a1 (by omega) (by omega) (row1_eq (by omega)) (cellI hlt (getQ2 ..) _) (cellR (zgQ2 ..) (by rw [zoQ_low (by omega), Zs.ins i hlt]; unfold inRowQ; rw [hb]; rfl) _ rfl)
            (fun env h ds σ ab => ⟨.s3 (i + 1) (a0 + 1) 100 a0 a1 a0 101 _, σ, ⟨by omega, hlt, by omega, by omega, by omega, by omega, by omega, by omega⟩, (by show n - (i + 1) < n - i; omega), rfl, ab⟩)
      · have hin : i = n := by omega
        subst hin
        refine ⟨?_⟩
        show xcode C1 Tryz.prog F 14 (loopC Tryz.prog 14 22) (mask 14) (tmpsN Tryz.prog 14) (mkE (eQ i (ggQ (zn i) [bi (l i)]) (.slc n0Q 0 i i false 1) i)) _ (cond (Nat.ble (i + 1) i) (cond (l i) dQ_2_1 dQ_2_0) [false]) _
        rw [ble_f (Nat.lt_irrefl i)]
        exact round_use2 good1.spl (fun Kv => xQ_2 (zoQ l z i) (zrowsT 0 1 i) (zrowsT 100 1 i) i i _ a0 a1 Kv)
          (bcase_tt (dcq_ge (by omega)) (fun env h ds ho => (done_Q1 Zs hn _ rfl ho).elim fun σ ab => ⟨σ, rfl, ab⟩))
    | s3 i a0 a1 a2 a3 a4 a5 g0 =>
      obtain ⟨h1, h2, p0, p1, p2, p3, p4, p5⟩ := hs
      have hc := leQ l i
      by_cases hlt : i < n
      · cases hb : l i with
        | false =>
          have q1 := stepQ_false hb
          refine ⟨?_⟩
          show xcode C1 Tryz.prog F 14 (loopC Tryz.prog 14 22) (mask 14) (tmpsN Tryz.prog 14) (mkE (eQ n (ggQ (zn i) [bi (l i)]) (.slc n0Q 0 i i false 1) i)) _ (cond (Nat.ble (i + 1) n) (cond (l i) dQ_3_1 dQ_3_0) [false]) _
          rw [hb, ble_t hlt]
          exact useQ_3_0 Zs hn hlt a0 a1 a2 a3 a4 a5 (by omega) (by omega) (by omega) (by omega) (by omega) (by omega) (by omega) (row1_eq (by omega)) (cellI hlt (getQ3 ..) _) (cellR (zgQ3 ..) (by rw [zoQ_low (by omega), Zs.ins i hlt]; unfold inRowQ; rw [hb]; rfl) _ rfl)
            (fun env h ds σ ab => ⟨.s6 (i + 1) (a0 + 1) a4 a0 a1 (a4 + 1) a5 _, σ, ⟨by omega, hlt, by omega, by omega, by omega, by omega, by omega, by omega⟩, (by show n - (i + 1) < n - i; omega), rfl, ab⟩)
        | true =>
          have q1 := stepQ_true hb
          refine ⟨?_⟩
          show xcode C1 Tryz.prog F 14 (loopC Tryz.prog 14 22) (mask 14) (tmpsN Tryz.prog 14) (mkE (eQ n (ggQ (zn i) [bi (l i)]) (.slc n0Q 0 i i false 1) i)) _ (cond (Nat.ble (i + 1) n) (cond (l i) dQ_3_1 dQ_3_0) [false]) _
          rw [hb, ble_t hlt]
          exact useQ_3_1 Zs hn hlt a0 a1 a2 a3 a4 a5 (by omega) (by omega) (by omega) (by omega) (by omega) (by omega) (by omega) (row1_eq (by omega)) (cellI hlt (getQ3 ..) _) (cellR (zgQ3 ..) (by rw [zoQ_low (by omega), Zs.ins i hlt]; unfold inRowQ; rw [hb]; rfl) _ rfl)
            (fun env h ds σ ab => ⟨.s4 (i + 1) (a0 + 1) a4 a0 a1 (a4 + 1) a5 _, σ, ⟨by omega, hlt, by omega, by omega, by omega, by omega, by omega, by omega⟩, (by show n - (i + 1) < n - i; omega), rfl, ab⟩)
      · have hin : i = n := by omega
        subst hin
        refine ⟨?_⟩
        show xcode C1 Tryz.prog F 14 (loopC Tryz.prog 14 22) (mask 14) (tmpsN Tryz.prog 14) (mkE (eQ i (ggQ (zn i) [bi (l i)]) (.slc n0Q 0 i i false 1) i)) _ (cond (Nat.ble (i + 1) i) (cond (l i) dQ_3_1 dQ_3_0) [false]) _
        rw [ble_f (Nat.lt_irrefl i)]
        exact round_use2 good1.spl (fun Kv => xQ_3 (zoQ l z i) (zrowsT 0 1 i) (zrowsT 100 1 i) i i _ a0 a1 a2 a3 a4 a5 Kv)
          (bcase_tt (dcq_ge (by omega)) (fun env h ds ho => (done_Q1 Zs hn _ rfl ho).elim fun σ ab => ⟨σ, rfl, ab⟩))
    | s4 i a0 a1 a2 a3 a4 a5 g0 =>
      obtain ⟨h1, h2, p0, p1, p2, p3, p4, p5⟩ := hs
      have hc := leQ l i
      by_cases hlt : i < n
      · cases hb : l i with
        | false =>
          have q1 := stepQ_false hb
          refine ⟨?_⟩
          show xcode C1 Tryz.prog F 14 (loopC Tryz.prog 14 22) (mask 14) (tmpsN Tryz.prog 14) (mkE (eQ n (ggQ (zn i) [bi (l i)]) (.slc n0Q 0 i i false 1) i)) _ (cond (Nat.ble (i + 1) n) (cond (l i) dQ_4_1 dQ_4_0) [false]) _
          rw [hb, ble_t hlt]
          exact useQ_4_0 Zs hn hlt a0 a1 a2 a3 a4 a5 (by omega) (by omega) (by omega) (by omega) (by omega) (by omega) (by omega) (row1_eq (by omega)) (cellI hlt (getQ4 ..) _) (cellR (zgQ4 ..) (by rw [zoQ_low (by omega), Zs.ins i hlt]; unfold inRowQ; rw [hb]; rfl) _ rfl)
            (fun env h ds σ ab => ⟨.s5 (i + 1) (a0 + 1) a5 a0 a1 a4 (a5 + 1) _, σ, ⟨by omega, hlt, by omega, by omega, by omega, by omega, by omega, by omega⟩, (by show n - (i + 1) < n - i; omega), rfl, ab⟩)
        | true =>
          have q1 := stepQ_true hb
          refine ⟨?_⟩
          show xcode C1 Tryz.prog F 14 (loopC Tryz.prog 14 22) (mask 14) (tmpsN Tryz.prog 14) (mkE (eQ n (ggQ (zn i) [bi (l i)]) (.slc n0Q 0 i i false 1) i)) _ (cond (Nat.ble (i + 1) n) (cond (l i) dQ_4_1 dQ_4_0) [false]) _
          rw [hb, ble_t hlt]
          exact useQ_4_1 Zs hn hlt a0 a1 a2 a3 a4 a5 (by omega) (by omega) (by omega) (by omega) (by omega) (by omega) (by omega) (row1_eq (by omega)) (cellI hlt (getQ4 ..) _) (cellR (zgQ4 ..) (by rw [zoQ_low (by omega), Zs.ins i hlt]; unfold inRowQ; rw [hb]; rfl) _ rfl)
            (fun env h ds σ ab => ⟨.s3 (i + 1) (a0 + 1) a5 a0 a1 a4 (a5 + 1) _, σ, ⟨by omega, hlt, by omega, by omega, by omega, by omega, by omega, by omega⟩, (by show n - (i + 1) < n - i; omega), rfl, ab⟩)
      · have hin : i = n := by omega
        subst hin
        refine ⟨?_⟩
        show xcode C1 Tryz.prog F 14 (loopC Tryz.prog 14 22) (mask 14) (tmpsN Tryz.prog 14) (mkE (eQ i (ggQ (zn i) [bi (l i)]) (.slc n0Q 0 i i false 1) i)) _ (cond (Nat.ble (i + 1) i) (cond (l i) dQ_4_1 dQ_4_0) [false]) _
        rw [ble_f (Nat.lt_irrefl i)]
        exact round_use2 good1.spl (fun Kv => xQ_4 (zoQ l z i) (zrowsT 0 1 i) (zrowsT 100 1 i) i i _ a0 a1 a2 a3 a4 a5 Kv)
          (bcase_tt (dcq_ge (by omega)) (fun env h ds ho => (done_Q1 Zs hn _ rfl ho).elim fun σ ab => ⟨σ, rfl, ab⟩))
    | s5 i a0 a1 a2 a3 a4 a5 g0 =>
      obtain ⟨h1, h2, p0, p1, p2, p3, p4, p5⟩ := hs
      have hc := leQ l i
      by_cases hlt : i < n
      · cases hb : l i with
        | false =>
          have q1 := stepQ_false hb
          refine ⟨?_⟩
          show xcode C1 Tryz.prog F 14 (loopC Tryz.prog 14 22) (mask 14) (tmpsN Tryz.prog 14) (mkE (eQ n (ggQ (zn i) [bi (l i)]) (.slc n0Q 0 i i false 1) i)) _ (cond (Nat.ble (i + 1) n) (cond (l i) dQ_5_1 dQ_5_0) [false]) _
          rw [hb, ble_t hlt]
          exact useQ_5_0 Zs hn hlt a0 a1 a2 a3 a4 a5 (by omega) (by omega) (by omega) (by omega) (by omega) (row1_eq (by omega)) (cellI hlt (getQ5 ..) _) (cellR (zgQ5 ..) (by rw [zoQ_low (by omega), Zs.ins i hlt]; unfold inRowQ; rw [hb]; rfl) _ rfl)
            (fun env h ds σ ab => ⟨.s5 (i + 1) (a0 + 1) a5 a2 a3 a4 (a5 + 1) _, σ, ⟨by omega, hlt, by omega, by omega, by omega, by omega, by omega, by omega⟩, (by show n - (i + 1) < n - i; omega), rfl, ab⟩)
        | true =>
          have q1 := stepQ_true hb
          refine ⟨?_⟩
          show xcode C1 Tryz.prog F 14 (loopC Tryz.prog 14 22) (mask 14) (tmpsN Tryz.prog 14) (mkE (eQ n (ggQ (zn i) [bi (l i)]) (.slc n0Q 0 i i false 1) i)) _ (cond (Nat.ble (i + 1) n) (cond (l i) dQ_5_1 dQ_5_0) [false]) _
          rw [hb, ble_t hlt]
          exact useQ_5_1 Zs hn hlt a0 a1 a2 a3 a4 a5 (by omega) (by omega) (by omega) (by omega) (by omega) (row1_eq (by omega)) (cellI hlt (getQ5 ..) _) (cellR (zgQ5 ..) (by rw [zoQ_low (by omega), Zs.ins i hlt]; unfold inRowQ; rw [hb]; rfl) _ rfl)
            (fun env h ds σ ab => ⟨.s3 (i + 1) (a0 + 1) a5 a2 a3 a4 (a5 + 1) _, σ, ⟨by omega, hlt, by omega, by omega, by omega, by omega, by omega, by omega⟩, (by show n - (i + 1) < n - i; omega), rfl, ab⟩)
      · have hin : i = n := by omega
        subst hin
        refine ⟨?_⟩
        show xcode C1 Tryz.prog F 14 (loopC Tryz.prog 14 22) (mask 14) (tmpsN Tryz.prog 14) (mkE (eQ i (ggQ (zn i) [bi (l i)]) (.slc n0Q 0 i i false 1) i)) _ (cond (Nat.ble (i + 1) i) (cond (l i) dQ_5_1 dQ_5_0) [false]) _
        rw [ble_f (Nat.lt_irrefl i)]
        exact round_use2 good1.spl (fun Kv => xQ_5 (zoQ l z i) (zrowsT 0 1 i) (zrowsT 100 1 i) i i _ a0 a1 a2 a3 a4 a5 Kv)
          (bcase_tt (dcq_ge (by omega)) (fun env h ds ho => (done_Q1 Zs hn _ rfl ho).elim fun σ ab => ⟨σ, rfl, ab⟩))
    | s6 i a0 a1 a2 a3 a4 a5 g0 =>
      obtain ⟨h1, h2, p0, p1, p2, p3, p4, p5⟩ := hs
      have hc := leQ l i
      by_cases hlt : i < n
      · cases hb : l i with
        | false =>
          have q1 := stepQ_false hb
          refine ⟨?_⟩
          show xcode C1 Tryz.prog F 14 (loopC Tryz.prog 14 22) (mask 14) (tmpsN Tryz.prog 14) (mkE (eQ n (ggQ (zn i) [bi (l i)]) (.slc n0Q 0 i i false 1) i)) _ (cond (Nat.ble (i + 1) n) (cond (l i) dQ_6_1 dQ_6_0) [false]) _
          rw [hb, ble_t hlt]
          exact useQ_6_0 Zs hn hlt a0 a1 a2 a3 a4 a5 (by omega) (by omega) (by omega) (by omega) (by omega) (row1_eq (by omega)) (cellI hlt (getQ6 ..) _) (cellR (zgQ6 ..) (by rw [zoQ_low (by omega), Zs.ins i hlt]; unfold inRowQ; rw [hb]; rfl) _ rfl)
            (fun env h ds σ ab => ⟨.s6 (i + 1) (a0 + 1) a4 a2 a3 (a4 + 1) a5 _, σ, ⟨by omega, hlt, by omega, by omega, by omega, by omega, by omega, by omega⟩, (by show n - (i + 1) < n - i; omega), rfl, ab⟩)
        | true =>
          have q1 := stepQ_true hb
          refine ⟨?_⟩
          show xcode C1 Tryz.prog F 14 (loopC Tryz.prog 14 22) (mask 14) (tmpsN Tryz.prog 14) (mkE (eQ n (ggQ (zn i) [bi (l i)]) (.slc n0Q 0 i i false 1) i)) _ (cond (Nat.ble (i + 1) n) (cond (l i) dQ_6_1 dQ_6_0) [false]) _
          rw [hb, ble_t hlt]
          exact useQ_6_1 Zs hn hlt a0 a1 a2 a3 a4 a5 (by omega) (by omega) (by omega) (by omega) (by omega) (row1_eq (by omega)) (cellI hlt (getQ6 ..) _) (cellR (zgQ6 ..) (by rw [zoQ_low (by omega), Zs.ins i hlt]; unfold inRowQ; rw [hb]; rfl) _ rfl)
            (fun env h ds σ ab => ⟨.s4 (i + 1) (a0 + 1) a4 a2 a3 (a4 + 1) a5 _, σ, ⟨by omega, hlt, by omega, by omega, by omega, by omega, by omega, by omega⟩, (by show n - (i + 1) < n - i; omega), rfl, ab⟩)
      · have hin : i = n := by omega
        subst hin
        refine ⟨?_⟩
        show xcode C1 Tryz.prog F 14 (loopC Tryz.prog 14 22) (mask 14) (tmpsN Tryz.prog 14) (mkE (eQ i (ggQ (zn i) [bi (l i)]) (.slc n0Q 0 i i false 1) i)) _ (cond (Nat.ble (i + 1) i) (cond (l i) dQ_6_1 dQ_6_0) [false]) _
        rw [ble_f (Nat.lt_irrefl i)]
        exact round_use2 good1.spl (fun Kv => xQ_6 (zoQ l z i) (zrowsT 0 1 i) (zrowsT 100 1 i) i i _ a0 a1 a2 a3 a4 a5 Kv)
          (bcase_tt (dcq_ge (by omega)) (fun env h ds ho => (done_Q1 Zs hn _ rfl ho).elim fun σ ab => ⟨σ, rfl, ab⟩))
end
end Go.Proofs.YtkfhjobebhdpoaaGreat

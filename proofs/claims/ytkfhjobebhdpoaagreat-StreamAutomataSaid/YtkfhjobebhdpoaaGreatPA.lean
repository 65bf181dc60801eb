/- Stream: the states of Run's loop over ticks. -/
import Derived.Test.YtkfhjobebhdpoaaGreatE7
import Derived.Test.YtkfhjobebhdpoaaGreatM
import Derived.Test.YtkfhjobebhdpoaaGreatBits
import Derived.Test.YtkfhjobebhdpoaaGreatSK
import Derived.Test.YtkfhjobebhdpoaaGreatG
set_option linter.unusedVariables false
set_option autoImplicit false
set_option maxRecDepth 1000000
set_option maxHeartbeats 1000000
namespace Go.Proofs.YtkfhjobebhdpoaaGreat
noncomputable section
open Go.X
def n0P : Nat := 1049465
def kP0 : Nat × Blk := (1049255, .row [.ptr 1049253 0, .int .i64 (.ofNat 0), .nils, .str 1 102, .slc 11 0 1 1 false 5, .slc 10 0 1 1 false 5, .nils, .slc 9 0 1 1 false 12, .int .i64 (.ofNat 0), .ptr 1049267 0] 94 true [])
def kP1 : Nat × Blk := (1049253, .row [.map 1049251, .map 1049252] 63 true [])
def kP2 : Nat × Blk := (11, .row [.str 1 99, .int .i64 (.ofNat 1), .int .i64 (.ofNat 0), .nils, .int .i64 (.ofNat 7)] 85 true [])
def kP3 : Nat × Blk := (10, .row [.str 1 121, .int .i64 (.ofNat 6), .int .i64 (.ofNat 0), .nils, .int .i64 (.ofNat 25)] 85 true [])
def kP4 : Nat × Blk := (9, .row [.nils, .int .i64 (.ofNat 0), .int .i64 (.ofNat 0), .str 0 0, .int .i64 (.ofNat 0), .int .i64 (.ofNat 0), .int .i64 (.ofNat 0), .int .i64 (.ofNat 0), .nils, .int .i64 (.ofNat 0), .slc 12 0 2 2 false 6, .int .i64 (.ofNat 36)] 160 true [])
def kP5 : Nat × Blk := (1049267, .row [.ptr 1049255 0, .ptr 1049258 0, .map 1049266, .slc 1049464 0 1 1 false 1, .slc 1049459 0 1 1 false 1, .nils] 108 true [])
def kP6 : Nat × Blk := (1049251, .map [0] 1 [(.str 1 102, .agg [.str 1 102, .slc 11 0 1 1 false 5, .slc 10 0 1 1 false 5, .nils, .slc 9 0 1 1 false 12, .int .i64 (.ofNat 0)])])
def kP7 : Nat × Blk := (1049252, .map [0, 1, 2, 3, 4, 5, 6, 7, 8, 9, 10, 11, 12, 13, 14, 15, 16, 17, 18] 19 [(.int .i64 (.ofNat 1), .fn (Go.Fn.func 41) [] []), (.int .i64 (.ofNat 2), .fn (Go.Fn.func 42) [] []), (.int .i64 (.ofNat 3), .fn (Go.Fn.func 43) [] []), (.int .i64 (.ofNat 4), .fn (Go.Fn.func 44) [] []), (.int .i64 (.ofNat 5), .fn (Go.Fn.func 45) [] []), (.int .i64 (.ofNat 6), .fn (Go.Fn.func 46) [] []), (.int .i64 (.ofNat 7), .fn (Go.Fn.func 47) [] []), (.int .i64 (.ofNat 8), .fn (Go.Fn.func 48) [] []), (.int .i64 (.ofNat 9), .fn (Go.Fn.func 49) [] []), (.int .i64 (.ofNat 10), .fn (Go.Fn.func 50) [] []), (.int .i64 (.ofNat 11), .fn (Go.Fn.func 51) [] []), (.int .i64 (.ofNat 12), .fn (Go.Fn.func 52) [] []), (.int .i64 (.ofNat 13), .fn (Go.Fn.func 53) [] []), (.int .i64 (.ofNat 14), .fn (Go.Fn.func 54) [] []), (.int .i64 (.ofNat 15), .fn (Go.Fn.func 55) [] []), (.int .i64 (.ofNat 16), .fn (Go.Fn.func 56) [] []), (.int .i64 (.ofNat 17), .fn (Go.Fn.func 57) [] []), (.int .i64 (.ofNat 18), .fn (Go.Fn.func 58) [] []), (.int .i64 (.ofNat 19), .fn (Go.Fn.func 59) [] [])])
def kP8 : Nat × Blk := (12, .row [.str 1 97, .nils, .slc 16 0 1 1 false 12, .nils, .slc 15 0 1 1 false 12, .int .i64 (.ofNat 46), .str 1 98, .nils, .slc 14 0 1 1 false 12, .nils, .slc 13 0 1 1 false 12, .int .i64 (.ofNat 96)] 163 true [])
def kP9 : Nat × Blk := (1049258, .row [.map 1049256, .map 1049257, .nilp] 98 true [])
def kP10 : Nat × Blk := (1049266, .map [] 0 [])
def kP11 : Nat × Blk := (1049464, .row [.ptr 1049265 0] 101 true [])
def kP12 : Nat × Blk := (1049459, .row [.ptr 1049272 0] 189 true [])
def kP13 : Nat × Blk := (16, .row [.int .i64 (.ofNat 2), .int .i64 (.ofNat 0), .str 1 99, .int .i64 (.ofNat 0), .int .i64 (.ofNat 0), .int .i64 (.ofNat 0), .int .i64 (.ofNat 0), .nils, .int .i64 (.ofNat 86), .str 1 98, .bool false, .int .i64 (.ofNat 86)] 165 true [])
def kP14 : Nat × Blk := (15, .row [.slc 20 0 1 1 true 1, .int .i64 (.ofNat 8), .int .i64 (.ofNat 0), .str 0 0, .int .i64 (.ofNat 0), .int .i64 (.ofNat 0), .int .i64 (.ofNat 0), .int .i64 (.ofNat 0), .slc 19 0 2 2 true 9, .int .i64 (.ofNat 61), .nils, .int .i64 (.ofNat 57)] 160 true [])
def kP15 : Nat × Blk := (14, .row [.int .i64 (.ofNat 2), .int .i64 (.ofNat 0), .str 1 99, .int .i64 (.ofNat 0), .int .i64 (.ofNat 0), .int .i64 (.ofNat 0), .int .i64 (.ofNat 0), .nils, .int .i64 (.ofNat 138), .str 1 97, .bool false, .int .i64 (.ofNat 138)] 165 true [])
def kP16 : Nat × Blk := (13, .row [.slc 18 0 1 1 true 1, .int .i64 (.ofNat 8), .int .i64 (.ofNat 0), .str 0 0, .int .i64 (.ofNat 0), .int .i64 (.ofNat 0), .int .i64 (.ofNat 0), .int .i64 (.ofNat 0), .slc 17 0 2 2 true 9, .int .i64 (.ofNat 111), .nils, .int .i64 (.ofNat 107)] 160 true [])
def kP17 : Nat × Blk := (1049256, .map [0, 1] 2 [(.str 1 99, .ptr 1049262 0), (.str 1 121, .ptr 1049265 0)])
def kP18 : Nat × Blk := (1049257, .map [0, 1] 2 [(.str 1 99, .agg [.str 1 99, .int .i64 (.ofNat 1), .int .i64 (.ofNat 0), .nils, .int .i64 (.ofNat 7)]), (.str 1 121, .agg [.str 1 121, .int .i64 (.ofNat 6), .int .i64 (.ofNat 0), .nils, .int .i64 (.ofNat 25)])])
def kP19 : Nat × Blk := (1049265, .row [.slc 1049264 0 1 1 true 1, .bool false, .int .i64 (.ofNat 0), .fn (Go.Fn.func 228) [] [.ptr 1049273 0, .ptr 1049269 0, .ptr 1049461 0, .ptr 1049462 0]] 110 true [])
def kP20 : Nat × Blk := (1049272, .row [.ptr 1049267 0, .nils, .int .i64 (.ofNat 0), .int .i64 (.ofNat 0), .str 0 0, .int .i64 (.ofNat 0), .int .i64 (.ofNat 0), .int .i64 (.ofNat 0), .int .i64 (.ofNat 0), .nils, .int .i64 (.ofNat 0), .slc 12 0 2 2 false 6, .int .i64 (.ofNat 36), .int .i64 (.ofNat 0), .bool false, .slc 1049271 0 2 2 true 1, .slc 1049368 0 2 2 false 1, .int .i64 (.ofNat 0)] 193 true [])
def kP21 : Nat × Blk := (20, .row [.str 1 121] 9 true [])
def kP22 : Nat × Blk := (19, .row [.int .i64 (.ofNat 1), .int .i64 (.ofNat 0), .str 0 0, .int .i64 (.ofNat 6), .int .i64 (.ofNat 0), .int .i64 (.ofNat 0), .int .i64 (.ofNat 0), .nils, .int .i64 (.ofNat 61), .int .i64 (.ofNat 4), .int .i64 (.ofNat 3), .str 0 0, .int .i64 (.ofNat 0), .int .i64 (.ofNat 0), .int .i64 (.ofNat 0), .int .i64 (.ofNat 0), .slc 22 0 2 2 true 9, .int .i64 (.ofNat 70)] 157 true [])
def kP23 : Nat × Blk := (18, .row [.str 1 121] 9 true [])
def kP24 : Nat × Blk := (17, .row [.int .i64 (.ofNat 1), .int .i64 (.ofNat 0), .str 0 0, .int .i64 (.ofNat 6), .int .i64 (.ofNat 0), .int .i64 (.ofNat 100), .int .i64 (.ofNat 0), .nils, .int .i64 (.ofNat 111), .int .i64 (.ofNat 4), .int .i64 (.ofNat 3), .str 0 0, .int .i64 (.ofNat 0), .int .i64 (.ofNat 0), .int .i64 (.ofNat 0), .int .i64 (.ofNat 0), .slc 21 0 2 2 true 9, .int .i64 (.ofNat 122)] 157 true [])
def kP25 : Nat × Blk := (1049262, .row [.slc 1049261 0 1 1 true 1, .bool false, .int .i64 (.ofNat 0), .fn (Go.Fn.func 122) [] []] 110 true [])
def kP26 : Nat × Blk := (1049264, .row [.int .i64 (.ofNat 0)] 3 true [])
def kP27 : Nat × Blk := (1049273, .row [.ptr 1049272 0] 189 true [])
def kP28 : Nat × Blk := (1049269, .row [.ptr 1049267 0] 89 true [])
def kP29 : Nat × Blk := (1049461, .row [.str 1 121] 9 true [])
def kP30 : Nat × Blk := (1049462, .row [.ptr 1049265 0] 101 true [])
def kP31 : Nat × Blk := (1049271, .row [.ptr 1049282 0, .ptr 1049374 0] 89 true [])
def kP32 : Nat × Blk := (1049368, .row [.nils, .nils] 106 true [1049276])
def kP33 : Nat × Blk := (22, .row [.int .i64 (.ofNat 2), .int .i64 (.ofNat 0), .str 1 121, .int .i64 (.ofNat 0), .int .i64 (.ofNat 0), .int .i64 (.ofNat 0), .int .i64 (.ofNat 0), .nils, .int .i64 (.ofNat 70), .int .i64 (.ofNat 1), .int .i64 (.ofNat 0), .str 0 0, .int .i64 (.ofNat 6), .int .i64 (.ofNat 0), .int .i64 (.ofNat 1), .int .i64 (.ofNat 0), .nils, .int .i64 (.ofNat 74)] 157 true [])
def kP34 : Nat × Blk := (21, .row [.int .i64 (.ofNat 2), .int .i64 (.ofNat 0), .str 1 121, .int .i64 (.ofNat 0), .int .i64 (.ofNat 0), .int .i64 (.ofNat 0), .int .i64 (.ofNat 0), .nils, .int .i64 (.ofNat 122), .int .i64 (.ofNat 1), .int .i64 (.ofNat 0), .str 0 0, .int .i64 (.ofNat 6), .int .i64 (.ofNat 0), .int .i64 (.ofNat 1), .int .i64 (.ofNat 0), .nils, .int .i64 (.ofNat 126)] 157 true [])
def kP35 : Nat × Blk := (1049261, .row [.int .i64 (.ofNat 0)] 3 true [])
def kP36 : Nat × Blk := (1049282, .row [.ptr 1049255 0, .ptr 1049280 0, .map 1049281, .slc 1049353 0 1 1 false 1, .nils, .slc 1049365 0 1 1 false 1] 108 true [])
def kP37 : Nat × Blk := (1049374, .row [.ptr 1049255 0, .ptr 1049372 0, .map 1049373, .slc 1049445 0 1 1 false 1, .nils, .slc 1049457 0 1 1 false 1] 108 true [])
def kP38 : Nat × Blk := (1049280, .row [.map 1049278, .map 1049279, .ptr 1049258 0] 98 true [])
def kP39 : Nat × Blk := (1049281, .map [0] 1 [(.str 1 121, .ptr 1049347 0)])
def kP40 : Nat × Blk := (1049353, .row [.ptr 1049347 0] 101 true [])
def kP41 : Nat × Blk := (1049365, .row [.fn (Go.Fn.func 270) [] [.ptr 1049363 0]] 23 true [])
def kP42 : Nat × Blk := (1049372, .row [.map 1049370, .map 1049371, .ptr 1049258 0] 98 true [])
def kP43 : Nat × Blk := (1049373, .map [0] 1 [(.str 1 121, .ptr 1049439 0)])
def kP44 : Nat × Blk := (1049445, .row [.ptr 1049439 0] 101 true [])
def kP45 : Nat × Blk := (1049457, .row [.fn (Go.Fn.func 270) [] [.ptr 1049455 0]] 23 true [])
def kP46 : Nat × Blk := (1049278, .map [] 0 [])
def kP47 : Nat × Blk := (1049279, .map [] 0 [])
def kP48 : Nat × Blk := (1049347, .row [.slc 1049346 0 1 1 true 1, .bool false, .int .i64 (.ofNat 0), .fn (Go.Fn.func 229) [] [.ptr 1049341 0, .ptr 1049284 0, .ptr 1049287 0, .ptr 1049340 0, .ptr 1049342 0, .ptr 1049343 0]] 110 true [])
def kP49 : Nat × Blk := (1049363, .row [.fn (Go.Fn.func 89) [] [.ptr 1049357 0, .ptr 1049361 0], .int .i64 (.ofNat 1)] 171 true [])
def kP50 : Nat × Blk := (1049370, .map [] 0 [])
def kP51 : Nat × Blk := (1049371, .map [] 0 [])
def kP52 : Nat × Blk := (1049439, .row [.slc 1049438 0 1 1 true 1, .bool false, .int .i64 (.ofNat 0), .fn (Go.Fn.func 229) [] [.ptr 1049433 0, .ptr 1049376 0, .ptr 1049379 0, .ptr 1049432 0, .ptr 1049434 0, .ptr 1049435 0]] 110 true [])
def kP53 : Nat × Blk := (1049455, .row [.fn (Go.Fn.func 89) [] [.ptr 1049449 0, .ptr 1049453 0], .int .i64 (.ofNat 1)] 171 true [])
def kP54 : Nat × Blk := (1049346, .row [.int .i64 (.ofNat 0)] 3 true [])
def kP55 : Nat × Blk := (1049341, .row [.int .i64 (.ofNat 0)] 3 true [])
def kP56 : Nat × Blk := (1049284, .row [.ptr 1049282 0] 89 true [])
def kP57 : Nat × Blk := (1049287, .row [.str 1 121, .int .i64 (.ofNat 6), .int .i64 (.ofNat 0), .nils, .int .i64 (.ofNat 25)] 85 true [])
def kP58 : Nat × Blk := (1049340, .row [.fn (Go.Fn.func 101) [] [.ptr 1049338 0, .ptr 1049339 0, .ptr 1049290 0], .int .i64 (.ofNat 6)] 171 true [])
def kP59 : Nat × Blk := (1049342, .row [.slc 1049349 0 1 1 false 1] 104 true [])
def kP60 : Nat × Blk := (1049343, .row [.slc 1049351 0 1 1 false 1] 22 true [])
def kP61 : Nat × Blk := (1049357, .row [.ptr 1049282 0] 89 true [])
def kP62 : Nat × Blk := (1049361, .row [.ptr 1049262 0] 101 true [])
def kP63 : Nat × Blk := (1049438, .row [.int .i64 (.ofNat 0)] 3 true [])
def kP64 : Nat × Blk := (1049433, .row [.int .i64 (.ofNat 0)] 3 true [])
def kP65 : Nat × Blk := (1049376, .row [.ptr 1049374 0] 89 true [])
def kP66 : Nat × Blk := (1049379, .row [.str 1 121, .int .i64 (.ofNat 6), .int .i64 (.ofNat 0), .nils, .int .i64 (.ofNat 25)] 85 true [])
def kP67 : Nat × Blk := (1049432, .row [.fn (Go.Fn.func 101) [] [.ptr 1049430 0, .ptr 1049431 0, .ptr 1049382 0], .int .i64 (.ofNat 6)] 171 true [])
def kP68 : Nat × Blk := (1049434, .row [.slc 1049441 0 1 1 false 1] 104 true [])
def kP69 : Nat × Blk := (1049435, .row [.slc 1049443 0 1 1 false 1] 22 true [])
def kP70 : Nat × Blk := (1049449, .row [.ptr 1049374 0] 89 true [])
def kP71 : Nat × Blk := (1049453, .row [.ptr 1049262 0] 101 true [])
def kP72 : Nat × Blk := (1049338, .row [.slc 1049337 0 2 2 false 2] 174 true [])
def kP73 : Nat × Blk := (1049339, .row [.nils] 67 true [])
def kP74 : Nat × Blk := (1049290, .row [.ptr 1049282 0] 89 true [])
def kP75 : Nat × Blk := (1049349, .row [.ptr 1049347 0] 101 true [])
def kP76 : Nat × Blk := (1049351, .row [.int .i64 (.ofNat 1)] 3 true [])
def kP77 : Nat × Blk := (1049430, .row [.slc 1049429 0 2 2 false 2] 174 true [])
def kP78 : Nat × Blk := (1049431, .row [.nils] 67 true [])
def kP79 : Nat × Blk := (1049382, .row [.ptr 1049374 0] 89 true [])
def kP80 : Nat × Blk := (1049441, .row [.ptr 1049439 0] 101 true [])
def kP81 : Nat × Blk := (1049443, .row [.int .i64 (.ofNat 1)] 3 true [])
def kP82 : Nat × Blk := (1049337, .row [.fn (Go.Fn.func 88) [] [.ptr 1049297 0], .int .i64 (.ofNat 6), .fn (Go.Fn.func 95) [] [.ptr 1049325 0, .ptr 1049304 0], .int .i64 (.ofNat 6)] 171 true [1049300])
def kP83 : Nat × Blk := (1049429, .row [.fn (Go.Fn.func 88) [] [.ptr 1049389 0], .int .i64 (.ofNat 6), .fn (Go.Fn.func 95) [] [.ptr 1049417 0, .ptr 1049396 0], .int .i64 (.ofNat 6)] 171 true [1049392])
def kP84 : Nat × Blk := (1049297, .row [.int .i64 (.ofNat 1), .int .i64 (.ofNat 0), .str 0 0, .int .i64 (.ofNat 6), .int .i64 (.ofNat 0), .int .i64 (.ofNat 0), .int .i64 (.ofNat 0), .nils, .int .i64 (.ofNat 61)] 157 true [])
def kP85 : Nat × Blk := (1049325, .row [.slc 1049324 0 2 2 false 2] 174 true [])
def kP86 : Nat × Blk := (1049304, .row [.int .i64 (.ofNat 4), .int .i64 (.ofNat 3), .str 0 0, .int .i64 (.ofNat 0), .int .i64 (.ofNat 0), .int .i64 (.ofNat 0), .int .i64 (.ofNat 0), .slc 22 0 2 2 true 9, .int .i64 (.ofNat 70)] 157 true [])
def kP87 : Nat × Blk := (1049389, .row [.int .i64 (.ofNat 1), .int .i64 (.ofNat 0), .str 0 0, .int .i64 (.ofNat 6), .int .i64 (.ofNat 0), .int .i64 (.ofNat 100), .int .i64 (.ofNat 0), .nils, .int .i64 (.ofNat 111)] 157 true [])
def kP88 : Nat × Blk := (1049417, .row [.slc 1049416 0 2 2 false 2] 174 true [])
def kP89 : Nat × Blk := (1049396, .row [.int .i64 (.ofNat 4), .int .i64 (.ofNat 3), .str 0 0, .int .i64 (.ofNat 0), .int .i64 (.ofNat 0), .int .i64 (.ofNat 0), .int .i64 (.ofNat 0), .slc 21 0 2 2 true 9, .int .i64 (.ofNat 122)] 157 true [])
def kP90 : Nat × Blk := (1049324, .row [.fn (Go.Fn.func 89) [] [.ptr 1049310 0, .ptr 1049314 0], .int .i64 (.ofNat 6), .fn (Go.Fn.func 88) [] [.ptr 1049321 0], .int .i64 (.ofNat 6)] 171 true [1049317])
def kP91 : Nat × Blk := (1049416, .row [.fn (Go.Fn.func 89) [] [.ptr 1049402 0, .ptr 1049406 0], .int .i64 (.ofNat 6), .fn (Go.Fn.func 88) [] [.ptr 1049413 0], .int .i64 (.ofNat 6)] 171 true [1049409])
def kP92 : Nat × Blk := (1049310, .row [.ptr 1049282 0] 89 true [])
def kP93 : Nat × Blk := (1049314, .row [.ptr 1049265 0] 101 true [])
def kP94 : Nat × Blk := (1049321, .row [.int .i64 (.ofNat 1), .int .i64 (.ofNat 0), .str 0 0, .int .i64 (.ofNat 6), .int .i64 (.ofNat 0), .int .i64 (.ofNat 1), .int .i64 (.ofNat 0), .nils, .int .i64 (.ofNat 74)] 157 true [])
def kP95 : Nat × Blk := (1049402, .row [.ptr 1049374 0] 89 true [])
def kP96 : Nat × Blk := (1049406, .row [.ptr 1049265 0] 101 true [])
def kP97 : Nat × Blk := (1049413, .row [.int .i64 (.ofNat 1), .int .i64 (.ofNat 0), .str 0 0, .int .i64 (.ofNat 6), .int .i64 (.ofNat 0), .int .i64 (.ofNat 1), .int .i64 (.ofNat 0), .nils, .int .i64 (.ofNat 126)] 157 true [])
def kP98 (x0 : Int) : Nat × Blk := (1049255, .row [.ptr 1049253 0, .int .i64 x0, .nils, .str 1 102, .slc 11 0 1 1 false 5, .slc 10 0 1 1 false 5, .nils, .slc 9 0 1 1 false 12, .int .i64 (.ofNat 0), .ptr 1049267 0] 94 true [])
def kP99 (x0 : Int) : Nat × Blk := (1049265, .row [.slc 1049466 0 1 1 true 1, .bool true, .int .i64 x0, .fn (Go.Fn.func 228) [] [.ptr 1049273 0, .ptr 1049269 0, .ptr 1049461 0, .ptr 1049462 0]] 110 true [])
def kP100 (x0 : Int) : Nat × Blk := (1049272, .row [.ptr 1049267 0, .nils, .int .i64 (.ofNat 0), .int .i64 (.ofNat 0), .str 0 0, .int .i64 (.ofNat 0), .int .i64 (.ofNat 0), .int .i64 (.ofNat 0), .int .i64 (.ofNat 0), .nils, .int .i64 (.ofNat 0), .slc 12 0 2 2 false 6, .int .i64 (.ofNat 36), .int .i64 (.ofNat 0), .bool false, .slc 1049271 0 2 2 true 1, .slc 1049368 0 2 2 false 1, .int .i64 x0] 193 true [])
def kP101 (x0 : Int) : Nat × Blk := (1049262, .row [.slc 1049467 0 1 1 true 1, .bool true, .int .i64 x0, .fn (Go.Fn.func 122) [] []] 110 true [])
def kP102 (x0 : Int) : Nat × Blk := (1049466, .row [.int .i64 x0] 3 true [])
def kP103 : Nat × Blk := (1049368, .row [.nils, .nils] 106 true [])
def kP104 : Nat × Blk := (1049467, .row [.int .i64 (.ofNat 0)] 3 true [])
def kP105 (x0 : Int) : Nat × Blk := (1049347, .row [.slc 1049466 0 1 1 true 1, .bool true, .int .i64 x0, .fn (Go.Fn.func 229) [] [.ptr 1049341 0, .ptr 1049284 0, .ptr 1049287 0, .ptr 1049340 0, .ptr 1049342 0, .ptr 1049343 0]] 110 true [])
def kP106 (x0 : Int) : Nat × Blk := (1049341, .row [.int .i64 x0] 3 true [])
def kP107 : Nat × Blk := (1049339, .row [.slc 1049468 0 1 1 true 1] 67 true [])
def kP108 : Nat × Blk := (1049337, .row [.fn (Go.Fn.func 88) [] [.ptr 1049297 0], .int .i64 (.ofNat 6), .fn (Go.Fn.func 95) [] [.ptr 1049325 0, .ptr 1049304 0], .int .i64 (.ofNat 6)] 171 true [])
def kP109 (x0 : Int) : Nat × Blk := (1049468, .row [.int .i64 x0] 3 true [])
def kP110 : Nat × Blk := (1049429, .row [.fn (Go.Fn.func 88) [] [.ptr 1049389 0], .int .i64 (.ofNat 6), .fn (Go.Fn.func 95) [] [.ptr 1049417 0, .ptr 1049396 0], .int .i64 (.ofNat 6)] 171 true [])
def kP111 : Nat × Blk := (1049324, .row [.fn (Go.Fn.func 89) [] [.ptr 1049310 0, .ptr 1049314 0], .int .i64 (.ofNat 6), .fn (Go.Fn.func 88) [] [.ptr 1049321 0], .int .i64 (.ofNat 6)] 171 true [])
def kP112 : Nat × Blk := (1049416, .row [.fn (Go.Fn.func 89) [] [.ptr 1049402 0, .ptr 1049406 0], .int .i64 (.ofNat 6), .fn (Go.Fn.func 88) [] [.ptr 1049413 0], .int .i64 (.ofNat 6)] 171 true [])
def kP113 (x0 : Int) : Nat × Blk := (1049272, .row [.ptr 1049267 0, .nils, .int .i64 (.ofNat 0), .int .i64 (.ofNat 0), .str 0 0, .int .i64 (.ofNat 0), .int .i64 (.ofNat 0), .int .i64 (.ofNat 0), .int .i64 (.ofNat 0), .nils, .int .i64 (.ofNat 0), .slc 12 0 2 2 false 6, .int .i64 (.ofNat 36), .int .i64 (.ofNat 1), .bool true, .slc 1049271 0 2 2 true 1, .slc 1049368 0 2 2 false 1, .int .i64 x0] 193 true [])
def kP114 : Nat × Blk := (1049467, .row [.int .i64 (.ofNat 1)] 3 true [])
def kP115 (x0 : Int) : Nat × Blk := (1049272, .row [.ptr 1049267 0, .nils, .int .i64 (.ofNat 0), .int .i64 (.ofNat 0), .str 0 0, .int .i64 (.ofNat 0), .int .i64 (.ofNat 0), .int .i64 (.ofNat 0), .int .i64 (.ofNat 0), .nils, .int .i64 (.ofNat 0), .slc 12 0 2 2 false 6, .int .i64 (.ofNat 36), .int .i64 (.ofNat 0), .bool true, .slc 1049271 0 2 2 true 1, .slc 1049368 0 2 2 false 1, .int .i64 x0] 193 true [])
def kP116 : Nat × Blk := (1049271, .row [.ptr 1049282 0, .ptr 1049468 0] 89 true [])
def kP117 : Nat × Blk := (1049468, .row [.ptr 1049255 0, .ptr 1049469 0, .map 1049470, .slc 1049471 0 1 1 false 1, .nils, .slc 1049472 0 1 1 false 1] 108 true [])
def kP118 : Nat × Blk := (1049469, .row [.map 1049473, .map 1049474, .ptr 1049258 0] 98 true [])
def kP119 : Nat × Blk := (1049470, .map [0] 1 [(.str 1 121, .ptr 1049475 0)])
def kP120 : Nat × Blk := (1049471, .row [.ptr 1049475 0] 101 true [])
def kP121 : Nat × Blk := (1049472, .row [.fn (Go.Fn.func 270) [] [.ptr 1049476 0]] 23 true [])
def kP122 (x0 : Int) : Nat × Blk := (1049347, .row [.slc 1049477 0 1 1 true 1, .bool true, .int .i64 x0, .fn (Go.Fn.func 229) [] [.ptr 1049341 0, .ptr 1049284 0, .ptr 1049287 0, .ptr 1049340 0, .ptr 1049342 0, .ptr 1049343 0]] 110 true [])
def kP123 : Nat × Blk := (1049473, .map [] 0 [])
def kP124 : Nat × Blk := (1049474, .map [] 0 [])
def kP125 (x0 : Int) : Nat × Blk := (1049475, .row [.slc 1049466 0 1 1 true 1, .bool true, .int .i64 x0, .fn (Go.Fn.func 229) [] [.ptr 1049478 0, .ptr 1049479 0, .ptr 1049480 0, .ptr 1049481 0, .ptr 1049482 0, .ptr 1049483 0]] 110 true [])
def kP126 : Nat × Blk := (1049476, .row [.fn (Go.Fn.func 89) [] [.ptr 1049484 0, .ptr 1049485 0], .int .i64 (.ofNat 1)] 171 true [])
def kP127 (x0 : Int) : Nat × Blk := (1049477, .row [.int .i64 x0] 3 true [])
def kP128 (x0 : Int) : Nat × Blk := (1049478, .row [.int .i64 x0] 3 true [])
def kP129 : Nat × Blk := (1049479, .row [.ptr 1049468 0] 89 true [])
def kP130 : Nat × Blk := (1049480, .row [.str 1 121, .int .i64 (.ofNat 6), .int .i64 (.ofNat 0), .nils, .int .i64 (.ofNat 25)] 85 true [])
def kP131 : Nat × Blk := (1049481, .row [.fn (Go.Fn.func 101) [] [.ptr 1049486 0, .ptr 1049487 0, .ptr 1049488 0], .int .i64 (.ofNat 6)] 171 true [])
def kP132 : Nat × Blk := (1049482, .row [.slc 1049489 0 1 1 false 1] 104 true [])
def kP133 : Nat × Blk := (1049483, .row [.slc 1049490 0 1 1 false 1] 22 true [])
def kP134 : Nat × Blk := (1049484, .row [.ptr 1049468 0] 89 true [])
def kP135 : Nat × Blk := (1049485, .row [.ptr 1049262 0] 101 true [])
def kP136 : Nat × Blk := (1049339, .row [.slc 1049491 0 1 1 true 1] 67 true [])
def kP137 : Nat × Blk := (1049486, .row [.slc 1049492 0 2 2 false 2] 174 true [])
def kP138 : Nat × Blk := (1049487, .row [.slc 1049493 0 1 1 true 1] 67 true [])
def kP139 : Nat × Blk := (1049488, .row [.ptr 1049468 0] 89 true [])
def kP140 : Nat × Blk := (1049489, .row [.ptr 1049475 0] 101 true [])
def kP141 : Nat × Blk := (1049490, .row [.int .i64 (.ofNat 1)] 3 true [])
def kP142 (x0 : Int) : Nat × Blk := (1049491, .row [.int .i64 x0] 3 true [])
def kP143 : Nat × Blk := (1049492, .row [.fn (Go.Fn.func 88) [] [.ptr 1049494 0], .int .i64 (.ofNat 6), .fn (Go.Fn.func 95) [] [.ptr 1049495 0, .ptr 1049496 0], .int .i64 (.ofNat 6)] 171 true [])
def kP144 (x0 : Int) : Nat × Blk := (1049493, .row [.int .i64 x0] 3 true [])
def kP145 : Nat × Blk := (1049494, .row [.int .i64 (.ofNat 1), .int .i64 (.ofNat 0), .str 0 0, .int .i64 (.ofNat 6), .int .i64 (.ofNat 0), .int .i64 (.ofNat 100), .int .i64 (.ofNat 0), .nils, .int .i64 (.ofNat 111)] 157 true [])
def kP146 : Nat × Blk := (1049495, .row [.slc 1049497 0 2 2 false 2] 174 true [])
def kP147 : Nat × Blk := (1049496, .row [.int .i64 (.ofNat 4), .int .i64 (.ofNat 3), .str 0 0, .int .i64 (.ofNat 0), .int .i64 (.ofNat 0), .int .i64 (.ofNat 0), .int .i64 (.ofNat 0), .slc 21 0 2 2 true 9, .int .i64 (.ofNat 122)] 157 true [])
def kP148 : Nat × Blk := (1049497, .row [.fn (Go.Fn.func 89) [] [.ptr 1049498 0, .ptr 1049499 0], .int .i64 (.ofNat 6), .fn (Go.Fn.func 88) [] [.ptr 1049500 0], .int .i64 (.ofNat 6)] 171 true [])
def kP149 : Nat × Blk := (1049498, .row [.ptr 1049468 0] 89 true [])
def kP150 : Nat × Blk := (1049499, .row [.ptr 1049265 0] 101 true [])
def kP151 : Nat × Blk := (1049500, .row [.int .i64 (.ofNat 1), .int .i64 (.ofNat 0), .str 0 0, .int .i64 (.ofNat 6), .int .i64 (.ofNat 0), .int .i64 (.ofNat 1), .int .i64 (.ofNat 0), .nils, .int .i64 (.ofNat 126)] 157 true [])
def kP152 : Nat × Blk := (1049271, .row [.ptr 1049468 0, .ptr 1049469 0] 89 true [])
def kP153 : Nat × Blk := (1049468, .row [.ptr 1049255 0, .ptr 1049470 0, .map 1049471, .slc 1049472 0 1 1 false 1, .nils, .slc 1049473 0 1 1 false 1] 108 true [])
def kP154 : Nat × Blk := (1049469, .row [.ptr 1049255 0, .ptr 1049474 0, .map 1049475, .slc 1049476 0 1 1 false 1, .nils, .slc 1049477 0 1 1 false 1] 108 true [])
def kP155 : Nat × Blk := (1049470, .row [.map 1049478, .map 1049479, .ptr 1049258 0] 98 true [])
def kP156 : Nat × Blk := (1049471, .map [0] 1 [(.str 1 121, .ptr 1049480 0)])
def kP157 : Nat × Blk := (1049472, .row [.ptr 1049480 0] 101 true [])
def kP158 : Nat × Blk := (1049473, .row [.fn (Go.Fn.func 270) [] [.ptr 1049481 0]] 23 true [])
def kP159 : Nat × Blk := (1049474, .row [.map 1049482, .map 1049483, .ptr 1049258 0] 98 true [])
def kP160 : Nat × Blk := (1049475, .map [0] 1 [(.str 1 121, .ptr 1049484 0)])
def kP161 : Nat × Blk := (1049476, .row [.ptr 1049484 0] 101 true [])
def kP162 : Nat × Blk := (1049477, .row [.fn (Go.Fn.func 270) [] [.ptr 1049485 0]] 23 true [])
def kP163 : Nat × Blk := (1049478, .map [] 0 [])
def kP164 : Nat × Blk := (1049479, .map [] 0 [])
def kP165 (x0 : Int) : Nat × Blk := (1049480, .row [.slc 1049466 0 1 1 true 1, .bool true, .int .i64 x0, .fn (Go.Fn.func 229) [] [.ptr 1049486 0, .ptr 1049487 0, .ptr 1049488 0, .ptr 1049489 0, .ptr 1049490 0, .ptr 1049491 0]] 110 true [])
def kP166 : Nat × Blk := (1049481, .row [.fn (Go.Fn.func 89) [] [.ptr 1049492 0, .ptr 1049493 0], .int .i64 (.ofNat 1)] 171 true [])
def kP167 : Nat × Blk := (1049482, .map [] 0 [])
def kP168 : Nat × Blk := (1049483, .map [] 0 [])
def kP169 (x0 : Int) : Nat × Blk := (1049484, .row [.slc 1049494 0 1 1 true 1, .bool true, .int .i64 x0, .fn (Go.Fn.func 229) [] [.ptr 1049495 0, .ptr 1049496 0, .ptr 1049497 0, .ptr 1049498 0, .ptr 1049499 0, .ptr 1049500 0]] 110 true [])
def kP170 : Nat × Blk := (1049485, .row [.fn (Go.Fn.func 89) [] [.ptr 1049501 0, .ptr 1049502 0], .int .i64 (.ofNat 1)] 171 true [])
def kP171 (x0 : Int) : Nat × Blk := (1049486, .row [.int .i64 x0] 3 true [])
def kP172 : Nat × Blk := (1049487, .row [.ptr 1049468 0] 89 true [])
def kP173 : Nat × Blk := (1049488, .row [.str 1 121, .int .i64 (.ofNat 6), .int .i64 (.ofNat 0), .nils, .int .i64 (.ofNat 25)] 85 true [])
def kP174 : Nat × Blk := (1049489, .row [.fn (Go.Fn.func 101) [] [.ptr 1049503 0, .ptr 1049504 0, .ptr 1049505 0], .int .i64 (.ofNat 6)] 171 true [])
def kP175 : Nat × Blk := (1049490, .row [.slc 1049506 0 1 1 false 1] 104 true [])
def kP176 : Nat × Blk := (1049491, .row [.slc 1049507 0 1 1 false 1] 22 true [])
def kP177 : Nat × Blk := (1049492, .row [.ptr 1049468 0] 89 true [])
def kP178 : Nat × Blk := (1049493, .row [.ptr 1049262 0] 101 true [])
def kP179 (x0 : Int) : Nat × Blk := (1049494, .row [.int .i64 x0] 3 true [])
def kP180 (x0 : Int) : Nat × Blk := (1049495, .row [.int .i64 x0] 3 true [])
def kP181 : Nat × Blk := (1049496, .row [.ptr 1049469 0] 89 true [])
def kP182 : Nat × Blk := (1049497, .row [.str 1 121, .int .i64 (.ofNat 6), .int .i64 (.ofNat 0), .nils, .int .i64 (.ofNat 25)] 85 true [])
def kP183 : Nat × Blk := (1049498, .row [.fn (Go.Fn.func 101) [] [.ptr 1049508 0, .ptr 1049509 0, .ptr 1049510 0], .int .i64 (.ofNat 6)] 171 true [])
def kP184 : Nat × Blk := (1049499, .row [.slc 1049511 0 1 1 false 1] 104 true [])
def kP185 : Nat × Blk := (1049500, .row [.slc 1049512 0 1 1 false 1] 22 true [])
def kP186 : Nat × Blk := (1049501, .row [.ptr 1049469 0] 89 true [])
def kP187 : Nat × Blk := (1049502, .row [.ptr 1049262 0] 101 true [])
def kP188 : Nat × Blk := (1049503, .row [.slc 1049513 0 2 2 false 2] 174 true [])
def kP189 : Nat × Blk := (1049504, .row [.slc 1049514 0 1 1 true 1] 67 true [])
def kP190 : Nat × Blk := (1049505, .row [.ptr 1049468 0] 89 true [])
def kP191 : Nat × Blk := (1049506, .row [.ptr 1049480 0] 101 true [])
def kP192 : Nat × Blk := (1049507, .row [.int .i64 (.ofNat 1)] 3 true [])
def kP193 : Nat × Blk := (1049508, .row [.slc 1049515 0 2 2 false 2] 174 true [])
def kP194 : Nat × Blk := (1049509, .row [.slc 1049516 0 1 1 true 1] 67 true [])
def kP195 : Nat × Blk := (1049510, .row [.ptr 1049469 0] 89 true [])
def kP196 : Nat × Blk := (1049511, .row [.ptr 1049484 0] 101 true [])
def kP197 : Nat × Blk := (1049512, .row [.int .i64 (.ofNat 1)] 3 true [])
def kP198 : Nat × Blk := (1049513, .row [.fn (Go.Fn.func 88) [] [.ptr 1049517 0], .int .i64 (.ofNat 6), .fn (Go.Fn.func 95) [] [.ptr 1049518 0, .ptr 1049519 0], .int .i64 (.ofNat 6)] 171 true [])
def kP199 (x0 : Int) : Nat × Blk := (1049514, .row [.int .i64 x0] 3 true [])
def kP200 : Nat × Blk := (1049515, .row [.fn (Go.Fn.func 88) [] [.ptr 1049520 0], .int .i64 (.ofNat 6), .fn (Go.Fn.func 95) [] [.ptr 1049521 0, .ptr 1049522 0], .int .i64 (.ofNat 6)] 171 true [])
def kP201 (x0 : Int) : Nat × Blk := (1049516, .row [.int .i64 x0] 3 true [])
def kP202 : Nat × Blk := (1049517, .row [.int .i64 (.ofNat 1), .int .i64 (.ofNat 0), .str 0 0, .int .i64 (.ofNat 6), .int .i64 (.ofNat 0), .int .i64 (.ofNat 0), .int .i64 (.ofNat 0), .nils, .int .i64 (.ofNat 61)] 157 true [])
def kP203 : Nat × Blk := (1049518, .row [.slc 1049523 0 2 2 false 2] 174 true [])
def kP204 : Nat × Blk := (1049519, .row [.int .i64 (.ofNat 4), .int .i64 (.ofNat 3), .str 0 0, .int .i64 (.ofNat 0), .int .i64 (.ofNat 0), .int .i64 (.ofNat 0), .int .i64 (.ofNat 0), .slc 22 0 2 2 true 9, .int .i64 (.ofNat 70)] 157 true [])
def kP205 : Nat × Blk := (1049520, .row [.int .i64 (.ofNat 1), .int .i64 (.ofNat 0), .str 0 0, .int .i64 (.ofNat 6), .int .i64 (.ofNat 0), .int .i64 (.ofNat 100), .int .i64 (.ofNat 0), .nils, .int .i64 (.ofNat 111)] 157 true [])
def kP206 : Nat × Blk := (1049521, .row [.slc 1049524 0 2 2 false 2] 174 true [])
def kP207 : Nat × Blk := (1049522, .row [.int .i64 (.ofNat 4), .int .i64 (.ofNat 3), .str 0 0, .int .i64 (.ofNat 0), .int .i64 (.ofNat 0), .int .i64 (.ofNat 0), .int .i64 (.ofNat 0), .slc 21 0 2 2 true 9, .int .i64 (.ofNat 122)] 157 true [])
def kP208 : Nat × Blk := (1049523, .row [.fn (Go.Fn.func 89) [] [.ptr 1049525 0, .ptr 1049526 0], .int .i64 (.ofNat 6), .fn (Go.Fn.func 88) [] [.ptr 1049527 0], .int .i64 (.ofNat 6)] 171 true [])
def kP209 : Nat × Blk := (1049524, .row [.fn (Go.Fn.func 89) [] [.ptr 1049528 0, .ptr 1049529 0], .int .i64 (.ofNat 6), .fn (Go.Fn.func 88) [] [.ptr 1049530 0], .int .i64 (.ofNat 6)] 171 true [])
def kP210 : Nat × Blk := (1049525, .row [.ptr 1049468 0] 89 true [])
def kP211 : Nat × Blk := (1049526, .row [.ptr 1049265 0] 101 true [])
def kP212 : Nat × Blk := (1049527, .row [.int .i64 (.ofNat 1), .int .i64 (.ofNat 0), .str 0 0, .int .i64 (.ofNat 6), .int .i64 (.ofNat 0), .int .i64 (.ofNat 1), .int .i64 (.ofNat 0), .nils, .int .i64 (.ofNat 74)] 157 true [])
def kP213 : Nat × Blk := (1049528, .row [.ptr 1049469 0] 89 true [])
def kP214 : Nat × Blk := (1049529, .row [.ptr 1049265 0] 101 true [])
def kP215 : Nat × Blk := (1049530, .row [.int .i64 (.ofNat 1), .int .i64 (.ofNat 0), .str 0 0, .int .i64 (.ofNat 6), .int .i64 (.ofNat 0), .int .i64 (.ofNat 1), .int .i64 (.ofNat 0), .nils, .int .i64 (.ofNat 126)] 157 true [])
def kP216 (x0 : Int) : Nat × Blk := (1049272, .row [.ptr 1049267 0, .nils, .int .i64 (.ofNat 0), .int .i64 (.ofNat 0), .str 0 0, .int .i64 (.ofNat 0), .int .i64 (.ofNat 0), .int .i64 (.ofNat 0), .int .i64 (.ofNat 0), .nils, .int .i64 (.ofNat 0), .slc 12 0 2 2 false 6, .int .i64 (.ofNat 36), .int .i64 (.ofNat 1), .bool false, .slc 1049271 0 2 2 true 1, .slc 1049368 0 2 2 false 1, .int .i64 x0] 193 true [])
def kP217 (x0 : Int) : Nat × Blk := (1049480, .row [.slc 1049486 0 1 1 true 1, .bool true, .int .i64 x0, .fn (Go.Fn.func 229) [] [.ptr 1049487 0, .ptr 1049488 0, .ptr 1049489 0, .ptr 1049490 0, .ptr 1049491 0, .ptr 1049492 0]] 110 true [])
def kP218 : Nat × Blk := (1049481, .row [.fn (Go.Fn.func 89) [] [.ptr 1049493 0, .ptr 1049494 0], .int .i64 (.ofNat 1)] 171 true [])
def kP219 (x0 : Int) : Nat × Blk := (1049484, .row [.slc 1049466 0 1 1 true 1, .bool true, .int .i64 x0, .fn (Go.Fn.func 229) [] [.ptr 1049495 0, .ptr 1049496 0, .ptr 1049497 0, .ptr 1049498 0, .ptr 1049499 0, .ptr 1049500 0]] 110 true [])
def kP220 (x0 : Int) : Nat × Blk := (1049487, .row [.int .i64 x0] 3 true [])
def kP221 : Nat × Blk := (1049489, .row [.str 1 121, .int .i64 (.ofNat 6), .int .i64 (.ofNat 0), .nils, .int .i64 (.ofNat 25)] 85 true [])
def kP222 : Nat × Blk := (1049490, .row [.fn (Go.Fn.func 101) [] [.ptr 1049503 0, .ptr 1049504 0, .ptr 1049505 0], .int .i64 (.ofNat 6)] 171 true [])
def kP223 : Nat × Blk := (1049491, .row [.slc 1049506 0 1 1 false 1] 104 true [])
def kP224 : Nat × Blk := (1049492, .row [.slc 1049507 0 1 1 false 1] 22 true [])
def kP225 : Nat × Blk := (1049493, .row [.ptr 1049468 0] 89 true [])
def kP226 : Nat × Blk := (1049494, .row [.ptr 1049262 0] 101 true [])
def bP0 : List (Nat × Blk) := [kP0, kP1, kP2, kP3, kP4, kP5, kP6, kP7, kP8, kP9, kP10, kP11, kP12, kP13, kP14, kP15, kP16, kP17, kP18, kP19, kP20, kP21, kP22, kP23, kP24, kP25, kP26, kP27, kP28, kP29, kP30, kP31, kP32, kP33, kP34, kP35, kP36, kP37, kP38, kP39, kP40, kP41, kP42, kP43, kP44, kP45, kP46, kP47, kP48, kP49, kP50, kP51, kP52, kP53, kP54, kP55, kP56, kP57, kP58, kP59, kP60, kP61, kP62, kP63, kP64, kP65, kP66, kP67, kP68, kP69, kP70, kP71, kP72, kP73, kP74, kP75, kP76, kP77, kP78, kP79, kP80, kP81, kP82, kP83, kP84, kP85, kP86, kP87, kP88, kP89, kP90, kP91, kP92, kP93, kP94, kP95, kP96, kP97]
def bP1 (a0 : Int) (a1 : Int) : List (Nat × Blk) := [kP98 a0, kP1, kP2, kP3, kP4, kP5, kP6, kP7, kP8, kP9, kP10, kP11, kP12, kP13, kP14, kP15, kP16, kP17, kP18, kP99 a0, kP100 a0, kP21, kP22, kP23, kP24, kP101 a0, kP102 a1, kP27, kP28, kP29, kP30, kP31, kP103, kP33, kP34, kP104, kP36, kP37, kP38, kP39, kP40, kP41, kP42, kP43, kP44, kP45, kP46, kP47, kP105 a0, kP49, kP50, kP51, kP52, kP53, kP106 a0, kP56, kP57, kP58, kP59, kP60, kP61, kP62, kP63, kP64, kP65, kP66, kP67, kP68, kP69, kP70, kP71, kP72, kP107, kP74, kP75, kP76, kP77, kP78, kP79, kP80, kP81, kP108, kP109 a0, kP110, kP84, kP85, kP86, kP87, kP88, kP89, kP111, kP112, kP92, kP93, kP94, kP95, kP96, kP97]
def bP2 (a0 : Int) (a1 : Int) : List (Nat × Blk) := [kP98 a0, kP1, kP2, kP3, kP4, kP5, kP6, kP7, kP8, kP9, kP10, kP11, kP12, kP13, kP14, kP15, kP16, kP17, kP18, kP99 a0, kP113 a0, kP21, kP22, kP23, kP24, kP101 a0, kP102 a1, kP27, kP28, kP29, kP30, kP31, kP103, kP33, kP34, kP114, kP36, kP37, kP38, kP39, kP40, kP41, kP42, kP43, kP44, kP45, kP46, kP47, kP105 a0, kP49, kP50, kP51, kP52, kP53, kP106 a0, kP56, kP57, kP58, kP59, kP60, kP61, kP62, kP63, kP64, kP65, kP66, kP67, kP68, kP69, kP70, kP71, kP72, kP107, kP74, kP75, kP76, kP77, kP78, kP79, kP80, kP81, kP108, kP109 a0, kP110, kP84, kP85, kP86, kP87, kP88, kP89, kP111, kP112, kP92, kP93, kP94, kP95, kP96, kP97]
def bP3 (a0 : Int) (a1 : Int) (a2 : Int) (a3 : Int) (a4 : Int) : List (Nat × Blk) := [kP98 a0, kP1, kP2, kP3, kP4, kP5, kP6, kP7, kP8, kP9, kP10, kP11, kP12, kP13, kP14, kP15, kP16, kP17, kP18, kP99 a0, kP115 a0, kP21, kP22, kP23, kP24, kP101 a0, kP102 a1, kP27, kP28, kP29, kP30, kP116, kP103, kP33, kP34, kP114, kP36, kP117, kP38, kP39, kP40, kP41, kP118, kP119, kP120, kP121, kP46, kP47, kP122 a2, kP49, kP123, kP124, kP125 a0, kP126, kP127 a3, kP106 a2, kP56, kP57, kP58, kP59, kP60, kP61, kP62, kP128 a0, kP129, kP130, kP131, kP132, kP133, kP134, kP135, kP72, kP136, kP74, kP75, kP76, kP137, kP138, kP139, kP140, kP141, kP108, kP142 a2, kP143, kP144 a4, kP84, kP85, kP86, kP145, kP146, kP147, kP111, kP148, kP92, kP93, kP94, kP149, kP150, kP151]
def bP4 (a0 : Int) (a1 : Int) (a2 : Int) (a3 : Int) (a4 : Int) (a5 : Int) : List (Nat × Blk) := [kP98 a0, kP1, kP2, kP3, kP4, kP5, kP6, kP7, kP8, kP9, kP10, kP11, kP12, kP13, kP14, kP15, kP16, kP17, kP18, kP99 a0, kP113 a0, kP21, kP22, kP23, kP24, kP101 a0, kP102 a1, kP27, kP28, kP29, kP30, kP152, kP103, kP33, kP34, kP114, kP153, kP154, kP155, kP156, kP157, kP158, kP159, kP160, kP161, kP162, kP163, kP164, kP165 a0, kP166, kP167, kP168, kP169 a2, kP170, kP171 a0, kP172, kP173, kP174, kP175, kP176, kP177, kP178, kP179 a3, kP180 a2, kP181, kP182, kP183, kP184, kP185, kP186, kP187, kP188, kP189, kP190, kP191, kP192, kP193, kP194, kP195, kP196, kP197, kP198, kP199 a4, kP200, kP201 a5, kP202, kP203, kP204, kP205, kP206, kP207, kP208, kP209, kP210, kP211, kP212, kP213, kP214, kP215]
def bP5 (a0 : Int) (a1 : Int) (a2 : Int) (a3 : Int) (a4 : Int) (a5 : Int) : List (Nat × Blk) := [kP98 a0, kP1, kP2, kP3, kP4, kP5, kP6, kP7, kP8, kP9, kP10, kP11, kP12, kP13, kP14, kP15, kP16, kP17, kP18, kP99 a0, kP216 a0, kP21, kP22, kP23, kP24, kP101 a0, kP102 a1, kP27, kP28, kP29, kP30, kP152, kP103, kP33, kP34, kP104, kP153, kP154, kP155, kP156, kP157, kP158, kP159, kP160, kP161, kP162, kP163, kP164, kP217 a2, kP218, kP167, kP168, kP219 a0, kP170, kP171 a3, kP220 a2, kP139, kP221, kP222, kP223, kP224, kP225, kP226, kP180 a0, kP181, kP182, kP183, kP184, kP185, kP186, kP187, kP188, kP189, kP190, kP191, kP192, kP193, kP194, kP195, kP196, kP197, kP198, kP199 a4, kP200, kP201 a5, kP202, kP203, kP204, kP205, kP206, kP207, kP208, kP209, kP210, kP211, kP212, kP213, kP214, kP215]
def bP6 (a0 : Int) (a1 : Int) (a2 : Int) (a3 : Int) (a4 : Int) (a5 : Int) : List (Nat × Blk) := [kP98 a0, kP1, kP2, kP3, kP4, kP5, kP6, kP7, kP8, kP9, kP10, kP11, kP12, kP13, kP14, kP15, kP16, kP17, kP18, kP99 a0, kP115 a0, kP21, kP22, kP23, kP24, kP101 a0, kP102 a1, kP27, kP28, kP29, kP30, kP152, kP103, kP33, kP34, kP114, kP153, kP154, kP155, kP156, kP157, kP158, kP159, kP160, kP161, kP162, kP163, kP164, kP217 a2, kP218, kP167, kP168, kP219 a0, kP170, kP171 a3, kP220 a2, kP139, kP221, kP222, kP223, kP224, kP225, kP226, kP180 a0, kP181, kP182, kP183, kP184, kP185, kP186, kP187, kP188, kP189, kP190, kP191, kP192, kP193, kP194, kP195, kP196, kP197, kP198, kP199 a4, kP200, kP201 a5, kP202, kP203, kP204, kP205, kP206, kP207, kP208, kP209, kP210, kP211, kP212, kP213, kP214, kP215]
def bP7 (a0 : Int) (a1 : Int) (a2 : Int) (a3 : Int) (a4 : Int) (a5 : Int) : List (Nat × Blk) := [kP98 a0, kP1, kP2, kP3, kP4, kP5, kP6, kP7, kP8, kP9, kP10, kP11, kP12, kP13, kP14, kP15, kP16, kP17, kP18, kP99 a0, kP100 a0, kP21, kP22, kP23, kP24, kP101 a0, kP102 a1, kP27, kP28, kP29, kP30, kP152, kP103, kP33, kP34, kP104, kP153, kP154, kP155, kP156, kP157, kP158, kP159, kP160, kP161, kP162, kP163, kP164, kP165 a0, kP166, kP167, kP168, kP169 a2, kP170, kP171 a0, kP172, kP173, kP174, kP175, kP176, kP177, kP178, kP179 a3, kP180 a2, kP181, kP182, kP183, kP184, kP185, kP186, kP187, kP188, kP189, kP190, kP191, kP192, kP193, kP194, kP195, kP196, kP197, kP198, kP199 a4, kP200, kP201 a5, kP202, kP203, kP204, kP205, kP206, kP207, kP208, kP209, kP210, kP211, kP212, kP213, kP214, kP215]
def bP8 (a0 : Int) (a1 : Int) (a2 : Int) (a3 : Int) (a4 : Int) : List (Nat × Blk) := [kP98 a0, kP1, kP2, kP3, kP4, kP5, kP6, kP7, kP8, kP9, kP10, kP11, kP12, kP13, kP14, kP15, kP16, kP17, kP18, kP99 a0, kP216 a0, kP21, kP22, kP23, kP24, kP101 a0, kP102 a1, kP27, kP28, kP29, kP30, kP116, kP103, kP33, kP34, kP104, kP36, kP117, kP38, kP39, kP40, kP41, kP118, kP119, kP120, kP121, kP46, kP47, kP122 a2, kP49, kP123, kP124, kP125 a0, kP126, kP127 a3, kP106 a2, kP56, kP57, kP58, kP59, kP60, kP61, kP62, kP128 a0, kP129, kP130, kP131, kP132, kP133, kP134, kP135, kP72, kP136, kP74, kP75, kP76, kP137, kP138, kP139, kP140, kP141, kP108, kP142 a2, kP143, kP144 a4, kP84, kP85, kP86, kP145, kP146, kP147, kP111, kP148, kP92, kP93, kP94, kP149, kP150, kP151]
def actP : AV := AV.fn (Go.Fn.func 28) [AV.ptr 1049255 0] []
def eP (n : Nat) (g : Nat → CV) (out : AV) (i : Nat) : List (Nat × AV) := [(6, .nils), (7, .int .i64 (Int.ofNat 0)), (16, actP), (17, out), (71, .vs 30 0 n g), (72, .int .i64 (Int.ofNat n)), (73, .int .i64 (Int.ofNat i))]
/-- a row of the output -/
def rowP (l : List AV) : Blk := .row l 3 true []
/-- the blocks that all states have: the rows of the output (if some are there), of the inputs, of what is wanted -/
def rrP (cs csI csW : List AV) : List (Nat × Blk) := [(n0P, .row cs 22 true []), (30, .row csI 22 true []), (31, .row csW 22 true [])]
def rr0P (csI csW : List AV) : List (Nat × Blk) := [(30, .row csI 22 true []), (31, .row csW 22 true [])]
def dP_0_0 : List Bool := bitsL 94 10628489058396269054658413223
def kP_0_0 : List Nat := [1049255, 1049253, 11, 10, 9, 1049267, 1049251, 1049252, 12, 1049258, 1049266, 1049464, 1049459, 16, 15, 14, 13, 1049256, 1049257, 1049265, 1049272, 20, 19, 18, 17, 1049262, 1049469, 1049273, 1049269, 1049461, 1049462, 1049271, 1049368, 22, 21, 1049465, 1049282, 1049374, 1049280, 1049281, 1049353, 1049365, 1049372, 1049373, 1049445, 1049457, 1049278, 1049279, 1049347, 1049363, 1049370, 1049371, 1049439, 1049455, 1049341, 1049284, 1049287, 1049340, 1049342, 1049343, 1049357, 1049361, 1049438, 1049433, 1049376, 1049379, 1049432, 1049434, 1049435, 1049449, 1049453, 1049338, 1049339, 1049290, 1049349, 1049351, 1049430, 1049431, 1049382, 1049441, 1049443, 1049337, 1049483, 1049429, 1049297, 1049325, 1049304, 1049389, 1049417, 1049396, 1049324, 1049416, 1049310, 1049314, 1049321, 1049402, 1049406, 1049413]
def dP_1_0 : List Bool := bitsL 95 20532009372679311253851341479
def kP_1_0 : List Nat := [1049255, 1049253, 11, 10, 9, 1049267, 1049251, 1049252, 12, 1049258, 1049266, 1049464, 1049459, 16, 15, 14, 13, 1049256, 1049257, 1049265, 1049272, 20, 19, 18, 17, 1049262, 1049468, 1049273, 1049269, 1049461, 1049462, 1049271, 1049368, 22, 21, 2097152, 1049282, 1049374, 1049280, 1049281, 1049353, 1049365, 1049372, 1049373, 1049445, 1049457, 1049278, 1049279, 1049347, 1049363, 1049370, 1049371, 1049439, 1049455, 1049341, 1049284, 1049287, 1049340, 1049342, 1049343, 1049357, 1049361, 1049438, 1049433, 1049376, 1049379, 1049432, 1049434, 1049435, 1049449, 1049453, 1049338, 1049339, 1049290, 1049349, 1049351, 1049430, 1049431, 1049382, 1049441, 1049443, 1049337, 2097170, 1049429, 1049297, 1049325, 1049304, 1049389, 1049417, 1049396, 1049324, 1049416, 1049310, 1049314, 1049321, 1049402, 1049406, 1049413]
def dP_1_1 : List Bool := bitsL 98 164324064209282534551753327271
def kP_1_1 : List Nat := [1049255, 1049253, 11, 10, 9, 1049267, 1049251, 1049252, 12, 1049258, 1049266, 1049464, 1049459, 16, 15, 14, 13, 1049256, 1049257, 1049265, 1049272, 20, 19, 18, 17, 1049262, 1049468, 1049273, 1049269, 1049461, 1049462, 1049271, 1049368, 22, 21, 2097152, 1049282, 1049374, 1049280, 1049281, 1049353, 1049365, 1049372, 1049373, 1049445, 1049457, 1049278, 1049279, 1049347, 1049363, 1049370, 1049371, 1049439, 1049455, 1049341, 1049284, 1049287, 1049340, 1049342, 1049343, 1049357, 1049361, 1049438, 1049433, 1049376, 1049379, 1049432, 1049434, 1049435, 1049449, 1049453, 1049338, 1049339, 1049290, 1049349, 1049351, 1049430, 1049431, 1049382, 1049441, 1049443, 1049337, 2097170, 1049429, 1049297, 1049325, 1049304, 1049389, 1049417, 1049396, 1049324, 1049416, 1049310, 1049314, 1049321, 1049402, 1049406, 1049413]
def dP_2_1 : List Bool := bitsL 178 198643562152204559801734468749882545379501275539063463
def kP_2_1 : List Nat := [1049255, 1049253, 11, 10, 9, 1049267, 1049251, 1049252, 12, 1049258, 1049266, 1049464, 1049459, 16, 15, 14, 13, 1049256, 1049257, 1049265, 1049272, 20, 19, 18, 17, 1049262, 2097245, 1049273, 1049269, 1049461, 1049462, 1049271, 1049368, 22, 21, 2097152, 1049282, 2097161, 1049280, 1049281, 1049353, 1049365, 2097159, 2097160, 2097232, 2097244, 1049278, 1049279, 1049347, 1049363, 2097157, 2097158, 2097226, 2097242, 1049466, 1049341, 1049284, 1049287, 1049340, 1049342, 1049343, 1049357, 1049361, 2097220, 2097163, 2097166, 2097219, 2097221, 2097222, 2097236, 2097240, 1049338, 1049339, 1049290, 1049349, 1049351, 2097217, 2097218, 2097169, 2097228, 2097230, 1049337, 1049468, 2097216, 2097259, 1049297, 1049325, 1049304, 2097176, 2097204, 2097183, 1049324, 2097203, 1049310, 1049314, 1049321, 2097189, 2097193, 2097200]
def dP_3_1 : List Bool := bitsL 181 1589244832052910715637522142861433243185885218990211751
def kP_3_1 : List Nat := [1049255, 1049253, 11, 10, 9, 1049267, 1049251, 1049252, 12, 1049258, 1049266, 1049464, 1049459, 16, 15, 14, 13, 1049256, 1049257, 1049265, 1049272, 20, 19, 18, 17, 1049262, 2097245, 1049273, 1049269, 1049461, 1049462, 1049271, 1049368, 22, 21, 2097152, 2097161, 1049468, 2097159, 2097160, 2097232, 2097244, 1049469, 1049470, 1049471, 1049472, 2097157, 2097158, 2097226, 2097242, 1049473, 1049474, 1049475, 1049476, 2097220, 2097163, 2097166, 2097219, 2097221, 2097222, 2097236, 2097240, 1049466, 1049478, 1049479, 1049480, 1049481, 1049482, 1049483, 1049484, 1049485, 2097217, 2097218, 2097169, 2097228, 2097230, 1049486, 1049487, 1049488, 1049489, 1049490, 2097216, 2097259, 1049492, 1049493, 2097176, 2097204, 2097183, 1049494, 1049495, 1049496, 2097203, 1049497, 2097189, 2097193, 2097200, 1049498, 1049499, 1049500]
def dP_4_0 : List Bool := bitsL 178 198573410073612676461660691877912163794557790777000615
def kP_4_0 : List Nat := [1049255, 1049253, 11, 10, 9, 1049267, 1049251, 1049252, 12, 1049258, 1049266, 1049464, 1049459, 16, 15, 14, 13, 1049256, 1049257, 1049265, 1049272, 20, 19, 18, 17, 1049262, 2097245, 1049273, 1049269, 1049461, 1049462, 1049271, 1049368, 22, 21, 2097152, 1049468, 2097161, 1049470, 1049471, 1049472, 1049473, 2097159, 2097160, 2097232, 2097244, 1049478, 1049479, 1049480, 1049481, 2097157, 2097158, 2097226, 2097242, 1049466, 1049486, 1049487, 1049488, 1049489, 1049490, 1049491, 1049492, 1049493, 2097220, 2097163, 2097166, 2097219, 2097221, 2097222, 2097236, 2097240, 1049503, 1049504, 1049505, 1049506, 1049507, 2097217, 2097218, 2097169, 2097228, 2097230, 1049513, 1049514, 2097216, 2097259, 1049517, 1049518, 1049519, 2097176, 2097204, 2097183, 1049523, 2097203, 1049525, 1049526, 1049527, 2097189, 2097193, 2097200]
def dP_5_0 : List Bool := bitsL 95 20532009372679311253851341479
def kP_5_0 : List Nat := [1049255, 1049253, 11, 10, 9, 1049267, 1049251, 1049252, 12, 1049258, 1049266, 1049464, 1049459, 16, 15, 14, 13, 1049256, 1049257, 1049265, 1049272, 20, 19, 18, 17, 1049262, 1049516, 1049273, 1049269, 1049461, 1049462, 1049271, 1049368, 22, 21, 2097152, 1049468, 1049469, 1049470, 1049471, 1049472, 1049473, 1049474, 1049475, 1049476, 1049477, 1049478, 1049479, 1049480, 1049481, 1049482, 1049483, 1049484, 1049485, 1049486, 1049487, 1049488, 1049489, 1049490, 1049491, 1049492, 1049493, 1049494, 1049495, 1049496, 1049497, 1049498, 1049499, 1049500, 1049501, 1049502, 1049503, 1049504, 1049505, 1049506, 1049507, 1049508, 1049509, 1049510, 1049511, 1049512, 1049513, 1049514, 1049515, 2097170, 1049517, 1049518, 1049519, 1049520, 1049521, 1049522, 1049523, 1049524, 1049525, 1049526, 1049527, 1049528, 1049529, 1049530]
def dP_5_1 : List Bool := bitsL 95 20539262927596999028899578535
def kP_5_1 : List Nat := [1049255, 1049253, 11, 10, 9, 1049267, 1049251, 1049252, 12, 1049258, 1049266, 1049464, 1049459, 16, 15, 14, 13, 1049256, 1049257, 1049265, 1049272, 20, 19, 18, 17, 1049262, 1049516, 1049273, 1049269, 1049461, 1049462, 1049271, 1049368, 22, 21, 2097152, 1049468, 1049469, 1049470, 1049471, 1049472, 1049473, 1049474, 1049475, 1049476, 1049477, 1049478, 1049479, 1049480, 1049481, 1049482, 1049483, 1049484, 1049485, 1049486, 1049487, 1049488, 1049489, 1049490, 1049491, 1049492, 1049493, 1049494, 1049495, 1049496, 1049497, 1049498, 1049499, 1049500, 1049501, 1049502, 1049503, 1049504, 1049505, 1049506, 1049507, 1049508, 1049509, 1049510, 1049511, 1049512, 1049513, 1049514, 1049515, 2097170, 1049517, 1049518, 1049519, 1049520, 1049521, 1049522, 1049523, 1049524, 1049525, 1049526, 1049527, 1049528, 1049529, 1049530]
def dP_6_0 : List Bool := bitsL 178 198573410073612676461660691877912163794557790777000615
def kP_6_0 : List Nat := [1049255, 1049253, 11, 10, 9, 1049267, 1049251, 1049252, 12, 1049258, 1049266, 1049464, 1049459, 16, 15, 14, 13, 1049256, 1049257, 1049265, 1049272, 20, 19, 18, 17, 1049262, 2097245, 1049273, 1049269, 1049461, 1049462, 1049271, 1049368, 22, 21, 2097152, 2097161, 1049469, 2097159, 2097160, 2097232, 2097244, 1049474, 1049475, 1049476, 1049477, 2097157, 2097158, 2097226, 2097242, 1049482, 1049483, 1049484, 1049485, 2097220, 2097163, 2097166, 2097219, 2097221, 2097222, 2097236, 2097240, 1049466, 1049495, 1049496, 1049497, 1049498, 1049499, 1049500, 1049501, 1049502, 2097217, 2097218, 2097169, 2097228, 2097230, 1049508, 1049509, 1049510, 1049511, 1049512, 2097216, 2097259, 1049515, 1049516, 2097176, 2097204, 2097183, 1049520, 1049521, 1049522, 2097203, 1049524, 2097189, 2097193, 2097200, 1049528, 1049529, 1049530]
def dP_7_1 : List Bool := bitsL 98 164324064209282534551753327271
def kP_7_1 : List Nat := [1049255, 1049253, 11, 10, 9, 1049267, 1049251, 1049252, 12, 1049258, 1049266, 1049464, 1049459, 16, 15, 14, 13, 1049256, 1049257, 1049265, 1049272, 20, 19, 18, 17, 1049262, 1049514, 1049273, 1049269, 1049461, 1049462, 1049271, 1049368, 22, 21, 2097152, 1049468, 1049469, 1049470, 1049471, 1049472, 1049473, 1049474, 1049475, 1049476, 1049477, 1049478, 1049479, 1049480, 1049481, 1049482, 1049483, 1049484, 1049485, 1049486, 1049487, 1049488, 1049489, 1049490, 1049491, 1049492, 1049493, 1049494, 1049495, 1049496, 1049497, 1049498, 1049499, 1049500, 1049501, 1049502, 1049503, 1049504, 1049505, 1049506, 1049507, 1049508, 1049509, 1049510, 1049511, 1049512, 1049513, 2097170, 1049515, 1049516, 1049517, 1049518, 1049519, 1049520, 1049521, 1049522, 1049523, 1049524, 1049525, 1049526, 1049527, 1049528, 1049529, 1049530]
def dP_0_1 : List Bool := bitsL 97 85095901695018196958209442471
def kP_0_1 : List Nat := [1049255, 1049253, 11, 10, 9, 1049267, 1049251, 1049252, 12, 1049258, 1049266, 1049464, 1049459, 16, 15, 14, 13, 1049256, 1049257, 1049265, 1049272, 20, 19, 18, 17, 1049262, 1049469, 1049273, 1049269, 1049461, 1049462, 1049271, 1049368, 22, 21, 1049465, 1049282, 1049374, 1049280, 1049281, 1049353, 1049365, 1049372, 1049373, 1049445, 1049457, 1049278, 1049279, 1049347, 1049363, 1049370, 1049371, 1049439, 1049455, 1049341, 1049284, 1049287, 1049340, 1049342, 1049343, 1049357, 1049361, 1049438, 1049433, 1049376, 1049379, 1049432, 1049434, 1049435, 1049449, 1049453, 1049338, 1049339, 1049290, 1049349, 1049351, 1049430, 1049431, 1049382, 1049441, 1049443, 1049337, 1049483, 1049429, 1049297, 1049325, 1049304, 1049389, 1049417, 1049396, 1049324, 1049416, 1049310, 1049314, 1049321, 1049402, 1049406, 1049413]
def dP_2_0 : List Bool := bitsL 178 198573410073612676461660691877912163794557790777000615
def kP_2_0 : List Nat := [1049255, 1049253, 11, 10, 9, 1049267, 1049251, 1049252, 12, 1049258, 1049266, 1049464, 1049459, 16, 15, 14, 13, 1049256, 1049257, 1049265, 1049272, 20, 19, 18, 17, 1049262, 2097245, 1049273, 1049269, 1049461, 1049462, 1049271, 1049368, 22, 21, 2097152, 1049282, 2097161, 1049280, 1049281, 1049353, 1049365, 2097159, 2097160, 2097232, 2097244, 1049278, 1049279, 1049347, 1049363, 2097157, 2097158, 2097226, 2097242, 1049466, 1049341, 1049284, 1049287, 1049340, 1049342, 1049343, 1049357, 1049361, 2097220, 2097163, 2097166, 2097219, 2097221, 2097222, 2097236, 2097240, 1049338, 1049339, 1049290, 1049349, 1049351, 2097217, 2097218, 2097169, 2097228, 2097230, 1049337, 1049468, 2097216, 2097259, 1049297, 1049325, 1049304, 2097176, 2097204, 2097183, 1049324, 2097203, 1049310, 1049314, 1049321, 2097189, 2097193, 2097200]
def dP_8_1 : List Bool := bitsL 95 20539262927596999028899578535
def kP_8_1 : List Nat := [1049255, 1049253, 11, 10, 9, 1049267, 1049251, 1049252, 12, 1049258, 1049266, 1049464, 1049459, 16, 15, 14, 13, 1049256, 1049257, 1049265, 1049272, 20, 19, 18, 17, 1049262, 1049493, 1049273, 1049269, 1049461, 1049462, 1049271, 1049368, 22, 21, 2097152, 1049282, 1049468, 1049280, 1049281, 1049353, 1049365, 1049469, 1049470, 1049471, 1049472, 1049278, 1049279, 1049347, 1049363, 1049473, 1049474, 1049475, 1049476, 1049477, 1049341, 1049284, 1049287, 1049340, 1049342, 1049343, 1049357, 1049361, 1049478, 1049479, 1049480, 1049481, 1049482, 1049483, 1049484, 1049485, 1049338, 1049339, 1049290, 1049349, 1049351, 1049486, 1049487, 1049488, 1049489, 1049490, 1049337, 1049491, 1049492, 2097170, 1049297, 1049325, 1049304, 1049494, 1049495, 1049496, 1049324, 1049497, 1049310, 1049314, 1049321, 1049498, 1049499, 1049500]
def dP_6_1 : List Bool := bitsL 181 1589244832052910715637522142861433243185885218990211751
def kP_6_1 : List Nat := [1049255, 1049253, 11, 10, 9, 1049267, 1049251, 1049252, 12, 1049258, 1049266, 1049464, 1049459, 16, 15, 14, 13, 1049256, 1049257, 1049265, 1049272, 20, 19, 18, 17, 1049262, 2097245, 1049273, 1049269, 1049461, 1049462, 1049271, 1049368, 22, 21, 2097152, 2097161, 1049469, 2097159, 2097160, 2097232, 2097244, 1049474, 1049475, 1049476, 1049477, 2097157, 2097158, 2097226, 2097242, 1049482, 1049483, 1049484, 1049485, 2097220, 2097163, 2097166, 2097219, 2097221, 2097222, 2097236, 2097240, 1049466, 1049495, 1049496, 1049497, 1049498, 1049499, 1049500, 1049501, 1049502, 2097217, 2097218, 2097169, 2097228, 2097230, 1049508, 1049509, 1049510, 1049511, 1049512, 2097216, 2097259, 1049515, 1049516, 2097176, 2097204, 2097183, 1049520, 1049521, 1049522, 2097203, 1049524, 2097189, 2097193, 2097200, 1049528, 1049529, 1049530]
def dP_4_1 : List Bool := bitsL 178 198643562152204559801734468749882545379501275539063463
def kP_4_1 : List Nat := [1049255, 1049253, 11, 10, 9, 1049267, 1049251, 1049252, 12, 1049258, 1049266, 1049464, 1049459, 16, 15, 14, 13, 1049256, 1049257, 1049265, 1049272, 20, 19, 18, 17, 1049262, 2097245, 1049273, 1049269, 1049461, 1049462, 1049271, 1049368, 22, 21, 2097152, 1049468, 2097161, 1049470, 1049471, 1049472, 1049473, 2097159, 2097160, 2097232, 2097244, 1049478, 1049479, 1049480, 1049481, 2097157, 2097158, 2097226, 2097242, 1049466, 1049486, 1049487, 1049488, 1049489, 1049490, 1049491, 1049492, 1049493, 2097220, 2097163, 2097166, 2097219, 2097221, 2097222, 2097236, 2097240, 1049503, 1049504, 1049505, 1049506, 1049507, 2097217, 2097218, 2097169, 2097228, 2097230, 1049513, 1049514, 2097216, 2097259, 1049517, 1049518, 1049519, 2097176, 2097204, 2097183, 1049523, 2097203, 1049525, 1049526, 1049527, 2097189, 2097193, 2097200]
def dP_7_0 : List Bool := bitsL 95 20532009372679311253851341479
def kP_7_0 : List Nat := [1049255, 1049253, 11, 10, 9, 1049267, 1049251, 1049252, 12, 1049258, 1049266, 1049464, 1049459, 16, 15, 14, 13, 1049256, 1049257, 1049265, 1049272, 20, 19, 18, 17, 1049262, 1049514, 1049273, 1049269, 1049461, 1049462, 1049271, 1049368, 22, 21, 2097152, 1049468, 1049469, 1049470, 1049471, 1049472, 1049473, 1049474, 1049475, 1049476, 1049477, 1049478, 1049479, 1049480, 1049481, 1049482, 1049483, 1049484, 1049485, 1049486, 1049487, 1049488, 1049489, 1049490, 1049491, 1049492, 1049493, 1049494, 1049495, 1049496, 1049497, 1049498, 1049499, 1049500, 1049501, 1049502, 1049503, 1049504, 1049505, 1049506, 1049507, 1049508, 1049509, 1049510, 1049511, 1049512, 1049513, 2097170, 1049515, 1049516, 1049517, 1049518, 1049519, 1049520, 1049521, 1049522, 1049523, 1049524, 1049525, 1049526, 1049527, 1049528, 1049529, 1049530]
def dP_8_0 : List Bool := bitsL 95 20532009372679311253851341479
def kP_8_0 : List Nat := [1049255, 1049253, 11, 10, 9, 1049267, 1049251, 1049252, 12, 1049258, 1049266, 1049464, 1049459, 16, 15, 14, 13, 1049256, 1049257, 1049265, 1049272, 20, 19, 18, 17, 1049262, 1049493, 1049273, 1049269, 1049461, 1049462, 1049271, 1049368, 22, 21, 2097152, 1049282, 1049468, 1049280, 1049281, 1049353, 1049365, 1049469, 1049470, 1049471, 1049472, 1049278, 1049279, 1049347, 1049363, 1049473, 1049474, 1049475, 1049476, 1049477, 1049341, 1049284, 1049287, 1049340, 1049342, 1049343, 1049357, 1049361, 1049478, 1049479, 1049480, 1049481, 1049482, 1049483, 1049484, 1049485, 1049338, 1049339, 1049290, 1049349, 1049351, 1049486, 1049487, 1049488, 1049489, 1049490, 1049337, 1049491, 1049492, 2097170, 1049297, 1049325, 1049304, 1049494, 1049495, 1049496, 1049324, 1049497, 1049310, 1049314, 1049321, 1049498, 1049499, 1049500]
def dP_3_0 : List Bool := bitsL 178 198573410073612676461660691877912163794557790777000615
def kP_3_0 : List Nat := [1049255, 1049253, 11, 10, 9, 1049267, 1049251, 1049252, 12, 1049258, 1049266, 1049464, 1049459, 16, 15, 14, 13, 1049256, 1049257, 1049265, 1049272, 20, 19, 18, 17, 1049262, 2097245, 1049273, 1049269, 1049461, 1049462, 1049271, 1049368, 22, 21, 2097152, 2097161, 1049468, 2097159, 2097160, 2097232, 2097244, 1049469, 1049470, 1049471, 1049472, 2097157, 2097158, 2097226, 2097242, 1049473, 1049474, 1049475, 1049476, 2097220, 2097163, 2097166, 2097219, 2097221, 2097222, 2097236, 2097240, 1049466, 1049478, 1049479, 1049480, 1049481, 1049482, 1049483, 1049484, 1049485, 2097217, 2097218, 2097169, 2097228, 2097230, 1049486, 1049487, 1049488, 1049489, 1049490, 2097216, 2097259, 1049492, 1049493, 2097176, 2097204, 2097183, 1049494, 1049495, 1049496, 2097203, 1049497, 2097189, 2097193, 2097200, 1049498, 1049499, 1049500]
/-- what is told ahead of this round's inputs -/
def ggP (r : Nat) (b : List Int) : Nat → CV := fun _ => .row r 1 (fun k => Option.rec 0 (fun x => x) (lget b k))
end
end Go.Proofs.YtkfhjobebhdpoaaGreat
/- Stream: the rounds of Run's loop over ticks. -/
set_option autoImplicit false
set_option maxRecDepth 1000000
set_option maxHeartbeats 1000000
namespace Go.Proofs.YtkfhjobebhdpoaaGreat
noncomputable section
open Go.X
def RP (csI csW : List AV) (oa i : Nat) : List (Nat × Nat × Blk) := [(n0P, oa, .row (zrows 300 1 i) 22 true []), (30, 30, .row csI 22 true []), (31, 31, .row csW 22 true [])]
def rawP (csI csW cs : List AV) : List (Option Blk × Bool) := [(some (.row cs 22 true []), true), (some (.row csI 22 true []), true), (some (.row csW 22 true []), true)]
def ocP (i ra : Nat) : List AV := lapp (ltake (ldrop (zrows 300 1 i) 0) (Nat.mul i 1)) [.slc ra 0 1 1 false 1]
def hP (z : T Blk) (csI csW : List AV) (i : Nat) (B : List (Nat × Blk)) : H := ⟨mkB z (lapp (rrP (zrows 300 1 i) csI csW) B), 2097152⟩
def hfP (z : T Blk) (csI csW : List AV) (B : List (Nat × Blk)) : H := ⟨mkB z (lapp (rr0P csI csW) B), n0P⟩
def goP (h : H) (n i r : Nat) (out : AV) (b : List Int) (d : List Bool) (K : KE) : Prop := xcode C1 Tryz.prog F 14 (loopC Tryz.prog 14 22) (mask 14) (tmpsN Tryz.prog 14) (mkE (eP n (ggP r b) out i)) h d K
def obP (csI csW : List AV) (i : Nat) (A : List (Nat × Nat × Blk)) (oa ra : Nat) (row : List AV) (Kv : XE → Obs → Prop) : KE := fun x env h _ => Kv x (obs [6, 7, 16, 17, 71, 72, 73] (actsOf (lapp (RP csI csW oa (i + 1)) A) [(300 + i, ra, rowP row)]) (lapp (RP csI csW oa (i + 1)) A) [(300 + i, ra, rowP row)] env h)
def obfP (csI csW : List AV) (A : List (Nat × Nat × Blk)) (oa ra : Nat) (row : List AV) (Kv : XE → Obs → Prop) : KE := fun x env h _ => Kv x (obs [6, 7, 16, 17, 71, 72, 73] (actsOf (lapp (RP csI csW oa 1) A) [(300, ra, rowP row)]) (lapp (RP csI csW oa 1) A) [(300, ra, rowP row)] env h)
def lfP (z : T Blk) (csI csW : List AV) (n i r : Nat) (b : List Int) (A : List (Nat × Nat × Blk)) (oa ra : Nat) (row : List AV) (Kv : XE → Obs → Prop) : Prop := Kv .nrm (expsR n0P (kpOf z) (eP n (ggP r b) (.slc n0P 0 (i + 1) (i + 1) false 1) (i + 1)) (RP csI csW oa (i + 1)) A [(300 + i, ra, rowP row)] z (rawP csI csW (ocP i ra)))
def lffP (z : T Blk) (csI csW : List AV) (n r : Nat) (b : List Int) (A : List (Nat × Nat × Blk)) (oa ra : Nat) (row : List AV) (Kv : XE → Obs → Prop) : Prop := Kv .nrm (expsR n0P (kpOf z) (eP n (ggP r b) (.slc n0P 0 1 1 false 1) 1) (RP csI csW oa 1) A [(300, ra, rowP row)] z (rawP csI csW [.slc ra 0 1 1 false 1]))
def cIP (h : H) (i r : Nat) (b : List Int) : Prop := cellIs h 30 i (.row r 1 (fun k => Option.rec 0 (fun x => x) (lget b k)))
def cRP (h : H) (r : Nat) (b : List Int) : Prop := cellsAre h r (fun k => .sc (Option.rec 0 (fun x => x) (lget b k))) 1 0
def hdP (h : H) (n i j r : Nat) (b : List Int) (t : Prop) : Prop := bcase (dcq true (ltI (Int.ofNat i) (Int.ofNat n))) (bcase (inB (Int.ofNat i) n) (cIP h j r b ∧ (cRP h r b ∧ t)) False) False
def ttP (i : Nat) (t : Prop) : Prop := bcase (dcq false (Nat.ble (Nat.add i 1) i)) (bcase (appC (zrows 300 1 i) i) (bcase (Nat.ble (llen (zrows 300 1 i)) (Nat.mul i 1)) (bcase (inR .i64 (Int.ofNat i + Int.ofNat 1)) t False) (bcase (inR .i64 (Int.ofNat i + Int.ofNat 1)) t False)) False) False
def ixP (i : Nat) : Nat := Nat.add 0 (Nat.mul (Int.toNat (Int.ofNat i)) 1)
theorem tP_0_0 (z : T Blk) (csI csW : List AV) (n r : Nat) (Kv : XE → Obs → Prop) : goP (hfP z csI csW (bP0)) n 0 r .nils [0] dP_0_0 (obfP csI csW (zipA (bP1 1 0) kP_0_0) 1049490 1049488 [.int .i64 0] Kv) = (hdP (hfP z csI csW (bP0)) n 0 0 r [0] (lffP z csI csW n r [0] (zipA (bP1 1 0) kP_0_0) 1049490 1049488 [.int .i64 0] Kv)) := by kernel_rfl
theorem tP_1_0 (z : T Blk) (csI csW : List AV) (n i r : Nat) (a0 : Int) (a1 : Int) (Kv : XE → Obs → Prop) : goP (hP z csI csW i (bP1 a0 a1)) n i r (.slc n0P 0 i i false 1) [0] dP_1_0 (obP csI csW i (zipA (bP1 (a0 + 1) a0) kP_1_0) 2097177 2097175 [.int .i64 a0] Kv) = (hdP (hP z csI csW i (bP1 a0 a1)) n i (ixP i) r [0] (bcase (inR .i64 (a0 + 1)) (bcase (dcq false (eqI a0 (a0 + 1))) (bcase (dcq false (eqI a0 (a0 + 1))) (bcase (dcq false (eqI a0 (a0 + 1))) (bcase (dcq false (eqI a0 (a0 + 1))) (bcase (dcq true (eqI (a0 + 1) (a0 + 1))) (bcase (dcq true (eqI (a0 + 1) (a0 + 1))) (bcase (dcq true (eqI (a0 + 1) (a0 + 1))) (bcase (inR .u8 a0) (bcase (inR .i64 a0) (bcase (dcq true (eqI a0 a0)) (bcase (inR .i64 (a0 + 1)) (bcase (inR .u8 (a0 + 1)) (bcase (inR .i64 (a0 + 1)) (bcase (dcq true (eqI (a0 + 1) (a0 + 1))) (ttP i (lfP z csI csW n i r [0] (zipA (bP1 (a0 + 1) a0) kP_1_0) 2097177 2097175 [.int .i64 a0] Kv)) False) False) False) False) False) False) False) False) False) False) False) False) False) False) False)) := by kernel_rfl
theorem tP_1_1 (z : T Blk) (csI csW : List AV) (n i r : Nat) (a0 : Int) (a1 : Int) (Kv : XE → Obs → Prop) : goP (hP z csI csW i (bP1 a0 a1)) n i r (.slc n0P 0 i i false 1) [1] dP_1_1 (obP csI csW i (zipA (bP2 (a0 + 1) a0) kP_1_1) 2097180 2097178 [.int .i64 a0] Kv) = (hdP (hP z csI csW i (bP1 a0 a1)) n i (ixP i) r [1] (bcase (inR .i64 (a0 + 1)) (bcase (dcq false (eqI a0 (a0 + 1))) (bcase (dcq false (eqI a0 (a0 + 1))) (bcase (dcq false (eqI a0 (a0 + 1))) (bcase (dcq false (eqI a0 (a0 + 1))) (bcase (dcq true (eqI (a0 + 1) (a0 + 1))) (bcase (dcq true (eqI (a0 + 1) (a0 + 1))) (bcase (dcq true (eqI (a0 + 1) (a0 + 1))) (bcase (inR .u8 a0) (bcase (inR .i64 a0) (bcase (dcq true (eqI a0 a0)) (bcase (inR .i64 (a0 + 1)) (bcase (inR .u8 (a0 + 1)) (bcase (inR .i64 (a0 + 1)) (bcase (dcq true (eqI (a0 + 1) (a0 + 1))) (ttP i (lfP z csI csW n i r [1] (zipA (bP2 (a0 + 1) a0) kP_1_1) 2097180 2097178 [.int .i64 a0] Kv)) False) False) False) False) False) False) False) False) False) False) False) False) False) False) False)) := by kernel_rfl
theorem tP_2_1 (z : T Blk) (csI csW : List AV) (n i r : Nat) (a0 : Int) (a1 : Int) (Kv : XE → Obs → Prop) : goP (hP z csI csW i (bP2 a0 a1)) n i r (.slc n0P 0 i i false 1) [1] dP_2_1 (obP csI csW i (zipA (bP3 (a0 + 1) 100 a0 a1 101) kP_2_1) 2097268 2097266 [.int .i64 100] Kv) = (hdP (hP z csI csW i (bP2 a0 a1)) n i (ixP i) r [1] (bcase (inR .i64 (a0 + 1)) (bcase (dcq false (eqI a0 (a0 + 1))) (bcase (dcq false (eqI a0 (a0 + 1))) (bcase (dcq false (eqI 0 (a0 + 1))) (bcase (dcq false (eqI 0 (a0 + 1))) (bcase (dcq true (eqI (a0 + 1) (a0 + 1))) (bcase (dcq true (eqI (a0 + 1) (a0 + 1))) (bcase (dcq true (eqI (a0 + 1) (a0 + 1))) (bcase (dcq true (eqI (a0 + 1) (a0 + 1))) (ttP i (lfP z csI csW n i r [1] (zipA (bP3 (a0 + 1) 100 a0 a1 101) kP_2_1) 2097268 2097266 [.int .i64 100] Kv)) False) False) False) False) False) False) False) False) False)) := by kernel_rfl
theorem tP_3_1 (z : T Blk) (csI csW : List AV) (n i r : Nat) (a0 : Int) (a1 : Int) (a2 : Int) (a3 : Int) (a4 : Int) (Kv : XE → Obs → Prop) : goP (hP z csI csW i (bP3 a0 a1 a2 a3 a4)) n i r (.slc n0P 0 i i false 1) [1] dP_3_1 (obP csI csW i (zipA (bP4 (a0 + 1) 0 a0 a1 1 a4) kP_3_1) 2097269 2097267 [.int .i64 0] Kv) = (hdP (hP z csI csW i (bP3 a0 a1 a2 a3 a4)) n i (ixP i) r [1] (bcase (inR .i64 (a0 + 1)) (bcase (dcq false (eqI a0 (a0 + 1))) (bcase (dcq false (eqI a0 (a0 + 1))) (bcase (dcq false (eqI 0 (a0 + 1))) (bcase (dcq false (eqI 0 (a0 + 1))) (bcase (dcq true (eqI (a0 + 1) (a0 + 1))) (bcase (dcq true (eqI (a0 + 1) (a0 + 1))) (bcase (dcq true (eqI (a0 + 1) (a0 + 1))) (bcase (dcq true (eqI (a0 + 1) (a0 + 1))) (ttP i (lfP z csI csW n i r [1] (zipA (bP4 (a0 + 1) 0 a0 a1 1 a4) kP_3_1) 2097269 2097267 [.int .i64 0] Kv)) False) False) False) False) False) False) False) False) False)) := by kernel_rfl
theorem tP_4_0 (z : T Blk) (csI csW : List AV) (n i r : Nat) (a0 : Int) (a1 : Int) (a2 : Int) (a3 : Int) (a4 : Int) (a5 : Int) (Kv : XE → Obs → Prop) : goP (hP z csI csW i (bP4 a0 a1 a2 a3 a4 a5)) n i r (.slc n0P 0 i i false 1) [0] dP_4_0 (obP csI csW i (zipA (bP5 (a0 + 1) 100 a0 a1 a4 101) kP_4_0) 2097266 2097264 [.int .i64 100] Kv) = (hdP (hP z csI csW i (bP4 a0 a1 a2 a3 a4 a5)) n i (ixP i) r [0] (bcase (inR .i64 (a0 + 1)) (bcase (dcq false (eqI a0 (a0 + 1))) (bcase (dcq false (eqI a0 (a0 + 1))) (bcase (dcq false (eqI 0 (a0 + 1))) (bcase (dcq false (eqI 0 (a0 + 1))) (bcase (dcq true (eqI (a0 + 1) (a0 + 1))) (bcase (dcq true (eqI (a0 + 1) (a0 + 1))) (bcase (dcq true (eqI (a0 + 1) (a0 + 1))) (bcase (dcq true (eqI (a0 + 1) (a0 + 1))) (ttP i (lfP z csI csW n i r [0] (zipA (bP5 (a0 + 1) 100 a0 a1 a4 101) kP_4_0) 2097266 2097264 [.int .i64 100] Kv)) False) False) False) False) False) False) False) False) False)) := by kernel_rfl
theorem tP_5_0 (z : T Blk) (csI csW : List AV) (n i r : Nat) (a0 : Int) (a1 : Int) (a2 : Int) (a3 : Int) (a4 : Int) (a5 : Int) (Kv : XE → Obs → Prop) : goP (hP z csI csW i (bP5 a0 a1 a2 a3 a4 a5)) n i r (.slc n0P 0 i i false 1) [0] dP_5_0 (obP csI csW i (zipA (bP5 (a0 + 1) a5 a2 a3 a4 (a5 + 1)) kP_5_0) 2097177 2097175 [.int .i64 a5] Kv) = (hdP (hP z csI csW i (bP5 a0 a1 a2 a3 a4 a5)) n i (ixP i) r [0] (bcase (inR .i64 (a0 + 1)) (bcase (dcq false (eqI a0 (a0 + 1))) (bcase (dcq false (eqI a0 (a0 + 1))) (bcase (dcq false (eqI a0 (a0 + 1))) (bcase (dcq false (eqI a0 (a0 + 1))) (bcase (dcq true (eqI (a0 + 1) (a0 + 1))) (bcase (dcq true (eqI (a0 + 1) (a0 + 1))) (bcase (dcq true (eqI (a0 + 1) (a0 + 1))) (bcase (inR .u8 a5) (bcase (inR .i64 a5) (bcase (dcq true (eqI a5 a5)) (bcase (inR .i64 (a5 + 1)) (bcase (inR .u8 (a5 + 1)) (bcase (inR .i64 (a5 + 1)) (bcase (dcq true (eqI (a0 + 1) (a0 + 1))) (ttP i (lfP z csI csW n i r [0] (zipA (bP5 (a0 + 1) a5 a2 a3 a4 (a5 + 1)) kP_5_0) 2097177 2097175 [.int .i64 a5] Kv)) False) False) False) False) False) False) False) False) False) False) False) False) False) False) False)) := by kernel_rfl
theorem tP_5_1 (z : T Blk) (csI csW : List AV) (n i r : Nat) (a0 : Int) (a1 : Int) (a2 : Int) (a3 : Int) (a4 : Int) (a5 : Int) (Kv : XE → Obs → Prop) : goP (hP z csI csW i (bP5 a0 a1 a2 a3 a4 a5)) n i r (.slc n0P 0 i i false 1) [1] dP_5_1 (obP csI csW i (zipA (bP6 (a0 + 1) a5 a2 a3 a4 (a5 + 1)) kP_5_1) 2097179 2097177 [.int .i64 a5] Kv) = (hdP (hP z csI csW i (bP5 a0 a1 a2 a3 a4 a5)) n i (ixP i) r [1] (bcase (inR .i64 (a0 + 1)) (bcase (dcq false (eqI a0 (a0 + 1))) (bcase (dcq false (eqI a0 (a0 + 1))) (bcase (dcq false (eqI a0 (a0 + 1))) (bcase (dcq false (eqI a0 (a0 + 1))) (bcase (dcq true (eqI (a0 + 1) (a0 + 1))) (bcase (dcq true (eqI (a0 + 1) (a0 + 1))) (bcase (dcq true (eqI (a0 + 1) (a0 + 1))) (bcase (inR .u8 a5) (bcase (inR .i64 a5) (bcase (dcq true (eqI a5 a5)) (bcase (inR .i64 (a5 + 1)) (bcase (inR .u8 (a5 + 1)) (bcase (inR .i64 (a5 + 1)) (bcase (dcq true (eqI (a0 + 1) (a0 + 1))) (ttP i (lfP z csI csW n i r [1] (zipA (bP6 (a0 + 1) a5 a2 a3 a4 (a5 + 1)) kP_5_1) 2097179 2097177 [.int .i64 a5] Kv)) False) False) False) False) False) False) False) False) False) False) False) False) False) False) False)) := by kernel_rfl
theorem tP_6_0 (z : T Blk) (csI csW : List AV) (n i r : Nat) (a0 : Int) (a1 : Int) (a2 : Int) (a3 : Int) (a4 : Int) (a5 : Int) (Kv : XE → Obs → Prop) : goP (hP z csI csW i (bP6 a0 a1 a2 a3 a4 a5)) n i r (.slc n0P 0 i i false 1) [0] dP_6_0 (obP csI csW i (zipA (bP7 (a0 + 1) 0 a0 a1 1 a5) kP_6_0) 2097266 2097264 [.int .i64 0] Kv) = (hdP (hP z csI csW i (bP6 a0 a1 a2 a3 a4 a5)) n i (ixP i) r [0] (bcase (inR .i64 (a0 + 1)) (bcase (dcq false (eqI a0 (a0 + 1))) (bcase (dcq false (eqI a0 (a0 + 1))) (bcase (dcq false (eqI 0 (a0 + 1))) (bcase (dcq false (eqI 0 (a0 + 1))) (bcase (dcq true (eqI (a0 + 1) (a0 + 1))) (bcase (dcq true (eqI (a0 + 1) (a0 + 1))) (bcase (dcq true (eqI (a0 + 1) (a0 + 1))) (bcase (dcq true (eqI (a0 + 1) (a0 + 1))) (ttP i (lfP z csI csW n i r [0] (zipA (bP7 (a0 + 1) 0 a0 a1 1 a5) kP_6_0) 2097266 2097264 [.int .i64 0] Kv)) False) False) False) False) False) False) False) False) False)) := by kernel_rfl
theorem tP_7_1 (z : T Blk) (csI csW : List AV) (n i r : Nat) (a0 : Int) (a1 : Int) (a2 : Int) (a3 : Int) (a4 : Int) (a5 : Int) (Kv : XE → Obs → Prop) : goP (hP z csI csW i (bP7 a0 a1 a2 a3 a4 a5)) n i r (.slc n0P 0 i i false 1) [1] dP_7_1 (obP csI csW i (zipA (bP4 (a0 + 1) a4 a2 a3 (a4 + 1) a5) kP_7_1) 2097180 2097178 [.int .i64 a4] Kv) = (hdP (hP z csI csW i (bP7 a0 a1 a2 a3 a4 a5)) n i (ixP i) r [1] (bcase (inR .i64 (a0 + 1)) (bcase (dcq false (eqI a0 (a0 + 1))) (bcase (dcq false (eqI a0 (a0 + 1))) (bcase (dcq false (eqI a0 (a0 + 1))) (bcase (dcq false (eqI a0 (a0 + 1))) (bcase (dcq true (eqI (a0 + 1) (a0 + 1))) (bcase (dcq true (eqI (a0 + 1) (a0 + 1))) (bcase (dcq true (eqI (a0 + 1) (a0 + 1))) (bcase (inR .u8 a4) (bcase (inR .i64 a4) (bcase (dcq true (eqI a4 a4)) (bcase (inR .i64 (a4 + 1)) (bcase (inR .u8 (a4 + 1)) (bcase (inR .i64 (a4 + 1)) (bcase (dcq true (eqI (a0 + 1) (a0 + 1))) (ttP i (lfP z csI csW n i r [1] (zipA (bP4 (a0 + 1) a4 a2 a3 (a4 + 1) a5) kP_7_1) 2097180 2097178 [.int .i64 a4] Kv)) False) False) False) False) False) False) False) False) False) False) False) False) False) False) False)) := by kernel_rfl
theorem tP_0_1 (z : T Blk) (csI csW : List AV) (n r : Nat) (Kv : XE → Obs → Prop) : goP (hfP z csI csW (bP0)) n 0 r .nils [1] dP_0_1 (obfP csI csW (zipA (bP2 1 0) kP_0_1) 1049493 1049491 [.int .i64 0] Kv) = (hdP (hfP z csI csW (bP0)) n 0 0 r [1] (lffP z csI csW n r [1] (zipA (bP2 1 0) kP_0_1) 1049493 1049491 [.int .i64 0] Kv)) := by kernel_rfl
theorem tP_2_0 (z : T Blk) (csI csW : List AV) (n i r : Nat) (a0 : Int) (a1 : Int) (Kv : XE → Obs → Prop) : goP (hP z csI csW i (bP2 a0 a1)) n i r (.slc n0P 0 i i false 1) [0] dP_2_0 (obP csI csW i (zipA (bP8 (a0 + 1) 100 a0 a1 101) kP_2_0) 2097266 2097264 [.int .i64 100] Kv) = (hdP (hP z csI csW i (bP2 a0 a1)) n i (ixP i) r [0] (bcase (inR .i64 (a0 + 1)) (bcase (dcq false (eqI a0 (a0 + 1))) (bcase (dcq false (eqI a0 (a0 + 1))) (bcase (dcq false (eqI 0 (a0 + 1))) (bcase (dcq false (eqI 0 (a0 + 1))) (bcase (dcq true (eqI (a0 + 1) (a0 + 1))) (bcase (dcq true (eqI (a0 + 1) (a0 + 1))) (bcase (dcq true (eqI (a0 + 1) (a0 + 1))) (bcase (dcq true (eqI (a0 + 1) (a0 + 1))) (ttP i (lfP z csI csW n i r [0] (zipA (bP8 (a0 + 1) 100 a0 a1 101) kP_2_0) 2097266 2097264 [.int .i64 100] Kv)) False) False) False) False) False) False) False) False) False)) := by kernel_rfl
theorem tP_8_1 (z : T Blk) (csI csW : List AV) (n i r : Nat) (a0 : Int) (a1 : Int) (a2 : Int) (a3 : Int) (a4 : Int) (Kv : XE → Obs → Prop) : goP (hP z csI csW i (bP8 a0 a1 a2 a3 a4)) n i r (.slc n0P 0 i i false 1) [1] dP_8_1 (obP csI csW i (zipA (bP3 (a0 + 1) a4 a2 a3 (a4 + 1)) kP_8_1) 2097179 2097177 [.int .i64 a4] Kv) = (hdP (hP z csI csW i (bP8 a0 a1 a2 a3 a4)) n i (ixP i) r [1] (bcase (inR .i64 (a0 + 1)) (bcase (dcq false (eqI a0 (a0 + 1))) (bcase (dcq false (eqI a0 (a0 + 1))) (bcase (dcq false (eqI a0 (a0 + 1))) (bcase (dcq false (eqI a0 (a0 + 1))) (bcase (dcq true (eqI (a0 + 1) (a0 + 1))) (bcase (dcq true (eqI (a0 + 1) (a0 + 1))) (bcase (dcq true (eqI (a0 + 1) (a0 + 1))) (bcase (inR .u8 a4) (bcase (inR .i64 a4) (bcase (dcq true (eqI a4 a4)) (bcase (inR .i64 (a4 + 1)) (bcase (inR .u8 (a4 + 1)) (bcase (inR .i64 (a4 + 1)) (bcase (dcq true (eqI (a0 + 1) (a0 + 1))) (ttP i (lfP z csI csW n i r [1] (zipA (bP3 (a0 + 1) a4 a2 a3 (a4 + 1)) kP_8_1) 2097179 2097177 [.int .i64 a4] Kv)) False) False) False) False) False) False) False) False) False) False) False) False) False) False) False)) := by kernel_rfl
theorem tP_6_1 (z : T Blk) (csI csW : List AV) (n i r : Nat) (a0 : Int) (a1 : Int) (a2 : Int) (a3 : Int) (a4 : Int) (a5 : Int) (Kv : XE → Obs → Prop) : goP (hP z csI csW i (bP6 a0 a1 a2 a3 a4 a5)) n i r (.slc n0P 0 i i false 1) [1] dP_6_1 (obP csI csW i (zipA (bP4 (a0 + 1) 0 a0 a1 1 a5) kP_6_1) 2097269 2097267 [.int .i64 0] Kv) = (hdP (hP z csI csW i (bP6 a0 a1 a2 a3 a4 a5)) n i (ixP i) r [1] (bcase (inR .i64 (a0 + 1)) (bcase (dcq false (eqI a0 (a0 + 1))) (bcase (dcq false (eqI a0 (a0 + 1))) (bcase (dcq false (eqI 0 (a0 + 1))) (bcase (dcq false (eqI 0 (a0 + 1))) (bcase (dcq true (eqI (a0 + 1) (a0 + 1))) (bcase (dcq true (eqI (a0 + 1) (a0 + 1))) (bcase (dcq true (eqI (a0 + 1) (a0 + 1))) (bcase (dcq true (eqI (a0 + 1) (a0 + 1))) (ttP i (lfP z csI csW n i r [1] (zipA (bP4 (a0 + 1) 0 a0 a1 1 a5) kP_6_1) 2097269 2097267 [.int .i64 0] Kv)) False) False) False) False) False) False) False) False) False)) := by kernel_rfl
theorem tP_4_1 (z : T Blk) (csI csW : List AV) (n i r : Nat) (a0 : Int) (a1 : Int) (a2 : Int) (a3 : Int) (a4 : Int) (a5 : Int) (Kv : XE → Obs → Prop) : goP (hP z csI csW i (bP4 a0 a1 a2 a3 a4 a5)) n i r (.slc n0P 0 i i false 1) [1] dP_4_1 (obP csI csW i (zipA (bP6 (a0 + 1) 100 a0 a1 a4 101) kP_4_1) 2097268 2097266 [.int .i64 100] Kv) = (hdP (hP z csI csW i (bP4 a0 a1 a2 a3 a4 a5)) n i (ixP i) r [1] (bcase (inR .i64 (a0 + 1)) (bcase (dcq false (eqI a0 (a0 + 1))) (bcase (dcq false (eqI a0 (a0 + 1))) (bcase (dcq false (eqI 0 (a0 + 1))) (bcase (dcq false (eqI 0 (a0 + 1))) (bcase (dcq true (eqI (a0 + 1) (a0 + 1))) (bcase (dcq true (eqI (a0 + 1) (a0 + 1))) (bcase (dcq true (eqI (a0 + 1) (a0 + 1))) (bcase (dcq true (eqI (a0 + 1) (a0 + 1))) (ttP i (lfP z csI csW n i r [1] (zipA (bP6 (a0 + 1) 100 a0 a1 a4 101) kP_4_1) 2097268 2097266 [.int .i64 100] Kv)) False) False) False) False) False) False) False) False) False)) := by kernel_rfl
theorem tP_7_0 (z : T Blk) (csI csW : List AV) (n i r : Nat) (a0 : Int) (a1 : Int) (a2 : Int) (a3 : Int) (a4 : Int) (a5 : Int) (Kv : XE → Obs → Prop) : goP (hP z csI csW i (bP7 a0 a1 a2 a3 a4 a5)) n i r (.slc n0P 0 i i false 1) [0] dP_7_0 (obP csI csW i (zipA (bP7 (a0 + 1) a4 a2 a3 (a4 + 1) a5) kP_7_0) 2097177 2097175 [.int .i64 a4] Kv) = (hdP (hP z csI csW i (bP7 a0 a1 a2 a3 a4 a5)) n i (ixP i) r [0] (bcase (inR .i64 (a0 + 1)) (bcase (dcq false (eqI a0 (a0 + 1))) (bcase (dcq false (eqI a0 (a0 + 1))) (bcase (dcq false (eqI a0 (a0 + 1))) (bcase (dcq false (eqI a0 (a0 + 1))) (bcase (dcq true (eqI (a0 + 1) (a0 + 1))) (bcase (dcq true (eqI (a0 + 1) (a0 + 1))) (bcase (dcq true (eqI (a0 + 1) (a0 + 1))) (bcase (inR .u8 a4) (bcase (inR .i64 a4) (bcase (dcq true (eqI a4 a4)) (bcase (inR .i64 (a4 + 1)) (bcase (inR .u8 (a4 + 1)) (bcase (inR .i64 (a4 + 1)) (bcase (dcq true (eqI (a0 + 1) (a0 + 1))) (ttP i (lfP z csI csW n i r [0] (zipA (bP7 (a0 + 1) a4 a2 a3 (a4 + 1) a5) kP_7_0) 2097177 2097175 [.int .i64 a4] Kv)) False) False) False) False) False) False) False) False) False) False) False) False) False) False) False)) := by kernel_rfl
theorem tP_8_0 (z : T Blk) (csI csW : List AV) (n i r : Nat) (a0 : Int) (a1 : Int) (a2 : Int) (a3 : Int) (a4 : Int) (Kv : XE → Obs → Prop) : goP (hP z csI csW i (bP8 a0 a1 a2 a3 a4)) n i r (.slc n0P 0 i i false 1) [0] dP_8_0 (obP csI csW i (zipA (bP8 (a0 + 1) a4 a2 a3 (a4 + 1)) kP_8_0) 2097177 2097175 [.int .i64 a4] Kv) = (hdP (hP z csI csW i (bP8 a0 a1 a2 a3 a4)) n i (ixP i) r [0] (bcase (inR .i64 (a0 + 1)) (bcase (dcq false (eqI a0 (a0 + 1))) (bcase (dcq false (eqI a0 (a0 + 1))) (bcase (dcq false (eqI a0 (a0 + 1))) (bcase (dcq false (eqI a0 (a0 + 1))) (bcase (dcq true (eqI (a0 + 1) (a0 + 1))) (bcase (dcq true (eqI (a0 + 1) (a0 + 1))) (bcase (dcq true (eqI (a0 + 1) (a0 + 1))) (bcase (inR .u8 a4) (bcase (inR .i64 a4) (bcase (dcq true (eqI a4 a4)) (bcase (inR .i64 (a4 + 1)) (bcase (inR .u8 (a4 + 1)) (bcase (inR .i64 (a4 + 1)) (bcase (dcq true (eqI (a0 + 1) (a0 + 1))) (ttP i (lfP z csI csW n i r [0] (zipA (bP8 (a0 + 1) a4 a2 a3 (a4 + 1)) kP_8_0) 2097177 2097175 [.int .i64 a4] Kv)) False) False) False) False) False) False) False) False) False) False) False) False) False) False) False)) := by kernel_rfl
theorem tP_3_0 (z : T Blk) (csI csW : List AV) (n i r : Nat) (a0 : Int) (a1 : Int) (a2 : Int) (a3 : Int) (a4 : Int) (Kv : XE → Obs → Prop) : goP (hP z csI csW i (bP3 a0 a1 a2 a3 a4)) n i r (.slc n0P 0 i i false 1) [0] dP_3_0 (obP csI csW i (zipA (bP7 (a0 + 1) 0 a0 a1 1 a4) kP_3_0) 2097266 2097264 [.int .i64 0] Kv) = (hdP (hP z csI csW i (bP3 a0 a1 a2 a3 a4)) n i (ixP i) r [0] (bcase (inR .i64 (a0 + 1)) (bcase (dcq false (eqI a0 (a0 + 1))) (bcase (dcq false (eqI a0 (a0 + 1))) (bcase (dcq false (eqI 0 (a0 + 1))) (bcase (dcq false (eqI 0 (a0 + 1))) (bcase (dcq true (eqI (a0 + 1) (a0 + 1))) (bcase (dcq true (eqI (a0 + 1) (a0 + 1))) (bcase (dcq true (eqI (a0 + 1) (a0 + 1))) (bcase (dcq true (eqI (a0 + 1) (a0 + 1))) (ttP i (lfP z csI csW n i r [0] (zipA (bP7 (a0 + 1) 0 a0 a1 1 a4) kP_3_0) 2097266 2097264 [.int .i64 0] Kv)) False) False) False) False) False) False) False) False) False)) := by kernel_rfl
theorem xP_1 (z : T Blk) (csI csW : List AV) (n i : Nat) (g : Nat → CV) (a0 : Int) (a1 : Int) (Kv : XE → Obs → Prop) : xcode C1 Tryz.prog F 14 (loopC Tryz.prog 14 22) (mask 14) (tmpsN Tryz.prog 14) (mkE (eP n g (.slc n0P 0 i i false 1) i)) ⟨mkB z (lapp (rrP (zrows 300 1 i) csI csW) (bP1 a0 a1)), 2097152⟩ [false] (fun x env h _ => Kv x (obs [6, 7, 17] (actsOf (lapp [(n0P, n0P, .row (zrows 300 1 i) 22 true []), (30, 30, .row csI 22 true []), (31, 31, .row csW 22 true [])] []) []) (lapp [(n0P, n0P, .row (zrows 300 1 i) 22 true []), (30, 30, .row csI 22 true []), (31, 31, .row csW 22 true [])] []) [] env h)) = (bcase (dcq false (ltI (Int.ofNat i) (Int.ofNat n))) (Kv (.ext 2) (expsR n0P (kpOf z) [(6, .nils), (7, .int .i64 (Int.ofNat 0)), (17, .slc n0P 0 i i false 1)] [(n0P, n0P, .row (zrows 300 1 i) 22 true []), (30, 30, .row csI 22 true []), (31, 31, .row csW 22 true [])] [] [] z [(some (.row (zrows 300 1 i) 22 true []), true), (some (.row csI 22 true []), true), (some (.row csW 22 true []), true)])) False) := by kernel_rfl
theorem xP_2 (z : T Blk) (csI csW : List AV) (n i : Nat) (g : Nat → CV) (a0 : Int) (a1 : Int) (Kv : XE → Obs → Prop) : xcode C1 Tryz.prog F 14 (loopC Tryz.prog 14 22) (mask 14) (tmpsN Tryz.prog 14) (mkE (eP n g (.slc n0P 0 i i false 1) i)) ⟨mkB z (lapp (rrP (zrows 300 1 i) csI csW) (bP2 a0 a1)), 2097152⟩ [false] (fun x env h _ => Kv x (obs [6, 7, 17] (actsOf (lapp [(n0P, n0P, .row (zrows 300 1 i) 22 true []), (30, 30, .row csI 22 true []), (31, 31, .row csW 22 true [])] []) []) (lapp [(n0P, n0P, .row (zrows 300 1 i) 22 true []), (30, 30, .row csI 22 true []), (31, 31, .row csW 22 true [])] []) [] env h)) = (bcase (dcq false (ltI (Int.ofNat i) (Int.ofNat n))) (Kv (.ext 2) (expsR n0P (kpOf z) [(6, .nils), (7, .int .i64 (Int.ofNat 0)), (17, .slc n0P 0 i i false 1)] [(n0P, n0P, .row (zrows 300 1 i) 22 true []), (30, 30, .row csI 22 true []), (31, 31, .row csW 22 true [])] [] [] z [(some (.row (zrows 300 1 i) 22 true []), true), (some (.row csI 22 true []), true), (some (.row csW 22 true []), true)])) False) := by kernel_rfl
theorem xP_3 (z : T Blk) (csI csW : List AV) (n i : Nat) (g : Nat → CV) (a0 : Int) (a1 : Int) (a2 : Int) (a3 : Int) (a4 : Int) (Kv : XE → Obs → Prop) : xcode C1 Tryz.prog F 14 (loopC Tryz.prog 14 22) (mask 14) (tmpsN Tryz.prog 14) (mkE (eP n g (.slc n0P 0 i i false 1) i)) ⟨mkB z (lapp (rrP (zrows 300 1 i) csI csW) (bP3 a0 a1 a2 a3 a4)), 2097152⟩ [false] (fun x env h _ => Kv x (obs [6, 7, 17] (actsOf (lapp [(n0P, n0P, .row (zrows 300 1 i) 22 true []), (30, 30, .row csI 22 true []), (31, 31, .row csW 22 true [])] []) []) (lapp [(n0P, n0P, .row (zrows 300 1 i) 22 true []), (30, 30, .row csI 22 true []), (31, 31, .row csW 22 true [])] []) [] env h)) = (bcase (dcq false (ltI (Int.ofNat i) (Int.ofNat n))) (Kv (.ext 2) (expsR n0P (kpOf z) [(6, .nils), (7, .int .i64 (Int.ofNat 0)), (17, .slc n0P 0 i i false 1)] [(n0P, n0P, .row (zrows 300 1 i) 22 true []), (30, 30, .row csI 22 true []), (31, 31, .row csW 22 true [])] [] [] z [(some (.row (zrows 300 1 i) 22 true []), true), (some (.row csI 22 true []), true), (some (.row csW 22 true []), true)])) False) := by kernel_rfl
theorem xP_4 (z : T Blk) (csI csW : List AV) (n i : Nat) (g : Nat → CV) (a0 : Int) (a1 : Int) (a2 : Int) (a3 : Int) (a4 : Int) (a5 : Int) (Kv : XE → Obs → Prop) : xcode C1 Tryz.prog F 14 (loopC Tryz.prog 14 22) (mask 14) (tmpsN Tryz.prog 14) (mkE (eP n g (.slc n0P 0 i i false 1) i)) ⟨mkB z (lapp (rrP (zrows 300 1 i) csI csW) (bP4 a0 a1 a2 a3 a4 a5)), 2097152⟩ [false] (fun x env h _ => Kv x (obs [6, 7, 17] (actsOf (lapp [(n0P, n0P, .row (zrows 300 1 i) 22 true []), (30, 30, .row csI 22 true []), (31, 31, .row csW 22 true [])] []) []) (lapp [(n0P, n0P, .row (zrows 300 1 i) 22 true []), (30, 30, .row csI 22 true []), (31, 31, .row csW 22 true [])] []) [] env h)) = (bcase (dcq false (ltI (Int.ofNat i) (Int.ofNat n))) (Kv (.ext 2) (expsR n0P (kpOf z) [(6, .nils), (7, .int .i64 (Int.ofNat 0)), (17, .slc n0P 0 i i false 1)] [(n0P, n0P, .row (zrows 300 1 i) 22 true []), (30, 30, .row csI 22 true []), (31, 31, .row csW 22 true [])] [] [] z [(some (.row (zrows 300 1 i) 22 true []), true), (some (.row csI 22 true []), true), (some (.row csW 22 true []), true)])) False) := by kernel_rfl
theorem xP_5 (z : T Blk) (csI csW : List AV) (n i : Nat) (g : Nat → CV) (a0 : Int) (a1 : Int) (a2 : Int) (a3 : Int) (a4 : Int) (a5 : Int) (Kv : XE → Obs → Prop) : xcode C1 Tryz.prog F 14 (loopC Tryz.prog 14 22) (mask 14) (tmpsN Tryz.prog 14) (mkE (eP n g (.slc n0P 0 i i false 1) i)) ⟨mkB z (lapp (rrP (zrows 300 1 i) csI csW) (bP5 a0 a1 a2 a3 a4 a5)), 2097152⟩ [false] (fun x env h _ => Kv x (obs [6, 7, 17] (actsOf (lapp [(n0P, n0P, .row (zrows 300 1 i) 22 true []), (30, 30, .row csI 22 true []), (31, 31, .row csW 22 true [])] []) []) (lapp [(n0P, n0P, .row (zrows 300 1 i) 22 true []), (30, 30, .row csI 22 true []), (31, 31, .row csW 22 true [])] []) [] env h)) = (bcase (dcq false (ltI (Int.ofNat i) (Int.ofNat n))) (Kv (.ext 2) (expsR n0P (kpOf z) [(6, .nils), (7, .int .i64 (Int.ofNat 0)), (17, .slc n0P 0 i i false 1)] [(n0P, n0P, .row (zrows 300 1 i) 22 true []), (30, 30, .row csI 22 true []), (31, 31, .row csW 22 true [])] [] [] z [(some (.row (zrows 300 1 i) 22 true []), true), (some (.row csI 22 true []), true), (some (.row csW 22 true []), true)])) False) := by kernel_rfl
theorem xP_6 (z : T Blk) (csI csW : List AV) (n i : Nat) (g : Nat → CV) (a0 : Int) (a1 : Int) (a2 : Int) (a3 : Int) (a4 : Int) (a5 : Int) (Kv : XE → Obs → Prop) : xcode C1 Tryz.prog F 14 (loopC Tryz.prog 14 22) (mask 14) (tmpsN Tryz.prog 14) (mkE (eP n g (.slc n0P 0 i i false 1) i)) ⟨mkB z (lapp (rrP (zrows 300 1 i) csI csW) (bP6 a0 a1 a2 a3 a4 a5)), 2097152⟩ [false] (fun x env h _ => Kv x (obs [6, 7, 17] (actsOf (lapp [(n0P, n0P, .row (zrows 300 1 i) 22 true []), (30, 30, .row csI 22 true []), (31, 31, .row csW 22 true [])] []) []) (lapp [(n0P, n0P, .row (zrows 300 1 i) 22 true []), (30, 30, .row csI 22 true []), (31, 31, .row csW 22 true [])] []) [] env h)) = (bcase (dcq false (ltI (Int.ofNat i) (Int.ofNat n))) (Kv (.ext 2) (expsR n0P (kpOf z) [(6, .nils), (7, .int .i64 (Int.ofNat 0)), (17, .slc n0P 0 i i false 1)] [(n0P, n0P, .row (zrows 300 1 i) 22 true []), (30, 30, .row csI 22 true []), (31, 31, .row csW 22 true [])] [] [] z [(some (.row (zrows 300 1 i) 22 true []), true), (some (.row csI 22 true []), true), (some (.row csW 22 true []), true)])) False) := by kernel_rfl
theorem xP_7 (z : T Blk) (csI csW : List AV) (n i : Nat) (g : Nat → CV) (a0 : Int) (a1 : Int) (a2 : Int) (a3 : Int) (a4 : Int) (a5 : Int) (Kv : XE → Obs → Prop) : xcode C1 Tryz.prog F 14 (loopC Tryz.prog 14 22) (mask 14) (tmpsN Tryz.prog 14) (mkE (eP n g (.slc n0P 0 i i false 1) i)) ⟨mkB z (lapp (rrP (zrows 300 1 i) csI csW) (bP7 a0 a1 a2 a3 a4 a5)), 2097152⟩ [false] (fun x env h _ => Kv x (obs [6, 7, 17] (actsOf (lapp [(n0P, n0P, .row (zrows 300 1 i) 22 true []), (30, 30, .row csI 22 true []), (31, 31, .row csW 22 true [])] []) []) (lapp [(n0P, n0P, .row (zrows 300 1 i) 22 true []), (30, 30, .row csI 22 true []), (31, 31, .row csW 22 true [])] []) [] env h)) = (bcase (dcq false (ltI (Int.ofNat i) (Int.ofNat n))) (Kv (.ext 2) (expsR n0P (kpOf z) [(6, .nils), (7, .int .i64 (Int.ofNat 0)), (17, .slc n0P 0 i i false 1)] [(n0P, n0P, .row (zrows 300 1 i) 22 true []), (30, 30, .row csI 22 true []), (31, 31, .row csW 22 true [])] [] [] z [(some (.row (zrows 300 1 i) 22 true []), true), (some (.row csI 22 true []), true), (some (.row csW 22 true []), true)])) False) := by kernel_rfl
theorem xP_8 (z : T Blk) (csI csW : List AV) (n i : Nat) (g : Nat → CV) (a0 : Int) (a1 : Int) (a2 : Int) (a3 : Int) (a4 : Int) (Kv : XE → Obs → Prop) : xcode C1 Tryz.prog F 14 (loopC Tryz.prog 14 22) (mask 14) (tmpsN Tryz.prog 14) (mkE (eP n g (.slc n0P 0 i i false 1) i)) ⟨mkB z (lapp (rrP (zrows 300 1 i) csI csW) (bP8 a0 a1 a2 a3 a4)), 2097152⟩ [false] (fun x env h _ => Kv x (obs [6, 7, 17] (actsOf (lapp [(n0P, n0P, .row (zrows 300 1 i) 22 true []), (30, 30, .row csI 22 true []), (31, 31, .row csW 22 true [])] []) []) (lapp [(n0P, n0P, .row (zrows 300 1 i) 22 true []), (30, 30, .row csI 22 true []), (31, 31, .row csW 22 true [])] []) [] env h)) = (bcase (dcq false (ltI (Int.ofNat i) (Int.ofNat n))) (Kv (.ext 2) (expsR n0P (kpOf z) [(6, .nils), (7, .int .i64 (Int.ofNat 0)), (17, .slc n0P 0 i i false 1)] [(n0P, n0P, .row (zrows 300 1 i) 22 true []), (30, 30, .row csI 22 true []), (31, 31, .row csW 22 true [])] [] [] z [(some (.row (zrows 300 1 i) 22 true []), true), (some (.row csI 22 true []), true), (some (.row csW 22 true []), true)])) False) := by kernel_rfl
end
end Go.Proofs.YtkfhjobebhdpoaaGreat
/- Stream: what the rounds of Run's loop do. -/
set_option autoImplicit false
set_option maxRecDepth 1000000
set_option maxHeartbeats 2000000
set_option linter.unusedVariables false
namespace Go.Proofs.YtkfhjobebhdpoaaGreat
noncomputable section
open Go.X
/-- in which state it is at the beginning of a tick, and what the counters are -/
def nxP (b : Bool) (s : Int × Int × Int) : Int × Int × Int := Bool.rec (if s.1 = 0 then (0, (s.2.1 + 1), s.2.2) else (1, s.2.1, (s.2.2 + 1))) (if s.1 = 0 then (1, (s.2.1 + 1), 100) else (0, 0, (s.2.2 + 1))) b
def vlP (b : Bool) (s : Int × Int × Int) : Int := Bool.rec (if s.1 = 0 then s.2.1 else s.2.2) (if s.1 = 0 then s.2.1 else s.2.2) b
def st3P (l : Nat → Bool) : Nat → Int × Int × Int := fun i => Nat.rec (0, 0, 100) (fun j ih => nxP (l j) ih) i
def nowP (l : Nat → Bool) (i : Nat) : Int := (st3P l i).1
def uP (l : Nat → Bool) (i : Nat) : Int := (st3P l i).2.1
def vP (l : Nat → Bool) (i : Nat) : Int := (st3P l i).2.2
def valP (l : Nat → Bool) (j : Nat) : Int := vlP (l j) (st3P l j)
theorem stepP_false {l : Nat → Bool} {i : Nat} (h : l i = false) : (nowP l i = 0 → nowP l (i + 1) = 0 ∧ uP l (i + 1) = (uP l i + 1) ∧ vP l (i + 1) = vP l i ∧ valP l i = uP l i) ∧ (nowP l i ≠ 0 → nowP l (i + 1) = 1 ∧ uP l (i + 1) = uP l i ∧ vP l (i + 1) = (vP l i + 1) ∧ valP l i = vP l i) := by
  have e : st3P l (i + 1) = nxP (l i) (st3P l i) := rfl
  unfold nowP uP vP valP
  rw [e, h]
  refine ⟨fun k => ?_, fun k => ?_⟩
  · have e1 : nxP false (st3P l i) = _ := if_pos k
    have e2 : vlP false (st3P l i) = _ := if_pos k
    rw [e1, e2]; exact ⟨rfl, rfl, rfl, rfl⟩
  · have e1 : nxP false (st3P l i) = _ := if_neg k
    have e2 : vlP false (st3P l i) = _ := if_neg k
    rw [e1, e2]; exact ⟨rfl, rfl, rfl, rfl⟩
theorem stepP_true {l : Nat → Bool} {i : Nat} (h : l i = true) : (nowP l i = 0 → nowP l (i + 1) = 1 ∧ uP l (i + 1) = (uP l i + 1) ∧ vP l (i + 1) = 100 ∧ valP l i = uP l i) ∧ (nowP l i ≠ 0 → nowP l (i + 1) = 0 ∧ uP l (i + 1) = 0 ∧ vP l (i + 1) = (vP l i + 1) ∧ valP l i = vP l i) := by
  have e : st3P l (i + 1) = nxP (l i) (st3P l i) := rfl
  unfold nowP uP vP valP
  rw [e, h]
  refine ⟨fun k => ?_, fun k => ?_⟩
  · have e1 : nxP true (st3P l i) = _ := if_pos k
    have e2 : vlP true (st3P l i) = _ := if_pos k
    rw [e1, e2]; exact ⟨rfl, rfl, rfl, rfl⟩
  · have e1 : nxP true (st3P l i) = _ := if_neg k
    have e2 : vlP true (st3P l i) = _ := if_neg k
    rw [e1, e2]; exact ⟨rfl, rfl, rfl, rfl⟩
theorem stepP_false0 {l : Nat → Bool} (h : l 0 = false) : (nowP l 0 = 0 → nowP l 1 = 0 ∧ uP l 1 = (uP l 0 + 1) ∧ vP l 1 = vP l 0 ∧ valP l 0 = uP l 0) ∧ (nowP l 0 ≠ 0 → nowP l 1 = 1 ∧ uP l 1 = uP l 0 ∧ vP l 1 = (vP l 0 + 1) ∧ valP l 0 = vP l 0) := stepP_false h
theorem stepP_true0 {l : Nat → Bool} (h : l 0 = true) : (nowP l 0 = 0 → nowP l 1 = 1 ∧ uP l 1 = (uP l 0 + 1) ∧ vP l 1 = 100 ∧ valP l 0 = uP l 0) ∧ (nowP l 0 ≠ 0 → nowP l 1 = 0 ∧ uP l 1 = 0 ∧ vP l 1 = (vP l 0 + 1) ∧ valP l 0 = vP l 0) := stepP_true h
theorem leP (l : Nat → Bool) : ∀ i : Nat, (nowP l i = 0 ∨ nowP l i = 1) ∧ 0 ≤ uP l i ∧ uP l i ≤ i ∧ 100 ≤ vP l i ∧ vP l i ≤ 100 + i
  | 0 => ⟨.inl rfl, Int.le_refl _, Int.le_refl _, Int.le_refl _, Int.le_refl _⟩
  | i + 1 => by
    have ih := leP l i
    cases h : l i with
    | true => have := stepP_true h; omega
    | false => have := stepP_false h; omega
def inRowP (l : Nat → Bool) (j : Nat) : Blk := .row [.int .i64 (bi (l j))] 3 true []
def outP (l : Nat → Bool) (j : Nat) : Blk := rowP [.int .i64 (valP l j)]
theorem outP_int (l : Nat → Bool) (j : Nat) : IntRow (outP l j) := ⟨[valP l j], 3, true, rfl⟩
/-- the zone that holds the rows of the inputs and those that are wanted -/
structure ZinP (l : Nat → Bool) (n : Nat) (z : T Blk) : Prop where
  ins : ∀ j, j < n → z.get j = some (inRowP l j)
  want : ∀ j, j < n → z.get (100 + j) = some (outP l j)
  only : ∀ x k, z.get x = some k → x < 200 ∧ IntRow k
theorem blksP0 : blksN n0P (bP0) = true := by kernel_rfl
theorem getP0 (z : T Blk) (csI csW : List AV) : T.get (mkB z (lapp (rr0P csI csW) bP0)) 30 = some (.row csI 22 true []) := by kernel_rfl
theorem zgP0 (z : T Blk) (csI csW : List AV) : zget (mkB z (lapp (rr0P csI csW) bP0)) 12 = z := by kernel_rfl
theorem getP1 (z : T Blk) (cs csI csW : List AV) (a0 : Int) (a1 : Int) : T.get (mkB z (lapp (rrP cs csI csW) (bP1 a0 a1))) 30 = some (.row csI 22 true []) := by kernel_rfl
theorem zgP1 (z : T Blk) (cs csI csW : List AV) (a0 : Int) (a1 : Int) : zget (mkB z (lapp (rrP cs csI csW) (bP1 a0 a1))) 12 = z := by kernel_rfl
theorem getP2 (z : T Blk) (cs csI csW : List AV) (a0 : Int) (a1 : Int) : T.get (mkB z (lapp (rrP cs csI csW) (bP2 a0 a1))) 30 = some (.row csI 22 true []) := by kernel_rfl
theorem zgP2 (z : T Blk) (cs csI csW : List AV) (a0 : Int) (a1 : Int) : zget (mkB z (lapp (rrP cs csI csW) (bP2 a0 a1))) 12 = z := by kernel_rfl
theorem getP3 (z : T Blk) (cs csI csW : List AV) (a0 : Int) (a1 : Int) (a2 : Int) (a3 : Int) (a4 : Int) : T.get (mkB z (lapp (rrP cs csI csW) (bP3 a0 a1 a2 a3 a4))) 30 = some (.row csI 22 true []) := by kernel_rfl
theorem zgP3 (z : T Blk) (cs csI csW : List AV) (a0 : Int) (a1 : Int) (a2 : Int) (a3 : Int) (a4 : Int) : zget (mkB z (lapp (rrP cs csI csW) (bP3 a0 a1 a2 a3 a4))) 12 = z := by kernel_rfl
theorem getP4 (z : T Blk) (cs csI csW : List AV) (a0 : Int) (a1 : Int) (a2 : Int) (a3 : Int) (a4 : Int) (a5 : Int) : T.get (mkB z (lapp (rrP cs csI csW) (bP4 a0 a1 a2 a3 a4 a5))) 30 = some (.row csI 22 true []) := by kernel_rfl
theorem zgP4 (z : T Blk) (cs csI csW : List AV) (a0 : Int) (a1 : Int) (a2 : Int) (a3 : Int) (a4 : Int) (a5 : Int) : zget (mkB z (lapp (rrP cs csI csW) (bP4 a0 a1 a2 a3 a4 a5))) 12 = z := by kernel_rfl
theorem getP5 (z : T Blk) (cs csI csW : List AV) (a0 : Int) (a1 : Int) (a2 : Int) (a3 : Int) (a4 : Int) (a5 : Int) : T.get (mkB z (lapp (rrP cs csI csW) (bP5 a0 a1 a2 a3 a4 a5))) 30 = some (.row csI 22 true []) := by kernel_rfl
theorem zgP5 (z : T Blk) (cs csI csW : List AV) (a0 : Int) (a1 : Int) (a2 : Int) (a3 : Int) (a4 : Int) (a5 : Int) : zget (mkB z (lapp (rrP cs csI csW) (bP5 a0 a1 a2 a3 a4 a5))) 12 = z := by kernel_rfl
theorem getP6 (z : T Blk) (cs csI csW : List AV) (a0 : Int) (a1 : Int) (a2 : Int) (a3 : Int) (a4 : Int) (a5 : Int) : T.get (mkB z (lapp (rrP cs csI csW) (bP6 a0 a1 a2 a3 a4 a5))) 30 = some (.row csI 22 true []) := by kernel_rfl
theorem zgP6 (z : T Blk) (cs csI csW : List AV) (a0 : Int) (a1 : Int) (a2 : Int) (a3 : Int) (a4 : Int) (a5 : Int) : zget (mkB z (lapp (rrP cs csI csW) (bP6 a0 a1 a2 a3 a4 a5))) 12 = z := by kernel_rfl
theorem getP7 (z : T Blk) (cs csI csW : List AV) (a0 : Int) (a1 : Int) (a2 : Int) (a3 : Int) (a4 : Int) (a5 : Int) : T.get (mkB z (lapp (rrP cs csI csW) (bP7 a0 a1 a2 a3 a4 a5))) 30 = some (.row csI 22 true []) := by kernel_rfl
theorem zgP7 (z : T Blk) (cs csI csW : List AV) (a0 : Int) (a1 : Int) (a2 : Int) (a3 : Int) (a4 : Int) (a5 : Int) : zget (mkB z (lapp (rrP cs csI csW) (bP7 a0 a1 a2 a3 a4 a5))) 12 = z := by kernel_rfl
theorem getP8 (z : T Blk) (cs csI csW : List AV) (a0 : Int) (a1 : Int) (a2 : Int) (a3 : Int) (a4 : Int) : T.get (mkB z (lapp (rrP cs csI csW) (bP8 a0 a1 a2 a3 a4))) 30 = some (.row csI 22 true []) := by kernel_rfl
theorem zgP8 (z : T Blk) (cs csI csW : List AV) (a0 : Int) (a1 : Int) (a2 : Int) (a3 : Int) (a4 : Int) : zget (mkB z (lapp (rrP cs csI csW) (bP8 a0 a1 a2 a3 a4))) 12 = z := by kernel_rfl
/-- the zone as far as round i -/
def zoP (l : Nat → Bool) (z : T Blk) (i : Nat) : T Blk := zgrow z 300 (outP l) i
theorem zoP_ok {l : Nat → Bool} {n : Nat} {z : T Blk} (Zs : ZinP l n z) {i : Nat} (hi : i ≤ 60) : ZoneOK (zoP l z i) 2097152 := by
  refine zgrow_ok (fun x k h => ?_) fun j hj => ⟨outP_int l j, by rw [zn_eq]; omega, by rw [zn_eq]; show _ < 1000000000000; omega⟩
  obtain ⟨a, b⟩ := Zs.only x k h
  exact ⟨b, by rw [zn_eq]; omega, by rw [zn_eq]; show _ < 1000000000000; omega⟩
theorem zoP_low {l : Nat → Bool} {z : T Blk} {i x : Nat} (hx : x < 300) : (zoP l z i).get x = z.get x := zgrow_old (.inl hx)
theorem belP_I {n : Nat} (hn : n ≤ 60) : belL 2097152 (zrowsT 0 1 n) = true := belL_slc _ _ _ _ _ fun j hj => by have := List.mem_range.1 hj; rw [zn_eq]; omega
theorem belP_W {n : Nat} (hn : n ≤ 60) : belL 2097152 (zrowsT 100 1 n) = true := belL_slc _ _ _ _ _ fun j hj => by have := List.mem_range.1 hj; rw [zn_eq]; omega
theorem belP_O {i : Nat} (hi : i ≤ 60) : belL 2097152 (zrows 300 1 i) = true := belL_slc _ _ _ _ _ fun j hj => by have := List.mem_range.1 hj; rw [zn_eq]; omega
/-- the state that shape B makes at round i -/
def stP (l : Nat → Bool) (n : Nat) (z : T Blk) (i : Nat) (g : Nat → CV) (B : List (Nat × Blk)) : ZS := ⟨eP n g (.slc n0P 0 i i false 1) i, lapp (rrP (zrows 300 1 i) (zrowsT 0 1 n) (zrowsT 100 1 n)) B, zoP l z i, 2097152⟩
def finP (l : Nat → Bool) (n : Nat) (z : T Blk) : ZS := ⟨[(6, .nils), (7, .int .i64 (Int.ofNat 0)), (17, .slc n0P 0 n n false 1)], rrP (zrows 300 1 n) (zrowsT 0 1 n) (zrowsT 100 1 n), zoP l z n, 2097152⟩
theorem keepIP {l : Nat → Bool} {n : Nat} {z : T Blk} (Zs : ZinP l n z) (hn : n ≤ 60) {i : Nat} {A Zn : List (Nat × Nat × Blk)} (hA : okLit n0P 2097152 A = true) (hZ : ∀ p ∈ Zn, 300 ≤ p.1) :
    renL (szs n0P (namesOf A Zn) (kpOf (zoP l z i))) (zrowsT 0 1 n) = (zrowsT 0 1 n) ∧ renL (szs n0P (namesOf A Zn) (kpOf (zoP l z i))) (zrowsT 100 1 n) = (zrowsT 100 1 n) := by
  constructor
  · unfold zrowsT
    rw [renL_slc]
    refine List.map_congr_left fun j hj => ?_
    have hj := List.mem_range.1 hj
    rw [szs_zone hA (k := inRowP l j) (by rw [zoP_low (by omega), Nat.zero_add]; exact Zs.ins j hj) (fun p hp e => by have := hZ p hp; omega)]
  · unfold zrowsT
    rw [renL_slc]
    refine List.map_congr_left fun j hj => ?_
    have hj := List.mem_range.1 hj
    rw [szs_zone hA (k := outP l j) (by rw [zoP_low (by omega)]; exact Zs.want j hj) (fun p hp e => by have := hZ p hp; omega)]
def usefTP (l : Nat → Bool) (n : Nat) (z : T Blk) (b : List Int) (d : List Bool) (B B2 : List (Nat × Blk)) : Prop :=
  cIP (hfP z (zrowsT 0 1 n) (zrowsT 100 1 n) B) 0 (zn 0) b → cRP (hfP z (zrowsT 0 1 n) (zrowsT 100 1 n) B) (zn 0) b → ∀ {K : KE}, (∀ env h ds σ, Abs n0P σ (stP l n z 1 (ggP (zn 0) b) B2).env (stP l n z 1 (ggP (zn 0) b) B2).h env h → K .nrm env h ds) → goP (hfP z (zrowsT 0 1 n) (zrowsT 100 1 n) B) n 0 (zn 0) .nils b d K
theorem usefGP {l : Nat → Bool} {n : Nat} {z : T Blk} {b : List Int} {d : List Bool} {B B2 : List (Nat × Blk)} {ks : List Nat} {oa ra : Nat} {rw : List AV} {C : Prop → Prop} (ho1 : okLit n0P 2097152 [(n0P, oa, .row [] 22 true [])] = true) (Zs : ZinP l n z) (hn : n ≤ 60) (hi : 0 < n)
    (ht : ∀ Kv, goP (hfP z (zrowsT 0 1 n) (zrowsT 100 1 n) B) n 0 (zn 0) .nils b d (obfP (zrowsT 0 1 n) (zrowsT 100 1 n) (zipA B2 ks) oa ra rw Kv) = hdP (hfP z (zrowsT 0 1 n) (zrowsT 100 1 n) B) n 0 0 (zn 0) b (C (lffP z (zrowsT 0 1 n) (zrowsT 100 1 n) n (zn 0) b (zipA B2 ks) oa ra rw Kv)))
    (hC : ∀ t, t → C t) (hl : okLit n0P 2097152 (zipA B2 ks) = true) (hk : nodupQ (lmap (fun p => p.1) (lapp (RP (zrowsT 0 1 n) (zrowsT 100 1 n) oa 1) (zipA B2 ks))) = true) (ha : nodupQ (actsOf (lapp (RP (zrowsT 0 1 n) (zrowsT 100 1 n) oa 1) (zipA B2 ks)) [(300, ra, rowP rw)]) = true)
    (r1 : 1049465 ≤ ra) (r2 : ra < 1000000000000) (r3 : ra % 4096 ≠ 4095) (hint : IntRow (rowP rw)) (hrow : rowP rw = outP l 0) : usefTP l n z b d B B2 := by
  intro hcI hcR K hK
  have hlit : okLit n0P 2097152 (lapp (RP (zrowsT 0 1 n) (zrowsT 100 1 n) oa 1) (zipA B2 ks)) = true := okLit_row ho1 (belP_O (by omega)) (okLit_row rfl (belP_I hn) (okLit_row rfl (belP_W hn) hl))
  have hZ3 : ∀ p ∈ ([(300, ra, rowP rw)] : List (Nat × Nat × Blk)), 300 ≤ p.1 := fun p hp => by rw [List.mem_singleton.1 hp]; show 300 ≤ 300; omega
  have hnd : (([(300, ra, rowP rw)] : List (Nat × Nat × Blk)).map (·.1)).Nodup := by simp
  have k1 := keepIP Zs hn (i := 0) hlit hZ3
  refine round_use2 good1.spl ht ?_
  refine bcase_tt (dcq_lt (by simp only [Int.ofNat_eq_natCast]; omega)) (bcase_tt (inB_of hi) ⟨hcI, hcR, hC _ ?_⟩)
  have leaf : ∀ (env : Env) (h : H) (ds : List Bool), obs [6, 7, 16, 17, 71, 72, 73] (actsOf (lapp (RP (zrowsT 0 1 n) (zrowsT 100 1 n) oa 1) (zipA B2 ks)) [(300, ra, rowP rw)]) (lapp (RP (zrowsT 0 1 n) (zrowsT 100 1 n) oa 1) (zipA B2 ks)) [(300, ra, rowP rw)] env h = expsR n0P (kpOf z) (eP n (ggP (zn 0) b) (.slc n0P 0 1 1 false 1) 1) (RP (zrowsT 0 1 n) (zrowsT 100 1 n) oa 1) (zipA B2 ks) [(300, ra, rowP rw)] z (rawP (zrowsT 0 1 n) (zrowsT 100 1 n) [.slc ra 0 1 1 false 1]) → K .nrm env h ds := by
    intro env h ds ho
    have fin : ∃ σ, Abs n0P σ (stP l n z 1 (ggP (zn 0) b) B2).env (stP l n z 1 (ggP (zn 0) b) B2).h env h := by
      rw [expsR_eq] at ho
      · exact NewOK.abs (t := (stP l n z 1 (ggP (zn 0) b) B2)) (A := lapp (RP (zrowsT 0 1 n) (zrowsT 100 1 n) oa 1) (zipA B2 ks)) (Z := [(300, ra, rowP rw)]) (z := z)
          ⟨by rw [lmap_app, zipA_B]; rfl, by show T.set z (outP l 0) (300 + 0) = T.set z (rowP rw) 300; rw [hrow], by show 1049465 ≤ 2097152; decide, by kernel_rfl, hlit, hk, ha,
            fun p hp => by
              rw [List.mem_singleton.1 hp]
              exact ⟨by show 1049465 ≤ zn 300; rw [zn_eq]; omega, by show zn 300 < 2097152; rw [zn_eq]; omega, r1, r2, r3, hint⟩,
            hnd, by have := zoP_ok Zs (i := 0) (by omega); exact this⟩ rfl rfl rfl rfl ho
      · have e1 : [.slc ra 0 1 1 false 1] = renL (szs n0P (namesOf (lapp (RP (zrowsT 0 1 n) (zrowsT 100 1 n) oa 1) (zipA B2 ks)) [(300, ra, rowP rw)]) (kpOf z)) (zrows 300 1 1) := by
          refine zrows_grow (i := 0) (fun j hj => ?_) (szs_row hlit (by show 1049465 ≤ zn (300 + 0); rw [zn_eq]; omega) (List.mem_singleton.2 rfl) hnd)
          omega
        show [(some (Blk.row _ _ _ _), true), (some (Blk.row _ _ _ _), true), (some (Blk.row _ _ _ _), true)] = [(some (Blk.row (renL _ _) _ _ _), true), (some (Blk.row (renL _ _) _ _ _), true), (some (Blk.row (renL _ _) _ _ _), true)]
        rw [← e1]
        have k1 := k1
        change renL (szs n0P (namesOf _ _) (kpOf z)) _ = _ ∧ renL (szs n0P (namesOf _ _) (kpOf z)) _ = _ at k1
        rw [k1.1, k1.2]; rfl
    exact fin.elim fun σ ab => hK env h ds σ ab
  exact leaf
def useTP (l : Nat → Bool) (n : Nat) (z : T Blk) (i : Nat) (b : List Int) (d : List Bool) (B B2 : List (Nat × Blk)) : Prop :=
  cIP (hP (zoP l z i) (zrowsT 0 1 n) (zrowsT 100 1 n) i B) (ixP i) (zn i) b → cRP (hP (zoP l z i) (zrowsT 0 1 n) (zrowsT 100 1 n) i B) (zn i) b → ∀ {K : KE}, (∀ env h ds σ, Abs n0P σ (stP l n z (i + 1) (ggP (zn i) b) B2).env (stP l n z (i + 1) (ggP (zn i) b) B2).h env h → K .nrm env h ds) → goP (hP (zoP l z i) (zrowsT 0 1 n) (zrowsT 100 1 n) i B) n i (zn i) (.slc n0P 0 i i false 1) b d K
theorem useGP {l : Nat → Bool} {n : Nat} {z : T Blk} {i : Nat} {b : List Int} {d : List Bool} {B B2 : List (Nat × Blk)} {ks : List Nat} {oa ra : Nat} {rw : List AV} {C : Prop → Prop} (ho1 : okLit n0P 2097152 [(n0P, oa, .row [] 22 true [])] = true) (Zs : ZinP l n z) (hn : n ≤ 60) (hi : i < n)
    (ht : ∀ Kv, goP (hP (zoP l z i) (zrowsT 0 1 n) (zrowsT 100 1 n) i B) n i (zn i) (.slc n0P 0 i i false 1) b d (obP (zrowsT 0 1 n) (zrowsT 100 1 n) i (zipA B2 ks) oa ra rw Kv) = hdP (hP (zoP l z i) (zrowsT 0 1 n) (zrowsT 100 1 n) i B) n i (ixP i) (zn i) b (C (ttP i (lfP (zoP l z i) (zrowsT 0 1 n) (zrowsT 100 1 n) n i (zn i) b (zipA B2 ks) oa ra rw Kv))))
    (hC : ∀ t, t → C t) (hl : okLit n0P 2097152 (zipA B2 ks) = true) (hk : nodupQ (lmap (fun p => p.1) (lapp (RP (zrowsT 0 1 n) (zrowsT 100 1 n) oa (i + 1)) (zipA B2 ks))) = true) (ha : nodupQ (actsOf (lapp (RP (zrowsT 0 1 n) (zrowsT 100 1 n) oa (i + 1)) (zipA B2 ks)) [((300 + i), ra, rowP rw)]) = true)
    (r1 : 1049465 ≤ ra) (r2 : ra < 1000000000000) (r3 : ra % 4096 ≠ 4095) (hint : IntRow (rowP rw)) (hrow : rowP rw = outP l i) : useTP l n z i b d B B2 := by
  intro hcI hcR K hK
  have hlit : okLit n0P 2097152 (lapp (RP (zrowsT 0 1 n) (zrowsT 100 1 n) oa (i + 1)) (zipA B2 ks)) = true := okLit_row ho1 (belP_O (by omega)) (okLit_row rfl (belP_I hn) (okLit_row rfl (belP_W hn) hl))
  have hZ3 : ∀ p ∈ ([((300 + i), ra, rowP rw)] : List (Nat × Nat × Blk)), 300 ≤ p.1 := fun p hp => by rw [List.mem_singleton.1 hp]; show 300 ≤ 300 + i; omega
  have hnd : (([((300 + i), ra, rowP rw)] : List (Nat × Nat × Blk)).map (·.1)).Nodup := by simp
  have k1 := keepIP Zs hn (i := i) hlit hZ3
  refine round_use2 good1.spl ht ?_
  refine bcase_tt (dcq_lt (by simp only [Int.ofNat_eq_natCast]; omega)) (bcase_tt (inB_of hi) ⟨hcI, hcR, hC _ ?_⟩)
  have leaf : ∀ (env : Env) (h : H) (ds : List Bool), obs [6, 7, 16, 17, 71, 72, 73] (actsOf (lapp (RP (zrowsT 0 1 n) (zrowsT 100 1 n) oa (i + 1)) (zipA B2 ks)) [((300 + i), ra, rowP rw)]) (lapp (RP (zrowsT 0 1 n) (zrowsT 100 1 n) oa (i + 1)) (zipA B2 ks)) [((300 + i), ra, rowP rw)] env h = expsR n0P (kpOf (zoP l z i)) (eP n (ggP (zn i) b) (.slc n0P 0 (i + 1) (i + 1) false 1) (i + 1)) (RP (zrowsT 0 1 n) (zrowsT 100 1 n) oa (i + 1)) (zipA B2 ks) [((300 + i), ra, rowP rw)] (zoP l z i) (rawP (zrowsT 0 1 n) (zrowsT 100 1 n) (ocP i ra)) → K .nrm env h ds := by
    intro env h ds ho
    have fin : ∃ σ, Abs n0P σ (stP l n z (i + 1) (ggP (zn i) b) B2).env (stP l n z (i + 1) (ggP (zn i) b) B2).h env h := by
      rw [expsR_eq] at ho
      · exact NewOK.abs (t := (stP l n z (i + 1) (ggP (zn i) b) B2)) (A := lapp (RP (zrowsT 0 1 n) (zrowsT 100 1 n) oa (i + 1)) (zipA B2 ks)) (Z := [((300 + i), ra, rowP rw)]) (z := (zoP l z i))
          ⟨by rw [lmap_app, zipA_B]; rfl, by show T.set (zoP l z i) (outP l i) (300 + i) = T.set (zoP l z i) (rowP rw) (300 + i); rw [hrow], by show 1049465 ≤ 2097152; decide, by kernel_rfl, hlit, hk, ha,
            fun p hp => by
              rw [List.mem_singleton.1 hp]
              exact ⟨by show 1049465 ≤ zn (300 + i); rw [zn_eq]; omega, by show zn (300 + i) < 2097152; rw [zn_eq]; omega, r1, r2, r3, hint⟩,
            hnd, zoP_ok Zs (by omega)⟩ rfl rfl rfl rfl ho
      · have e1 : (ocP i ra) = renL (szs n0P (namesOf (lapp (RP (zrowsT 0 1 n) (zrowsT 100 1 n) oa (i + 1)) (zipA B2 ks)) [((300 + i), ra, rowP rw)]) (kpOf (zoP l z i))) (zrows 300 1 (i + 1)) := by
          refine zrows_grow (i := i) (fun j hj => ?_) (szs_row hlit (by show 1049465 ≤ zn (300 + i); rw [zn_eq]; omega) (List.mem_singleton.2 rfl) hnd)
          exact szs_zone hlit (zgrow_new hj) (fun p hp e => by rw [List.mem_singleton.1 hp] at e; have e : 300 + i = 300 + j := e; omega)
        show [(some (Blk.row _ _ _ _), true), (some (Blk.row _ _ _ _), true), (some (Blk.row _ _ _ _), true)] = [(some (Blk.row (renL _ _) _ _ _), true), (some (Blk.row (renL _ _) _ _ _), true), (some (Blk.row (renL _ _) _ _ _), true)]
        rw [← e1]
        have k1 := k1
        skip
        rw [k1.1, k1.2]; rfl
    exact fin.elim fun σ ab => hK env h ds σ ab
  exact bcase_tt (dcq_cap i) (bcase_tt (appC_ok (by rw [zrows_len]) (by omega)) (bcase_any (bcase_tt (inR_add (by omega)) leaf) (bcase_tt (inR_add (by omega)) leaf)))
theorem useP_0_0 {l : Nat → Bool} {n : Nat} {z : T Blk} (Zs : ZinP l n z) (hn : n ≤ 60) (hi : 0 < n) (hrow : rowP [.int .i64 0] = outP l 0) : usefTP l n z [0] dP_0_0 (bP0) (bP1 1 0) :=
  usefGP (C := fun t => t) (by kernel_rfl) Zs hn hi (fun Kv => tP_0_0 _ _ _ _ _ Kv) (fun t x => x) (by kernel_rfl) (by kernel_rfl) (by kernel_rfl) (by decide) (by decide) (by decide) ⟨[0], 3, true, rfl⟩ hrow
theorem useP_1_0 {l : Nat → Bool} {n : Nat} {z : T Blk} (Zs : ZinP l n z) (hn : n ≤ 60) {i : Nat} (hi : i < n) (a0 : Int) (a1 : Int) (ha0 : 0 ≤ a0) (ha0' : a0 ≤ 170) (hrow : rowP [.int .i64 a0] = outP l i) : useTP l n z i [0] dP_1_0 (bP1 a0 a1) (bP1 (a0 + 1) a0) :=
  useGP (C := fun t => bcase (inR .i64 (a0 + 1)) (bcase (dcq false (eqI a0 (a0 + 1))) (bcase (dcq false (eqI a0 (a0 + 1))) (bcase (dcq false (eqI a0 (a0 + 1))) (bcase (dcq false (eqI a0 (a0 + 1))) (bcase (dcq true (eqI (a0 + 1) (a0 + 1))) (bcase (dcq true (eqI (a0 + 1) (a0 + 1))) (bcase (dcq true (eqI (a0 + 1) (a0 + 1))) (bcase (inR .u8 a0) (bcase (inR .i64 a0) (bcase (dcq true (eqI a0 a0)) (bcase (inR .i64 (a0 + 1)) (bcase (inR .u8 (a0 + 1)) (bcase (inR .i64 (a0 + 1)) (bcase (dcq true (eqI (a0 + 1) (a0 + 1))) (t) False) False) False) False) False) False) False) False) False) False) False) False) False) False) False) (by kernel_rfl) Zs hn hi (fun Kv => tP_1_0 _ _ _ _ _ _ a0 a1 Kv) (fun t x => bcase_tt (inR_i64 (by omega) (by omega)) (bcase_tt (dcq_ne (by omega)) (bcase_tt (dcq_ne (by omega)) (bcase_tt (dcq_ne (by omega)) (bcase_tt (dcq_ne (by omega)) (bcase_tt (dcq_eq (by omega)) (bcase_tt (dcq_eq (by omega)) (bcase_tt (dcq_eq (by omega)) (bcase_tt (inR_u8 (by omega) (by omega)) (bcase_tt (inR_i64 (by omega) (by omega)) (bcase_tt (dcq_eq (by omega)) (bcase_tt (inR_i64 (by omega) (by omega)) (bcase_tt (inR_u8 (by omega) (by omega)) (bcase_tt (inR_i64 (by omega) (by omega)) (bcase_tt (dcq_eq (by omega)) (x)))))))))))))))) (by kernel_rfl) (by kernel_rfl) (by kernel_rfl) (by decide) (by decide) (by decide) ⟨[a0], 3, true, rfl⟩ hrow
theorem useP_1_1 {l : Nat → Bool} {n : Nat} {z : T Blk} (Zs : ZinP l n z) (hn : n ≤ 60) {i : Nat} (hi : i < n) (a0 : Int) (a1 : Int) (ha0 : 0 ≤ a0) (ha0' : a0 ≤ 170) (hrow : rowP [.int .i64 a0] = outP l i) : useTP l n z i [1] dP_1_1 (bP1 a0 a1) (bP2 (a0 + 1) a0) :=
  useGP (C := fun t => bcase (inR .i64 (a0 + 1)) (bcase (dcq false (eqI a0 (a0 + 1))) (bcase (dcq false (eqI a0 (a0 + 1))) (bcase (dcq false (eqI a0 (a0 + 1))) (bcase (dcq false (eqI a0 (a0 + 1))) (bcase (dcq true (eqI (a0 + 1) (a0 + 1))) (bcase (dcq true (eqI (a0 + 1) (a0 + 1))) (bcase (dcq true (eqI (a0 + 1) (a0 + 1))) (bcase (inR .u8 a0) (bcase (inR .i64 a0) (bcase (dcq true (eqI a0 a0)) (bcase (inR .i64 (a0 + 1)) (bcase (inR .u8 (a0 + 1)) (bcase (inR .i64 (a0 + 1)) (bcase (dcq true (eqI (a0 + 1) (a0 + 1))) (t) False) False) False) False) False) False) False) False) False) False) False) False) False) False) False) (by kernel_rfl) Zs hn hi (fun Kv => tP_1_1 _ _ _ _ _ _ a0 a1 Kv) (fun t x => bcase_tt (inR_i64 (by omega) (by omega)) (bcase_tt (dcq_ne (by omega)) (bcase_tt (dcq_ne (by omega)) (bcase_tt (dcq_ne (by omega)) (bcase_tt (dcq_ne (by omega)) (bcase_tt (dcq_eq (by omega)) (bcase_tt (dcq_eq (by omega)) (bcase_tt (dcq_eq (by omega)) (bcase_tt (inR_u8 (by omega) (by omega)) (bcase_tt (inR_i64 (by omega) (by omega)) (bcase_tt (dcq_eq (by omega)) (bcase_tt (inR_i64 (by omega) (by omega)) (bcase_tt (inR_u8 (by omega) (by omega)) (bcase_tt (inR_i64 (by omega) (by omega)) (bcase_tt (dcq_eq (by omega)) (x)))))))))))))))) (by kernel_rfl) (by kernel_rfl) (by kernel_rfl) (by decide) (by decide) (by decide) ⟨[a0], 3, true, rfl⟩ hrow
theorem useP_2_1 {l : Nat → Bool} {n : Nat} {z : T Blk} (Zs : ZinP l n z) (hn : n ≤ 60) {i : Nat} (hi : i < n) (a0 : Int) (a1 : Int) (ha0 : 0 ≤ a0) (ha0' : a0 ≤ 170) (hrow : rowP [.int .i64 100] = outP l i) : useTP l n z i [1] dP_2_1 (bP2 a0 a1) (bP3 (a0 + 1) 100 a0 a1 101) :=
  useGP (C := fun t => bcase (inR .i64 (a0 + 1)) (bcase (dcq false (eqI a0 (a0 + 1))) (bcase (dcq false (eqI a0 (a0 + 1))) (bcase (dcq false (eqI 0 (a0 + 1))) (bcase (dcq false (eqI 0 (a0 + 1))) (bcase (dcq true (eqI (a0 + 1) (a0 + 1))) (bcase (dcq true (eqI (a0 + 1) (a0 + 1))) (bcase (dcq true (eqI (a0 + 1) (a0 + 1))) (bcase (dcq true (eqI (a0 + 1) (a0 + 1))) (t) False) False) False) False) False) False) False) False) False) (by kernel_rfl) Zs hn hi (fun Kv => tP_2_1 _ _ _ _ _ _ a0 a1 Kv) (fun t x => bcase_tt (inR_i64 (by omega) (by omega)) (bcase_tt (dcq_ne (by omega)) (bcase_tt (dcq_ne (by omega)) (bcase_tt (dcq_ne (by omega)) (bcase_tt (dcq_ne (by omega)) (bcase_tt (dcq_eq (by omega)) (bcase_tt (dcq_eq (by omega)) (bcase_tt (dcq_eq (by omega)) (bcase_tt (dcq_eq (by omega)) (x)))))))))) (by kernel_rfl) (by kernel_rfl) (by kernel_rfl) (by decide) (by decide) (by decide) ⟨[100], 3, true, rfl⟩ hrow
theorem useP_3_1 {l : Nat → Bool} {n : Nat} {z : T Blk} (Zs : ZinP l n z) (hn : n ≤ 60) {i : Nat} (hi : i < n) (a0 : Int) (a1 : Int) (a2 : Int) (a3 : Int) (a4 : Int) (ha0 : 0 ≤ a0) (ha0' : a0 ≤ 170) (hrow : rowP [.int .i64 0] = outP l i) : useTP l n z i [1] dP_3_1 (bP3 a0 a1 a2 a3 a4) (bP4 (a0 + 1) 0 a0 a1 1 a4) :=
  useGP (C := fun t => bcase (inR .i64 (a0 + 1)) (bcase (dcq false (eqI a0 (a0 + 1))) (bcase (dcq false (eqI a0 (a0 + 1))) (bcase (dcq false (eqI 0 (a0 + 1))) (bcase (dcq false (eqI 0 (a0 + 1))) (bcase (dcq true (eqI (a0 + 1) (a0 + 1))) (bcase (dcq true (eqI (a0 + 1) (a0 + 1))) (bcase (dcq true (eqI (a0 + 1) (a0 + 1))) (bcase (dcq true (eqI (a0 + 1) (a0 + 1))) (t) False) False) False) False) False) False) False) False) False) (by kernel_rfl) Zs hn hi (fun Kv => tP_3_1 _ _ _ _ _ _ a0 a1 a2 a3 a4 Kv) (fun t x => bcase_tt (inR_i64 (by omega) (by omega)) (bcase_tt (dcq_ne (by omega)) (bcase_tt (dcq_ne (by omega)) (bcase_tt (dcq_ne (by omega)) (bcase_tt (dcq_ne (by omega)) (bcase_tt (dcq_eq (by omega)) (bcase_tt (dcq_eq (by omega)) (bcase_tt (dcq_eq (by omega)) (bcase_tt (dcq_eq (by omega)) (x)))))))))) (by kernel_rfl) (by kernel_rfl) (by kernel_rfl) (by decide) (by decide) (by decide) ⟨[0], 3, true, rfl⟩ hrow
theorem useP_4_0 {l : Nat → Bool} {n : Nat} {z : T Blk} (Zs : ZinP l n z) (hn : n ≤ 60) {i : Nat} (hi : i < n) (a0 : Int) (a1 : Int) (a2 : Int) (a3 : Int) (a4 : Int) (a5 : Int) (ha0 : 0 ≤ a0) (ha0' : a0 ≤ 170) (hrow : rowP [.int .i64 100] = outP l i) : useTP l n z i [0] dP_4_0 (bP4 a0 a1 a2 a3 a4 a5) (bP5 (a0 + 1) 100 a0 a1 a4 101) :=
  useGP (C := fun t => bcase (inR .i64 (a0 + 1)) (bcase (dcq false (eqI a0 (a0 + 1))) (bcase (dcq false (eqI a0 (a0 + 1))) (bcase (dcq false (eqI 0 (a0 + 1))) (bcase (dcq false (eqI 0 (a0 + 1))) (bcase (dcq true (eqI (a0 + 1) (a0 + 1))) (bcase (dcq true (eqI (a0 + 1) (a0 + 1))) (bcase (dcq true (eqI (a0 + 1) (a0 + 1))) (bcase (dcq true (eqI (a0 + 1) (a0 + 1))) (t) False) False) False) False) False) False) False) False) False) (by kernel_rfl) Zs hn hi (fun Kv => tP_4_0 _ _ _ _ _ _ a0 a1 a2 a3 a4 a5 Kv) (fun t x => bcase_tt (inR_i64 (by omega) (by omega)) (bcase_tt (dcq_ne (by omega)) (bcase_tt (dcq_ne (by omega)) (bcase_tt (dcq_ne (by omega)) (bcase_tt (dcq_ne (by omega)) (bcase_tt (dcq_eq (by omega)) (bcase_tt (dcq_eq (by omega)) (bcase_tt (dcq_eq (by omega)) (bcase_tt (dcq_eq (by omega)) (x)))))))))) (by kernel_rfl) (by kernel_rfl) (by kernel_rfl) (by decide) (by decide) (by decide) ⟨[100], 3, true, rfl⟩ hrow
theorem useP_5_0 {l : Nat → Bool} {n : Nat} {z : T Blk} (Zs : ZinP l n z) (hn : n ≤ 60) {i : Nat} (hi : i < n) (a0 : Int) (a1 : Int) (a2 : Int) (a3 : Int) (a4 : Int) (a5 : Int) (ha0 : 0 ≤ a0) (ha0' : a0 ≤ 170) (ha5 : 0 ≤ a5) (ha5' : a5 ≤ 170) (hrow : rowP [.int .i64 a5] = outP l i) : useTP l n z i [0] dP_5_0 (bP5 a0 a1 a2 a3 a4 a5) (bP5 (a0 + 1) a5 a2 a3 a4 (a5 + 1)) :=
  useGP (C := fun t => bcase (inR .i64 (a0 + 1)) (bcase (dcq false (eqI a0 (a0 + 1))) (bcase (dcq false (eqI a0 (a0 + 1))) (bcase (dcq false (eqI a0 (a0 + 1))) (bcase (dcq false (eqI a0 (a0 + 1))) (bcase (dcq true (eqI (a0 + 1) (a0 + 1))) (bcase (dcq true (eqI (a0 + 1) (a0 + 1))) (bcase (dcq true (eqI (a0 + 1) (a0 + 1))) (bcase (inR .u8 a5) (bcase (inR .i64 a5) (bcase (dcq true (eqI a5 a5)) (bcase (inR .i64 (a5 + 1)) (bcase (inR .u8 (a5 + 1)) (bcase (inR .i64 (a5 + 1)) (bcase (dcq true (eqI (a0 + 1) (a0 + 1))) (t) False) False) False) False) False) False) False) False) False) False) False) False) False) False) False) (by kernel_rfl) Zs hn hi (fun Kv => tP_5_0 _ _ _ _ _ _ a0 a1 a2 a3 a4 a5 Kv) (fun t x => bcase_tt (inR_i64 (by omega) (by omega)) (bcase_tt (dcq_ne (by omega)) (bcase_tt (dcq_ne (by omega)) (bcase_tt (dcq_ne (by omega)) (bcase_tt (dcq_ne (by omega)) (bcase_tt (dcq_eq (by omega)) (bcase_tt (dcq_eq (by omega)) (bcase_tt (dcq_eq (by omega)) (bcase_tt (inR_u8 (by omega) (by omega)) (bcase_tt (inR_i64 (by omega) (by omega)) (bcase_tt (dcq_eq (by omega)) (bcase_tt (inR_i64 (by omega) (by omega)) (bcase_tt (inR_u8 (by omega) (by omega)) (bcase_tt (inR_i64 (by omega) (by omega)) (bcase_tt (dcq_eq (by omega)) (x)))))))))))))))) (by kernel_rfl) (by kernel_rfl) (by kernel_rfl) (by decide) (by decide) (by decide) ⟨[a5], 3, true, rfl⟩ hrow
theorem useP_5_1 {l : Nat → Bool} {n : Nat} {z : T Blk} (Zs : ZinP l n z) (hn : n ≤ 60) {i : Nat} (hi : i < n) (a0 : Int) (a1 : Int) (a2 : Int) (a3 : Int) (a4 : Int) (a5 : Int) (ha0 : 0 ≤ a0) (ha0' : a0 ≤ 170) (ha5 : 0 ≤ a5) (ha5' : a5 ≤ 170) (hrow : rowP [.int .i64 a5] = outP l i) : useTP l n z i [1] dP_5_1 (bP5 a0 a1 a2 a3 a4 a5) (bP6 (a0 + 1) a5 a2 a3 a4 (a5 + 1)) :=
  useGP (C := fun t => bcase (inR .i64 (a0 + 1)) (bcase (dcq false (eqI a0 (a0 + 1))) (bcase (dcq false (eqI a0 (a0 + 1))) (bcase (dcq false (eqI a0 (a0 + 1))) (bcase (dcq false (eqI a0 (a0 + 1))) (bcase (dcq true (eqI (a0 + 1) (a0 + 1))) (bcase (dcq true (eqI (a0 + 1) (a0 + 1))) (bcase (dcq true (eqI (a0 + 1) (a0 + 1))) (bcase (inR .u8 a5) (bcase (inR .i64 a5) (bcase (dcq true (eqI a5 a5)) (bcase (inR .i64 (a5 + 1)) (bcase (inR .u8 (a5 + 1)) (bcase (inR .i64 (a5 + 1)) (bcase (dcq true (eqI (a0 + 1) (a0 + 1))) (t) False) False) False) False) False) False) False) False) False) False) False) False) False) False) False) (by kernel_rfl) Zs hn hi (fun Kv => tP_5_1 _ _ _ _ _ _ a0 a1 a2 a3 a4 a5 Kv) (fun t x => bcase_tt (inR_i64 (by omega) (by omega)) (bcase_tt (dcq_ne (by omega)) (bcase_tt (dcq_ne (by omega)) (bcase_tt (dcq_ne (by omega)) (bcase_tt (dcq_ne (by omega)) (bcase_tt (dcq_eq (by omega)) (bcase_tt (dcq_eq (by omega)) (bcase_tt (dcq_eq (by omega)) (bcase_tt (inR_u8 (by omega) (by omega)) (bcase_tt (inR_i64 (by omega) (by omega)) (bcase_tt (dcq_eq (by omega)) (bcase_tt (inR_i64 (by omega) (by omega)) (bcase_tt (inR_u8 (by omega) (by omega)) (bcase_tt (inR_i64 (by omega) (by omega)) (bcase_tt (dcq_eq (by omega)) (x)))))))))))))))) (by kernel_rfl) (by kernel_rfl) (by kernel_rfl) (by decide) (by decide) (by decide) ⟨[a5], 3, true, rfl⟩ hrow
theorem useP_6_0 {l : Nat → Bool} {n : Nat} {z : T Blk} (Zs : ZinP l n z) (hn : n ≤ 60) {i : Nat} (hi : i < n) (a0 : Int) (a1 : Int) (a2 : Int) (a3 : Int) (a4 : Int) (a5 : Int) (ha0 : 0 ≤ a0) (ha0' : a0 ≤ 170) (hrow : rowP [.int .i64 0] = outP l i) : useTP l n z i [0] dP_6_0 (bP6 a0 a1 a2 a3 a4 a5) (bP7 (a0 + 1) 0 a0 a1 1 a5) :=
  useGP (C := fun t => bcase (inR .i64 (a0 + 1)) (bcase (dcq false (eqI a0 (a0 + 1))) (bcase (dcq false (eqI a0 (a0 + 1))) (bcase (dcq false (eqI 0 (a0 + 1))) (bcase (dcq false (eqI 0 (a0 + 1))) (bcase (dcq true (eqI (a0 + 1) (a0 + 1))) (bcase (dcq true (eqI (a0 + 1) (a0 + 1))) (bcase (dcq true (eqI (a0 + 1) (a0 + 1))) (bcase (dcq true (eqI (a0 + 1) (a0 + 1))) (t) False) False) False) False) False) False) False) False) False) (by kernel_rfl) Zs hn hi (fun Kv => tP_6_0 _ _ _ _ _ _ a0 a1 a2 a3 a4 a5 Kv) (fun t x => bcase_tt (inR_i64 (by omega) (by omega)) (bcase_tt (dcq_ne (by omega)) (bcase_tt (dcq_ne (by omega)) (bcase_tt (dcq_ne (by omega)) (bcase_tt (dcq_ne (by omega)) (bcase_tt (dcq_eq (by omega)) (bcase_tt (dcq_eq (by omega)) (bcase_tt (dcq_eq (by omega)) (bcase_tt (dcq_eq (by omega)) (x)))))))))) (by kernel_rfl) (by kernel_rfl) (by kernel_rfl) (by decide) (by decide) (by decide) ⟨[0], 3, true, rfl⟩ hrow
theorem useP_7_1 {l : Nat → Bool} {n : Nat} {z : T Blk} (Zs : ZinP l n z) (hn : n ≤ 60) {i : Nat} (hi : i < n) (a0 : Int) (a1 : Int) (a2 : Int) (a3 : Int) (a4 : Int) (a5 : Int) (ha0 : 0 ≤ a0) (ha0' : a0 ≤ 170) (ha4 : 0 ≤ a4) (ha4' : a4 ≤ 170) (hrow : rowP [.int .i64 a4] = outP l i) : useTP l n z i [1] dP_7_1 (bP7 a0 a1 a2 a3 a4 a5) (bP4 (a0 + 1) a4 a2 a3 (a4 + 1) a5) :=
  useGP (C := fun t => bcase (inR .i64 (a0 + 1)) (bcase (dcq false (eqI a0 (a0 + 1))) (bcase (dcq false (eqI a0 (a0 + 1))) (bcase (dcq false (eqI a0 (a0 + 1))) (bcase (dcq false (eqI a0 (a0 + 1))) (bcase (dcq true (eqI (a0 + 1) (a0 + 1))) (bcase (dcq true (eqI (a0 + 1) (a0 + 1))) (bcase (dcq true (eqI (a0 + 1) (a0 + 1))) (bcase (inR .u8 a4) (bcase (inR .i64 a4) (bcase (dcq true (eqI a4 a4)) (bcase (inR .i64 (a4 + 1)) (bcase (inR .u8 (a4 + 1)) (bcase (inR .i64 (a4 + 1)) (bcase (dcq true (eqI (a0 + 1) (a0 + 1))) (t) False) False) False) False) False) False) False) False) False) False) False) False) False) False) False) (by kernel_rfl) Zs hn hi (fun Kv => tP_7_1 _ _ _ _ _ _ a0 a1 a2 a3 a4 a5 Kv) (fun t x => bcase_tt (inR_i64 (by omega) (by omega)) (bcase_tt (dcq_ne (by omega)) (bcase_tt (dcq_ne (by omega)) (bcase_tt (dcq_ne (by omega)) (bcase_tt (dcq_ne (by omega)) (bcase_tt (dcq_eq (by omega)) (bcase_tt (dcq_eq (by omega)) (bcase_tt (dcq_eq (by omega)) (bcase_tt (inR_u8 (by omega) (by omega)) (bcase_tt (inR_i64 (by omega) (by omega)) (bcase_tt (dcq_eq (by omega)) (bcase_tt (inR_i64 (by omega) (by omega)) (bcase_tt (inR_u8 (by omega) (by omega)) (bcase_tt (inR_i64 (by omega) (by omega)) (bcase_tt (dcq_eq (by omega)) (x)))))))))))))))) (by kernel_rfl) (by kernel_rfl) (by kernel_rfl) (by decide) (by decide) (by decide) ⟨[a4], 3, true, rfl⟩ hrow
theorem useP_0_1 {l : Nat → Bool} {n : Nat} {z : T Blk} (Zs : ZinP l n z) (hn : n ≤ 60) (hi : 0 < n) (hrow : rowP [.int .i64 0] = outP l 0) : usefTP l n z [1] dP_0_1 (bP0) (bP2 1 0) :=
  usefGP (C := fun t => t) (by kernel_rfl) Zs hn hi (fun Kv => tP_0_1 _ _ _ _ _ Kv) (fun t x => x) (by kernel_rfl) (by kernel_rfl) (by kernel_rfl) (by decide) (by decide) (by decide) ⟨[0], 3, true, rfl⟩ hrow
theorem useP_2_0 {l : Nat → Bool} {n : Nat} {z : T Blk} (Zs : ZinP l n z) (hn : n ≤ 60) {i : Nat} (hi : i < n) (a0 : Int) (a1 : Int) (ha0 : 0 ≤ a0) (ha0' : a0 ≤ 170) (hrow : rowP [.int .i64 100] = outP l i) : useTP l n z i [0] dP_2_0 (bP2 a0 a1) (bP8 (a0 + 1) 100 a0 a1 101) :=
  useGP (C := fun t => bcase (inR .i64 (a0 + 1)) (bcase (dcq false (eqI a0 (a0 + 1))) (bcase (dcq false (eqI a0 (a0 + 1))) (bcase (dcq false (eqI 0 (a0 + 1))) (bcase (dcq false (eqI 0 (a0 + 1))) (bcase (dcq true (eqI (a0 + 1) (a0 + 1))) (bcase (dcq true (eqI (a0 + 1) (a0 + 1))) (bcase (dcq true (eqI (a0 + 1) (a0 + 1))) (bcase (dcq true (eqI (a0 + 1) (a0 + 1))) (t) False) False) False) False) False) False) False) False) False) (by kernel_rfl) Zs hn hi (fun Kv => tP_2_0 _ _ _ _ _ _ a0 a1 Kv) (fun t x => bcase_tt (inR_i64 (by omega) (by omega)) (bcase_tt (dcq_ne (by omega)) (bcase_tt (dcq_ne (by omega)) (bcase_tt (dcq_ne (by omega)) (bcase_tt (dcq_ne (by omega)) (bcase_tt (dcq_eq (by omega)) (bcase_tt (dcq_eq (by omega)) (bcase_tt (dcq_eq (by omega)) (bcase_tt (dcq_eq (by omega)) (x)))))))))) (by kernel_rfl) (by kernel_rfl) (by kernel_rfl) (by decide) (by decide) (by decide) ⟨[100], 3, true, rfl⟩ hrow
theorem useP_8_1 {l : Nat → Bool} {n : Nat} {z : T Blk} (Zs : ZinP l n z) (hn : n ≤ 60) {i : Nat} (hi : i < n) (a0 : Int) (a1 : Int) (a2 : Int) (a3 : Int) (a4 : Int) (ha0 : 0 ≤ a0) (ha0' : a0 ≤ 170) (ha4 : 0 ≤ a4) (ha4' : a4 ≤ 170) (hrow : rowP [.int .i64 a4] = outP l i) : useTP l n z i [1] dP_8_1 (bP8 a0 a1 a2 a3 a4) (bP3 (a0 + 1) a4 a2 a3 (a4 + 1)) :=
  useGP (C := fun t => bcase (inR .i64 (a0 + 1)) (bcase (dcq false (eqI a0 (a0 + 1))) (bcase (dcq false (eqI a0 (a0 + 1))) (bcase (dcq false (eqI a0 (a0 + 1))) (bcase (dcq false (eqI a0 (a0 + 1))) (bcase (dcq true (eqI (a0 + 1) (a0 + 1))) (bcase (dcq true (eqI (a0 + 1) (a0 + 1))) (bcase (dcq true (eqI (a0 + 1) (a0 + 1))) (bcase (inR .u8 a4) (bcase (inR .i64 a4) (bcase (dcq true (eqI a4 a4)) (bcase (inR .i64 (a4 + 1)) (bcase (inR .u8 (a4 + 1)) (bcase (inR .i64 (a4 + 1)) (bcase (dcq true (eqI (a0 + 1) (a0 + 1))) (t) False) False) False) False) False) False) False) False) False) False) False) False) False) False) False) (by kernel_rfl) Zs hn hi (fun Kv => tP_8_1 _ _ _ _ _ _ a0 a1 a2 a3 a4 Kv) (fun t x => bcase_tt (inR_i64 (by omega) (by omega)) (bcase_tt (dcq_ne (by omega)) (bcase_tt (dcq_ne (by omega)) (bcase_tt (dcq_ne (by omega)) (bcase_tt (dcq_ne (by omega)) (bcase_tt (dcq_eq (by omega)) (bcase_tt (dcq_eq (by omega)) (bcase_tt (dcq_eq (by omega)) (bcase_tt (inR_u8 (by omega) (by omega)) (bcase_tt (inR_i64 (by omega) (by omega)) (bcase_tt (dcq_eq (by omega)) (bcase_tt (inR_i64 (by omega) (by omega)) (bcase_tt (inR_u8 (by omega) (by omega)) (bcase_tt (inR_i64 (by omega) (by omega)) (bcase_tt (dcq_eq (by omega)) (x)))))))))))))))) (by kernel_rfl) (by kernel_rfl) (by kernel_rfl) (by decide) (by decide) (by decide) ⟨[a4], 3, true, rfl⟩ hrow
theorem useP_6_1 {l : Nat → Bool} {n : Nat} {z : T Blk} (Zs : ZinP l n z) (hn : n ≤ 60) {i : Nat} (hi : i < n) (a0 : Int) (a1 : Int) (a2 : Int) (a3 : Int) (a4 : Int) (a5 : Int) (ha0 : 0 ≤ a0) (ha0' : a0 ≤ 170) (hrow : rowP [.int .i64 0] = outP l i) : useTP l n z i [1] dP_6_1 (bP6 a0 a1 a2 a3 a4 a5) (bP4 (a0 + 1) 0 a0 a1 1 a5) :=
  useGP (C := fun t => bcase (inR .i64 (a0 + 1)) (bcase (dcq false (eqI a0 (a0 + 1))) (bcase (dcq false (eqI a0 (a0 + 1))) (bcase (dcq false (eqI 0 (a0 + 1))) (bcase (dcq false (eqI 0 (a0 + 1))) (bcase (dcq true (eqI (a0 + 1) (a0 + 1))) (bcase (dcq true (eqI (a0 + 1) (a0 + 1))) (bcase (dcq true (eqI (a0 + 1) (a0 + 1))) (bcase (dcq true (eqI (a0 + 1) (a0 + 1))) (t) False) False) False) False) False) False) False) False) False) (by kernel_rfl) Zs hn hi (fun Kv => tP_6_1 _ _ _ _ _ _ a0 a1 a2 a3 a4 a5 Kv) (fun t x => bcase_tt (inR_i64 (by omega) (by omega)) (bcase_tt (dcq_ne (by omega)) (bcase_tt (dcq_ne (by omega)) (bcase_tt (dcq_ne (by omega)) (bcase_tt (dcq_ne (by omega)) (bcase_tt (dcq_eq (by omega)) (bcase_tt (dcq_eq (by omega)) (bcase_tt (dcq_eq (by omega)) (bcase_tt (dcq_eq (by omega)) (x)))))))))) (by kernel_rfl) (by kernel_rfl) (by kernel_rfl) (by decide) (by decide) (by decide) ⟨[0], 3, true, rfl⟩ hrow
theorem useP_4_1 {l : Nat → Bool} {n : Nat} {z : T Blk} (Zs : ZinP l n z) (hn : n ≤ 60) {i : Nat} (hi : i < n) (a0 : Int) (a1 : Int) (a2 : Int) (a3 : Int) (a4 : Int) (a5 : Int) (ha0 : 0 ≤ a0) (ha0' : a0 ≤ 170) (hrow : rowP [.int .i64 100] = outP l i) : useTP l n z i [1] dP_4_1 (bP4 a0 a1 a2 a3 a4 a5) (bP6 (a0 + 1) 100 a0 a1 a4 101) :=
  useGP (C := fun t => bcase (inR .i64 (a0 + 1)) (bcase (dcq false (eqI a0 (a0 + 1))) (bcase (dcq false (eqI a0 (a0 + 1))) (bcase (dcq false (eqI 0 (a0 + 1))) (bcase (dcq false (eqI 0 (a0 + 1))) (bcase (dcq true (eqI (a0 + 1) (a0 + 1))) (bcase (dcq true (eqI (a0 + 1) (a0 + 1))) (bcase (dcq true (eqI (a0 + 1) (a0 + 1))) (bcase (dcq true (eqI (a0 + 1) (a0 + 1))) (t) False) False) False) False) False) False) False) False) False) (by kernel_rfl) Zs hn hi (fun Kv => tP_4_1 _ _ _ _ _ _ a0 a1 a2 a3 a4 a5 Kv) (fun t x => bcase_tt (inR_i64 (by omega) (by omega)) (bcase_tt (dcq_ne (by omega)) (bcase_tt (dcq_ne (by omega)) (bcase_tt (dcq_ne (by omega)) (bcase_tt (dcq_ne (by omega)) (bcase_tt (dcq_eq (by omega)) (bcase_tt (dcq_eq (by omega)) (bcase_tt (dcq_eq (by omega)) (bcase_tt (dcq_eq (by omega)) (x)))))))))) (by kernel_rfl) (by kernel_rfl) (by kernel_rfl) (by decide) (by decide) (by decide) ⟨[100], 3, true, rfl⟩ hrow
theorem useP_7_0 {l : Nat → Bool} {n : Nat} {z : T Blk} (Zs : ZinP l n z) (hn : n ≤ 60) {i : Nat} (hi : i < n) (a0 : Int) (a1 : Int) (a2 : Int) (a3 : Int) (a4 : Int) (a5 : Int) (ha0 : 0 ≤ a0) (ha0' : a0 ≤ 170) (ha4 : 0 ≤ a4) (ha4' : a4 ≤ 170) (hrow : rowP [.int .i64 a4] = outP l i) : useTP l n z i [0] dP_7_0 (bP7 a0 a1 a2 a3 a4 a5) (bP7 (a0 + 1) a4 a2 a3 (a4 + 1) a5) :=
  useGP (C := fun t => bcase (inR .i64 (a0 + 1)) (bcase (dcq false (eqI a0 (a0 + 1))) (bcase (dcq false (eqI a0 (a0 + 1))) (bcase (dcq false (eqI a0 (a0 + 1))) (bcase (dcq false (eqI a0 (a0 + 1))) (bcase (dcq true (eqI (a0 + 1) (a0 + 1))) (bcase (dcq true (eqI (a0 + 1) (a0 + 1))) (bcase (dcq true (eqI (a0 + 1) (a0 + 1))) (bcase (inR .u8 a4) (bcase (inR .i64 a4) (bcase (dcq true (eqI a4 a4)) (bcase (inR .i64 (a4 + 1)) (bcase (inR .u8 (a4 + 1)) (bcase (inR .i64 (a4 + 1)) (bcase (dcq true (eqI (a0 + 1) (a0 + 1))) (t) False) False) False) False) False) False) False) False) False) False) False) False) False) False) False) (by kernel_rfl) Zs hn hi (fun Kv => tP_7_0 _ _ _ _ _ _ a0 a1 a2 a3 a4 a5 Kv) (fun t x => bcase_tt (inR_i64 (by omega) (by omega)) (bcase_tt (dcq_ne (by omega)) (bcase_tt (dcq_ne (by omega)) (bcase_tt (dcq_ne (by omega)) (bcase_tt (dcq_ne (by omega)) (bcase_tt (dcq_eq (by omega)) (bcase_tt (dcq_eq (by omega)) (bcase_tt (dcq_eq (by omega)) (bcase_tt (inR_u8 (by omega) (by omega)) (bcase_tt (inR_i64 (by omega) (by omega)) (bcase_tt (dcq_eq (by omega)) (bcase_tt (inR_i64 (by omega) (by omega)) (bcase_tt (inR_u8 (by omega) (by omega)) (bcase_tt (inR_i64 (by omega) (by omega)) (bcase_tt (dcq_eq (by omega)) (x)))))))))))))))) (by kernel_rfl) (by kernel_rfl) (by kernel_rfl) (by decide) (by decide) (by decide) ⟨[a4], 3, true, rfl⟩ hrow
theorem useP_8_0 {l : Nat → Bool} {n : Nat} {z : T Blk} (Zs : ZinP l n z) (hn : n ≤ 60) {i : Nat} (hi : i < n) (a0 : Int) (a1 : Int) (a2 : Int) (a3 : Int) (a4 : Int) (ha0 : 0 ≤ a0) (ha0' : a0 ≤ 170) (ha4 : 0 ≤ a4) (ha4' : a4 ≤ 170) (hrow : rowP [.int .i64 a4] = outP l i) : useTP l n z i [0] dP_8_0 (bP8 a0 a1 a2 a3 a4) (bP8 (a0 + 1) a4 a2 a3 (a4 + 1)) :=
  useGP (C := fun t => bcase (inR .i64 (a0 + 1)) (bcase (dcq false (eqI a0 (a0 + 1))) (bcase (dcq false (eqI a0 (a0 + 1))) (bcase (dcq false (eqI a0 (a0 + 1))) (bcase (dcq false (eqI a0 (a0 + 1))) (bcase (dcq true (eqI (a0 + 1) (a0 + 1))) (bcase (dcq true (eqI (a0 + 1) (a0 + 1))) (bcase (dcq true (eqI (a0 + 1) (a0 + 1))) (bcase (inR .u8 a4) (bcase (inR .i64 a4) (bcase (dcq true (eqI a4 a4)) (bcase (inR .i64 (a4 + 1)) (bcase (inR .u8 (a4 + 1)) (bcase (inR .i64 (a4 + 1)) (bcase (dcq true (eqI (a0 + 1) (a0 + 1))) (t) False) False) False) False) False) False) False) False) False) False) False) False) False) False) False) (by kernel_rfl) Zs hn hi (fun Kv => tP_8_0 _ _ _ _ _ _ a0 a1 a2 a3 a4 Kv) (fun t x => bcase_tt (inR_i64 (by omega) (by omega)) (bcase_tt (dcq_ne (by omega)) (bcase_tt (dcq_ne (by omega)) (bcase_tt (dcq_ne (by omega)) (bcase_tt (dcq_ne (by omega)) (bcase_tt (dcq_eq (by omega)) (bcase_tt (dcq_eq (by omega)) (bcase_tt (dcq_eq (by omega)) (bcase_tt (inR_u8 (by omega) (by omega)) (bcase_tt (inR_i64 (by omega) (by omega)) (bcase_tt (dcq_eq (by omega)) (bcase_tt (inR_i64 (by omega) (by omega)) (bcase_tt (inR_u8 (by omega) (by omega)) (bcase_tt (inR_i64 (by omega) (by omega)) (bcase_tt (dcq_eq (by omega)) (x)))))))))))))))) (by kernel_rfl) (by kernel_rfl) (by kernel_rfl) (by decide) (by decide) (by decide) ⟨[a4], 3, true, rfl⟩ hrow
theorem useP_3_0 {l : Nat → Bool} {n : Nat} {z : T Blk} (Zs : ZinP l n z) (hn : n ≤ 60) {i : Nat} (hi : i < n) (a0 : Int) (a1 : Int) (a2 : Int) (a3 : Int) (a4 : Int) (ha0 : 0 ≤ a0) (ha0' : a0 ≤ 170) (hrow : rowP [.int .i64 0] = outP l i) : useTP l n z i [0] dP_3_0 (bP3 a0 a1 a2 a3 a4) (bP7 (a0 + 1) 0 a0 a1 1 a4) :=
  useGP (C := fun t => bcase (inR .i64 (a0 + 1)) (bcase (dcq false (eqI a0 (a0 + 1))) (bcase (dcq false (eqI a0 (a0 + 1))) (bcase (dcq false (eqI 0 (a0 + 1))) (bcase (dcq false (eqI 0 (a0 + 1))) (bcase (dcq true (eqI (a0 + 1) (a0 + 1))) (bcase (dcq true (eqI (a0 + 1) (a0 + 1))) (bcase (dcq true (eqI (a0 + 1) (a0 + 1))) (bcase (dcq true (eqI (a0 + 1) (a0 + 1))) (t) False) False) False) False) False) False) False) False) False) (by kernel_rfl) Zs hn hi (fun Kv => tP_3_0 _ _ _ _ _ _ a0 a1 a2 a3 a4 Kv) (fun t x => bcase_tt (inR_i64 (by omega) (by omega)) (bcase_tt (dcq_ne (by omega)) (bcase_tt (dcq_ne (by omega)) (bcase_tt (dcq_ne (by omega)) (bcase_tt (dcq_ne (by omega)) (bcase_tt (dcq_eq (by omega)) (bcase_tt (dcq_eq (by omega)) (bcase_tt (dcq_eq (by omega)) (bcase_tt (dcq_eq (by omega)) (x)))))))))) (by kernel_rfl) (by kernel_rfl) (by kernel_rfl) (by decide) (by decide) (by decide) ⟨[0], 3, true, rfl⟩ hrow
end
end Go.Proofs.YtkfhjobebhdpoaaGreat
/- Stream: Run's loop over ticks, as a contract (the program of StreamAutomata). -/
set_option autoImplicit false
set_option maxRecDepth 1000000
set_option maxHeartbeats 2000000
set_option linter.unusedVariables false
namespace Go.Proofs.YtkfhjobebhdpoaaGreat
noncomputable section
open Go.X
inductive SP where
  | s0 (g : Nat → CV)
  | s1 (i : Nat) (a0 : Int) (a1 : Int) (g : Nat → CV)
  | s2 (i : Nat) (a0 : Int) (a1 : Int) (g : Nat → CV)
  | s3 (i : Nat) (a0 : Int) (a1 : Int) (a2 : Int) (a3 : Int) (a4 : Int) (g : Nat → CV)
  | s4 (i : Nat) (a0 : Int) (a1 : Int) (a2 : Int) (a3 : Int) (a4 : Int) (a5 : Int) (g : Nat → CV)
  | s5 (i : Nat) (a0 : Int) (a1 : Int) (a2 : Int) (a3 : Int) (a4 : Int) (a5 : Int) (g : Nat → CV)
  | s6 (i : Nat) (a0 : Int) (a1 : Int) (a2 : Int) (a3 : Int) (a4 : Int) (a5 : Int) (g : Nat → CV)
  | s7 (i : Nat) (a0 : Int) (a1 : Int) (a2 : Int) (a3 : Int) (a4 : Int) (a5 : Int) (g : Nat → CV)
  | s8 (i : Nat) (a0 : Int) (a1 : Int) (a2 : Int) (a3 : Int) (a4 : Int) (g : Nat → CV)
def SP.ok (l : Nat → Bool) (n : Nat) : SP → Prop
  | .s0 _ => True
  | .s1 i a0 a1 _ => 1 ≤ i ∧ i ≤ n ∧ nowP l i = 0 ∧ a0 = (i : Int) ∧ a0 = uP l i ∧ vP l i = 100
  | .s2 i a0 a1 _ => 1 ≤ i ∧ i ≤ n ∧ nowP l i = 1 ∧ a0 = (i : Int) ∧ a0 = uP l i ∧ vP l i = 100
  | .s3 i a0 a1 a2 a3 a4 _ => 1 ≤ i ∧ i ≤ n ∧ nowP l i = 0 ∧ a0 = (i : Int) ∧ uP l i = 0
  | .s4 i a0 a1 a2 a3 a4 a5 _ => 1 ≤ i ∧ i ≤ n ∧ nowP l i = 1 ∧ a0 = (i : Int) ∧ vP l i = 100
  | .s5 i a0 a1 a2 a3 a4 a5 _ => 1 ≤ i ∧ i ≤ n ∧ nowP l i = 1 ∧ a0 = (i : Int) ∧ a5 = vP l i
  | .s6 i a0 a1 a2 a3 a4 a5 _ => 1 ≤ i ∧ i ≤ n ∧ nowP l i = 0 ∧ a0 = (i : Int) ∧ uP l i = 0
  | .s7 i a0 a1 a2 a3 a4 a5 _ => 1 ≤ i ∧ i ≤ n ∧ nowP l i = 0 ∧ a0 = (i : Int) ∧ a4 = uP l i
  | .s8 i a0 a1 a2 a3 a4 _ => 1 ≤ i ∧ i ≤ n ∧ nowP l i = 1 ∧ a0 = (i : Int) ∧ a4 = vP l i
def SP.st (l : Nat → Bool) (n : Nat) (z : T Blk) : SP → ZS
  | .s0 g => ⟨eP n g .nils 0, lapp (rr0P (zrowsT 0 1 n) (zrowsT 100 1 n)) bP0, z, n0P⟩
  | .s1 i a0 a1 g => stP l n z i g (bP1 a0 a1)
  | .s2 i a0 a1 g => stP l n z i g (bP2 a0 a1)
  | .s3 i a0 a1 a2 a3 a4 g => stP l n z i g (bP3 a0 a1 a2 a3 a4)
  | .s4 i a0 a1 a2 a3 a4 a5 g => stP l n z i g (bP4 a0 a1 a2 a3 a4 a5)
  | .s5 i a0 a1 a2 a3 a4 a5 g => stP l n z i g (bP5 a0 a1 a2 a3 a4 a5)
  | .s6 i a0 a1 a2 a3 a4 a5 g => stP l n z i g (bP6 a0 a1 a2 a3 a4 a5)
  | .s7 i a0 a1 a2 a3 a4 a5 g => stP l n z i g (bP7 a0 a1 a2 a3 a4 a5)
  | .s8 i a0 a1 a2 a3 a4 g => stP l n z i g (bP8 a0 a1 a2 a3 a4)
def SP.er (l : Nat → Bool) (n : Nat) : SP → List (Nat × AV)
  | .s0 _ => eP n (ggP (zn 0) [bi (l 0)]) .nils 0
  | .s1 i _ _ _ => eP n (ggP (zn i) [bi (l i)]) (.slc n0P 0 i i false 1) i
  | .s2 i _ _ _ => eP n (ggP (zn i) [bi (l i)]) (.slc n0P 0 i i false 1) i
  | .s3 i _ _ _ _ _ _ => eP n (ggP (zn i) [bi (l i)]) (.slc n0P 0 i i false 1) i
  | .s4 i _ _ _ _ _ _ _ => eP n (ggP (zn i) [bi (l i)]) (.slc n0P 0 i i false 1) i
  | .s5 i _ _ _ _ _ _ _ => eP n (ggP (zn i) [bi (l i)]) (.slc n0P 0 i i false 1) i
  | .s6 i _ _ _ _ _ _ _ => eP n (ggP (zn i) [bi (l i)]) (.slc n0P 0 i i false 1) i
  | .s7 i _ _ _ _ _ _ _ => eP n (ggP (zn i) [bi (l i)]) (.slc n0P 0 i i false 1) i
  | .s8 i _ _ _ _ _ _ => eP n (ggP (zn i) [bi (l i)]) (.slc n0P 0 i i false 1) i
def SP.dr (l : Nat → Bool) (n : Nat) : SP → List Bool
  | .s0 _ => (cond (l 0) dP_0_1 dP_0_0)
  | .s1 i _ _ _ => cond (Nat.ble (i + 1) n) (cond (l i) dP_1_1 dP_1_0) [false]
  | .s2 i _ _ _ => cond (Nat.ble (i + 1) n) (cond (l i) dP_2_1 dP_2_0) [false]
  | .s3 i _ _ _ _ _ _ => cond (Nat.ble (i + 1) n) (cond (l i) dP_3_1 dP_3_0) [false]
  | .s4 i _ _ _ _ _ _ _ => cond (Nat.ble (i + 1) n) (cond (l i) dP_4_1 dP_4_0) [false]
  | .s5 i _ _ _ _ _ _ _ => cond (Nat.ble (i + 1) n) (cond (l i) dP_5_1 dP_5_0) [false]
  | .s6 i _ _ _ _ _ _ _ => cond (Nat.ble (i + 1) n) (cond (l i) dP_6_1 dP_6_0) [false]
  | .s7 i _ _ _ _ _ _ _ => cond (Nat.ble (i + 1) n) (cond (l i) dP_7_1 dP_7_0) [false]
  | .s8 i _ _ _ _ _ _ => cond (Nat.ble (i + 1) n) (cond (l i) dP_8_1 dP_8_0) [false]
def SP.mu (n : Nat) : SP → Nat
  | .s0 _ => n + 1
  | .s1 i _ _ _ => n - i
  | .s2 i _ _ _ => n - i
  | .s3 i _ _ _ _ _ _ => n - i
  | .s4 i _ _ _ _ _ _ _ => n - i
  | .s5 i _ _ _ _ _ _ _ => n - i
  | .s6 i _ _ _ _ _ _ _ => n - i
  | .s7 i _ _ _ _ _ _ _ => n - i
  | .s8 i _ _ _ _ _ _ => n - i
theorem pe_eP (n : Nat) (g g' : Nat → CV) (out : AV) (i : Nat) : Pe (eP n g out i) (eP n g' out i) :=
  .cons _ _ _ _ _ (.inl rfl) (.cons _ _ _ _ _ (.inl rfl) (.cons _ _ _ _ _ (.inl rfl) (.cons _ _ _ _ _ (.inl rfl) (.cons _ _ _ _ _ (.inr ⟨_, _, _, _, _, rfl, rfl⟩) (.cons _ _ _ _ _ (.inl rfl) (.cons _ _ _ _ _ (.inl rfl) .nil))))))
theorem done_P1 {l : Nat → Bool} {n : Nat} {z : T Blk} (Zs : ZinP l n z) (hn : n ≤ 60) (R : List (Nat × Nat × Blk)) (hR : R = [(n0P, n0P, .row (zrows 300 1 n) 22 true []), (30, 30, .row (zrowsT 0 1 n) 22 true []), (31, 31, .row (zrowsT 100 1 n) 22 true [])]) {env : Env} {h : H}
    (ho : obs [6, 7, 17] (actsOf (lapp R []) []) (lapp R []) [] env h = expsR n0P (kpOf (zoP l z n)) [(6, .nils), (7, .int .i64 (Int.ofNat 0)), (17, .slc n0P 0 n n false 1)] R [] [] (zoP l z n) [(some (.row (zrows 300 1 n) 22 true []), true), (some (.row (zrowsT 0 1 n) 22 true []), true), (some (.row (zrowsT 100 1 n) 22 true []), true)]) :
    ∃ σ, Abs n0P σ (finP l n z).env (finP l n z).h env h := by
  subst hR
  have hlit : okLit n0P 2097152 (lapp [(n0P, n0P, .row (zrows 300 1 n) 22 true []), (30, 30, .row (zrowsT 0 1 n) 22 true []), (31, 31, .row (zrowsT 100 1 n) 22 true [])] []) = true := okLit_row rfl (belP_O (by omega)) (okLit_row rfl (belP_I hn) (okLit_row rfl (belP_W hn) rfl))
  have k1 := keepIP Zs hn (i := n) (Zn := []) hlit (fun p hp => by cases hp)
  have k2 : renL (szs n0P (namesOf (lapp [(n0P, n0P, .row (zrows 300 1 n) 22 true []), (30, 30, .row (zrowsT 0 1 n) 22 true []), (31, 31, .row (zrowsT 100 1 n) 22 true [])] []) []) (kpOf (zoP l z n))) (zrows 300 1 n) = zrows 300 1 n := by
    exact zrows_keep fun j hj => szs_zone hlit (zgrow_new hj) (fun p hp e => by cases hp)
  rw [expsR_eq] at ho
  · exact NewOK.abs (t := finP l n z) (A := lapp [(n0P, n0P, .row (zrows 300 1 n) 22 true []), (30, 30, .row (zrowsT 0 1 n) 22 true []), (31, 31, .row (zrowsT 100 1 n) 22 true [])] []) (Z := []) (z := zoP l z n)
      ⟨rfl, rfl, by show 1049465 ≤ 2097152; decide, rfl, hlit, rfl, rfl, (fun p hp => (by cases hp)), List.nodup_nil, zoP_ok Zs (by omega)⟩ rfl rfl rfl rfl ho
  · show _ = [(some (Blk.row (renL _ _) _ _ _), true), (some (Blk.row (renL _ _) _ _ _), true), (some (Blk.row (renL _ _) _ _ _), true)]
    rw [k2, k1.1, k1.2]; rfl
theorem belP_I0 {n : Nat} (hn : n ≤ 60) : belL n0P (zrowsT 0 1 n) = true := belL_slc _ (fun j => zn (0 + j)) _ _ _ fun j hj => by have := List.mem_range.1 hj; rw [zn_eq]; show _ < 1049465; omega
theorem belP_W0 {n : Nat} (hn : n ≤ 60) : belL n0P (zrowsT 100 1 n) = true := belL_slc _ (fun j => zn (100 + j)) _ _ _ fun j hj => by have := List.mem_range.1 hj; rw [zn_eq]; show _ < 1049465; omega
theorem loopP_good {C : Cfg} (G : X.Good C Tryz.prog) (hg : C.gl = fun _ => none) (hm : C.mask 14 = mask 14) {l : Nat → Bool} {n : Nat} (hn1 : 1 ≤ n) (hn : n ≤ 60) {z : T Blk} (Zs : ZinP l n z) (g : Nat → CV) :
    X.Good (C.addLc 14 22 (lcZ (S0 := Unit) (fun _ => True) (lmap (fun p => p.1) (eP n g .nils 0)) (lmap (fun p => p.1) (lapp (rr0P (zrowsT 0 1 n) (zrowsT 100 1 n)) bP0)) (fun _ => SP.st l n z (.s0 g)) (fun _ => (.ext 2, finP l n z)))) Tryz.prog := by
  refine G.addZR good1 (by rw [hg]; rfl) (S := SP) (SP.dr l n) (n0 := n0P) (ι := fun _ => .s0 g) (ok := SP.ok l n) (St := SP.st l n z) (SP.er l n) (μ := SP.mu n) (fin := fun _ => (.ext 2, finP l n z)) (fuel := F) hm.symm (by rfl) ?_ ?_ ?_ (fun g i h => by rw [hg] at h; cases h)
  · intro s _
    cases s <;> exact pe_eP ..
  · intro _ _
    refine ⟨trivial, rfl, rfl, ⟨rfl, ?_, ?_, ?_⟩, by show 1049465 ≤ 2097152; decide, rfl, rfl⟩
    · show belEs n0P (eP n g .nils 0) = true
      kernel_rfl
    · exact blksN_app (R := rr0P (zrowsT 0 1 n) (zrowsT 100 1 n)) blksP0 (blksN_row (by show 30 < 1049465; decide) (belP_I0 hn) (blksN_row (by show 31 < 1049465; decide) (belP_W0 hn) rfl))
    · intro x k h
      obtain ⟨a, b⟩ := Zs.only x k h
      exact ⟨b, by rw [zn_eq]; show _ < 1049465; omega, by rw [zn_eq]; show _ < 1000000000000; omega⟩
  · intro s hs
    rw [hm]
    cases s with
    | s0 g0 =>
      have hc := leP l 0
      have z0 : nowP l 0 = 0 := rfl
      have z1 : uP l 0 = 0 := rfl
      have z2 : vP l 0 = 100 := rfl
      cases hb : l 0 with
      | false =>
        have q1 := stepP_false0 hb
        refine ⟨?_⟩
        show xcode C1 Tryz.prog F 14 (loopC Tryz.prog 14 22) (mask 14) (tmpsN Tryz.prog 14) (mkE (eP n (ggP (zn 0) [bi (l 0)]) .nils 0)) _ (cond (l 0) dP_0_1 dP_0_0) _
        rw [hb]
        exact useP_0_0 Zs hn (by omega) (row1_eq (by omega)) (cellI (i := 0) (by omega) (getP0 ..) _) (cellR (zgP0 ..) (by rw [Zs.ins 0 (by omega)]; unfold inRowP; rw [hb]; rfl) _ rfl)
          (fun env h ds σ ab => ⟨.s1 1 1 0 _, σ, ⟨Nat.le_refl _, hn1, by omega, by omega, by omega, by omega⟩, (by show n - 1 < n + 1; omega), rfl, ab⟩)
      | true =>
        have q1 := stepP_true0 hb
        refine ⟨?_⟩
        show xcode C1 Tryz.prog F 14 (loopC Tryz.prog 14 22) (mask 14) (tmpsN Tryz.prog 14) (mkE (eP n (ggP (zn 0) [bi (l 0)]) .nils 0)) _ (cond (l 0) dP_0_1 dP_0_0) _
        rw [hb]
        exact useP_0_1 Zs hn (by omega) (row1_eq (by omega)) (cellI (i := 0) (by omega) (getP0 ..) _) (cellR (zgP0 ..) (by rw [Zs.ins 0 (by omega)]; unfold inRowP; rw [hb]; rfl) _ rfl)
          (fun env h ds σ ab => ⟨.s2 1 1 0 _, σ, ⟨Nat.le_refl _, hn1, by omega, by omega, by omega, by omega⟩, (by show n - 1 < n + 1; omega), rfl, ab⟩)
    | s1 i a0 a1 g0 =>
      obtain ⟨h1, h2, p0, p1, p2, p3⟩ := hs
      have hc := leP l i
      by_cases hlt : i < n
      · cases hb : l i with
        | false =>
          have q1 := stepP_false hb
          refine ⟨?_⟩
          show xcode C1 Tryz.prog F 14 (loopC Tryz.prog 14 22) (mask 14) (tmpsN Tryz.prog 14) (mkE (eP n (ggP (zn i) [bi (l i)]) (.slc n0P 0 i i false 1) i)) _ (cond (Nat.ble (i + 1) n) (cond (l i) dP_1_1 dP_1_0) [false]) _
          rw [hb, ble_t hlt]
          exact useP_1_0 Zs hn hlt a0 a1 (by omega) (by omega) (row1_eq (by omega)) (cellI hlt (getP1 ..) _) (cellR (zgP1 ..) (by rw [zoP_low (by omega), Zs.ins i hlt]; unfold inRowP; rw [hb]; rfl) _ rfl)
            (fun env h ds σ ab => ⟨.s1 (i + 1) (a0 + 1) a0 _, σ, ⟨by omega, hlt, by omega, by omega, by omega, by omega⟩, (by show n - (i + 1) < n - i; omega), rfl, ab⟩)
        | true =>
          have q1 := stepP_true hb
          refine ⟨?_⟩
          show xcode C1 Tryz.prog F 14 (loopC Tryz.prog 14 22) (mask 14) (tmpsN Tryz.prog 14) (mkE (eP n (ggP (zn i) [bi (l i)]) (.slc n0P 0 i i false 1) i)) _ (cond (Nat.ble (i + 1) n) (cond (l i) dP_1_1 dP_1_0) [false]) _
          rw [hb, ble_t hlt]
          exact useP_1_1 Zs hn hlt a0 a1 (by omega) (by omega) (row1_eq (by omega)) (cellI hlt (getP1 ..) _) (cellR (zgP1 ..) (by rw [zoP_low (by omega), Zs.ins i hlt]; unfold inRowP; rw [hb]; rfl) _ rfl)
            (fun env h ds σ ab => ⟨.s2 (i + 1) (a0 + 1) a0 _, σ, ⟨by omega, hlt, by omega, by omega, by omega, by omega⟩, (by show n - (i + 1) < n - i; omega), rfl, ab⟩)
      · have hin : i = n := by omega
        subst hin
        refine ⟨?_⟩
        show xcode C1 Tryz.prog F 14 (loopC Tryz.prog 14 22) (mask 14) (tmpsN Tryz.prog 14) (mkE (eP i (ggP (zn i) [bi (l i)]) (.slc n0P 0 i i false 1) i)) _ (cond (Nat.ble (i + 1) i) (cond (l i) dP_1_1 dP_1_0) [false]) _
        rw [ble_f (Nat.lt_irrefl i)]
        exact round_use2 good1.spl (fun Kv => xP_1 (zoP l z i) (zrowsT 0 1 i) (zrowsT 100 1 i) i i _ a0 a1 Kv)
          (bcase_tt (dcq_ge (by omega)) (fun env h ds ho => (done_P1 Zs hn _ rfl ho).elim fun σ ab => ⟨σ, rfl, ab⟩))
    | s2 i a0 a1 g0 =>
      obtain ⟨h1, h2, p0, p1, p2, p3⟩ := hs
      have hc := leP l i
      by_cases hlt : i < n
      · cases hb : l i with
        | false =>
          have q1 := stepP_false hb
          refine ⟨?_⟩
          show xcode C1 Tryz.prog F 14 (loopC Tryz.prog 14 22) (mask 14) (tmpsN Tryz.prog 14) (mkE (eP n (ggP (zn i) [bi (l i)]) (.slc n0P 0 i i false 1) i)) _ (cond (Nat.ble (i + 1) n) (cond (l i) dP_2_1 dP_2_0) [false]) _
          rw [hb, ble_t hlt]
          exact useP_2_0 Zs hn hlt a0 a1 (by omega) (by omega) (row1_eq (by omega)) (cellI hlt (getP2 ..) _) (cellR (zgP2 ..) (by rw [zoP_low (by omega), Zs.ins i hlt]; unfold inRowP; rw [hb]; rfl) _ rfl)
            (fun env h ds σ ab => ⟨.s8 (i + 1) (a0 + 1) 100 a0 a1 101 _, σ, ⟨by omega, hlt, by omega, by omega, by omega⟩, (by show n - (i + 1) < n - i; omega), rfl, ab⟩)
        | true =>
          have q1 := stepP_true hb
          refine ⟨?_⟩
          show xcode C1 Tryz.prog F 14 (loopC Tryz.prog 14 22) (mask 14) (tmpsN Tryz.prog 14) (mkE (eP n (ggP (zn i) [bi (l i)]) (.slc n0P 0 i i false 1) i)) _ (cond (Nat.ble (i + 1) n) (cond (l i) dP_2_1 dP_2_0) [false]) _
          rw [hb, ble_t hlt]
          exact useP_2_1 Zs hn hlt a0 a1 (by omega) (by omega) (row1_eq (by omega)) (cellI hlt (getP2 ..) _) (cellR (zgP2 ..) (by rw [zoP_low (by omega), Zs.ins i hlt]; unfold inRowP; rw [hb]; rfl) _ rfl)
            (fun env h ds σ ab => ⟨.s3 (i + 1) (a0 + 1) 100 a0 a1 101 _, σ, ⟨by omega, hlt, by omega, by omega, by omega⟩, (by show n - (i + 1) < n - i; omega), rfl, ab⟩)
      · have hin : i = n := by omega
        subst hin
        refine ⟨?_⟩
        show xcode C1 Tryz.prog F 14 (loopC Tryz.prog 14 22) (mask 14) (tmpsN Tryz.prog 14) (mkE (eP i (ggP (zn i) [bi (l i)]) (.slc n0P 0 i i false 1) i)) _ (cond (Nat.ble (i + 1) i) (cond (l i) dP_2_1 dP_2_0) [false]) _
        rw [ble_f (Nat.lt_irrefl i)]
        exact round_use2 good1.spl (fun Kv => xP_2 (zoP l z i) (zrowsT 0 1 i) (zrowsT 100 1 i) i i _ a0 a1 Kv)
          (bcase_tt (dcq_ge (by omega)) (fun env h ds ho => (done_P1 Zs hn _ rfl ho).elim fun σ ab => ⟨σ, rfl, ab⟩))
    | s3 i a0 a1 a2 a3 a4 g0 =>
      obtain ⟨h1, h2, p0, p1, p2⟩ := hs
      have hc := leP l i
      by_cases hlt : i < n
      · cases hb : l i with
        | false =>
          have q1 := stepP_false hb
          refine ⟨?_⟩
          show xcode C1 Tryz.prog F 14 (loopC Tryz.prog 14 22) (mask 14) (tmpsN Tryz.prog 14) (mkE (eP n (ggP (zn i) [bi (l i)]) (.slc n0P 0 i i false 1) i)) _ (cond (Nat.ble (i + 1) n) (cond (l i) dP_3_1 dP_3_0) [false]) _
          rw [hb, ble_t hlt]
          exact useP_3_0 Zs hn hlt a0 a1 a2 a3 a4 (by omega) (by omega) (row1_eq (by omega)) (cellI hlt (getP3 ..) _) (cellR (zgP3 ..) (by rw [zoP_low (by omega), Zs.ins i hlt]; unfold inRowP; rw [hb]; rfl) _ rfl)
            (fun env h ds σ ab => ⟨.s7 (i + 1) (a0 + 1) 0 a0 a1 1 a4 _, σ, ⟨by omega, hlt, by omega, by omega, by omega⟩, (by show n - (i + 1) < n - i; omega), rfl, ab⟩)
        | true =>
          have q1 := stepP_true hb
          refine ⟨?_⟩
          show xcode C1 Tryz.prog F 14 (loopC Tryz.prog 14 22) (mask 14) (tmpsN Tryz.prog 14) (mkE (eP n (ggP (zn i) [bi (l i)]) (.slc n0P 0 i i false 1) i)) _ (cond (Nat.ble (i + 1) n) (cond (l i) dP_3_1 dP_3_0) [false]) _
          rw [hb, ble_t hlt]
          exact useP_3_1 Zs hn hlt a0 a1 a2 a3 a4 (by omega) (by omega) (row1_eq (by omega)) (cellI hlt (getP3 ..) _) (cellR (zgP3 ..) (by rw [zoP_low (by omega), Zs.ins i hlt]; unfold inRowP; rw [hb]; rfl) _ rfl)
            (fun env h ds σ ab => ⟨.s4 (i + 1) (a0 + 1) 0 a0 a1 1 a4 _, σ, ⟨by omega, hlt, by omega, by omega, by omega⟩, (by show n - (i + 1) < n - i; omega), rfl, ab⟩)
      · have hin : i = n := by omega
        subst hin
        refine ⟨?_⟩
        show xcode C1 Tryz.prog F 14 (loopC Tryz.prog 14 22) (mask 14) (tmpsN Tryz.prog 14) (mkE (eP i (ggP (zn i) [bi (l i)]) (.slc n0P 0 i i false 1) i)) _ (cond (Nat.ble (i + 1) i) (cond (l i) dP_3_1 dP_3_0) [false]) _
        rw [ble_f (Nat.lt_irrefl i)]
        exact round_use2 good1.spl (fun Kv => xP_3 (zoP l z i) (zrowsT 0 1 i) (zrowsT 100 1 i) i i _ a0 a1 a2 a3 a4 Kv)
          (bcase_tt (dcq_ge (by omega)) (fun env h ds ho => (done_P1 Zs hn _ rfl ho).elim fun σ ab => ⟨σ, rfl, ab⟩))
    | s4 i a0 a1 a2 a3 a4 a5 g0 =>
      obtain ⟨h1, h2, p0, p1, p2⟩ := hs
      have hc := leP l i
      by_cases hlt : i < n
      · cases hb : l i with
        | false =>
          have q1 := stepP_false hb
          refine ⟨?_⟩
          show xcode C1 Tryz.prog F 14 (loopC Tryz.prog 14 22) (mask 14) (tmpsN Tryz.prog 14) (mkE (eP n (ggP (zn i) [bi (l i)]) (.slc n0P 0 i i false 1) i)) _ (cond (Nat.ble (i + 1) n) (cond (l i) dP_4_1 dP_4_0) [false]) _
          rw [hb, ble_t hlt]
          exact useP_4_0 Zs hn hlt a0 a1 a2 a3 a4 a5 (by omega) (by omega) (row1_eq (by omega)) (cellI hlt (getP4 ..) _) (cellR (zgP4 ..) (by rw [zoP_low (by omega), Zs.ins i hlt]; unfold inRowP; rw [hb]; rfl) _ rfl)
            (fun env h ds σ ab => ⟨.s5 (i + 1) (a0 + 1) 100 a0 a1 a4 101 _, σ, ⟨by omega, hlt, by omega, by omega, by omega⟩, (by show n - (i + 1) < n - i; omega), rfl, ab⟩)
        | true =>
          have q1 := stepP_true hb
          refine ⟨?_⟩
          show xcode C1 Tryz.prog F 14 (loopC Tryz.prog 14 22) (mask 14) (tmpsN Tryz.prog 14) (mkE (eP n (ggP (zn i) [bi (l i)]) (.slc n0P 0 i i false 1) i)) _ (cond (Nat.ble (i + 1) n) (cond (l i) dP_4_1 dP_4_0) [false]) _
          rw [hb, ble_t hlt]
          exact useP_4_1 Zs hn hlt a0 a1 a2 a3 a4 a5 (by omega) (by omega) (row1_eq (by omega)) (cellI hlt (getP4 ..) _) (cellR (zgP4 ..) (by rw [zoP_low (by omega), Zs.ins i hlt]; unfold inRowP; rw [hb]; rfl) _ rfl)
            (fun env h ds σ ab => ⟨.s6 (i + 1) (a0 + 1) 100 a0 a1 a4 101 _, σ, ⟨by omega, hlt, by omega, by omega, by omega⟩, (by show n - (i + 1) < n - i; omega), rfl, ab⟩)
      · have hin : i = n := by omega
        subst hin
        refine ⟨?_⟩
        show xcode C1 Tryz.prog F 14 (loopC Tryz.prog 14 22) (mask 14) (tmpsN Tryz.prog 14) (mkE (eP i (ggP (zn i) [bi (l i)]) (.slc n0P 0 i i false 1) i)) _ (cond (Nat.ble (i + 1) i) (cond (l i) dP_4_1 dP_4_0) [false]) _
        rw [ble_f (Nat.lt_irrefl i)]
        exact round_use2 good1.spl (fun Kv => xP_4 (zoP l z i) (zrowsT 0 1 i) (zrowsT 100 1 i) i i _ a0 a1 a2 a3 a4 a5 Kv)
          (bcase_tt (dcq_ge (by omega)) (fun env h ds ho => (done_P1 Zs hn _ rfl ho).elim fun σ ab => ⟨σ, rfl, ab⟩))
    | s5 i a0 a1 a2 a3 a4 a5 g0 =>
      obtain ⟨h1, h2, p0, p1, p2⟩ := hs
      have hc := leP l i
      by_cases hlt : i < n
      · cases hb : l i with
        | false =>
          have q1 := stepP_false hb
          refine ⟨?_⟩
          show xcode C1 Tryz.prog F 14 (loopC Tryz.prog 14 22) (mask 14) (tmpsN Tryz.prog 14) (mkE (eP n (ggP (zn i) [bi (l i)]) (.slc n0P 0 i i false 1) i)) _ (cond (Nat.ble (i + 1) n) (cond (l i) dP_5_1 dP_5_0) [false]) _
          rw [hb, ble_t hlt]
          exact useP_5_0 Zs hn hlt a0 a1 a2 a3 a4 a5 (by omega) (by omega) (by omega) (by omega) (row1_eq (by omega)) (cellI hlt (getP5 ..) _) (cellR (zgP5 ..) (by rw [zoP_low (by omega), Zs.ins i hlt]; unfold inRowP; rw [hb]; rfl) _ rfl)
            (fun env h ds σ ab => ⟨.s5 (i + 1) (a0 + 1) a5 a2 a3 a4 (a5 + 1) _, σ, ⟨by omega, hlt, by omega, by omega, by omega⟩, (by show n - (i + 1) < n - i; omega), rfl, ab⟩)
        | true =>
          have q1 := stepP_true hb
          refine ⟨?_⟩
          show xcode C1 Tryz.prog F 14 (loopC Tryz.prog 14 22) (mask 14) (tmpsN Tryz.prog 14) (mkE (eP n (ggP (zn i) [bi (l i)]) (.slc n0P 0 i i false 1) i)) _ (cond (Nat.ble (i + 1) n) (cond (l i) dP_5_1 dP_5_0) [false]) _
          rw [hb, ble_t hlt]
          exact useP_5_1 Zs hn hlt a0 a1 a2 a3 a4 a5 (by omega) (by omega) (by omega) (by omega) (row1_eq (by omega)) (cellI hlt (getP5 ..) _) (cellR (zgP5 ..) (by rw [zoP_low (by omega), Zs.ins i hlt]; unfold inRowP; rw [hb]; rfl) _ rfl)
            (fun env h ds σ ab => ⟨.s6 (i + 1) (a0 + 1) a5 a2 a3 a4 (a5 + 1) _, σ, ⟨by omega, hlt, by omega, by omega, by omega⟩, (by show n - (i + 1) < n - i; omega), rfl, ab⟩)
      · have hin : i = n := by omega
        subst hin
        refine ⟨?_⟩
        show xcode C1 Tryz.prog F 14 (loopC Tryz.prog 14 22) (mask 14) (tmpsN Tryz.prog 14) (mkE (eP i (ggP (zn i) [bi (l i)]) (.slc n0P 0 i i false 1) i)) _ (cond (Nat.ble (i + 1) i) (cond (l i) dP_5_1 dP_5_0) [false]) _
        rw [ble_f (Nat.lt_irrefl i)]
        exact round_use2 good1.spl (fun Kv => xP_5 (zoP l z i) (zrowsT 0 1 i) (zrowsT 100 1 i) i i _ a0 a1 a2 a3 a4 a5 Kv)
          (bcase_tt (dcq_ge (by omega)) (fun env h ds ho => (done_P1 Zs hn _ rfl ho).elim fun σ ab => ⟨σ, rfl, ab⟩))
    | s6 i a0 a1 a2 a3 a4 a5 g0 =>
      obtain ⟨h1, h2, p0, p1, p2⟩ := hs
      have hc := leP l i
      by_cases hlt : i < n
      · cases hb : l i with
        | false =>
          have q1 := stepP_false hb
          refine ⟨?_⟩
          show xcode C1 Tryz.prog F 14 (loopC Tryz.prog 14 22) (mask 14) (tmpsN Tryz.prog 14) (mkE (eP n (ggP (zn i) [bi (l i)]) (.slc n0P 0 i i false 1) i)) _ (cond (Nat.ble (i + 1) n) (cond (l i) dP_6_1 dP_6_0) [false]) _
          rw [hb, ble_t hlt]
          exact useP_6_0 Zs hn hlt a0 a1 a2 a3 a4 a5 (by omega) (by omega) (row1_eq (by omega)) (cellI hlt (getP6 ..) _) (cellR (zgP6 ..) (by rw [zoP_low (by omega), Zs.ins i hlt]; unfold inRowP; rw [hb]; rfl) _ rfl)
            (fun env h ds σ ab => ⟨.s7 (i + 1) (a0 + 1) 0 a0 a1 1 a5 _, σ, ⟨by omega, hlt, by omega, by omega, by omega⟩, (by show n - (i + 1) < n - i; omega), rfl, ab⟩)
        | true =>
          have q1 := stepP_true hb
          refine ⟨?_⟩
          show xcode C1 Tryz.prog F 14 (loopC Tryz.prog 14 22) (mask 14) (tmpsN Tryz.prog 14) (mkE (eP n (ggP (zn i) [bi (l i)]) (.slc n0P 0 i i false 1) i)) _ (cond (Nat.ble (i + 1) n) (cond (l i) dP_6_1 dP_6_0) [false]) _
          rw [hb, ble_t hlt]
          exact useP_6_1 Zs hn hlt a0 a1 a2 a3 a4 a5 (by omega) (by omega) (row1_eq (by omega)) (cellI hlt (getP6 ..) _) (cellR (zgP6 ..) (by rw [zoP_low (by omega), Zs.ins i hlt]; unfold inRowP; rw [hb]; rfl) _ rfl)
            (fun env h ds σ ab => ⟨.s4 (i + 1) (a0 + 1) 0 a0 a1 1 a5 _, σ, ⟨by omega, hlt, by omega, by omega, by omega⟩, (by show n - (i + 1) < n - i; omega), rfl, ab⟩)
      · have hin : i = n := by omega
        subst hin
        refine ⟨?_⟩
        show xcode C1 Tryz.prog F 14 (loopC Tryz.prog 14 22) (mask 14) (tmpsN Tryz.prog 14) (mkE (eP i (ggP (zn i) [bi (l i)]) (.slc n0P 0 i i false 1) i)) _ (cond (Nat.ble (i + 1) i) (cond (l i) dP_6_1 dP_6_0) [false]) _
        rw [ble_f (Nat.lt_irrefl i)]
        exact round_use2 good1.spl (fun Kv => xP_6 (zoP l z i) (zrowsT 0 1 i) (zrowsT 100 1 i) i i _ a0 a1 a2 a3 a4 a5 Kv)
          (bcase_tt (dcq_ge (by omega)) (fun env h ds ho => (done_P1 Zs hn _ rfl ho).elim fun σ ab => ⟨σ, rfl, ab⟩))
    | s7 i a0 a1 a2 a3 a4 a5 g0 =>
      obtain ⟨h1, h2, p0, p1, p2⟩ := hs
      have hc := leP l i
      by_cases hlt : i < n
      · cases hb : l i with
        | false =>
          have q1 := stepP_false hb
          refine ⟨?_⟩
          show xcode C1 Tryz.prog F 14 (loopC Tryz.prog 14 22) (mask 14) (tmpsN Tryz.prog 14) (mkE (eP n (ggP (zn i) [bi (l i)]) (.slc n0P 0 i i false 1) i)) _ (cond (Nat.ble (i + 1) n) (cond (l i) dP_7_1 dP_7_0) [false]) _
          rw [hb, ble_t hlt]
          exact useP_7_0 Zs hn hlt a0 a1 a2 a3 a4 a5 (by omega) (by omega) (by omega) (by omega) (row1_eq (by omega)) (cellI hlt (getP7 ..) _) (cellR (zgP7 ..) (by rw [zoP_low (by omega), Zs.ins i hlt]; unfold inRowP; rw [hb]; rfl) _ rfl)
            (fun env h ds σ ab => ⟨.s7 (i + 1) (a0 + 1) a4 a2 a3 (a4 + 1) a5 _, σ, ⟨by omega, hlt, by omega, by omega, by omega⟩, (by show n - (i + 1) < n - i; omega), rfl, ab⟩)
        | true =>
          have q1 := stepP_true hb
          refine ⟨?_⟩
          show xcode C1 Tryz.prog F 14 (loopC Tryz.prog 14 22) (mask 14) (tmpsN Tryz.prog 14) (mkE (eP n (ggP (zn i) [bi (l i)]) (.slc n0P 0 i i false 1) i)) _ (cond (Nat.ble (i + 1) n) (cond (l i) dP_7_1 dP_7_0) [false]) _
          rw [hb, ble_t hlt]
          exact useP_7_1 Zs hn hlt a0 a1 a2 a3 a4 a5 (by omega) (by omega) (by omega) (by omega) (row1_eq (by omega)) (cellI hlt (getP7 ..) _) (cellR (zgP7 ..) (by rw [zoP_low (by omega), Zs.ins i hlt]; unfold inRowP; rw [hb]; rfl) _ rfl)
            (fun env h ds σ ab => ⟨.s4 (i + 1) (a0 + 1) a4 a2 a3 (a4 + 1) a5 _, σ, ⟨by omega, hlt, by omega, by omega, by omega⟩, (by show n - (i + 1) < n - i; omega), rfl, ab⟩)
      · have hin : i = n := by omega
        subst hin
        refine ⟨?_⟩
        show xcode C1 Tryz.prog F 14 (loopC Tryz.prog 14 22) (mask 14) (tmpsN Tryz.prog 14) (mkE (eP i (ggP (zn i) [bi (l i)]) (.slc n0P 0 i i false 1) i)) _ (cond (Nat.ble (i + 1) i) (cond (l i) dP_7_1 dP_7_0) [false]) _
        rw [ble_f (Nat.lt_irrefl i)]
        exact round_use2 good1.spl (fun Kv => xP_7 (zoP l z i) (zrowsT 0 1 i) (zrowsT 100 1 i) i i _ a0 a1 a2 a3 a4 a5 Kv)
          (bcase_tt (dcq_ge (by omega)) (fun env h ds ho => (done_P1 Zs hn _ rfl ho).elim fun σ ab => ⟨σ, rfl, ab⟩))
    | s8 i a0 a1 a2 a3 a4 g0 =>
      obtain ⟨h1, h2, p0, p1, p2⟩ := hs
      have hc := leP l i
      by_cases hlt : i < n
      · cases hb : l i with
        | false =>
          have q1 := stepP_false hb
          refine ⟨?_⟩
          show xcode C1 Tryz.prog F 14 (loopC Tryz.prog 14 22) (mask 14) (tmpsN Tryz.prog 14) (mkE (eP n (ggP (zn i) [bi (l i)]) (.slc n0P 0 i i false 1) i)) _ (cond (Nat.ble (i + 1) n) (cond (l i) dP_8_1 dP_8_0) [false]) _
          rw [hb, ble_t hlt]
          exact useP_8_0 Zs hn hlt a0 a1 a2 a3 a4 (by omega) (by omega) (by omega) (by omega) (row1_eq (by omega)) (cellI hlt (getP8 ..) _) (cellR (zgP8 ..) (by rw [zoP_low (by omega), Zs.ins i hlt]; unfold inRowP; rw [hb]; rfl) _ rfl)
            (fun env h ds σ ab => ⟨.s8 (i + 1) (a0 + 1) a4 a2 a3 (a4 + 1) _, σ, ⟨by omega, hlt, by omega, by omega, by omega⟩, (by show n - (i + 1) < n - i; omega), rfl, ab⟩)
        | true =>
          have q1 := stepP_true hb
          refine ⟨?_⟩
          show xcode C1 Tryz.prog F 14 (loopC Tryz.prog 14 22) (mask 14) (tmpsN Tryz.prog 14) (mkE (eP n (ggP (zn i) [bi (l i)]) (.slc n0P 0 i i false 1) i)) _ (cond (Nat.ble (i + 1) n) (cond (l i) dP_8_1 dP_8_0) [false]) _
          rw [hb, ble_t hlt]
          exact useP_8_1 Zs hn hlt a0 a1 a2 a3 a4 (by omega) (by omega) (by omega) (by omega) (row1_eq (by omega)) (cellI hlt (getP8 ..) _) (cellR (zgP8 ..) (by rw [zoP_low (by omega), Zs.ins i hlt]; unfold inRowP; rw [hb]; rfl) _ rfl)
            (fun env h ds σ ab => ⟨.s3 (i + 1) (a0 + 1) a4 a2 a3 (a4 + 1) _, σ, ⟨by omega, hlt, by omega, by omega, by omega⟩, (by show n - (i + 1) < n - i; omega), rfl, ab⟩)
      · have hin : i = n := by omega
        subst hin
        refine ⟨?_⟩
        show xcode C1 Tryz.prog F 14 (loopC Tryz.prog 14 22) (mask 14) (tmpsN Tryz.prog 14) (mkE (eP i (ggP (zn i) [bi (l i)]) (.slc n0P 0 i i false 1) i)) _ (cond (Nat.ble (i + 1) i) (cond (l i) dP_8_1 dP_8_0) [false]) _
        rw [ble_f (Nat.lt_irrefl i)]
        exact round_use2 good1.spl (fun Kv => xP_8 (zoP l z i) (zrowsT 0 1 i) (zrowsT 100 1 i) i i _ a0 a1 a2 a3 a4 Kv)
          (bcase_tt (dcq_ge (by omega)) (fun env h ds ho => (done_P1 Zs hn _ rfl ho).elim fun σ ab => ⟨σ, rfl, ab⟩))
end
end Go.Proofs.YtkfhjobebhdpoaaGreat

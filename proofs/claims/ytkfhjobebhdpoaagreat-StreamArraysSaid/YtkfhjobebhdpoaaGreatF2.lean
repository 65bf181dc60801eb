/- Stream: what the kernel tells of StreamArrays with 2 columns. -/
import Derived.Test.YtkfhjobebhdpoaaGreatB2
set_option linter.unusedVariables false
set_option linter.unusedSimpArgs false
set_option autoImplicit false
set_option maxRecDepth 1000000
set_option maxHeartbeats 2000000
set_option linter.unusedVariables false
namespace Go.Proofs.YtkfhjobebhdpoaaGreat
noncomputable section
open Go.X
theorem wokA2_0 (x0 : Int) (x1 : Int) (hx0 : I8 x0) (hx1 : I8 x1) {t : Prop} (h : t) : wA2_0 x0 x1 t := by
  have ha : (0 : Int) ≤ 0 ∧ (0 : Int) ≤ 1000 := by omega
  unfold wA2_0
  exact cE_ok <| cE_ok <| cE_ok <| cW_ok <| cU_ok hx0 <| cA_ok hx0 i8_0 <| cZ_ok (i8_zs _ _) <| cE_ok <| cE_ok <| cE_ok <| cE_ok <| cW_ok <| cU_ok hx1 <| cA_ok hx1 i8_0 <| cZ_ok (i8_zs _ _) <| cE_ok <| cE_ok <| cE_ok <| cE_ok <| cE_ok <| cE_ok <| cE_ok <| cE_ok <| cW_ok <| cU_ok hx0 <| cA_ok i8_3 hx0 <| cZ_ok (i8_zs _ _) <| cE_ok <| cE_ok <| cE_ok <| cE_ok <| cE_ok <| cE_ok <| cE_ok <| cW_ok <| cU_ok (i8_zs _ _) <| cM_ok (i8_zs _ _) <| cZ_ok (i8_zm _) <| cE_ok <| cW_ok <| cU_ok (i8_zm _) <| cW_ok <| cU_ok hx1 <| cA_ok (i8_zm _) hx1 <| cZ_ok (i8_zs _ _) <| cE_ok <| h
theorem wokA2_1 (a0 : Int) (a1 : Int) (a2 : Int) (a3 : Int) (a4 : Int) (a5 : Int) (a6 : Int) (x0 : Int) (x1 : Int) (hx0 : I8 x0) (hx1 : I8 x1) (ha1 : I8 a1) (ha2 : I8 a2) (ha : 0 ≤ a0 ∧ a0 ≤ 1000) {t : Prop} (h : t) : wA2_1 a0 a1 a2 a3 a4 a5 a6 x0 x1 t := by
  unfold wA2_1
  exact cT_ok ha <| cT_ok ha <| cS_ok hx0 ha1 <| cE_ok <| cQ_ok <| cT_ok ha <| cS_ok hx1 ha2 <| cE_ok <| cQ_ok <| cN_ok <| cN_ok <| cQ_ok <| cE_ok <| cE_ok <| cT_ok ha <| cE_ok <| cQ_ok <| cW_ok <| cU_ok hx0 <| cA_ok i8_3 hx0 <| cZ_ok (i8_zs _ _) <| cE_ok <| cE_ok <| cE_ok <| cT_ok ha <| cW_ok <| cU_ok (i8_zs _ _) <| cM_ok (i8_zs _ _) <| cZ_ok (i8_zm _) <| cE_ok <| cQ_ok <| cW_ok <| cU_ok (i8_zm _) <| cW_ok <| cU_ok hx1 <| cA_ok (i8_zm _) hx1 <| cZ_ok (i8_zs _ _) <| cE_ok <| h
theorem sumA2_f (l : Nat → Int) : [zs (xA l (0 * 2 + 0)) 0, zs (xA l (0 * 2 + 1)) 0] = sumA 2 l 1 := by
  show _ = [wrapF .i8 (0 + xA l (0 * 2 + 0)), wrapF .i8 (0 + xA l (0 * 2 + 1))]
  rw [zs_c (xA l (0 * 2 + 0)) 0, zs_c (xA l (0 * 2 + 1)) 0]
theorem sumA2_s (l : Nat → Int) (i : Nat) (av : List Int) (h : [gI av 1, gI av 2] = sumA 2 l i) : [zs (xA l (i * 2 + 0)) (gI av 1), zs (xA l (i * 2 + 1)) (gI av 2)] = sumA 2 l (i + 1) := by
  show _ = addL (sumA 2 l i) (inA 2 l i)
  rw [← h]
  show _ = [wrapF .i8 (gI av 1 + xA l (i * 2 + 0)), wrapF .i8 (gI av 2 + xA l (i * 2 + 1))]
  rw [zs_c (xA l (i * 2 + 0)) (gI av 1), zs_c (xA l (i * 2 + 1)) (gI av 2)]
theorem rowA2_f (l : Nat → Int) : rowR [.int .i64 (zs (xA l (0 * 2 + 0)) 0), .int .i64 (zs (xA l (0 * 2 + 1)) 0), .int .i64 (q1 (xA l (0 * 2 + 0)) (xA l (0 * 2 + 1)))] = outR (ioA 2 l) 0 := by
  show _ = rowR ((sumA 2 l 1 ++ [mixA 1 (inA 2 l 0)]).map (.int .i64))
  rw [← sumA2_f, show mixA 1 (inA 2 l 0) = _ from mq1 (xA l (0 * 2 + 0)) (xA l (0 * 2 + 1))]; rfl
theorem rowA2_s (l : Nat → Int) (i : Nat) (av : List Int) (h : [gI av 1, gI av 2] = sumA 2 l i) : rowR [.int .i64 (zs (xA l (i * 2 + 0)) (gI av 1)), .int .i64 (zs (xA l (i * 2 + 1)) (gI av 2)), .int .i64 (q1 (xA l (i * 2 + 0)) (xA l (i * 2 + 1)))] = outR (ioA 2 l) i := by
  show _ = rowR ((sumA 2 l (i + 1) ++ [mixA 1 (inA 2 l i)]).map (.int .i64))
  rw [← sumA2_s l i av h, show mixA 1 (inA 2 l i) = _ from mq1 (xA l (i * 2 + 0)) (xA l (i * 2 + 1))]; rfl
theorem okA2 : pA2.Ok := ⟨by decide, by decide, by kernel_rfl, by kernel_rfl, by kernel_rfl, by kernel_rfl, by decide⟩
def runA2 (l : Nat → Int) (n : Nat) (hn : n ≤ 80) : Runs pA2 (ioA 2 l) n where
  b0 := bS2_0
  b1 := fun av => bS2_1 (gI av 0) (gI av 1) (gI av 2) (gI av 3) (gI av 4) (gI av 5) (gI av 6)
  ok := fun i av => gI av 0 = (i : Int) ∧ [gI av 1, gI av 2] = sumA 2 l i
  d0 := dA2_0
  d1 := dA2_1
  a1 := [1, (zs (xA l (0 * 2 + 0)) 0), (zs (xA l (0 * 2 + 1)) 0), (q1 (xA l (0 * 2 + 0)) (xA l (0 * 2 + 1))), (xA l (0 * 2 + 0)), (xA l (0 * 2 + 1)), (q0 (xA l (0 * 2 + 0)))]
  nx := fun i av => [((gI av 0) + 1), (zs (xA l (i * 2 + 0)) (gI av 1)), (zs (xA l (i * 2 + 1)) (gI av 2)), (q1 (xA l (i * 2 + 0)) (xA l (i * 2 + 1))), (xA l (i * 2 + 0)), (xA l (i * 2 + 1)), (q0 (xA l (i * 2 + 0)))]
  oka := ⟨rfl, sumA2_f l⟩
  okn := fun i av h hi => ⟨by have h := h.1; show gI av 0 + 1 = ((i + 1 : Nat) : Int); omega, sumA2_s l i av h.2⟩
  bl := by kernel_rfl
  get0 := fun z csI csW => by kernel_rfl
  zg0 := fun z csI csW => by kernel_rfl
  get1 := fun z cs csI csW i av _ => by kernel_rfl
  zg1 := fun z cs csI csW i av _ => by kernel_rfl
  st0 := fun z Zs hn0 => usefGR okA2 (ks := kA2_0) (oa := 1050086) (ra := 1050084) (rw := [.int .i64 (zs (xA l (0 * 2 + 0)) 0), .int .i64 (zs (xA l (0 * 2 + 1)) 0), .int .i64 (q1 (xA l (0 * 2 + 0)) (xA l (0 * 2 + 1)))]) (C := wA2_0 (xA l (0 * 2 + 0)) (xA l (0 * 2 + 1))) (by kernel_rfl) Zs hn hn0 (fun Kv => tA2_0 _ _ _ _ _ (xA l (0 * 2 + 0)) (xA l (0 * 2 + 1)) Kv) (fun t h => wokA2_0 (xA l (0 * 2 + 0)) (xA l (0 * 2 + 1)) (i8_xA _ _) (i8_xA _ _) h) (by kernel_rfl) (by kernel_rfl) (by kernel_rfl) (by decide) (by decide) (by decide) ⟨[(zs (xA l (0 * 2 + 0)) 0), (zs (xA l (0 * 2 + 1)) 0), (q1 (xA l (0 * 2 + 0)) (xA l (0 * 2 + 1)))], 3, true, rfl⟩ (rowA2_f l)
  st1 := fun z Zs i av h hi => by
    obtain ⟨h0, hs⟩ := h
    exact useGR okA2 (ks := kA2_1) (oa := 2097284) (ra := 2097282) (rw := [.int .i64 (zs (xA l (i * 2 + 0)) (gI av 1)), .int .i64 (zs (xA l (i * 2 + 1)) (gI av 2)), .int .i64 (q1 (xA l (i * 2 + 0)) (xA l (i * 2 + 1)))]) (C := wA2_1 (gI av 0) (gI av 1) (gI av 2) (gI av 3) (gI av 4) (gI av 5) (gI av 6) (xA l (i * 2 + 0)) (xA l (i * 2 + 1))) (by kernel_rfl) Zs hn hi (fun Kv => tA2_1 _ _ _ _ _ _ (gI av 0) (gI av 1) (gI av 2) (gI av 3) (gI av 4) (gI av 5) (gI av 6) (xA l (i * 2 + 0)) (xA l (i * 2 + 1)) Kv) (fun t h => wokA2_1 (gI av 0) (gI av 1) (gI av 2) (gI av 3) (gI av 4) (gI av 5) (gI av 6) (xA l (i * 2 + 0)) (xA l (i * 2 + 1)) (i8_xA _ _) (i8_xA _ _) (sumA_small 2 l i _ (by rw [← hs]; simp)) (sumA_small 2 l i _ (by rw [← hs]; simp)) (by omega) h) (by kernel_rfl) (by kernel_rfl) (by kernel_rfl) (by decide) (by decide) (by decide) ⟨[(zs (xA l (i * 2 + 0)) (gI av 1)), (zs (xA l (i * 2 + 1)) (gI av 2)), (q1 (xA l (i * 2 + 0)) (xA l (i * 2 + 1)))], 3, true, rfl⟩ (rowA2_s l i av hs)
  ex1 := fun z csI csW n' i g av _ Kv => xA2_1 z csI csW n' i g av Kv
  len := inA_len 2 l
def dfA2 : List Bool := bitsL 38 139684714349
def dsA2 : List Bool := bitsL 40 552001574765
theorem loopA2 : LRes 2 (pBA 2) dfA2 dsA2 where
  hd1 := by decide
  hd8 := by decide
  lit := by kernel_rfl
  blk := by kernel_rfl
  ndk := fun te l len s j oi ow => by kernel_rfl
  ndf := fun te l len s b w => by kernel_rfl
  nds := fun te l len j s b w => by kernel_rfl
  nd1 := fun a b => by kernel_rfl
  nd2 := fun a b => by kernel_rfl
  zA := fun te l len s => by kernel_rfl
  first := fun z te l len Kv => by kernel_rfl
  later := fun z te l len i j f Kv => by kernel_rfl
  leave := fun z te l len i j s Kv => by kernel_rfl
theorem askA2 : AskEqF 2 := fun h A KN n i r f Kv => by kernel_rfl
theorem sameA2 : SameEq 3 := fun h A B n i x za zb Kv => by kernel_rfl
theorem keyA2 (l : Nat → Int) (n : Nat) (hn : n ≤ 80) : RunKey (dpA 2) (runA2 l n hn) := fun z g K => by kernel_rfl
theorem allA2 : AllRes pA2 (dpA 2) dfA2 dsA2 where
  ok := okA2
  hm := rfl
  dok := dpA_ok (by decide)
  ask := askA2.ask
  same := sameA2
  loop := loopA2
  runs := fun l n hn => ⟨runA2 l n hn, keyA2 l n hn⟩
theorem lawA2 : LawKey pA2 (dpA 2) := fun te l len n K => by kernel_rfl
theorem r0A2 : Run0Key 2 := fun K => by kernel_rfl
theorem fewA2 : FewKey 2 := fun te l len K => by kernel_rfl
theorem noneA2 : NoneKey 2 := fun K => by kernel_rfl
theorem cfewA2 : X.Good (CFew 2) Tryz.prog := CFew_good (by decide) (by decide) r0A2 (by kernel_rfl) (by kernel_rfl)
end
end Go.Proofs.YtkfhjobebhdpoaaGreat

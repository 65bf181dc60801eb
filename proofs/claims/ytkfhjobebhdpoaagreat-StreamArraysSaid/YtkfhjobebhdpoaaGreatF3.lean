/- Stream: what the kernel tells of StreamArrays with 3 columns. -/
import Derived.Test.YtkfhjobebhdpoaaGreatB3
set_option linter.unusedVariables false
set_option linter.unusedSimpArgs false
set_option autoImplicit false
set_option maxRecDepth 1000000
set_option maxHeartbeats 2000000
set_option linter.unusedVariables false
namespace Go.Proofs.YtkfhjobebhdpoaaGreat
noncomputable section
open Go.X
theorem wokA3_0 (x0 : Int) (x1 : Int) (x2 : Int) (hx0 : I8 x0) (hx1 : I8 x1) (hx2 : I8 x2) {t : Prop} (h : t) : wA3_0 x0 x1 x2 t := by
  have ha : (0 : Int) ≤ 0 ∧ (0 : Int) ≤ 1000 := by omega
  unfold wA3_0
  exact cE_ok <| cE_ok <| cE_ok <| cW_ok <| cU_ok hx0 <| cA_ok hx0 i8_0 <| cZ_ok (i8_zs _ _) <| cE_ok <| cE_ok <| cE_ok <| cE_ok <| cW_ok <| cU_ok hx1 <| cA_ok hx1 i8_0 <| cZ_ok (i8_zs _ _) <| cE_ok <| cE_ok <| cE_ok <| cE_ok <| cW_ok <| cU_ok hx2 <| cA_ok hx2 i8_0 <| cZ_ok (i8_zs _ _) <| cE_ok <| cE_ok <| cE_ok <| cE_ok <| cE_ok <| cE_ok <| cE_ok <| cE_ok <| cW_ok <| cU_ok hx0 <| cA_ok i8_3 hx0 <| cZ_ok (i8_zs _ _) <| cE_ok <| cE_ok <| cE_ok <| cE_ok <| cE_ok <| cE_ok <| cE_ok <| cW_ok <| cU_ok (i8_zs _ _) <| cM_ok (i8_zs _ _) <| cZ_ok (i8_zm _) <| cE_ok <| cW_ok <| cU_ok (i8_zm _) <| cW_ok <| cU_ok hx1 <| cA_ok (i8_zm _) hx1 <| cZ_ok (i8_zs _ _) <| cE_ok <| cE_ok <| cE_ok <| cE_ok <| cE_ok <| cE_ok <| cE_ok <| cW_ok <| cU_ok (i8_zs _ _) <| cM_ok (i8_zs _ _) <| cZ_ok (i8_zm _) <| cE_ok <| cW_ok <| cU_ok (i8_zm _) <| cW_ok <| cU_ok hx2 <| cA_ok (i8_zm _) hx2 <| cZ_ok (i8_zs _ _) <| cE_ok <| h
theorem wokA3_1 (a0 : Int) (a1 : Int) (a2 : Int) (a3 : Int) (a4 : Int) (a5 : Int) (a6 : Int) (a7 : Int) (a8 : Int) (a9 : Int) (x0 : Int) (x1 : Int) (x2 : Int) (hx0 : I8 x0) (hx1 : I8 x1) (hx2 : I8 x2) (ha1 : I8 a1) (ha2 : I8 a2) (ha3 : I8 a3) (ha : 0 ≤ a0 ∧ a0 ≤ 1000) {t : Prop} (h : t) : wA3_1 a0 a1 a2 a3 a4 a5 a6 a7 a8 a9 x0 x1 x2 t := by
  unfold wA3_1
  exact cT_ok ha <| cT_ok ha <| cS_ok hx0 ha1 <| cE_ok <| cQ_ok <| cT_ok ha <| cS_ok hx1 ha2 <| cE_ok <| cQ_ok <| cT_ok ha <| cS_ok hx2 ha3 <| cE_ok <| cQ_ok <| cN_ok <| cN_ok <| cQ_ok <| cE_ok <| cE_ok <| cT_ok ha <| cE_ok <| cQ_ok <| cW_ok <| cU_ok hx0 <| cA_ok i8_3 hx0 <| cZ_ok (i8_zs _ _) <| cE_ok <| cE_ok <| cE_ok <| cT_ok ha <| cW_ok <| cU_ok (i8_zs _ _) <| cM_ok (i8_zs _ _) <| cZ_ok (i8_zm _) <| cE_ok <| cQ_ok <| cW_ok <| cU_ok (i8_zm _) <| cW_ok <| cU_ok hx1 <| cA_ok (i8_zm _) hx1 <| cZ_ok (i8_zs _ _) <| cE_ok <| cE_ok <| cE_ok <| cT_ok ha <| cW_ok <| cU_ok (i8_zs _ _) <| cM_ok (i8_zs _ _) <| cZ_ok (i8_zm _) <| cE_ok <| cQ_ok <| cW_ok <| cU_ok (i8_zm _) <| cW_ok <| cU_ok hx2 <| cA_ok (i8_zm _) hx2 <| cZ_ok (i8_zs _ _) <| cE_ok <| h
theorem sumA3_f (l : Nat → Int) : [zs (xA l (0 * 3 + 0)) 0, zs (xA l (0 * 3 + 1)) 0, zs (xA l (0 * 3 + 2)) 0] = sumA 3 l 1 := by
  show _ = [wrapF .i8 (0 + xA l (0 * 3 + 0)), wrapF .i8 (0 + xA l (0 * 3 + 1)), wrapF .i8 (0 + xA l (0 * 3 + 2))]
  rw [zs_c (xA l (0 * 3 + 0)) 0, zs_c (xA l (0 * 3 + 1)) 0, zs_c (xA l (0 * 3 + 2)) 0]
theorem sumA3_s (l : Nat → Int) (i : Nat) (av : List Int) (h : [gI av 1, gI av 2, gI av 3] = sumA 3 l i) : [zs (xA l (i * 3 + 0)) (gI av 1), zs (xA l (i * 3 + 1)) (gI av 2), zs (xA l (i * 3 + 2)) (gI av 3)] = sumA 3 l (i + 1) := by
  show _ = addL (sumA 3 l i) (inA 3 l i)
  rw [← h]
  show _ = [wrapF .i8 (gI av 1 + xA l (i * 3 + 0)), wrapF .i8 (gI av 2 + xA l (i * 3 + 1)), wrapF .i8 (gI av 3 + xA l (i * 3 + 2))]
  rw [zs_c (xA l (i * 3 + 0)) (gI av 1), zs_c (xA l (i * 3 + 1)) (gI av 2), zs_c (xA l (i * 3 + 2)) (gI av 3)]
theorem rowA3_f (l : Nat → Int) : rowR [.int .i64 (zs (xA l (0 * 3 + 0)) 0), .int .i64 (zs (xA l (0 * 3 + 1)) 0), .int .i64 (zs (xA l (0 * 3 + 2)) 0), .int .i64 (q2 (xA l (0 * 3 + 0)) (xA l (0 * 3 + 1)) (xA l (0 * 3 + 2)))] = outR (ioA 3 l) 0 := by
  show _ = rowR ((sumA 3 l 1 ++ [mixA 1 (inA 3 l 0)]).map (.int .i64))
  rw [← sumA3_f, show mixA 1 (inA 3 l 0) = _ from mq2 (xA l (0 * 3 + 0)) (xA l (0 * 3 + 1)) (xA l (0 * 3 + 2))]; rfl
theorem rowA3_s (l : Nat → Int) (i : Nat) (av : List Int) (h : [gI av 1, gI av 2, gI av 3] = sumA 3 l i) : rowR [.int .i64 (zs (xA l (i * 3 + 0)) (gI av 1)), .int .i64 (zs (xA l (i * 3 + 1)) (gI av 2)), .int .i64 (zs (xA l (i * 3 + 2)) (gI av 3)), .int .i64 (q2 (xA l (i * 3 + 0)) (xA l (i * 3 + 1)) (xA l (i * 3 + 2)))] = outR (ioA 3 l) i := by
  show _ = rowR ((sumA 3 l (i + 1) ++ [mixA 1 (inA 3 l i)]).map (.int .i64))
  rw [← sumA3_s l i av h, show mixA 1 (inA 3 l i) = _ from mq2 (xA l (i * 3 + 0)) (xA l (i * 3 + 1)) (xA l (i * 3 + 2))]; rfl
theorem okA3 : pA3.Ok := ⟨by decide, by decide, by kernel_rfl, by kernel_rfl, by kernel_rfl, by kernel_rfl, by decide⟩
def runA3 (l : Nat → Int) (n : Nat) (hn : n ≤ 80) : Runs pA3 (ioA 3 l) n where
  b0 := bS3_0
  b1 := fun av => bS3_1 (gI av 0) (gI av 1) (gI av 2) (gI av 3) (gI av 4) (gI av 5) (gI av 6) (gI av 7) (gI av 8) (gI av 9)
  ok := fun i av => gI av 0 = (i : Int) ∧ [gI av 1, gI av 2, gI av 3] = sumA 3 l i
  d0 := dA3_0
  d1 := dA3_1
  a1 := [1, (zs (xA l (0 * 3 + 0)) 0), (zs (xA l (0 * 3 + 1)) 0), (zs (xA l (0 * 3 + 2)) 0), (q2 (xA l (0 * 3 + 0)) (xA l (0 * 3 + 1)) (xA l (0 * 3 + 2))), (xA l (0 * 3 + 0)), (xA l (0 * 3 + 1)), (xA l (0 * 3 + 2)), (q0 (xA l (0 * 3 + 0))), (q1 (xA l (0 * 3 + 0)) (xA l (0 * 3 + 1)))]
  nx := fun i av => [((gI av 0) + 1), (zs (xA l (i * 3 + 0)) (gI av 1)), (zs (xA l (i * 3 + 1)) (gI av 2)), (zs (xA l (i * 3 + 2)) (gI av 3)), (q2 (xA l (i * 3 + 0)) (xA l (i * 3 + 1)) (xA l (i * 3 + 2))), (xA l (i * 3 + 0)), (xA l (i * 3 + 1)), (xA l (i * 3 + 2)), (q0 (xA l (i * 3 + 0))), (q1 (xA l (i * 3 + 0)) (xA l (i * 3 + 1)))]
  oka := ⟨rfl, sumA3_f l⟩
  okn := fun i av h hi => ⟨by have h := h.1; show gI av 0 + 1 = ((i + 1 : Nat) : Int); omega, sumA3_s l i av h.2⟩
  bl := by kernel_rfl
  get0 := fun z csI csW => by kernel_rfl
  zg0 := fun z csI csW => by kernel_rfl
  get1 := fun z cs csI csW i av _ => by kernel_rfl
  zg1 := fun z cs csI csW i av _ => by kernel_rfl
  st0 := fun z Zs hn0 => usefGR okA3 (ks := kA3_0) (oa := 1050331) (ra := 1050329) (rw := [.int .i64 (zs (xA l (0 * 3 + 0)) 0), .int .i64 (zs (xA l (0 * 3 + 1)) 0), .int .i64 (zs (xA l (0 * 3 + 2)) 0), .int .i64 (q2 (xA l (0 * 3 + 0)) (xA l (0 * 3 + 1)) (xA l (0 * 3 + 2)))]) (C := wA3_0 (xA l (0 * 3 + 0)) (xA l (0 * 3 + 1)) (xA l (0 * 3 + 2))) (by kernel_rfl) Zs hn hn0 (fun Kv => tA3_0 _ _ _ _ _ (xA l (0 * 3 + 0)) (xA l (0 * 3 + 1)) (xA l (0 * 3 + 2)) Kv) (fun t h => wokA3_0 (xA l (0 * 3 + 0)) (xA l (0 * 3 + 1)) (xA l (0 * 3 + 2)) (i8_xA _ _) (i8_xA _ _) (i8_xA _ _) h) (by kernel_rfl) (by kernel_rfl) (by kernel_rfl) (by decide) (by decide) (by decide) ⟨[(zs (xA l (0 * 3 + 0)) 0), (zs (xA l (0 * 3 + 1)) 0), (zs (xA l (0 * 3 + 2)) 0), (q2 (xA l (0 * 3 + 0)) (xA l (0 * 3 + 1)) (xA l (0 * 3 + 2)))], 3, true, rfl⟩ (rowA3_f l)
  st1 := fun z Zs i av h hi => by
    obtain ⟨h0, hs⟩ := h
    exact useGR okA3 (ks := kA3_1) (oa := 2097341) (ra := 2097339) (rw := [.int .i64 (zs (xA l (i * 3 + 0)) (gI av 1)), .int .i64 (zs (xA l (i * 3 + 1)) (gI av 2)), .int .i64 (zs (xA l (i * 3 + 2)) (gI av 3)), .int .i64 (q2 (xA l (i * 3 + 0)) (xA l (i * 3 + 1)) (xA l (i * 3 + 2)))]) (C := wA3_1 (gI av 0) (gI av 1) (gI av 2) (gI av 3) (gI av 4) (gI av 5) (gI av 6) (gI av 7) (gI av 8) (gI av 9) (xA l (i * 3 + 0)) (xA l (i * 3 + 1)) (xA l (i * 3 + 2))) (by kernel_rfl) Zs hn hi (fun Kv => tA3_1 _ _ _ _ _ _ (gI av 0) (gI av 1) (gI av 2) (gI av 3) (gI av 4) (gI av 5) (gI av 6) (gI av 7) (gI av 8) (gI av 9) (xA l (i * 3 + 0)) (xA l (i * 3 + 1)) (xA l (i * 3 + 2)) Kv) (fun t h => wokA3_1 (gI av 0) (gI av 1) (gI av 2) (gI av 3) (gI av 4) (gI av 5) (gI av 6) (gI av 7) (gI av 8) (gI av 9) (xA l (i * 3 + 0)) (xA l (i * 3 + 1)) (xA l (i * 3 + 2)) (i8_xA _ _) (i8_xA _ _) (i8_xA _ _) (sumA_small 3 l i _ (by rw [← hs]; simp)) (sumA_small 3 l i _ (by rw [← hs]; simp)) (sumA_small 3 l i _ (by rw [← hs]; simp)) (by omega) h) (by kernel_rfl) (by kernel_rfl) (by kernel_rfl) (by decide) (by decide) (by decide) ⟨[(zs (xA l (i * 3 + 0)) (gI av 1)), (zs (xA l (i * 3 + 1)) (gI av 2)), (zs (xA l (i * 3 + 2)) (gI av 3)), (q2 (xA l (i * 3 + 0)) (xA l (i * 3 + 1)) (xA l (i * 3 + 2)))], 3, true, rfl⟩ (rowA3_s l i av hs)
  ex1 := fun z csI csW n' i g av _ Kv => xA3_1 z csI csW n' i g av Kv
  len := inA_len 3 l
def dfA3 : List Bool := bitsL 54 9154377144833901
def dsA3 : List Bool := bitsL 56 36175974909056877
theorem loopA3 : LRes 3 (pBA 3) dfA3 dsA3 where
  hd1 := by decide
  hd8 := by decide
  lit := by kernel_rfl
  blk := by kernel_rfl
  ndk := fun te l len s j oi ow => by kernel_rfl
  ndf := fun te l len s b w => by kernel_rfl
  nds := fun te l len j s b w => by kernel_rfl
  nd1 := fun a b => by kernel_rfl
  nd2 := fun a b => by kernel_rfl
  zA := fun te l len s => by kernel_rfl
  first := fun z te l len Kv => by kernel_rfl
  later := fun z te l len i j f Kv => by kernel_rfl
  leave := fun z te l len i j s Kv => by kernel_rfl
theorem askA3 : AskEqF 3 := fun h A KN n i r f Kv => by kernel_rfl
theorem sameA3 : SameEq 4 := fun h A B n i x za zb Kv => by kernel_rfl
theorem keyA3 (l : Nat → Int) (n : Nat) (hn : n ≤ 80) : RunKey (dpA 3) (runA3 l n hn) := fun z g K => by kernel_rfl
theorem allA3 : AllRes pA3 (dpA 3) dfA3 dsA3 where
  ok := okA3
  hm := rfl
  dok := dpA_ok (by decide)
  ask := askA3.ask
  same := sameA3
  loop := loopA3
  runs := fun l n hn => ⟨runA3 l n hn, keyA3 l n hn⟩
theorem lawA3 : LawKey pA3 (dpA 3) := fun te l len n K => by kernel_rfl
theorem r0A3 : Run0Key 3 := fun K => by kernel_rfl
theorem fewA3 : FewKey 3 := fun te l len K => by kernel_rfl
theorem noneA3 : NoneKey 3 := fun K => by kernel_rfl
theorem cfewA3 : X.Good (CFew 3) Tryz.prog := CFew_good (by decide) (by decide) r0A3 (by kernel_rfl) (by kernel_rfl)
end
end Go.Proofs.YtkfhjobebhdpoaaGreat

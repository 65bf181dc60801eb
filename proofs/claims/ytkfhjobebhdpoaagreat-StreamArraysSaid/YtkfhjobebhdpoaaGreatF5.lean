/- Stream: what the kernel tells of StreamArrays with 5 columns. -/
import Derived.Test.YtkfhjobebhdpoaaGreatB5
set_option linter.unusedVariables false
set_option linter.unusedSimpArgs false
set_option autoImplicit false
set_option maxRecDepth 1000000
set_option maxHeartbeats 2000000
set_option linter.unusedVariables false
namespace Go.Proofs.YtkfhjobebhdpoaaGreat
noncomputable section
open Go.X
theorem wokA5_0 (x0 : Int) (x1 : Int) (x2 : Int) (x3 : Int) (x4 : Int) (hx0 : I8 x0) (hx1 : I8 x1) (hx2 : I8 x2) (hx3 : I8 x3) (hx4 : I8 x4) {t : Prop} (h : t) : wA5_0 x0 x1 x2 x3 x4 t := by
  have ha : (0 : Int) ≤ 0 ∧ (0 : Int) ≤ 1000 := by omega
  unfold wA5_0
  exact cE_ok <| cE_ok <| cE_ok <| cW_ok <| cU_ok hx0 <| cA_ok hx0 i8_0 <| cZ_ok (i8_zs _ _) <| cE_ok <| cE_ok <| cE_ok <| cE_ok <| cW_ok <| cU_ok hx1 <| cA_ok hx1 i8_0 <| cZ_ok (i8_zs _ _) <| cE_ok <| cE_ok <| cE_ok <| cE_ok <| cW_ok <| cU_ok hx2 <| cA_ok hx2 i8_0 <| cZ_ok (i8_zs _ _) <| cE_ok <| cE_ok <| cE_ok <| cE_ok <| cW_ok <| cU_ok hx3 <| cA_ok hx3 i8_0 <| cZ_ok (i8_zs _ _) <| cE_ok <| cE_ok <| cE_ok <| cE_ok <| cW_ok <| cU_ok hx4 <| cA_ok hx4 i8_0 <| cZ_ok (i8_zs _ _) <| cE_ok <| cE_ok <| cE_ok <| cE_ok <| cE_ok <| cE_ok <| cE_ok <| cE_ok <| cW_ok <| cU_ok hx0 <| cA_ok i8_3 hx0 <| cZ_ok (i8_zs _ _) <| cE_ok <| cE_ok <| cE_ok <| cE_ok <| cE_ok <| cE_ok <| cE_ok <| cW_ok <| cU_ok (i8_zs _ _) <| cM_ok (i8_zs _ _) <| cZ_ok (i8_zm _) <| cE_ok <| cW_ok <| cU_ok (i8_zm _) <| cW_ok <| cU_ok hx1 <| cA_ok (i8_zm _) hx1 <| cZ_ok (i8_zs _ _) <| cE_ok <| cE_ok <| cE_ok <| cE_ok <| cE_ok <| cE_ok <| cE_ok <| cW_ok <| cU_ok (i8_zs _ _) <| cM_ok (i8_zs _ _) <| cZ_ok (i8_zm _) <| cE_ok <| cW_ok <| cU_ok (i8_zm _) <| cW_ok <| cU_ok hx2 <| cA_ok (i8_zm _) hx2 <| cZ_ok (i8_zs _ _) <| cE_ok <| cE_ok <| cE_ok <| cE_ok <| cE_ok <| cE_ok <| cE_ok <| cW_ok <| cU_ok (i8_zs _ _) <| cM_ok (i8_zs _ _) <| cZ_ok (i8_zm _) <| cE_ok <| cW_ok <| cU_ok (i8_zm _) <| cW_ok <| cU_ok hx3 <| cA_ok (i8_zm _) hx3 <| cZ_ok (i8_zs _ _) <| cE_ok <| cE_ok <| cE_ok <| cE_ok <| cE_ok <| cE_ok <| cE_ok <| cW_ok <| cU_ok (i8_zs _ _) <| cM_ok (i8_zs _ _) <| cZ_ok (i8_zm _) <| cE_ok <| cW_ok <| cU_ok (i8_zm _) <| cW_ok <| cU_ok hx4 <| cA_ok (i8_zm _) hx4 <| cZ_ok (i8_zs _ _) <| cE_ok <| h
theorem wokA5_1 (a0 : Int) (a1 : Int) (a2 : Int) (a3 : Int) (a4 : Int) (a5 : Int) (a6 : Int) (a7 : Int) (a8 : Int) (a9 : Int) (a10 : Int) (a11 : Int) (a12 : Int) (a13 : Int) (a14 : Int) (a15 : Int) (x0 : Int) (x1 : Int) (x2 : Int) (x3 : Int) (x4 : Int) (hx0 : I8 x0) (hx1 : I8 x1) (hx2 : I8 x2) (hx3 : I8 x3) (hx4 : I8 x4) (ha1 : I8 a1) (ha2 : I8 a2) (ha3 : I8 a3) (ha4 : I8 a4) (ha5 : I8 a5) (ha : 0 ≤ a0 ∧ a0 ≤ 1000) {t : Prop} (h : t) : wA5_1 a0 a1 a2 a3 a4 a5 a6 a7 a8 a9 a10 a11 a12 a13 a14 a15 x0 x1 x2 x3 x4 t := by
  unfold wA5_1
  exact cT_ok ha <| cT_ok ha <| cS_ok hx0 ha1 <| cE_ok <| cQ_ok <| cT_ok ha <| cS_ok hx1 ha2 <| cE_ok <| cQ_ok <| cT_ok ha <| cS_ok hx2 ha3 <| cE_ok <| cQ_ok <| cT_ok ha <| cS_ok hx3 ha4 <| cE_ok <| cQ_ok <| cT_ok ha <| cS_ok hx4 ha5 <| cE_ok <| cQ_ok <| cN_ok <| cN_ok <| cQ_ok <| cE_ok <| cE_ok <| cT_ok ha <| cE_ok <| cQ_ok <| cW_ok <| cU_ok hx0 <| cA_ok i8_3 hx0 <| cZ_ok (i8_zs _ _) <| cE_ok <| cE_ok <| cE_ok <| cT_ok ha <| cW_ok <| cU_ok (i8_zs _ _) <| cM_ok (i8_zs _ _) <| cZ_ok (i8_zm _) <| cE_ok <| cQ_ok <| cW_ok <| cU_ok (i8_zm _) <| cW_ok <| cU_ok hx1 <| cA_ok (i8_zm _) hx1 <| cZ_ok (i8_zs _ _) <| cE_ok <| cE_ok <| cE_ok <| cT_ok ha <| cW_ok <| cU_ok (i8_zs _ _) <| cM_ok (i8_zs _ _) <| cZ_ok (i8_zm _) <| cE_ok <| cQ_ok <| cW_ok <| cU_ok (i8_zm _) <| cW_ok <| cU_ok hx2 <| cA_ok (i8_zm _) hx2 <| cZ_ok (i8_zs _ _) <| cE_ok <| cE_ok <| cE_ok <| cT_ok ha <| cW_ok <| cU_ok (i8_zs _ _) <| cM_ok (i8_zs _ _) <| cZ_ok (i8_zm _) <| cE_ok <| cQ_ok <| cW_ok <| cU_ok (i8_zm _) <| cW_ok <| cU_ok hx3 <| cA_ok (i8_zm _) hx3 <| cZ_ok (i8_zs _ _) <| cE_ok <| cE_ok <| cE_ok <| cT_ok ha <| cW_ok <| cU_ok (i8_zs _ _) <| cM_ok (i8_zs _ _) <| cZ_ok (i8_zm _) <| cE_ok <| cQ_ok <| cW_ok <| cU_ok (i8_zm _) <| cW_ok <| cU_ok hx4 <| cA_ok (i8_zm _) hx4 <| cZ_ok (i8_zs _ _) <| cE_ok <| h
theorem sumA5_f (l : Nat → Int) : [zs (xA l (0 * 5 + 0)) 0, zs (xA l (0 * 5 + 1)) 0, zs (xA l (0 * 5 + 2)) 0, zs (xA l (0 * 5 + 3)) 0, zs (xA l (0 * 5 + 4)) 0] = sumA 5 l 1 := by
  show _ = [wrapF .i8 (0 + xA l (0 * 5 + 0)), wrapF .i8 (0 + xA l (0 * 5 + 1)), wrapF .i8 (0 + xA l (0 * 5 + 2)), wrapF .i8 (0 + xA l (0 * 5 + 3)), wrapF .i8 (0 + xA l (0 * 5 + 4))]
  rw [zs_c (xA l (0 * 5 + 0)) 0, zs_c (xA l (0 * 5 + 1)) 0, zs_c (xA l (0 * 5 + 2)) 0, zs_c (xA l (0 * 5 + 3)) 0, zs_c (xA l (0 * 5 + 4)) 0]
theorem sumA5_s (l : Nat → Int) (i : Nat) (av : List Int) (h : [gI av 1, gI av 2, gI av 3, gI av 4, gI av 5] = sumA 5 l i) : [zs (xA l (i * 5 + 0)) (gI av 1), zs (xA l (i * 5 + 1)) (gI av 2), zs (xA l (i * 5 + 2)) (gI av 3), zs (xA l (i * 5 + 3)) (gI av 4), zs (xA l (i * 5 + 4)) (gI av 5)] = sumA 5 l (i + 1) := by
  show _ = addL (sumA 5 l i) (inA 5 l i)
  rw [← h]
  show _ = [wrapF .i8 (gI av 1 + xA l (i * 5 + 0)), wrapF .i8 (gI av 2 + xA l (i * 5 + 1)), wrapF .i8 (gI av 3 + xA l (i * 5 + 2)), wrapF .i8 (gI av 4 + xA l (i * 5 + 3)), wrapF .i8 (gI av 5 + xA l (i * 5 + 4))]
  rw [zs_c (xA l (i * 5 + 0)) (gI av 1), zs_c (xA l (i * 5 + 1)) (gI av 2), zs_c (xA l (i * 5 + 2)) (gI av 3), zs_c (xA l (i * 5 + 3)) (gI av 4), zs_c (xA l (i * 5 + 4)) (gI av 5)]
theorem rowA5_f (l : Nat → Int) : rowR [.int .i64 (zs (xA l (0 * 5 + 0)) 0), .int .i64 (zs (xA l (0 * 5 + 1)) 0), .int .i64 (zs (xA l (0 * 5 + 2)) 0), .int .i64 (zs (xA l (0 * 5 + 3)) 0), .int .i64 (zs (xA l (0 * 5 + 4)) 0), .int .i64 (q4 (xA l (0 * 5 + 0)) (xA l (0 * 5 + 1)) (xA l (0 * 5 + 2)) (xA l (0 * 5 + 3)) (xA l (0 * 5 + 4)))] = outR (ioA 5 l) 0 := by
  show _ = rowR ((sumA 5 l 1 ++ [mixA 1 (inA 5 l 0)]).map (.int .i64))
  rw [← sumA5_f, show mixA 1 (inA 5 l 0) = _ from mq4 (xA l (0 * 5 + 0)) (xA l (0 * 5 + 1)) (xA l (0 * 5 + 2)) (xA l (0 * 5 + 3)) (xA l (0 * 5 + 4))]; rfl
theorem rowA5_s (l : Nat → Int) (i : Nat) (av : List Int) (h : [gI av 1, gI av 2, gI av 3, gI av 4, gI av 5] = sumA 5 l i) : rowR [.int .i64 (zs (xA l (i * 5 + 0)) (gI av 1)), .int .i64 (zs (xA l (i * 5 + 1)) (gI av 2)), .int .i64 (zs (xA l (i * 5 + 2)) (gI av 3)), .int .i64 (zs (xA l (i * 5 + 3)) (gI av 4)), .int .i64 (zs (xA l (i * 5 + 4)) (gI av 5)), .int .i64 (q4 (xA l (i * 5 + 0)) (xA l (i * 5 + 1)) (xA l (i * 5 + 2)) (xA l (i * 5 + 3)) (xA l (i * 5 + 4)))] = outR (ioA 5 l) i := by
  show _ = rowR ((sumA 5 l (i + 1) ++ [mixA 1 (inA 5 l i)]).map (.int .i64))
  rw [← sumA5_s l i av h, show mixA 1 (inA 5 l i) = _ from mq4 (xA l (i * 5 + 0)) (xA l (i * 5 + 1)) (xA l (i * 5 + 2)) (xA l (i * 5 + 3)) (xA l (i * 5 + 4))]; rfl
theorem okA5 : pA5.Ok := ⟨by decide, by decide, by kernel_rfl, by kernel_rfl, by kernel_rfl, by kernel_rfl, by decide⟩
def runA5 (l : Nat → Int) (n : Nat) (hn : n ≤ 80) : Runs pA5 (ioA 5 l) n where
  b0 := bS5_0
  b1 := fun av => bS5_1 (gI av 0) (gI av 1) (gI av 2) (gI av 3) (gI av 4) (gI av 5) (gI av 6) (gI av 7) (gI av 8) (gI av 9) (gI av 10) (gI av 11) (gI av 12) (gI av 13) (gI av 14) (gI av 15)
  ok := fun i av => gI av 0 = (i : Int) ∧ [gI av 1, gI av 2, gI av 3, gI av 4, gI av 5] = sumA 5 l i
  d0 := dA5_0
  d1 := dA5_1
  a1 := [1, (zs (xA l (0 * 5 + 0)) 0), (zs (xA l (0 * 5 + 1)) 0), (zs (xA l (0 * 5 + 2)) 0), (zs (xA l (0 * 5 + 3)) 0), (zs (xA l (0 * 5 + 4)) 0), (q4 (xA l (0 * 5 + 0)) (xA l (0 * 5 + 1)) (xA l (0 * 5 + 2)) (xA l (0 * 5 + 3)) (xA l (0 * 5 + 4))), (xA l (0 * 5 + 0)), (xA l (0 * 5 + 1)), (xA l (0 * 5 + 2)), (xA l (0 * 5 + 3)), (xA l (0 * 5 + 4)), (q0 (xA l (0 * 5 + 0))), (q1 (xA l (0 * 5 + 0)) (xA l (0 * 5 + 1))), (q2 (xA l (0 * 5 + 0)) (xA l (0 * 5 + 1)) (xA l (0 * 5 + 2))), (q3 (xA l (0 * 5 + 0)) (xA l (0 * 5 + 1)) (xA l (0 * 5 + 2)) (xA l (0 * 5 + 3)))]
  nx := fun i av => [((gI av 0) + 1), (zs (xA l (i * 5 + 0)) (gI av 1)), (zs (xA l (i * 5 + 1)) (gI av 2)), (zs (xA l (i * 5 + 2)) (gI av 3)), (zs (xA l (i * 5 + 3)) (gI av 4)), (zs (xA l (i * 5 + 4)) (gI av 5)), (q4 (xA l (i * 5 + 0)) (xA l (i * 5 + 1)) (xA l (i * 5 + 2)) (xA l (i * 5 + 3)) (xA l (i * 5 + 4))), (xA l (i * 5 + 0)), (xA l (i * 5 + 1)), (xA l (i * 5 + 2)), (xA l (i * 5 + 3)), (xA l (i * 5 + 4)), (q0 (xA l (i * 5 + 0))), (q1 (xA l (i * 5 + 0)) (xA l (i * 5 + 1))), (q2 (xA l (i * 5 + 0)) (xA l (i * 5 + 1)) (xA l (i * 5 + 2))), (q3 (xA l (i * 5 + 0)) (xA l (i * 5 + 1)) (xA l (i * 5 + 2)) (xA l (i * 5 + 3)))]
  oka := ⟨rfl, sumA5_f l⟩
  okn := fun i av h hi => ⟨by have h := h.1; show gI av 0 + 1 = ((i + 1 : Nat) : Int); omega, sumA5_s l i av h.2⟩
  bl := by kernel_rfl
  get0 := fun z csI csW => by kernel_rfl
  zg0 := fun z csI csW => by kernel_rfl
  get1 := fun z cs csI csW i av _ => by kernel_rfl
  zg1 := fun z cs csI csW i av _ => by kernel_rfl
  st0 := fun z Zs hn0 => usefGR okA5 (ks := kA5_0) (oa := 1050821) (ra := 1050819) (rw := [.int .i64 (zs (xA l (0 * 5 + 0)) 0), .int .i64 (zs (xA l (0 * 5 + 1)) 0), .int .i64 (zs (xA l (0 * 5 + 2)) 0), .int .i64 (zs (xA l (0 * 5 + 3)) 0), .int .i64 (zs (xA l (0 * 5 + 4)) 0), .int .i64 (q4 (xA l (0 * 5 + 0)) (xA l (0 * 5 + 1)) (xA l (0 * 5 + 2)) (xA l (0 * 5 + 3)) (xA l (0 * 5 + 4)))]) (C := wA5_0 (xA l (0 * 5 + 0)) (xA l (0 * 5 + 1)) (xA l (0 * 5 + 2)) (xA l (0 * 5 + 3)) (xA l (0 * 5 + 4))) (by kernel_rfl) Zs hn hn0 (fun Kv => tA5_0 _ _ _ _ _ (xA l (0 * 5 + 0)) (xA l (0 * 5 + 1)) (xA l (0 * 5 + 2)) (xA l (0 * 5 + 3)) (xA l (0 * 5 + 4)) Kv) (fun t h => wokA5_0 (xA l (0 * 5 + 0)) (xA l (0 * 5 + 1)) (xA l (0 * 5 + 2)) (xA l (0 * 5 + 3)) (xA l (0 * 5 + 4)) (i8_xA _ _) (i8_xA _ _) (i8_xA _ _) (i8_xA _ _) (i8_xA _ _) h) (by kernel_rfl) (by kernel_rfl) (by kernel_rfl) (by decide) (by decide) (by decide) ⟨[(zs (xA l (0 * 5 + 0)) 0), (zs (xA l (0 * 5 + 1)) 0), (zs (xA l (0 * 5 + 2)) 0), (zs (xA l (0 * 5 + 3)) 0), (zs (xA l (0 * 5 + 4)) 0), (q4 (xA l (0 * 5 + 0)) (xA l (0 * 5 + 1)) (xA l (0 * 5 + 2)) (xA l (0 * 5 + 3)) (xA l (0 * 5 + 4)))], 3, true, rfl⟩ (rowA5_f l)
  st1 := fun z Zs i av h hi => by
    obtain ⟨h0, hs⟩ := h
    exact useGR okA5 (ks := kA5_1) (oa := 2097455) (ra := 2097453) (rw := [.int .i64 (zs (xA l (i * 5 + 0)) (gI av 1)), .int .i64 (zs (xA l (i * 5 + 1)) (gI av 2)), .int .i64 (zs (xA l (i * 5 + 2)) (gI av 3)), .int .i64 (zs (xA l (i * 5 + 3)) (gI av 4)), .int .i64 (zs (xA l (i * 5 + 4)) (gI av 5)), .int .i64 (q4 (xA l (i * 5 + 0)) (xA l (i * 5 + 1)) (xA l (i * 5 + 2)) (xA l (i * 5 + 3)) (xA l (i * 5 + 4)))]) (C := wA5_1 (gI av 0) (gI av 1) (gI av 2) (gI av 3) (gI av 4) (gI av 5) (gI av 6) (gI av 7) (gI av 8) (gI av 9) (gI av 10) (gI av 11) (gI av 12) (gI av 13) (gI av 14) (gI av 15) (xA l (i * 5 + 0)) (xA l (i * 5 + 1)) (xA l (i * 5 + 2)) (xA l (i * 5 + 3)) (xA l (i * 5 + 4))) (by kernel_rfl) Zs hn hi (fun Kv => tA5_1 _ _ _ _ _ _ (gI av 0) (gI av 1) (gI av 2) (gI av 3) (gI av 4) (gI av 5) (gI av 6) (gI av 7) (gI av 8) (gI av 9) (gI av 10) (gI av 11) (gI av 12) (gI av 13) (gI av 14) (gI av 15) (xA l (i * 5 + 0)) (xA l (i * 5 + 1)) (xA l (i * 5 + 2)) (xA l (i * 5 + 3)) (xA l (i * 5 + 4)) Kv) (fun t h => wokA5_1 (gI av 0) (gI av 1) (gI av 2) (gI av 3) (gI av 4) (gI av 5) (gI av 6) (gI av 7) (gI av 8) (gI av 9) (gI av 10) (gI av 11) (gI av 12) (gI av 13) (gI av 14) (gI av 15) (xA l (i * 5 + 0)) (xA l (i * 5 + 1)) (xA l (i * 5 + 2)) (xA l (i * 5 + 3)) (xA l (i * 5 + 4)) (i8_xA _ _) (i8_xA _ _) (i8_xA _ _) (i8_xA _ _) (i8_xA _ _) (sumA_small 5 l i _ (by rw [← hs]; simp)) (sumA_small 5 l i _ (by rw [← hs]; simp)) (sumA_small 5 l i _ (by rw [← hs]; simp)) (sumA_small 5 l i _ (by rw [← hs]; simp)) (sumA_small 5 l i _ (by rw [← hs]; simp)) (by omega) h) (by kernel_rfl) (by kernel_rfl) (by kernel_rfl) (by decide) (by decide) (by decide) ⟨[(zs (xA l (i * 5 + 0)) (gI av 1)), (zs (xA l (i * 5 + 1)) (gI av 2)), (zs (xA l (i * 5 + 2)) (gI av 3)), (zs (xA l (i * 5 + 3)) (gI av 4)), (zs (xA l (i * 5 + 4)) (gI av 5)), (q4 (xA l (i * 5 + 0)) (xA l (i * 5 + 1)) (xA l (i * 5 + 2)) (xA l (i * 5 + 3)) (xA l (i * 5 + 4)))], 3, true, rfl⟩ (rowA5_s l i av hs)
  ex1 := fun z csI csW n' i g av _ Kv => xA5_1 z csI csW n' i g av Kv
  len := inA_len 5 l
def dfA5 : List Bool := bitsL 86 39317750452292143629965165
def dsA5 : List Bool := bitsL 88 155374629135296544401758061
theorem loopA5 : LRes 5 (pBA 5) dfA5 dsA5 where
  hd1 := by decide
  hd8 := by decide
  lit := by kernel_rfl
  blk := by kernel_rfl
  ndk := fun te l len s j oi ow => by kernel_rfl
  ndf := fun te l len s b w => by kernel_rfl
  nds := fun te l len j s b w => by kernel_rfl
  nd1 := fun a b => by kernel_rfl
  nd2 := fun a b => by kernel_rfl
  zA := fun te l len s => by kernel_rfl
  first := fun z te l len Kv => by kernel_rfl
  later := fun z te l len i j f Kv => by kernel_rfl
  leave := fun z te l len i j s Kv => by kernel_rfl
theorem askA5 : AskEqF 5 := fun h A KN n i r f Kv => by kernel_rfl
theorem sameA5 : SameEq 6 := fun h A B n i x za zb Kv => by kernel_rfl
theorem keyA5 (l : Nat → Int) (n : Nat) (hn : n ≤ 80) : RunKey (dpA 5) (runA5 l n hn) := fun z g K => by kernel_rfl
theorem allA5 : AllRes pA5 (dpA 5) dfA5 dsA5 where
  ok := okA5
  hm := rfl
  dok := dpA_ok (by decide)
  ask := askA5.ask
  same := sameA5
  loop := loopA5
  runs := fun l n hn => ⟨runA5 l n hn, keyA5 l n hn⟩
theorem lawA5 : LawKey pA5 (dpA 5) := fun te l len n K => by kernel_rfl
theorem r0A5 : Run0Key 5 := fun K => by kernel_rfl
theorem fewA5 : FewKey 5 := fun te l len K => by kernel_rfl
theorem noneA5 : NoneKey 5 := fun K => by kernel_rfl
theorem cfewA5 : X.Good (CFew 5) Tryz.prog := CFew_good (by decide) (by decide) r0A5 (by kernel_rfl) (by kernel_rfl)
end
end Go.Proofs.YtkfhjobebhdpoaaGreat

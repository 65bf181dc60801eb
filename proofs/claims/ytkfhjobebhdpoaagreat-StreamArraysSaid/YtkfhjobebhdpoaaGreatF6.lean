/- Stream: what the kernel tells of StreamArrays with 6 columns. -/
import Derived.Test.YtkfhjobebhdpoaaGreatB6
set_option linter.unusedVariables false
set_option linter.unusedSimpArgs false
set_option autoImplicit false
set_option maxRecDepth 1000000
set_option maxHeartbeats 2000000
set_option linter.unusedVariables false
namespace Go.Proofs.YtkfhjobebhdpoaaGreat
noncomputable section
open Go.X
theorem wokA6_0 (x0 : Int) (x1 : Int) (x2 : Int) (x3 : Int) (x4 : Int) (x5 : Int) (hx0 : I8 x0) (hx1 : I8 x1) (hx2 : I8 x2) (hx3 : I8 x3) (hx4 : I8 x4) (hx5 : I8 x5) {t : Prop} (h : t) : wA6_0 x0 x1 x2 x3 x4 x5 t := by
  have ha : (0 : Int) ≤ 0 ∧ (0 : Int) ≤ 1000 := by omega
  unfold wA6_0
  exact cE_ok <| cE_ok <| cE_ok <| cW_ok <| cU_ok hx0 <| cA_ok hx0 i8_0 <| cZ_ok (i8_zs _ _) <| cE_ok <| cE_ok <| cE_ok <| cE_ok <| cW_ok <| cU_ok hx1 <| cA_ok hx1 i8_0 <| cZ_ok (i8_zs _ _) <| cE_ok <| cE_ok <| cE_ok <| cE_ok <| cW_ok <| cU_ok hx2 <| cA_ok hx2 i8_0 <| cZ_ok (i8_zs _ _) <| cE_ok <| cE_ok <| cE_ok <| cE_ok <| cW_ok <| cU_ok hx3 <| cA_ok hx3 i8_0 <| cZ_ok (i8_zs _ _) <| cE_ok <| cE_ok <| cE_ok <| cE_ok <| cW_ok <| cU_ok hx4 <| cA_ok hx4 i8_0 <| cZ_ok (i8_zs _ _) <| cE_ok <| cE_ok <| cE_ok <| cE_ok <| cW_ok <| cU_ok hx5 <| cA_ok hx5 i8_0 <| cZ_ok (i8_zs _ _) <| cE_ok <| cE_ok <| cE_ok <| cE_ok <| cE_ok <| cE_ok <| cE_ok <| cE_ok <| cW_ok <| cU_ok hx0 <| cA_ok i8_3 hx0 <| cZ_ok (i8_zs _ _) <| cE_ok <| cE_ok <| cE_ok <| cE_ok <| cE_ok <| cE_ok <| cE_ok <| cW_ok <| cU_ok (i8_zs _ _) <| cM_ok (i8_zs _ _) <| cZ_ok (i8_zm _) <| cE_ok <| cW_ok <| cU_ok (i8_zm _) <| cW_ok <| cU_ok hx1 <| cA_ok (i8_zm _) hx1 <| cZ_ok (i8_zs _ _) <| cE_ok <| cE_ok <| cE_ok <| cE_ok <| cE_ok <| cE_ok <| cE_ok <| cW_ok <| cU_ok (i8_zs _ _) <| cM_ok (i8_zs _ _) <| cZ_ok (i8_zm _) <| cE_ok <| cW_ok <| cU_ok (i8_zm _) <| cW_ok <| cU_ok hx2 <| cA_ok (i8_zm _) hx2 <| cZ_ok (i8_zs _ _) <| cE_ok <| cE_ok <| cE_ok <| cE_ok <| cE_ok <| cE_ok <| cE_ok <| cW_ok <| cU_ok (i8_zs _ _) <| cM_ok (i8_zs _ _) <| cZ_ok (i8_zm _) <| cE_ok <| cW_ok <| cU_ok (i8_zm _) <| cW_ok <| cU_ok hx3 <| cA_ok (i8_zm _) hx3 <| cZ_ok (i8_zs _ _) <| cE_ok <| cE_ok <| cE_ok <| cE_ok <| cE_ok <| cE_ok <| cE_ok <| cW_ok <| cU_ok (i8_zs _ _) <| cM_ok (i8_zs _ _) <| cZ_ok (i8_zm _) <| cE_ok <| cW_ok <| cU_ok (i8_zm _) <| cW_ok <| cU_ok hx4 <| cA_ok (i8_zm _) hx4 <| cZ_ok (i8_zs _ _) <| cE_ok <| cE_ok <| cE_ok <| cE_ok <| cE_ok <| cE_ok <| cE_ok <| cW_ok <| cU_ok (i8_zs _ _) <| cM_ok (i8_zs _ _) <| cZ_ok (i8_zm _) <| cE_ok <| cW_ok <| cU_ok (i8_zm _) <| cW_ok <| cU_ok hx5 <| cA_ok (i8_zm _) hx5 <| cZ_ok (i8_zs _ _) <| cE_ok <| h
theorem wokA6_1 (a0 : Int) (a1 : Int) (a2 : Int) (a3 : Int) (a4 : Int) (a5 : Int) (a6 : Int) (a7 : Int) (a8 : Int) (a9 : Int) (a10 : Int) (a11 : Int) (a12 : Int) (a13 : Int) (a14 : Int) (a15 : Int) (a16 : Int) (a17 : Int) (a18 : Int) (x0 : Int) (x1 : Int) (x2 : Int) (x3 : Int) (x4 : Int) (x5 : Int) (hx0 : I8 x0) (hx1 : I8 x1) (hx2 : I8 x2) (hx3 : I8 x3) (hx4 : I8 x4) (hx5 : I8 x5) (ha1 : I8 a1) (ha2 : I8 a2) (ha3 : I8 a3) (ha4 : I8 a4) (ha5 : I8 a5) (ha6 : I8 a6) (ha : 0 ≤ a0 ∧ a0 ≤ 1000) {t : Prop} (h : t) : wA6_1 a0 a1 a2 a3 a4 a5 a6 a7 a8 a9 a10 a11 a12 a13 a14 a15 a16 a17 a18 x0 x1 x2 x3 x4 x5 t := by
  unfold wA6_1
  exact cT_ok ha <| cT_ok ha <| cS_ok hx0 ha1 <| cE_ok <| cQ_ok <| cT_ok ha <| cS_ok hx1 ha2 <| cE_ok <| cQ_ok <| cT_ok ha <| cS_ok hx2 ha3 <| cE_ok <| cQ_ok <| cT_ok ha <| cS_ok hx3 ha4 <| cE_ok <| cQ_ok <| cT_ok ha <| cS_ok hx4 ha5 <| cE_ok <| cQ_ok <| cT_ok ha <| cS_ok hx5 ha6 <| cE_ok <| cQ_ok <| cN_ok <| cN_ok <| cQ_ok <| cE_ok <| cE_ok <| cT_ok ha <| cE_ok <| cQ_ok <| cW_ok <| cU_ok hx0 <| cA_ok i8_3 hx0 <| cZ_ok (i8_zs _ _) <| cE_ok <| cE_ok <| cE_ok <| cT_ok ha <| cW_ok <| cU_ok (i8_zs _ _) <| cM_ok (i8_zs _ _) <| cZ_ok (i8_zm _) <| cE_ok <| cQ_ok <| cW_ok <| cU_ok (i8_zm _) <| cW_ok <| cU_ok hx1 <| cA_ok (i8_zm _) hx1 <| cZ_ok (i8_zs _ _) <| cE_ok <| cE_ok <| cE_ok <| cT_ok ha <| cW_ok <| cU_ok (i8_zs _ _) <| cM_ok (i8_zs _ _) <| cZ_ok (i8_zm _) <| cE_ok <| cQ_ok <| cW_ok <| cU_ok (i8_zm _) <| cW_ok <| cU_ok hx2 <| cA_ok (i8_zm _) hx2 <| cZ_ok (i8_zs _ _) <| cE_ok <| cE_ok <| cE_ok <| cT_ok ha <| cW_ok <| cU_ok (i8_zs _ _) <| cM_ok (i8_zs _ _) <| cZ_ok (i8_zm _) <| cE_ok <| cQ_ok <| cW_ok <| cU_ok (i8_zm _) <| cW_ok <| cU_ok hx3 <| cA_ok (i8_zm _) hx3 <| cZ_ok (i8_zs _ _) <| cE_ok <| cE_ok <| cE_ok <| cT_ok ha <| cW_ok <| cU_ok (i8_zs _ _) <| cM_ok (i8_zs _ _) <| cZ_ok (i8_zm _) <| cE_ok <| cQ_ok <| cW_ok <| cU_ok (i8_zm _) <| cW_ok <| cU_ok hx4 <| cA_ok (i8_zm _) hx4 <| cZ_ok (i8_zs _ _) <| cE_ok <| cE_ok <| cE_ok <| cT_ok ha <| cW_ok <| cU_ok (i8_zs _ _) <| cM_ok (i8_zs _ _) <| cZ_ok (i8_zm _) <| cE_ok <| cQ_ok <| cW_ok <| cU_ok (i8_zm _) <| cW_ok <| cU_ok hx5 <| cA_ok (i8_zm _) hx5 <| cZ_ok (i8_zs _ _) <| cE_ok <| h
theorem sumA6_f (l : Nat → Int) : [zs (xA l (0 * 6 + 0)) 0, zs (xA l (0 * 6 + 1)) 0, zs (xA l (0 * 6 + 2)) 0, zs (xA l (0 * 6 + 3)) 0, zs (xA l (0 * 6 + 4)) 0, zs (xA l (0 * 6 + 5)) 0] = sumA 6 l 1 := by
  show _ = [wrapF .i8 (0 + xA l (0 * 6 + 0)), wrapF .i8 (0 + xA l (0 * 6 + 1)), wrapF .i8 (0 + xA l (0 * 6 + 2)), wrapF .i8 (0 + xA l (0 * 6 + 3)), wrapF .i8 (0 + xA l (0 * 6 + 4)), wrapF .i8 (0 + xA l (0 * 6 + 5))]
  rw [zs_c (xA l (0 * 6 + 0)) 0, zs_c (xA l (0 * 6 + 1)) 0, zs_c (xA l (0 * 6 + 2)) 0, zs_c (xA l (0 * 6 + 3)) 0, zs_c (xA l (0 * 6 + 4)) 0, zs_c (xA l (0 * 6 + 5)) 0]
theorem sumA6_s (l : Nat → Int) (i : Nat) (av : List Int) (h : [gI av 1, gI av 2, gI av 3, gI av 4, gI av 5, gI av 6] = sumA 6 l i) : [zs (xA l (i * 6 + 0)) (gI av 1), zs (xA l (i * 6 + 1)) (gI av 2), zs (xA l (i * 6 + 2)) (gI av 3), zs (xA l (i * 6 + 3)) (gI av 4), zs (xA l (i * 6 + 4)) (gI av 5), zs (xA l (i * 6 + 5)) (gI av 6)] = sumA 6 l (i + 1) := by
  show _ = addL (sumA 6 l i) (inA 6 l i)
  rw [← h]
  show _ = [wrapF .i8 (gI av 1 + xA l (i * 6 + 0)), wrapF .i8 (gI av 2 + xA l (i * 6 + 1)), wrapF .i8 (gI av 3 + xA l (i * 6 + 2)), wrapF .i8 (gI av 4 + xA l (i * 6 + 3)), wrapF .i8 (gI av 5 + xA l (i * 6 + 4)), wrapF .i8 (gI av 6 + xA l (i * 6 + 5))]
  rw [zs_c (xA l (i * 6 + 0)) (gI av 1), zs_c (xA l (i * 6 + 1)) (gI av 2), zs_c (xA l (i * 6 + 2)) (gI av 3), zs_c (xA l (i * 6 + 3)) (gI av 4), zs_c (xA l (i * 6 + 4)) (gI av 5), zs_c (xA l (i * 6 + 5)) (gI av 6)]
theorem rowA6_f (l : Nat → Int) : rowR [.int .i64 (zs (xA l (0 * 6 + 0)) 0), .int .i64 (zs (xA l (0 * 6 + 1)) 0), .int .i64 (zs (xA l (0 * 6 + 2)) 0), .int .i64 (zs (xA l (0 * 6 + 3)) 0), .int .i64 (zs (xA l (0 * 6 + 4)) 0), .int .i64 (zs (xA l (0 * 6 + 5)) 0), .int .i64 (q5 (xA l (0 * 6 + 0)) (xA l (0 * 6 + 1)) (xA l (0 * 6 + 2)) (xA l (0 * 6 + 3)) (xA l (0 * 6 + 4)) (xA l (0 * 6 + 5)))] = outR (ioA 6 l) 0 := by
  show _ = rowR ((sumA 6 l 1 ++ [mixA 1 (inA 6 l 0)]).map (.int .i64))
  rw [← sumA6_f, show mixA 1 (inA 6 l 0) = _ from mq5 (xA l (0 * 6 + 0)) (xA l (0 * 6 + 1)) (xA l (0 * 6 + 2)) (xA l (0 * 6 + 3)) (xA l (0 * 6 + 4)) (xA l (0 * 6 + 5))]; rfl
theorem rowA6_s (l : Nat → Int) (i : Nat) (av : List Int) (h : [gI av 1, gI av 2, gI av 3, gI av 4, gI av 5, gI av 6] = sumA 6 l i) : rowR [.int .i64 (zs (xA l (i * 6 + 0)) (gI av 1)), .int .i64 (zs (xA l (i * 6 + 1)) (gI av 2)), .int .i64 (zs (xA l (i * 6 + 2)) (gI av 3)), .int .i64 (zs (xA l (i * 6 + 3)) (gI av 4)), .int .i64 (zs (xA l (i * 6 + 4)) (gI av 5)), .int .i64 (zs (xA l (i * 6 + 5)) (gI av 6)), .int .i64 (q5 (xA l (i * 6 + 0)) (xA l (i * 6 + 1)) (xA l (i * 6 + 2)) (xA l (i * 6 + 3)) (xA l (i * 6 + 4)) (xA l (i * 6 + 5)))] = outR (ioA 6 l) i := by
  show _ = rowR ((sumA 6 l (i + 1) ++ [mixA 1 (inA 6 l i)]).map (.int .i64))
  rw [← sumA6_s l i av h, show mixA 1 (inA 6 l i) = _ from mq5 (xA l (i * 6 + 0)) (xA l (i * 6 + 1)) (xA l (i * 6 + 2)) (xA l (i * 6 + 3)) (xA l (i * 6 + 4)) (xA l (i * 6 + 5))]; rfl
theorem okA6 : pA6.Ok := ⟨by decide, by decide, by kernel_rfl, by kernel_rfl, by kernel_rfl, by kernel_rfl, by decide⟩
def runA6 (l : Nat → Int) (n : Nat) (hn : n ≤ 80) : Runs pA6 (ioA 6 l) n where
  b0 := bS6_0
  b1 := fun av => bS6_1 (gI av 0) (gI av 1) (gI av 2) (gI av 3) (gI av 4) (gI av 5) (gI av 6) (gI av 7) (gI av 8) (gI av 9) (gI av 10) (gI av 11) (gI av 12) (gI av 13) (gI av 14) (gI av 15) (gI av 16) (gI av 17) (gI av 18)
  ok := fun i av => gI av 0 = (i : Int) ∧ [gI av 1, gI av 2, gI av 3, gI av 4, gI av 5, gI av 6] = sumA 6 l i
  d0 := dA6_0
  d1 := dA6_1
  a1 := [1, (zs (xA l (0 * 6 + 0)) 0), (zs (xA l (0 * 6 + 1)) 0), (zs (xA l (0 * 6 + 2)) 0), (zs (xA l (0 * 6 + 3)) 0), (zs (xA l (0 * 6 + 4)) 0), (zs (xA l (0 * 6 + 5)) 0), (q5 (xA l (0 * 6 + 0)) (xA l (0 * 6 + 1)) (xA l (0 * 6 + 2)) (xA l (0 * 6 + 3)) (xA l (0 * 6 + 4)) (xA l (0 * 6 + 5))), (xA l (0 * 6 + 0)), (xA l (0 * 6 + 1)), (xA l (0 * 6 + 2)), (xA l (0 * 6 + 3)), (xA l (0 * 6 + 4)), (xA l (0 * 6 + 5)), (q0 (xA l (0 * 6 + 0))), (q1 (xA l (0 * 6 + 0)) (xA l (0 * 6 + 1))), (q2 (xA l (0 * 6 + 0)) (xA l (0 * 6 + 1)) (xA l (0 * 6 + 2))), (q3 (xA l (0 * 6 + 0)) (xA l (0 * 6 + 1)) (xA l (0 * 6 + 2)) (xA l (0 * 6 + 3))), (q4 (xA l (0 * 6 + 0)) (xA l (0 * 6 + 1)) (xA l (0 * 6 + 2)) (xA l (0 * 6 + 3)) (xA l (0 * 6 + 4)))]
  nx := fun i av => [((gI av 0) + 1), (zs (xA l (i * 6 + 0)) (gI av 1)), (zs (xA l (i * 6 + 1)) (gI av 2)), (zs (xA l (i * 6 + 2)) (gI av 3)), (zs (xA l (i * 6 + 3)) (gI av 4)), (zs (xA l (i * 6 + 4)) (gI av 5)), (zs (xA l (i * 6 + 5)) (gI av 6)), (q5 (xA l (i * 6 + 0)) (xA l (i * 6 + 1)) (xA l (i * 6 + 2)) (xA l (i * 6 + 3)) (xA l (i * 6 + 4)) (xA l (i * 6 + 5))), (xA l (i * 6 + 0)), (xA l (i * 6 + 1)), (xA l (i * 6 + 2)), (xA l (i * 6 + 3)), (xA l (i * 6 + 4)), (xA l (i * 6 + 5)), (q0 (xA l (i * 6 + 0))), (q1 (xA l (i * 6 + 0)) (xA l (i * 6 + 1))), (q2 (xA l (i * 6 + 0)) (xA l (i * 6 + 1)) (xA l (i * 6 + 2))), (q3 (xA l (i * 6 + 0)) (xA l (i * 6 + 1)) (xA l (i * 6 + 2)) (xA l (i * 6 + 3))), (q4 (xA l (i * 6 + 0)) (xA l (i * 6 + 1)) (xA l (i * 6 + 2)) (xA l (i * 6 + 3)) (xA l (i * 6 + 4)))]
  oka := ⟨rfl, sumA6_f l⟩
  okn := fun i av h hi => ⟨by have h := h.1; show gI av 0 + 1 = ((i + 1 : Nat) : Int); omega, sumA6_s l i av h.2⟩
  bl := by kernel_rfl
  get0 := fun z csI csW => by kernel_rfl
  zg0 := fun z csI csW => by kernel_rfl
  get1 := fun z cs csI csW i av _ => by kernel_rfl
  zg1 := fun z cs csI csW i av _ => by kernel_rfl
  st0 := fun z Zs hn0 => usefGR okA6 (ks := kA6_0) (oa := 1051066) (ra := 1051064) (rw := [.int .i64 (zs (xA l (0 * 6 + 0)) 0), .int .i64 (zs (xA l (0 * 6 + 1)) 0), .int .i64 (zs (xA l (0 * 6 + 2)) 0), .int .i64 (zs (xA l (0 * 6 + 3)) 0), .int .i64 (zs (xA l (0 * 6 + 4)) 0), .int .i64 (zs (xA l (0 * 6 + 5)) 0), .int .i64 (q5 (xA l (0 * 6 + 0)) (xA l (0 * 6 + 1)) (xA l (0 * 6 + 2)) (xA l (0 * 6 + 3)) (xA l (0 * 6 + 4)) (xA l (0 * 6 + 5)))]) (C := wA6_0 (xA l (0 * 6 + 0)) (xA l (0 * 6 + 1)) (xA l (0 * 6 + 2)) (xA l (0 * 6 + 3)) (xA l (0 * 6 + 4)) (xA l (0 * 6 + 5))) (by kernel_rfl) Zs hn hn0 (fun Kv => tA6_0 _ _ _ _ _ (xA l (0 * 6 + 0)) (xA l (0 * 6 + 1)) (xA l (0 * 6 + 2)) (xA l (0 * 6 + 3)) (xA l (0 * 6 + 4)) (xA l (0 * 6 + 5)) Kv) (fun t h => wokA6_0 (xA l (0 * 6 + 0)) (xA l (0 * 6 + 1)) (xA l (0 * 6 + 2)) (xA l (0 * 6 + 3)) (xA l (0 * 6 + 4)) (xA l (0 * 6 + 5)) (i8_xA _ _) (i8_xA _ _) (i8_xA _ _) (i8_xA _ _) (i8_xA _ _) (i8_xA _ _) h) (by kernel_rfl) (by kernel_rfl) (by kernel_rfl) (by decide) (by decide) (by decide) ⟨[(zs (xA l (0 * 6 + 0)) 0), (zs (xA l (0 * 6 + 1)) 0), (zs (xA l (0 * 6 + 2)) 0), (zs (xA l (0 * 6 + 3)) 0), (zs (xA l (0 * 6 + 4)) 0), (zs (xA l (0 * 6 + 5)) 0), (q5 (xA l (0 * 6 + 0)) (xA l (0 * 6 + 1)) (xA l (0 * 6 + 2)) (xA l (0 * 6 + 3)) (xA l (0 * 6 + 4)) (xA l (0 * 6 + 5)))], 3, true, rfl⟩ (rowA6_f l)
  st1 := fun z Zs i av h hi => by
    obtain ⟨h0, hs⟩ := h
    exact useGR okA6 (ks := kA6_1) (oa := 2097512) (ra := 2097510) (rw := [.int .i64 (zs (xA l (i * 6 + 0)) (gI av 1)), .int .i64 (zs (xA l (i * 6 + 1)) (gI av 2)), .int .i64 (zs (xA l (i * 6 + 2)) (gI av 3)), .int .i64 (zs (xA l (i * 6 + 3)) (gI av 4)), .int .i64 (zs (xA l (i * 6 + 4)) (gI av 5)), .int .i64 (zs (xA l (i * 6 + 5)) (gI av 6)), .int .i64 (q5 (xA l (i * 6 + 0)) (xA l (i * 6 + 1)) (xA l (i * 6 + 2)) (xA l (i * 6 + 3)) (xA l (i * 6 + 4)) (xA l (i * 6 + 5)))]) (C := wA6_1 (gI av 0) (gI av 1) (gI av 2) (gI av 3) (gI av 4) (gI av 5) (gI av 6) (gI av 7) (gI av 8) (gI av 9) (gI av 10) (gI av 11) (gI av 12) (gI av 13) (gI av 14) (gI av 15) (gI av 16) (gI av 17) (gI av 18) (xA l (i * 6 + 0)) (xA l (i * 6 + 1)) (xA l (i * 6 + 2)) (xA l (i * 6 + 3)) (xA l (i * 6 + 4)) (xA l (i * 6 + 5))) (by kernel_rfl) Zs hn hi (fun Kv => tA6_1 _ _ _ _ _ _ (gI av 0) (gI av 1) (gI av 2) (gI av 3) (gI av 4) (gI av 5) (gI av 6) (gI av 7) (gI av 8) (gI av 9) (gI av 10) (gI av 11) (gI av 12) (gI av 13) (gI av 14) (gI av 15) (gI av 16) (gI av 17) (gI av 18) (xA l (i * 6 + 0)) (xA l (i * 6 + 1)) (xA l (i * 6 + 2)) (xA l (i * 6 + 3)) (xA l (i * 6 + 4)) (xA l (i * 6 + 5)) Kv) (fun t h => wokA6_1 (gI av 0) (gI av 1) (gI av 2) (gI av 3) (gI av 4) (gI av 5) (gI av 6) (gI av 7) (gI av 8) (gI av 9) (gI av 10) (gI av 11) (gI av 12) (gI av 13) (gI av 14) (gI av 15) (gI av 16) (gI av 17) (gI av 18) (xA l (i * 6 + 0)) (xA l (i * 6 + 1)) (xA l (i * 6 + 2)) (xA l (i * 6 + 3)) (xA l (i * 6 + 4)) (xA l (i * 6 + 5)) (i8_xA _ _) (i8_xA _ _) (i8_xA _ _) (i8_xA _ _) (i8_xA _ _) (i8_xA _ _) (sumA_small 6 l i _ (by rw [← hs]; simp)) (sumA_small 6 l i _ (by rw [← hs]; simp)) (sumA_small 6 l i _ (by rw [← hs]; simp)) (sumA_small 6 l i _ (by rw [← hs]; simp)) (sumA_small 6 l i _ (by rw [← hs]; simp)) (sumA_small 6 l i _ (by rw [← hs]; simp)) (by omega) h) (by kernel_rfl) (by kernel_rfl) (by kernel_rfl) (by decide) (by decide) (by decide) ⟨[(zs (xA l (i * 6 + 0)) (gI av 1)), (zs (xA l (i * 6 + 1)) (gI av 2)), (zs (xA l (i * 6 + 2)) (gI av 3)), (zs (xA l (i * 6 + 3)) (gI av 4)), (zs (xA l (i * 6 + 4)) (gI av 5)), (zs (xA l (i * 6 + 5)) (gI av 6)), (q5 (xA l (i * 6 + 0)) (xA l (i * 6 + 1)) (xA l (i * 6 + 2)) (xA l (i * 6 + 3)) (xA l (i * 6 + 4)) (xA l (i * 6 + 5)))], 3, true, rfl⟩ (rowA6_s l i av hs)
  ex1 := fun z csI csW n' i g av _ Kv => xA6_1 z csI csW n' i g av Kv
  len := inA_len 6 l
def dfA6 : List Bool := bitsL 102 2576728093641417924933102311277
def dsA6 : List Bool := bitsL 104 10182631695010794333913321543533
theorem loopA6 : LRes 6 (pBA 6) dfA6 dsA6 where
  hd1 := by decide
  hd8 := by decide
  lit := by kernel_rfl
  blk := by kernel_rfl
  ndk := fun te l len s j oi ow => by kernel_rfl
  ndf := fun te l len s b w => by kernel_rfl
  nds := fun te l len j s b w => by kernel_rfl
  nd1 := fun a b => by kernel_rfl
  nd2 := fun a b => by kernel_rfl
  zA := fun te l len s => by kernel_rfl
  first := fun z te l len Kv => by kernel_rfl
  later := fun z te l len i j f Kv => by kernel_rfl
  leave := fun z te l len i j s Kv => by kernel_rfl
theorem askA6 : AskEqF 6 := fun h A KN n i r f Kv => by kernel_rfl
theorem sameA6 : SameEq 7 := fun h A B n i x za zb Kv => by kernel_rfl
theorem keyA6 (l : Nat → Int) (n : Nat) (hn : n ≤ 80) : RunKey (dpA 6) (runA6 l n hn) := fun z g K => by kernel_rfl
theorem allA6 : AllRes pA6 (dpA 6) dfA6 dsA6 where
  ok := okA6
  hm := rfl
  dok := dpA_ok (by decide)
  ask := askA6.ask
  same := sameA6
  loop := loopA6
  runs := fun l n hn => ⟨runA6 l n hn, keyA6 l n hn⟩
theorem lawA6 : LawKey pA6 (dpA 6) := fun te l len n K => by kernel_rfl
theorem r0A6 : Run0Key 6 := fun K => by kernel_rfl
theorem fewA6 : FewKey 6 := fun te l len K => by kernel_rfl
theorem noneA6 : NoneKey 6 := fun K => by kernel_rfl
theorem cfewA6 : X.Good (CFew 6) Tryz.prog := CFew_good (by decide) (by decide) r0A6 (by kernel_rfl) (by kernel_rfl)
end
end Go.Proofs.YtkfhjobebhdpoaaGreat

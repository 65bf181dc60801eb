/- Stream: what the kernel tells of StreamArrays with 4 columns. -/
import Derived.Test.YtkfhjobebhdpoaaGreatB4
set_option linter.unusedVariables false
set_option linter.unusedSimpArgs false
set_option autoImplicit false
set_option maxRecDepth 1000000
set_option maxHeartbeats 2000000
set_option linter.unusedVariables false
namespace Go.Proofs.YtkfhjobebhdpoaaGreat
noncomputable section
open Go.X
theorem wokA4_0 (x0 : Int) (x1 : Int) (x2 : Int) (x3 : Int) (hx0 : I8 x0) (hx1 : I8 x1) (hx2 : I8 x2) (hx3 : I8 x3) {t : Prop} (h : t) : wA4_0 x0 x1 x2 x3 t := by
  have ha : (0 : Int) ≤ 0 ∧ (0 : Int) ≤ 1000 := by omega
  unfold wA4_0
  exact cE_ok <| cE_ok <| cE_ok <| cW_ok <| cU_ok hx0 <| cA_ok hx0 i8_0 <| cZ_ok (i8_zs _ _) <| cE_ok <| cE_ok <| cE_ok <| cE_ok <| cW_ok <| cU_ok hx1 <| cA_ok hx1 i8_0 <| cZ_ok (i8_zs _ _) <| cE_ok <| cE_ok <| cE_ok <| cE_ok <| cW_ok <| cU_ok hx2 <| cA_ok hx2 i8_0 <| cZ_ok (i8_zs _ _) <| cE_ok <| cE_ok <| cE_ok <| cE_ok <| cW_ok <| cU_ok hx3 <| cA_ok hx3 i8_0 <| cZ_ok (i8_zs _ _) <| cE_ok <| cE_ok <| cE_ok <| cE_ok <| cE_ok <| cE_ok <| cE_ok <| cE_ok <| cW_ok <| cU_ok hx0 <| cA_ok i8_3 hx0 <| cZ_ok (i8_zs _ _) <| cE_ok <| cE_ok <| cE_ok <| cE_ok <| cE_ok <| cE_ok <| cE_ok <| cW_ok <| cU_ok (i8_zs _ _) <| cM_ok (i8_zs _ _) <| cZ_ok (i8_zm _) <| cE_ok <| cW_ok <| cU_ok (i8_zm _) <| cW_ok <| cU_ok hx1 <| cA_ok (i8_zm _) hx1 <| cZ_ok (i8_zs _ _) <| cE_ok <| cE_ok <| cE_ok <| cE_ok <| cE_ok <| cE_ok <| cE_ok <| cW_ok <| cU_ok (i8_zs _ _) <| cM_ok (i8_zs _ _) <| cZ_ok (i8_zm _) <| cE_ok <| cW_ok <| cU_ok (i8_zm _) <| cW_ok <| cU_ok hx2 <| cA_ok (i8_zm _) hx2 <| cZ_ok (i8_zs _ _) <| cE_ok <| cE_ok <| cE_ok <| cE_ok <| cE_ok <| cE_ok <| cE_ok <| cW_ok <| cU_ok (i8_zs _ _) <| cM_ok (i8_zs _ _) <| cZ_ok (i8_zm _) <| cE_ok <| cW_ok <| cU_ok (i8_zm _) <| cW_ok <| cU_ok hx3 <| cA_ok (i8_zm _) hx3 <| cZ_ok (i8_zs _ _) <| cE_ok <| h
theorem wokA4_1 (a0 : Int) (a1 : Int) (a2 : Int) (a3 : Int) (a4 : Int) (a5 : Int) (a6 : Int) (a7 : Int) (a8 : Int) (a9 : Int) (a10 : Int) (a11 : Int) (a12 : Int) (x0 : Int) (x1 : Int) (x2 : Int) (x3 : Int) (hx0 : I8 x0) (hx1 : I8 x1) (hx2 : I8 x2) (hx3 : I8 x3) (ha1 : I8 a1) (ha2 : I8 a2) (ha3 : I8 a3) (ha4 : I8 a4) (ha : 0 ≤ a0 ∧ a0 ≤ 1000) {t : Prop} (h : t) : wA4_1 a0 a1 a2 a3 a4 a5 a6 a7 a8 a9 a10 a11 a12 x0 x1 x2 x3 t := by
  unfold wA4_1
  exact cT_ok ha <| cT_ok ha <| cS_ok hx0 ha1 <| cE_ok <| cQ_ok <| cT_ok ha <| cS_ok hx1 ha2 <| cE_ok <| cQ_ok <| cT_ok ha <| cS_ok hx2 ha3 <| cE_ok <| cQ_ok <| cT_ok ha <| cS_ok hx3 ha4 <| cE_ok <| cQ_ok <| cN_ok <| cN_ok <| cQ_ok <| cE_ok <| cE_ok <| cT_ok ha <| cE_ok <| cQ_ok <| cW_ok <| cU_ok hx0 <| cA_ok i8_3 hx0 <| cZ_ok (i8_zs _ _) <| cE_ok <| cE_ok <| cE_ok <| cT_ok ha <| cW_ok <| cU_ok (i8_zs _ _) <| cM_ok (i8_zs _ _) <| cZ_ok (i8_zm _) <| cE_ok <| cQ_ok <| cW_ok <| cU_ok (i8_zm _) <| cW_ok <| cU_ok hx1 <| cA_ok (i8_zm _) hx1 <| cZ_ok (i8_zs _ _) <| cE_ok <| cE_ok <| cE_ok <| cT_ok ha <| cW_ok <| cU_ok (i8_zs _ _) <| cM_ok (i8_zs _ _) <| cZ_ok (i8_zm _) <| cE_ok <| cQ_ok <| cW_ok <| cU_ok (i8_zm _) <| cW_ok <| cU_ok hx2 <| cA_ok (i8_zm _) hx2 <| cZ_ok (i8_zs _ _) <| cE_ok <| cE_ok <| cE_ok <| cT_ok ha <| cW_ok <| cU_ok (i8_zs _ _) <| cM_ok (i8_zs _ _) <| cZ_ok (i8_zm _) <| cE_ok <| cQ_ok <| cW_ok <| cU_ok (i8_zm _) <| cW_ok <| cU_ok hx3 <| cA_ok (i8_zm _) hx3 <| cZ_ok (i8_zs _ _) <| cE_ok <| h
theorem sumA4_f (l : Nat → Int) : [zs (xA l (0 * 4 + 0)) 0, zs (xA l (0 * 4 + 1)) 0, zs (xA l (0 * 4 + 2)) 0, zs (xA l (0 * 4 + 3)) 0] = sumA 4 l 1 := by
  show _ = [wrapF .i8 (0 + xA l (0 * 4 + 0)), wrapF .i8 (0 + xA l (0 * 4 + 1)), wrapF .i8 (0 + xA l (0 * 4 + 2)), wrapF .i8 (0 + xA l (0 * 4 + 3))]
  rw [zs_c (xA l (0 * 4 + 0)) 0, zs_c (xA l (0 * 4 + 1)) 0, zs_c (xA l (0 * 4 + 2)) 0, zs_c (xA l (0 * 4 + 3)) 0]
theorem sumA4_s (l : Nat → Int) (i : Nat) (av : List Int) (h : [gI av 1, gI av 2, gI av 3, gI av 4] = sumA 4 l i) : [zs (xA l (i * 4 + 0)) (gI av 1), zs (xA l (i * 4 + 1)) (gI av 2), zs (xA l (i * 4 + 2)) (gI av 3), zs (xA l (i * 4 + 3)) (gI av 4)] = sumA 4 l (i + 1) := by
  show _ = addL (sumA 4 l i) (inA 4 l i)
  rw [← h]
  show _ = [wrapF .i8 (gI av 1 + xA l (i * 4 + 0)), wrapF .i8 (gI av 2 + xA l (i * 4 + 1)), wrapF .i8 (gI av 3 + xA l (i * 4 + 2)), wrapF .i8 (gI av 4 + xA l (i * 4 + 3))]
  rw [zs_c (xA l (i * 4 + 0)) (gI av 1), zs_c (xA l (i * 4 + 1)) (gI av 2), zs_c (xA l (i * 4 + 2)) (gI av 3), zs_c (xA l (i * 4 + 3)) (gI av 4)]
theorem rowA4_f (l : Nat → Int) : rowR [.int .i64 (zs (xA l (0 * 4 + 0)) 0), .int .i64 (zs (xA l (0 * 4 + 1)) 0), .int .i64 (zs (xA l (0 * 4 + 2)) 0), .int .i64 (zs (xA l (0 * 4 + 3)) 0), .int .i64 (q3 (xA l (0 * 4 + 0)) (xA l (0 * 4 + 1)) (xA l (0 * 4 + 2)) (xA l (0 * 4 + 3)))] = outR (ioA 4 l) 0 := by
  show _ = rowR ((sumA 4 l 1 ++ [mixA 1 (inA 4 l 0)]).map (.int .i64))
  rw [← sumA4_f, show mixA 1 (inA 4 l 0) = _ from mq3 (xA l (0 * 4 + 0)) (xA l (0 * 4 + 1)) (xA l (0 * 4 + 2)) (xA l (0 * 4 + 3))]; rfl
theorem rowA4_s (l : Nat → Int) (i : Nat) (av : List Int) (h : [gI av 1, gI av 2, gI av 3, gI av 4] = sumA 4 l i) : rowR [.int .i64 (zs (xA l (i * 4 + 0)) (gI av 1)), .int .i64 (zs (xA l (i * 4 + 1)) (gI av 2)), .int .i64 (zs (xA l (i * 4 + 2)) (gI av 3)), .int .i64 (zs (xA l (i * 4 + 3)) (gI av 4)), .int .i64 (q3 (xA l (i * 4 + 0)) (xA l (i * 4 + 1)) (xA l (i * 4 + 2)) (xA l (i * 4 + 3)))] = outR (ioA 4 l) i := by
  show _ = rowR ((sumA 4 l (i + 1) ++ [mixA 1 (inA 4 l i)]).map (.int .i64))
  rw [← sumA4_s l i av h, show mixA 1 (inA 4 l i) = _ from mq3 (xA l (i * 4 + 0)) (xA l (i * 4 + 1)) (xA l (i * 4 + 2)) (xA l (i * 4 + 3))]; rfl
theorem okA4 : pA4.Ok := ⟨by decide, by decide, by kernel_rfl, by kernel_rfl, by kernel_rfl, by kernel_rfl, by decide⟩
def runA4 (l : Nat → Int) (n : Nat) (hn : n ≤ 80) : Runs pA4 (ioA 4 l) n where
  b0 := bS4_0
  b1 := fun av => bS4_1 (gI av 0) (gI av 1) (gI av 2) (gI av 3) (gI av 4) (gI av 5) (gI av 6) (gI av 7) (gI av 8) (gI av 9) (gI av 10) (gI av 11) (gI av 12)
  ok := fun i av => gI av 0 = (i : Int) ∧ [gI av 1, gI av 2, gI av 3, gI av 4] = sumA 4 l i
  d0 := dA4_0
  d1 := dA4_1
  a1 := [1, (zs (xA l (0 * 4 + 0)) 0), (zs (xA l (0 * 4 + 1)) 0), (zs (xA l (0 * 4 + 2)) 0), (zs (xA l (0 * 4 + 3)) 0), (q3 (xA l (0 * 4 + 0)) (xA l (0 * 4 + 1)) (xA l (0 * 4 + 2)) (xA l (0 * 4 + 3))), (xA l (0 * 4 + 0)), (xA l (0 * 4 + 1)), (xA l (0 * 4 + 2)), (xA l (0 * 4 + 3)), (q0 (xA l (0 * 4 + 0))), (q1 (xA l (0 * 4 + 0)) (xA l (0 * 4 + 1))), (q2 (xA l (0 * 4 + 0)) (xA l (0 * 4 + 1)) (xA l (0 * 4 + 2)))]
  nx := fun i av => [((gI av 0) + 1), (zs (xA l (i * 4 + 0)) (gI av 1)), (zs (xA l (i * 4 + 1)) (gI av 2)), (zs (xA l (i * 4 + 2)) (gI av 3)), (zs (xA l (i * 4 + 3)) (gI av 4)), (q3 (xA l (i * 4 + 0)) (xA l (i * 4 + 1)) (xA l (i * 4 + 2)) (xA l (i * 4 + 3))), (xA l (i * 4 + 0)), (xA l (i * 4 + 1)), (xA l (i * 4 + 2)), (xA l (i * 4 + 3)), (q0 (xA l (i * 4 + 0))), (q1 (xA l (i * 4 + 0)) (xA l (i * 4 + 1))), (q2 (xA l (i * 4 + 0)) (xA l (i * 4 + 1)) (xA l (i * 4 + 2)))]
  oka := ⟨rfl, sumA4_f l⟩
  okn := fun i av h hi => ⟨by have h := h.1; show gI av 0 + 1 = ((i + 1 : Nat) : Int); omega, sumA4_s l i av h.2⟩
  bl := by kernel_rfl
  get0 := fun z csI csW => by kernel_rfl
  zg0 := fun z csI csW => by kernel_rfl
  get1 := fun z cs csI csW i av _ => by kernel_rfl
  zg1 := fun z cs csI csW i av _ => by kernel_rfl
  st0 := fun z Zs hn0 => usefGR okA4 (ks := kA4_0) (oa := 1050576) (ra := 1050574) (rw := [.int .i64 (zs (xA l (0 * 4 + 0)) 0), .int .i64 (zs (xA l (0 * 4 + 1)) 0), .int .i64 (zs (xA l (0 * 4 + 2)) 0), .int .i64 (zs (xA l (0 * 4 + 3)) 0), .int .i64 (q3 (xA l (0 * 4 + 0)) (xA l (0 * 4 + 1)) (xA l (0 * 4 + 2)) (xA l (0 * 4 + 3)))]) (C := wA4_0 (xA l (0 * 4 + 0)) (xA l (0 * 4 + 1)) (xA l (0 * 4 + 2)) (xA l (0 * 4 + 3))) (by kernel_rfl) Zs hn hn0 (fun Kv => tA4_0 _ _ _ _ _ (xA l (0 * 4 + 0)) (xA l (0 * 4 + 1)) (xA l (0 * 4 + 2)) (xA l (0 * 4 + 3)) Kv) (fun t h => wokA4_0 (xA l (0 * 4 + 0)) (xA l (0 * 4 + 1)) (xA l (0 * 4 + 2)) (xA l (0 * 4 + 3)) (i8_xA _ _) (i8_xA _ _) (i8_xA _ _) (i8_xA _ _) h) (by kernel_rfl) (by kernel_rfl) (by kernel_rfl) (by decide) (by decide) (by decide) ⟨[(zs (xA l (0 * 4 + 0)) 0), (zs (xA l (0 * 4 + 1)) 0), (zs (xA l (0 * 4 + 2)) 0), (zs (xA l (0 * 4 + 3)) 0), (q3 (xA l (0 * 4 + 0)) (xA l (0 * 4 + 1)) (xA l (0 * 4 + 2)) (xA l (0 * 4 + 3)))], 3, true, rfl⟩ (rowA4_f l)
  st1 := fun z Zs i av h hi => by
    obtain ⟨h0, hs⟩ := h
    exact useGR okA4 (ks := kA4_1) (oa := 2097398) (ra := 2097396) (rw := [.int .i64 (zs (xA l (i * 4 + 0)) (gI av 1)), .int .i64 (zs (xA l (i * 4 + 1)) (gI av 2)), .int .i64 (zs (xA l (i * 4 + 2)) (gI av 3)), .int .i64 (zs (xA l (i * 4 + 3)) (gI av 4)), .int .i64 (q3 (xA l (i * 4 + 0)) (xA l (i * 4 + 1)) (xA l (i * 4 + 2)) (xA l (i * 4 + 3)))]) (C := wA4_1 (gI av 0) (gI av 1) (gI av 2) (gI av 3) (gI av 4) (gI av 5) (gI av 6) (gI av 7) (gI av 8) (gI av 9) (gI av 10) (gI av 11) (gI av 12) (xA l (i * 4 + 0)) (xA l (i * 4 + 1)) (xA l (i * 4 + 2)) (xA l (i * 4 + 3))) (by kernel_rfl) Zs hn hi (fun Kv => tA4_1 _ _ _ _ _ _ (gI av 0) (gI av 1) (gI av 2) (gI av 3) (gI av 4) (gI av 5) (gI av 6) (gI av 7) (gI av 8) (gI av 9) (gI av 10) (gI av 11) (gI av 12) (xA l (i * 4 + 0)) (xA l (i * 4 + 1)) (xA l (i * 4 + 2)) (xA l (i * 4 + 3)) Kv) (fun t h => wokA4_1 (gI av 0) (gI av 1) (gI av 2) (gI av 3) (gI av 4) (gI av 5) (gI av 6) (gI av 7) (gI av 8) (gI av 9) (gI av 10) (gI av 11) (gI av 12) (xA l (i * 4 + 0)) (xA l (i * 4 + 1)) (xA l (i * 4 + 2)) (xA l (i * 4 + 3)) (i8_xA _ _) (i8_xA _ _) (i8_xA _ _) (i8_xA _ _) (sumA_small 4 l i _ (by rw [← hs]; simp)) (sumA_small 4 l i _ (by rw [← hs]; simp)) (sumA_small 4 l i _ (by rw [← hs]; simp)) (sumA_small 4 l i _ (by rw [← hs]; simp)) (by omega) h) (by kernel_rfl) (by kernel_rfl) (by kernel_rfl) (by decide) (by decide) (by decide) ⟨[(zs (xA l (i * 4 + 0)) (gI av 1)), (zs (xA l (i * 4 + 1)) (gI av 2)), (zs (xA l (i * 4 + 2)) (gI av 3)), (zs (xA l (i * 4 + 3)) (gI av 4)), (q3 (xA l (i * 4 + 0)) (xA l (i * 4 + 1)) (xA l (i * 4 + 2)) (xA l (i * 4 + 3)))], 3, true, rfl⟩ (rowA4_s l i av hs)
  ex1 := fun z csI csW n' i g av _ Kv => xA4_1 z csI csW n' i g av Kv
  len := inA_len 4 l
def dfA4 : List Bool := bitsL 70 599941260563539793773
def dsA4 : List Bool := bitsL 72 2370828691639656748909
theorem loopA4 : LRes 4 (pBA 4) dfA4 dsA4 where
  hd1 := by decide
  hd8 := by decide
  lit := by kernel_rfl
  blk := by kernel_rfl
  ndk := fun te l len s j oi ow => by kernel_rfl
  ndf := fun te l len s b w => by kernel_rfl
  nds := fun te l len j s b w => by kernel_rfl
  nd1 := fun a b => by kernel_rfl
  nd2 := fun a b => by kernel_rfl
  zA := fun te l len s => by kernel_rfl
  first := fun z te l len Kv => by kernel_rfl
  later := fun z te l len i j f Kv => by kernel_rfl
  leave := fun z te l len i j s Kv => by kernel_rfl
theorem askA4 : AskEqF 4 := fun h A KN n i r f Kv => by kernel_rfl
theorem sameA4 : SameEq 5 := fun h A B n i x za zb Kv => by kernel_rfl
theorem keyA4 (l : Nat → Int) (n : Nat) (hn : n ≤ 80) : RunKey (dpA 4) (runA4 l n hn) := fun z g K => by kernel_rfl
theorem allA4 : AllRes pA4 (dpA 4) dfA4 dsA4 where
  ok := okA4
  hm := rfl
  dok := dpA_ok (by decide)
  ask := askA4.ask
  same := sameA4
  loop := loopA4
  runs := fun l n hn => ⟨runA4 l n hn, keyA4 l n hn⟩
theorem lawA4 : LawKey pA4 (dpA 4) := fun te l len n K => by kernel_rfl
theorem r0A4 : Run0Key 4 := fun K => by kernel_rfl
theorem fewA4 : FewKey 4 := fun te l len K => by kernel_rfl
theorem noneA4 : NoneKey 4 := fun K => by kernel_rfl
theorem cfewA4 : X.Good (CFew 4) Tryz.prog := CFew_good (by decide) (by decide) r0A4 (by kernel_rfl) (by kernel_rfl)
end
end Go.Proofs.YtkfhjobebhdpoaaGreat

/- Stream: what the kernel tells of StreamArrays with 1 columns. -/
import Derived.Test.YtkfhjobebhdpoaaGreatB1
set_option linter.unusedVariables false
set_option linter.unusedSimpArgs false
set_option autoImplicit false
set_option maxRecDepth 1000000
set_option maxHeartbeats 2000000
set_option linter.unusedVariables false
namespace Go.Proofs.YtkfhjobebhdpoaaGreat
noncomputable section
open Go.X
theorem wokA1_0 (x0 : Int) (hx0 : I8 x0) {t : Prop} (h : t) : wA1_0 x0 t := by
  have ha : (0 : Int) ≤ 0 ∧ (0 : Int) ≤ 1000 := by omega
  unfold wA1_0
  exact cE_ok <| cE_ok <| cE_ok <| cW_ok <| cU_ok hx0 <| cA_ok hx0 i8_0 <| cZ_ok (i8_zs _ _) <| cE_ok <| cE_ok <| cE_ok <| cE_ok <| cE_ok <| cE_ok <| cE_ok <| cE_ok <| cW_ok <| cU_ok hx0 <| cA_ok i8_3 hx0 <| cZ_ok (i8_zs _ _) <| cE_ok <| h
theorem wokA1_1 (a0 : Int) (a1 : Int) (a2 : Int) (a3 : Int) (x0 : Int) (hx0 : I8 x0) (ha1 : I8 a1) (ha : 0 ≤ a0 ∧ a0 ≤ 1000) {t : Prop} (h : t) : wA1_1 a0 a1 a2 a3 x0 t := by
  unfold wA1_1
  exact cT_ok ha <| cT_ok ha <| cS_ok hx0 ha1 <| cE_ok <| cQ_ok <| cN_ok <| cN_ok <| cQ_ok <| cE_ok <| cE_ok <| cT_ok ha <| cE_ok <| cQ_ok <| cW_ok <| cU_ok hx0 <| cA_ok i8_3 hx0 <| cZ_ok (i8_zs _ _) <| cE_ok <| h
theorem sumA1_f (l : Nat → Int) : [zs (xA l (0 * 1 + 0)) 0] = sumA 1 l 1 := by
  show _ = [wrapF .i8 (0 + xA l (0 * 1 + 0))]
  rw [zs_c (xA l (0 * 1 + 0)) 0]
theorem sumA1_s (l : Nat → Int) (i : Nat) (av : List Int) (h : [gI av 1] = sumA 1 l i) : [zs (xA l (i * 1 + 0)) (gI av 1)] = sumA 1 l (i + 1) := by
  show _ = addL (sumA 1 l i) (inA 1 l i)
  rw [← h]
  show _ = [wrapF .i8 (gI av 1 + xA l (i * 1 + 0))]
  rw [zs_c (xA l (i * 1 + 0)) (gI av 1)]
theorem rowA1_f (l : Nat → Int) : rowR [.int .i64 (zs (xA l (0 * 1 + 0)) 0), .int .i64 (q0 (xA l (0 * 1 + 0)))] = outR (ioA 1 l) 0 := by
  show _ = rowR ((sumA 1 l 1 ++ [mixA 1 (inA 1 l 0)]).map (.int .i64))
  rw [← sumA1_f, show mixA 1 (inA 1 l 0) = _ from mq0 (xA l (0 * 1 + 0))]; rfl
theorem rowA1_s (l : Nat → Int) (i : Nat) (av : List Int) (h : [gI av 1] = sumA 1 l i) : rowR [.int .i64 (zs (xA l (i * 1 + 0)) (gI av 1)), .int .i64 (q0 (xA l (i * 1 + 0)))] = outR (ioA 1 l) i := by
  show _ = rowR ((sumA 1 l (i + 1) ++ [mixA 1 (inA 1 l i)]).map (.int .i64))
  rw [← sumA1_s l i av h, show mixA 1 (inA 1 l i) = _ from mq0 (xA l (i * 1 + 0))]; rfl
theorem okA1 : pA1.Ok := ⟨by decide, by decide, by kernel_rfl, by kernel_rfl, by kernel_rfl, by kernel_rfl, by decide⟩
def runA1 (l : Nat → Int) (n : Nat) (hn : n ≤ 80) : Runs pA1 (ioA 1 l) n where
  b0 := bS1_0
  b1 := fun av => bS1_1 (gI av 0) (gI av 1) (gI av 2) (gI av 3)
  ok := fun i av => gI av 0 = (i : Int) ∧ [gI av 1] = sumA 1 l i
  d0 := dA1_0
  d1 := dA1_1
  a1 := [1, (zs (xA l (0 * 1 + 0)) 0), (q0 (xA l (0 * 1 + 0))), (xA l (0 * 1 + 0))]
  nx := fun i av => [((gI av 0) + 1), (zs (xA l (i * 1 + 0)) (gI av 1)), (q0 (xA l (i * 1 + 0))), (xA l (i * 1 + 0))]
  oka := ⟨rfl, sumA1_f l⟩
  okn := fun i av h hi => ⟨by have h := h.1; show gI av 0 + 1 = ((i + 1 : Nat) : Int); omega, sumA1_s l i av h.2⟩
  bl := by kernel_rfl
  get0 := fun z csI csW => by kernel_rfl
  zg0 := fun z csI csW => by kernel_rfl
  get1 := fun z cs csI csW i av _ => by kernel_rfl
  zg1 := fun z cs csI csW i av _ => by kernel_rfl
  st0 := fun z Zs hn0 => usefGR okA1 (ks := kA1_0) (oa := 1049841) (ra := 1049839) (rw := [.int .i64 (zs (xA l (0 * 1 + 0)) 0), .int .i64 (q0 (xA l (0 * 1 + 0)))]) (C := wA1_0 (xA l (0 * 1 + 0))) (by kernel_rfl) Zs hn hn0 (fun Kv => tA1_0 _ _ _ _ _ (xA l (0 * 1 + 0)) Kv) (fun t h => wokA1_0 (xA l (0 * 1 + 0)) (i8_xA _ _) h) (by kernel_rfl) (by kernel_rfl) (by kernel_rfl) (by decide) (by decide) (by decide) ⟨[(zs (xA l (0 * 1 + 0)) 0), (q0 (xA l (0 * 1 + 0)))], 3, true, rfl⟩ (rowA1_f l)
  st1 := fun z Zs i av h hi => by
    obtain ⟨h0, hs⟩ := h
    exact useGR okA1 (ks := kA1_1) (oa := 2097227) (ra := 2097225) (rw := [.int .i64 (zs (xA l (i * 1 + 0)) (gI av 1)), .int .i64 (q0 (xA l (i * 1 + 0)))]) (C := wA1_1 (gI av 0) (gI av 1) (gI av 2) (gI av 3) (xA l (i * 1 + 0))) (by kernel_rfl) Zs hn hi (fun Kv => tA1_1 _ _ _ _ _ _ (gI av 0) (gI av 1) (gI av 2) (gI av 3) (xA l (i * 1 + 0)) Kv) (fun t h => wokA1_1 (gI av 0) (gI av 1) (gI av 2) (gI av 3) (xA l (i * 1 + 0)) (i8_xA _ _) (sumA_small 1 l i _ (by rw [← hs]; simp)) (by omega) h) (by kernel_rfl) (by kernel_rfl) (by kernel_rfl) (by decide) (by decide) (by decide) ⟨[(zs (xA l (i * 1 + 0)) (gI av 1)), (q0 (xA l (i * 1 + 0)))], 3, true, rfl⟩ (rowA1_s l i av hs)
  ex1 := fun z csI csW n' i g av _ Kv => xA1_1 z csI csW n' i g av Kv
  len := inA_len 1 l
def dfA1 : List Bool := bitsL 22 2135917
def dsA1 : List Bool := bitsL 24 8427373
theorem loopA1 : LRes 1 (pBA 1) dfA1 dsA1 where
  hd1 := by decide
  hd8 := by decide
  lit := by kernel_rfl
  blk := by kernel_rfl
  ndk := fun te l len s j oi ow => by kernel_rfl
  ndf := fun te l len s b w => by kernel_rfl
  nds := fun te l len j s b w => by kernel_rfl
  nd1 := fun a b => by kernel_rfl
  nd2 := fun a b => by kernel_rfl
  zA := fun te l len s => by kernel_rfl
  first := fun z te l len Kv => by kernel_rfl
  later := fun z te l len i j f Kv => by kernel_rfl
  leave := fun z te l len i j s Kv => by kernel_rfl
theorem askA1 : AskEqF 1 := fun h A KN n i r f Kv => by kernel_rfl
theorem sameA1 : SameEq 2 := fun h A B n i x za zb Kv => by kernel_rfl
theorem keyA1 (l : Nat → Int) (n : Nat) (hn : n ≤ 80) : RunKey (dpA 1) (runA1 l n hn) := fun z g K => by kernel_rfl
theorem allA1 : AllRes pA1 (dpA 1) dfA1 dsA1 where
  ok := okA1
  hm := rfl
  dok := dpA_ok (by decide)
  ask := askA1.ask
  same := sameA1
  loop := loopA1
  runs := fun l n hn => ⟨runA1 l n hn, keyA1 l n hn⟩
theorem lawA1 : LawKey pA1 (dpA 1) := fun te l len n K => by kernel_rfl
theorem r0A1 : Run0Key 1 := fun K => by kernel_rfl
theorem fewA1 : FewKey 1 := fun te l len K => by kernel_rfl
theorem noneA1 : NoneKey 1 := fun K => by kernel_rfl
theorem cfewA1 : X.Good (CFew 1) Tryz.prog := CFew_good (by decide) (by decide) r0A1 (by kernel_rfl) (by kernel_rfl)
end
end Go.Proofs.YtkfhjobebhdpoaaGreat

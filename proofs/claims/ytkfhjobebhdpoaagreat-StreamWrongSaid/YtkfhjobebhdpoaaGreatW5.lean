/- Stream: the loops of StreamWrong that build the ticks, their rounds. -/
import Derived.Test.YtkfhjobebhdpoaaGreatSWB
import Derived.Test.YtkfhjobebhdpoaaGreatWy
set_option linter.unusedVariables false
set_option autoImplicit false
set_option maxRecDepth 1000000
set_option maxHeartbeats 2000000
set_option linter.unusedVariables false
namespace Go.Proofs.YtkfhjobebhdpoaaGreat
noncomputable section
open Go.X
def pW : List (Nat × Blk) := (14, .row [.slc 8 0 1 1 false 6] 26 true []) :: pFrom gWt 8
def kPW : List Nat := [14, 8, 9, 10, 11, 12, 13]
def eAW (n : Nat) (w : Int) (ins : AV) (i : Nat) : List (Nat × AV) := [(0, .int .i64 (Int.ofNat n)), (1, .int .i64 w), (6, .ptr 14 0), (7, .bool true), (8, ins), (9, .int .i64 (Int.ofNat i))]
def eBW (ins : AV) : List (Nat × AV) := [(6, .ptr 14 0), (7, .bool true), (8, ins), (10, .int .i64 (Int.ofNat 0)), (11, .str 1 102)]
def eXW (w : Int) (ins : AV) : List (Nat × AV) := [(1, .int .i64 w), (6, .ptr 14 0), (7, .bool true), (8, ins)]
def RqW (c b : Nat) (cs : List AV) : List (Nat × Nat × Blk) := [(c, b, .row cs 22 true [])]
def lrW (k : Nat) (E : List (Nat × AV)) (h : H) (d : List Bool) (K : KE) : Prop := xcode C1 Tryz.prog F 8 (loopC Tryz.prog 8 k) (mask 8) (tmpsN Tryz.prog 8) (mkE E) h d K
def oqW (ts : List Nat) (s a : Nat) (cs : List AV) (Kv : XE → Obs → Prop) : KE := fun x env h _ => Kv x (obs ts (actsOf (lapp (RqW 131073 (a + 2) cs) (zipA pW kPW)) [(s, a, .row [] 3 true [])]) (lapp (RqW 131073 (a + 2) cs) (zipA pW kPW)) [(s, a, .row [] 3 true [])] env h)
def lqW (n0 : Nat) (z : T Blk) (E : List (Nat × AV)) (s a : Nat) (cs cs0 row : List AV) (Kv : XE → Obs → Prop) : Prop := Kv .nrm (expsR n0 (kpOf z) E (RqW 131073 (a + 2) cs) (zipA pW kPW) [(s, a, .row row 3 true [])] z [(some (.row cs0 22 true []), true)])
def apW (cs : List AV) (i : Nat) (t : Prop) : Prop := bcase (dcq false (Nat.ble (Nat.add i 1) i)) (bcase (appC cs i) (bcase (Nat.ble (llen cs) (Nat.mul i 1)) t t) False) False
def cgW (a : Nat) (cs : List AV) (i m : Nat) : List AV := lapp (ltake (ldrop cs 0) (Nat.mul i 1)) [.slc a 0 m m true 1]
def oxW (c : Nat) (ts : List Nat) (cs : List AV) (Kv : XE → Obs → Prop) : KE := fun x env h _ => Kv x (obs ts (actsOf (lapp (RqW c 131073 cs) (zipA pW kPW)) []) (lapp (RqW c 131073 cs) (zipA pW kPW)) [] env h)
def xqW (n0 c : Nat) (z : T Blk) (E : List (Nat × AV)) (cs : List AV) (x : XE) (Kv : XE → Obs → Prop) : Prop := Kv x (expsR n0 (kpOf z) E (RqW c 131073 cs) (zipA pW kPW) [] z [(some (.row cs 22 true []), true)])
theorem lr8f (n s : Nat) (w : Int) (cs : List AV) (Kv : XE → Obs → Prop) : lrW 8 (eAW n w .nils 0) ⟨mkB T.leaf pW, 15⟩ [true] (oqW [0, 1, 6, 7, 8, 9] s 15 cs Kv) =
    bcase (dcq true (ltI (Int.ofNat 0) (Int.ofNat n))) (lqW 15 T.leaf (eAW n w (.slc 131073 0 1 1 false 1) 1) s 15 cs [.slc 15 0 2 2 true 1] [.int .i64 (Int.ofNat 0), .int .i64 (Int.ofNat 1)] Kv) False := by kernel_rfl
theorem lr8s (z : T Blk) (n i s : Nat) (w : Int) (cs cs2 : List AV) (Kv : XE → Obs → Prop) : lrW 8 (eAW n w (.slc 131073 0 i i false 1) i) ⟨mkB z ((131073, .row cs 22 true []) :: pW), 8388608⟩ [true, false, false, true] (oqW [0, 1, 6, 7, 8, 9] s 8388608 cs2 Kv) =
    bcase (dcq true (ltI (Int.ofNat i) (Int.ofNat n))) (apW cs i (bcase (inR .i64 (Int.ofNat i + Int.ofNat 1)) (lqW 15 z (eAW n w (.slc 131073 0 (i + 1) (i + 1) false 1) (i + 1)) s 8388608 cs2 (cgW 8388608 cs i 2) [.int .i64 (Int.ofNat i), .int .i64 (Int.ofNat 1)] Kv) False)) False := by kernel_rfl
theorem lx8A (z : T Blk) (n i : Nat) (w : Int) (cs : List AV) (Kv : XE → Obs → Prop) : lrW 8 (eAW n w (.slc 131073 0 i i false 1) i) ⟨mkB z ((131073, .row cs 22 true []) :: pW), 8388608⟩ [false] (oxW 131073 [1, 6, 7, 8] cs Kv) =
    bcase (dcq false (ltI (Int.ofNat i) (Int.ofNat n))) (xqW 15 131073 z (eXW w (.slc 131073 0 i i false 1)) cs (.ext 0) Kv) False := by kernel_rfl
theorem lx8B (z : T Blk) (n i : Nat) (w : Int) (cs : List AV) (Kv : XE → Obs → Prop) : lrW 8 (eAW n w (.slc 131073 0 i i false 1) i) ⟨mkB z ((131073, .row cs 22 true []) :: pW), 8388608⟩ [false] (oxW 30 [1, 6, 7, 8] cs Kv) =
    bcase (dcq false (ltI (Int.ofNat i) (Int.ofNat n))) (xqW 15 30 z (eXW w (.slc 30 0 i i false 1)) cs (.ext 0) Kv) False := by kernel_rfl
theorem lr34f (s : Nat) (cs : List AV) (Kv : XE → Obs → Prop) : lrW 34 (eBW .nils) ⟨mkB T.leaf pW, 15⟩ [] (oqW [6, 7, 8, 10, 11] s 15 cs Kv) =
    lqW 15 T.leaf (eBW (.slc 131073 0 1 1 false 1)) s 15 cs [.slc 15 0 2 2 true 1] [.int .i64 (Int.ofNat 1), .int .i64 (Int.ofNat 0)] Kv := by kernel_rfl
theorem lr34e (z : T Blk) (i s : Nat) (cs cs2 : List AV) (Kv : XE → Obs → Prop) : lrW 34 (eBW (.slc 30 0 i i false 1)) ⟨mkB z ((30, .row cs 22 true []) :: pW), 131072⟩ [true, false, false] (oqW [6, 7, 8, 10, 11] s 131072 cs2 Kv) =
    bcase (dcq true (ltI (Int.ofNat i) (Int.ofNat 1000))) (apW cs i (lqW 131072 z (eBW (.slc 131073 0 (i + 1) (i + 1) false 1)) s 131072 cs2 (cgW 131072 cs i 2) [.int .i64 (Int.ofNat 1), .int .i64 (Int.ofNat 0)] Kv)) False := by kernel_rfl
theorem lr34s15 (z : T Blk) (i s : Nat) (cs cs2 : List AV) (Kv : XE → Obs → Prop) : lrW 34 (eBW (.slc 131073 0 i i false 1)) ⟨mkB z ((131073, .row cs 22 true []) :: pW), 8388608⟩ [true, false, false] (oqW [6, 7, 8, 10, 11] s 8388608 cs2 Kv) =
    bcase (dcq true (ltI (Int.ofNat i) (Int.ofNat 1000))) (apW cs i (lqW 15 z (eBW (.slc 131073 0 (i + 1) (i + 1) false 1)) s 8388608 cs2 (cgW 8388608 cs i 2) [.int .i64 (Int.ofNat 1), .int .i64 (Int.ofNat 0)] Kv)) False := by kernel_rfl
theorem lx34x15 (z : T Blk) (i : Nat) (cs : List AV) (Kv : XE → Obs → Prop) : lrW 34 (eBW (.slc 131073 0 i i false 1)) ⟨mkB z ((131073, .row cs 22 true []) :: pW), 8388608⟩ [false] (oxW 131073 [6, 7, 8, 10, 11] cs Kv) =
    bcase (dcq false (ltI (Int.ofNat i) (Int.ofNat 1000))) (xqW 15 131073 z (eBW (.slc 131073 0 i i false 1)) cs (.ext 5) Kv) False := by kernel_rfl
theorem lr34s131072 (z : T Blk) (i s : Nat) (cs cs2 : List AV) (Kv : XE → Obs → Prop) : lrW 34 (eBW (.slc 131073 0 i i false 1)) ⟨mkB z ((131073, .row cs 22 true []) :: pW), 8388608⟩ [true, false, false] (oqW [6, 7, 8, 10, 11] s 8388608 cs2 Kv) =
    bcase (dcq true (ltI (Int.ofNat i) (Int.ofNat 1000))) (apW cs i (lqW 131072 z (eBW (.slc 131073 0 (i + 1) (i + 1) false 1)) s 8388608 cs2 (cgW 8388608 cs i 2) [.int .i64 (Int.ofNat 1), .int .i64 (Int.ofNat 0)] Kv)) False := by kernel_rfl
theorem lx34x131072 (z : T Blk) (i : Nat) (cs : List AV) (Kv : XE → Obs → Prop) : lrW 34 (eBW (.slc 131073 0 i i false 1)) ⟨mkB z ((131073, .row cs 22 true []) :: pW), 8388608⟩ [false] (oxW 131073 [6, 7, 8, 10, 11] cs Kv) =
    bcase (dcq false (ltI (Int.ofNat i) (Int.ofNat 1000))) (xqW 131072 131073 z (eBW (.slc 131073 0 i i false 1)) cs (.ext 5) Kv) False := by kernel_rfl
theorem lr30f (s : Nat) (cs : List AV) (Kv : XE → Obs → Prop) : lrW 30 (eBW .nils) ⟨mkB T.leaf pW, 15⟩ [] (oqW [6, 7, 8, 10, 11] s 15 cs Kv) =
    lqW 15 T.leaf (eBW (.slc 131073 0 1 1 false 1)) s 15 cs [.slc 15 0 1 1 true 1] [.int .i64 (Int.ofNat 500)] Kv := by kernel_rfl
theorem lr30e (z : T Blk) (i s : Nat) (cs cs2 : List AV) (Kv : XE → Obs → Prop) : lrW 30 (eBW (.slc 30 0 i i false 1)) ⟨mkB z ((30, .row cs 22 true []) :: pW), 131072⟩ [true, false, false] (oqW [6, 7, 8, 10, 11] s 131072 cs2 Kv) =
    bcase (dcq true (ltI (Int.ofNat i) (Int.ofNat 1001))) (apW cs i (lqW 131072 z (eBW (.slc 131073 0 (i + 1) (i + 1) false 1)) s 131072 cs2 (cgW 131072 cs i 1) [.int .i64 (Int.ofNat 500)] Kv)) False := by kernel_rfl
theorem lr30s15 (z : T Blk) (i s : Nat) (cs cs2 : List AV) (Kv : XE → Obs → Prop) : lrW 30 (eBW (.slc 131073 0 i i false 1)) ⟨mkB z ((131073, .row cs 22 true []) :: pW), 8388608⟩ [true, false, false] (oqW [6, 7, 8, 10, 11] s 8388608 cs2 Kv) =
    bcase (dcq true (ltI (Int.ofNat i) (Int.ofNat 1001))) (apW cs i (lqW 15 z (eBW (.slc 131073 0 (i + 1) (i + 1) false 1)) s 8388608 cs2 (cgW 8388608 cs i 1) [.int .i64 (Int.ofNat 500)] Kv)) False := by kernel_rfl
theorem lx30x15 (z : T Blk) (i : Nat) (cs : List AV) (Kv : XE → Obs → Prop) : lrW 30 (eBW (.slc 131073 0 i i false 1)) ⟨mkB z ((131073, .row cs 22 true []) :: pW), 8388608⟩ [false] (oxW 131073 [6, 7, 8, 10, 11] cs Kv) =
    bcase (dcq false (ltI (Int.ofNat i) (Int.ofNat 1001))) (xqW 15 131073 z (eBW (.slc 131073 0 i i false 1)) cs (.ext 3) Kv) False := by kernel_rfl
theorem lr30s131072 (z : T Blk) (i s : Nat) (cs cs2 : List AV) (Kv : XE → Obs → Prop) : lrW 30 (eBW (.slc 131073 0 i i false 1)) ⟨mkB z ((131073, .row cs 22 true []) :: pW), 8388608⟩ [true, false, false] (oqW [6, 7, 8, 10, 11] s 8388608 cs2 Kv) =
    bcase (dcq true (ltI (Int.ofNat i) (Int.ofNat 1001))) (apW cs i (lqW 131072 z (eBW (.slc 131073 0 (i + 1) (i + 1) false 1)) s 8388608 cs2 (cgW 8388608 cs i 1) [.int .i64 (Int.ofNat 500)] Kv)) False := by kernel_rfl
theorem lx30x131072 (z : T Blk) (i : Nat) (cs : List AV) (Kv : XE → Obs → Prop) : lrW 30 (eBW (.slc 131073 0 i i false 1)) ⟨mkB z ((131073, .row cs 22 true []) :: pW), 8388608⟩ [false] (oxW 131073 [6, 7, 8, 10, 11] cs Kv) =
    bcase (dcq false (ltI (Int.ofNat i) (Int.ofNat 1001))) (xqW 131072 131073 z (eBW (.slc 131073 0 i i false 1)) cs (.ext 3) Kv) False := by kernel_rfl
end
end Go.Proofs.YtkfhjobebhdpoaaGreat

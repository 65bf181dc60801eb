/- Stream: the loop of StreamSums that builds the ticks, its rounds. -/
import Derived.Test.YtkfhjobebhdpoaaGreatX4
import Derived.Test.YtkfhjobebhdpoaaGreatS4
set_option linter.unusedVariables false
set_option autoImplicit false
set_option maxRecDepth 1000000
set_option maxHeartbeats 2000000
set_option linter.unusedVariables false
namespace Go.Proofs.YtkfhjobebhdpoaaGreat
noncomputable section
open Go.X
def baseX (te : TypeId) (l : Nat → Int) (n : Nat) : List (Nat × Blk) := (0, .pur (pvI l) n te) :: pX
def eLX (n : Nat) (ins want : AV) (c : Int) (i : Nat) : List (Nat × AV) := [(0, .slc 0 0 n n false 1), (4, .ptr 31 0), (5, .bool true), (6, ins), (7, want), (8, .int .i64 c), (9, .int .i64 (Int.ofNat i))]
def w2X (cI cW : List AV) : List (Nat × Blk) := [(50, .row cI 22 true []), (51, .row cW 22 true [])]
def kPX : List Nat := [31, 1, 2, 3, 4, 5, 6, 7, 8, 9, 10, 11, 12, 13, 14, 15, 16, 17, 18, 19, 20, 21, 22, 23, 24, 25, 26, 27, 28, 29, 30]
def kLX : List Nat := [0, 31, 1, 2, 3, 4, 5, 6, 7, 8, 9, 10, 11, 12, 13, 14, 15, 16, 17, 18, 19, 20, 21, 22, 23, 24, 25, 26, 27, 28, 29, 30]
def apX (rw : List AV) (i : Nat) (t : Prop) : Prop := bcase (dcq false (Nat.ble (Nat.add i 1) i)) (bcase (appC rw i) (bcase (Nat.ble (llen rw) (Nat.mul i 1)) t t) False) False
def oqfX (te : TypeId) (l : Nat → Int) (n : Nat) (bv : Int) (w0 : Int) (w1 : Int) (w2 : Int) (w3 : Int) (c2 : Int) (Kv : XE → Obs → Prop) : KE := fun x env h _ => Kv x (obs [0, 4, 5, 6, 7, 8, 9] (actsOf (lapp [(50, 34, .row (zrowsT 0 1 1) 22 true []), (51, 37, .row (zrowsT 100 4 1) 22 true [])] (zipA (baseX te l n) kLX)) [(0, 32, .row [] 3 true []), (100 + 0, 35, .row [] 3 true [])]) (lapp [(50, 34, .row (zrowsT 0 1 1) 22 true []), (51, 37, .row (zrowsT 100 4 1) 22 true [])] (zipA (baseX te l n) kLX)) [(0, 32, .row [] 3 true []), (100 + 0, 35, .row [] 3 true [])] env h)
def lqfX (z : T Blk) (te : TypeId) (l : Nat → Int) (n : Nat) (bv : Int) (w0 : Int) (w1 : Int) (w2 : Int) (w3 : Int) (c2 : Int) (Kv : XE → Obs → Prop) : Prop := Kv .nrm (expsR 32 (kpOf z) (eLX n (.slc 50 0 1 1 false 1) (.slc 51 0 1 1 false 1) c2 1) [(50, 34, .row (zrowsT 0 1 1) 22 true []), (51, 37, .row (zrowsT 100 4 1) 22 true [])] (zipA (baseX te l n) kLX) [(0, 32, .row [.int .i64 bv] 3 true []), (100 + 0, 35, .row [.int .i64 w0, .int .i64 w1, .int .i64 w2, .int .i64 w3] 3 true [])] z [(some (.row [.slc 32 0 1 1 true 1] 22 true []), true), (some (.row [.slc 35 0 4 4 true 1] 22 true []), true)])
def oqsX (te : TypeId) (l : Nat → Int) (n : Nat) (i : Nat) (bv : Int) (w0 : Int) (w1 : Int) (w2 : Int) (w3 : Int) (c2 : Int) (Kv : XE → Obs → Prop) : KE := fun x env h _ => Kv x (obs [0, 4, 5, 6, 7, 8, 9] (actsOf (lapp [(50, 1048578, .row (zrowsT 0 1 (i + 1)) 22 true []), (51, 1048581, .row (zrowsT 100 4 (i + 1)) 22 true [])] (zipA (baseX te l n) kLX)) [(i, 1048576, .row [] 3 true []), (100 + i, 1048579, .row [] 3 true [])]) (lapp [(50, 1048578, .row (zrowsT 0 1 (i + 1)) 22 true []), (51, 1048581, .row (zrowsT 100 4 (i + 1)) 22 true [])] (zipA (baseX te l n) kLX)) [(i, 1048576, .row [] 3 true []), (100 + i, 1048579, .row [] 3 true [])] env h)
def lqsX (z : T Blk) (te : TypeId) (l : Nat → Int) (n : Nat) (i : Nat) (bv : Int) (w0 : Int) (w1 : Int) (w2 : Int) (w3 : Int) (c2 : Int) (Kv : XE → Obs → Prop) : Prop := Kv .nrm (expsR 32 (kpOf z) (eLX n (.slc 50 0 (i + 1) (i + 1) false 1) (.slc 51 0 (i + 1) (i + 1) false 1) c2 (i + 1)) [(50, 1048578, .row (zrowsT 0 1 (i + 1)) 22 true []), (51, 1048581, .row (zrowsT 100 4 (i + 1)) 22 true [])] (zipA (baseX te l n) kLX) [(i, 1048576, .row [.int .i64 bv] 3 true []), (100 + i, 1048579, .row [.int .i64 w0, .int .i64 w1, .int .i64 w2, .int .i64 w3] 3 true [])] z [(some (.row (lapp (ltake (ldrop (zrowsT 0 1 i) 0) (Nat.mul i 1)) [.slc 1048576 0 1 1 true 1]) 22 true []), true), (some (.row (lapp (ltake (ldrop (zrowsT 100 4 i) 0) (Nat.mul i 1)) [.slc 1048579 0 4 4 true 1]) 22 true []), true)])
def dlX_f : List Bool := [true, false, true, true, false, true, false, false, true]
theorem lrfX (z : T Blk) (te : TypeId) (l : Nat → Int) (n : Nat) (Kv : XE → Obs → Prop) : xcode C1 Tryz.prog F 3 (loopC Tryz.prog 3 10) (mask 3) (tmpsN Tryz.prog 3) (mkE (eLX n .nils .nils 0 0)) ⟨mkB z (baseX te l n), 32⟩ dlX_f (oqfX te l n (wrapF .i8 (l 0)) (wrapF .i8 (0 + (wrapF .i8 (l 0)))) (wrapF .i8 (0 + (wrapF .i8 (l 0)))) (wrapF .i8 (0 + (wrapF .i8 (l 0)))) (wrapF .i8 (0 + (wrapF .i8 (l 0)))) (wrapF .i8 (0 + (wrapF .i8 (l 0)))) Kv) = (bcase (dcq true (ltI (Int.ofNat 0) (Int.ofNat n))) (bcase (inB (Int.ofNat 0) n) (bcase (Bool.and (Nat.ble (Nat.succ 0) n) true) (bcase (inR .i64 (wrapF .i8 (l 0))) (bcase (inR .i64 (0 + (wrapF .i8 (l 0)))) (bcase (inR .i64 (wrapF .i8 (0 + (wrapF .i8 (l 0))))) (lqfX z te l n (wrapF .i8 (l 0)) (wrapF .i8 (0 + (wrapF .i8 (l 0)))) (wrapF .i8 (0 + (wrapF .i8 (l 0)))) (wrapF .i8 (0 + (wrapF .i8 (l 0)))) (wrapF .i8 (0 + (wrapF .i8 (l 0)))) (wrapF .i8 (0 + (wrapF .i8 (l 0)))) Kv) False) False) False) False) False) False) := by kernel_rfl
def dlX_s : List Bool := [true, false, true, true, false, true, false, false, false, false, true]
theorem lrsX (z : T Blk) (te : TypeId) (l : Nat → Int) (n i : Nat) (c : Int) (Kv : XE → Obs → Prop) : xcode C1 Tryz.prog F 3 (loopC Tryz.prog 3 10) (mask 3) (tmpsN Tryz.prog 3) (mkE (eLX n (.slc 50 0 i i false 1) (.slc 51 0 i i false 1) c i)) ⟨mkB z (lapp (w2X (zrowsT 0 1 i) (zrowsT 100 4 i)) (baseX te l n)), 1048576⟩ dlX_s (oqsX te l n i (wrapF .i8 (l (Nat.add 0 (Nat.mul (Int.toNat (Int.ofNat i)) 1)))) (wrapF .i8 (c + (wrapF .i8 (l (Nat.add 0 (Nat.mul (Int.toNat (Int.ofNat i)) 1)))))) (wrapF .i8 (c + (wrapF .i8 (l (Nat.add 0 (Nat.mul (Int.toNat (Int.ofNat i)) 1)))))) (wrapF .i8 (c + (wrapF .i8 (l (Nat.add 0 (Nat.mul (Int.toNat (Int.ofNat i)) 1)))))) (wrapF .i8 (c + (wrapF .i8 (l (Nat.add 0 (Nat.mul (Int.toNat (Int.ofNat i)) 1)))))) (wrapF .i8 (c + (wrapF .i8 (l (Nat.add 0 (Nat.mul (Int.toNat (Int.ofNat i)) 1)))))) Kv) = (bcase (dcq true (ltI (Int.ofNat i) (Int.ofNat n))) (bcase (inB (Int.ofNat i) n) (bcase (Bool.and (Nat.ble (Nat.succ (Nat.add 0 (Nat.mul (Int.toNat (Int.ofNat i)) 1))) n) true) (bcase (inR .i64 (wrapF .i8 (l (Nat.add 0 (Nat.mul (Int.toNat (Int.ofNat i)) 1))))) (bcase (inR .i64 (c + (wrapF .i8 (l (Nat.add 0 (Nat.mul (Int.toNat (Int.ofNat i)) 1)))))) (bcase (inR .i64 (wrapF .i8 (c + (wrapF .i8 (l (Nat.add 0 (Nat.mul (Int.toNat (Int.ofNat i)) 1))))))) (apX (zrowsT 0 1 i) i (apX (zrowsT 100 4 i) i (bcase (inR .i64 (Int.ofNat i + Int.ofNat 1)) (lqsX z te l n i (wrapF .i8 (l (Nat.add 0 (Nat.mul (Int.toNat (Int.ofNat i)) 1)))) (wrapF .i8 (c + (wrapF .i8 (l (Nat.add 0 (Nat.mul (Int.toNat (Int.ofNat i)) 1)))))) (wrapF .i8 (c + (wrapF .i8 (l (Nat.add 0 (Nat.mul (Int.toNat (Int.ofNat i)) 1)))))) (wrapF .i8 (c + (wrapF .i8 (l (Nat.add 0 (Nat.mul (Int.toNat (Int.ofNat i)) 1)))))) (wrapF .i8 (c + (wrapF .i8 (l (Nat.add 0 (Nat.mul (Int.toNat (Int.ofNat i)) 1)))))) (wrapF .i8 (c + (wrapF .i8 (l (Nat.add 0 (Nat.mul (Int.toNat (Int.ofNat i)) 1)))))) Kv) False))) False) False) False) False) False) False) := by kernel_rfl
theorem lxX (z : T Blk) (te : TypeId) (l : Nat → Int) (n i : Nat) (c : Int) (Kv : XE → Obs → Prop) : xcode C1 Tryz.prog F 3 (loopC Tryz.prog 3 10) (mask 3) (tmpsN Tryz.prog 3) (mkE (eLX n (.slc 50 0 i i false 1) (.slc 51 0 i i false 1) c i)) ⟨mkB z (lapp (w2X (zrowsT 0 1 i) (zrowsT 100 4 i)) (baseX te l n)), 1048576⟩ [false] (fun x env h _ => Kv x (obs [4, 5, 6, 7] (actsOf (lapp [(50, 50, .row (zrowsT 0 1 i) 22 true []), (51, 51, .row (zrowsT 100 4 i) 22 true [])] (zipA pX kPX)) []) (lapp [(50, 50, .row (zrowsT 0 1 i) 22 true []), (51, 51, .row (zrowsT 100 4 i) 22 true [])] (zipA pX kPX)) [] env h)) = (bcase (dcq false (ltI (Int.ofNat i) (Int.ofNat n))) (Kv (.ext 0) (expsR 32 (kpOf z) [(4, .ptr 31 0), (5, .bool true), (6, .slc 50 0 i i false 1), (7, .slc 51 0 i i false 1)] [(50, 50, .row (zrowsT 0 1 i) 22 true []), (51, 51, .row (zrowsT 100 4 i) 22 true [])] (zipA pX kPX) [] z [(some (.row (zrowsT 0 1 i) 22 true []), true), (some (.row (zrowsT 100 4 i) 22 true []), true)])) False) := by kernel_rfl
end
end Go.Proofs.YtkfhjobebhdpoaaGreat
/- Stream: the loop of StreamSums that builds the ticks, as a contract. -/
set_option autoImplicit false
set_option maxRecDepth 1000000
set_option maxHeartbeats 2000000
set_option linter.unusedVariables false
namespace Go.Proofs.YtkfhjobebhdpoaaGreat
noncomputable section
open Go.X
/-- the zone as far as round i -/
def zbX (l : Nat → Int) (i : Nat) : T Blk := Nat.rec T.leaf (fun j ih => T.set (T.set ih (outX l j) (100 + j)) (inRowX l j) j) i
theorem zbX_succ (l : Nat → Int) (i : Nat) : zbX l (i + 1) = T.set (T.set (zbX l i) (outX l i) (100 + i)) (inRowX l i) i := rfl
theorem zbX_get (l : Nat → Int) : ∀ i, i ≤ 40 → (∀ j, j < i → (zbX l i).get j = some (inRowX l j)) ∧ (∀ j, j < i → (zbX l i).get (100 + j) = some (outX l j)) ∧ (∀ x k, (zbX l i).get x = some k → x < 200 ∧ IntRow k)
  | 0, _ => ⟨fun j h => by omega, fun j h => by omega, fun x k h => by cases h⟩
  | i + 1, hi => by
    obtain ⟨h1, h2, h3⟩ := zbX_get l i (by omega)
    rw [zbX_succ]
    refine ⟨fun j hj => ?_, fun j hj => ?_, fun x k h => ?_⟩
    · by_cases e : j = i
      · subst e; exact T.get_set_same _ _
      · rw [T.get_set_other _ _ _ e, T.get_set_other _ _ _ (by omega)]; exact h1 j (by omega)
    · by_cases e : j = i
      · subst e; rw [T.get_set_other _ _ _ (by omega)]; exact T.get_set_same _ _
      · rw [T.get_set_other _ _ _ (by omega), T.get_set_other _ _ _ (by omega)]; exact h2 j (by omega)
    · rcases T.get_set h with ⟨rfl, rfl⟩ | ⟨_, h⟩
      · exact ⟨by omega, [xX l x], 3, true, rfl⟩
      · rcases T.get_set h with ⟨rfl, rfl⟩ | ⟨_, h⟩
        · exact ⟨by omega, outX_int l i⟩
        · exact h3 x k h
theorem zbX_in {l : Nat → Int} {n : Nat} (hn : n ≤ 40) : ZinX l n (zbX l n) := ⟨(zbX_get l n hn).1, (zbX_get l n hn).2.1, (zbX_get l n hn).2.2⟩
theorem zbX_ok {l : Nat → Int} {i : Nat} (hi : i ≤ 40) : ZoneOK (zbX l i) 1048576 := fun x k h => by
  obtain ⟨a, b⟩ := (zbX_get l i hi).2.2 x k h
  exact ⟨b, by rw [zn_eq]; omega, by rw [zn_eq]; show _ < 1000000000000; omega⟩
def lsX (te : TypeId) (l : Nat → Int) (n i : Nat) (c : Int) : ZS := ⟨eLX n (.slc 50 0 i i false 1) (.slc 51 0 i i false 1) c i, lapp (w2X (zrowsT 0 1 i) (zrowsT 100 4 i)) (baseX te l n), zbX l i, 1048576⟩
def ls0X (te : TypeId) (l : Nat → Int) (n : Nat) : ZS := ⟨eLX n .nils .nils 0 0, baseX te l n, T.leaf, 32⟩
def lfinX (l : Nat → Int) (n : Nat) : ZS := ⟨[(4, .ptr 31 0), (5, .bool true), (6, .slc 50 0 n n false 1), (7, .slc 51 0 n n false 1)], lapp (w2X (zrowsT 0 1 n) (zrowsT 100 4 n)) pX, zbX l n, 1048576⟩
theorem laX_f (te : TypeId) (l : Nat → Int) (n : Nat) (bv : Int) (w0 : Int) (w1 : Int) (w2 : Int) (w3 : Int) (c2 : Int) (e1 : Blk.row [.int .i64 bv] 3 true [] = inRowX l 0) (e2 : Blk.row [.int .i64 w0, .int .i64 w1, .int .i64 w2, .int .i64 w3] 3 true [] = outX l 0) {env : Env} {h : H}
    (ho : obs [0, 4, 5, 6, 7, 8, 9] (actsOf (lapp [(50, 34, .row (zrowsT 0 1 1) 22 true []), (51, 37, .row (zrowsT 100 4 1) 22 true [])] (zipA (baseX te l n) kLX)) [(0, 32, .row [] 3 true []), (100 + 0, 35, .row [] 3 true [])]) (lapp [(50, 34, .row (zrowsT 0 1 1) 22 true []), (51, 37, .row (zrowsT 100 4 1) 22 true [])] (zipA (baseX te l n) kLX)) [(0, 32, .row [] 3 true []), (100 + 0, 35, .row [] 3 true [])] env h = expsR 32 (kpOf T.leaf) (eLX n (.slc 50 0 1 1 false 1) (.slc 51 0 1 1 false 1) c2 1) [(50, 34, .row (zrowsT 0 1 1) 22 true []), (51, 37, .row (zrowsT 100 4 1) 22 true [])] (zipA (baseX te l n) kLX) [(0, 32, .row [.int .i64 bv] 3 true []), (100 + 0, 35, .row [.int .i64 w0, .int .i64 w1, .int .i64 w2, .int .i64 w3] 3 true [])] T.leaf [(some (.row [.slc 32 0 1 1 true 1] 22 true []), true), (some (.row [.slc 35 0 4 4 true 1] 22 true []), true)]) : ∃ σ, Abs 32 σ (lsX te l n 1 c2).env (lsX te l n 1 c2).h env h := by
  have hlit : okLit 32 1048576 (lapp [(50, 34, .row (zrowsT 0 1 1) 22 true []), (51, 37, .row (zrowsT 100 4 1) 22 true [])] (zipA (baseX te l n) kLX)) = true := okLit_row rfl (belL_slc _ (fun j => zn (0 + j)) _ _ _ fun j hj => by have := List.mem_range.1 hj; rw [zn_eq]; omega) (okLit_row rfl (belL_slc _ (fun j => zn (100 + j)) _ _ _ fun j hj => by have := List.mem_range.1 hj; rw [zn_eq]; omega) (by kernel_rfl))
  have hnd : (([(0, 32, .row [.int .i64 bv] 3 true []), (100 + 0, 35, .row [.int .i64 w0, .int .i64 w1, .int .i64 w2, .int .i64 w3] 3 true [])] : List (Nat × Nat × Blk)).map (·.1)).Nodup := by
    show [0, 100 + 0].Nodup
    refine List.nodup_cons.2 ⟨fun h => ?_, List.nodup_cons.2 ⟨fun h => (by cases h), List.nodup_nil⟩⟩
    have := List.mem_singleton.1 h; omega
  rw [expsR_eq] at ho
  · refine NewOK.abs (t := lsX te l n 1 c2) (A := lapp [(50, 34, .row (zrowsT 0 1 1) 22 true []), (51, 37, .row (zrowsT 100 4 1) 22 true [])] (zipA (baseX te l n) kLX)) (Z := [(0, 32, .row [.int .i64 bv] 3 true []), (100 + 0, 35, .row [.int .i64 w0, .int .i64 w1, .int .i64 w2, .int .i64 w3] 3 true [])]) (z := T.leaf)
      ⟨by rw [lmap_app, zipA_B]; rfl, ?_, by show 32 ≤ 1048576; decide, by kernel_rfl, hlit, by kernel_rfl, by kernel_rfl, fun p hp => ?_, hnd, fun x k h => by cases h⟩ rfl rfl rfl rfl ho
    · show T.set (T.set T.leaf (outX l 0) (100 + 0)) (inRowX l 0) 0 = T.set (T.set T.leaf (.row [.int .i64 w0, .int .i64 w1, .int .i64 w2, .int .i64 w3] 3 true []) (100 + 0)) (.row [.int .i64 bv] 3 true []) 0
      rw [← e1, ← e2]
    · rcases List.mem_cons.1 hp with rfl | hp
      · exact ⟨by show 32 ≤ zn 0; rw [zn_eq]; omega, by show zn 0 < 1048576; rw [zn_eq]; omega, by show 32 ≤ 32; decide, by show 32 < 1000000000000; decide, by show 32 % 4096 ≠ 4095; decide, [bv], 3, true, rfl⟩
      · rw [List.mem_singleton.1 hp]
        exact ⟨by show 32 ≤ zn (100 + 0); rw [zn_eq]; omega, by show zn (100 + 0) < 1048576; rw [zn_eq]; omega, by show 32 ≤ 35; decide, by show 35 < 1000000000000; decide, by show 35 % 4096 ≠ 4095; decide, [w0, w1, w2, w3], 3, true, rfl⟩
  · have q1 : [.slc 32 0 1 1 true 1] = renL (szs 32 (namesOf (lapp [(50, 34, .row (zrowsT 0 1 1) 22 true []), (51, 37, .row (zrowsT 100 4 1) 22 true [])] (zipA (baseX te l n) kLX)) [(0, 32, .row [.int .i64 bv] 3 true []), (100 + 0, 35, .row [.int .i64 w0, .int .i64 w1, .int .i64 w2, .int .i64 w3] 3 true [])]) (kpOf T.leaf)) (zrowsT 0 1 1) := by
      refine zrowsT_grow (i := 0) (fun j hj => ?_) (szs_row (x := 0 + 0) hlit (by show 32 ≤ zn (0 + 0); rw [zn_eq]; omega) (by rw [Nat.zero_add]; exact List.mem_cons_self ..) hnd)
      omega
    have q2 : [.slc 35 0 4 4 true 1] = renL (szs 32 (namesOf (lapp [(50, 34, .row (zrowsT 0 1 1) 22 true []), (51, 37, .row (zrowsT 100 4 1) 22 true [])] (zipA (baseX te l n) kLX)) [(0, 32, .row [.int .i64 bv] 3 true []), (100 + 0, 35, .row [.int .i64 w0, .int .i64 w1, .int .i64 w2, .int .i64 w3] 3 true [])]) (kpOf T.leaf)) (zrowsT 100 4 1) := by
      refine zrowsT_grow (i := 0) (fun j hj => ?_) (szs_row (x := 100 + 0) hlit (by show 32 ≤ zn (100 + 0); rw [zn_eq]; omega) (List.mem_cons_of_mem _ (List.mem_singleton.2 rfl)) hnd)
      omega
    show [(some (Blk.row _ _ _ _), true), (some (Blk.row _ _ _ _), true)] = [(some (Blk.row (renL _ _) _ _ _), true), (some (Blk.row (renL _ _) _ _ _), true)]
    rw [← q1, ← q2]; rfl
theorem laX_s (te : TypeId) (l : Nat → Int) (n : Nat) {i : Nat} (hi : i < 40) (bv : Int) (w0 : Int) (w1 : Int) (w2 : Int) (w3 : Int) (c2 : Int) (e1 : Blk.row [.int .i64 bv] 3 true [] = inRowX l i) (e2 : Blk.row [.int .i64 w0, .int .i64 w1, .int .i64 w2, .int .i64 w3] 3 true [] = outX l i) {env : Env} {h : H}
    (ho : obs [0, 4, 5, 6, 7, 8, 9] (actsOf (lapp [(50, 1048578, .row (zrowsT 0 1 (i + 1)) 22 true []), (51, 1048581, .row (zrowsT 100 4 (i + 1)) 22 true [])] (zipA (baseX te l n) kLX)) [(i, 1048576, .row [] 3 true []), (100 + i, 1048579, .row [] 3 true [])]) (lapp [(50, 1048578, .row (zrowsT 0 1 (i + 1)) 22 true []), (51, 1048581, .row (zrowsT 100 4 (i + 1)) 22 true [])] (zipA (baseX te l n) kLX)) [(i, 1048576, .row [] 3 true []), (100 + i, 1048579, .row [] 3 true [])] env h = expsR 32 (kpOf (zbX l i)) (eLX n (.slc 50 0 (i + 1) (i + 1) false 1) (.slc 51 0 (i + 1) (i + 1) false 1) c2 (i + 1)) [(50, 1048578, .row (zrowsT 0 1 (i + 1)) 22 true []), (51, 1048581, .row (zrowsT 100 4 (i + 1)) 22 true [])] (zipA (baseX te l n) kLX) [(i, 1048576, .row [.int .i64 bv] 3 true []), (100 + i, 1048579, .row [.int .i64 w0, .int .i64 w1, .int .i64 w2, .int .i64 w3] 3 true [])] (zbX l i) [(some (.row (lapp (ltake (ldrop (zrowsT 0 1 i) 0) (Nat.mul i 1)) [.slc 1048576 0 1 1 true 1]) 22 true []), true), (some (.row (lapp (ltake (ldrop (zrowsT 100 4 i) 0) (Nat.mul i 1)) [.slc 1048579 0 4 4 true 1]) 22 true []), true)]) : ∃ σ, Abs 32 σ (lsX te l n (i + 1) c2).env (lsX te l n (i + 1) c2).h env h := by
  have hlit : okLit 32 1048576 (lapp [(50, 1048578, .row (zrowsT 0 1 (i + 1)) 22 true []), (51, 1048581, .row (zrowsT 100 4 (i + 1)) 22 true [])] (zipA (baseX te l n) kLX)) = true := okLit_row rfl (belL_slc _ (fun j => zn (0 + j)) _ _ _ fun j hj => by have := List.mem_range.1 hj; rw [zn_eq]; omega) (okLit_row rfl (belL_slc _ (fun j => zn (100 + j)) _ _ _ fun j hj => by have := List.mem_range.1 hj; rw [zn_eq]; omega) (by kernel_rfl))
  have hnd : (([(i, 1048576, .row [.int .i64 bv] 3 true []), (100 + i, 1048579, .row [.int .i64 w0, .int .i64 w1, .int .i64 w2, .int .i64 w3] 3 true [])] : List (Nat × Nat × Blk)).map (·.1)).Nodup := by
    show [i, 100 + i].Nodup
    refine List.nodup_cons.2 ⟨fun h => ?_, List.nodup_cons.2 ⟨fun h => (by cases h), List.nodup_nil⟩⟩
    have := List.mem_singleton.1 h; omega
  rw [expsR_eq] at ho
  · refine NewOK.abs (t := lsX te l n (i + 1) c2) (A := lapp [(50, 1048578, .row (zrowsT 0 1 (i + 1)) 22 true []), (51, 1048581, .row (zrowsT 100 4 (i + 1)) 22 true [])] (zipA (baseX te l n) kLX)) (Z := [(i, 1048576, .row [.int .i64 bv] 3 true []), (100 + i, 1048579, .row [.int .i64 w0, .int .i64 w1, .int .i64 w2, .int .i64 w3] 3 true [])]) (z := (zbX l i))
      ⟨by rw [lmap_app, zipA_B]; rfl, ?_, by show 32 ≤ 1048576; decide, by kernel_rfl, hlit, by kernel_rfl, by kernel_rfl, fun p hp => ?_, hnd, zbX_ok (by omega)⟩ rfl rfl rfl rfl ho
    · show T.set (T.set (zbX l i) (outX l i) (100 + i)) (inRowX l i) i = T.set (T.set (zbX l i) (.row [.int .i64 w0, .int .i64 w1, .int .i64 w2, .int .i64 w3] 3 true []) (100 + i)) (.row [.int .i64 bv] 3 true []) i
      rw [← e1, ← e2]
    · rcases List.mem_cons.1 hp with rfl | hp
      · exact ⟨by show 32 ≤ zn i; rw [zn_eq]; omega, by show zn i < 1048576; rw [zn_eq]; omega, by show 32 ≤ 1048576; decide, by show 1048576 < 1000000000000; decide, by show 1048576 % 4096 ≠ 4095; decide, [bv], 3, true, rfl⟩
      · rw [List.mem_singleton.1 hp]
        exact ⟨by show 32 ≤ zn (100 + i); rw [zn_eq]; omega, by show zn (100 + i) < 1048576; rw [zn_eq]; omega, by show 32 ≤ 1048579; decide, by show 1048579 < 1000000000000; decide, by show 1048579 % 4096 ≠ 4095; decide, [w0, w1, w2, w3], 3, true, rfl⟩
  · have q1 : (lapp (ltake (ldrop (zrowsT 0 1 i) 0) (Nat.mul i 1)) [.slc 1048576 0 1 1 true 1]) = renL (szs 32 (namesOf (lapp [(50, 1048578, .row (zrowsT 0 1 (i + 1)) 22 true []), (51, 1048581, .row (zrowsT 100 4 (i + 1)) 22 true [])] (zipA (baseX te l n) kLX)) [(i, 1048576, .row [.int .i64 bv] 3 true []), (100 + i, 1048579, .row [.int .i64 w0, .int .i64 w1, .int .i64 w2, .int .i64 w3] 3 true [])]) (kpOf (zbX l i))) (zrowsT 0 1 (i + 1)) := by
      refine zrowsT_grow (i := i) (fun j hj => ?_) (szs_row (x := 0 + i) hlit (by show 32 ≤ zn (0 + i); rw [zn_eq]; omega) (by rw [Nat.zero_add]; exact List.mem_cons_self ..) hnd)
      exact szs_zone hlit (by rw [Nat.zero_add]; exact (zbX_get l i (by omega)).1 j hj) (fun p hp e => by rcases List.mem_cons.1 hp with rfl | hp; (have e : i = 0 + j := e; omega); rw [List.mem_singleton.1 hp] at e; have e : 100 + i = 0 + j := e; omega)
    have q2 : (lapp (ltake (ldrop (zrowsT 100 4 i) 0) (Nat.mul i 1)) [.slc 1048579 0 4 4 true 1]) = renL (szs 32 (namesOf (lapp [(50, 1048578, .row (zrowsT 0 1 (i + 1)) 22 true []), (51, 1048581, .row (zrowsT 100 4 (i + 1)) 22 true [])] (zipA (baseX te l n) kLX)) [(i, 1048576, .row [.int .i64 bv] 3 true []), (100 + i, 1048579, .row [.int .i64 w0, .int .i64 w1, .int .i64 w2, .int .i64 w3] 3 true [])]) (kpOf (zbX l i))) (zrowsT 100 4 (i + 1)) := by
      refine zrowsT_grow (i := i) (fun j hj => ?_) (szs_row (x := 100 + i) hlit (by show 32 ≤ zn (100 + i); rw [zn_eq]; omega) (List.mem_cons_of_mem _ (List.mem_singleton.2 rfl)) hnd)
      exact szs_zone hlit ((zbX_get l i (by omega)).2.1 j hj) (fun p hp e => by rcases List.mem_cons.1 hp with rfl | hp; (have e : i = 100 + j := e; omega); rw [List.mem_singleton.1 hp] at e; have e : 100 + i = 100 + j := e; omega)
    show [(some (Blk.row _ _ _ _), true), (some (Blk.row _ _ _ _), true)] = [(some (Blk.row (renL _ _) _ _ _), true), (some (Blk.row (renL _ _) _ _ _), true)]
    rw [← q1, ← q2]; rfl
end
end Go.Proofs.YtkfhjobebhdpoaaGreat
/- Stream: the loop of StreamSums as a contract, with its end. -/
set_option autoImplicit false
set_option maxRecDepth 1000000
set_option maxHeartbeats 2000000
set_option linter.unusedVariables false
namespace Go.Proofs.YtkfhjobebhdpoaaGreat
noncomputable section
open Go.X
inductive LSX where
  | l0
  | l1 (i : Nat) (c : Int)
def LSX.ok (l : Nat → Int) (n : Nat) : LSX → Prop
  | .l0 => True
  | .l1 i c => 1 ≤ i ∧ i ≤ n ∧ c = cntX l i
def LSX.st (te : TypeId) (l : Nat → Int) (n : Nat) : LSX → ZS
  | .l0 => ls0X te l n
  | .l1 i c => lsX te l n i c
def LSX.dr (l : Nat → Int) (n : Nat) : LSX → List Bool
  | .l0 => dlX_f
  | .l1 i c => cond (Nat.ble (i + 1) n) dlX_s [false]
def LSX.mu (n : Nat) : LSX → Nat
  | .l0 => n + 1
  | .l1 i _ => n - i
theorem lawDoneX {te : TypeId} {l : Nat → Int} {n : Nat} (hn : n ≤ 40) {env : Env} {h : H}
    (ho : obs [4, 5, 6, 7] (actsOf (lapp [(50, 50, .row (zrowsT 0 1 n) 22 true []), (51, 51, .row (zrowsT 100 4 n) 22 true [])] (zipA pX kPX)) []) (lapp [(50, 50, .row (zrowsT 0 1 n) 22 true []), (51, 51, .row (zrowsT 100 4 n) 22 true [])] (zipA pX kPX)) [] env h =
      expsR 32 (kpOf (zbX l n)) [(4, .ptr 31 0), (5, .bool true), (6, .slc 50 0 n n false 1), (7, .slc 51 0 n n false 1)] [(50, 50, .row (zrowsT 0 1 n) 22 true []), (51, 51, .row (zrowsT 100 4 n) 22 true [])] (zipA pX kPX) [] (zbX l n) [(some (.row (zrowsT 0 1 n) 22 true []), true), (some (.row (zrowsT 100 4 n) 22 true []), true)]) :
    ∃ σ, Abs 32 σ (lfinX l n).env (lfinX l n).h env h := by
  have hlit : okLit 32 1048576 (lapp [(50, 50, .row (zrowsT 0 1 n) 22 true []), (51, 51, .row (zrowsT 100 4 n) 22 true [])] (zipA pX kPX)) = true := okLit_row rfl (belL_slc _ (fun j => zn (0 + j)) _ _ _ fun j hj => by have := List.mem_range.1 hj; rw [zn_eq]; omega) (okLit_row rfl (belL_slc _ (fun j => zn (100 + j)) _ _ _ fun j hj => by have := List.mem_range.1 hj; rw [zn_eq]; omega) (by kernel_rfl))
  have zg := zbX_get l n hn
  have k1 : renL (szs 32 (namesOf (lapp [(50, 50, .row (zrowsT 0 1 n) 22 true []), (51, 51, .row (zrowsT 100 4 n) 22 true [])] (zipA pX kPX)) []) (kpOf (zbX l n))) (zrowsT 0 1 n) = zrowsT 0 1 n := by
    exact zrowsT_keep fun j hj => szs_zone hlit (by rw [Nat.zero_add]; exact zg.1 j hj) (fun p hp e => by cases hp)
  have k2 : renL (szs 32 (namesOf (lapp [(50, 50, .row (zrowsT 0 1 n) 22 true []), (51, 51, .row (zrowsT 100 4 n) 22 true [])] (zipA pX kPX)) []) (kpOf (zbX l n))) (zrowsT 100 4 n) = zrowsT 100 4 n := by
    exact zrowsT_keep fun j hj => szs_zone hlit (zg.2.1 j hj) (fun p hp e => by cases hp)
  rw [expsR_eq] at ho
  · exact NewOK.abs (t := lfinX l n) (A := lapp [(50, 50, .row (zrowsT 0 1 n) 22 true []), (51, 51, .row (zrowsT 100 4 n) 22 true [])] (zipA pX kPX)) (Z := []) (z := zbX l n)
      ⟨by rw [lmap_app, zipA_B]; rfl, rfl, by show 32 ≤ 1048576; decide, rfl, hlit, by kernel_rfl, by kernel_rfl, (fun p hp => (by cases hp)), List.nodup_nil, zbX_ok hn⟩ rfl rfl rfl rfl ho
  · show _ = [(some (Blk.row (renL _ _) _ _ _), true), (some (Blk.row (renL _ _) _ _ _), true)]
    rw [k1, k2]; rfl
theorem lawLoopX_good {C : Cfg} (G : X.Good C Tryz.prog) (hg : C.gl = fun _ => none) (hm : C.mask 3 = mask 3) (te : TypeId) {l : Nat → Int} {n : Nat} (hn1 : 1 ≤ n) (hn : n ≤ 40) :
    X.Good (C.addLc 3 10 (lcZ (S0 := Unit) (fun _ => True) (lmap (fun p => p.1) (ls0X te l n).E) (lmap (fun p => p.1) (ls0X te l n).B) (fun _ => ls0X te l n) (fun _ => (.ext 0, lfinX l n)))) Tryz.prog := by
  refine G.addZR good1 (by rw [hg]; rfl) (S := LSX) (LSX.dr l n) (n0 := 32) (ι := fun _ => .l0) (ok := LSX.ok l n) (St := LSX.st te l n) (fun s => (LSX.st te l n s).E) (μ := LSX.mu n) (fin := fun _ => (.ext 0, lfinX l n)) (fuel := F) hm.symm (by rfl) (fun s _ => Pe.refl _) ?_ ?_ (fun g i h => by rw [hg] at h; cases h)
  · intro _ _
    refine ⟨trivial, rfl, rfl, ⟨rfl, by kernel_rfl, by kernel_rfl, fun x k h => by cases h⟩, by show 32 ≤ 1048576; decide, rfl, rfl⟩
  · intro s hs
    rw [hm]
    cases s with
    | l0 =>
      refine ⟨?_⟩
      show xcode C1 Tryz.prog F 3 (loopC Tryz.prog 3 10) (mask 3) (tmpsN Tryz.prog 3) (ls0X te l n).env (ls0X te l n).h dlX_f _
      refine round_use2 good1.spl (fun Kv => lrfX T.leaf te l n Kv) ?_
      have hx := w8 (l 0)
      have hrow : Blk.row [.int .i64 (wrapF .i8 (0 + (wrapF .i8 (l 0)))), .int .i64 (wrapF .i8 (0 + (wrapF .i8 (l 0)))), .int .i64 (wrapF .i8 (0 + (wrapF .i8 (l 0)))), .int .i64 (wrapF .i8 (0 + (wrapF .i8 (l 0))))] 3 true [] = outX l 0 := rfl
      have leaf : ∀ (env : Env) (h : H) (ds : List Bool), _ → _ := fun env h ds ho => (laX_f te l n (wrapF .i8 (l 0)) (wrapF .i8 (0 + (wrapF .i8 (l 0)))) (wrapF .i8 (0 + (wrapF .i8 (l 0)))) (wrapF .i8 (0 + (wrapF .i8 (l 0)))) (wrapF .i8 (0 + (wrapF .i8 (l 0)))) (wrapF .i8 (0 + (wrapF .i8 (l 0)))) (by first | rfl | (rw [ix_eq]; rfl)) (by first | exact hrow | (rw [ix_eq]; exact hrow)) ho).elim fun σ ab => (⟨LSX.l1 1 (wrapF .i8 (0 + (wrapF .i8 (l 0)))), σ, ⟨Nat.le_refl _, hn1, rfl⟩, (by show n - 1 < n + 1; omega), rfl, ab⟩ : ∃ s' σ, LSX.ok l n s' ∧ LSX.mu n s' < LSX.mu n .l0 ∧ (XE.ext 0, lfinX l n) = (XE.ext 0, lfinX l n) ∧ Abs 32 σ (LSX.st te l n s').env (LSX.st te l n s').h env h)
      exact bcase_tt (dcq_lt (by simp only [Int.ofNat_eq_natCast]; omega)) (bcase_tt (inB_of (by omega)) (bcase_tt (by show Bool.and (Nat.ble 1 n) true = true; rw [show Nat.ble 1 n = true from Nat.ble_eq_true_of_le hn1]; rfl) (bcase_tt (inR_w8 _) (bcase_tt (inR_i64 (by omega) (by omega)) (bcase_tt (inR_w8 _) leaf)))))
    | l1 i c =>
      obtain ⟨h1, h2, p0⟩ := hs
      have hc := leX l i
      by_cases hlt : i < n
      · have hi60 : i < 40 := by omega
        refine ⟨?_⟩
        show xcode C1 Tryz.prog F 3 (loopC Tryz.prog 3 10) (mask 3) (tmpsN Tryz.prog 3) (lsX te l n i c).env (lsX te l n i c).h (cond (Nat.ble (i + 1) n) dlX_s [false]) _
        rw [ble_t hlt]
        refine round_use2 good1.spl (fun Kv => lrsX (zbX l i) te l n i c Kv) ?_
        have hx := w8 (l (Nat.add 0 (Nat.mul (Int.toNat (Int.ofNat i)) 1)))
        have hrow : Blk.row [.int .i64 (wrapF .i8 (c + (wrapF .i8 (l i)))), .int .i64 (wrapF .i8 (c + (wrapF .i8 (l i)))), .int .i64 (wrapF .i8 (c + (wrapF .i8 (l i)))), .int .i64 (wrapF .i8 (c + (wrapF .i8 (l i))))] 3 true [] = outX l i := by rw [p0]; rfl
        have leaf : ∀ (env : Env) (h : H) (ds : List Bool), _ → _ := fun env h ds ho => (laX_s te l n hi60 (wrapF .i8 (l (Nat.add 0 (Nat.mul (Int.toNat (Int.ofNat i)) 1)))) (wrapF .i8 (c + (wrapF .i8 (l (Nat.add 0 (Nat.mul (Int.toNat (Int.ofNat i)) 1)))))) (wrapF .i8 (c + (wrapF .i8 (l (Nat.add 0 (Nat.mul (Int.toNat (Int.ofNat i)) 1)))))) (wrapF .i8 (c + (wrapF .i8 (l (Nat.add 0 (Nat.mul (Int.toNat (Int.ofNat i)) 1)))))) (wrapF .i8 (c + (wrapF .i8 (l (Nat.add 0 (Nat.mul (Int.toNat (Int.ofNat i)) 1)))))) (wrapF .i8 (c + (wrapF .i8 (l (Nat.add 0 (Nat.mul (Int.toNat (Int.ofNat i)) 1)))))) (by first | rfl | (rw [ix_eq]; rfl)) (by first | exact hrow | (rw [ix_eq]; exact hrow)) ho).elim fun σ ab => (⟨LSX.l1 (i + 1) (wrapF .i8 (c + (wrapF .i8 (l (Nat.add 0 (Nat.mul (Int.toNat (Int.ofNat i)) 1)))))), σ, ⟨by omega, hlt, by rw [ix_eq, p0]; rfl⟩, (by show n - (i + 1) < n - i; omega), rfl, ab⟩ : ∃ s' σ, LSX.ok l n s' ∧ LSX.mu n s' < LSX.mu n (.l1 i c) ∧ (XE.ext 0, lfinX l n) = (XE.ext 0, lfinX l n) ∧ Abs 32 σ (LSX.st te l n s').env (LSX.st te l n s').h env h)
        exact bcase_tt (dcq_lt (by simp only [Int.ofNat_eq_natCast]; omega)) (bcase_tt (inB_of hlt) (bcase_tt (by rw [ix_eq]; show Bool.and (Nat.ble (i + 1) n) true = true; rw [ble_t hlt]; rfl) (bcase_tt (inR_w8 _) (bcase_tt (inR_i64 (by omega) (by omega)) (bcase_tt (inR_w8 _) (bcase_tt (dcq_cap i) (bcase_tt (appC_ok (by rw [zrowsT_len]) (by omega)) (bcase_any (bcase_tt (dcq_cap i) (bcase_tt (appC_ok (by rw [zrowsT_len]) (by omega)) (bcase_any (bcase_tt (inR_add (by omega)) leaf) (bcase_tt (inR_add (by omega)) leaf)))) (bcase_tt (dcq_cap i) (bcase_tt (appC_ok (by rw [zrowsT_len]) (by omega)) (bcase_any (bcase_tt (inR_add (by omega)) leaf) (bcase_tt (inR_add (by omega)) leaf))))))))))))
      · have hin : i = n := by omega
        subst hin
        refine ⟨?_⟩
        show xcode C1 Tryz.prog F 3 (loopC Tryz.prog 3 10) (mask 3) (tmpsN Tryz.prog 3) (lsX te l i i c).env (lsX te l i i c).h (cond (Nat.ble (i + 1) i) dlX_s [false]) _
        rw [ble_f (Nat.lt_irrefl i)]
        exact round_use2 good1.spl (fun Kv => lxX (zbX l i) te l i i c Kv)
          (bcase_tt (dcq_ge (by omega)) (fun env h ds ho => (lawDoneX (te := te) hn ho).elim fun σ ab => ⟨σ, rfl, ab⟩))
end
end Go.Proofs.YtkfhjobebhdpoaaGreat
/- Stream: StreamSums runs to its end and answers true. -/
set_option autoImplicit false
set_option maxRecDepth 1000000
set_option maxHeartbeats 2000000
set_option linter.unusedVariables false
namespace Go.Proofs.YtkfhjobebhdpoaaGreat
noncomputable section
open Go.X
def conReadyX : Con := fun args h ds K => args = [.str nXt vXt] ∧ K (ren (shf h.next) VXt) (addAll h gXt) ds
def conRunX (l : Nat → Int) (n : Nat) : Con := fun args h ds K => (args = [.agg [.slc 1 0 3 3 false 6], .str 1 102, .slc 50 0 n n false 1] ∧ h = (lfinX l n).h) ∧ K (.tup [.slc n0X 0 n n false 1, .int .i64 (Int.ofNat 0)]) (finX l n (zbX l n)).h ds
def conSameX (l : Nat → Int) (n : Nat) : Con := fun args h ds K => (args = [.slc n0X 0 n n false 1, .slc 51 0 n n false 1] ∧ h = (finX l n (zbX l n)).h) ∧ K (.bool true) h ds
def valsX (l : Nat → Int) : Nat → Nat → Int := fun i _ => cntX l (i + 1)
theorem rowsOutX {l : Nat → Int} {n : Nat} (hn : n ≤ 40) : RowsAre (finX l n (zbX l n)).h n0X n 4 (fun i => zn (300 + i)) (valsX l) := by
  intro i hi
  have g1 : T.get (finX l n (zbX l n)).h.b n0X = some (.row (zrows 300 4 n) 22 true []) := by
    show (mkB (zoX l (zbX l n) n) (rrX (zrows 300 4 n) (zrowsT 0 1 n) (zrowsT 100 4 n))).get n0X = _
    unfold rrX
    rw [mkB_cons]; exact T.get_set_same _ _
  have g2 : T.get (finX l n (zbX l n)).h.b (zn (300 + i)) = some (outX l i) := by
    show (mkB (zoX l (zbX l n) n) (rrX (zrows 300 4 n) (zrowsT 0 1 n) (zrowsT 100 4 n))).get (zn (300 + i)) = _
    unfold rrX
    rw [mkB_cons, T.get_set_other _ _ _ (by show zn (300 + i) ≠ 1050507; rw [zn_eq]; omega), mkB_cons, T.get_set_other _ _ _ (by show zn (300 + i) ≠ 50; rw [zn_eq]; omega), mkB_cons, T.get_set_other _ _ _ (by show zn (300 + i) ≠ 51; rw [zn_eq]; omega), zput_zn]
    exact zgrow_new hi
  refine ⟨⟨4, false, Nat.le_refl _, cellOf_of g1 (zrows_get hi)⟩, fun k hk => ?_⟩
  match k, hk with
  | 0, _ => exact cellOf_of g2 rfl
  | 1, _ => exact cellOf_of g2 rfl
  | 2, _ => exact cellOf_of g2 rfl
  | 3, _ => exact cellOf_of g2 rfl
theorem rowsWantX {l : Nat → Int} {n : Nat} (hn : n ≤ 40) : RowsAre (finX l n (zbX l n)).h 51 n 4 (fun i => zn (100 + i)) (valsX l) := by
  intro i hi
  have g1 : T.get (finX l n (zbX l n)).h.b 51 = some (.row (zrowsT 100 4 n) 22 true []) := by
    show (mkB (zoX l (zbX l n) n) (rrX (zrows 300 4 n) (zrowsT 0 1 n) (zrowsT 100 4 n))).get 51 = _
    unfold rrX
    rw [mkB_cons, T.get_set_other _ _ _ (by show 51 ≠ 1050507; decide), mkB_cons, T.get_set_other _ _ _ (by show 51 ≠ 50; decide), mkB_cons]; exact T.get_set_same _ _
  have g2 : T.get (finX l n (zbX l n)).h.b (zn (100 + i)) = some (outX l i) := by
    show (mkB (zoX l (zbX l n) n) (rrX (zrows 300 4 n) (zrowsT 0 1 n) (zrowsT 100 4 n))).get (zn (100 + i)) = _
    unfold rrX
    rw [mkB_cons, T.get_set_other _ _ _ (by show zn (100 + i) ≠ 1050507; rw [zn_eq]; omega), mkB_cons, T.get_set_other _ _ _ (by show zn (100 + i) ≠ 50; rw [zn_eq]; omega), mkB_cons, T.get_set_other _ _ _ (by show zn (100 + i) ≠ 51; rw [zn_eq]; omega), zput_zn, zoX_low (by omega)]
    exact (zbX_get l n hn).2.1 i hi
  refine ⟨⟨4, true, Nat.le_refl _, cellOf_of g1 (zrowsT_get hi)⟩, fun k hk => ?_⟩
  match k, hk with
  | 0, _ => exact cellOf_of g2 rfl
  | 1, _ => exact cellOf_of g2 rfl
  | 2, _ => exact cellOf_of g2 rfl
  | 3, _ => exact cellOf_of g2 rfl
theorem finX_hc {l : Nat → Int} {n : Nat} (hn : n ≤ 40) : HC (finX l n (zbX l n)).h := by
  have : ZS.ok (finX l n (zbX l n)) 2097152 := ⟨rfl, rfl, blksN_row (by show 1050507 < 2097152; decide) (belX_O hn) (blksN_row (by decide) (belX_I hn) (blksN_row (by decide) (belX_W hn) rfl)), zoX_ok (zbX_in hn) hn⟩
  exact this.hc
/-- the contracts of a run of the law -/
def CL1X : Cfg := (C1.addCon 12 conTrue).addCon 13 conReadyX
def CL2X (l : Nat → Int) (n : Nat) : Cfg := (CL1X.addCon 14 (conRunX l n)).addCon 16 (conSameX l n)
def CL3X (te : TypeId) (l : Nat → Int) (n : Nat) : Cfg := (CL2X l n).addLc 3 10 (lcZ (S0 := Unit) (fun _ => True) (lmap (fun p => p.1) (ls0X te l n).E) (lmap (fun p => p.1) (ls0X te l n).B) (fun _ => ls0X te l n) (fun _ => (.ext 0, lfinX l n)))
theorem CL1X_good : X.Good CL1X Tryz.prog :=
  (good1.addCon 12 conTrue conTrue_spl (conTrue_ok alive_true)).addCon 13 conReadyX (fun args h ds K hk => ⟨_, _, _, hk.2, by show h.next ≤ h.next + llen gXt; omega, fun K' hk' => ⟨hk.1, hk'⟩⟩) (fun args h ds K hk => by obtain ⟨rfl, hk⟩ := hk; exact readyXt_ok hk)
theorem CL2X_good {l : Nat → Int} {n : Nat} (hn1 : 1 ≤ n) (hn : n ≤ 40) : X.Good (CL2X l n) Tryz.prog := by
  refine (CL1X_good.addCon 14 (conRunX l n) (fun args h ds K hk => ⟨_, _, _, hk.2, by rw [hk.1.2]; show 1048576 ≤ 2097152; decide, fun K' hk' => ⟨hk.1, hk'⟩⟩) (fun args h ds K hk => ?_)).addCon 16 (conSameX l n) (fun args h ds K hk => ⟨_, _, _, hk.2, Nat.le_refl _, fun K' hk' => ⟨hk.1, hk'⟩⟩) (fun args h ds K hk => ?_)
  · obtain ⟨⟨rfl, rfl⟩, hk⟩ := hk
    exact runX_ok hn1 hn (zbX_in hn) hk
  · obtain ⟨⟨rfl, rfl⟩, hk⟩ := hk
    refine call_args (args2 := [.vs n0X 0 n (fun i => .row (zn (300 + i)) 4 (valsX l i)), .vs 51 0 n (fun i => .row (zn (100 + i)) 4 (valsX l i))]) (fun L vs hv => ?_) ?_
    · cases hv with
      | cons _ _ _ _ a b => cases b with
        | cons _ _ _ _ b c => exact .cons _ _ _ _ (rv_vs a) (.cons _ _ _ _ (rv_vs b) c)
    · exact same4_ok (finX_hc hn) (A := n0X) (B := 51) (by show 1050507 < 2097152; decide) (by show 51 < 2097152; decide) (rowsOutX hn) (rowsWantX hn) (by omega) hk
theorem CL3X_good (te : TypeId) {l : Nat → Int} {n : Nat} (hn1 : 1 ≤ n) (hn : n ≤ 40) : X.Good (CL3X te l n) Tryz.prog := lawLoopX_good (CL2X_good hn1 hn) rfl rfl te hn1 hn
def hLawX (te : TypeId) (l : Nat → Int) (n : Nat) : H := ⟨T.set T.leaf (.pur (pvI l) n te) 0, 1⟩
theorem lawX_key (te : TypeId) (l : Nat → Int) (n : Nat) (K : AV → Prop) : xfun (CL3X te l n) Tryz.prog (xcode (CL3X te l n) Tryz.prog F) 3 [.slc 0 0 n n false 1] (hLawX te l n) [] (fun v _ _ => K v) =
    (bcase (ltI (Int.ofNat 40) (Int.ofNat n)) (K (.bool true)) ([AV.str nXt vXt] = [.str nXt vXt] ∧ ∃ _ : Unit, True ∧ (ls0X te l n).o0 = (ls0X te l n).o0 ∧
      (([AV.agg [.slc 1 0 3 3 false 6], .str 1 102, .slc 50 0 n n false 1] = [.agg [.slc 1 0 3 3 false 6], .str 1 102, .slc 50 0 n n false 1] ∧ (lfinX l n).h = (lfinX l n).h) ∧
        (([AV.slc n0X 0 n n false 1, .slc 51 0 n n false 1] = [.slc n0X 0 n n false 1, .slc 51 0 n n false 1] ∧ (finX l n (zbX l n)).h = (finX l n (zbX l n)).h) ∧ K (.bool true))))) := by kernel_rfl
theorem lawX_run (te : TypeId) {l : Nat → Int} {n : Nat} (hn1 : 1 ≤ n) (hn : n ≤ 40) : Ran (xfun (CL3X te l n) Tryz.prog (xcode (CL3X te l n) Tryz.prog F) 3 [.slc 0 0 n n false 1] (hLawX te l n) [] (fun v _ _ => v = .bool true)) :=
  ⟨Eq.mpr (lawX_key te l n (fun v => v = .bool true)) (bcase_ff (by rw [ltI_eq]; simp; omega) ⟨rfl, (), trivial, rfl, ⟨rfl, rfl⟩, ⟨rfl, rfl⟩, rfl⟩)⟩
/-- more than sixty -/
theorem bigX_key (te : TypeId) (l : Nat → Int) (n : Nat) (K : AV → Prop) : xfun CL1X Tryz.prog (xcode CL1X Tryz.prog F) 3 [.slc 0 0 n n false 1] (hLawX te l n) [true] (fun v _ _ => K v) = (bcase (dcq true (ltI (Int.ofNat 40) (Int.ofNat n))) (K (.bool true)) False) := by kernel_rfl
theorem bigX_run (te : TypeId) {l : Nat → Int} {n : Nat} (hn : 40 < n) : Ran (xfun CL1X Tryz.prog (xcode CL1X Tryz.prog F) 3 [.slc 0 0 n n false 1] (hLawX te l n) [true] (fun v _ _ => v = .bool true)) :=
  ⟨Eq.mpr (bigX_key te l n (fun v => v = .bool true)) (bcase_tt (dcq_lt (by simp only [Int.ofNat_eq_natCast]; omega)) rfl)⟩
/-- the law of nothing -/
def CL0X : Cfg := (C0.addCon 12 conTrue).addCon 13 conReadyX
theorem CL0X_good : X.Good CL0X Tryz.prog :=
  (good0.addCon 12 conTrue conTrue_spl (conTrue_ok alive_true)).addCon 13 conReadyX (fun args h ds K hk => ⟨_, _, _, hk.2, by show h.next ≤ h.next + llen gXt; omega, fun K' hk' => ⟨hk.1, hk'⟩⟩) (fun args h ds K hk => by obtain ⟨rfl, hk⟩ := hk; exact readyXt_ok hk)
end
end Go.Proofs.YtkfhjobebhdpoaaGreat
/- Stream: StreamSums of nothing. -/
set_option autoImplicit false
set_option maxRecDepth 1000000
set_option maxHeartbeats 2000000
set_option linter.unusedVariables false
namespace Go.Proofs.YtkfhjobebhdpoaaGreat
noncomputable section
open Go.X
theorem law0X_run : Ran (xfun CL0X Tryz.prog (xcode CL0X Tryz.prog F) 3 [.emp] hNil [] (fun v _ _ => v = .bool true)) :=
  ⟨Eq.mpr (β := ([AV.str nXt vXt] = [.str nXt vXt]) ∧ (AV.bool true = AV.bool true)) (by kernel_rfl) ⟨rfl, rfl⟩⟩
end
end Go.Proofs.YtkfhjobebhdpoaaGreat

/- Stream: the loop of StreamClocks that builds the ticks, its rounds. -/
import Derived.Test.YtkfhjobebhdpoaaGreatC4
set_option linter.unusedVariables false
set_option autoImplicit false
set_option maxRecDepth 1000000
set_option maxHeartbeats 2000000
set_option linter.unusedVariables false
namespace Go.Proofs.YtkfhjobebhdpoaaGreat
noncomputable section
open Go.X
def baseC (te : TypeId) (l : Nat → Bool) (n : Nat) : List (Nat × Blk) := (0, .pur (pvB l) n te) :: pC
def eLC (n : Nat) (ins want : AV) (c : Int) (i : Nat) : List (Nat × AV) := [(0, .slc 0 0 n n false 1), (4, .ptr 22 0), (5, .bool true), (6, ins), (7, want), (8, .int .i64 c), (9, .int .i64 (Int.ofNat i))]
def w2C (cI cW : List AV) : List (Nat × Blk) := [(30, .row cI 22 true []), (31, .row cW 22 true [])]
def kPC : List Nat := [22, 8, 9, 10, 11, 12, 13, 14, 15, 16, 17, 18, 19, 20, 21]
def kLC : List Nat := [0, 22, 8, 9, 10, 11, 12, 13, 14, 15, 16, 17, 18, 19, 20, 21]
def dlC_f0 : List Bool := [true, false, false, false, true]
theorem lrf0C (z : T Blk) (te : TypeId) (l : Nat → Bool) (n : Nat) (Kv : XE → Obs → Prop) : xcode C1 Tryz.prog F 5 (loopC Tryz.prog 5 10) (mask 5) (tmpsN Tryz.prog 5) (mkE (eLC n .nils .nils 0 0)) ⟨mkB z (baseC te l n), 23⟩ dlC_f0 (fun x env h _ => Kv x (obs [0, 4, 5, 6, 7, 8, 9] (actsOf (lapp [(30, 25, .row (zrowsT 0 1 1) 22 true []), (31, 28, .row (zrowsT 100 1 1) 22 true [])] (zipA (baseC te l n) kLC)) [(0, 23, .row [] 3 true []), (100 + 0, 26, .row [] 3 true [])]) (lapp [(30, 25, .row (zrowsT 0 1 1) 22 true []), (31, 28, .row (zrowsT 100 1 1) 22 true [])] (zipA (baseC te l n) kLC)) [(0, 23, .row [] 3 true []), (100 + 0, 26, .row [] 3 true [])] env h)) = (bcase (dcq true (ltI (Int.ofNat 0) (Int.ofNat n))) (bcase (inB (Int.ofNat 0) n) (bcase (Bool.and (Nat.ble (Nat.succ 0) n) true) (bcase (dcq false (l 0)) (Kv .nrm (expsR 23 (kpOf z) (eLC n (.slc 30 0 1 1 false 1) (.slc 31 0 1 1 false 1) 0 1) [(30, 25, .row (zrowsT 0 1 1) 22 true []), (31, 28, .row (zrowsT 100 1 1) 22 true [])] (zipA (baseC te l n) kLC) [(0, 23, .row [.int .i64 0] 3 true []), (100 + 0, 26, .row [.int .i64 0] 3 true [])] z [(some (.row [.slc 23 0 1 1 true 1] 22 true []), true), (some (.row [.slc 26 0 1 1 true 1] 22 true []), true)])) False) False) False) False) := by kernel_rfl
def dlC_f1 : List Bool := [true, true, true, false, false, true]
theorem lrf1C (z : T Blk) (te : TypeId) (l : Nat → Bool) (n : Nat) (Kv : XE → Obs → Prop) : xcode C1 Tryz.prog F 5 (loopC Tryz.prog 5 10) (mask 5) (tmpsN Tryz.prog 5) (mkE (eLC n .nils .nils 0 0)) ⟨mkB z (baseC te l n), 23⟩ dlC_f1 (fun x env h _ => Kv x (obs [0, 4, 5, 6, 7, 8, 9] (actsOf (lapp [(30, 25, .row (zrowsT 0 1 1) 22 true []), (31, 28, .row (zrowsT 100 1 1) 22 true [])] (zipA (baseC te l n) kLC)) [(0, 23, .row [] 3 true []), (100 + 0, 26, .row [] 3 true [])]) (lapp [(30, 25, .row (zrowsT 0 1 1) 22 true []), (31, 28, .row (zrowsT 100 1 1) 22 true [])] (zipA (baseC te l n) kLC)) [(0, 23, .row [] 3 true []), (100 + 0, 26, .row [] 3 true [])] env h)) = (bcase (dcq true (ltI (Int.ofNat 0) (Int.ofNat n))) (bcase (inB (Int.ofNat 0) n) (bcase (Bool.and (Nat.ble (Nat.succ 0) n) true) (bcase (dcq true (l 0)) (Kv .nrm (expsR 23 (kpOf z) (eLC n (.slc 30 0 1 1 false 1) (.slc 31 0 1 1 false 1) ((0 + 1)) 1) [(30, 25, .row (zrowsT 0 1 1) 22 true []), (31, 28, .row (zrowsT 100 1 1) 22 true [])] (zipA (baseC te l n) kLC) [(0, 23, .row [.int .i64 1] 3 true []), (100 + 0, 26, .row [.int .i64 (0 + 1)] 3 true [])] z [(some (.row [.slc 23 0 1 1 true 1] 22 true []), true), (some (.row [.slc 26 0 1 1 true 1] 22 true []), true)])) False) False) False) False) := by kernel_rfl
def dlC_s0 : List Bool := [true, false, false, false, false, false, true]
theorem lrs0C (z : T Blk) (te : TypeId) (l : Nat → Bool) (n i : Nat) (c : Int) (Kv : XE → Obs → Prop) : xcode C1 Tryz.prog F 5 (loopC Tryz.prog 5 10) (mask 5) (tmpsN Tryz.prog 5) (mkE (eLC n (.slc 30 0 i i false 1) (.slc 31 0 i i false 1) c i)) ⟨mkB z (lapp (w2C (zrowsT 0 1 i) (zrowsT 100 1 i)) (baseC te l n)), 1048576⟩ dlC_s0 (fun x env h _ => Kv x (obs [0, 4, 5, 6, 7, 8, 9] (actsOf (lapp [(30, 1048578, .row (zrowsT 0 1 (i + 1)) 22 true []), (31, 1048581, .row (zrowsT 100 1 (i + 1)) 22 true [])] (zipA (baseC te l n) kLC)) [(i, 1048576, .row [] 3 true []), (100 + i, 1048579, .row [] 3 true [])]) (lapp [(30, 1048578, .row (zrowsT 0 1 (i + 1)) 22 true []), (31, 1048581, .row (zrowsT 100 1 (i + 1)) 22 true [])] (zipA (baseC te l n) kLC)) [(i, 1048576, .row [] 3 true []), (100 + i, 1048579, .row [] 3 true [])] env h)) = (bcase (dcq true (ltI (Int.ofNat i) (Int.ofNat n))) (bcase (inB (Int.ofNat i) n) (bcase (Bool.and (Nat.ble (Nat.succ (Nat.add 0 (Nat.mul (Int.toNat (Int.ofNat i)) 1))) n) true) (bcase (dcq false (l (Nat.add 0 (Nat.mul (Int.toNat (Int.ofNat i)) 1)))) (bcase (dcq false (Nat.ble (Nat.add i 1) i)) (bcase (appC (zrowsT 0 1 i) i) (bcase (Nat.ble (llen (zrowsT 0 1 i)) (Nat.mul i 1)) (bcase (dcq false (Nat.ble (Nat.add i 1) i)) (bcase (appC (zrowsT 100 1 i) i) (bcase (Nat.ble (llen (zrowsT 100 1 i)) (Nat.mul i 1)) (bcase (inR .i64 (Int.ofNat i + Int.ofNat 1)) (Kv .nrm (expsR 23 (kpOf z) (eLC n (.slc 30 0 (i + 1) (i + 1) false 1) (.slc 31 0 (i + 1) (i + 1) false 1) c (i + 1)) [(30, 1048578, .row (zrowsT 0 1 (i + 1)) 22 true []), (31, 1048581, .row (zrowsT 100 1 (i + 1)) 22 true [])] (zipA (baseC te l n) kLC) [(i, 1048576, .row [.int .i64 0] 3 true []), (100 + i, 1048579, .row [.int .i64 c] 3 true [])] z [(some (.row (lapp (ltake (ldrop (zrowsT 0 1 i) 0) (Nat.mul i 1)) [.slc 1048576 0 1 1 true 1]) 22 true []), true), (some (.row (lapp (ltake (ldrop (zrowsT 100 1 i) 0) (Nat.mul i 1)) [.slc 1048579 0 1 1 true 1]) 22 true []), true)])) False) (bcase (inR .i64 (Int.ofNat i + Int.ofNat 1)) (Kv .nrm (expsR 23 (kpOf z) (eLC n (.slc 30 0 (i + 1) (i + 1) false 1) (.slc 31 0 (i + 1) (i + 1) false 1) c (i + 1)) [(30, 1048578, .row (zrowsT 0 1 (i + 1)) 22 true []), (31, 1048581, .row (zrowsT 100 1 (i + 1)) 22 true [])] (zipA (baseC te l n) kLC) [(i, 1048576, .row [.int .i64 0] 3 true []), (100 + i, 1048579, .row [.int .i64 c] 3 true [])] z [(some (.row (lapp (ltake (ldrop (zrowsT 0 1 i) 0) (Nat.mul i 1)) [.slc 1048576 0 1 1 true 1]) 22 true []), true), (some (.row (lapp (ltake (ldrop (zrowsT 100 1 i) 0) (Nat.mul i 1)) [.slc 1048579 0 1 1 true 1]) 22 true []), true)])) False)) False) False) (bcase (dcq false (Nat.ble (Nat.add i 1) i)) (bcase (appC (zrowsT 100 1 i) i) (bcase (Nat.ble (llen (zrowsT 100 1 i)) (Nat.mul i 1)) (bcase (inR .i64 (Int.ofNat i + Int.ofNat 1)) (Kv .nrm (expsR 23 (kpOf z) (eLC n (.slc 30 0 (i + 1) (i + 1) false 1) (.slc 31 0 (i + 1) (i + 1) false 1) c (i + 1)) [(30, 1048578, .row (zrowsT 0 1 (i + 1)) 22 true []), (31, 1048581, .row (zrowsT 100 1 (i + 1)) 22 true [])] (zipA (baseC te l n) kLC) [(i, 1048576, .row [.int .i64 0] 3 true []), (100 + i, 1048579, .row [.int .i64 c] 3 true [])] z [(some (.row (lapp (ltake (ldrop (zrowsT 0 1 i) 0) (Nat.mul i 1)) [.slc 1048576 0 1 1 true 1]) 22 true []), true), (some (.row (lapp (ltake (ldrop (zrowsT 100 1 i) 0) (Nat.mul i 1)) [.slc 1048579 0 1 1 true 1]) 22 true []), true)])) False) (bcase (inR .i64 (Int.ofNat i + Int.ofNat 1)) (Kv .nrm (expsR 23 (kpOf z) (eLC n (.slc 30 0 (i + 1) (i + 1) false 1) (.slc 31 0 (i + 1) (i + 1) false 1) c (i + 1)) [(30, 1048578, .row (zrowsT 0 1 (i + 1)) 22 true []), (31, 1048581, .row (zrowsT 100 1 (i + 1)) 22 true [])] (zipA (baseC te l n) kLC) [(i, 1048576, .row [.int .i64 0] 3 true []), (100 + i, 1048579, .row [.int .i64 c] 3 true [])] z [(some (.row (lapp (ltake (ldrop (zrowsT 0 1 i) 0) (Nat.mul i 1)) [.slc 1048576 0 1 1 true 1]) 22 true []), true), (some (.row (lapp (ltake (ldrop (zrowsT 100 1 i) 0) (Nat.mul i 1)) [.slc 1048579 0 1 1 true 1]) 22 true []), true)])) False)) False) False)) False) False) False) False) False) False) := by kernel_rfl
def dlC_s1 : List Bool := [true, true, true, false, false, false, false, true]
theorem lrs1C (z : T Blk) (te : TypeId) (l : Nat → Bool) (n i : Nat) (c : Int) (Kv : XE → Obs → Prop) : xcode C1 Tryz.prog F 5 (loopC Tryz.prog 5 10) (mask 5) (tmpsN Tryz.prog 5) (mkE (eLC n (.slc 30 0 i i false 1) (.slc 31 0 i i false 1) c i)) ⟨mkB z (lapp (w2C (zrowsT 0 1 i) (zrowsT 100 1 i)) (baseC te l n)), 1048576⟩ dlC_s1 (fun x env h _ => Kv x (obs [0, 4, 5, 6, 7, 8, 9] (actsOf (lapp [(30, 1048578, .row (zrowsT 0 1 (i + 1)) 22 true []), (31, 1048581, .row (zrowsT 100 1 (i + 1)) 22 true [])] (zipA (baseC te l n) kLC)) [(i, 1048576, .row [] 3 true []), (100 + i, 1048579, .row [] 3 true [])]) (lapp [(30, 1048578, .row (zrowsT 0 1 (i + 1)) 22 true []), (31, 1048581, .row (zrowsT 100 1 (i + 1)) 22 true [])] (zipA (baseC te l n) kLC)) [(i, 1048576, .row [] 3 true []), (100 + i, 1048579, .row [] 3 true [])] env h)) = (bcase (dcq true (ltI (Int.ofNat i) (Int.ofNat n))) (bcase (inB (Int.ofNat i) n) (bcase (Bool.and (Nat.ble (Nat.succ (Nat.add 0 (Nat.mul (Int.toNat (Int.ofNat i)) 1))) n) true) (bcase (dcq true (l (Nat.add 0 (Nat.mul (Int.toNat (Int.ofNat i)) 1)))) (bcase (inR .i64 (c + 1)) (bcase (dcq false (Nat.ble (Nat.add i 1) i)) (bcase (appC (zrowsT 0 1 i) i) (bcase (Nat.ble (llen (zrowsT 0 1 i)) (Nat.mul i 1)) (bcase (dcq false (Nat.ble (Nat.add i 1) i)) (bcase (appC (zrowsT 100 1 i) i) (bcase (Nat.ble (llen (zrowsT 100 1 i)) (Nat.mul i 1)) (bcase (inR .i64 (Int.ofNat i + Int.ofNat 1)) (Kv .nrm (expsR 23 (kpOf z) (eLC n (.slc 30 0 (i + 1) (i + 1) false 1) (.slc 31 0 (i + 1) (i + 1) false 1) ((c + 1)) (i + 1)) [(30, 1048578, .row (zrowsT 0 1 (i + 1)) 22 true []), (31, 1048581, .row (zrowsT 100 1 (i + 1)) 22 true [])] (zipA (baseC te l n) kLC) [(i, 1048576, .row [.int .i64 1] 3 true []), (100 + i, 1048579, .row [.int .i64 (c + 1)] 3 true [])] z [(some (.row (lapp (ltake (ldrop (zrowsT 0 1 i) 0) (Nat.mul i 1)) [.slc 1048576 0 1 1 true 1]) 22 true []), true), (some (.row (lapp (ltake (ldrop (zrowsT 100 1 i) 0) (Nat.mul i 1)) [.slc 1048579 0 1 1 true 1]) 22 true []), true)])) False) (bcase (inR .i64 (Int.ofNat i + Int.ofNat 1)) (Kv .nrm (expsR 23 (kpOf z) (eLC n (.slc 30 0 (i + 1) (i + 1) false 1) (.slc 31 0 (i + 1) (i + 1) false 1) ((c + 1)) (i + 1)) [(30, 1048578, .row (zrowsT 0 1 (i + 1)) 22 true []), (31, 1048581, .row (zrowsT 100 1 (i + 1)) 22 true [])] (zipA (baseC te l n) kLC) [(i, 1048576, .row [.int .i64 1] 3 true []), (100 + i, 1048579, .row [.int .i64 (c + 1)] 3 true [])] z [(some (.row (lapp (ltake (ldrop (zrowsT 0 1 i) 0) (Nat.mul i 1)) [.slc 1048576 0 1 1 true 1]) 22 true []), true), (some (.row (lapp (ltake (ldrop (zrowsT 100 1 i) 0) (Nat.mul i 1)) [.slc 1048579 0 1 1 true 1]) 22 true []), true)])) False)) False) False) (bcase (dcq false (Nat.ble (Nat.add i 1) i)) (bcase (appC (zrowsT 100 1 i) i) (bcase (Nat.ble (llen (zrowsT 100 1 i)) (Nat.mul i 1)) (bcase (inR .i64 (Int.ofNat i + Int.ofNat 1)) (Kv .nrm (expsR 23 (kpOf z) (eLC n (.slc 30 0 (i + 1) (i + 1) false 1) (.slc 31 0 (i + 1) (i + 1) false 1) ((c + 1)) (i + 1)) [(30, 1048578, .row (zrowsT 0 1 (i + 1)) 22 true []), (31, 1048581, .row (zrowsT 100 1 (i + 1)) 22 true [])] (zipA (baseC te l n) kLC) [(i, 1048576, .row [.int .i64 1] 3 true []), (100 + i, 1048579, .row [.int .i64 (c + 1)] 3 true [])] z [(some (.row (lapp (ltake (ldrop (zrowsT 0 1 i) 0) (Nat.mul i 1)) [.slc 1048576 0 1 1 true 1]) 22 true []), true), (some (.row (lapp (ltake (ldrop (zrowsT 100 1 i) 0) (Nat.mul i 1)) [.slc 1048579 0 1 1 true 1]) 22 true []), true)])) False) (bcase (inR .i64 (Int.ofNat i + Int.ofNat 1)) (Kv .nrm (expsR 23 (kpOf z) (eLC n (.slc 30 0 (i + 1) (i + 1) false 1) (.slc 31 0 (i + 1) (i + 1) false 1) ((c + 1)) (i + 1)) [(30, 1048578, .row (zrowsT 0 1 (i + 1)) 22 true []), (31, 1048581, .row (zrowsT 100 1 (i + 1)) 22 true [])] (zipA (baseC te l n) kLC) [(i, 1048576, .row [.int .i64 1] 3 true []), (100 + i, 1048579, .row [.int .i64 (c + 1)] 3 true [])] z [(some (.row (lapp (ltake (ldrop (zrowsT 0 1 i) 0) (Nat.mul i 1)) [.slc 1048576 0 1 1 true 1]) 22 true []), true), (some (.row (lapp (ltake (ldrop (zrowsT 100 1 i) 0) (Nat.mul i 1)) [.slc 1048579 0 1 1 true 1]) 22 true []), true)])) False)) False) False)) False) False) False) False) False) False) False) := by kernel_rfl
theorem lxC (z : T Blk) (te : TypeId) (l : Nat → Bool) (n i : Nat) (c : Int) (Kv : XE → Obs → Prop) : xcode C1 Tryz.prog F 5 (loopC Tryz.prog 5 10) (mask 5) (tmpsN Tryz.prog 5) (mkE (eLC n (.slc 30 0 i i false 1) (.slc 31 0 i i false 1) c i)) ⟨mkB z (lapp (w2C (zrowsT 0 1 i) (zrowsT 100 1 i)) (baseC te l n)), 1048576⟩ [false] (fun x env h _ => Kv x (obs [4, 5, 6, 7] (actsOf (lapp [(30, 30, .row (zrowsT 0 1 i) 22 true []), (31, 31, .row (zrowsT 100 1 i) 22 true [])] (zipA pC kPC)) []) (lapp [(30, 30, .row (zrowsT 0 1 i) 22 true []), (31, 31, .row (zrowsT 100 1 i) 22 true [])] (zipA pC kPC)) [] env h)) = (bcase (dcq false (ltI (Int.ofNat i) (Int.ofNat n))) (Kv (.ext 0) (expsR 23 (kpOf z) [(4, .ptr 22 0), (5, .bool true), (6, .slc 30 0 i i false 1), (7, .slc 31 0 i i false 1)] [(30, 30, .row (zrowsT 0 1 i) 22 true []), (31, 31, .row (zrowsT 100 1 i) 22 true [])] (zipA pC kPC) [] z [(some (.row (zrowsT 0 1 i) 22 true []), true), (some (.row (zrowsT 100 1 i) 22 true []), true)])) False) := by kernel_rfl
end
end Go.Proofs.YtkfhjobebhdpoaaGreat
/- Stream: the loop of StreamClocks that builds the ticks, as a contract. -/
set_option autoImplicit false
set_option maxRecDepth 1000000
set_option maxHeartbeats 2000000
set_option linter.unusedVariables false
namespace Go.Proofs.YtkfhjobebhdpoaaGreat
noncomputable section
open Go.X
/-- the zone as far as round i -/
def zbC (l : Nat → Bool) (i : Nat) : T Blk := Nat.rec T.leaf (fun j ih => T.set (T.set ih (outC l j) (100 + j)) (inRowC l j) j) i
theorem zbC_succ (l : Nat → Bool) (i : Nat) : zbC l (i + 1) = T.set (T.set (zbC l i) (outC l i) (100 + i)) (inRowC l i) i := rfl
theorem zbC_get (l : Nat → Bool) : ∀ i, i ≤ 60 → (∀ j, j < i → (zbC l i).get j = some (inRowC l j)) ∧ (∀ j, j < i → (zbC l i).get (100 + j) = some (outC l j)) ∧ (∀ x k, (zbC l i).get x = some k → x < 200 ∧ IntRow k)
  | 0, _ => ⟨fun j h => by omega, fun j h => by omega, fun x k h => by cases h⟩
  | i + 1, hi => by
    obtain ⟨h1, h2, h3⟩ := zbC_get l i (by omega)
    rw [zbC_succ]
    refine ⟨fun j hj => ?_, fun j hj => ?_, fun x k h => ?_⟩
    · by_cases e : j = i
      · subst e; exact T.get_set_same _ _
      · rw [T.get_set_other _ _ _ e, T.get_set_other _ _ _ (by omega)]; exact h1 j (by omega)
    · by_cases e : j = i
      · subst e; rw [T.get_set_other _ _ _ (by omega)]; exact T.get_set_same _ _
      · rw [T.get_set_other _ _ _ (by omega), T.get_set_other _ _ _ (by omega)]; exact h2 j (by omega)
    · rcases T.get_set h with ⟨rfl, rfl⟩ | ⟨_, h⟩
      · exact ⟨by omega, [bi (l x)], 3, true, rfl⟩
      · rcases T.get_set h with ⟨rfl, rfl⟩ | ⟨_, h⟩
        · exact ⟨by omega, outC_int l i⟩
        · exact h3 x k h
theorem zbC_in {l : Nat → Bool} {n : Nat} (hn : n ≤ 60) : ZinC l n (zbC l n) := ⟨(zbC_get l n hn).1, (zbC_get l n hn).2.1, (zbC_get l n hn).2.2⟩
theorem zbC_ok {l : Nat → Bool} {i : Nat} (hi : i ≤ 60) : ZoneOK (zbC l i) 1048576 := fun x k h => by
  obtain ⟨a, b⟩ := (zbC_get l i hi).2.2 x k h
  exact ⟨b, by rw [zn_eq]; omega, by rw [zn_eq]; show _ < 1000000000000; omega⟩
def lsC (te : TypeId) (l : Nat → Bool) (n i : Nat) (c : Int) : ZS := ⟨eLC n (.slc 30 0 i i false 1) (.slc 31 0 i i false 1) c i, lapp (w2C (zrowsT 0 1 i) (zrowsT 100 1 i)) (baseC te l n), zbC l i, 1048576⟩
def ls0C (te : TypeId) (l : Nat → Bool) (n : Nat) : ZS := ⟨eLC n .nils .nils 0 0, baseC te l n, T.leaf, 23⟩
def lfinC (l : Nat → Bool) (n : Nat) : ZS := ⟨[(4, .ptr 22 0), (5, .bool true), (6, .slc 30 0 n n false 1), (7, .slc 31 0 n n false 1)], lapp (w2C (zrowsT 0 1 n) (zrowsT 100 1 n)) pC, zbC l n, 1048576⟩
theorem laC_f0 (te : TypeId) (l : Nat → Bool) (n : Nat) (hb : l 0 = false) (e2 : Blk.row [.int .i64 0] 3 true [] = outC l 0) {env : Env} {h : H}
    (ho : obs [0, 4, 5, 6, 7, 8, 9] (actsOf (lapp [(30, 25, .row (zrowsT 0 1 1) 22 true []), (31, 28, .row (zrowsT 100 1 1) 22 true [])] (zipA (baseC te l n) kLC)) [(0, 23, .row [] 3 true []), (100 + 0, 26, .row [] 3 true [])]) (lapp [(30, 25, .row (zrowsT 0 1 1) 22 true []), (31, 28, .row (zrowsT 100 1 1) 22 true [])] (zipA (baseC te l n) kLC)) [(0, 23, .row [] 3 true []), (100 + 0, 26, .row [] 3 true [])] env h = expsR 23 (kpOf T.leaf) (eLC n (.slc 30 0 1 1 false 1) (.slc 31 0 1 1 false 1) 0 1) [(30, 25, .row (zrowsT 0 1 1) 22 true []), (31, 28, .row (zrowsT 100 1 1) 22 true [])] (zipA (baseC te l n) kLC) [(0, 23, .row [.int .i64 0] 3 true []), (100 + 0, 26, .row [.int .i64 0] 3 true [])] T.leaf [(some (.row [.slc 23 0 1 1 true 1] 22 true []), true), (some (.row [.slc 26 0 1 1 true 1] 22 true []), true)]) : ∃ σ, Abs 23 σ (lsC te l n 1 0).env (lsC te l n 1 0).h env h := by
  have e1 : Blk.row [.int .i64 0] 3 true [] = inRowC l 0 := by unfold inRowC; rw [hb]; rfl
  have hlit : okLit 23 1048576 (lapp [(30, 25, .row (zrowsT 0 1 1) 22 true []), (31, 28, .row (zrowsT 100 1 1) 22 true [])] (zipA (baseC te l n) kLC)) = true := okLit_row rfl (belL_slc _ (fun j => zn (0 + j)) _ _ _ fun j hj => by have := List.mem_range.1 hj; rw [zn_eq]; omega) (okLit_row rfl (belL_slc _ (fun j => zn (100 + j)) _ _ _ fun j hj => by have := List.mem_range.1 hj; rw [zn_eq]; omega) (by kernel_rfl))
  have hnd : (([(0, 23, .row [.int .i64 0] 3 true []), (100 + 0, 26, .row [.int .i64 0] 3 true [])] : List (Nat × Nat × Blk)).map (·.1)).Nodup := by
    show [0, 100 + 0].Nodup
    refine List.nodup_cons.2 ⟨fun h => ?_, List.nodup_cons.2 ⟨fun h => (by cases h), List.nodup_nil⟩⟩
    have := List.mem_singleton.1 h; omega
  rw [expsR_eq] at ho
  · refine NewOK.abs (t := lsC te l n 1 0) (A := lapp [(30, 25, .row (zrowsT 0 1 1) 22 true []), (31, 28, .row (zrowsT 100 1 1) 22 true [])] (zipA (baseC te l n) kLC)) (Z := [(0, 23, .row [.int .i64 0] 3 true []), (100 + 0, 26, .row [.int .i64 0] 3 true [])]) (z := T.leaf)
      ⟨by rw [lmap_app, zipA_B]; rfl, ?_, by show 23 ≤ 1048576; decide, by kernel_rfl, hlit, by kernel_rfl, by kernel_rfl, fun p hp => ?_, hnd, fun x k h => by cases h⟩ rfl rfl rfl rfl ho
    · show T.set (T.set T.leaf (outC l 0) (100 + 0)) (inRowC l 0) 0 = T.set (T.set T.leaf _ (100 + 0)) _ 0
      rw [← e1, ← e2]
    · rcases List.mem_cons.1 hp with rfl | hp
      · exact ⟨by show 23 ≤ zn 0; rw [zn_eq]; omega, by show zn 0 < 1048576; rw [zn_eq]; omega, by show 23 ≤ 23; decide, by show 23 < 1000000000000; decide, by show 23 % 4096 ≠ 4095; decide, [0], 3, true, rfl⟩
      · rw [List.mem_singleton.1 hp]
        exact ⟨by show 23 ≤ zn (100 + 0); rw [zn_eq]; omega, by show zn (100 + 0) < 1048576; rw [zn_eq]; omega, by show 23 ≤ 26; decide, by show 26 < 1000000000000; decide, by show 26 % 4096 ≠ 4095; decide, [0], 3, true, rfl⟩
  · have q1 : [.slc 23 0 1 1 true 1] = renL (szs 23 (namesOf (lapp [(30, 25, .row (zrowsT 0 1 1) 22 true []), (31, 28, .row (zrowsT 100 1 1) 22 true [])] (zipA (baseC te l n) kLC)) [(0, 23, .row [.int .i64 0] 3 true []), (100 + 0, 26, .row [.int .i64 0] 3 true [])]) (kpOf T.leaf)) (zrowsT 0 1 1) := by
      refine zrowsT_grow (i := 0) (fun j hj => ?_) (szs_row (x := 0 + 0) hlit (by show 23 ≤ zn (0 + 0); rw [zn_eq]; omega) (by rw [Nat.zero_add]; exact List.mem_cons_self ..) hnd)
      omega
    have q2 : [.slc 26 0 1 1 true 1] = renL (szs 23 (namesOf (lapp [(30, 25, .row (zrowsT 0 1 1) 22 true []), (31, 28, .row (zrowsT 100 1 1) 22 true [])] (zipA (baseC te l n) kLC)) [(0, 23, .row [.int .i64 0] 3 true []), (100 + 0, 26, .row [.int .i64 0] 3 true [])]) (kpOf T.leaf)) (zrowsT 100 1 1) := by
      refine zrowsT_grow (i := 0) (fun j hj => ?_) (szs_row (x := 100 + 0) hlit (by show 23 ≤ zn (100 + 0); rw [zn_eq]; omega) (List.mem_cons_of_mem _ (List.mem_singleton.2 rfl)) hnd)
      omega
    show [(some (Blk.row _ _ _ _), true), (some (Blk.row _ _ _ _), true)] = [(some (Blk.row (renL _ _) _ _ _), true), (some (Blk.row (renL _ _) _ _ _), true)]
    rw [← q1, ← q2]; rfl
theorem laC_f1 (te : TypeId) (l : Nat → Bool) (n : Nat) (hb : l 0 = true) (e2 : Blk.row [.int .i64 (0 + 1)] 3 true [] = outC l 0) {env : Env} {h : H}
    (ho : obs [0, 4, 5, 6, 7, 8, 9] (actsOf (lapp [(30, 25, .row (zrowsT 0 1 1) 22 true []), (31, 28, .row (zrowsT 100 1 1) 22 true [])] (zipA (baseC te l n) kLC)) [(0, 23, .row [] 3 true []), (100 + 0, 26, .row [] 3 true [])]) (lapp [(30, 25, .row (zrowsT 0 1 1) 22 true []), (31, 28, .row (zrowsT 100 1 1) 22 true [])] (zipA (baseC te l n) kLC)) [(0, 23, .row [] 3 true []), (100 + 0, 26, .row [] 3 true [])] env h = expsR 23 (kpOf T.leaf) (eLC n (.slc 30 0 1 1 false 1) (.slc 31 0 1 1 false 1) ((0 + 1)) 1) [(30, 25, .row (zrowsT 0 1 1) 22 true []), (31, 28, .row (zrowsT 100 1 1) 22 true [])] (zipA (baseC te l n) kLC) [(0, 23, .row [.int .i64 1] 3 true []), (100 + 0, 26, .row [.int .i64 (0 + 1)] 3 true [])] T.leaf [(some (.row [.slc 23 0 1 1 true 1] 22 true []), true), (some (.row [.slc 26 0 1 1 true 1] 22 true []), true)]) : ∃ σ, Abs 23 σ (lsC te l n 1 ((0 + 1))).env (lsC te l n 1 ((0 + 1))).h env h := by
  have e1 : Blk.row [.int .i64 1] 3 true [] = inRowC l 0 := by unfold inRowC; rw [hb]; rfl
  have hlit : okLit 23 1048576 (lapp [(30, 25, .row (zrowsT 0 1 1) 22 true []), (31, 28, .row (zrowsT 100 1 1) 22 true [])] (zipA (baseC te l n) kLC)) = true := okLit_row rfl (belL_slc _ (fun j => zn (0 + j)) _ _ _ fun j hj => by have := List.mem_range.1 hj; rw [zn_eq]; omega) (okLit_row rfl (belL_slc _ (fun j => zn (100 + j)) _ _ _ fun j hj => by have := List.mem_range.1 hj; rw [zn_eq]; omega) (by kernel_rfl))
  have hnd : (([(0, 23, .row [.int .i64 1] 3 true []), (100 + 0, 26, .row [.int .i64 (0 + 1)] 3 true [])] : List (Nat × Nat × Blk)).map (·.1)).Nodup := by
    show [0, 100 + 0].Nodup
    refine List.nodup_cons.2 ⟨fun h => ?_, List.nodup_cons.2 ⟨fun h => (by cases h), List.nodup_nil⟩⟩
    have := List.mem_singleton.1 h; omega
  rw [expsR_eq] at ho
  · refine NewOK.abs (t := lsC te l n 1 ((0 + 1))) (A := lapp [(30, 25, .row (zrowsT 0 1 1) 22 true []), (31, 28, .row (zrowsT 100 1 1) 22 true [])] (zipA (baseC te l n) kLC)) (Z := [(0, 23, .row [.int .i64 1] 3 true []), (100 + 0, 26, .row [.int .i64 (0 + 1)] 3 true [])]) (z := T.leaf)
      ⟨by rw [lmap_app, zipA_B]; rfl, ?_, by show 23 ≤ 1048576; decide, by kernel_rfl, hlit, by kernel_rfl, by kernel_rfl, fun p hp => ?_, hnd, fun x k h => by cases h⟩ rfl rfl rfl rfl ho
    · show T.set (T.set T.leaf (outC l 0) (100 + 0)) (inRowC l 0) 0 = T.set (T.set T.leaf _ (100 + 0)) _ 0
      rw [← e1, ← e2]
    · rcases List.mem_cons.1 hp with rfl | hp
      · exact ⟨by show 23 ≤ zn 0; rw [zn_eq]; omega, by show zn 0 < 1048576; rw [zn_eq]; omega, by show 23 ≤ 23; decide, by show 23 < 1000000000000; decide, by show 23 % 4096 ≠ 4095; decide, [1], 3, true, rfl⟩
      · rw [List.mem_singleton.1 hp]
        exact ⟨by show 23 ≤ zn (100 + 0); rw [zn_eq]; omega, by show zn (100 + 0) < 1048576; rw [zn_eq]; omega, by show 23 ≤ 26; decide, by show 26 < 1000000000000; decide, by show 26 % 4096 ≠ 4095; decide, [(0 + 1)], 3, true, rfl⟩
  · have q1 : [.slc 23 0 1 1 true 1] = renL (szs 23 (namesOf (lapp [(30, 25, .row (zrowsT 0 1 1) 22 true []), (31, 28, .row (zrowsT 100 1 1) 22 true [])] (zipA (baseC te l n) kLC)) [(0, 23, .row [.int .i64 1] 3 true []), (100 + 0, 26, .row [.int .i64 (0 + 1)] 3 true [])]) (kpOf T.leaf)) (zrowsT 0 1 1) := by
      refine zrowsT_grow (i := 0) (fun j hj => ?_) (szs_row (x := 0 + 0) hlit (by show 23 ≤ zn (0 + 0); rw [zn_eq]; omega) (by rw [Nat.zero_add]; exact List.mem_cons_self ..) hnd)
      omega
    have q2 : [.slc 26 0 1 1 true 1] = renL (szs 23 (namesOf (lapp [(30, 25, .row (zrowsT 0 1 1) 22 true []), (31, 28, .row (zrowsT 100 1 1) 22 true [])] (zipA (baseC te l n) kLC)) [(0, 23, .row [.int .i64 1] 3 true []), (100 + 0, 26, .row [.int .i64 (0 + 1)] 3 true [])]) (kpOf T.leaf)) (zrowsT 100 1 1) := by
      refine zrowsT_grow (i := 0) (fun j hj => ?_) (szs_row (x := 100 + 0) hlit (by show 23 ≤ zn (100 + 0); rw [zn_eq]; omega) (List.mem_cons_of_mem _ (List.mem_singleton.2 rfl)) hnd)
      omega
    show [(some (Blk.row _ _ _ _), true), (some (Blk.row _ _ _ _), true)] = [(some (Blk.row (renL _ _) _ _ _), true), (some (Blk.row (renL _ _) _ _ _), true)]
    rw [← q1, ← q2]; rfl
theorem laC_s0 (te : TypeId) (l : Nat → Bool) (n : Nat) {i : Nat} (c : Int) (hi : i < 60) (hb : l i = false) (e2 : Blk.row [.int .i64 c] 3 true [] = outC l i) {env : Env} {h : H}
    (ho : obs [0, 4, 5, 6, 7, 8, 9] (actsOf (lapp [(30, 1048578, .row (zrowsT 0 1 (i + 1)) 22 true []), (31, 1048581, .row (zrowsT 100 1 (i + 1)) 22 true [])] (zipA (baseC te l n) kLC)) [(i, 1048576, .row [] 3 true []), (100 + i, 1048579, .row [] 3 true [])]) (lapp [(30, 1048578, .row (zrowsT 0 1 (i + 1)) 22 true []), (31, 1048581, .row (zrowsT 100 1 (i + 1)) 22 true [])] (zipA (baseC te l n) kLC)) [(i, 1048576, .row [] 3 true []), (100 + i, 1048579, .row [] 3 true [])] env h = expsR 23 (kpOf (zbC l i)) (eLC n (.slc 30 0 (i + 1) (i + 1) false 1) (.slc 31 0 (i + 1) (i + 1) false 1) c (i + 1)) [(30, 1048578, .row (zrowsT 0 1 (i + 1)) 22 true []), (31, 1048581, .row (zrowsT 100 1 (i + 1)) 22 true [])] (zipA (baseC te l n) kLC) [(i, 1048576, .row [.int .i64 0] 3 true []), (100 + i, 1048579, .row [.int .i64 c] 3 true [])] (zbC l i) [(some (.row (lapp (ltake (ldrop (zrowsT 0 1 i) 0) (Nat.mul i 1)) [.slc 1048576 0 1 1 true 1]) 22 true []), true), (some (.row (lapp (ltake (ldrop (zrowsT 100 1 i) 0) (Nat.mul i 1)) [.slc 1048579 0 1 1 true 1]) 22 true []), true)]) : ∃ σ, Abs 23 σ (lsC te l n (i + 1) c).env (lsC te l n (i + 1) c).h env h := by
  have e1 : Blk.row [.int .i64 0] 3 true [] = inRowC l i := by unfold inRowC; rw [hb]; rfl
  have hlit : okLit 23 1048576 (lapp [(30, 1048578, .row (zrowsT 0 1 (i + 1)) 22 true []), (31, 1048581, .row (zrowsT 100 1 (i + 1)) 22 true [])] (zipA (baseC te l n) kLC)) = true := okLit_row rfl (belL_slc _ (fun j => zn (0 + j)) _ _ _ fun j hj => by have := List.mem_range.1 hj; rw [zn_eq]; omega) (okLit_row rfl (belL_slc _ (fun j => zn (100 + j)) _ _ _ fun j hj => by have := List.mem_range.1 hj; rw [zn_eq]; omega) (by kernel_rfl))
  have hnd : (([(i, 1048576, .row [.int .i64 0] 3 true []), (100 + i, 1048579, .row [.int .i64 c] 3 true [])] : List (Nat × Nat × Blk)).map (·.1)).Nodup := by
    show [i, 100 + i].Nodup
    refine List.nodup_cons.2 ⟨fun h => ?_, List.nodup_cons.2 ⟨fun h => (by cases h), List.nodup_nil⟩⟩
    have := List.mem_singleton.1 h; omega
  rw [expsR_eq] at ho
  · refine NewOK.abs (t := lsC te l n (i + 1) c) (A := lapp [(30, 1048578, .row (zrowsT 0 1 (i + 1)) 22 true []), (31, 1048581, .row (zrowsT 100 1 (i + 1)) 22 true [])] (zipA (baseC te l n) kLC)) (Z := [(i, 1048576, .row [.int .i64 0] 3 true []), (100 + i, 1048579, .row [.int .i64 c] 3 true [])]) (z := (zbC l i))
      ⟨by rw [lmap_app, zipA_B]; rfl, ?_, by show 23 ≤ 1048576; decide, by kernel_rfl, hlit, by kernel_rfl, by kernel_rfl, fun p hp => ?_, hnd, zbC_ok (by omega)⟩ rfl rfl rfl rfl ho
    · show T.set (T.set (zbC l i) (outC l i) (100 + i)) (inRowC l i) i = T.set (T.set (zbC l i) _ (100 + i)) _ i
      rw [← e1, ← e2]
    · rcases List.mem_cons.1 hp with rfl | hp
      · exact ⟨by show 23 ≤ zn i; rw [zn_eq]; omega, by show zn i < 1048576; rw [zn_eq]; omega, by show 23 ≤ 1048576; decide, by show 1048576 < 1000000000000; decide, by show 1048576 % 4096 ≠ 4095; decide, [0], 3, true, rfl⟩
      · rw [List.mem_singleton.1 hp]
        exact ⟨by show 23 ≤ zn (100 + i); rw [zn_eq]; omega, by show zn (100 + i) < 1048576; rw [zn_eq]; omega, by show 23 ≤ 1048579; decide, by show 1048579 < 1000000000000; decide, by show 1048579 % 4096 ≠ 4095; decide, [c], 3, true, rfl⟩
  · have q1 : (lapp (ltake (ldrop (zrowsT 0 1 i) 0) (Nat.mul i 1)) [.slc 1048576 0 1 1 true 1]) = renL (szs 23 (namesOf (lapp [(30, 1048578, .row (zrowsT 0 1 (i + 1)) 22 true []), (31, 1048581, .row (zrowsT 100 1 (i + 1)) 22 true [])] (zipA (baseC te l n) kLC)) [(i, 1048576, .row [.int .i64 0] 3 true []), (100 + i, 1048579, .row [.int .i64 c] 3 true [])]) (kpOf (zbC l i))) (zrowsT 0 1 (i + 1)) := by
      refine zrowsT_grow (i := i) (fun j hj => ?_) (szs_row (x := 0 + i) hlit (by show 23 ≤ zn (0 + i); rw [zn_eq]; omega) (by rw [Nat.zero_add]; exact List.mem_cons_self ..) hnd)
      exact szs_zone hlit (by rw [Nat.zero_add]; exact (zbC_get l i (by omega)).1 j hj) (fun p hp e => by rcases List.mem_cons.1 hp with rfl | hp; (have e : i = 0 + j := e; omega); rw [List.mem_singleton.1 hp] at e; have e : 100 + i = 0 + j := e; omega)
    have q2 : (lapp (ltake (ldrop (zrowsT 100 1 i) 0) (Nat.mul i 1)) [.slc 1048579 0 1 1 true 1]) = renL (szs 23 (namesOf (lapp [(30, 1048578, .row (zrowsT 0 1 (i + 1)) 22 true []), (31, 1048581, .row (zrowsT 100 1 (i + 1)) 22 true [])] (zipA (baseC te l n) kLC)) [(i, 1048576, .row [.int .i64 0] 3 true []), (100 + i, 1048579, .row [.int .i64 c] 3 true [])]) (kpOf (zbC l i))) (zrowsT 100 1 (i + 1)) := by
      refine zrowsT_grow (i := i) (fun j hj => ?_) (szs_row (x := 100 + i) hlit (by show 23 ≤ zn (100 + i); rw [zn_eq]; omega) (List.mem_cons_of_mem _ (List.mem_singleton.2 rfl)) hnd)
      exact szs_zone hlit ((zbC_get l i (by omega)).2.1 j hj) (fun p hp e => by rcases List.mem_cons.1 hp with rfl | hp; (have e : i = 100 + j := e; omega); rw [List.mem_singleton.1 hp] at e; have e : 100 + i = 100 + j := e; omega)
    show [(some (Blk.row _ _ _ _), true), (some (Blk.row _ _ _ _), true)] = [(some (Blk.row (renL _ _) _ _ _), true), (some (Blk.row (renL _ _) _ _ _), true)]
    rw [← q1, ← q2]; rfl
theorem laC_s1 (te : TypeId) (l : Nat → Bool) (n : Nat) {i : Nat} (c : Int) (hi : i < 60) (hb : l i = true) (e2 : Blk.row [.int .i64 (c + 1)] 3 true [] = outC l i) {env : Env} {h : H}
    (ho : obs [0, 4, 5, 6, 7, 8, 9] (actsOf (lapp [(30, 1048578, .row (zrowsT 0 1 (i + 1)) 22 true []), (31, 1048581, .row (zrowsT 100 1 (i + 1)) 22 true [])] (zipA (baseC te l n) kLC)) [(i, 1048576, .row [] 3 true []), (100 + i, 1048579, .row [] 3 true [])]) (lapp [(30, 1048578, .row (zrowsT 0 1 (i + 1)) 22 true []), (31, 1048581, .row (zrowsT 100 1 (i + 1)) 22 true [])] (zipA (baseC te l n) kLC)) [(i, 1048576, .row [] 3 true []), (100 + i, 1048579, .row [] 3 true [])] env h = expsR 23 (kpOf (zbC l i)) (eLC n (.slc 30 0 (i + 1) (i + 1) false 1) (.slc 31 0 (i + 1) (i + 1) false 1) ((c + 1)) (i + 1)) [(30, 1048578, .row (zrowsT 0 1 (i + 1)) 22 true []), (31, 1048581, .row (zrowsT 100 1 (i + 1)) 22 true [])] (zipA (baseC te l n) kLC) [(i, 1048576, .row [.int .i64 1] 3 true []), (100 + i, 1048579, .row [.int .i64 (c + 1)] 3 true [])] (zbC l i) [(some (.row (lapp (ltake (ldrop (zrowsT 0 1 i) 0) (Nat.mul i 1)) [.slc 1048576 0 1 1 true 1]) 22 true []), true), (some (.row (lapp (ltake (ldrop (zrowsT 100 1 i) 0) (Nat.mul i 1)) [.slc 1048579 0 1 1 true 1]) 22 true []), true)]) : ∃ σ, Abs 23 σ (lsC te l n (i + 1) ((c + 1))).env (lsC te l n (i + 1) ((c + 1))).h env h := by
  have e1 : Blk.row [.int .i64 1] 3 true [] = inRowC l i := by unfold inRowC; rw [hb]; rfl
  have hlit : okLit 23 1048576 (lapp [(30, 1048578, .row (zrowsT 0 1 (i + 1)) 22 true []), (31, 1048581, .row (zrowsT 100 1 (i + 1)) 22 true [])] (zipA (baseC te l n) kLC)) = true := okLit_row rfl (belL_slc _ (fun j => zn (0 + j)) _ _ _ fun j hj => by have := List.mem_range.1 hj; rw [zn_eq]; omega) (okLit_row rfl (belL_slc _ (fun j => zn (100 + j)) _ _ _ fun j hj => by have := List.mem_range.1 hj; rw [zn_eq]; omega) (by kernel_rfl))
  have hnd : (([(i, 1048576, .row [.int .i64 1] 3 true []), (100 + i, 1048579, .row [.int .i64 (c + 1)] 3 true [])] : List (Nat × Nat × Blk)).map (·.1)).Nodup := by
    show [i, 100 + i].Nodup
    refine List.nodup_cons.2 ⟨fun h => ?_, List.nodup_cons.2 ⟨fun h => (by cases h), List.nodup_nil⟩⟩
    have := List.mem_singleton.1 h; omega
  rw [expsR_eq] at ho
  · refine NewOK.abs (t := lsC te l n (i + 1) ((c + 1))) (A := lapp [(30, 1048578, .row (zrowsT 0 1 (i + 1)) 22 true []), (31, 1048581, .row (zrowsT 100 1 (i + 1)) 22 true [])] (zipA (baseC te l n) kLC)) (Z := [(i, 1048576, .row [.int .i64 1] 3 true []), (100 + i, 1048579, .row [.int .i64 (c + 1)] 3 true [])]) (z := (zbC l i))
      ⟨by rw [lmap_app, zipA_B]; rfl, ?_, by show 23 ≤ 1048576; decide, by kernel_rfl, hlit, by kernel_rfl, by kernel_rfl, fun p hp => ?_, hnd, zbC_ok (by omega)⟩ rfl rfl rfl rfl ho
    · show T.set (T.set (zbC l i) (outC l i) (100 + i)) (inRowC l i) i = T.set (T.set (zbC l i) _ (100 + i)) _ i
      rw [← e1, ← e2]
    · rcases List.mem_cons.1 hp with rfl | hp
      · exact ⟨by show 23 ≤ zn i; rw [zn_eq]; omega, by show zn i < 1048576; rw [zn_eq]; omega, by show 23 ≤ 1048576; decide, by show 1048576 < 1000000000000; decide, by show 1048576 % 4096 ≠ 4095; decide, [1], 3, true, rfl⟩
      · rw [List.mem_singleton.1 hp]
        exact ⟨by show 23 ≤ zn (100 + i); rw [zn_eq]; omega, by show zn (100 + i) < 1048576; rw [zn_eq]; omega, by show 23 ≤ 1048579; decide, by show 1048579 < 1000000000000; decide, by show 1048579 % 4096 ≠ 4095; decide, [(c + 1)], 3, true, rfl⟩
  · have q1 : (lapp (ltake (ldrop (zrowsT 0 1 i) 0) (Nat.mul i 1)) [.slc 1048576 0 1 1 true 1]) = renL (szs 23 (namesOf (lapp [(30, 1048578, .row (zrowsT 0 1 (i + 1)) 22 true []), (31, 1048581, .row (zrowsT 100 1 (i + 1)) 22 true [])] (zipA (baseC te l n) kLC)) [(i, 1048576, .row [.int .i64 1] 3 true []), (100 + i, 1048579, .row [.int .i64 (c + 1)] 3 true [])]) (kpOf (zbC l i))) (zrowsT 0 1 (i + 1)) := by
      refine zrowsT_grow (i := i) (fun j hj => ?_) (szs_row (x := 0 + i) hlit (by show 23 ≤ zn (0 + i); rw [zn_eq]; omega) (by rw [Nat.zero_add]; exact List.mem_cons_self ..) hnd)
      exact szs_zone hlit (by rw [Nat.zero_add]; exact (zbC_get l i (by omega)).1 j hj) (fun p hp e => by rcases List.mem_cons.1 hp with rfl | hp; (have e : i = 0 + j := e; omega); rw [List.mem_singleton.1 hp] at e; have e : 100 + i = 0 + j := e; omega)
    have q2 : (lapp (ltake (ldrop (zrowsT 100 1 i) 0) (Nat.mul i 1)) [.slc 1048579 0 1 1 true 1]) = renL (szs 23 (namesOf (lapp [(30, 1048578, .row (zrowsT 0 1 (i + 1)) 22 true []), (31, 1048581, .row (zrowsT 100 1 (i + 1)) 22 true [])] (zipA (baseC te l n) kLC)) [(i, 1048576, .row [.int .i64 1] 3 true []), (100 + i, 1048579, .row [.int .i64 (c + 1)] 3 true [])]) (kpOf (zbC l i))) (zrowsT 100 1 (i + 1)) := by
      refine zrowsT_grow (i := i) (fun j hj => ?_) (szs_row (x := 100 + i) hlit (by show 23 ≤ zn (100 + i); rw [zn_eq]; omega) (List.mem_cons_of_mem _ (List.mem_singleton.2 rfl)) hnd)
      exact szs_zone hlit ((zbC_get l i (by omega)).2.1 j hj) (fun p hp e => by rcases List.mem_cons.1 hp with rfl | hp; (have e : i = 100 + j := e; omega); rw [List.mem_singleton.1 hp] at e; have e : 100 + i = 100 + j := e; omega)
    show [(some (Blk.row _ _ _ _), true), (some (Blk.row _ _ _ _), true)] = [(some (Blk.row (renL _ _) _ _ _), true), (some (Blk.row (renL _ _) _ _ _), true)]
    rw [← q1, ← q2]; rfl
end
end Go.Proofs.YtkfhjobebhdpoaaGreat
/- Stream: the loop of StreamClocks as a contract, with its end. -/
set_option autoImplicit false
set_option maxRecDepth 1000000
set_option maxHeartbeats 2000000
set_option linter.unusedVariables false
namespace Go.Proofs.YtkfhjobebhdpoaaGreat
noncomputable section
open Go.X
inductive LSC where
  | l0
  | l1 (i : Nat) (c : Int)
def LSC.ok (l : Nat → Bool) (n : Nat) : LSC → Prop
  | .l0 => True
  | .l1 i c => 1 ≤ i ∧ i ≤ n ∧ c = cntC l i
def LSC.st (te : TypeId) (l : Nat → Bool) (n : Nat) : LSC → ZS
  | .l0 => ls0C te l n
  | .l1 i c => lsC te l n i c
def LSC.dr (l : Nat → Bool) (n : Nat) : LSC → List Bool
  | .l0 => (cond (l 0) dlC_f1 dlC_f0)
  | .l1 i _ => cond (Nat.ble (i + 1) n) (cond (l i) dlC_s1 dlC_s0) [false]
def LSC.mu (n : Nat) : LSC → Nat
  | .l0 => n + 1
  | .l1 i _ => n - i
theorem lawDoneC {te : TypeId} {l : Nat → Bool} {n : Nat} (hn : n ≤ 60) {env : Env} {h : H}
    (ho : obs [4, 5, 6, 7] (actsOf (lapp [(30, 30, .row (zrowsT 0 1 n) 22 true []), (31, 31, .row (zrowsT 100 1 n) 22 true [])] (zipA pC kPC)) []) (lapp [(30, 30, .row (zrowsT 0 1 n) 22 true []), (31, 31, .row (zrowsT 100 1 n) 22 true [])] (zipA pC kPC)) [] env h =
      expsR 23 (kpOf (zbC l n)) [(4, .ptr 22 0), (5, .bool true), (6, .slc 30 0 n n false 1), (7, .slc 31 0 n n false 1)] [(30, 30, .row (zrowsT 0 1 n) 22 true []), (31, 31, .row (zrowsT 100 1 n) 22 true [])] (zipA pC kPC) [] (zbC l n) [(some (.row (zrowsT 0 1 n) 22 true []), true), (some (.row (zrowsT 100 1 n) 22 true []), true)]) :
    ∃ σ, Abs 23 σ (lfinC l n).env (lfinC l n).h env h := by
  have hlit : okLit 23 1048576 (lapp [(30, 30, .row (zrowsT 0 1 n) 22 true []), (31, 31, .row (zrowsT 100 1 n) 22 true [])] (zipA pC kPC)) = true := okLit_row rfl (belL_slc _ (fun j => zn (0 + j)) _ _ _ fun j hj => by have := List.mem_range.1 hj; rw [zn_eq]; omega) (okLit_row rfl (belL_slc _ (fun j => zn (100 + j)) _ _ _ fun j hj => by have := List.mem_range.1 hj; rw [zn_eq]; omega) (by kernel_rfl))
  have zg := zbC_get l n hn
  have k1 : renL (szs 23 (namesOf (lapp [(30, 30, .row (zrowsT 0 1 n) 22 true []), (31, 31, .row (zrowsT 100 1 n) 22 true [])] (zipA pC kPC)) []) (kpOf (zbC l n))) (zrowsT 0 1 n) = zrowsT 0 1 n := by
    exact zrowsT_keep fun j hj => szs_zone hlit (by rw [Nat.zero_add]; exact zg.1 j hj) (fun p hp e => by cases hp)
  have k2 : renL (szs 23 (namesOf (lapp [(30, 30, .row (zrowsT 0 1 n) 22 true []), (31, 31, .row (zrowsT 100 1 n) 22 true [])] (zipA pC kPC)) []) (kpOf (zbC l n))) (zrowsT 100 1 n) = zrowsT 100 1 n := by
    exact zrowsT_keep fun j hj => szs_zone hlit (zg.2.1 j hj) (fun p hp e => by cases hp)
  rw [expsR_eq] at ho
  · exact NewOK.abs (t := lfinC l n) (A := lapp [(30, 30, .row (zrowsT 0 1 n) 22 true []), (31, 31, .row (zrowsT 100 1 n) 22 true [])] (zipA pC kPC)) (Z := []) (z := zbC l n)
      ⟨by rw [lmap_app, zipA_B]; rfl, rfl, by show 23 ≤ 1048576; decide, rfl, hlit, by kernel_rfl, by kernel_rfl, (fun p hp => (by cases hp)), List.nodup_nil, zbC_ok hn⟩ rfl rfl rfl rfl ho
  · show _ = [(some (Blk.row (renL _ _) _ _ _), true), (some (Blk.row (renL _ _) _ _ _), true)]
    rw [k1, k2]; rfl
theorem lawLoopC_good {C : Cfg} (G : X.Good C Tryz.prog) (hg : C.gl = fun _ => none) (hm : C.mask 5 = mask 5) (te : TypeId) {l : Nat → Bool} {n : Nat} (hn1 : 1 ≤ n) (hn : n ≤ 60) :
    X.Good (C.addLc 5 10 (lcZ (S0 := Unit) (fun _ => True) (lmap (fun p => p.1) (ls0C te l n).E) (lmap (fun p => p.1) (ls0C te l n).B) (fun _ => ls0C te l n) (fun _ => (.ext 0, lfinC l n)))) Tryz.prog := by
  refine G.addZR good1 (by rw [hg]; rfl) (S := LSC) (LSC.dr l n) (n0 := 23) (ι := fun _ => .l0) (ok := LSC.ok l n) (St := LSC.st te l n) (fun s => (LSC.st te l n s).E) (μ := LSC.mu n) (fin := fun _ => (.ext 0, lfinC l n)) (fuel := F) hm.symm (by rfl) (fun s _ => Pe.refl _) ?_ ?_ (fun g i h => by rw [hg] at h; cases h)
  · intro _ _
    refine ⟨trivial, rfl, rfl, ⟨rfl, by kernel_rfl, by kernel_rfl, fun x k h => by cases h⟩, by show 23 ≤ 1048576; decide, rfl, rfl⟩
  · intro s hs
    rw [hm]
    cases s with
    | l0 =>
      have hc := cntC_le l 0
      have z0 : cntC l 0 = 0 := rfl
      cases hb : l 0 with
      | false =>
        have q1 : cntC l (0 + 1) = cntC l 0 := by rw [cntC_succ, hb]
        have q1' : cntC l 1 = cntC l 0 := q1
        refine ⟨?_⟩
        show xcode C1 Tryz.prog F 5 (loopC Tryz.prog 5 10) (mask 5) (tmpsN Tryz.prog 5) (ls0C te l n).env (ls0C te l n).h (cond (l 0) dlC_f1 dlC_f0) _
        rw [hb]
        refine round_use2 good1.spl (fun Kv => lrf0C T.leaf te l n Kv) ?_
        refine bcase_tt (dcq_lt (by simp only [Int.ofNat_eq_natCast]; omega)) (bcase_tt (inB_of (by omega)) (bcase_tt (by show Bool.and (Nat.ble 1 n) true = true; rw [show Nat.ble 1 n = true from Nat.ble_eq_true_of_le hn1]; rfl) (bcase_tt (by rw [hb]; rfl) ?_)))
        intro env h ds ho
        obtain ⟨σ, ab⟩ := laC_f0 te l n hb (row1_eq (by omega)) ho
        exact ⟨.l1 1 0, σ, ⟨Nat.le_refl _, hn1, by omega⟩, (by show n - 1 < n + 1; omega), rfl, ab⟩
      | true =>
        have q1 : cntC l (0 + 1) = cntC l 0 + 1 := by rw [cntC_succ, hb]
        have q1' : cntC l 1 = cntC l 0 + 1 := q1
        refine ⟨?_⟩
        show xcode C1 Tryz.prog F 5 (loopC Tryz.prog 5 10) (mask 5) (tmpsN Tryz.prog 5) (ls0C te l n).env (ls0C te l n).h (cond (l 0) dlC_f1 dlC_f0) _
        rw [hb]
        refine round_use2 good1.spl (fun Kv => lrf1C T.leaf te l n Kv) ?_
        refine bcase_tt (dcq_lt (by simp only [Int.ofNat_eq_natCast]; omega)) (bcase_tt (inB_of (by omega)) (bcase_tt (by show Bool.and (Nat.ble 1 n) true = true; rw [show Nat.ble 1 n = true from Nat.ble_eq_true_of_le hn1]; rfl) (bcase_tt (by rw [hb]; rfl) ?_)))
        intro env h ds ho
        obtain ⟨σ, ab⟩ := laC_f1 te l n hb (row1_eq (by omega)) ho
        exact ⟨.l1 1 ((0 + 1)), σ, ⟨Nat.le_refl _, hn1, by omega⟩, (by show n - 1 < n + 1; omega), rfl, ab⟩
    | l1 i c =>
      obtain ⟨h1, h2, p0⟩ := hs
      have hc := cntC_le l i
      by_cases hlt : i < n
      · have hi60 : i < 60 := by omega
        cases hb : l i with
        | false =>
          have q1 : cntC l (i + 1) = cntC l i := by rw [cntC_succ, hb]
          refine ⟨?_⟩
          show xcode C1 Tryz.prog F 5 (loopC Tryz.prog 5 10) (mask 5) (tmpsN Tryz.prog 5) (lsC te l n i c).env (lsC te l n i c).h (cond (Nat.ble (i + 1) n) (cond (l i) dlC_s1 dlC_s0) [false]) _
          rw [ble_t hlt, hb]
          refine round_use2 good1.spl (fun Kv => lrs0C (zbC l i) te l n i c Kv) ?_
          refine bcase_tt (dcq_lt (by simp only [Int.ofNat_eq_natCast]; omega)) (bcase_tt (inB_of hlt) (bcase_tt (by rw [ix_eq]; show Bool.and (Nat.ble (i + 1) n) true = true; rw [ble_t hlt]; rfl) (bcase_tt (by rw [ix_eq, hb]; rfl) ?_)))
          have leaf : ∀ (env : Env) (h : H) (ds : List Bool), _ → _ := fun env h ds ho => (laC_s0 te l n c hi60 hb (row1_eq (by first | omega | rfl | (simp only [Int.ofNat_eq_natCast]; omega))) ho).elim fun σ ab => (⟨LSC.l1 (i + 1) c, σ, ⟨by omega, hlt, by omega⟩, (by show n - (i + 1) < n - i; omega), rfl, ab⟩ : ∃ s' σ, LSC.ok l n s' ∧ LSC.mu n s' < LSC.mu n (.l1 i c) ∧ (XE.ext 0, lfinC l n) = (XE.ext 0, lfinC l n) ∧ Abs 23 σ (LSC.st te l n s').env (LSC.st te l n s').h env h)
          exact (bcase_tt (dcq_cap i) (bcase_tt (appC_ok (by rw [zrowsT_len]) (by omega)) (bcase_any (bcase_tt (dcq_cap i) (bcase_tt (appC_ok (by rw [zrowsT_len]) (by omega)) (bcase_any (bcase_tt (inR_add (by omega)) leaf) (bcase_tt (inR_add (by omega)) leaf)))) (bcase_tt (dcq_cap i) (bcase_tt (appC_ok (by rw [zrowsT_len]) (by omega)) (bcase_any (bcase_tt (inR_add (by omega)) leaf) (bcase_tt (inR_add (by omega)) leaf)))))))
        | true =>
          have q1 : cntC l (i + 1) = cntC l i + 1 := by rw [cntC_succ, hb]
          refine ⟨?_⟩
          show xcode C1 Tryz.prog F 5 (loopC Tryz.prog 5 10) (mask 5) (tmpsN Tryz.prog 5) (lsC te l n i c).env (lsC te l n i c).h (cond (Nat.ble (i + 1) n) (cond (l i) dlC_s1 dlC_s0) [false]) _
          rw [ble_t hlt, hb]
          refine round_use2 good1.spl (fun Kv => lrs1C (zbC l i) te l n i c Kv) ?_
          refine bcase_tt (dcq_lt (by simp only [Int.ofNat_eq_natCast]; omega)) (bcase_tt (inB_of hlt) (bcase_tt (by rw [ix_eq]; show Bool.and (Nat.ble (i + 1) n) true = true; rw [ble_t hlt]; rfl) (bcase_tt (by rw [ix_eq, hb]; rfl) ?_)))
          have leaf : ∀ (env : Env) (h : H) (ds : List Bool), _ → _ := fun env h ds ho => (laC_s1 te l n c hi60 hb (row1_eq (by first | omega | rfl | (simp only [Int.ofNat_eq_natCast]; omega))) ho).elim fun σ ab => (⟨LSC.l1 (i + 1) ((c + 1)), σ, ⟨by omega, hlt, by omega⟩, (by show n - (i + 1) < n - i; omega), rfl, ab⟩ : ∃ s' σ, LSC.ok l n s' ∧ LSC.mu n s' < LSC.mu n (.l1 i c) ∧ (XE.ext 0, lfinC l n) = (XE.ext 0, lfinC l n) ∧ Abs 23 σ (LSC.st te l n s').env (LSC.st te l n s').h env h)
          exact (bcase_tt (inR_i64 (by omega) (by omega)) (bcase_tt (dcq_cap i) (bcase_tt (appC_ok (by rw [zrowsT_len]) (by omega)) (bcase_any (bcase_tt (dcq_cap i) (bcase_tt (appC_ok (by rw [zrowsT_len]) (by omega)) (bcase_any (bcase_tt (inR_add (by omega)) leaf) (bcase_tt (inR_add (by omega)) leaf)))) (bcase_tt (dcq_cap i) (bcase_tt (appC_ok (by rw [zrowsT_len]) (by omega)) (bcase_any (bcase_tt (inR_add (by omega)) leaf) (bcase_tt (inR_add (by omega)) leaf))))))))
      · have hin : i = n := by omega
        subst hin
        refine ⟨?_⟩
        show xcode C1 Tryz.prog F 5 (loopC Tryz.prog 5 10) (mask 5) (tmpsN Tryz.prog 5) (lsC te l i i c).env (lsC te l i i c).h (cond (Nat.ble (i + 1) i) (cond (l i) dlC_s1 dlC_s0) [false]) _
        rw [ble_f (Nat.lt_irrefl i)]
        exact round_use2 good1.spl (fun Kv => lxC (zbC l i) te l i i c Kv)
          (bcase_tt (dcq_ge (by omega)) (fun env h ds ho => (lawDoneC (te := te) hn ho).elim fun σ ab => ⟨σ, rfl, ab⟩))
end
end Go.Proofs.YtkfhjobebhdpoaaGreat

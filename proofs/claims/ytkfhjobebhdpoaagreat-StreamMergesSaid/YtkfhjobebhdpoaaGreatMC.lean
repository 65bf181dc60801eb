/- Stream: the loop of StreamMerges that builds the ticks, its rounds. -/
import Derived.Test.YtkfhjobebhdpoaaGreatM4
set_option linter.unusedVariables false
set_option autoImplicit false
set_option maxRecDepth 1000000
set_option maxHeartbeats 2000000
set_option linter.unusedVariables false
namespace Go.Proofs.YtkfhjobebhdpoaaGreat
noncomputable section
open Go.X
def baseM (te : TypeId) (l : Nat → Bool) (n : Nat) : List (Nat × Blk) := (0, .pur (pvB l) n te) :: pM
def eLM (n : Nat) (ins want : AV) (u : Int) (d : Int) (i : Nat) : List (Nat × AV) := [(0, .slc 0 0 n n false 1), (4, .ptr 25 0), (5, .bool true), (6, ins), (7, want), (8, .int .i64 u), (9, .int .i64 d), (10, .int .i64 (Int.ofNat i))]
def w2M (cI cW : List AV) : List (Nat × Blk) := [(30, .row cI 22 true []), (31, .row cW 22 true [])]
def kPM : List Nat := [25, 8, 9, 10, 11, 12, 13, 14, 15, 16, 17, 18, 19, 20, 21, 22, 23, 24]
def kLM : List Nat := [0, 25, 8, 9, 10, 11, 12, 13, 14, 15, 16, 17, 18, 19, 20, 21, 22, 23, 24]
def dlM_f0 : List Bool := [true, false, true, false, false, true]
theorem lrf0M (z : T Blk) (te : TypeId) (l : Nat → Bool) (n : Nat) (Kv : XE → Obs → Prop) : xcode C1 Tryz.prog F 10 (loopC Tryz.prog 10 11) (mask 10) (tmpsN Tryz.prog 10) (mkE (eLM n .nils .nils 0 0 0)) ⟨mkB z (baseM te l n), 26⟩ dlM_f0 (fun x env h _ => Kv x (obs [0, 4, 5, 6, 7, 8, 9, 10] (actsOf (lapp [(30, 28, .row (zrowsT 0 1 1) 22 true []), (31, 31, .row (zrowsT 100 1 1) 22 true [])] (zipA (baseM te l n) kLM)) [(0, 26, .row [] 3 true []), (100 + 0, 29, .row [] 3 true [])]) (lapp [(30, 28, .row (zrowsT 0 1 1) 22 true []), (31, 31, .row (zrowsT 100 1 1) 22 true [])] (zipA (baseM te l n) kLM)) [(0, 26, .row [] 3 true []), (100 + 0, 29, .row [] 3 true [])] env h)) = (bcase (dcq true (ltI (Int.ofNat 0) (Int.ofNat n))) (bcase (inB (Int.ofNat 0) n) (bcase (Bool.and (Nat.ble (Nat.succ 0) n) true) (bcase (dcq false (l 0)) (Kv .nrm (expsR 26 (kpOf z) (eLM n (.slc 30 0 1 1 false 1) (.slc 31 0 1 1 false 1) 0 ((0 - 1)) 1) [(30, 28, .row (zrowsT 0 1 1) 22 true []), (31, 31, .row (zrowsT 100 1 1) 22 true [])] (zipA (baseM te l n) kLM) [(0, 26, .row [.int .i64 0] 3 true []), (100 + 0, 29, .row [.int .i64 (0 - 1)] 3 true [])] z [(some (.row [.slc 26 0 1 1 true 1] 22 true []), true), (some (.row [.slc 29 0 1 1 true 1] 22 true []), true)])) False) False) False) False) := by kernel_rfl
def dlM_f1 : List Bool := [true, true, true, false, false, true]
theorem lrf1M (z : T Blk) (te : TypeId) (l : Nat → Bool) (n : Nat) (Kv : XE → Obs → Prop) : xcode C1 Tryz.prog F 10 (loopC Tryz.prog 10 11) (mask 10) (tmpsN Tryz.prog 10) (mkE (eLM n .nils .nils 0 0 0)) ⟨mkB z (baseM te l n), 26⟩ dlM_f1 (fun x env h _ => Kv x (obs [0, 4, 5, 6, 7, 8, 9, 10] (actsOf (lapp [(30, 28, .row (zrowsT 0 1 1) 22 true []), (31, 31, .row (zrowsT 100 1 1) 22 true [])] (zipA (baseM te l n) kLM)) [(0, 26, .row [] 3 true []), (100 + 0, 29, .row [] 3 true [])]) (lapp [(30, 28, .row (zrowsT 0 1 1) 22 true []), (31, 31, .row (zrowsT 100 1 1) 22 true [])] (zipA (baseM te l n) kLM)) [(0, 26, .row [] 3 true []), (100 + 0, 29, .row [] 3 true [])] env h)) = (bcase (dcq true (ltI (Int.ofNat 0) (Int.ofNat n))) (bcase (inB (Int.ofNat 0) n) (bcase (Bool.and (Nat.ble (Nat.succ 0) n) true) (bcase (dcq true (l 0)) (Kv .nrm (expsR 26 (kpOf z) (eLM n (.slc 30 0 1 1 false 1) (.slc 31 0 1 1 false 1) ((0 + 1)) 0 1) [(30, 28, .row (zrowsT 0 1 1) 22 true []), (31, 31, .row (zrowsT 100 1 1) 22 true [])] (zipA (baseM te l n) kLM) [(0, 26, .row [.int .i64 1] 3 true []), (100 + 0, 29, .row [.int .i64 (0 + 1)] 3 true [])] z [(some (.row [.slc 26 0 1 1 true 1] 22 true []), true), (some (.row [.slc 29 0 1 1 true 1] 22 true []), true)])) False) False) False) False) := by kernel_rfl
def dlM_s0 : List Bool := [true, false, true, false, false, false, false, true]
theorem lrs0M (z : T Blk) (te : TypeId) (l : Nat → Bool) (n i : Nat) (u : Int) (d : Int) (Kv : XE → Obs → Prop) : xcode C1 Tryz.prog F 10 (loopC Tryz.prog 10 11) (mask 10) (tmpsN Tryz.prog 10) (mkE (eLM n (.slc 30 0 i i false 1) (.slc 31 0 i i false 1) u d i)) ⟨mkB z (lapp (w2M (zrowsT 0 1 i) (zrowsT 100 1 i)) (baseM te l n)), 1048576⟩ dlM_s0 (fun x env h _ => Kv x (obs [0, 4, 5, 6, 7, 8, 9, 10] (actsOf (lapp [(30, 1048578, .row (zrowsT 0 1 (i + 1)) 22 true []), (31, 1048581, .row (zrowsT 100 1 (i + 1)) 22 true [])] (zipA (baseM te l n) kLM)) [(i, 1048576, .row [] 3 true []), (100 + i, 1048579, .row [] 3 true [])]) (lapp [(30, 1048578, .row (zrowsT 0 1 (i + 1)) 22 true []), (31, 1048581, .row (zrowsT 100 1 (i + 1)) 22 true [])] (zipA (baseM te l n) kLM)) [(i, 1048576, .row [] 3 true []), (100 + i, 1048579, .row [] 3 true [])] env h)) = (bcase (dcq true (ltI (Int.ofNat i) (Int.ofNat n))) (bcase (inB (Int.ofNat i) n) (bcase (Bool.and (Nat.ble (Nat.succ (Nat.add 0 (Nat.mul (Int.toNat (Int.ofNat i)) 1))) n) true) (bcase (dcq false (l (Nat.add 0 (Nat.mul (Int.toNat (Int.ofNat i)) 1)))) (bcase (inR .i64 (d - 1)) (bcase (dcq false (Nat.ble (Nat.add i 1) i)) (bcase (appC (zrowsT 0 1 i) i) (bcase (Nat.ble (llen (zrowsT 0 1 i)) (Nat.mul i 1)) (bcase (dcq false (Nat.ble (Nat.add i 1) i)) (bcase (appC (zrowsT 100 1 i) i) (bcase (Nat.ble (llen (zrowsT 100 1 i)) (Nat.mul i 1)) (bcase (inR .i64 (Int.ofNat i + Int.ofNat 1)) (Kv .nrm (expsR 26 (kpOf z) (eLM n (.slc 30 0 (i + 1) (i + 1) false 1) (.slc 31 0 (i + 1) (i + 1) false 1) u ((d - 1)) (i + 1)) [(30, 1048578, .row (zrowsT 0 1 (i + 1)) 22 true []), (31, 1048581, .row (zrowsT 100 1 (i + 1)) 22 true [])] (zipA (baseM te l n) kLM) [(i, 1048576, .row [.int .i64 0] 3 true []), (100 + i, 1048579, .row [.int .i64 (d - 1)] 3 true [])] z [(some (.row (lapp (ltake (ldrop (zrowsT 0 1 i) 0) (Nat.mul i 1)) [.slc 1048576 0 1 1 true 1]) 22 true []), true), (some (.row (lapp (ltake (ldrop (zrowsT 100 1 i) 0) (Nat.mul i 1)) [.slc 1048579 0 1 1 true 1]) 22 true []), true)])) False) (bcase (inR .i64 (Int.ofNat i + Int.ofNat 1)) (Kv .nrm (expsR 26 (kpOf z) (eLM n (.slc 30 0 (i + 1) (i + 1) false 1) (.slc 31 0 (i + 1) (i + 1) false 1) u ((d - 1)) (i + 1)) [(30, 1048578, .row (zrowsT 0 1 (i + 1)) 22 true []), (31, 1048581, .row (zrowsT 100 1 (i + 1)) 22 true [])] (zipA (baseM te l n) kLM) [(i, 1048576, .row [.int .i64 0] 3 true []), (100 + i, 1048579, .row [.int .i64 (d - 1)] 3 true [])] z [(some (.row (lapp (ltake (ldrop (zrowsT 0 1 i) 0) (Nat.mul i 1)) [.slc 1048576 0 1 1 true 1]) 22 true []), true), (some (.row (lapp (ltake (ldrop (zrowsT 100 1 i) 0) (Nat.mul i 1)) [.slc 1048579 0 1 1 true 1]) 22 true []), true)])) False)) False) False) (bcase (dcq false (Nat.ble (Nat.add i 1) i)) (bcase (appC (zrowsT 100 1 i) i) (bcase (Nat.ble (llen (zrowsT 100 1 i)) (Nat.mul i 1)) (bcase (inR .i64 (Int.ofNat i + Int.ofNat 1)) (Kv .nrm (expsR 26 (kpOf z) (eLM n (.slc 30 0 (i + 1) (i + 1) false 1) (.slc 31 0 (i + 1) (i + 1) false 1) u ((d - 1)) (i + 1)) [(30, 1048578, .row (zrowsT 0 1 (i + 1)) 22 true []), (31, 1048581, .row (zrowsT 100 1 (i + 1)) 22 true [])] (zipA (baseM te l n) kLM) [(i, 1048576, .row [.int .i64 0] 3 true []), (100 + i, 1048579, .row [.int .i64 (d - 1)] 3 true [])] z [(some (.row (lapp (ltake (ldrop (zrowsT 0 1 i) 0) (Nat.mul i 1)) [.slc 1048576 0 1 1 true 1]) 22 true []), true), (some (.row (lapp (ltake (ldrop (zrowsT 100 1 i) 0) (Nat.mul i 1)) [.slc 1048579 0 1 1 true 1]) 22 true []), true)])) False) (bcase (inR .i64 (Int.ofNat i + Int.ofNat 1)) (Kv .nrm (expsR 26 (kpOf z) (eLM n (.slc 30 0 (i + 1) (i + 1) false 1) (.slc 31 0 (i + 1) (i + 1) false 1) u ((d - 1)) (i + 1)) [(30, 1048578, .row (zrowsT 0 1 (i + 1)) 22 true []), (31, 1048581, .row (zrowsT 100 1 (i + 1)) 22 true [])] (zipA (baseM te l n) kLM) [(i, 1048576, .row [.int .i64 0] 3 true []), (100 + i, 1048579, .row [.int .i64 (d - 1)] 3 true [])] z [(some (.row (lapp (ltake (ldrop (zrowsT 0 1 i) 0) (Nat.mul i 1)) [.slc 1048576 0 1 1 true 1]) 22 true []), true), (some (.row (lapp (ltake (ldrop (zrowsT 100 1 i) 0) (Nat.mul i 1)) [.slc 1048579 0 1 1 true 1]) 22 true []), true)])) False)) False) False)) False) False) False) False) False) False) False) := by kernel_rfl
def dlM_s1 : List Bool := [true, true, true, false, false, false, false, true]
theorem lrs1M (z : T Blk) (te : TypeId) (l : Nat → Bool) (n i : Nat) (u : Int) (d : Int) (Kv : XE → Obs → Prop) : xcode C1 Tryz.prog F 10 (loopC Tryz.prog 10 11) (mask 10) (tmpsN Tryz.prog 10) (mkE (eLM n (.slc 30 0 i i false 1) (.slc 31 0 i i false 1) u d i)) ⟨mkB z (lapp (w2M (zrowsT 0 1 i) (zrowsT 100 1 i)) (baseM te l n)), 1048576⟩ dlM_s1 (fun x env h _ => Kv x (obs [0, 4, 5, 6, 7, 8, 9, 10] (actsOf (lapp [(30, 1048578, .row (zrowsT 0 1 (i + 1)) 22 true []), (31, 1048581, .row (zrowsT 100 1 (i + 1)) 22 true [])] (zipA (baseM te l n) kLM)) [(i, 1048576, .row [] 3 true []), (100 + i, 1048579, .row [] 3 true [])]) (lapp [(30, 1048578, .row (zrowsT 0 1 (i + 1)) 22 true []), (31, 1048581, .row (zrowsT 100 1 (i + 1)) 22 true [])] (zipA (baseM te l n) kLM)) [(i, 1048576, .row [] 3 true []), (100 + i, 1048579, .row [] 3 true [])] env h)) = (bcase (dcq true (ltI (Int.ofNat i) (Int.ofNat n))) (bcase (inB (Int.ofNat i) n) (bcase (Bool.and (Nat.ble (Nat.succ (Nat.add 0 (Nat.mul (Int.toNat (Int.ofNat i)) 1))) n) true) (bcase (dcq true (l (Nat.add 0 (Nat.mul (Int.toNat (Int.ofNat i)) 1)))) (bcase (inR .i64 (u + 1)) (bcase (dcq false (Nat.ble (Nat.add i 1) i)) (bcase (appC (zrowsT 0 1 i) i) (bcase (Nat.ble (llen (zrowsT 0 1 i)) (Nat.mul i 1)) (bcase (dcq false (Nat.ble (Nat.add i 1) i)) (bcase (appC (zrowsT 100 1 i) i) (bcase (Nat.ble (llen (zrowsT 100 1 i)) (Nat.mul i 1)) (bcase (inR .i64 (Int.ofNat i + Int.ofNat 1)) (Kv .nrm (expsR 26 (kpOf z) (eLM n (.slc 30 0 (i + 1) (i + 1) false 1) (.slc 31 0 (i + 1) (i + 1) false 1) ((u + 1)) d (i + 1)) [(30, 1048578, .row (zrowsT 0 1 (i + 1)) 22 true []), (31, 1048581, .row (zrowsT 100 1 (i + 1)) 22 true [])] (zipA (baseM te l n) kLM) [(i, 1048576, .row [.int .i64 1] 3 true []), (100 + i, 1048579, .row [.int .i64 (u + 1)] 3 true [])] z [(some (.row (lapp (ltake (ldrop (zrowsT 0 1 i) 0) (Nat.mul i 1)) [.slc 1048576 0 1 1 true 1]) 22 true []), true), (some (.row (lapp (ltake (ldrop (zrowsT 100 1 i) 0) (Nat.mul i 1)) [.slc 1048579 0 1 1 true 1]) 22 true []), true)])) False) (bcase (inR .i64 (Int.ofNat i + Int.ofNat 1)) (Kv .nrm (expsR 26 (kpOf z) (eLM n (.slc 30 0 (i + 1) (i + 1) false 1) (.slc 31 0 (i + 1) (i + 1) false 1) ((u + 1)) d (i + 1)) [(30, 1048578, .row (zrowsT 0 1 (i + 1)) 22 true []), (31, 1048581, .row (zrowsT 100 1 (i + 1)) 22 true [])] (zipA (baseM te l n) kLM) [(i, 1048576, .row [.int .i64 1] 3 true []), (100 + i, 1048579, .row [.int .i64 (u + 1)] 3 true [])] z [(some (.row (lapp (ltake (ldrop (zrowsT 0 1 i) 0) (Nat.mul i 1)) [.slc 1048576 0 1 1 true 1]) 22 true []), true), (some (.row (lapp (ltake (ldrop (zrowsT 100 1 i) 0) (Nat.mul i 1)) [.slc 1048579 0 1 1 true 1]) 22 true []), true)])) False)) False) False) (bcase (dcq false (Nat.ble (Nat.add i 1) i)) (bcase (appC (zrowsT 100 1 i) i) (bcase (Nat.ble (llen (zrowsT 100 1 i)) (Nat.mul i 1)) (bcase (inR .i64 (Int.ofNat i + Int.ofNat 1)) (Kv .nrm (expsR 26 (kpOf z) (eLM n (.slc 30 0 (i + 1) (i + 1) false 1) (.slc 31 0 (i + 1) (i + 1) false 1) ((u + 1)) d (i + 1)) [(30, 1048578, .row (zrowsT 0 1 (i + 1)) 22 true []), (31, 1048581, .row (zrowsT 100 1 (i + 1)) 22 true [])] (zipA (baseM te l n) kLM) [(i, 1048576, .row [.int .i64 1] 3 true []), (100 + i, 1048579, .row [.int .i64 (u + 1)] 3 true [])] z [(some (.row (lapp (ltake (ldrop (zrowsT 0 1 i) 0) (Nat.mul i 1)) [.slc 1048576 0 1 1 true 1]) 22 true []), true), (some (.row (lapp (ltake (ldrop (zrowsT 100 1 i) 0) (Nat.mul i 1)) [.slc 1048579 0 1 1 true 1]) 22 true []), true)])) False) (bcase (inR .i64 (Int.ofNat i + Int.ofNat 1)) (Kv .nrm (expsR 26 (kpOf z) (eLM n (.slc 30 0 (i + 1) (i + 1) false 1) (.slc 31 0 (i + 1) (i + 1) false 1) ((u + 1)) d (i + 1)) [(30, 1048578, .row (zrowsT 0 1 (i + 1)) 22 true []), (31, 1048581, .row (zrowsT 100 1 (i + 1)) 22 true [])] (zipA (baseM te l n) kLM) [(i, 1048576, .row [.int .i64 1] 3 true []), (100 + i, 1048579, .row [.int .i64 (u + 1)] 3 true [])] z [(some (.row (lapp (ltake (ldrop (zrowsT 0 1 i) 0) (Nat.mul i 1)) [.slc 1048576 0 1 1 true 1]) 22 true []), true), (some (.row (lapp (ltake (ldrop (zrowsT 100 1 i) 0) (Nat.mul i 1)) [.slc 1048579 0 1 1 true 1]) 22 true []), true)])) False)) False) False)) False) False) False) False) False) False) False) := by kernel_rfl
theorem lxM (z : T Blk) (te : TypeId) (l : Nat → Bool) (n i : Nat) (u : Int) (d : Int) (Kv : XE → Obs → Prop) : xcode C1 Tryz.prog F 10 (loopC Tryz.prog 10 11) (mask 10) (tmpsN Tryz.prog 10) (mkE (eLM n (.slc 30 0 i i false 1) (.slc 31 0 i i false 1) u d i)) ⟨mkB z (lapp (w2M (zrowsT 0 1 i) (zrowsT 100 1 i)) (baseM te l n)), 1048576⟩ [false] (fun x env h _ => Kv x (obs [4, 5, 6, 7] (actsOf (lapp [(30, 30, .row (zrowsT 0 1 i) 22 true []), (31, 31, .row (zrowsT 100 1 i) 22 true [])] (zipA pM kPM)) []) (lapp [(30, 30, .row (zrowsT 0 1 i) 22 true []), (31, 31, .row (zrowsT 100 1 i) 22 true [])] (zipA pM kPM)) [] env h)) = (bcase (dcq false (ltI (Int.ofNat i) (Int.ofNat n))) (Kv (.ext 0) (expsR 26 (kpOf z) [(4, .ptr 25 0), (5, .bool true), (6, .slc 30 0 i i false 1), (7, .slc 31 0 i i false 1)] [(30, 30, .row (zrowsT 0 1 i) 22 true []), (31, 31, .row (zrowsT 100 1 i) 22 true [])] (zipA pM kPM) [] z [(some (.row (zrowsT 0 1 i) 22 true []), true), (some (.row (zrowsT 100 1 i) 22 true []), true)])) False) := by kernel_rfl
end
end Go.Proofs.YtkfhjobebhdpoaaGreat
/- Stream: the loop of StreamMerges that builds the ticks, as a contract. -/
set_option autoImplicit false
set_option maxRecDepth 1000000
set_option maxHeartbeats 2000000
set_option linter.unusedVariables false
namespace Go.Proofs.YtkfhjobebhdpoaaGreat
noncomputable section
open Go.X
/-- the zone as far as round i -/
def zbM (l : Nat → Bool) (i : Nat) : T Blk := Nat.rec T.leaf (fun j ih => T.set (T.set ih (outM l j) (100 + j)) (inRowM l j) j) i
theorem zbM_succ (l : Nat → Bool) (i : Nat) : zbM l (i + 1) = T.set (T.set (zbM l i) (outM l i) (100 + i)) (inRowM l i) i := rfl
theorem zbM_get (l : Nat → Bool) : ∀ i, i ≤ 60 → (∀ j, j < i → (zbM l i).get j = some (inRowM l j)) ∧ (∀ j, j < i → (zbM l i).get (100 + j) = some (outM l j)) ∧ (∀ x k, (zbM l i).get x = some k → x < 200 ∧ IntRow k)
  | 0, _ => ⟨fun j h => by omega, fun j h => by omega, fun x k h => by cases h⟩
  | i + 1, hi => by
    obtain ⟨h1, h2, h3⟩ := zbM_get l i (by omega)
    rw [zbM_succ]
    refine ⟨fun j hj => ?_, fun j hj => ?_, fun x k h => ?_⟩
    · by_cases e : j = i
      · subst e; exact T.get_set_same _ _
      · rw [T.get_set_other _ _ _ e, T.get_set_other _ _ _ (by omega)]; exact h1 j (by omega)
    · by_cases e : j = i
      · subst e; rw [T.get_set_other _ _ _ (by omega)]; exact T.get_set_same _ _
      · rw [T.get_set_other _ _ _ (by omega), T.get_set_other _ _ _ (by omega)]; exact h2 j (by omega)
    · rcases T.get_set h with ⟨rfl, rfl⟩ | ⟨_, h⟩
      · exact ⟨by omega, [bi (l x)], 3, true, rfl⟩
      · rcases T.get_set h with ⟨rfl, rfl⟩ | ⟨_, h⟩
        · exact ⟨by omega, outM_int l i⟩
        · exact h3 x k h
theorem zbM_in {l : Nat → Bool} {n : Nat} (hn : n ≤ 60) : ZinM l n (zbM l n) := ⟨(zbM_get l n hn).1, (zbM_get l n hn).2.1, (zbM_get l n hn).2.2⟩
theorem zbM_ok {l : Nat → Bool} {i : Nat} (hi : i ≤ 60) : ZoneOK (zbM l i) 1048576 := fun x k h => by
  obtain ⟨a, b⟩ := (zbM_get l i hi).2.2 x k h
  exact ⟨b, by rw [zn_eq]; omega, by rw [zn_eq]; show _ < 1000000000000; omega⟩
def lsM (te : TypeId) (l : Nat → Bool) (n i : Nat) (u : Int) (d : Int) : ZS := ⟨eLM n (.slc 30 0 i i false 1) (.slc 31 0 i i false 1) u d i, lapp (w2M (zrowsT 0 1 i) (zrowsT 100 1 i)) (baseM te l n), zbM l i, 1048576⟩
def ls0M (te : TypeId) (l : Nat → Bool) (n : Nat) : ZS := ⟨eLM n .nils .nils 0 0 0, baseM te l n, T.leaf, 26⟩
def lfinM (l : Nat → Bool) (n : Nat) : ZS := ⟨[(4, .ptr 25 0), (5, .bool true), (6, .slc 30 0 n n false 1), (7, .slc 31 0 n n false 1)], lapp (w2M (zrowsT 0 1 n) (zrowsT 100 1 n)) pM, zbM l n, 1048576⟩
theorem laM_f0 (te : TypeId) (l : Nat → Bool) (n : Nat) (hb : l 0 = false) (e2 : Blk.row [.int .i64 (0 - 1)] 3 true [] = outM l 0) {env : Env} {h : H}
    (ho : obs [0, 4, 5, 6, 7, 8, 9, 10] (actsOf (lapp [(30, 28, .row (zrowsT 0 1 1) 22 true []), (31, 31, .row (zrowsT 100 1 1) 22 true [])] (zipA (baseM te l n) kLM)) [(0, 26, .row [] 3 true []), (100 + 0, 29, .row [] 3 true [])]) (lapp [(30, 28, .row (zrowsT 0 1 1) 22 true []), (31, 31, .row (zrowsT 100 1 1) 22 true [])] (zipA (baseM te l n) kLM)) [(0, 26, .row [] 3 true []), (100 + 0, 29, .row [] 3 true [])] env h = expsR 26 (kpOf T.leaf) (eLM n (.slc 30 0 1 1 false 1) (.slc 31 0 1 1 false 1) 0 ((0 - 1)) 1) [(30, 28, .row (zrowsT 0 1 1) 22 true []), (31, 31, .row (zrowsT 100 1 1) 22 true [])] (zipA (baseM te l n) kLM) [(0, 26, .row [.int .i64 0] 3 true []), (100 + 0, 29, .row [.int .i64 (0 - 1)] 3 true [])] T.leaf [(some (.row [.slc 26 0 1 1 true 1] 22 true []), true), (some (.row [.slc 29 0 1 1 true 1] 22 true []), true)]) : ∃ σ, Abs 26 σ (lsM te l n 1 0 ((0 - 1))).env (lsM te l n 1 0 ((0 - 1))).h env h := by
  have e1 : Blk.row [.int .i64 0] 3 true [] = inRowM l 0 := by unfold inRowM; rw [hb]; rfl
  have hlit : okLit 26 1048576 (lapp [(30, 28, .row (zrowsT 0 1 1) 22 true []), (31, 31, .row (zrowsT 100 1 1) 22 true [])] (zipA (baseM te l n) kLM)) = true := okLit_row rfl (belL_slc _ (fun j => zn (0 + j)) _ _ _ fun j hj => by have := List.mem_range.1 hj; rw [zn_eq]; omega) (okLit_row rfl (belL_slc _ (fun j => zn (100 + j)) _ _ _ fun j hj => by have := List.mem_range.1 hj; rw [zn_eq]; omega) (by kernel_rfl))
  have hnd : (([(0, 26, .row [.int .i64 0] 3 true []), (100 + 0, 29, .row [.int .i64 (0 - 1)] 3 true [])] : List (Nat × Nat × Blk)).map (·.1)).Nodup := by
    show [0, 100 + 0].Nodup
    refine List.nodup_cons.2 ⟨fun h => ?_, List.nodup_cons.2 ⟨fun h => (by cases h), List.nodup_nil⟩⟩
    have := List.mem_singleton.1 h; omega
  rw [expsR_eq] at ho
  · refine NewOK.abs (t := lsM te l n 1 0 ((0 - 1))) (A := lapp [(30, 28, .row (zrowsT 0 1 1) 22 true []), (31, 31, .row (zrowsT 100 1 1) 22 true [])] (zipA (baseM te l n) kLM)) (Z := [(0, 26, .row [.int .i64 0] 3 true []), (100 + 0, 29, .row [.int .i64 (0 - 1)] 3 true [])]) (z := T.leaf)
      ⟨by rw [lmap_app, zipA_B]; rfl, ?_, by show 26 ≤ 1048576; decide, by kernel_rfl, hlit, by kernel_rfl, by kernel_rfl, fun p hp => ?_, hnd, fun x k h => by cases h⟩ rfl rfl rfl rfl ho
    · show T.set (T.set T.leaf (outM l 0) (100 + 0)) (inRowM l 0) 0 = T.set (T.set T.leaf _ (100 + 0)) _ 0
      rw [← e1, ← e2]
    · rcases List.mem_cons.1 hp with rfl | hp
      · exact ⟨by show 26 ≤ zn 0; rw [zn_eq]; omega, by show zn 0 < 1048576; rw [zn_eq]; omega, by show 26 ≤ 26; decide, by show 26 < 1000000000000; decide, by show 26 % 4096 ≠ 4095; decide, [0], 3, true, rfl⟩
      · rw [List.mem_singleton.1 hp]
        exact ⟨by show 26 ≤ zn (100 + 0); rw [zn_eq]; omega, by show zn (100 + 0) < 1048576; rw [zn_eq]; omega, by show 26 ≤ 29; decide, by show 29 < 1000000000000; decide, by show 29 % 4096 ≠ 4095; decide, [(0 - 1)], 3, true, rfl⟩
  · have q1 : [.slc 26 0 1 1 true 1] = renL (szs 26 (namesOf (lapp [(30, 28, .row (zrowsT 0 1 1) 22 true []), (31, 31, .row (zrowsT 100 1 1) 22 true [])] (zipA (baseM te l n) kLM)) [(0, 26, .row [.int .i64 0] 3 true []), (100 + 0, 29, .row [.int .i64 (0 - 1)] 3 true [])]) (kpOf T.leaf)) (zrowsT 0 1 1) := by
      refine zrowsT_grow (i := 0) (fun j hj => ?_) (szs_row (x := 0 + 0) hlit (by show 26 ≤ zn (0 + 0); rw [zn_eq]; omega) (by rw [Nat.zero_add]; exact List.mem_cons_self ..) hnd)
      omega
    have q2 : [.slc 29 0 1 1 true 1] = renL (szs 26 (namesOf (lapp [(30, 28, .row (zrowsT 0 1 1) 22 true []), (31, 31, .row (zrowsT 100 1 1) 22 true [])] (zipA (baseM te l n) kLM)) [(0, 26, .row [.int .i64 0] 3 true []), (100 + 0, 29, .row [.int .i64 (0 - 1)] 3 true [])]) (kpOf T.leaf)) (zrowsT 100 1 1) := by
      refine zrowsT_grow (i := 0) (fun j hj => ?_) (szs_row (x := 100 + 0) hlit (by show 26 ≤ zn (100 + 0); rw [zn_eq]; omega) (List.mem_cons_of_mem _ (List.mem_singleton.2 rfl)) hnd)
      omega
    show [(some (Blk.row _ _ _ _), true), (some (Blk.row _ _ _ _), true)] = [(some (Blk.row (renL _ _) _ _ _), true), (some (Blk.row (renL _ _) _ _ _), true)]
    rw [← q1, ← q2]; rfl
theorem laM_f1 (te : TypeId) (l : Nat → Bool) (n : Nat) (hb : l 0 = true) (e2 : Blk.row [.int .i64 (0 + 1)] 3 true [] = outM l 0) {env : Env} {h : H}
    (ho : obs [0, 4, 5, 6, 7, 8, 9, 10] (actsOf (lapp [(30, 28, .row (zrowsT 0 1 1) 22 true []), (31, 31, .row (zrowsT 100 1 1) 22 true [])] (zipA (baseM te l n) kLM)) [(0, 26, .row [] 3 true []), (100 + 0, 29, .row [] 3 true [])]) (lapp [(30, 28, .row (zrowsT 0 1 1) 22 true []), (31, 31, .row (zrowsT 100 1 1) 22 true [])] (zipA (baseM te l n) kLM)) [(0, 26, .row [] 3 true []), (100 + 0, 29, .row [] 3 true [])] env h = expsR 26 (kpOf T.leaf) (eLM n (.slc 30 0 1 1 false 1) (.slc 31 0 1 1 false 1) ((0 + 1)) 0 1) [(30, 28, .row (zrowsT 0 1 1) 22 true []), (31, 31, .row (zrowsT 100 1 1) 22 true [])] (zipA (baseM te l n) kLM) [(0, 26, .row [.int .i64 1] 3 true []), (100 + 0, 29, .row [.int .i64 (0 + 1)] 3 true [])] T.leaf [(some (.row [.slc 26 0 1 1 true 1] 22 true []), true), (some (.row [.slc 29 0 1 1 true 1] 22 true []), true)]) : ∃ σ, Abs 26 σ (lsM te l n 1 ((0 + 1)) 0).env (lsM te l n 1 ((0 + 1)) 0).h env h := by
  have e1 : Blk.row [.int .i64 1] 3 true [] = inRowM l 0 := by unfold inRowM; rw [hb]; rfl
  have hlit : okLit 26 1048576 (lapp [(30, 28, .row (zrowsT 0 1 1) 22 true []), (31, 31, .row (zrowsT 100 1 1) 22 true [])] (zipA (baseM te l n) kLM)) = true := okLit_row rfl (belL_slc _ (fun j => zn (0 + j)) _ _ _ fun j hj => by have := List.mem_range.1 hj; rw [zn_eq]; omega) (okLit_row rfl (belL_slc _ (fun j => zn (100 + j)) _ _ _ fun j hj => by have := List.mem_range.1 hj; rw [zn_eq]; omega) (by kernel_rfl))
  have hnd : (([(0, 26, .row [.int .i64 1] 3 true []), (100 + 0, 29, .row [.int .i64 (0 + 1)] 3 true [])] : List (Nat × Nat × Blk)).map (·.1)).Nodup := by
    show [0, 100 + 0].Nodup
    refine List.nodup_cons.2 ⟨fun h => ?_, List.nodup_cons.2 ⟨fun h => (by cases h), List.nodup_nil⟩⟩
    have := List.mem_singleton.1 h; omega
  rw [expsR_eq] at ho
  · refine NewOK.abs (t := lsM te l n 1 ((0 + 1)) 0) (A := lapp [(30, 28, .row (zrowsT 0 1 1) 22 true []), (31, 31, .row (zrowsT 100 1 1) 22 true [])] (zipA (baseM te l n) kLM)) (Z := [(0, 26, .row [.int .i64 1] 3 true []), (100 + 0, 29, .row [.int .i64 (0 + 1)] 3 true [])]) (z := T.leaf)
      ⟨by rw [lmap_app, zipA_B]; rfl, ?_, by show 26 ≤ 1048576; decide, by kernel_rfl, hlit, by kernel_rfl, by kernel_rfl, fun p hp => ?_, hnd, fun x k h => by cases h⟩ rfl rfl rfl rfl ho
    · show T.set (T.set T.leaf (outM l 0) (100 + 0)) (inRowM l 0) 0 = T.set (T.set T.leaf _ (100 + 0)) _ 0
      rw [← e1, ← e2]
    · rcases List.mem_cons.1 hp with rfl | hp
      · exact ⟨by show 26 ≤ zn 0; rw [zn_eq]; omega, by show zn 0 < 1048576; rw [zn_eq]; omega, by show 26 ≤ 26; decide, by show 26 < 1000000000000; decide, by show 26 % 4096 ≠ 4095; decide, [1], 3, true, rfl⟩
      · rw [List.mem_singleton.1 hp]
        exact ⟨by show 26 ≤ zn (100 + 0); rw [zn_eq]; omega, by show zn (100 + 0) < 1048576; rw [zn_eq]; omega, by show 26 ≤ 29; decide, by show 29 < 1000000000000; decide, by show 29 % 4096 ≠ 4095; decide, [(0 + 1)], 3, true, rfl⟩
  · have q1 : [.slc 26 0 1 1 true 1] = renL (szs 26 (namesOf (lapp [(30, 28, .row (zrowsT 0 1 1) 22 true []), (31, 31, .row (zrowsT 100 1 1) 22 true [])] (zipA (baseM te l n) kLM)) [(0, 26, .row [.int .i64 1] 3 true []), (100 + 0, 29, .row [.int .i64 (0 + 1)] 3 true [])]) (kpOf T.leaf)) (zrowsT 0 1 1) := by
      refine zrowsT_grow (i := 0) (fun j hj => ?_) (szs_row (x := 0 + 0) hlit (by show 26 ≤ zn (0 + 0); rw [zn_eq]; omega) (by rw [Nat.zero_add]; exact List.mem_cons_self ..) hnd)
      omega
    have q2 : [.slc 29 0 1 1 true 1] = renL (szs 26 (namesOf (lapp [(30, 28, .row (zrowsT 0 1 1) 22 true []), (31, 31, .row (zrowsT 100 1 1) 22 true [])] (zipA (baseM te l n) kLM)) [(0, 26, .row [.int .i64 1] 3 true []), (100 + 0, 29, .row [.int .i64 (0 + 1)] 3 true [])]) (kpOf T.leaf)) (zrowsT 100 1 1) := by
      refine zrowsT_grow (i := 0) (fun j hj => ?_) (szs_row (x := 100 + 0) hlit (by show 26 ≤ zn (100 + 0); rw [zn_eq]; omega) (List.mem_cons_of_mem _ (List.mem_singleton.2 rfl)) hnd)
      omega
    show [(some (Blk.row _ _ _ _), true), (some (Blk.row _ _ _ _), true)] = [(some (Blk.row (renL _ _) _ _ _), true), (some (Blk.row (renL _ _) _ _ _), true)]
    rw [← q1, ← q2]; rfl
theorem laM_s0 (te : TypeId) (l : Nat → Bool) (n : Nat) {i : Nat} (u : Int) (d : Int) (hi : i < 60) (hb : l i = false) (e2 : Blk.row [.int .i64 (d - 1)] 3 true [] = outM l i) {env : Env} {h : H}
    (ho : obs [0, 4, 5, 6, 7, 8, 9, 10] (actsOf (lapp [(30, 1048578, .row (zrowsT 0 1 (i + 1)) 22 true []), (31, 1048581, .row (zrowsT 100 1 (i + 1)) 22 true [])] (zipA (baseM te l n) kLM)) [(i, 1048576, .row [] 3 true []), (100 + i, 1048579, .row [] 3 true [])]) (lapp [(30, 1048578, .row (zrowsT 0 1 (i + 1)) 22 true []), (31, 1048581, .row (zrowsT 100 1 (i + 1)) 22 true [])] (zipA (baseM te l n) kLM)) [(i, 1048576, .row [] 3 true []), (100 + i, 1048579, .row [] 3 true [])] env h = expsR 26 (kpOf (zbM l i)) (eLM n (.slc 30 0 (i + 1) (i + 1) false 1) (.slc 31 0 (i + 1) (i + 1) false 1) u ((d - 1)) (i + 1)) [(30, 1048578, .row (zrowsT 0 1 (i + 1)) 22 true []), (31, 1048581, .row (zrowsT 100 1 (i + 1)) 22 true [])] (zipA (baseM te l n) kLM) [(i, 1048576, .row [.int .i64 0] 3 true []), (100 + i, 1048579, .row [.int .i64 (d - 1)] 3 true [])] (zbM l i) [(some (.row (lapp (ltake (ldrop (zrowsT 0 1 i) 0) (Nat.mul i 1)) [.slc 1048576 0 1 1 true 1]) 22 true []), true), (some (.row (lapp (ltake (ldrop (zrowsT 100 1 i) 0) (Nat.mul i 1)) [.slc 1048579 0 1 1 true 1]) 22 true []), true)]) : ∃ σ, Abs 26 σ (lsM te l n (i + 1) u ((d - 1))).env (lsM te l n (i + 1) u ((d - 1))).h env h := by
  have e1 : Blk.row [.int .i64 0] 3 true [] = inRowM l i := by unfold inRowM; rw [hb]; rfl
  have hlit : okLit 26 1048576 (lapp [(30, 1048578, .row (zrowsT 0 1 (i + 1)) 22 true []), (31, 1048581, .row (zrowsT 100 1 (i + 1)) 22 true [])] (zipA (baseM te l n) kLM)) = true := okLit_row rfl (belL_slc _ (fun j => zn (0 + j)) _ _ _ fun j hj => by have := List.mem_range.1 hj; rw [zn_eq]; omega) (okLit_row rfl (belL_slc _ (fun j => zn (100 + j)) _ _ _ fun j hj => by have := List.mem_range.1 hj; rw [zn_eq]; omega) (by kernel_rfl))
  have hnd : (([(i, 1048576, .row [.int .i64 0] 3 true []), (100 + i, 1048579, .row [.int .i64 (d - 1)] 3 true [])] : List (Nat × Nat × Blk)).map (·.1)).Nodup := by
    show [i, 100 + i].Nodup
    refine List.nodup_cons.2 ⟨fun h => ?_, List.nodup_cons.2 ⟨fun h => (by cases h), List.nodup_nil⟩⟩
    have := List.mem_singleton.1 h; omega
  rw [expsR_eq] at ho
  · refine NewOK.abs (t := lsM te l n (i + 1) u ((d - 1))) (A := lapp [(30, 1048578, .row (zrowsT 0 1 (i + 1)) 22 true []), (31, 1048581, .row (zrowsT 100 1 (i + 1)) 22 true [])] (zipA (baseM te l n) kLM)) (Z := [(i, 1048576, .row [.int .i64 0] 3 true []), (100 + i, 1048579, .row [.int .i64 (d - 1)] 3 true [])]) (z := (zbM l i))
      ⟨by rw [lmap_app, zipA_B]; rfl, ?_, by show 26 ≤ 1048576; decide, by kernel_rfl, hlit, by kernel_rfl, by kernel_rfl, fun p hp => ?_, hnd, zbM_ok (by omega)⟩ rfl rfl rfl rfl ho
    · show T.set (T.set (zbM l i) (outM l i) (100 + i)) (inRowM l i) i = T.set (T.set (zbM l i) _ (100 + i)) _ i
      rw [← e1, ← e2]
    · rcases List.mem_cons.1 hp with rfl | hp
      · exact ⟨by show 26 ≤ zn i; rw [zn_eq]; omega, by show zn i < 1048576; rw [zn_eq]; omega, by show 26 ≤ 1048576; decide, by show 1048576 < 1000000000000; decide, by show 1048576 % 4096 ≠ 4095; decide, [0], 3, true, rfl⟩
      · rw [List.mem_singleton.1 hp]
        exact ⟨by show 26 ≤ zn (100 + i); rw [zn_eq]; omega, by show zn (100 + i) < 1048576; rw [zn_eq]; omega, by show 26 ≤ 1048579; decide, by show 1048579 < 1000000000000; decide, by show 1048579 % 4096 ≠ 4095; decide, [(d - 1)], 3, true, rfl⟩
  · have q1 : (lapp (ltake (ldrop (zrowsT 0 1 i) 0) (Nat.mul i 1)) [.slc 1048576 0 1 1 true 1]) = renL (szs 26 (namesOf (lapp [(30, 1048578, .row (zrowsT 0 1 (i + 1)) 22 true []), (31, 1048581, .row (zrowsT 100 1 (i + 1)) 22 true [])] (zipA (baseM te l n) kLM)) [(i, 1048576, .row [.int .i64 0] 3 true []), (100 + i, 1048579, .row [.int .i64 (d - 1)] 3 true [])]) (kpOf (zbM l i))) (zrowsT 0 1 (i + 1)) := by
      refine zrowsT_grow (i := i) (fun j hj => ?_) (szs_row (x := 0 + i) hlit (by show 26 ≤ zn (0 + i); rw [zn_eq]; omega) (by rw [Nat.zero_add]; exact List.mem_cons_self ..) hnd)
      exact szs_zone hlit (by rw [Nat.zero_add]; exact (zbM_get l i (by omega)).1 j hj) (fun p hp e => by rcases List.mem_cons.1 hp with rfl | hp; (have e : i = 0 + j := e; omega); rw [List.mem_singleton.1 hp] at e; have e : 100 + i = 0 + j := e; omega)
    have q2 : (lapp (ltake (ldrop (zrowsT 100 1 i) 0) (Nat.mul i 1)) [.slc 1048579 0 1 1 true 1]) = renL (szs 26 (namesOf (lapp [(30, 1048578, .row (zrowsT 0 1 (i + 1)) 22 true []), (31, 1048581, .row (zrowsT 100 1 (i + 1)) 22 true [])] (zipA (baseM te l n) kLM)) [(i, 1048576, .row [.int .i64 0] 3 true []), (100 + i, 1048579, .row [.int .i64 (d - 1)] 3 true [])]) (kpOf (zbM l i))) (zrowsT 100 1 (i + 1)) := by
      refine zrowsT_grow (i := i) (fun j hj => ?_) (szs_row (x := 100 + i) hlit (by show 26 ≤ zn (100 + i); rw [zn_eq]; omega) (List.mem_cons_of_mem _ (List.mem_singleton.2 rfl)) hnd)
      exact szs_zone hlit ((zbM_get l i (by omega)).2.1 j hj) (fun p hp e => by rcases List.mem_cons.1 hp with rfl | hp; (have e : i = 100 + j := e; omega); rw [List.mem_singleton.1 hp] at e; have e : 100 + i = 100 + j := e; omega)
    show [(some (Blk.row _ _ _ _), true), (some (Blk.row _ _ _ _), true)] = [(some (Blk.row (renL _ _) _ _ _), true), (some (Blk.row (renL _ _) _ _ _), true)]
    rw [← q1, ← q2]; rfl
theorem laM_s1 (te : TypeId) (l : Nat → Bool) (n : Nat) {i : Nat} (u : Int) (d : Int) (hi : i < 60) (hb : l i = true) (e2 : Blk.row [.int .i64 (u + 1)] 3 true [] = outM l i) {env : Env} {h : H}
    (ho : obs [0, 4, 5, 6, 7, 8, 9, 10] (actsOf (lapp [(30, 1048578, .row (zrowsT 0 1 (i + 1)) 22 true []), (31, 1048581, .row (zrowsT 100 1 (i + 1)) 22 true [])] (zipA (baseM te l n) kLM)) [(i, 1048576, .row [] 3 true []), (100 + i, 1048579, .row [] 3 true [])]) (lapp [(30, 1048578, .row (zrowsT 0 1 (i + 1)) 22 true []), (31, 1048581, .row (zrowsT 100 1 (i + 1)) 22 true [])] (zipA (baseM te l n) kLM)) [(i, 1048576, .row [] 3 true []), (100 + i, 1048579, .row [] 3 true [])] env h = expsR 26 (kpOf (zbM l i)) (eLM n (.slc 30 0 (i + 1) (i + 1) false 1) (.slc 31 0 (i + 1) (i + 1) false 1) ((u + 1)) d (i + 1)) [(30, 1048578, .row (zrowsT 0 1 (i + 1)) 22 true []), (31, 1048581, .row (zrowsT 100 1 (i + 1)) 22 true [])] (zipA (baseM te l n) kLM) [(i, 1048576, .row [.int .i64 1] 3 true []), (100 + i, 1048579, .row [.int .i64 (u + 1)] 3 true [])] (zbM l i) [(some (.row (lapp (ltake (ldrop (zrowsT 0 1 i) 0) (Nat.mul i 1)) [.slc 1048576 0 1 1 true 1]) 22 true []), true), (some (.row (lapp (ltake (ldrop (zrowsT 100 1 i) 0) (Nat.mul i 1)) [.slc 1048579 0 1 1 true 1]) 22 true []), true)]) : ∃ σ, Abs 26 σ (lsM te l n (i + 1) ((u + 1)) d).env (lsM te l n (i + 1) ((u + 1)) d).h env h := by
  have e1 : Blk.row [.int .i64 1] 3 true [] = inRowM l i := by unfold inRowM; rw [hb]; rfl
  have hlit : okLit 26 1048576 (lapp [(30, 1048578, .row (zrowsT 0 1 (i + 1)) 22 true []), (31, 1048581, .row (zrowsT 100 1 (i + 1)) 22 true [])] (zipA (baseM te l n) kLM)) = true := okLit_row rfl (belL_slc _ (fun j => zn (0 + j)) _ _ _ fun j hj => by have := List.mem_range.1 hj; rw [zn_eq]; omega) (okLit_row rfl (belL_slc _ (fun j => zn (100 + j)) _ _ _ fun j hj => by have := List.mem_range.1 hj; rw [zn_eq]; omega) (by kernel_rfl))
  have hnd : (([(i, 1048576, .row [.int .i64 1] 3 true []), (100 + i, 1048579, .row [.int .i64 (u + 1)] 3 true [])] : List (Nat × Nat × Blk)).map (·.1)).Nodup := by
    show [i, 100 + i].Nodup
    refine List.nodup_cons.2 ⟨fun h => ?_, List.nodup_cons.2 ⟨fun h => (by cases h), List.nodup_nil⟩⟩
    have := List.mem_singleton.1 h; omega
  rw [expsR_eq] at ho
  · refine NewOK.abs (t := lsM te l n (i + 1) ((u + 1)) d) (A := lapp [(30, 1048578, .row (zrowsT 0 1 (i + 1)) 22 true []), (31, 1048581, .row (zrowsT 100 1 (i + 1)) 22 true [])] (zipA (baseM te l n) kLM)) (Z := [(i, 1048576, .row [.int .i64 1] 3 true []), (100 + i, 1048579, .row [.int .i64 (u + 1)] 3 true [])]) (z := (zbM l i))
      ⟨by rw [lmap_app, zipA_B]; rfl, ?_, by show 26 ≤ 1048576; decide, by kernel_rfl, hlit, by kernel_rfl, by kernel_rfl, fun p hp => ?_, hnd, zbM_ok (by omega)⟩ rfl rfl rfl rfl ho
    · show T.set (T.set (zbM l i) (outM l i) (100 + i)) (inRowM l i) i = T.set (T.set (zbM l i) _ (100 + i)) _ i
      rw [← e1, ← e2]
    · rcases List.mem_cons.1 hp with rfl | hp
      · exact ⟨by show 26 ≤ zn i; rw [zn_eq]; omega, by show zn i < 1048576; rw [zn_eq]; omega, by show 26 ≤ 1048576; decide, by show 1048576 < 1000000000000; decide, by show 1048576 % 4096 ≠ 4095; decide, [1], 3, true, rfl⟩
      · rw [List.mem_singleton.1 hp]
        exact ⟨by show 26 ≤ zn (100 + i); rw [zn_eq]; omega, by show zn (100 + i) < 1048576; rw [zn_eq]; omega, by show 26 ≤ 1048579; decide, by show 1048579 < 1000000000000; decide, by show 1048579 % 4096 ≠ 4095; decide, [(u + 1)], 3, true, rfl⟩
  · have q1 : (lapp (ltake (ldrop (zrowsT 0 1 i) 0) (Nat.mul i 1)) [.slc 1048576 0 1 1 true 1]) = renL (szs 26 (namesOf (lapp [(30, 1048578, .row (zrowsT 0 1 (i + 1)) 22 true []), (31, 1048581, .row (zrowsT 100 1 (i + 1)) 22 true [])] (zipA (baseM te l n) kLM)) [(i, 1048576, .row [.int .i64 1] 3 true []), (100 + i, 1048579, .row [.int .i64 (u + 1)] 3 true [])]) (kpOf (zbM l i))) (zrowsT 0 1 (i + 1)) := by
      refine zrowsT_grow (i := i) (fun j hj => ?_) (szs_row (x := 0 + i) hlit (by show 26 ≤ zn (0 + i); rw [zn_eq]; omega) (by rw [Nat.zero_add]; exact List.mem_cons_self ..) hnd)
      exact szs_zone hlit (by rw [Nat.zero_add]; exact (zbM_get l i (by omega)).1 j hj) (fun p hp e => by rcases List.mem_cons.1 hp with rfl | hp; (have e : i = 0 + j := e; omega); rw [List.mem_singleton.1 hp] at e; have e : 100 + i = 0 + j := e; omega)
    have q2 : (lapp (ltake (ldrop (zrowsT 100 1 i) 0) (Nat.mul i 1)) [.slc 1048579 0 1 1 true 1]) = renL (szs 26 (namesOf (lapp [(30, 1048578, .row (zrowsT 0 1 (i + 1)) 22 true []), (31, 1048581, .row (zrowsT 100 1 (i + 1)) 22 true [])] (zipA (baseM te l n) kLM)) [(i, 1048576, .row [.int .i64 1] 3 true []), (100 + i, 1048579, .row [.int .i64 (u + 1)] 3 true [])]) (kpOf (zbM l i))) (zrowsT 100 1 (i + 1)) := by
      refine zrowsT_grow (i := i) (fun j hj => ?_) (szs_row (x := 100 + i) hlit (by show 26 ≤ zn (100 + i); rw [zn_eq]; omega) (List.mem_cons_of_mem _ (List.mem_singleton.2 rfl)) hnd)
      exact szs_zone hlit ((zbM_get l i (by omega)).2.1 j hj) (fun p hp e => by rcases List.mem_cons.1 hp with rfl | hp; (have e : i = 100 + j := e; omega); rw [List.mem_singleton.1 hp] at e; have e : 100 + i = 100 + j := e; omega)
    show [(some (Blk.row _ _ _ _), true), (some (Blk.row _ _ _ _), true)] = [(some (Blk.row (renL _ _) _ _ _), true), (some (Blk.row (renL _ _) _ _ _), true)]
    rw [← q1, ← q2]; rfl
end
end Go.Proofs.YtkfhjobebhdpoaaGreat
/- Stream: the loop of StreamMerges as a contract, with its end. -/
set_option autoImplicit false
set_option maxRecDepth 1000000
set_option maxHeartbeats 2000000
set_option linter.unusedVariables false
namespace Go.Proofs.YtkfhjobebhdpoaaGreat
noncomputable section
open Go.X
inductive LSM where
  | l0
  | l1 (i : Nat) (u : Int) (d : Int)
def LSM.ok (l : Nat → Bool) (n : Nat) : LSM → Prop
  | .l0 => True
  | .l1 i u d => 1 ≤ i ∧ i ≤ n ∧ u = cntM l i ∧ d = -(cntN l i)
def LSM.st (te : TypeId) (l : Nat → Bool) (n : Nat) : LSM → ZS
  | .l0 => ls0M te l n
  | .l1 i u d => lsM te l n i u d
def LSM.dr (l : Nat → Bool) (n : Nat) : LSM → List Bool
  | .l0 => (cond (l 0) dlM_f1 dlM_f0)
  | .l1 i _ _ => cond (Nat.ble (i + 1) n) (cond (l i) dlM_s1 dlM_s0) [false]
def LSM.mu (n : Nat) : LSM → Nat
  | .l0 => n + 1
  | .l1 i _ _ => n - i
theorem lawDoneM {te : TypeId} {l : Nat → Bool} {n : Nat} (hn : n ≤ 60) {env : Env} {h : H}
    (ho : obs [4, 5, 6, 7] (actsOf (lapp [(30, 30, .row (zrowsT 0 1 n) 22 true []), (31, 31, .row (zrowsT 100 1 n) 22 true [])] (zipA pM kPM)) []) (lapp [(30, 30, .row (zrowsT 0 1 n) 22 true []), (31, 31, .row (zrowsT 100 1 n) 22 true [])] (zipA pM kPM)) [] env h =
      expsR 26 (kpOf (zbM l n)) [(4, .ptr 25 0), (5, .bool true), (6, .slc 30 0 n n false 1), (7, .slc 31 0 n n false 1)] [(30, 30, .row (zrowsT 0 1 n) 22 true []), (31, 31, .row (zrowsT 100 1 n) 22 true [])] (zipA pM kPM) [] (zbM l n) [(some (.row (zrowsT 0 1 n) 22 true []), true), (some (.row (zrowsT 100 1 n) 22 true []), true)]) :
    ∃ σ, Abs 26 σ (lfinM l n).env (lfinM l n).h env h := by
  have hlit : okLit 26 1048576 (lapp [(30, 30, .row (zrowsT 0 1 n) 22 true []), (31, 31, .row (zrowsT 100 1 n) 22 true [])] (zipA pM kPM)) = true := okLit_row rfl (belL_slc _ (fun j => zn (0 + j)) _ _ _ fun j hj => by have := List.mem_range.1 hj; rw [zn_eq]; omega) (okLit_row rfl (belL_slc _ (fun j => zn (100 + j)) _ _ _ fun j hj => by have := List.mem_range.1 hj; rw [zn_eq]; omega) (by kernel_rfl))
  have zg := zbM_get l n hn
  have k1 : renL (szs 26 (namesOf (lapp [(30, 30, .row (zrowsT 0 1 n) 22 true []), (31, 31, .row (zrowsT 100 1 n) 22 true [])] (zipA pM kPM)) []) (kpOf (zbM l n))) (zrowsT 0 1 n) = zrowsT 0 1 n := by
    exact zrowsT_keep fun j hj => szs_zone hlit (by rw [Nat.zero_add]; exact zg.1 j hj) (fun p hp e => by cases hp)
  have k2 : renL (szs 26 (namesOf (lapp [(30, 30, .row (zrowsT 0 1 n) 22 true []), (31, 31, .row (zrowsT 100 1 n) 22 true [])] (zipA pM kPM)) []) (kpOf (zbM l n))) (zrowsT 100 1 n) = zrowsT 100 1 n := by
    exact zrowsT_keep fun j hj => szs_zone hlit (zg.2.1 j hj) (fun p hp e => by cases hp)
  rw [expsR_eq] at ho
  · exact NewOK.abs (t := lfinM l n) (A := lapp [(30, 30, .row (zrowsT 0 1 n) 22 true []), (31, 31, .row (zrowsT 100 1 n) 22 true [])] (zipA pM kPM)) (Z := []) (z := zbM l n)
      ⟨by rw [lmap_app, zipA_B]; rfl, rfl, by show 26 ≤ 1048576; decide, rfl, hlit, by kernel_rfl, by kernel_rfl, (fun p hp => (by cases hp)), List.nodup_nil, zbM_ok hn⟩ rfl rfl rfl rfl ho
  · show _ = [(some (Blk.row (renL _ _) _ _ _), true), (some (Blk.row (renL _ _) _ _ _), true)]
    rw [k1, k2]; rfl
theorem lawLoopM_good {C : Cfg} (G : X.Good C Tryz.prog) (hg : C.gl = fun _ => none) (hm : C.mask 10 = mask 10) (te : TypeId) {l : Nat → Bool} {n : Nat} (hn1 : 1 ≤ n) (hn : n ≤ 60) :
    X.Good (C.addLc 10 11 (lcZ (S0 := Unit) (fun _ => True) (lmap (fun p => p.1) (ls0M te l n).E) (lmap (fun p => p.1) (ls0M te l n).B) (fun _ => ls0M te l n) (fun _ => (.ext 0, lfinM l n)))) Tryz.prog := by
  refine G.addZR good1 (by rw [hg]; rfl) (S := LSM) (LSM.dr l n) (n0 := 26) (ι := fun _ => .l0) (ok := LSM.ok l n) (St := LSM.st te l n) (fun s => (LSM.st te l n s).E) (μ := LSM.mu n) (fin := fun _ => (.ext 0, lfinM l n)) (fuel := F) hm.symm (by rfl) (fun s _ => Pe.refl _) ?_ ?_ (fun g i h => by rw [hg] at h; cases h)
  · intro _ _
    refine ⟨trivial, rfl, rfl, ⟨rfl, by kernel_rfl, by kernel_rfl, fun x k h => by cases h⟩, by show 26 ≤ 1048576; decide, rfl, rfl⟩
  · intro s hs
    rw [hm]
    cases s with
    | l0 =>
      have hc := cntM_le l 0
      have z0 : cntM l 0 = 0 := rfl
      have z1 : cntN l 0 = 0 := rfl
      cases hb : l 0 with
      | false =>
        have q1 : cntM l (0 + 1) = cntM l 0 := by rw [cntM_succ, hb]
        have q2 : cntN l (0 + 1) = cntN l 0 + 1 := by rw [cntN_succ, hb]
        have q3 : valM l 0 = -(cntN l (0 + 1)) := by unfold valM; rw [hb]
        have q1' : cntM l 1 = cntM l 0 := q1
        have q2' : cntN l 1 = cntN l 0 + 1 := q2
        have q3' : valM l 0 = -(cntN l 1) := q3
        refine ⟨?_⟩
        show xcode C1 Tryz.prog F 10 (loopC Tryz.prog 10 11) (mask 10) (tmpsN Tryz.prog 10) (ls0M te l n).env (ls0M te l n).h (cond (l 0) dlM_f1 dlM_f0) _
        rw [hb]
        refine round_use2 good1.spl (fun Kv => lrf0M T.leaf te l n Kv) ?_
        refine bcase_tt (dcq_lt (by simp only [Int.ofNat_eq_natCast]; omega)) (bcase_tt (inB_of (by omega)) (bcase_tt (by show Bool.and (Nat.ble 1 n) true = true; rw [show Nat.ble 1 n = true from Nat.ble_eq_true_of_le hn1]; rfl) (bcase_tt (by rw [hb]; rfl) ?_)))
        intro env h ds ho
        obtain ⟨σ, ab⟩ := laM_f0 te l n hb (row1_eq (by omega)) ho
        exact ⟨.l1 1 0 ((0 - 1)), σ, ⟨Nat.le_refl _, hn1, by omega, by omega⟩, (by show n - 1 < n + 1; omega), rfl, ab⟩
      | true =>
        have q1 : cntM l (0 + 1) = cntM l 0 + 1 := by rw [cntM_succ, hb]
        have q2 : cntN l (0 + 1) = cntN l 0 := by rw [cntN_succ, hb]
        have q3 : valM l 0 = cntM l (0 + 1) := by unfold valM; rw [hb]
        have q1' : cntM l 1 = cntM l 0 + 1 := q1
        have q2' : cntN l 1 = cntN l 0 := q2
        have q3' : valM l 0 = cntM l 1 := q3
        refine ⟨?_⟩
        show xcode C1 Tryz.prog F 10 (loopC Tryz.prog 10 11) (mask 10) (tmpsN Tryz.prog 10) (ls0M te l n).env (ls0M te l n).h (cond (l 0) dlM_f1 dlM_f0) _
        rw [hb]
        refine round_use2 good1.spl (fun Kv => lrf1M T.leaf te l n Kv) ?_
        refine bcase_tt (dcq_lt (by simp only [Int.ofNat_eq_natCast]; omega)) (bcase_tt (inB_of (by omega)) (bcase_tt (by show Bool.and (Nat.ble 1 n) true = true; rw [show Nat.ble 1 n = true from Nat.ble_eq_true_of_le hn1]; rfl) (bcase_tt (by rw [hb]; rfl) ?_)))
        intro env h ds ho
        obtain ⟨σ, ab⟩ := laM_f1 te l n hb (row1_eq (by omega)) ho
        exact ⟨.l1 1 ((0 + 1)) 0, σ, ⟨Nat.le_refl _, hn1, by omega, by omega⟩, (by show n - 1 < n + 1; omega), rfl, ab⟩
    | l1 i u d =>
      obtain ⟨h1, h2, p0, p1⟩ := hs
      have hc := cntM_le l i
      by_cases hlt : i < n
      · have hi60 : i < 60 := by omega
        cases hb : l i with
        | false =>
          have q1 : cntM l (i + 1) = cntM l i := by rw [cntM_succ, hb]
          have q2 : cntN l (i + 1) = cntN l i + 1 := by rw [cntN_succ, hb]
          have q3 : valM l i = -(cntN l (i + 1)) := by unfold valM; rw [hb]
          refine ⟨?_⟩
          show xcode C1 Tryz.prog F 10 (loopC Tryz.prog 10 11) (mask 10) (tmpsN Tryz.prog 10) (lsM te l n i u d).env (lsM te l n i u d).h (cond (Nat.ble (i + 1) n) (cond (l i) dlM_s1 dlM_s0) [false]) _
          rw [ble_t hlt, hb]
          refine round_use2 good1.spl (fun Kv => lrs0M (zbM l i) te l n i u d Kv) ?_
          refine bcase_tt (dcq_lt (by simp only [Int.ofNat_eq_natCast]; omega)) (bcase_tt (inB_of hlt) (bcase_tt (by rw [ix_eq]; show Bool.and (Nat.ble (i + 1) n) true = true; rw [ble_t hlt]; rfl) (bcase_tt (by rw [ix_eq, hb]; rfl) ?_)))
          have leaf : ∀ (env : Env) (h : H) (ds : List Bool), _ → _ := fun env h ds ho => (laM_s0 te l n u d hi60 hb (row1_eq (by first | omega | rfl | (simp only [Int.ofNat_eq_natCast]; omega))) ho).elim fun σ ab => (⟨LSM.l1 (i + 1) u ((d - 1)), σ, ⟨by omega, hlt, by omega, by omega⟩, (by show n - (i + 1) < n - i; omega), rfl, ab⟩ : ∃ s' σ, LSM.ok l n s' ∧ LSM.mu n s' < LSM.mu n (.l1 i u d) ∧ (XE.ext 0, lfinM l n) = (XE.ext 0, lfinM l n) ∧ Abs 26 σ (LSM.st te l n s').env (LSM.st te l n s').h env h)
          exact (bcase_tt (inR_i64 (by omega) (by omega)) (bcase_tt (dcq_cap i) (bcase_tt (appC_ok (by rw [zrowsT_len]) (by omega)) (bcase_any (bcase_tt (dcq_cap i) (bcase_tt (appC_ok (by rw [zrowsT_len]) (by omega)) (bcase_any (bcase_tt (inR_add (by omega)) leaf) (bcase_tt (inR_add (by omega)) leaf)))) (bcase_tt (dcq_cap i) (bcase_tt (appC_ok (by rw [zrowsT_len]) (by omega)) (bcase_any (bcase_tt (inR_add (by omega)) leaf) (bcase_tt (inR_add (by omega)) leaf))))))))
        | true =>
          have q1 : cntM l (i + 1) = cntM l i + 1 := by rw [cntM_succ, hb]
          have q2 : cntN l (i + 1) = cntN l i := by rw [cntN_succ, hb]
          have q3 : valM l i = cntM l (i + 1) := by unfold valM; rw [hb]
          refine ⟨?_⟩
          show xcode C1 Tryz.prog F 10 (loopC Tryz.prog 10 11) (mask 10) (tmpsN Tryz.prog 10) (lsM te l n i u d).env (lsM te l n i u d).h (cond (Nat.ble (i + 1) n) (cond (l i) dlM_s1 dlM_s0) [false]) _
          rw [ble_t hlt, hb]
          refine round_use2 good1.spl (fun Kv => lrs1M (zbM l i) te l n i u d Kv) ?_
          refine bcase_tt (dcq_lt (by simp only [Int.ofNat_eq_natCast]; omega)) (bcase_tt (inB_of hlt) (bcase_tt (by rw [ix_eq]; show Bool.and (Nat.ble (i + 1) n) true = true; rw [ble_t hlt]; rfl) (bcase_tt (by rw [ix_eq, hb]; rfl) ?_)))
          have leaf : ∀ (env : Env) (h : H) (ds : List Bool), _ → _ := fun env h ds ho => (laM_s1 te l n u d hi60 hb (row1_eq (by first | omega | rfl | (simp only [Int.ofNat_eq_natCast]; omega))) ho).elim fun σ ab => (⟨LSM.l1 (i + 1) ((u + 1)) d, σ, ⟨by omega, hlt, by omega, by omega⟩, (by show n - (i + 1) < n - i; omega), rfl, ab⟩ : ∃ s' σ, LSM.ok l n s' ∧ LSM.mu n s' < LSM.mu n (.l1 i u d) ∧ (XE.ext 0, lfinM l n) = (XE.ext 0, lfinM l n) ∧ Abs 26 σ (LSM.st te l n s').env (LSM.st te l n s').h env h)
          exact (bcase_tt (inR_i64 (by omega) (by omega)) (bcase_tt (dcq_cap i) (bcase_tt (appC_ok (by rw [zrowsT_len]) (by omega)) (bcase_any (bcase_tt (dcq_cap i) (bcase_tt (appC_ok (by rw [zrowsT_len]) (by omega)) (bcase_any (bcase_tt (inR_add (by omega)) leaf) (bcase_tt (inR_add (by omega)) leaf)))) (bcase_tt (dcq_cap i) (bcase_tt (appC_ok (by rw [zrowsT_len]) (by omega)) (bcase_any (bcase_tt (inR_add (by omega)) leaf) (bcase_tt (inR_add (by omega)) leaf))))))))
      · have hin : i = n := by omega
        subst hin
        refine ⟨?_⟩
        show xcode C1 Tryz.prog F 10 (loopC Tryz.prog 10 11) (mask 10) (tmpsN Tryz.prog 10) (lsM te l i i u d).env (lsM te l i i u d).h (cond (Nat.ble (i + 1) i) (cond (l i) dlM_s1 dlM_s0) [false]) _
        rw [ble_f (Nat.lt_irrefl i)]
        exact round_use2 good1.spl (fun Kv => lxM (zbM l i) te l i i u d Kv)
          (bcase_tt (dcq_ge (by omega)) (fun env h ds ho => (lawDoneM (te := te) hn ho).elim fun σ ab => ⟨σ, rfl, ab⟩))
end
end Go.Proofs.YtkfhjobebhdpoaaGreat

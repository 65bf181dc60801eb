/- Stream: the loop of StreamResets that builds the ticks, its rounds. -/
import Derived.Test.YtkfhjobebhdpoaaGreatR4
import Derived.Test.YtkfhjobebhdpoaaGreatAl
set_option linter.unusedVariables false
set_option autoImplicit false
set_option maxRecDepth 1000000
set_option maxHeartbeats 2000000
set_option linter.unusedVariables false
namespace Go.Proofs.YtkfhjobebhdpoaaGreat
noncomputable section
open Go.X
def pvR (l : Nat → Bool) : Nat → PV := fun j => .bool (l j)
def baseR (te : TypeId) (l : Nat → Bool) (n : Nat) : List (Nat × Blk) := (0, .pur (pvR l) n te) :: pR
def eLR (n : Nat) (ins want : AV) (c : Int) (i : Nat) : List (Nat × AV) := [(0, .slc 0 0 n n false 1), (4, .ptr 28 0), (5, .bool true), (6, ins), (7, want), (8, .int .i64 c), (9, .int .i64 (Int.ofNat i))]
def w2R (cI cW : List AV) : List (Nat × Blk) := [(30, .row cI 22 true []), (31, .row cW 22 true [])]
def kPR : List Nat := [28, 16, 17, 18, 19, 20, 21, 22, 23, 24, 25, 26, 27]
def kLR : List Nat := [0, 28, 16, 17, 18, 19, 20, 21, 22, 23, 24, 25, 26, 27]
theorem lfR (z : T Blk) (te : TypeId) (l : Nat → Bool) (n : Nat) (Kv : XE → Obs → Prop) : xcode C1 Tryz.prog F 4 (loopC Tryz.prog 4 10) (mask 4) (tmpsN Tryz.prog 4) (mkE (eLR n .nils .nils 0 0)) ⟨mkB z (baseR te l n), 29⟩ [true, false, false, true, true] (fun x env h _ => Kv x (obs [0, 4, 5, 6, 7, 8, 9] (actsOf (lapp [(30, 31, .row (zrowsT 0 1 1) 22 true []), (31, 34, .row (zrowsT 100 2 1) 22 true [])] (zipA (baseR te l n) kLR)) [(0, 29, .row [] 3 true []), (100 + 0, 32, .row [] 3 true [])]) (lapp [(30, 31, .row (zrowsT 0 1 1) 22 true []), (31, 34, .row (zrowsT 100 2 1) 22 true [])] (zipA (baseR te l n) kLR)) [(0, 29, .row [] 3 true []), (100 + 0, 32, .row [] 3 true [])] env h)) = (bcase (dcq true (ltI (Int.ofNat 0) (Int.ofNat n))) (bcase (inB (Int.ofNat 0) n) (bcase (Bool.and (Nat.ble (Nat.succ 0) n) true) (bcase (l 0) (Kv .nrm (expsR 29 (kpOf z) (eLR n (.slc 30 0 1 1 false 1) (.slc 31 0 1 1 false 1) (0 + 1) 1) [(30, 31, .row (zrowsT 0 1 1) 22 true []), (31, 34, .row (zrowsT 100 2 1) 22 true [])] (zipA (baseR te l n) kLR) [(0, 29, .row [.int .i64 1] 3 true []), (100 + 0, 32, .row [.int .i64 0, .int .i64 (Int.ofNat 0)] 3 true [])] z [(some (.row [.slc 29 0 1 1 true 1] 22 true []), true), (some (.row [.slc 32 0 2 2 true 1] 22 true []), true)])) (Kv .nrm (expsR 29 (kpOf z) (eLR n (.slc 30 0 1 1 false 1) (.slc 31 0 1 1 false 1) (0 + 1) 1) [(30, 31, .row (zrowsT 0 1 1) 22 true []), (31, 34, .row (zrowsT 100 2 1) 22 true [])] (zipA (baseR te l n) kLR) [(0, 29, .row [.int .i64 0] 3 true []), (100 + 0, 32, .row [.int .i64 0, .int .i64 (Int.ofNat 0)] 3 true [])] z [(some (.row [.slc 29 0 1 1 true 1] 22 true []), true), (some (.row [.slc 32 0 2 2 true 1] 22 true []), true)]))) False) False) False) := by kernel_rfl
theorem liR (z : T Blk) (te : TypeId) (l : Nat → Bool) (n i : Nat) (c : Int) (Kv : XE → Obs → Prop) : xcode C1 Tryz.prog F 4 (loopC Tryz.prog 4 10) (mask 4) (tmpsN Tryz.prog 4) (mkE (eLR n (.slc 30 0 i i false 1) (.slc 31 0 i i false 1) c i)) ⟨mkB z (lapp (w2R (zrowsT 0 1 i) (zrowsT 100 2 i)) (baseR te l n)), 1048576⟩ [true, false, false, false, false, true, true] (fun x env h _ => Kv x (obs [0, 4, 5, 6, 7, 8, 9] (actsOf (lapp [(30, 1048578, .row (zrowsT 0 1 (i + 1)) 22 true []), (31, 1048581, .row (zrowsT 100 2 (i + 1)) 22 true [])] (zipA (baseR te l n) kLR)) [(i, 1048576, .row [] 3 true []), (100 + i, 1048579, .row [] 3 true [])]) (lapp [(30, 1048578, .row (zrowsT 0 1 (i + 1)) 22 true []), (31, 1048581, .row (zrowsT 100 2 (i + 1)) 22 true [])] (zipA (baseR te l n) kLR)) [(i, 1048576, .row [] 3 true []), (100 + i, 1048579, .row [] 3 true [])] env h)) = (bcase (dcq true (ltI (Int.ofNat i) (Int.ofNat n))) (bcase (inB (Int.ofNat i) n) (bcase (Bool.and (Nat.ble (Nat.succ (Nat.add 0 (Nat.mul (Int.toNat (Int.ofNat i)) 1))) n) true) (bcase (l (Nat.add 0 (Nat.mul (Int.toNat (Int.ofNat i)) 1))) (bcase (dcq false (Nat.ble (Nat.add i 1) i)) (bcase (appC (zrowsT 0 1 i) i) (bcase (Nat.ble (llen (zrowsT 0 1 i)) (Nat.mul i 1)) (bcase (dcq false (Nat.ble (Nat.add i 1) i)) (bcase (appC (zrowsT 100 2 i) i) (bcase (Nat.ble (llen (zrowsT 100 2 i)) (Nat.mul i 1)) (bcase (inR .i64 (Int.ofNat i + Int.ofNat 1)) (Kv .nrm (expsR 29 (kpOf z) (eLR n (.slc 30 0 (i + 1) (i + 1) false 1) (.slc 31 0 (i + 1) (i + 1) false 1) (0 + 1) (i + 1)) [(30, 1048578, .row (zrowsT 0 1 (i + 1)) 22 true []), (31, 1048581, .row (zrowsT 100 2 (i + 1)) 22 true [])] (zipA (baseR te l n) kLR) [(i, 1048576, .row [.int .i64 1] 3 true []), (100 + i, 1048579, .row [.int .i64 0, .int .i64 (Int.ofNat i)] 3 true [])] z [(some (.row (lapp (ltake (ldrop (zrowsT 0 1 i) 0) (Nat.mul i 1)) [.slc 1048576 0 1 1 true 1]) 22 true []), true), (some (.row (lapp (ltake (ldrop (zrowsT 100 2 i) 0) (Nat.mul i 1)) [.slc 1048579 0 2 2 true 1]) 22 true []), true)])) False) (bcase (inR .i64 (Int.ofNat i + Int.ofNat 1)) (Kv .nrm (expsR 29 (kpOf z) (eLR n (.slc 30 0 (i + 1) (i + 1) false 1) (.slc 31 0 (i + 1) (i + 1) false 1) (0 + 1) (i + 1)) [(30, 1048578, .row (zrowsT 0 1 (i + 1)) 22 true []), (31, 1048581, .row (zrowsT 100 2 (i + 1)) 22 true [])] (zipA (baseR te l n) kLR) [(i, 1048576, .row [.int .i64 1] 3 true []), (100 + i, 1048579, .row [.int .i64 0, .int .i64 (Int.ofNat i)] 3 true [])] z [(some (.row (lapp (ltake (ldrop (zrowsT 0 1 i) 0) (Nat.mul i 1)) [.slc 1048576 0 1 1 true 1]) 22 true []), true), (some (.row (lapp (ltake (ldrop (zrowsT 100 2 i) 0) (Nat.mul i 1)) [.slc 1048579 0 2 2 true 1]) 22 true []), true)])) False)) False) False) (bcase (dcq false (Nat.ble (Nat.add i 1) i)) (bcase (appC (zrowsT 100 2 i) i) (bcase (Nat.ble (llen (zrowsT 100 2 i)) (Nat.mul i 1)) (bcase (inR .i64 (Int.ofNat i + Int.ofNat 1)) (Kv .nrm (expsR 29 (kpOf z) (eLR n (.slc 30 0 (i + 1) (i + 1) false 1) (.slc 31 0 (i + 1) (i + 1) false 1) (0 + 1) (i + 1)) [(30, 1048578, .row (zrowsT 0 1 (i + 1)) 22 true []), (31, 1048581, .row (zrowsT 100 2 (i + 1)) 22 true [])] (zipA (baseR te l n) kLR) [(i, 1048576, .row [.int .i64 1] 3 true []), (100 + i, 1048579, .row [.int .i64 0, .int .i64 (Int.ofNat i)] 3 true [])] z [(some (.row (lapp (ltake (ldrop (zrowsT 0 1 i) 0) (Nat.mul i 1)) [.slc 1048576 0 1 1 true 1]) 22 true []), true), (some (.row (lapp (ltake (ldrop (zrowsT 100 2 i) 0) (Nat.mul i 1)) [.slc 1048579 0 2 2 true 1]) 22 true []), true)])) False) (bcase (inR .i64 (Int.ofNat i + Int.ofNat 1)) (Kv .nrm (expsR 29 (kpOf z) (eLR n (.slc 30 0 (i + 1) (i + 1) false 1) (.slc 31 0 (i + 1) (i + 1) false 1) (0 + 1) (i + 1)) [(30, 1048578, .row (zrowsT 0 1 (i + 1)) 22 true []), (31, 1048581, .row (zrowsT 100 2 (i + 1)) 22 true [])] (zipA (baseR te l n) kLR) [(i, 1048576, .row [.int .i64 1] 3 true []), (100 + i, 1048579, .row [.int .i64 0, .int .i64 (Int.ofNat i)] 3 true [])] z [(some (.row (lapp (ltake (ldrop (zrowsT 0 1 i) 0) (Nat.mul i 1)) [.slc 1048576 0 1 1 true 1]) 22 true []), true), (some (.row (lapp (ltake (ldrop (zrowsT 100 2 i) 0) (Nat.mul i 1)) [.slc 1048579 0 2 2 true 1]) 22 true []), true)])) False)) False) False)) False) False) (bcase (dcq false (Nat.ble (Nat.add i 1) i)) (bcase (appC (zrowsT 0 1 i) i) (bcase (Nat.ble (llen (zrowsT 0 1 i)) (Nat.mul i 1)) (bcase (dcq false (Nat.ble (Nat.add i 1) i)) (bcase (appC (zrowsT 100 2 i) i) (bcase (Nat.ble (llen (zrowsT 100 2 i)) (Nat.mul i 1)) (bcase (inR .i64 (c + 1)) (bcase (inR .i64 (Int.ofNat i + Int.ofNat 1)) (Kv .nrm (expsR 29 (kpOf z) (eLR n (.slc 30 0 (i + 1) (i + 1) false 1) (.slc 31 0 (i + 1) (i + 1) false 1) (c + 1) (i + 1)) [(30, 1048578, .row (zrowsT 0 1 (i + 1)) 22 true []), (31, 1048581, .row (zrowsT 100 2 (i + 1)) 22 true [])] (zipA (baseR te l n) kLR) [(i, 1048576, .row [.int .i64 0] 3 true []), (100 + i, 1048579, .row [.int .i64 c, .int .i64 (Int.ofNat i)] 3 true [])] z [(some (.row (lapp (ltake (ldrop (zrowsT 0 1 i) 0) (Nat.mul i 1)) [.slc 1048576 0 1 1 true 1]) 22 true []), true), (some (.row (lapp (ltake (ldrop (zrowsT 100 2 i) 0) (Nat.mul i 1)) [.slc 1048579 0 2 2 true 1]) 22 true []), true)])) False) False) (bcase (inR .i64 (c + 1)) (bcase (inR .i64 (Int.ofNat i + Int.ofNat 1)) (Kv .nrm (expsR 29 (kpOf z) (eLR n (.slc 30 0 (i + 1) (i + 1) false 1) (.slc 31 0 (i + 1) (i + 1) false 1) (c + 1) (i + 1)) [(30, 1048578, .row (zrowsT 0 1 (i + 1)) 22 true []), (31, 1048581, .row (zrowsT 100 2 (i + 1)) 22 true [])] (zipA (baseR te l n) kLR) [(i, 1048576, .row [.int .i64 0] 3 true []), (100 + i, 1048579, .row [.int .i64 c, .int .i64 (Int.ofNat i)] 3 true [])] z [(some (.row (lapp (ltake (ldrop (zrowsT 0 1 i) 0) (Nat.mul i 1)) [.slc 1048576 0 1 1 true 1]) 22 true []), true), (some (.row (lapp (ltake (ldrop (zrowsT 100 2 i) 0) (Nat.mul i 1)) [.slc 1048579 0 2 2 true 1]) 22 true []), true)])) False) False)) False) False) (bcase (dcq false (Nat.ble (Nat.add i 1) i)) (bcase (appC (zrowsT 100 2 i) i) (bcase (Nat.ble (llen (zrowsT 100 2 i)) (Nat.mul i 1)) (bcase (inR .i64 (c + 1)) (bcase (inR .i64 (Int.ofNat i + Int.ofNat 1)) (Kv .nrm (expsR 29 (kpOf z) (eLR n (.slc 30 0 (i + 1) (i + 1) false 1) (.slc 31 0 (i + 1) (i + 1) false 1) (c + 1) (i + 1)) [(30, 1048578, .row (zrowsT 0 1 (i + 1)) 22 true []), (31, 1048581, .row (zrowsT 100 2 (i + 1)) 22 true [])] (zipA (baseR te l n) kLR) [(i, 1048576, .row [.int .i64 0] 3 true []), (100 + i, 1048579, .row [.int .i64 c, .int .i64 (Int.ofNat i)] 3 true [])] z [(some (.row (lapp (ltake (ldrop (zrowsT 0 1 i) 0) (Nat.mul i 1)) [.slc 1048576 0 1 1 true 1]) 22 true []), true), (some (.row (lapp (ltake (ldrop (zrowsT 100 2 i) 0) (Nat.mul i 1)) [.slc 1048579 0 2 2 true 1]) 22 true []), true)])) False) False) (bcase (inR .i64 (c + 1)) (bcase (inR .i64 (Int.ofNat i + Int.ofNat 1)) (Kv .nrm (expsR 29 (kpOf z) (eLR n (.slc 30 0 (i + 1) (i + 1) false 1) (.slc 31 0 (i + 1) (i + 1) false 1) (c + 1) (i + 1)) [(30, 1048578, .row (zrowsT 0 1 (i + 1)) 22 true []), (31, 1048581, .row (zrowsT 100 2 (i + 1)) 22 true [])] (zipA (baseR te l n) kLR) [(i, 1048576, .row [.int .i64 0] 3 true []), (100 + i, 1048579, .row [.int .i64 c, .int .i64 (Int.ofNat i)] 3 true [])] z [(some (.row (lapp (ltake (ldrop (zrowsT 0 1 i) 0) (Nat.mul i 1)) [.slc 1048576 0 1 1 true 1]) 22 true []), true), (some (.row (lapp (ltake (ldrop (zrowsT 100 2 i) 0) (Nat.mul i 1)) [.slc 1048579 0 2 2 true 1]) 22 true []), true)])) False) False)) False) False)) False) False)) False) False) False) := by kernel_rfl
theorem lxR (z : T Blk) (te : TypeId) (l : Nat → Bool) (n i : Nat) (c : Int) (Kv : XE → Obs → Prop) : xcode C1 Tryz.prog F 4 (loopC Tryz.prog 4 10) (mask 4) (tmpsN Tryz.prog 4) (mkE (eLR n (.slc 30 0 i i false 1) (.slc 31 0 i i false 1) c i)) ⟨mkB z (lapp (w2R (zrowsT 0 1 i) (zrowsT 100 2 i)) (baseR te l n)), 1048576⟩ [false] (fun x env h _ => Kv x (obs [4, 5, 6, 7] (actsOf (lapp [(30, 30, .row (zrowsT 0 1 i) 22 true []), (31, 31, .row (zrowsT 100 2 i) 22 true [])] (zipA pR kPR)) []) (lapp [(30, 30, .row (zrowsT 0 1 i) 22 true []), (31, 31, .row (zrowsT 100 2 i) 22 true [])] (zipA pR kPR)) [] env h)) = (bcase (dcq false (ltI (Int.ofNat i) (Int.ofNat n))) (Kv (.ext 0) (expsR 29 (kpOf z) [(4, .ptr 28 0), (5, .bool true), (6, .slc 30 0 i i false 1), (7, .slc 31 0 i i false 1)] [(30, 30, .row (zrowsT 0 1 i) 22 true []), (31, 31, .row (zrowsT 100 2 i) 22 true [])] (zipA pR kPR) [] z [(some (.row (zrowsT 0 1 i) 22 true []), true), (some (.row (zrowsT 100 2 i) 22 true []), true)])) False) := by kernel_rfl
end
end Go.Proofs.YtkfhjobebhdpoaaGreat
/- Stream: the loop of StreamResets that builds the ticks, as a contract. -/
set_option autoImplicit false
set_option maxRecDepth 1000000
set_option maxHeartbeats 2000000
set_option linter.unusedVariables false
namespace Go.Proofs.YtkfhjobebhdpoaaGreat
noncomputable section
open Go.X
/-- the zone as far as round i -/
def zbR (l : Nat → Bool) (i : Nat) : T Blk := Nat.rec T.leaf (fun j ih => T.set (T.set ih (outR l j) (100 + j)) (inRowR l j) j) i
theorem zbR_succ (l : Nat → Bool) (i : Nat) : zbR l (i + 1) = T.set (T.set (zbR l i) (outR l i) (100 + i)) (inRowR l i) i := rfl
theorem zbR_get (l : Nat → Bool) : ∀ i, i ≤ 60 → (∀ j, j < i → (zbR l i).get j = some (inRowR l j)) ∧ (∀ j, j < i → (zbR l i).get (100 + j) = some (outR l j)) ∧ (∀ x k, (zbR l i).get x = some k → x < 200 ∧ IntRow k)
  | 0, _ => ⟨fun j h => by omega, fun j h => by omega, fun x k h => by cases h⟩
  | i + 1, hi => by
    obtain ⟨h1, h2, h3⟩ := zbR_get l i (by omega)
    rw [zbR_succ]
    refine ⟨fun j hj => ?_, fun j hj => ?_, fun x k h => ?_⟩
    · by_cases e : j = i
      · subst e; exact T.get_set_same _ _
      · rw [T.get_set_other _ _ _ e, T.get_set_other _ _ _ (by omega)]; exact h1 j (by omega)
    · by_cases e : j = i
      · subst e; rw [T.get_set_other _ _ _ (by omega)]; exact T.get_set_same _ _
      · rw [T.get_set_other _ _ _ (by omega), T.get_set_other _ _ _ (by omega)]; exact h2 j (by omega)
    · rcases T.get_set h with ⟨rfl, rfl⟩ | ⟨_, h⟩
      · exact ⟨by omega, [bi (l x)], 3, true, rfl⟩
      · rcases T.get_set h with ⟨rfl, rfl⟩ | ⟨_, h⟩
        · exact ⟨by omega, outR_int l i⟩
        · exact h3 x k h
theorem zbR_in {l : Nat → Bool} {n : Nat} (hn : n ≤ 60) : ZinR l n (zbR l n) := ⟨(zbR_get l n hn).1, (zbR_get l n hn).2.1, (zbR_get l n hn).2.2⟩
theorem zbR_ok {l : Nat → Bool} {i : Nat} (hi : i ≤ 60) : ZoneOK (zbR l i) 1048576 := fun x k h => by
  obtain ⟨a, b⟩ := (zbR_get l i hi).2.2 x k h
  exact ⟨b, by rw [zn_eq]; omega, by rw [zn_eq]; show _ < 1000000000000; omega⟩
def lsR (te : TypeId) (l : Nat → Bool) (n i : Nat) (c : Int) : ZS := ⟨eLR n (.slc 30 0 i i false 1) (.slc 31 0 i i false 1) c i, lapp (w2R (zrowsT 0 1 i) (zrowsT 100 2 i)) (baseR te l n), zbR l i, 1048576⟩
def ls0R (te : TypeId) (l : Nat → Bool) (n : Nat) : ZS := ⟨eLR n .nils .nils 0 0, baseR te l n, T.leaf, 29⟩
def lfinR (l : Nat → Bool) (n : Nat) : ZS := ⟨[(4, .ptr 28 0), (5, .bool true), (6, .slc 30 0 n n false 1), (7, .slc 31 0 n n false 1)], lapp (w2R (zrowsT 0 1 n) (zrowsT 100 2 n)) pR, zbR l n, 1048576⟩
theorem laR_f1 (te : TypeId) (l : Nat → Bool) (n : Nat) (hb : l 0 = true) {env : Env} {h : H}
    (ho : obs [0, 4, 5, 6, 7, 8, 9] (actsOf (lapp [(30, 31, .row (zrowsT 0 1 1) 22 true []), (31, 34, .row (zrowsT 100 2 1) 22 true [])] (zipA (baseR te l n) kLR)) [(0, 29, .row [] 3 true []), (100 + 0, 32, .row [] 3 true [])]) (lapp [(30, 31, .row (zrowsT 0 1 1) 22 true []), (31, 34, .row (zrowsT 100 2 1) 22 true [])] (zipA (baseR te l n) kLR)) [(0, 29, .row [] 3 true []), (100 + 0, 32, .row [] 3 true [])] env h = expsR 29 (kpOf T.leaf) (eLR n (.slc 30 0 1 1 false 1) (.slc 31 0 1 1 false 1) (0 + 1) 1) [(30, 31, .row (zrowsT 0 1 1) 22 true []), (31, 34, .row (zrowsT 100 2 1) 22 true [])] (zipA (baseR te l n) kLR) [(0, 29, .row [.int .i64 1] 3 true []), (100 + 0, 32, .row [.int .i64 0, .int .i64 (Int.ofNat 0)] 3 true [])] T.leaf [(some (.row [.slc 29 0 1 1 true 1] 22 true []), true), (some (.row [.slc 32 0 2 2 true 1] 22 true []), true)]) : ∃ σ, Abs 29 σ (lsR te l n 1 (0 + 1)).env (lsR te l n 1 (0 + 1)).h env h := by
  have e1 : Blk.row [.int .i64 1] 3 true [] = inRowR l 0 := by unfold inRowR; rw [hb]; rfl
  have e2 : Blk.row [.int .i64 0, .int .i64 (Int.ofNat 0)] 3 true [] = outR l 0 := by
    show _ = rowR _
    unfold cvR; rw [hb]; rfl
  have hlit : okLit 29 1048576 (lapp [(30, 31, .row (zrowsT 0 1 1) 22 true []), (31, 34, .row (zrowsT 100 2 1) 22 true [])] (zipA (baseR te l n) kLR)) = true := okLit_row rfl (belL_slc _ (fun j => zn (0 + j)) _ _ _ fun j hj => by have := List.mem_range.1 hj; rw [zn_eq]; omega) (okLit_row rfl (belL_slc _ (fun j => zn (100 + j)) _ _ _ fun j hj => by have := List.mem_range.1 hj; rw [zn_eq]; omega) (by kernel_rfl))
  have hnd : (([(0, 29, .row [.int .i64 1] 3 true []), (100 + 0, 32, .row [.int .i64 0, .int .i64 (Int.ofNat 0)] 3 true [])] : List (Nat × Nat × Blk)).map (·.1)).Nodup := by
    show [0, 100 + 0].Nodup
    refine List.nodup_cons.2 ⟨fun h => ?_, List.nodup_cons.2 ⟨fun h => (by cases h), List.nodup_nil⟩⟩
    have := List.mem_singleton.1 h; omega
  rw [expsR_eq] at ho
  · refine NewOK.abs (t := lsR te l n 1 (0 + 1)) (A := lapp [(30, 31, .row (zrowsT 0 1 1) 22 true []), (31, 34, .row (zrowsT 100 2 1) 22 true [])] (zipA (baseR te l n) kLR)) (Z := [(0, 29, .row [.int .i64 1] 3 true []), (100 + 0, 32, .row [.int .i64 0, .int .i64 (Int.ofNat 0)] 3 true [])]) (z := T.leaf)
      ⟨by rw [lmap_app, zipA_B]; rfl, ?_, by show 29 ≤ 1048576; decide, by kernel_rfl, hlit, by kernel_rfl, by kernel_rfl, fun p hp => ?_, hnd, fun x k h => by cases h⟩ rfl rfl rfl rfl ho
    · show T.set (T.set T.leaf (outR l 0) (100 + 0)) (inRowR l 0) 0 = T.set (T.set T.leaf _ (100 + 0)) _ 0
      rw [← e1, ← e2]
    · rcases List.mem_cons.1 hp with rfl | hp
      · exact ⟨by show 29 ≤ zn 0; rw [zn_eq]; omega, by show zn 0 < 1048576; rw [zn_eq]; omega, by show 29 ≤ 29; decide, by show 29 < 1000000000000; decide, by show 29 % 4096 ≠ 4095; decide, [1], 3, true, rfl⟩
      · rw [List.mem_singleton.1 hp]
        exact ⟨by show 29 ≤ zn (100 + 0); rw [zn_eq]; omega, by show zn (100 + 0) < 1048576; rw [zn_eq]; omega, by show 29 ≤ 32; decide, by show 32 < 1000000000000; decide, by show 32 % 4096 ≠ 4095; decide, [0, Int.ofNat 0], 3, true, rfl⟩
  · have q1 : [.slc 29 0 1 1 true 1] = renL (szs 29 (namesOf (lapp [(30, 31, .row (zrowsT 0 1 1) 22 true []), (31, 34, .row (zrowsT 100 2 1) 22 true [])] (zipA (baseR te l n) kLR)) [(0, 29, .row [.int .i64 1] 3 true []), (100 + 0, 32, .row [.int .i64 0, .int .i64 (Int.ofNat 0)] 3 true [])]) (kpOf T.leaf)) (zrowsT 0 1 1) := by
      refine zrowsT_grow (i := 0) (fun j hj => ?_) (szs_row (x := 0 + 0) hlit (by show 29 ≤ zn (0 + 0); rw [zn_eq]; omega) (by rw [Nat.zero_add]; exact List.mem_cons_self ..) hnd)
      omega
    have q2 : [.slc 32 0 2 2 true 1] = renL (szs 29 (namesOf (lapp [(30, 31, .row (zrowsT 0 1 1) 22 true []), (31, 34, .row (zrowsT 100 2 1) 22 true [])] (zipA (baseR te l n) kLR)) [(0, 29, .row [.int .i64 1] 3 true []), (100 + 0, 32, .row [.int .i64 0, .int .i64 (Int.ofNat 0)] 3 true [])]) (kpOf T.leaf)) (zrowsT 100 2 1) := by
      refine zrowsT_grow (i := 0) (fun j hj => ?_) (szs_row (x := 100 + 0) hlit (by show 29 ≤ zn (100 + 0); rw [zn_eq]; omega) (List.mem_cons_of_mem _ (List.mem_singleton.2 rfl)) hnd)
      omega
    show [(some (Blk.row _ _ _ _), true), (some (Blk.row _ _ _ _), true)] = [(some (Blk.row (renL _ _) _ _ _), true), (some (Blk.row (renL _ _) _ _ _), true)]
    rw [← q1, ← q2]; rfl
theorem laR_f0 (te : TypeId) (l : Nat → Bool) (n : Nat) (hb : l 0 = false) {env : Env} {h : H}
    (ho : obs [0, 4, 5, 6, 7, 8, 9] (actsOf (lapp [(30, 31, .row (zrowsT 0 1 1) 22 true []), (31, 34, .row (zrowsT 100 2 1) 22 true [])] (zipA (baseR te l n) kLR)) [(0, 29, .row [] 3 true []), (100 + 0, 32, .row [] 3 true [])]) (lapp [(30, 31, .row (zrowsT 0 1 1) 22 true []), (31, 34, .row (zrowsT 100 2 1) 22 true [])] (zipA (baseR te l n) kLR)) [(0, 29, .row [] 3 true []), (100 + 0, 32, .row [] 3 true [])] env h = expsR 29 (kpOf T.leaf) (eLR n (.slc 30 0 1 1 false 1) (.slc 31 0 1 1 false 1) (0 + 1) 1) [(30, 31, .row (zrowsT 0 1 1) 22 true []), (31, 34, .row (zrowsT 100 2 1) 22 true [])] (zipA (baseR te l n) kLR) [(0, 29, .row [.int .i64 0] 3 true []), (100 + 0, 32, .row [.int .i64 0, .int .i64 (Int.ofNat 0)] 3 true [])] T.leaf [(some (.row [.slc 29 0 1 1 true 1] 22 true []), true), (some (.row [.slc 32 0 2 2 true 1] 22 true []), true)]) : ∃ σ, Abs 29 σ (lsR te l n 1 (0 + 1)).env (lsR te l n 1 (0 + 1)).h env h := by
  have e1 : Blk.row [.int .i64 0] 3 true [] = inRowR l 0 := by unfold inRowR; rw [hb]; rfl
  have e2 : Blk.row [.int .i64 0, .int .i64 (Int.ofNat 0)] 3 true [] = outR l 0 := by
    show _ = rowR _
    unfold cvR; rw [hb]; rfl
  have hlit : okLit 29 1048576 (lapp [(30, 31, .row (zrowsT 0 1 1) 22 true []), (31, 34, .row (zrowsT 100 2 1) 22 true [])] (zipA (baseR te l n) kLR)) = true := okLit_row rfl (belL_slc _ (fun j => zn (0 + j)) _ _ _ fun j hj => by have := List.mem_range.1 hj; rw [zn_eq]; omega) (okLit_row rfl (belL_slc _ (fun j => zn (100 + j)) _ _ _ fun j hj => by have := List.mem_range.1 hj; rw [zn_eq]; omega) (by kernel_rfl))
  have hnd : (([(0, 29, .row [.int .i64 0] 3 true []), (100 + 0, 32, .row [.int .i64 0, .int .i64 (Int.ofNat 0)] 3 true [])] : List (Nat × Nat × Blk)).map (·.1)).Nodup := by
    show [0, 100 + 0].Nodup
    refine List.nodup_cons.2 ⟨fun h => ?_, List.nodup_cons.2 ⟨fun h => (by cases h), List.nodup_nil⟩⟩
    have := List.mem_singleton.1 h; omega
  rw [expsR_eq] at ho
  · refine NewOK.abs (t := lsR te l n 1 (0 + 1)) (A := lapp [(30, 31, .row (zrowsT 0 1 1) 22 true []), (31, 34, .row (zrowsT 100 2 1) 22 true [])] (zipA (baseR te l n) kLR)) (Z := [(0, 29, .row [.int .i64 0] 3 true []), (100 + 0, 32, .row [.int .i64 0, .int .i64 (Int.ofNat 0)] 3 true [])]) (z := T.leaf)
      ⟨by rw [lmap_app, zipA_B]; rfl, ?_, by show 29 ≤ 1048576; decide, by kernel_rfl, hlit, by kernel_rfl, by kernel_rfl, fun p hp => ?_, hnd, fun x k h => by cases h⟩ rfl rfl rfl rfl ho
    · show T.set (T.set T.leaf (outR l 0) (100 + 0)) (inRowR l 0) 0 = T.set (T.set T.leaf _ (100 + 0)) _ 0
      rw [← e1, ← e2]
    · rcases List.mem_cons.1 hp with rfl | hp
      · exact ⟨by show 29 ≤ zn 0; rw [zn_eq]; omega, by show zn 0 < 1048576; rw [zn_eq]; omega, by show 29 ≤ 29; decide, by show 29 < 1000000000000; decide, by show 29 % 4096 ≠ 4095; decide, [0], 3, true, rfl⟩
      · rw [List.mem_singleton.1 hp]
        exact ⟨by show 29 ≤ zn (100 + 0); rw [zn_eq]; omega, by show zn (100 + 0) < 1048576; rw [zn_eq]; omega, by show 29 ≤ 32; decide, by show 32 < 1000000000000; decide, by show 32 % 4096 ≠ 4095; decide, [0, Int.ofNat 0], 3, true, rfl⟩
  · have q1 : [.slc 29 0 1 1 true 1] = renL (szs 29 (namesOf (lapp [(30, 31, .row (zrowsT 0 1 1) 22 true []), (31, 34, .row (zrowsT 100 2 1) 22 true [])] (zipA (baseR te l n) kLR)) [(0, 29, .row [.int .i64 0] 3 true []), (100 + 0, 32, .row [.int .i64 0, .int .i64 (Int.ofNat 0)] 3 true [])]) (kpOf T.leaf)) (zrowsT 0 1 1) := by
      refine zrowsT_grow (i := 0) (fun j hj => ?_) (szs_row (x := 0 + 0) hlit (by show 29 ≤ zn (0 + 0); rw [zn_eq]; omega) (by rw [Nat.zero_add]; exact List.mem_cons_self ..) hnd)
      omega
    have q2 : [.slc 32 0 2 2 true 1] = renL (szs 29 (namesOf (lapp [(30, 31, .row (zrowsT 0 1 1) 22 true []), (31, 34, .row (zrowsT 100 2 1) 22 true [])] (zipA (baseR te l n) kLR)) [(0, 29, .row [.int .i64 0] 3 true []), (100 + 0, 32, .row [.int .i64 0, .int .i64 (Int.ofNat 0)] 3 true [])]) (kpOf T.leaf)) (zrowsT 100 2 1) := by
      refine zrowsT_grow (i := 0) (fun j hj => ?_) (szs_row (x := 100 + 0) hlit (by show 29 ≤ zn (100 + 0); rw [zn_eq]; omega) (List.mem_cons_of_mem _ (List.mem_singleton.2 rfl)) hnd)
      omega
    show [(some (Blk.row _ _ _ _), true), (some (Blk.row _ _ _ _), true)] = [(some (Blk.row (renL _ _) _ _ _), true), (some (Blk.row (renL _ _) _ _ _), true)]
    rw [← q1, ← q2]; rfl
theorem laR_s1 (te : TypeId) (l : Nat → Bool) (n : Nat) {i : Nat} (c : Int) (hi : i < 60) (hb : l i = true) (hc : c = cntR l i) {env : Env} {h : H}
    (ho : obs [0, 4, 5, 6, 7, 8, 9] (actsOf (lapp [(30, 1048578, .row (zrowsT 0 1 (i + 1)) 22 true []), (31, 1048581, .row (zrowsT 100 2 (i + 1)) 22 true [])] (zipA (baseR te l n) kLR)) [(i, 1048576, .row [] 3 true []), (100 + i, 1048579, .row [] 3 true [])]) (lapp [(30, 1048578, .row (zrowsT 0 1 (i + 1)) 22 true []), (31, 1048581, .row (zrowsT 100 2 (i + 1)) 22 true [])] (zipA (baseR te l n) kLR)) [(i, 1048576, .row [] 3 true []), (100 + i, 1048579, .row [] 3 true [])] env h = expsR 29 (kpOf (zbR l i)) (eLR n (.slc 30 0 (i + 1) (i + 1) false 1) (.slc 31 0 (i + 1) (i + 1) false 1) (0 + 1) (i + 1)) [(30, 1048578, .row (zrowsT 0 1 (i + 1)) 22 true []), (31, 1048581, .row (zrowsT 100 2 (i + 1)) 22 true [])] (zipA (baseR te l n) kLR) [(i, 1048576, .row [.int .i64 1] 3 true []), (100 + i, 1048579, .row [.int .i64 0, .int .i64 (Int.ofNat i)] 3 true [])] (zbR l i) [(some (.row (lapp (ltake (ldrop (zrowsT 0 1 i) 0) (Nat.mul i 1)) [.slc 1048576 0 1 1 true 1]) 22 true []), true), (some (.row (lapp (ltake (ldrop (zrowsT 100 2 i) 0) (Nat.mul i 1)) [.slc 1048579 0 2 2 true 1]) 22 true []), true)]) : ∃ σ, Abs 29 σ (lsR te l n (i + 1) (0 + 1)).env (lsR te l n (i + 1) (0 + 1)).h env h := by
  have e1 : Blk.row [.int .i64 1] 3 true [] = inRowR l i := by unfold inRowR; rw [hb]; rfl
  have e2 : Blk.row [.int .i64 0, .int .i64 (Int.ofNat i)] 3 true [] = outR l i := by
    show _ = rowR _
    unfold cvR; rw [hb]; rfl
  have hlit : okLit 29 1048576 (lapp [(30, 1048578, .row (zrowsT 0 1 (i + 1)) 22 true []), (31, 1048581, .row (zrowsT 100 2 (i + 1)) 22 true [])] (zipA (baseR te l n) kLR)) = true := okLit_row rfl (belL_slc _ (fun j => zn (0 + j)) _ _ _ fun j hj => by have := List.mem_range.1 hj; rw [zn_eq]; omega) (okLit_row rfl (belL_slc _ (fun j => zn (100 + j)) _ _ _ fun j hj => by have := List.mem_range.1 hj; rw [zn_eq]; omega) (by kernel_rfl))
  have hnd : (([(i, 1048576, .row [.int .i64 1] 3 true []), (100 + i, 1048579, .row [.int .i64 0, .int .i64 (Int.ofNat i)] 3 true [])] : List (Nat × Nat × Blk)).map (·.1)).Nodup := by
    show [i, 100 + i].Nodup
    refine List.nodup_cons.2 ⟨fun h => ?_, List.nodup_cons.2 ⟨fun h => (by cases h), List.nodup_nil⟩⟩
    have := List.mem_singleton.1 h; omega
  rw [expsR_eq] at ho
  · refine NewOK.abs (t := lsR te l n (i + 1) (0 + 1)) (A := lapp [(30, 1048578, .row (zrowsT 0 1 (i + 1)) 22 true []), (31, 1048581, .row (zrowsT 100 2 (i + 1)) 22 true [])] (zipA (baseR te l n) kLR)) (Z := [(i, 1048576, .row [.int .i64 1] 3 true []), (100 + i, 1048579, .row [.int .i64 0, .int .i64 (Int.ofNat i)] 3 true [])]) (z := (zbR l i))
      ⟨by rw [lmap_app, zipA_B]; rfl, ?_, by show 29 ≤ 1048576; decide, by kernel_rfl, hlit, by kernel_rfl, by kernel_rfl, fun p hp => ?_, hnd, zbR_ok (by omega)⟩ rfl rfl rfl rfl ho
    · show T.set (T.set (zbR l i) (outR l i) (100 + i)) (inRowR l i) i = T.set (T.set (zbR l i) _ (100 + i)) _ i
      rw [← e1, ← e2]
    · rcases List.mem_cons.1 hp with rfl | hp
      · exact ⟨by show 29 ≤ zn i; rw [zn_eq]; omega, by show zn i < 1048576; rw [zn_eq]; omega, by show 29 ≤ 1048576; decide, by show 1048576 < 1000000000000; decide, by show 1048576 % 4096 ≠ 4095; decide, [1], 3, true, rfl⟩
      · rw [List.mem_singleton.1 hp]
        exact ⟨by show 29 ≤ zn (100 + i); rw [zn_eq]; omega, by show zn (100 + i) < 1048576; rw [zn_eq]; omega, by show 29 ≤ 1048579; decide, by show 1048579 < 1000000000000; decide, by show 1048579 % 4096 ≠ 4095; decide, [0, Int.ofNat i], 3, true, rfl⟩
  · have q1 : (lapp (ltake (ldrop (zrowsT 0 1 i) 0) (Nat.mul i 1)) [.slc 1048576 0 1 1 true 1]) = renL (szs 29 (namesOf (lapp [(30, 1048578, .row (zrowsT 0 1 (i + 1)) 22 true []), (31, 1048581, .row (zrowsT 100 2 (i + 1)) 22 true [])] (zipA (baseR te l n) kLR)) [(i, 1048576, .row [.int .i64 1] 3 true []), (100 + i, 1048579, .row [.int .i64 0, .int .i64 (Int.ofNat i)] 3 true [])]) (kpOf (zbR l i))) (zrowsT 0 1 (i + 1)) := by
      refine zrowsT_grow (i := i) (fun j hj => ?_) (szs_row (x := 0 + i) hlit (by show 29 ≤ zn (0 + i); rw [zn_eq]; omega) (by rw [Nat.zero_add]; exact List.mem_cons_self ..) hnd)
      exact szs_zone hlit (by rw [Nat.zero_add]; exact (zbR_get l i (by omega)).1 j hj) (fun p hp e => by rcases List.mem_cons.1 hp with rfl | hp; (have e : i = 0 + j := e; omega); rw [List.mem_singleton.1 hp] at e; have e : 100 + i = 0 + j := e; omega)
    have q2 : (lapp (ltake (ldrop (zrowsT 100 2 i) 0) (Nat.mul i 1)) [.slc 1048579 0 2 2 true 1]) = renL (szs 29 (namesOf (lapp [(30, 1048578, .row (zrowsT 0 1 (i + 1)) 22 true []), (31, 1048581, .row (zrowsT 100 2 (i + 1)) 22 true [])] (zipA (baseR te l n) kLR)) [(i, 1048576, .row [.int .i64 1] 3 true []), (100 + i, 1048579, .row [.int .i64 0, .int .i64 (Int.ofNat i)] 3 true [])]) (kpOf (zbR l i))) (zrowsT 100 2 (i + 1)) := by
      refine zrowsT_grow (i := i) (fun j hj => ?_) (szs_row (x := 100 + i) hlit (by show 29 ≤ zn (100 + i); rw [zn_eq]; omega) (List.mem_cons_of_mem _ (List.mem_singleton.2 rfl)) hnd)
      exact szs_zone hlit ((zbR_get l i (by omega)).2.1 j hj) (fun p hp e => by rcases List.mem_cons.1 hp with rfl | hp; (have e : i = 100 + j := e; omega); rw [List.mem_singleton.1 hp] at e; have e : 100 + i = 100 + j := e; omega)
    show [(some (Blk.row _ _ _ _), true), (some (Blk.row _ _ _ _), true)] = [(some (Blk.row (renL _ _) _ _ _), true), (some (Blk.row (renL _ _) _ _ _), true)]
    rw [← q1, ← q2]; rfl
theorem laR_s0 (te : TypeId) (l : Nat → Bool) (n : Nat) {i : Nat} (c : Int) (hi : i < 60) (hb : l i = false) (hc : c = cntR l i) {env : Env} {h : H}
    (ho : obs [0, 4, 5, 6, 7, 8, 9] (actsOf (lapp [(30, 1048578, .row (zrowsT 0 1 (i + 1)) 22 true []), (31, 1048581, .row (zrowsT 100 2 (i + 1)) 22 true [])] (zipA (baseR te l n) kLR)) [(i, 1048576, .row [] 3 true []), (100 + i, 1048579, .row [] 3 true [])]) (lapp [(30, 1048578, .row (zrowsT 0 1 (i + 1)) 22 true []), (31, 1048581, .row (zrowsT 100 2 (i + 1)) 22 true [])] (zipA (baseR te l n) kLR)) [(i, 1048576, .row [] 3 true []), (100 + i, 1048579, .row [] 3 true [])] env h = expsR 29 (kpOf (zbR l i)) (eLR n (.slc 30 0 (i + 1) (i + 1) false 1) (.slc 31 0 (i + 1) (i + 1) false 1) (c + 1) (i + 1)) [(30, 1048578, .row (zrowsT 0 1 (i + 1)) 22 true []), (31, 1048581, .row (zrowsT 100 2 (i + 1)) 22 true [])] (zipA (baseR te l n) kLR) [(i, 1048576, .row [.int .i64 0] 3 true []), (100 + i, 1048579, .row [.int .i64 c, .int .i64 (Int.ofNat i)] 3 true [])] (zbR l i) [(some (.row (lapp (ltake (ldrop (zrowsT 0 1 i) 0) (Nat.mul i 1)) [.slc 1048576 0 1 1 true 1]) 22 true []), true), (some (.row (lapp (ltake (ldrop (zrowsT 100 2 i) 0) (Nat.mul i 1)) [.slc 1048579 0 2 2 true 1]) 22 true []), true)]) : ∃ σ, Abs 29 σ (lsR te l n (i + 1) (c + 1)).env (lsR te l n (i + 1) (c + 1)).h env h := by
  have e1 : Blk.row [.int .i64 0] 3 true [] = inRowR l i := by unfold inRowR; rw [hb]; rfl
  have e2 : Blk.row [.int .i64 c, .int .i64 (Int.ofNat i)] 3 true [] = outR l i := by
    show _ = rowR _
    unfold cvR; rw [hb]; rw [hc]; rfl
  have hlit : okLit 29 1048576 (lapp [(30, 1048578, .row (zrowsT 0 1 (i + 1)) 22 true []), (31, 1048581, .row (zrowsT 100 2 (i + 1)) 22 true [])] (zipA (baseR te l n) kLR)) = true := okLit_row rfl (belL_slc _ (fun j => zn (0 + j)) _ _ _ fun j hj => by have := List.mem_range.1 hj; rw [zn_eq]; omega) (okLit_row rfl (belL_slc _ (fun j => zn (100 + j)) _ _ _ fun j hj => by have := List.mem_range.1 hj; rw [zn_eq]; omega) (by kernel_rfl))
  have hnd : (([(i, 1048576, .row [.int .i64 0] 3 true []), (100 + i, 1048579, .row [.int .i64 c, .int .i64 (Int.ofNat i)] 3 true [])] : List (Nat × Nat × Blk)).map (·.1)).Nodup := by
    show [i, 100 + i].Nodup
    refine List.nodup_cons.2 ⟨fun h => ?_, List.nodup_cons.2 ⟨fun h => (by cases h), List.nodup_nil⟩⟩
    have := List.mem_singleton.1 h; omega
  rw [expsR_eq] at ho
  · refine NewOK.abs (t := lsR te l n (i + 1) (c + 1)) (A := lapp [(30, 1048578, .row (zrowsT 0 1 (i + 1)) 22 true []), (31, 1048581, .row (zrowsT 100 2 (i + 1)) 22 true [])] (zipA (baseR te l n) kLR)) (Z := [(i, 1048576, .row [.int .i64 0] 3 true []), (100 + i, 1048579, .row [.int .i64 c, .int .i64 (Int.ofNat i)] 3 true [])]) (z := (zbR l i))
      ⟨by rw [lmap_app, zipA_B]; rfl, ?_, by show 29 ≤ 1048576; decide, by kernel_rfl, hlit, by kernel_rfl, by kernel_rfl, fun p hp => ?_, hnd, zbR_ok (by omega)⟩ rfl rfl rfl rfl ho
    · show T.set (T.set (zbR l i) (outR l i) (100 + i)) (inRowR l i) i = T.set (T.set (zbR l i) _ (100 + i)) _ i
      rw [← e1, ← e2]
    · rcases List.mem_cons.1 hp with rfl | hp
      · exact ⟨by show 29 ≤ zn i; rw [zn_eq]; omega, by show zn i < 1048576; rw [zn_eq]; omega, by show 29 ≤ 1048576; decide, by show 1048576 < 1000000000000; decide, by show 1048576 % 4096 ≠ 4095; decide, [0], 3, true, rfl⟩
      · rw [List.mem_singleton.1 hp]
        exact ⟨by show 29 ≤ zn (100 + i); rw [zn_eq]; omega, by show zn (100 + i) < 1048576; rw [zn_eq]; omega, by show 29 ≤ 1048579; decide, by show 1048579 < 1000000000000; decide, by show 1048579 % 4096 ≠ 4095; decide, [c, Int.ofNat i], 3, true, rfl⟩
  · have q1 : (lapp (ltake (ldrop (zrowsT 0 1 i) 0) (Nat.mul i 1)) [.slc 1048576 0 1 1 true 1]) = renL (szs 29 (namesOf (lapp [(30, 1048578, .row (zrowsT 0 1 (i + 1)) 22 true []), (31, 1048581, .row (zrowsT 100 2 (i + 1)) 22 true [])] (zipA (baseR te l n) kLR)) [(i, 1048576, .row [.int .i64 0] 3 true []), (100 + i, 1048579, .row [.int .i64 c, .int .i64 (Int.ofNat i)] 3 true [])]) (kpOf (zbR l i))) (zrowsT 0 1 (i + 1)) := by
      refine zrowsT_grow (i := i) (fun j hj => ?_) (szs_row (x := 0 + i) hlit (by show 29 ≤ zn (0 + i); rw [zn_eq]; omega) (by rw [Nat.zero_add]; exact List.mem_cons_self ..) hnd)
      exact szs_zone hlit (by rw [Nat.zero_add]; exact (zbR_get l i (by omega)).1 j hj) (fun p hp e => by rcases List.mem_cons.1 hp with rfl | hp; (have e : i = 0 + j := e; omega); rw [List.mem_singleton.1 hp] at e; have e : 100 + i = 0 + j := e; omega)
    have q2 : (lapp (ltake (ldrop (zrowsT 100 2 i) 0) (Nat.mul i 1)) [.slc 1048579 0 2 2 true 1]) = renL (szs 29 (namesOf (lapp [(30, 1048578, .row (zrowsT 0 1 (i + 1)) 22 true []), (31, 1048581, .row (zrowsT 100 2 (i + 1)) 22 true [])] (zipA (baseR te l n) kLR)) [(i, 1048576, .row [.int .i64 0] 3 true []), (100 + i, 1048579, .row [.int .i64 c, .int .i64 (Int.ofNat i)] 3 true [])]) (kpOf (zbR l i))) (zrowsT 100 2 (i + 1)) := by
      refine zrowsT_grow (i := i) (fun j hj => ?_) (szs_row (x := 100 + i) hlit (by show 29 ≤ zn (100 + i); rw [zn_eq]; omega) (List.mem_cons_of_mem _ (List.mem_singleton.2 rfl)) hnd)
      exact szs_zone hlit ((zbR_get l i (by omega)).2.1 j hj) (fun p hp e => by rcases List.mem_cons.1 hp with rfl | hp; (have e : i = 100 + j := e; omega); rw [List.mem_singleton.1 hp] at e; have e : 100 + i = 100 + j := e; omega)
    show [(some (Blk.row _ _ _ _), true), (some (Blk.row _ _ _ _), true)] = [(some (Blk.row (renL _ _) _ _ _), true), (some (Blk.row (renL _ _) _ _ _), true)]
    rw [← q1, ← q2]; rfl
end
end Go.Proofs.YtkfhjobebhdpoaaGreat
/- Stream: StreamResets as a whole: it answers true. -/
set_option autoImplicit false
set_option maxRecDepth 1000000
set_option maxHeartbeats 2000000
set_option linter.unusedVariables false
namespace Go.Proofs.YtkfhjobebhdpoaaGreat
noncomputable section
open Go.X
inductive LS where
  | l0
  | l1 (i : Nat) (c : Int)
def LS.ok (l : Nat → Bool) (n : Nat) : LS → Prop
  | .l0 => True
  | .l1 i c => 1 ≤ i ∧ i ≤ n ∧ c = cntR l i
def LS.st (te : TypeId) (l : Nat → Bool) (n : Nat) : LS → ZS
  | .l0 => ls0R te l n
  | .l1 i c => lsR te l n i c
def LS.dr (n : Nat) : LS → List Bool
  | .l0 => [true, false, false, true, true]
  | .l1 i _ => cond (Nat.ble (i + 1) n) [true, false, false, false, false, true, true] [false]
def LS.mu (n : Nat) : LS → Nat
  | .l0 => n + 1
  | .l1 i _ => n - i
theorem zrowsT_keep {ρ : Nat → Nat} {x m n : Nat} (h : ∀ j, j < n → ρ (zn (x + j)) = zn (x + j)) : renL ρ (zrowsT x m n) = zrowsT x m n := by
  unfold zrowsT
  rw [renL_slc]
  exact List.map_congr_left fun j hj => by rw [h j (List.mem_range.1 hj)]
theorem lawDone {te : TypeId} {l : Nat → Bool} {n : Nat} (hn : n ≤ 60) {env : Env} {h : H}
    (ho : obs [4, 5, 6, 7] (actsOf (lapp [(30, 30, .row (zrowsT 0 1 n) 22 true []), (31, 31, .row (zrowsT 100 2 n) 22 true [])] (zipA pR kPR)) []) (lapp [(30, 30, .row (zrowsT 0 1 n) 22 true []), (31, 31, .row (zrowsT 100 2 n) 22 true [])] (zipA pR kPR)) [] env h =
      expsR 29 (kpOf (zbR l n)) [(4, .ptr 28 0), (5, .bool true), (6, .slc 30 0 n n false 1), (7, .slc 31 0 n n false 1)] [(30, 30, .row (zrowsT 0 1 n) 22 true []), (31, 31, .row (zrowsT 100 2 n) 22 true [])] (zipA pR kPR) [] (zbR l n) [(some (.row (zrowsT 0 1 n) 22 true []), true), (some (.row (zrowsT 100 2 n) 22 true []), true)]) :
    ∃ σ, Abs 29 σ (lfinR l n).env (lfinR l n).h env h := by
  have hlit : okLit 29 1048576 (lapp [(30, 30, .row (zrowsT 0 1 n) 22 true []), (31, 31, .row (zrowsT 100 2 n) 22 true [])] (zipA pR kPR)) = true := okLit_row rfl (belL_slc _ (fun j => zn (0 + j)) _ _ _ fun j hj => by have := List.mem_range.1 hj; rw [zn_eq]; omega) (okLit_row rfl (belL_slc _ (fun j => zn (100 + j)) _ _ _ fun j hj => by have := List.mem_range.1 hj; rw [zn_eq]; omega) (by kernel_rfl))
  have zg := zbR_get l n hn
  have k1 : renL (szs 29 (namesOf (lapp [(30, 30, .row (zrowsT 0 1 n) 22 true []), (31, 31, .row (zrowsT 100 2 n) 22 true [])] (zipA pR kPR)) []) (kpOf (zbR l n))) (zrowsT 0 1 n) = zrowsT 0 1 n := by
    exact zrowsT_keep fun j hj => szs_zone hlit (by rw [Nat.zero_add]; exact zg.1 j hj) (fun p hp e => by cases hp)
  have k2 : renL (szs 29 (namesOf (lapp [(30, 30, .row (zrowsT 0 1 n) 22 true []), (31, 31, .row (zrowsT 100 2 n) 22 true [])] (zipA pR kPR)) []) (kpOf (zbR l n))) (zrowsT 100 2 n) = zrowsT 100 2 n := by
    exact zrowsT_keep fun j hj => szs_zone hlit (zg.2.1 j hj) (fun p hp e => by cases hp)
  rw [expsR_eq] at ho
  · exact NewOK.abs (t := lfinR l n) (A := lapp [(30, 30, .row (zrowsT 0 1 n) 22 true []), (31, 31, .row (zrowsT 100 2 n) 22 true [])] (zipA pR kPR)) (Z := []) (z := zbR l n)
      ⟨by rw [lmap_app, zipA_B]; rfl, rfl, by show 29 ≤ 1048576; decide, rfl, hlit, by kernel_rfl, by kernel_rfl, (fun p hp => (by cases hp)), List.nodup_nil, zbR_ok hn⟩ rfl rfl rfl rfl ho
  · show _ = [(some (Blk.row (renL _ _) _ _ _), true), (some (Blk.row (renL _ _) _ _ _), true)]
    rw [k1, k2]; rfl
theorem lawLoop_good {C : Cfg} (G : X.Good C Tryz.prog) (hg : C.gl = fun _ => none) (hm : C.mask 4 = mask 4) (te : TypeId) {l : Nat → Bool} {n : Nat} (hn1 : 1 ≤ n) (hn : n ≤ 60) :
    X.Good (C.addLc 4 10 (lcZ (S0 := Unit) (fun _ => True) (lmap (fun p => p.1) (ls0R te l n).E) (lmap (fun p => p.1) (ls0R te l n).B) (fun _ => ls0R te l n) (fun _ => (.ext 0, lfinR l n)))) Tryz.prog := by
  refine G.addZR good1 (by rw [hg]; rfl) (S := LS) (LS.dr n) (n0 := 29) (ι := fun _ => .l0) (ok := LS.ok l n) (St := LS.st te l n) (fun s => (LS.st te l n s).E) (μ := LS.mu n) (fin := fun _ => (.ext 0, lfinR l n)) (fuel := F) hm.symm (by rfl) (fun s _ => Pe.refl _) ?_ ?_ (fun g i h => by rw [hg] at h; cases h)
  · intro _ _
    refine ⟨trivial, rfl, rfl, ⟨rfl, by kernel_rfl, by kernel_rfl, fun x k h => by cases h⟩, by show 29 ≤ 1048576; decide, rfl, rfl⟩
  · intro s hs
    rw [hm]
    cases s with
    | l0 =>
      refine ⟨round_use2 good1.spl (fun Kv => lfR T.leaf te l n Kv) ?_⟩
      refine bcase_tt (dcq_lt (by simp only [Int.ofNat_eq_natCast]; omega)) (bcase_tt (inB_of (by omega)) (bcase_tt (by show Bool.and (Nat.ble 1 n) true = true; rw [show Nat.ble 1 n = true from Nat.ble_eq_true_of_le hn1]; rfl) (bcase_mk (fun hb => ?_) (fun hb => ?_))))
      · intro env h ds ho
        obtain ⟨σ, ab⟩ := laR_f1 te l n hb ho
        exact ⟨.l1 1 (0 + 1), σ, ⟨Nat.le_refl _, hn1, by rw [cntR_succ, hb]⟩, (by show n - 1 < n + 1; omega), rfl, ab⟩
      · intro env h ds ho
        obtain ⟨σ, ab⟩ := laR_f0 te l n hb ho
        exact ⟨.l1 1 (0 + 1), σ, ⟨Nat.le_refl _, hn1, by rw [cntR_succ, hb]; rfl⟩, (by show n - 1 < n + 1; omega), rfl, ab⟩
    | l1 i c =>
      obtain ⟨h1, h2, rfl⟩ := hs
      have hcl := cntR_le l i
      by_cases hlt : i < n
      · have hi60 : i < 60 := by omega
        refine ⟨?_⟩
        show xcode C1 Tryz.prog F 4 (loopC Tryz.prog 4 10) (mask 4) (tmpsN Tryz.prog 4) (lsR te l n i (cntR l i)).env (lsR te l n i (cntR l i)).h (cond (Nat.ble (i + 1) n) [true, false, false, false, false, true, true] [false]) _
        rw [ble_t hlt]
        refine round_use2 good1.spl (fun Kv => liR (zbR l i) te l n i (cntR l i) Kv) ?_
        refine bcase_tt (dcq_lt (by simp only [Int.ofNat_eq_natCast]; omega)) (bcase_tt (inB_of hlt) (bcase_tt (by rw [ix_eq]; show Bool.and (Nat.ble (i + 1) n) true = true; rw [ble_t hlt]; rfl) (bcase_mk (fun hb => ?_) (fun hb => ?_))))
        · rw [ix_eq] at hb
          have leaf : ∀ (env : Env) (h : H) (ds : List Bool), _ → _ := fun env h ds ho => (laR_s1 te l n (cntR l i) hi60 hb rfl ho).elim fun σ ab => (⟨LS.l1 (i + 1) (0 + 1), σ, ⟨by omega, hlt, by rw [cntR_succ, hb]⟩, (by show n - (i + 1) < n - i; omega), rfl, ab⟩ : ∃ s' σ, LS.ok l n s' ∧ LS.mu n s' < LS.mu n (.l1 i (cntR l i)) ∧ (XE.ext 0, lfinR l n) = (XE.ext 0, lfinR l n) ∧ Abs 29 σ (LS.st te l n s').env (LS.st te l n s').h env h)
          exact bcase_tt (dcq_cap i) (bcase_tt (appC_ok (by rw [zrowsT_len]) (by omega)) (bcase_any (bcase_tt (dcq_cap i) (bcase_tt (appC_ok (by rw [zrowsT_len]) (by omega)) (bcase_any (bcase_tt (inR_add (by omega)) leaf) (bcase_tt (inR_add (by omega)) leaf)))) (bcase_tt (dcq_cap i) (bcase_tt (appC_ok (by rw [zrowsT_len]) (by omega)) (bcase_any (bcase_tt (inR_add (by omega)) leaf) (bcase_tt (inR_add (by omega)) leaf))))))
        · rw [ix_eq] at hb
          have leaf : ∀ (env : Env) (h : H) (ds : List Bool), _ → _ := fun env h ds ho => (laR_s0 te l n (cntR l i) hi60 hb rfl ho).elim fun σ ab => (⟨LS.l1 (i + 1) (cntR l i + 1), σ, ⟨by omega, hlt, by rw [cntR_succ, hb]⟩, (by show n - (i + 1) < n - i; omega), rfl, ab⟩ : ∃ s' σ, LS.ok l n s' ∧ LS.mu n s' < LS.mu n (.l1 i (cntR l i)) ∧ (XE.ext 0, lfinR l n) = (XE.ext 0, lfinR l n) ∧ Abs 29 σ (LS.st te l n s').env (LS.st te l n s').h env h)
          have hi64 : inR .i64 (cntR l i + 1) = true := inR_i64 (by omega) (by omega)
          exact bcase_tt (dcq_cap i) (bcase_tt (appC_ok (by rw [zrowsT_len]) (by omega)) (bcase_any (bcase_tt (dcq_cap i) (bcase_tt (appC_ok (by rw [zrowsT_len]) (by omega)) (bcase_any (bcase_tt hi64 (bcase_tt (inR_add (by omega)) leaf)) (bcase_tt hi64 (bcase_tt (inR_add (by omega)) leaf))))) (bcase_tt (dcq_cap i) (bcase_tt (appC_ok (by rw [zrowsT_len]) (by omega)) (bcase_any (bcase_tt hi64 (bcase_tt (inR_add (by omega)) leaf)) (bcase_tt hi64 (bcase_tt (inR_add (by omega)) leaf)))))))
      · have hin : i = n := by omega
        subst hin
        refine ⟨?_⟩
        show xcode C1 Tryz.prog F 4 (loopC Tryz.prog 4 10) (mask 4) (tmpsN Tryz.prog 4) (lsR te l i i (cntR l i)).env (lsR te l i i (cntR l i)).h (cond (Nat.ble (i + 1) i) [true, false, false, false, false, true, true] [false]) _
        rw [ble_f (Nat.lt_irrefl i)]
        exact round_use2 good1.spl (fun Kv => lxR (zbR l i) te l i i (cntR l i) Kv)
          (bcase_tt (dcq_ge (by omega)) (fun env h ds ho => (lawDone (te := te) hn ho).elim fun σ ab => ⟨σ, rfl, ab⟩))
end
end Go.Proofs.YtkfhjobebhdpoaaGreat

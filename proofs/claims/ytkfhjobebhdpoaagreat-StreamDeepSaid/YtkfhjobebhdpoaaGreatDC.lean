/- Stream: the loop of StreamDeep that builds the ticks, its rounds. -/
import Derived.Test.YtkfhjobebhdpoaaGreatD4
import Derived.Test.YtkfhjobebhdpoaaGreatS3
set_option linter.unusedVariables false
set_option autoImplicit false
set_option maxRecDepth 1000000
set_option maxHeartbeats 2000000
set_option linter.unusedVariables false
namespace Go.Proofs.YtkfhjobebhdpoaaGreat
noncomputable section
open Go.X
def baseD (te : TypeId) (l : Nat → Bool) (n : Nat) : List (Nat × Blk) := (0, .pur (pvB l) n te) :: pD
def eLD (n : Nat) (ins want : AV) (c : Int) (i : Nat) : List (Nat × AV) := [(0, .slc 0 0 n n false 1), (4, .ptr 25 0), (5, .bool true), (6, ins), (7, want), (8, .int .i64 c), (9, .int .i64 (Int.ofNat i))]
def w2D (cI cW : List AV) : List (Nat × Blk) := [(30, .row cI 22 true []), (31, .row cW 22 true [])]
def kPD : List Nat := [25, 1, 2, 3, 4, 5, 6, 7, 8, 9, 10, 11, 12, 13, 14, 15, 16, 17, 18, 19, 20, 21, 22, 23, 24]
def kLD : List Nat := [0, 25, 1, 2, 3, 4, 5, 6, 7, 8, 9, 10, 11, 12, 13, 14, 15, 16, 17, 18, 19, 20, 21, 22, 23, 24]
def apD (rw : List AV) (i : Nat) (t : Prop) : Prop := bcase (dcq false (Nat.ble (Nat.add i 1) i)) (bcase (appC rw i) (bcase (Nat.ble (llen rw) (Nat.mul i 1)) t t) False) False
def rlD (i j : Nat) (n : Nat) (l : Nat → Bool) (b : Bool) (t : Prop) : Prop := bcase (inB (Int.ofNat i) n) (bcase (Bool.and (Nat.ble (Nat.succ j) n) true) (bcase (dcq b (l j)) t False) False) False
def oqfD (te : TypeId) (l : Nat → Bool) (n : Nat) (bv : Int) (w0 : Int) (w1 : Int) (w2 : Int) (c2 : Int) (Kv : XE → Obs → Prop) : KE := fun x env h _ => Kv x (obs [0, 4, 5, 6, 7, 8, 9] (actsOf (lapp [(30, 28, .row (zrowsT 0 1 1) 22 true []), (31, 31, .row (zrowsT 100 3 1) 22 true [])] (zipA (baseD te l n) kLD)) [(0, 26, .row [] 3 true []), (100 + 0, 29, .row [] 3 true [])]) (lapp [(30, 28, .row (zrowsT 0 1 1) 22 true []), (31, 31, .row (zrowsT 100 3 1) 22 true [])] (zipA (baseD te l n) kLD)) [(0, 26, .row [] 3 true []), (100 + 0, 29, .row [] 3 true [])] env h)
def lqfD (z : T Blk) (te : TypeId) (l : Nat → Bool) (n : Nat) (bv : Int) (w0 : Int) (w1 : Int) (w2 : Int) (c2 : Int) (Kv : XE → Obs → Prop) : Prop := Kv .nrm (expsR 26 (kpOf z) (eLD n (.slc 30 0 1 1 false 1) (.slc 31 0 1 1 false 1) c2 1) [(30, 28, .row (zrowsT 0 1 1) 22 true []), (31, 31, .row (zrowsT 100 3 1) 22 true [])] (zipA (baseD te l n) kLD) [(0, 26, .row [.int .i64 bv] 3 true []), (100 + 0, 29, .row [.int .i64 w0, .int .i64 w1, .int .i64 w2] 3 true [])] z [(some (.row [.slc 26 0 1 1 true 1] 22 true []), true), (some (.row [.slc 29 0 3 3 true 1] 22 true []), true)])
def oqsD (te : TypeId) (l : Nat → Bool) (n : Nat) (i : Nat) (bv : Int) (w0 : Int) (w1 : Int) (w2 : Int) (c2 : Int) (Kv : XE → Obs → Prop) : KE := fun x env h _ => Kv x (obs [0, 4, 5, 6, 7, 8, 9] (actsOf (lapp [(30, 1048578, .row (zrowsT 0 1 (i + 1)) 22 true []), (31, 1048581, .row (zrowsT 100 3 (i + 1)) 22 true [])] (zipA (baseD te l n) kLD)) [(i, 1048576, .row [] 3 true []), (100 + i, 1048579, .row [] 3 true [])]) (lapp [(30, 1048578, .row (zrowsT 0 1 (i + 1)) 22 true []), (31, 1048581, .row (zrowsT 100 3 (i + 1)) 22 true [])] (zipA (baseD te l n) kLD)) [(i, 1048576, .row [] 3 true []), (100 + i, 1048579, .row [] 3 true [])] env h)
def lqsD (z : T Blk) (te : TypeId) (l : Nat → Bool) (n : Nat) (i : Nat) (bv : Int) (w0 : Int) (w1 : Int) (w2 : Int) (c2 : Int) (Kv : XE → Obs → Prop) : Prop := Kv .nrm (expsR 26 (kpOf z) (eLD n (.slc 30 0 (i + 1) (i + 1) false 1) (.slc 31 0 (i + 1) (i + 1) false 1) c2 (i + 1)) [(30, 1048578, .row (zrowsT 0 1 (i + 1)) 22 true []), (31, 1048581, .row (zrowsT 100 3 (i + 1)) 22 true [])] (zipA (baseD te l n) kLD) [(i, 1048576, .row [.int .i64 bv] 3 true []), (100 + i, 1048579, .row [.int .i64 w0, .int .i64 w1, .int .i64 w2] 3 true [])] z [(some (.row (lapp (ltake (ldrop (zrowsT 0 1 i) 0) (Nat.mul i 1)) [.slc 1048576 0 1 1 true 1]) 22 true []), true), (some (.row (lapp (ltake (ldrop (zrowsT 100 3 i) 0) (Nat.mul i 1)) [.slc 1048579 0 3 3 true 1]) 22 true []), true)])
def dlD_f0a : List Bool := [true, false, false, true, false, false, false, true, true]
theorem lrf0aD (z : T Blk) (te : TypeId) (l : Nat → Bool) (n : Nat) (Kv : XE → Obs → Prop) : xcode C1 Tryz.prog F 9 (loopC Tryz.prog 9 10) (mask 9) (tmpsN Tryz.prog 9) (mkE (eLD n .nils .nils 0 0)) ⟨mkB z (baseD te l n), 26⟩ dlD_f0a (oqfD te l n 0 0 0 1 1 Kv) = (bcase (dcq true (ltI (Int.ofNat 0) (Int.ofNat n))) (rlD 0 0 n l false (lqfD z te l n 0 0 0 1 1 Kv)) False) := by kernel_rfl
def dlD_f1a : List Bool := [true, true, false, true, false, false, false, true, true]
theorem lrf1aD (z : T Blk) (te : TypeId) (l : Nat → Bool) (n : Nat) (Kv : XE → Obs → Prop) : xcode C1 Tryz.prog F 9 (loopC Tryz.prog 9 10) (mask 9) (tmpsN Tryz.prog 9) (mkE (eLD n .nils .nils 0 0)) ⟨mkB z (baseD te l n), 26⟩ dlD_f1a (oqfD te l n 1 0 0 1 1 Kv) = (bcase (dcq true (ltI (Int.ofNat 0) (Int.ofNat n))) (rlD 0 0 n l true (lqfD z te l n 1 0 0 1 1 Kv)) False) := by kernel_rfl
def dlD_s0a : List Bool := [true, false, false, true, false, false, false, false, false, true, true]
theorem lrs0aD (z : T Blk) (te : TypeId) (l : Nat → Bool) (n i : Nat) (Kv : XE → Obs → Prop) : xcode C1 Tryz.prog F 9 (loopC Tryz.prog 9 10) (mask 9) (tmpsN Tryz.prog 9) (mkE (eLD n (.slc 30 0 i i false 1) (.slc 31 0 i i false 1) 0 i)) ⟨mkB z (lapp (w2D (zrowsT 0 1 i) (zrowsT 100 3 i)) (baseD te l n)), 1048576⟩ dlD_s0a (oqsD te l n i 0 0 0 1 1 Kv) = (bcase (dcq true (ltI (Int.ofNat i) (Int.ofNat n))) (rlD i (Nat.add 0 (Nat.mul (Int.toNat (Int.ofNat i)) 1)) n l false (apD (zrowsT 0 1 i) i (apD (zrowsT 100 3 i) i (bcase (inR .i64 (Int.ofNat i + Int.ofNat 1)) (lqsD z te l n i 0 0 0 1 1 Kv) False)))) False) := by kernel_rfl
def dlD_s0b : List Bool := [true, false, true, true, false, false, false, false, false, true, true]
theorem lrs0bD (z : T Blk) (te : TypeId) (l : Nat → Bool) (n i : Nat) (Kv : XE → Obs → Prop) : xcode C1 Tryz.prog F 9 (loopC Tryz.prog 9 10) (mask 9) (tmpsN Tryz.prog 9) (mkE (eLD n (.slc 30 0 i i false 1) (.slc 31 0 i i false 1) 1 i)) ⟨mkB z (lapp (w2D (zrowsT 0 1 i) (zrowsT 100 3 i)) (baseD te l n)), 1048576⟩ dlD_s0b (oqsD te l n i 0 1 1 2 2 Kv) = (bcase (dcq true (ltI (Int.ofNat i) (Int.ofNat n))) (rlD i (Nat.add 0 (Nat.mul (Int.toNat (Int.ofNat i)) 1)) n l false (apD (zrowsT 0 1 i) i (apD (zrowsT 100 3 i) i (bcase (inR .i64 (Int.ofNat i + Int.ofNat 1)) (lqsD z te l n i 0 1 1 2 2 Kv) False)))) False) := by kernel_rfl
def dlD_s0c : List Bool := [true, false, false, true, false, false, false, false, false, true, true]
theorem lrs0cD (z : T Blk) (te : TypeId) (l : Nat → Bool) (n i : Nat) (Kv : XE → Obs → Prop) : xcode C1 Tryz.prog F 9 (loopC Tryz.prog 9 10) (mask 9) (tmpsN Tryz.prog 9) (mkE (eLD n (.slc 30 0 i i false 1) (.slc 31 0 i i false 1) 2 i)) ⟨mkB z (lapp (w2D (zrowsT 0 1 i) (zrowsT 100 3 i)) (baseD te l n)), 1048576⟩ dlD_s0c (oqsD te l n i 0 2 0 3 3 Kv) = (bcase (dcq true (ltI (Int.ofNat i) (Int.ofNat n))) (rlD i (Nat.add 0 (Nat.mul (Int.toNat (Int.ofNat i)) 1)) n l false (apD (zrowsT 0 1 i) i (apD (zrowsT 100 3 i) i (bcase (inR .i64 (Int.ofNat i + Int.ofNat 1)) (lqsD z te l n i 0 2 0 3 3 Kv) False)))) False) := by kernel_rfl
def dlD_s0d : List Bool := [true, false, true, true, true, false, false, false, false, true, true]
theorem lrs0dD (z : T Blk) (te : TypeId) (l : Nat → Bool) (n i : Nat) (c : Int) (Kv : XE → Obs → Prop) : xcode C1 Tryz.prog F 9 (loopC Tryz.prog 9 10) (mask 9) (tmpsN Tryz.prog 9) (mkE (eLD n (.slc 30 0 i i false 1) (.slc 31 0 i i false 1) c i)) ⟨mkB z (lapp (w2D (zrowsT 0 1 i) (zrowsT 100 3 i)) (baseD te l n)), 1048576⟩ dlD_s0d (oqsD te l n i 0 c 1 3 ((c + 1)) Kv) = (bcase (dcq true (ltI (Int.ofNat i) (Int.ofNat n))) (rlD i (Nat.add 0 (Nat.mul (Int.toNat (Int.ofNat i)) 1)) n l false (bcase (dcq true (eqI (Int.tmod c 3) 1)) (bcase (inR .i64 (c + 1)) (bcase (dcq true (ltI 3 (c + 1))) (apD (zrowsT 0 1 i) i (apD (zrowsT 100 3 i) i (bcase (inR .i64 (c + 1)) (bcase (inR .i64 (Int.ofNat i + Int.ofNat 1)) (lqsD z te l n i 0 c 1 3 ((c + 1)) Kv) False) False))) False) False) False)) False) := by kernel_rfl
def dlD_s0e : List Bool := [true, false, false, true, true, false, false, false, false, true, true]
theorem lrs0eD (z : T Blk) (te : TypeId) (l : Nat → Bool) (n i : Nat) (c : Int) (Kv : XE → Obs → Prop) : xcode C1 Tryz.prog F 9 (loopC Tryz.prog 9 10) (mask 9) (tmpsN Tryz.prog 9) (mkE (eLD n (.slc 30 0 i i false 1) (.slc 31 0 i i false 1) c i)) ⟨mkB z (lapp (w2D (zrowsT 0 1 i) (zrowsT 100 3 i)) (baseD te l n)), 1048576⟩ dlD_s0e (oqsD te l n i 0 c 0 3 ((c + 1)) Kv) = (bcase (dcq true (ltI (Int.ofNat i) (Int.ofNat n))) (rlD i (Nat.add 0 (Nat.mul (Int.toNat (Int.ofNat i)) 1)) n l false (bcase (dcq false (eqI (Int.tmod c 3) 1)) (bcase (inR .i64 (c + 1)) (bcase (dcq true (ltI 3 (c + 1))) (apD (zrowsT 0 1 i) i (apD (zrowsT 100 3 i) i (bcase (inR .i64 (c + 1)) (bcase (inR .i64 (Int.ofNat i + Int.ofNat 1)) (lqsD z te l n i 0 c 0 3 ((c + 1)) Kv) False) False))) False) False) False)) False) := by kernel_rfl
def dlD_s1a : List Bool := [true, true, false, true, false, false, false, false, false, true, true]
theorem lrs1aD (z : T Blk) (te : TypeId) (l : Nat → Bool) (n i : Nat) (c : Int) (Kv : XE → Obs → Prop) : xcode C1 Tryz.prog F 9 (loopC Tryz.prog 9 10) (mask 9) (tmpsN Tryz.prog 9) (mkE (eLD n (.slc 30 0 i i false 1) (.slc 31 0 i i false 1) c i)) ⟨mkB z (lapp (w2D (zrowsT 0 1 i) (zrowsT 100 3 i)) (baseD te l n)), 1048576⟩ dlD_s1a (oqsD te l n i 1 0 0 1 1 Kv) = (bcase (dcq true (ltI (Int.ofNat i) (Int.ofNat n))) (rlD i (Nat.add 0 (Nat.mul (Int.toNat (Int.ofNat i)) 1)) n l true (apD (zrowsT 0 1 i) i (apD (zrowsT 100 3 i) i (bcase (inR .i64 (Int.ofNat i + Int.ofNat 1)) (lqsD z te l n i 1 0 0 1 1 Kv) False)))) False) := by kernel_rfl
theorem lxD (z : T Blk) (te : TypeId) (l : Nat → Bool) (n i : Nat) (c : Int) (Kv : XE → Obs → Prop) : xcode C1 Tryz.prog F 9 (loopC Tryz.prog 9 10) (mask 9) (tmpsN Tryz.prog 9) (mkE (eLD n (.slc 30 0 i i false 1) (.slc 31 0 i i false 1) c i)) ⟨mkB z (lapp (w2D (zrowsT 0 1 i) (zrowsT 100 3 i)) (baseD te l n)), 1048576⟩ [false] (fun x env h _ => Kv x (obs [4, 5, 6, 7] (actsOf (lapp [(30, 30, .row (zrowsT 0 1 i) 22 true []), (31, 31, .row (zrowsT 100 3 i) 22 true [])] (zipA pD kPD)) []) (lapp [(30, 30, .row (zrowsT 0 1 i) 22 true []), (31, 31, .row (zrowsT 100 3 i) 22 true [])] (zipA pD kPD)) [] env h)) = (bcase (dcq false (ltI (Int.ofNat i) (Int.ofNat n))) (Kv (.ext 0) (expsR 26 (kpOf z) [(4, .ptr 25 0), (5, .bool true), (6, .slc 30 0 i i false 1), (7, .slc 31 0 i i false 1)] [(30, 30, .row (zrowsT 0 1 i) 22 true []), (31, 31, .row (zrowsT 100 3 i) 22 true [])] (zipA pD kPD) [] z [(some (.row (zrowsT 0 1 i) 22 true []), true), (some (.row (zrowsT 100 3 i) 22 true []), true)])) False) := by kernel_rfl
def selD0 (c : Int) : List Bool := if c = 0 then dlD_s0a else if c = 1 then dlD_s0b else if c = 2 then dlD_s0c else if (3 ≤ c ∧ c % 3 = 1) then dlD_s0d else dlD_s0e
def selD1 (c : Int) : List Bool := dlD_s1a
end
end Go.Proofs.YtkfhjobebhdpoaaGreat
/- Stream: the loop of StreamDeep that builds the ticks, as a contract. -/
set_option autoImplicit false
set_option maxRecDepth 1000000
set_option maxHeartbeats 2000000
set_option linter.unusedVariables false
namespace Go.Proofs.YtkfhjobebhdpoaaGreat
noncomputable section
open Go.X
/-- the zone as far as round i -/
def zbD (l : Nat → Bool) (i : Nat) : T Blk := Nat.rec T.leaf (fun j ih => T.set (T.set ih (outD l j) (100 + j)) (inRowD l j) j) i
theorem zbD_succ (l : Nat → Bool) (i : Nat) : zbD l (i + 1) = T.set (T.set (zbD l i) (outD l i) (100 + i)) (inRowD l i) i := rfl
theorem zbD_get (l : Nat → Bool) : ∀ i, i ≤ 60 → (∀ j, j < i → (zbD l i).get j = some (inRowD l j)) ∧ (∀ j, j < i → (zbD l i).get (100 + j) = some (outD l j)) ∧ (∀ x k, (zbD l i).get x = some k → x < 200 ∧ IntRow k)
  | 0, _ => ⟨fun j h => by omega, fun j h => by omega, fun x k h => by cases h⟩
  | i + 1, hi => by
    obtain ⟨h1, h2, h3⟩ := zbD_get l i (by omega)
    rw [zbD_succ]
    refine ⟨fun j hj => ?_, fun j hj => ?_, fun x k h => ?_⟩
    · by_cases e : j = i
      · subst e; exact T.get_set_same _ _
      · rw [T.get_set_other _ _ _ e, T.get_set_other _ _ _ (by omega)]; exact h1 j (by omega)
    · by_cases e : j = i
      · subst e; rw [T.get_set_other _ _ _ (by omega)]; exact T.get_set_same _ _
      · rw [T.get_set_other _ _ _ (by omega), T.get_set_other _ _ _ (by omega)]; exact h2 j (by omega)
    · rcases T.get_set h with ⟨rfl, rfl⟩ | ⟨_, h⟩
      · exact ⟨by omega, [bi (l x)], 3, true, rfl⟩
      · rcases T.get_set h with ⟨rfl, rfl⟩ | ⟨_, h⟩
        · exact ⟨by omega, outD_int l i⟩
        · exact h3 x k h
theorem zbD_in {l : Nat → Bool} {n : Nat} (hn : n ≤ 60) : ZinD l n (zbD l n) := ⟨(zbD_get l n hn).1, (zbD_get l n hn).2.1, (zbD_get l n hn).2.2⟩
theorem zbD_ok {l : Nat → Bool} {i : Nat} (hi : i ≤ 60) : ZoneOK (zbD l i) 1048576 := fun x k h => by
  obtain ⟨a, b⟩ := (zbD_get l i hi).2.2 x k h
  exact ⟨b, by rw [zn_eq]; omega, by rw [zn_eq]; show _ < 1000000000000; omega⟩
def lsD (te : TypeId) (l : Nat → Bool) (n i : Nat) (c : Int) : ZS := ⟨eLD n (.slc 30 0 i i false 1) (.slc 31 0 i i false 1) c i, lapp (w2D (zrowsT 0 1 i) (zrowsT 100 3 i)) (baseD te l n), zbD l i, 1048576⟩
def ls0D (te : TypeId) (l : Nat → Bool) (n : Nat) : ZS := ⟨eLD n .nils .nils 0 0, baseD te l n, T.leaf, 26⟩
def lfinD (l : Nat → Bool) (n : Nat) : ZS := ⟨[(4, .ptr 25 0), (5, .bool true), (6, .slc 30 0 n n false 1), (7, .slc 31 0 n n false 1)], lapp (w2D (zrowsT 0 1 n) (zrowsT 100 3 n)) pD, zbD l n, 1048576⟩
theorem laD_f (te : TypeId) (l : Nat → Bool) (n : Nat) (bv : Int) (w0 : Int) (w1 : Int) (w2 : Int) (c2 : Int) (e1 : Blk.row [.int .i64 bv] 3 true [] = inRowD l 0) (e2 : Blk.row [.int .i64 w0, .int .i64 w1, .int .i64 w2] 3 true [] = outD l 0) {env : Env} {h : H}
    (ho : obs [0, 4, 5, 6, 7, 8, 9] (actsOf (lapp [(30, 28, .row (zrowsT 0 1 1) 22 true []), (31, 31, .row (zrowsT 100 3 1) 22 true [])] (zipA (baseD te l n) kLD)) [(0, 26, .row [] 3 true []), (100 + 0, 29, .row [] 3 true [])]) (lapp [(30, 28, .row (zrowsT 0 1 1) 22 true []), (31, 31, .row (zrowsT 100 3 1) 22 true [])] (zipA (baseD te l n) kLD)) [(0, 26, .row [] 3 true []), (100 + 0, 29, .row [] 3 true [])] env h = expsR 26 (kpOf T.leaf) (eLD n (.slc 30 0 1 1 false 1) (.slc 31 0 1 1 false 1) c2 1) [(30, 28, .row (zrowsT 0 1 1) 22 true []), (31, 31, .row (zrowsT 100 3 1) 22 true [])] (zipA (baseD te l n) kLD) [(0, 26, .row [.int .i64 bv] 3 true []), (100 + 0, 29, .row [.int .i64 w0, .int .i64 w1, .int .i64 w2] 3 true [])] T.leaf [(some (.row [.slc 26 0 1 1 true 1] 22 true []), true), (some (.row [.slc 29 0 3 3 true 1] 22 true []), true)]) : ∃ σ, Abs 26 σ (lsD te l n 1 c2).env (lsD te l n 1 c2).h env h := by
  have hlit : okLit 26 1048576 (lapp [(30, 28, .row (zrowsT 0 1 1) 22 true []), (31, 31, .row (zrowsT 100 3 1) 22 true [])] (zipA (baseD te l n) kLD)) = true := okLit_row rfl (belL_slc _ (fun j => zn (0 + j)) _ _ _ fun j hj => by have := List.mem_range.1 hj; rw [zn_eq]; omega) (okLit_row rfl (belL_slc _ (fun j => zn (100 + j)) _ _ _ fun j hj => by have := List.mem_range.1 hj; rw [zn_eq]; omega) (by kernel_rfl))
  have hnd : (([(0, 26, .row [.int .i64 bv] 3 true []), (100 + 0, 29, .row [.int .i64 w0, .int .i64 w1, .int .i64 w2] 3 true [])] : List (Nat × Nat × Blk)).map (·.1)).Nodup := by
    show [0, 100 + 0].Nodup
    refine List.nodup_cons.2 ⟨fun h => ?_, List.nodup_cons.2 ⟨fun h => (by cases h), List.nodup_nil⟩⟩
    have := List.mem_singleton.1 h; omega
  rw [expsR_eq] at ho
  · refine NewOK.abs (t := lsD te l n 1 c2) (A := lapp [(30, 28, .row (zrowsT 0 1 1) 22 true []), (31, 31, .row (zrowsT 100 3 1) 22 true [])] (zipA (baseD te l n) kLD)) (Z := [(0, 26, .row [.int .i64 bv] 3 true []), (100 + 0, 29, .row [.int .i64 w0, .int .i64 w1, .int .i64 w2] 3 true [])]) (z := T.leaf)
      ⟨by rw [lmap_app, zipA_B]; rfl, ?_, by show 26 ≤ 1048576; decide, by kernel_rfl, hlit, by kernel_rfl, by kernel_rfl, fun p hp => ?_, hnd, fun x k h => by cases h⟩ rfl rfl rfl rfl ho
    · show T.set (T.set T.leaf (outD l 0) (100 + 0)) (inRowD l 0) 0 = T.set (T.set T.leaf (.row [.int .i64 w0, .int .i64 w1, .int .i64 w2] 3 true []) (100 + 0)) (.row [.int .i64 bv] 3 true []) 0
      rw [← e1, ← e2]
    · rcases List.mem_cons.1 hp with rfl | hp
      · exact ⟨by show 26 ≤ zn 0; rw [zn_eq]; omega, by show zn 0 < 1048576; rw [zn_eq]; omega, by show 26 ≤ 26; decide, by show 26 < 1000000000000; decide, by show 26 % 4096 ≠ 4095; decide, [bv], 3, true, rfl⟩
      · rw [List.mem_singleton.1 hp]
        exact ⟨by show 26 ≤ zn (100 + 0); rw [zn_eq]; omega, by show zn (100 + 0) < 1048576; rw [zn_eq]; omega, by show 26 ≤ 29; decide, by show 29 < 1000000000000; decide, by show 29 % 4096 ≠ 4095; decide, [w0, w1, w2], 3, true, rfl⟩
  · have q1 : [.slc 26 0 1 1 true 1] = renL (szs 26 (namesOf (lapp [(30, 28, .row (zrowsT 0 1 1) 22 true []), (31, 31, .row (zrowsT 100 3 1) 22 true [])] (zipA (baseD te l n) kLD)) [(0, 26, .row [.int .i64 bv] 3 true []), (100 + 0, 29, .row [.int .i64 w0, .int .i64 w1, .int .i64 w2] 3 true [])]) (kpOf T.leaf)) (zrowsT 0 1 1) := by
      refine zrowsT_grow (i := 0) (fun j hj => ?_) (szs_row (x := 0 + 0) hlit (by show 26 ≤ zn (0 + 0); rw [zn_eq]; omega) (by rw [Nat.zero_add]; exact List.mem_cons_self ..) hnd)
      omega
    have q2 : [.slc 29 0 3 3 true 1] = renL (szs 26 (namesOf (lapp [(30, 28, .row (zrowsT 0 1 1) 22 true []), (31, 31, .row (zrowsT 100 3 1) 22 true [])] (zipA (baseD te l n) kLD)) [(0, 26, .row [.int .i64 bv] 3 true []), (100 + 0, 29, .row [.int .i64 w0, .int .i64 w1, .int .i64 w2] 3 true [])]) (kpOf T.leaf)) (zrowsT 100 3 1) := by
      refine zrowsT_grow (i := 0) (fun j hj => ?_) (szs_row (x := 100 + 0) hlit (by show 26 ≤ zn (100 + 0); rw [zn_eq]; omega) (List.mem_cons_of_mem _ (List.mem_singleton.2 rfl)) hnd)
      omega
    show [(some (Blk.row _ _ _ _), true), (some (Blk.row _ _ _ _), true)] = [(some (Blk.row (renL _ _) _ _ _), true), (some (Blk.row (renL _ _) _ _ _), true)]
    rw [← q1, ← q2]; rfl
theorem laD_s (te : TypeId) (l : Nat → Bool) (n : Nat) {i : Nat} (hi : i < 60) (bv : Int) (w0 : Int) (w1 : Int) (w2 : Int) (c2 : Int) (e1 : Blk.row [.int .i64 bv] 3 true [] = inRowD l i) (e2 : Blk.row [.int .i64 w0, .int .i64 w1, .int .i64 w2] 3 true [] = outD l i) {env : Env} {h : H}
    (ho : obs [0, 4, 5, 6, 7, 8, 9] (actsOf (lapp [(30, 1048578, .row (zrowsT 0 1 (i + 1)) 22 true []), (31, 1048581, .row (zrowsT 100 3 (i + 1)) 22 true [])] (zipA (baseD te l n) kLD)) [(i, 1048576, .row [] 3 true []), (100 + i, 1048579, .row [] 3 true [])]) (lapp [(30, 1048578, .row (zrowsT 0 1 (i + 1)) 22 true []), (31, 1048581, .row (zrowsT 100 3 (i + 1)) 22 true [])] (zipA (baseD te l n) kLD)) [(i, 1048576, .row [] 3 true []), (100 + i, 1048579, .row [] 3 true [])] env h = expsR 26 (kpOf (zbD l i)) (eLD n (.slc 30 0 (i + 1) (i + 1) false 1) (.slc 31 0 (i + 1) (i + 1) false 1) c2 (i + 1)) [(30, 1048578, .row (zrowsT 0 1 (i + 1)) 22 true []), (31, 1048581, .row (zrowsT 100 3 (i + 1)) 22 true [])] (zipA (baseD te l n) kLD) [(i, 1048576, .row [.int .i64 bv] 3 true []), (100 + i, 1048579, .row [.int .i64 w0, .int .i64 w1, .int .i64 w2] 3 true [])] (zbD l i) [(some (.row (lapp (ltake (ldrop (zrowsT 0 1 i) 0) (Nat.mul i 1)) [.slc 1048576 0 1 1 true 1]) 22 true []), true), (some (.row (lapp (ltake (ldrop (zrowsT 100 3 i) 0) (Nat.mul i 1)) [.slc 1048579 0 3 3 true 1]) 22 true []), true)]) : ∃ σ, Abs 26 σ (lsD te l n (i + 1) c2).env (lsD te l n (i + 1) c2).h env h := by
  have hlit : okLit 26 1048576 (lapp [(30, 1048578, .row (zrowsT 0 1 (i + 1)) 22 true []), (31, 1048581, .row (zrowsT 100 3 (i + 1)) 22 true [])] (zipA (baseD te l n) kLD)) = true := okLit_row rfl (belL_slc _ (fun j => zn (0 + j)) _ _ _ fun j hj => by have := List.mem_range.1 hj; rw [zn_eq]; omega) (okLit_row rfl (belL_slc _ (fun j => zn (100 + j)) _ _ _ fun j hj => by have := List.mem_range.1 hj; rw [zn_eq]; omega) (by kernel_rfl))
  have hnd : (([(i, 1048576, .row [.int .i64 bv] 3 true []), (100 + i, 1048579, .row [.int .i64 w0, .int .i64 w1, .int .i64 w2] 3 true [])] : List (Nat × Nat × Blk)).map (·.1)).Nodup := by
    show [i, 100 + i].Nodup
    refine List.nodup_cons.2 ⟨fun h => ?_, List.nodup_cons.2 ⟨fun h => (by cases h), List.nodup_nil⟩⟩
    have := List.mem_singleton.1 h; omega
  rw [expsR_eq] at ho
  · refine NewOK.abs (t := lsD te l n (i + 1) c2) (A := lapp [(30, 1048578, .row (zrowsT 0 1 (i + 1)) 22 true []), (31, 1048581, .row (zrowsT 100 3 (i + 1)) 22 true [])] (zipA (baseD te l n) kLD)) (Z := [(i, 1048576, .row [.int .i64 bv] 3 true []), (100 + i, 1048579, .row [.int .i64 w0, .int .i64 w1, .int .i64 w2] 3 true [])]) (z := (zbD l i))
      ⟨by rw [lmap_app, zipA_B]; rfl, ?_, by show 26 ≤ 1048576; decide, by kernel_rfl, hlit, by kernel_rfl, by kernel_rfl, fun p hp => ?_, hnd, zbD_ok (by omega)⟩ rfl rfl rfl rfl ho
    · show T.set (T.set (zbD l i) (outD l i) (100 + i)) (inRowD l i) i = T.set (T.set (zbD l i) (.row [.int .i64 w0, .int .i64 w1, .int .i64 w2] 3 true []) (100 + i)) (.row [.int .i64 bv] 3 true []) i
      rw [← e1, ← e2]
    · rcases List.mem_cons.1 hp with rfl | hp
      · exact ⟨by show 26 ≤ zn i; rw [zn_eq]; omega, by show zn i < 1048576; rw [zn_eq]; omega, by show 26 ≤ 1048576; decide, by show 1048576 < 1000000000000; decide, by show 1048576 % 4096 ≠ 4095; decide, [bv], 3, true, rfl⟩
      · rw [List.mem_singleton.1 hp]
        exact ⟨by show 26 ≤ zn (100 + i); rw [zn_eq]; omega, by show zn (100 + i) < 1048576; rw [zn_eq]; omega, by show 26 ≤ 1048579; decide, by show 1048579 < 1000000000000; decide, by show 1048579 % 4096 ≠ 4095; decide, [w0, w1, w2], 3, true, rfl⟩
  · have q1 : (lapp (ltake (ldrop (zrowsT 0 1 i) 0) (Nat.mul i 1)) [.slc 1048576 0 1 1 true 1]) = renL (szs 26 (namesOf (lapp [(30, 1048578, .row (zrowsT 0 1 (i + 1)) 22 true []), (31, 1048581, .row (zrowsT 100 3 (i + 1)) 22 true [])] (zipA (baseD te l n) kLD)) [(i, 1048576, .row [.int .i64 bv] 3 true []), (100 + i, 1048579, .row [.int .i64 w0, .int .i64 w1, .int .i64 w2] 3 true [])]) (kpOf (zbD l i))) (zrowsT 0 1 (i + 1)) := by
      refine zrowsT_grow (i := i) (fun j hj => ?_) (szs_row (x := 0 + i) hlit (by show 26 ≤ zn (0 + i); rw [zn_eq]; omega) (by rw [Nat.zero_add]; exact List.mem_cons_self ..) hnd)
      exact szs_zone hlit (by rw [Nat.zero_add]; exact (zbD_get l i (by omega)).1 j hj) (fun p hp e => by rcases List.mem_cons.1 hp with rfl | hp; (have e : i = 0 + j := e; omega); rw [List.mem_singleton.1 hp] at e; have e : 100 + i = 0 + j := e; omega)
    have q2 : (lapp (ltake (ldrop (zrowsT 100 3 i) 0) (Nat.mul i 1)) [.slc 1048579 0 3 3 true 1]) = renL (szs 26 (namesOf (lapp [(30, 1048578, .row (zrowsT 0 1 (i + 1)) 22 true []), (31, 1048581, .row (zrowsT 100 3 (i + 1)) 22 true [])] (zipA (baseD te l n) kLD)) [(i, 1048576, .row [.int .i64 bv] 3 true []), (100 + i, 1048579, .row [.int .i64 w0, .int .i64 w1, .int .i64 w2] 3 true [])]) (kpOf (zbD l i))) (zrowsT 100 3 (i + 1)) := by
      refine zrowsT_grow (i := i) (fun j hj => ?_) (szs_row (x := 100 + i) hlit (by show 26 ≤ zn (100 + i); rw [zn_eq]; omega) (List.mem_cons_of_mem _ (List.mem_singleton.2 rfl)) hnd)
      exact szs_zone hlit ((zbD_get l i (by omega)).2.1 j hj) (fun p hp e => by rcases List.mem_cons.1 hp with rfl | hp; (have e : i = 100 + j := e; omega); rw [List.mem_singleton.1 hp] at e; have e : 100 + i = 100 + j := e; omega)
    show [(some (Blk.row _ _ _ _), true), (some (Blk.row _ _ _ _), true)] = [(some (Blk.row (renL _ _) _ _ _), true), (some (Blk.row (renL _ _) _ _ _), true)]
    rw [← q1, ← q2]; rfl
end
end Go.Proofs.YtkfhjobebhdpoaaGreat
/- Stream: the loop of StreamDeep as a contract, with its end. -/
set_option autoImplicit false
set_option maxRecDepth 1000000
set_option maxHeartbeats 2000000
set_option linter.unusedVariables false
namespace Go.Proofs.YtkfhjobebhdpoaaGreat
noncomputable section
open Go.X
inductive LSD where
  | l0
  | l1 (i : Nat) (c : Int)
def LSD.ok (l : Nat → Bool) (n : Nat) : LSD → Prop
  | .l0 => True
  | .l1 i c => 1 ≤ i ∧ i ≤ n ∧ c = cntD l i
def LSD.st (te : TypeId) (l : Nat → Bool) (n : Nat) : LSD → ZS
  | .l0 => ls0D te l n
  | .l1 i c => lsD te l n i c
def LSD.dr (l : Nat → Bool) (n : Nat) : LSD → List Bool
  | .l0 => (cond (l 0) dlD_f1a dlD_f0a)
  | .l1 i c => cond (Nat.ble (i + 1) n) (cond (l i) (selD1 c) (selD0 c)) [false]
def LSD.mu (n : Nat) : LSD → Nat
  | .l0 => n + 1
  | .l1 i _ => n - i
theorem lawDoneD {te : TypeId} {l : Nat → Bool} {n : Nat} (hn : n ≤ 60) {env : Env} {h : H}
    (ho : obs [4, 5, 6, 7] (actsOf (lapp [(30, 30, .row (zrowsT 0 1 n) 22 true []), (31, 31, .row (zrowsT 100 3 n) 22 true [])] (zipA pD kPD)) []) (lapp [(30, 30, .row (zrowsT 0 1 n) 22 true []), (31, 31, .row (zrowsT 100 3 n) 22 true [])] (zipA pD kPD)) [] env h =
      expsR 26 (kpOf (zbD l n)) [(4, .ptr 25 0), (5, .bool true), (6, .slc 30 0 n n false 1), (7, .slc 31 0 n n false 1)] [(30, 30, .row (zrowsT 0 1 n) 22 true []), (31, 31, .row (zrowsT 100 3 n) 22 true [])] (zipA pD kPD) [] (zbD l n) [(some (.row (zrowsT 0 1 n) 22 true []), true), (some (.row (zrowsT 100 3 n) 22 true []), true)]) :
    ∃ σ, Abs 26 σ (lfinD l n).env (lfinD l n).h env h := by
  have hlit : okLit 26 1048576 (lapp [(30, 30, .row (zrowsT 0 1 n) 22 true []), (31, 31, .row (zrowsT 100 3 n) 22 true [])] (zipA pD kPD)) = true := okLit_row rfl (belL_slc _ (fun j => zn (0 + j)) _ _ _ fun j hj => by have := List.mem_range.1 hj; rw [zn_eq]; omega) (okLit_row rfl (belL_slc _ (fun j => zn (100 + j)) _ _ _ fun j hj => by have := List.mem_range.1 hj; rw [zn_eq]; omega) (by kernel_rfl))
  have zg := zbD_get l n hn
  have k1 : renL (szs 26 (namesOf (lapp [(30, 30, .row (zrowsT 0 1 n) 22 true []), (31, 31, .row (zrowsT 100 3 n) 22 true [])] (zipA pD kPD)) []) (kpOf (zbD l n))) (zrowsT 0 1 n) = zrowsT 0 1 n := by
    exact zrowsT_keep fun j hj => szs_zone hlit (by rw [Nat.zero_add]; exact zg.1 j hj) (fun p hp e => by cases hp)
  have k2 : renL (szs 26 (namesOf (lapp [(30, 30, .row (zrowsT 0 1 n) 22 true []), (31, 31, .row (zrowsT 100 3 n) 22 true [])] (zipA pD kPD)) []) (kpOf (zbD l n))) (zrowsT 100 3 n) = zrowsT 100 3 n := by
    exact zrowsT_keep fun j hj => szs_zone hlit (zg.2.1 j hj) (fun p hp e => by cases hp)
  rw [expsR_eq] at ho
  · exact NewOK.abs (t := lfinD l n) (A := lapp [(30, 30, .row (zrowsT 0 1 n) 22 true []), (31, 31, .row (zrowsT 100 3 n) 22 true [])] (zipA pD kPD)) (Z := []) (z := zbD l n)
      ⟨by rw [lmap_app, zipA_B]; rfl, rfl, by show 26 ≤ 1048576; decide, rfl, hlit, by kernel_rfl, by kernel_rfl, (fun p hp => (by cases hp)), List.nodup_nil, zbD_ok hn⟩ rfl rfl rfl rfl ho
  · show _ = [(some (Blk.row (renL _ _) _ _ _), true), (some (Blk.row (renL _ _) _ _ _), true)]
    rw [k1, k2]; rfl
theorem lawLoopD_good {C : Cfg} (G : X.Good C Tryz.prog) (hg : C.gl = fun _ => none) (hm : C.mask 9 = mask 9) (te : TypeId) {l : Nat → Bool} {n : Nat} (hn1 : 1 ≤ n) (hn : n ≤ 60) :
    X.Good (C.addLc 9 10 (lcZ (S0 := Unit) (fun _ => True) (lmap (fun p => p.1) (ls0D te l n).E) (lmap (fun p => p.1) (ls0D te l n).B) (fun _ => ls0D te l n) (fun _ => (.ext 0, lfinD l n)))) Tryz.prog := by
  refine G.addZR good1 (by rw [hg]; rfl) (S := LSD) (LSD.dr l n) (n0 := 26) (ι := fun _ => .l0) (ok := LSD.ok l n) (St := LSD.st te l n) (fun s => (LSD.st te l n s).E) (μ := LSD.mu n) (fin := fun _ => (.ext 0, lfinD l n)) (fuel := F) hm.symm (by rfl) (fun s _ => Pe.refl _) ?_ ?_ (fun g i h => by rw [hg] at h; cases h)
  · intro _ _
    refine ⟨trivial, rfl, rfl, ⟨rfl, by kernel_rfl, by kernel_rfl, fun x k h => by cases h⟩, by show 26 ≤ 1048576; decide, rfl, rfl⟩
  · intro s hs
    rw [hm]
    cases s with
    | l0 =>
      have hc := leD l 0
      have z0 : cntD l 0 = 0 := rfl
      cases hb : l 0 with
      | false =>
        have q1 : cntD l (0 + 1) = cntD l 0 + 1 ∧ nD l 0 = cntD l 0 ∧ (cntD l 0 % 3 = 1 → tD l 0 = 1) ∧ (cntD l 0 % 3 ≠ 1 → tD l 0 = 0) ∧ (3 ≤ cntD l 0 → sD l 0 = 3) ∧ (cntD l 0 < 3 → sD l 0 = cntD l 0 + 1) := stepD_false hb
        have q1' : cntD l 1 = cntD l 0 + 1 ∧ nD l 0 = cntD l 0 ∧ (cntD l 0 % 3 = 1 → tD l 0 = 1) ∧ (cntD l 0 % 3 ≠ 1 → tD l 0 = 0) ∧ (3 ≤ cntD l 0 → sD l 0 = 3) ∧ (cntD l 0 < 3 → sD l 0 = cntD l 0 + 1) := q1
        refine ⟨?_⟩
        show xcode C1 Tryz.prog F 9 (loopC Tryz.prog 9 10) (mask 9) (tmpsN Tryz.prog 9) (ls0D te l n).env (ls0D te l n).h (cond (l 0) dlD_f1a dlD_f0a) _
        rw [hb]
        refine round_use2 good1.spl (fun Kv => lrf0aD T.leaf te l n Kv) ?_
        have leaf : ∀ (env : Env) (h : H) (ds : List Bool), _ → _ := fun env h ds ho => (laD_f te l n 0 0 0 1 1 (by unfold inRowD; rw [hb]; rfl) (row3_eq (by first | omega | rfl | (simp only [Int.ofNat_eq_natCast]; omega)) (by first | omega | rfl | (simp only [Int.ofNat_eq_natCast]; omega)) (by first | omega | rfl | (simp only [Int.ofNat_eq_natCast]; omega))) ho).elim fun σ ab => (⟨LSD.l1 1 1, σ, ⟨Nat.le_refl _, hn1, by omega⟩, (by show n - 1 < n + 1; omega), rfl, ab⟩ : ∃ s' σ, LSD.ok l n s' ∧ LSD.mu n s' < LSD.mu n .l0 ∧ (XE.ext 0, lfinD l n) = (XE.ext 0, lfinD l n) ∧ Abs 26 σ (LSD.st te l n s').env (LSD.st te l n s').h env h)
        exact bcase_tt (dcq_lt (by simp only [Int.ofNat_eq_natCast]; omega)) (bcase_tt (inB_of (by omega)) (bcase_tt (by show Bool.and (Nat.ble 1 n) true = true; rw [show Nat.ble 1 n = true from Nat.ble_eq_true_of_le hn1]; rfl) (bcase_tt (by rw [hb]; rfl) leaf)))
      | true =>
        have q1 : cntD l (0 + 1) = 1 ∧ nD l 0 = 0 ∧ tD l 0 = 0 ∧ sD l 0 = 1 := stepD_true hb
        have q1' : cntD l 1 = 1 ∧ nD l 0 = 0 ∧ tD l 0 = 0 ∧ sD l 0 = 1 := q1
        refine ⟨?_⟩
        show xcode C1 Tryz.prog F 9 (loopC Tryz.prog 9 10) (mask 9) (tmpsN Tryz.prog 9) (ls0D te l n).env (ls0D te l n).h (cond (l 0) dlD_f1a dlD_f0a) _
        rw [hb]
        refine round_use2 good1.spl (fun Kv => lrf1aD T.leaf te l n Kv) ?_
        have leaf : ∀ (env : Env) (h : H) (ds : List Bool), _ → _ := fun env h ds ho => (laD_f te l n 1 0 0 1 1 (by unfold inRowD; rw [hb]; rfl) (row3_eq (by first | omega | rfl | (simp only [Int.ofNat_eq_natCast]; omega)) (by first | omega | rfl | (simp only [Int.ofNat_eq_natCast]; omega)) (by first | omega | rfl | (simp only [Int.ofNat_eq_natCast]; omega))) ho).elim fun σ ab => (⟨LSD.l1 1 1, σ, ⟨Nat.le_refl _, hn1, by omega⟩, (by show n - 1 < n + 1; omega), rfl, ab⟩ : ∃ s' σ, LSD.ok l n s' ∧ LSD.mu n s' < LSD.mu n .l0 ∧ (XE.ext 0, lfinD l n) = (XE.ext 0, lfinD l n) ∧ Abs 26 σ (LSD.st te l n s').env (LSD.st te l n s').h env h)
        exact bcase_tt (dcq_lt (by simp only [Int.ofNat_eq_natCast]; omega)) (bcase_tt (inB_of (by omega)) (bcase_tt (by show Bool.and (Nat.ble 1 n) true = true; rw [show Nat.ble 1 n = true from Nat.ble_eq_true_of_le hn1]; rfl) (bcase_tt (by rw [hb]; rfl) leaf)))
    | l1 i c =>
      obtain ⟨h1, h2, p0⟩ := hs
      have hc := leD l i
      by_cases hlt : i < n
      · have hi60 : i < 60 := by omega
        cases hb : l i with
        | false =>
          have q1 : cntD l (i + 1) = cntD l i + 1 ∧ nD l i = cntD l i ∧ (cntD l i % 3 = 1 → tD l i = 1) ∧ (cntD l i % 3 ≠ 1 → tD l i = 0) ∧ (3 ≤ cntD l i → sD l i = 3) ∧ (cntD l i < 3 → sD l i = cntD l i + 1) := stepD_false hb
          rcases (by omega : c = 0 ∨ c = 1 ∨ c = 2 ∨ (3 ≤ c ∧ c % 3 = 1) ∨ (3 ≤ c ∧ c % 3 ≠ 1)) with hc | hc | hc | hc | hc
          · have hsel : selD0 c = dlD_s0a := by unfold selD0; rw [if_pos hc]
            refine ⟨?_⟩
            show xcode C1 Tryz.prog F 9 (loopC Tryz.prog 9 10) (mask 9) (tmpsN Tryz.prog 9) (lsD te l n i c).env (lsD te l n i c).h (cond (Nat.ble (i + 1) n) (cond (l i) (selD1 c) (selD0 c)) [false]) _
            rw [ble_t hlt, hb, hsel]
            have ec : c = 0 := by omega
            subst ec
            refine round_use2 good1.spl (fun Kv => lrs0aD (zbD l i) te l n i Kv) ?_
            have leaf : ∀ (env : Env) (h : H) (ds : List Bool), _ → _ := fun env h ds ho => (laD_s te l n hi60 0 0 0 1 1 (by unfold inRowD; rw [hb]; rfl) (row3_eq (by first | omega | rfl | (simp only [Int.ofNat_eq_natCast]; omega)) (by first | omega | rfl | (simp only [Int.ofNat_eq_natCast]; omega)) (by first | omega | rfl | (simp only [Int.ofNat_eq_natCast]; omega))) ho).elim fun σ ab => (⟨LSD.l1 (i + 1) 1, σ, ⟨by omega, hlt, by omega⟩, (by show n - (i + 1) < n - i; omega), rfl, ab⟩ : ∃ s' σ, LSD.ok l n s' ∧ LSD.mu n s' < LSD.mu n (.l1 i 0) ∧ (XE.ext 0, lfinD l n) = (XE.ext 0, lfinD l n) ∧ Abs 26 σ (LSD.st te l n s').env (LSD.st te l n s').h env h)
            exact bcase_tt (dcq_lt (by simp only [Int.ofNat_eq_natCast]; omega)) (bcase_tt (inB_of hlt) (bcase_tt (by rw [ix_eq]; show Bool.and (Nat.ble (i + 1) n) true = true; rw [ble_t hlt]; rfl) (bcase_tt (by rw [ix_eq, hb]; rfl) (bcase_tt (dcq_cap i) (bcase_tt (appC_ok (by rw [zrowsT_len]) (by omega)) (bcase_any (bcase_tt (dcq_cap i) (bcase_tt (appC_ok (by rw [zrowsT_len]) (by omega)) (bcase_any (bcase_tt (inR_add (by omega)) leaf) (bcase_tt (inR_add (by omega)) leaf)))) (bcase_tt (dcq_cap i) (bcase_tt (appC_ok (by rw [zrowsT_len]) (by omega)) (bcase_any (bcase_tt (inR_add (by omega)) leaf) (bcase_tt (inR_add (by omega)) leaf))))))))))
          · have hsel : selD0 c = dlD_s0b := by unfold selD0; rw [if_neg (by omega)]; rw [if_pos hc]
            refine ⟨?_⟩
            show xcode C1 Tryz.prog F 9 (loopC Tryz.prog 9 10) (mask 9) (tmpsN Tryz.prog 9) (lsD te l n i c).env (lsD te l n i c).h (cond (Nat.ble (i + 1) n) (cond (l i) (selD1 c) (selD0 c)) [false]) _
            rw [ble_t hlt, hb, hsel]
            have ec : c = 1 := by omega
            subst ec
            refine round_use2 good1.spl (fun Kv => lrs0bD (zbD l i) te l n i Kv) ?_
            have leaf : ∀ (env : Env) (h : H) (ds : List Bool), _ → _ := fun env h ds ho => (laD_s te l n hi60 0 1 1 2 2 (by unfold inRowD; rw [hb]; rfl) (row3_eq (by first | omega | rfl | (simp only [Int.ofNat_eq_natCast]; omega)) (by first | omega | rfl | (simp only [Int.ofNat_eq_natCast]; omega)) (by first | omega | rfl | (simp only [Int.ofNat_eq_natCast]; omega))) ho).elim fun σ ab => (⟨LSD.l1 (i + 1) 2, σ, ⟨by omega, hlt, by omega⟩, (by show n - (i + 1) < n - i; omega), rfl, ab⟩ : ∃ s' σ, LSD.ok l n s' ∧ LSD.mu n s' < LSD.mu n (.l1 i 1) ∧ (XE.ext 0, lfinD l n) = (XE.ext 0, lfinD l n) ∧ Abs 26 σ (LSD.st te l n s').env (LSD.st te l n s').h env h)
            exact bcase_tt (dcq_lt (by simp only [Int.ofNat_eq_natCast]; omega)) (bcase_tt (inB_of hlt) (bcase_tt (by rw [ix_eq]; show Bool.and (Nat.ble (i + 1) n) true = true; rw [ble_t hlt]; rfl) (bcase_tt (by rw [ix_eq, hb]; rfl) (bcase_tt (dcq_cap i) (bcase_tt (appC_ok (by rw [zrowsT_len]) (by omega)) (bcase_any (bcase_tt (dcq_cap i) (bcase_tt (appC_ok (by rw [zrowsT_len]) (by omega)) (bcase_any (bcase_tt (inR_add (by omega)) leaf) (bcase_tt (inR_add (by omega)) leaf)))) (bcase_tt (dcq_cap i) (bcase_tt (appC_ok (by rw [zrowsT_len]) (by omega)) (bcase_any (bcase_tt (inR_add (by omega)) leaf) (bcase_tt (inR_add (by omega)) leaf))))))))))
          · have hsel : selD0 c = dlD_s0c := by unfold selD0; rw [if_neg (by omega)]; rw [if_neg (by omega)]; rw [if_pos hc]
            refine ⟨?_⟩
            show xcode C1 Tryz.prog F 9 (loopC Tryz.prog 9 10) (mask 9) (tmpsN Tryz.prog 9) (lsD te l n i c).env (lsD te l n i c).h (cond (Nat.ble (i + 1) n) (cond (l i) (selD1 c) (selD0 c)) [false]) _
            rw [ble_t hlt, hb, hsel]
            have ec : c = 2 := by omega
            subst ec
            refine round_use2 good1.spl (fun Kv => lrs0cD (zbD l i) te l n i Kv) ?_
            have leaf : ∀ (env : Env) (h : H) (ds : List Bool), _ → _ := fun env h ds ho => (laD_s te l n hi60 0 2 0 3 3 (by unfold inRowD; rw [hb]; rfl) (row3_eq (by first | omega | rfl | (simp only [Int.ofNat_eq_natCast]; omega)) (by first | omega | rfl | (simp only [Int.ofNat_eq_natCast]; omega)) (by first | omega | rfl | (simp only [Int.ofNat_eq_natCast]; omega))) ho).elim fun σ ab => (⟨LSD.l1 (i + 1) 3, σ, ⟨by omega, hlt, by omega⟩, (by show n - (i + 1) < n - i; omega), rfl, ab⟩ : ∃ s' σ, LSD.ok l n s' ∧ LSD.mu n s' < LSD.mu n (.l1 i 2) ∧ (XE.ext 0, lfinD l n) = (XE.ext 0, lfinD l n) ∧ Abs 26 σ (LSD.st te l n s').env (LSD.st te l n s').h env h)
            exact bcase_tt (dcq_lt (by simp only [Int.ofNat_eq_natCast]; omega)) (bcase_tt (inB_of hlt) (bcase_tt (by rw [ix_eq]; show Bool.and (Nat.ble (i + 1) n) true = true; rw [ble_t hlt]; rfl) (bcase_tt (by rw [ix_eq, hb]; rfl) (bcase_tt (dcq_cap i) (bcase_tt (appC_ok (by rw [zrowsT_len]) (by omega)) (bcase_any (bcase_tt (dcq_cap i) (bcase_tt (appC_ok (by rw [zrowsT_len]) (by omega)) (bcase_any (bcase_tt (inR_add (by omega)) leaf) (bcase_tt (inR_add (by omega)) leaf)))) (bcase_tt (dcq_cap i) (bcase_tt (appC_ok (by rw [zrowsT_len]) (by omega)) (bcase_any (bcase_tt (inR_add (by omega)) leaf) (bcase_tt (inR_add (by omega)) leaf))))))))))
          · have hsel : selD0 c = dlD_s0d := by unfold selD0; rw [if_neg (by omega)]; rw [if_neg (by omega)]; rw [if_neg (by omega)]; rw [if_pos hc]
            refine ⟨?_⟩
            show xcode C1 Tryz.prog F 9 (loopC Tryz.prog 9 10) (mask 9) (tmpsN Tryz.prog 9) (lsD te l n i c).env (lsD te l n i c).h (cond (Nat.ble (i + 1) n) (cond (l i) (selD1 c) (selD0 c)) [false]) _
            rw [ble_t hlt, hb, hsel]
            refine round_use2 good1.spl (fun Kv => lrs0dD (zbD l i) te l n i c Kv) ?_
            have leaf : ∀ (env : Env) (h : H) (ds : List Bool), _ → _ := fun env h ds ho => (laD_s te l n hi60 0 c 1 3 ((c + 1)) (by unfold inRowD; rw [hb]; rfl) (row3_eq (by first | omega | rfl | (simp only [Int.ofNat_eq_natCast]; omega)) (by first | omega | rfl | (simp only [Int.ofNat_eq_natCast]; omega)) (by first | omega | rfl | (simp only [Int.ofNat_eq_natCast]; omega))) ho).elim fun σ ab => (⟨LSD.l1 (i + 1) ((c + 1)), σ, ⟨by omega, hlt, by omega⟩, (by show n - (i + 1) < n - i; omega), rfl, ab⟩ : ∃ s' σ, LSD.ok l n s' ∧ LSD.mu n s' < LSD.mu n (.l1 i c) ∧ (XE.ext 0, lfinD l n) = (XE.ext 0, lfinD l n) ∧ Abs 26 σ (LSD.st te l n s').env (LSD.st te l n s').h env h)
            exact bcase_tt (dcq_lt (by simp only [Int.ofNat_eq_natCast]; omega)) (bcase_tt (inB_of hlt) (bcase_tt (by rw [ix_eq]; show Bool.and (Nat.ble (i + 1) n) true = true; rw [ble_t hlt]; rfl) (bcase_tt (by rw [ix_eq, hb]; rfl) (bcase_tt (dcq_eq (by rw [Int.tmod_eq_emod_of_nonneg (by omega)]; omega)) (bcase_tt (inR_i64 (by omega) (by omega)) (bcase_tt (dcq_lt (by omega)) (bcase_tt (dcq_cap i) (bcase_tt (appC_ok (by rw [zrowsT_len]) (by omega)) (bcase_any (bcase_tt (dcq_cap i) (bcase_tt (appC_ok (by rw [zrowsT_len]) (by omega)) (bcase_any (bcase_tt (inR_i64 (by omega) (by omega)) (bcase_tt (inR_add (by omega)) leaf)) (bcase_tt (inR_i64 (by omega) (by omega)) (bcase_tt (inR_add (by omega)) leaf))))) (bcase_tt (dcq_cap i) (bcase_tt (appC_ok (by rw [zrowsT_len]) (by omega)) (bcase_any (bcase_tt (inR_i64 (by omega) (by omega)) (bcase_tt (inR_add (by omega)) leaf)) (bcase_tt (inR_i64 (by omega) (by omega)) (bcase_tt (inR_add (by omega)) leaf))))))))))))))
          · have hsel : selD0 c = dlD_s0e := by unfold selD0; rw [if_neg (by omega)]; rw [if_neg (by omega)]; rw [if_neg (by omega)]; rw [if_neg (by omega)]
            refine ⟨?_⟩
            show xcode C1 Tryz.prog F 9 (loopC Tryz.prog 9 10) (mask 9) (tmpsN Tryz.prog 9) (lsD te l n i c).env (lsD te l n i c).h (cond (Nat.ble (i + 1) n) (cond (l i) (selD1 c) (selD0 c)) [false]) _
            rw [ble_t hlt, hb, hsel]
            refine round_use2 good1.spl (fun Kv => lrs0eD (zbD l i) te l n i c Kv) ?_
            have leaf : ∀ (env : Env) (h : H) (ds : List Bool), _ → _ := fun env h ds ho => (laD_s te l n hi60 0 c 0 3 ((c + 1)) (by unfold inRowD; rw [hb]; rfl) (row3_eq (by first | omega | rfl | (simp only [Int.ofNat_eq_natCast]; omega)) (by first | omega | rfl | (simp only [Int.ofNat_eq_natCast]; omega)) (by first | omega | rfl | (simp only [Int.ofNat_eq_natCast]; omega))) ho).elim fun σ ab => (⟨LSD.l1 (i + 1) ((c + 1)), σ, ⟨by omega, hlt, by omega⟩, (by show n - (i + 1) < n - i; omega), rfl, ab⟩ : ∃ s' σ, LSD.ok l n s' ∧ LSD.mu n s' < LSD.mu n (.l1 i c) ∧ (XE.ext 0, lfinD l n) = (XE.ext 0, lfinD l n) ∧ Abs 26 σ (LSD.st te l n s').env (LSD.st te l n s').h env h)
            exact bcase_tt (dcq_lt (by simp only [Int.ofNat_eq_natCast]; omega)) (bcase_tt (inB_of hlt) (bcase_tt (by rw [ix_eq]; show Bool.and (Nat.ble (i + 1) n) true = true; rw [ble_t hlt]; rfl) (bcase_tt (by rw [ix_eq, hb]; rfl) (bcase_tt (dcq_ne (by rw [Int.tmod_eq_emod_of_nonneg (by omega)]; omega)) (bcase_tt (inR_i64 (by omega) (by omega)) (bcase_tt (dcq_lt (by omega)) (bcase_tt (dcq_cap i) (bcase_tt (appC_ok (by rw [zrowsT_len]) (by omega)) (bcase_any (bcase_tt (dcq_cap i) (bcase_tt (appC_ok (by rw [zrowsT_len]) (by omega)) (bcase_any (bcase_tt (inR_i64 (by omega) (by omega)) (bcase_tt (inR_add (by omega)) leaf)) (bcase_tt (inR_i64 (by omega) (by omega)) (bcase_tt (inR_add (by omega)) leaf))))) (bcase_tt (dcq_cap i) (bcase_tt (appC_ok (by rw [zrowsT_len]) (by omega)) (bcase_any (bcase_tt (inR_i64 (by omega) (by omega)) (bcase_tt (inR_add (by omega)) leaf)) (bcase_tt (inR_i64 (by omega) (by omega)) (bcase_tt (inR_add (by omega)) leaf))))))))))))))
        | true =>
          have q1 : cntD l (i + 1) = 1 ∧ nD l i = 0 ∧ tD l i = 0 ∧ sD l i = 1 := stepD_true hb
          rcases (by omega : c = c) with hc
          · have hsel : selD1 c = dlD_s1a := by unfold selD1; rfl
            refine ⟨?_⟩
            show xcode C1 Tryz.prog F 9 (loopC Tryz.prog 9 10) (mask 9) (tmpsN Tryz.prog 9) (lsD te l n i c).env (lsD te l n i c).h (cond (Nat.ble (i + 1) n) (cond (l i) (selD1 c) (selD0 c)) [false]) _
            rw [ble_t hlt, hb, hsel]
            refine round_use2 good1.spl (fun Kv => lrs1aD (zbD l i) te l n i c Kv) ?_
            have leaf : ∀ (env : Env) (h : H) (ds : List Bool), _ → _ := fun env h ds ho => (laD_s te l n hi60 1 0 0 1 1 (by unfold inRowD; rw [hb]; rfl) (row3_eq (by first | omega | rfl | (simp only [Int.ofNat_eq_natCast]; omega)) (by first | omega | rfl | (simp only [Int.ofNat_eq_natCast]; omega)) (by first | omega | rfl | (simp only [Int.ofNat_eq_natCast]; omega))) ho).elim fun σ ab => (⟨LSD.l1 (i + 1) 1, σ, ⟨by omega, hlt, by omega⟩, (by show n - (i + 1) < n - i; omega), rfl, ab⟩ : ∃ s' σ, LSD.ok l n s' ∧ LSD.mu n s' < LSD.mu n (.l1 i c) ∧ (XE.ext 0, lfinD l n) = (XE.ext 0, lfinD l n) ∧ Abs 26 σ (LSD.st te l n s').env (LSD.st te l n s').h env h)
            exact bcase_tt (dcq_lt (by simp only [Int.ofNat_eq_natCast]; omega)) (bcase_tt (inB_of hlt) (bcase_tt (by rw [ix_eq]; show Bool.and (Nat.ble (i + 1) n) true = true; rw [ble_t hlt]; rfl) (bcase_tt (by rw [ix_eq, hb]; rfl) (bcase_tt (dcq_cap i) (bcase_tt (appC_ok (by rw [zrowsT_len]) (by omega)) (bcase_any (bcase_tt (dcq_cap i) (bcase_tt (appC_ok (by rw [zrowsT_len]) (by omega)) (bcase_any (bcase_tt (inR_add (by omega)) leaf) (bcase_tt (inR_add (by omega)) leaf)))) (bcase_tt (dcq_cap i) (bcase_tt (appC_ok (by rw [zrowsT_len]) (by omega)) (bcase_any (bcase_tt (inR_add (by omega)) leaf) (bcase_tt (inR_add (by omega)) leaf))))))))))
      · have hin : i = n := by omega
        subst hin
        refine ⟨?_⟩
        show xcode C1 Tryz.prog F 9 (loopC Tryz.prog 9 10) (mask 9) (tmpsN Tryz.prog 9) (lsD te l i i c).env (lsD te l i i c).h (cond (Nat.ble (i + 1) i) (cond (l i) (selD1 c) (selD0 c)) [false]) _
        rw [ble_f (Nat.lt_irrefl i)]
        exact round_use2 good1.spl (fun Kv => lxD (zbD l i) te l i i c Kv)
          (bcase_tt (dcq_ge (by omega)) (fun env h ds ho => (lawDoneD (te := te) hn ho).elim fun σ ab => ⟨σ, rfl, ab⟩))
end
end Go.Proofs.YtkfhjobebhdpoaaGreat
/- Stream: StreamDeep runs to its end and answers true. -/
set_option autoImplicit false
set_option maxRecDepth 1000000
set_option maxHeartbeats 2000000
set_option linter.unusedVariables false
namespace Go.Proofs.YtkfhjobebhdpoaaGreat
noncomputable section
open Go.X
def conReadyD : Con := fun args h ds K => args = [.str nDt vDt] ∧ K (ren (shf h.next) VDt) (addAll h gDt) ds
def conRunD (l : Nat → Bool) (n : Nat) : Con := fun args h ds K => (args = [.agg [.slc 1 0 3 3 false 6], .str 1 102, .slc 30 0 n n false 1] ∧ h = (lfinD l n).h) ∧ K (.tup [.slc n0D 0 n n false 1, .int .i64 (Int.ofNat 0)]) (finD l n (zbD l n)).h ds
def conSameD (l : Nat → Bool) (n : Nat) : Con := fun args h ds K => (args = [.slc n0D 0 n n false 1, .slc 31 0 n n false 1] ∧ h = (finD l n (zbD l n)).h) ∧ K (.bool true) h ds
def valsD (l : Nat → Bool) : Nat → Nat → Int := fun i k => match k with | 0 => nD l i | 1 => tD l i | _ => sD l i
theorem rowsOutD {l : Nat → Bool} {n : Nat} (hn : n ≤ 60) : RowsAre (finD l n (zbD l n)).h n0D n 3 (fun i => zn (300 + i)) (valsD l) := by
  intro i hi
  have g1 : T.get (finD l n (zbD l n)).h.b n0D = some (.row (zrows 300 3 n) 22 true []) := by
    show (mkB (zoD l (zbD l n) n) (rrD (zrows 300 3 n) (zrowsT 0 1 n) (zrowsT 100 3 n))).get n0D = _
    unfold rrD
    rw [mkB_cons]; exact T.get_set_same _ _
  have g2 : T.get (finD l n (zbD l n)).h.b (zn (300 + i)) = some (outD l i) := by
    show (mkB (zoD l (zbD l n) n) (rrD (zrows 300 3 n) (zrowsT 0 1 n) (zrowsT 100 3 n))).get (zn (300 + i)) = _
    unfold rrD
    rw [mkB_cons, T.get_set_other _ _ _ (by show zn (300 + i) ≠ 1050009; rw [zn_eq]; omega), mkB_cons, T.get_set_other _ _ _ (by show zn (300 + i) ≠ 30; rw [zn_eq]; omega), mkB_cons, T.get_set_other _ _ _ (by show zn (300 + i) ≠ 31; rw [zn_eq]; omega), zput_zn]
    exact zgrow_new hi
  refine ⟨⟨3, false, Nat.le_refl _, cellOf_of g1 (zrows_get hi)⟩, fun k hk => ?_⟩
  match k, hk with
  | 0, _ => exact cellOf_of g2 rfl
  | 1, _ => exact cellOf_of g2 rfl
  | 2, _ => exact cellOf_of g2 rfl
theorem rowsWantD {l : Nat → Bool} {n : Nat} (hn : n ≤ 60) : RowsAre (finD l n (zbD l n)).h 31 n 3 (fun i => zn (100 + i)) (valsD l) := by
  intro i hi
  have g1 : T.get (finD l n (zbD l n)).h.b 31 = some (.row (zrowsT 100 3 n) 22 true []) := by
    show (mkB (zoD l (zbD l n) n) (rrD (zrows 300 3 n) (zrowsT 0 1 n) (zrowsT 100 3 n))).get 31 = _
    unfold rrD
    rw [mkB_cons, T.get_set_other _ _ _ (by show 31 ≠ 1050009; decide), mkB_cons, T.get_set_other _ _ _ (by show 31 ≠ 30; decide), mkB_cons]; exact T.get_set_same _ _
  have g2 : T.get (finD l n (zbD l n)).h.b (zn (100 + i)) = some (outD l i) := by
    show (mkB (zoD l (zbD l n) n) (rrD (zrows 300 3 n) (zrowsT 0 1 n) (zrowsT 100 3 n))).get (zn (100 + i)) = _
    unfold rrD
    rw [mkB_cons, T.get_set_other _ _ _ (by show zn (100 + i) ≠ 1050009; rw [zn_eq]; omega), mkB_cons, T.get_set_other _ _ _ (by show zn (100 + i) ≠ 30; rw [zn_eq]; omega), mkB_cons, T.get_set_other _ _ _ (by show zn (100 + i) ≠ 31; rw [zn_eq]; omega), zput_zn, zoD_low (by omega)]
    exact (zbD_get l n hn).2.1 i hi
  refine ⟨⟨3, true, Nat.le_refl _, cellOf_of g1 (zrowsT_get hi)⟩, fun k hk => ?_⟩
  match k, hk with
  | 0, _ => exact cellOf_of g2 rfl
  | 1, _ => exact cellOf_of g2 rfl
  | 2, _ => exact cellOf_of g2 rfl
theorem finD_hc {l : Nat → Bool} {n : Nat} (hn : n ≤ 60) : HC (finD l n (zbD l n)).h := by
  have : ZS.ok (finD l n (zbD l n)) 2097152 := ⟨rfl, rfl, blksN_row (by show 1050009 < 2097152; decide) (belD_O hn) (blksN_row (by decide) (belD_I hn) (blksN_row (by decide) (belD_W hn) rfl)), zoD_ok (zbD_in hn) hn⟩
  exact this.hc
/-- the contracts of a run of the law -/
def CL1D : Cfg := (C1.addCon 12 conTrue).addCon 13 conReadyD
def CL2D (l : Nat → Bool) (n : Nat) : Cfg := (CL1D.addCon 14 (conRunD l n)).addCon 16 (conSameD l n)
def CL3D (te : TypeId) (l : Nat → Bool) (n : Nat) : Cfg := (CL2D l n).addLc 9 10 (lcZ (S0 := Unit) (fun _ => True) (lmap (fun p => p.1) (ls0D te l n).E) (lmap (fun p => p.1) (ls0D te l n).B) (fun _ => ls0D te l n) (fun _ => (.ext 0, lfinD l n)))
theorem CL1D_good : X.Good CL1D Tryz.prog :=
  (good1.addCon 12 conTrue conTrue_spl (conTrue_ok alive_true)).addCon 13 conReadyD (fun args h ds K hk => ⟨_, _, _, hk.2, by show h.next ≤ h.next + llen gDt; omega, fun K' hk' => ⟨hk.1, hk'⟩⟩) (fun args h ds K hk => by obtain ⟨rfl, hk⟩ := hk; exact readyDt_ok hk)
theorem CL2D_good {l : Nat → Bool} {n : Nat} (hn1 : 1 ≤ n) (hn : n ≤ 60) : X.Good (CL2D l n) Tryz.prog := by
  refine (CL1D_good.addCon 14 (conRunD l n) (fun args h ds K hk => ⟨_, _, _, hk.2, by rw [hk.1.2]; show 1048576 ≤ 2097152; decide, fun K' hk' => ⟨hk.1, hk'⟩⟩) (fun args h ds K hk => ?_)).addCon 16 (conSameD l n) (fun args h ds K hk => ⟨_, _, _, hk.2, Nat.le_refl _, fun K' hk' => ⟨hk.1, hk'⟩⟩) (fun args h ds K hk => ?_)
  · obtain ⟨⟨rfl, rfl⟩, hk⟩ := hk
    exact runD_ok hn1 hn (zbD_in hn) hk
  · obtain ⟨⟨rfl, rfl⟩, hk⟩ := hk
    refine call_args (args2 := [.vs n0D 0 n (fun i => .row (zn (300 + i)) 3 (valsD l i)), .vs 31 0 n (fun i => .row (zn (100 + i)) 3 (valsD l i))]) (fun L vs hv => ?_) ?_
    · cases hv with
      | cons _ _ _ _ a b => cases b with
        | cons _ _ _ _ b c => exact .cons _ _ _ _ (rv_vs a) (.cons _ _ _ _ (rv_vs b) c)
    · exact same3_ok (finD_hc hn) (A := n0D) (B := 31) (by show 1050009 < 2097152; decide) (by show 31 < 2097152; decide) (rowsOutD hn) (rowsWantD hn) (by omega) hk
theorem CL3D_good (te : TypeId) {l : Nat → Bool} {n : Nat} (hn1 : 1 ≤ n) (hn : n ≤ 60) : X.Good (CL3D te l n) Tryz.prog := lawLoopD_good (CL2D_good hn1 hn) rfl rfl te hn1 hn
def hLawD (te : TypeId) (l : Nat → Bool) (n : Nat) : H := ⟨T.set T.leaf (.pur (pvB l) n te) 0, 1⟩
theorem lawD_key (te : TypeId) (l : Nat → Bool) (n : Nat) (K : AV → Prop) : xfun (CL3D te l n) Tryz.prog (xcode (CL3D te l n) Tryz.prog F) 9 [.slc 0 0 n n false 1] (hLawD te l n) [] (fun v _ _ => K v) =
    (bcase (ltI (Int.ofNat 60) (Int.ofNat n)) (K (.bool true)) ([AV.str nDt vDt] = [.str nDt vDt] ∧ ∃ _ : Unit, True ∧ (ls0D te l n).o0 = (ls0D te l n).o0 ∧
      (([AV.agg [.slc 1 0 3 3 false 6], .str 1 102, .slc 30 0 n n false 1] = [.agg [.slc 1 0 3 3 false 6], .str 1 102, .slc 30 0 n n false 1] ∧ (lfinD l n).h = (lfinD l n).h) ∧
        (([AV.slc n0D 0 n n false 1, .slc 31 0 n n false 1] = [.slc n0D 0 n n false 1, .slc 31 0 n n false 1] ∧ (finD l n (zbD l n)).h = (finD l n (zbD l n)).h) ∧ K (.bool true))))) := by kernel_rfl
theorem lawD_run (te : TypeId) {l : Nat → Bool} {n : Nat} (hn1 : 1 ≤ n) (hn : n ≤ 60) : Ran (xfun (CL3D te l n) Tryz.prog (xcode (CL3D te l n) Tryz.prog F) 9 [.slc 0 0 n n false 1] (hLawD te l n) [] (fun v _ _ => v = .bool true)) :=
  ⟨Eq.mpr (lawD_key te l n (fun v => v = .bool true)) (bcase_ff (by rw [ltI_eq]; simp; omega) ⟨rfl, (), trivial, rfl, ⟨rfl, rfl⟩, ⟨rfl, rfl⟩, rfl⟩)⟩
/-- more than sixty -/
theorem bigD_key (te : TypeId) (l : Nat → Bool) (n : Nat) (K : AV → Prop) : xfun CL1D Tryz.prog (xcode CL1D Tryz.prog F) 9 [.slc 0 0 n n false 1] (hLawD te l n) [true] (fun v _ _ => K v) = (bcase (dcq true (ltI (Int.ofNat 60) (Int.ofNat n))) (K (.bool true)) False) := by kernel_rfl
theorem bigD_run (te : TypeId) {l : Nat → Bool} {n : Nat} (hn : 60 < n) : Ran (xfun CL1D Tryz.prog (xcode CL1D Tryz.prog F) 9 [.slc 0 0 n n false 1] (hLawD te l n) [true] (fun v _ _ => v = .bool true)) :=
  ⟨Eq.mpr (bigD_key te l n (fun v => v = .bool true)) (bcase_tt (dcq_lt (by simp only [Int.ofNat_eq_natCast]; omega)) rfl)⟩
/-- the law of nothing -/
def CL0D : Cfg := (C0.addCon 12 conTrue).addCon 13 conReadyD
theorem CL0D_good : X.Good CL0D Tryz.prog :=
  (good0.addCon 12 conTrue conTrue_spl (conTrue_ok alive_true)).addCon 13 conReadyD (fun args h ds K hk => ⟨_, _, _, hk.2, by show h.next ≤ h.next + llen gDt; omega, fun K' hk' => ⟨hk.1, hk'⟩⟩) (fun args h ds K hk => by obtain ⟨rfl, hk⟩ := hk; exact readyDt_ok hk)
end
end Go.Proofs.YtkfhjobebhdpoaaGreat
/- Stream: StreamDeep of nothing. -/
set_option autoImplicit false
set_option maxRecDepth 1000000
set_option maxHeartbeats 2000000
set_option linter.unusedVariables false
namespace Go.Proofs.YtkfhjobebhdpoaaGreat
noncomputable section
open Go.X
theorem law0D_run : Ran (xfun CL0D Tryz.prog (xcode CL0D Tryz.prog F) 9 [.emp] hNil [] (fun v _ _ => v = .bool true)) :=
  ⟨Eq.mpr (β := ([AV.str nDt vDt] = [.str nDt vDt]) ∧ (AV.bool true = AV.bool true)) (by kernel_rfl) ⟨rfl, rfl⟩⟩
end
end Go.Proofs.YtkfhjobebhdpoaaGreat

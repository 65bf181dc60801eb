/- Stream: stream.Run on the program of StreamAutomata, as a contract. -/
import Derived.Test.YtkfhjobebhdpoaaGreatUA
import Derived.Test.YtkfhjobebhdpoaaGreatUy
set_option linter.unusedVariables false
set_option autoImplicit false
set_option maxRecDepth 1000000
set_option maxHeartbeats 2000000
set_option linter.unusedVariables false
namespace Go.Proofs.YtkfhjobebhdpoaaGreat
noncomputable section
open Go.X
def pU : List (Nat × Blk) := (23, .row [.slc 8 0 1 1 false 6] 26 true []) :: pFrom gUt 8
def hRunU (n : Nat) (z : T Blk) : H := ⟨mkB z (lapp (rr0U (zrowsT 0 1 n) (zrowsT 100 1 n)) pU), 1048576⟩
def conAskU (n : Nat) (z : T Blk) (g : Nat → CV) : Con := fun args h ds K => (args = [.slc 1049258 0 1 1 false 1, .vs 30 0 n g] ∧ h.next = 1049259 ∧ lmap (fun a => T.get h.b a) [1049258, 30] = [some (.row [.int .i64 1] 3 true []), some (.row (zrowsT 0 1 n) 22 true [])] ∧ zget h.b 12 = z) ∧ K (.int .i64 (Int.ofNat 0)) h ds
theorem conAskU_good {l : Nat → Bool} {n : Nat} (hn : n ≤ 60) {z : T Blk} (Zs : ZinU l n z) (g : Nat → CV) : X.Good (C0.addCon 24 (conAskU n z g)) Tryz.prog :=
  good0.addCon 24 _ (fun args h ds K hk => ⟨_, _, _, hk.2, Nat.le_refl _, fun K' hk' => ⟨hk.1, hk'⟩⟩) (fun args h ds K hk => by
    obtain ⟨⟨rfl, h1, h2, h3⟩, hk⟩ := hk
    refine ask_ok (l := l) h1 (by decide) (by decide) hn g (fun x k h => ?_) (belL_slc _ (fun j => zn (0 + j)) _ _ _ fun j hj => by have := List.mem_range.1 hj; rw [zn_eq]; omega) (by decide) h2 h3 (by decide) (fun j hj => Zs.ins j hj) hk
    obtain ⟨a, b⟩ := Zs.only x k h
    exact ⟨b, by rw [zn_eq]; omega, by rw [zn_eq]; show _ < 1000000000000; omega⟩)
def lcU (l : Nat → Bool) (n : Nat) (z : T Blk) (g : Nat → CV) : LCon := lcZ (S0 := Unit) (fun _ => True) (lmap (fun p => p.1) (eU n g .nils 0)) (lmap (fun p => p.1) (lapp (rr0U (zrowsT 0 1 n) (zrowsT 100 1 n)) bU0)) (fun _ => SU.st l n z (.s0 g)) (fun _ => (.ext 2, finU l n z))
def CRunU (l : Nat → Bool) (n : Nat) (z : T Blk) (g : Nat → CV) : Cfg := (C0.addCon 24 (conAskU n z g)).addLc 14 22 (lcU l n z g)
theorem runU_key (l : Nat → Bool) (n : Nat) (z : T Blk) (g : Nat → CV) (K : KV) : xfun (CRunU l n z g) Tryz.prog (xcode (CRunU l n z g) Tryz.prog F) 14 [.agg [.slc 8 0 1 1 false 6], .str 1 102, .vs 30 0 n g] (hRunU n z) [] K =
    ((([AV.slc 1049258 0 1 1 false 1, .vs 30 0 n g] = [.slc 1049258 0 1 1 false 1, .vs 30 0 n g] ∧ 1049259 = 1049259 ∧ [some (Blk.row [.int .i64 1] 3 true []), some (.row (zrowsT 0 1 n) 22 true [])] = [some (.row [.int .i64 1] 3 true []), some (.row (zrowsT 0 1 n) 22 true [])] ∧ z = z) ∧
      ∃ _ : Unit, True ∧ (SU.st l n z (.s0 g)).o0 = (SU.st l n z (.s0 g)).o0 ∧ K (.tup [.slc n0U 0 n n false 1, .int .i64 (Int.ofNat 0)]) (finU l n z).h [])) := by kernel_rfl
theorem runU_ok {l : Nat → Bool} {n : Nat} (hn1 : 1 ≤ n) (hn : n ≤ 60) {z : T Blk} (Zs : ZinU l n z) {cap : Nat} {ex : Bool} {ds : List Bool} {K : KV} (hK : K (.tup [.slc n0U 0 n n false 1, .int .i64 (Int.ofNat 0)]) (finU l n z).h ds) :
    CallOK Tryz.prog (fun _ => none) 14 [.agg [.slc 8 0 1 1 false 6], .str 1 102, .slc 30 0 n cap ex 1] (hRunU n z) K := by
  refine call_args (args2 := [.agg [.slc 8 0 1 1 false 6], .str 1 102, .vs 30 0 n (fun _ => .sc 0)]) (fun L vs hv => ?_) ?_
  · cases hv with
    | cons _ _ _ _ a b => cases b with
      | cons _ _ _ _ b c => cases c with
        | cons _ _ _ _ c d => exact .cons _ _ _ _ a (.cons _ _ _ _ b (.cons _ _ _ _ (rv_vs c) d))
  · have G : X.Good (CRunU l n z (fun _ => .sc 0)) Tryz.prog := loopU_good (conAskU_good hn Zs _) rfl rfl hn1 hn Zs _
    exact call_ds (ds := ds) (xrun_call G.ok G.spl (fuel := F) (ds := []) (Eq.mpr (runU_key l n z _ _) ⟨⟨rfl, rfl, rfl, rfl⟩, (), trivial, rfl, hK⟩))
end
end Go.Proofs.YtkfhjobebhdpoaaGreat
/- Stream: the loop of StreamAutomata that builds the ticks, its rounds. -/
set_option autoImplicit false
set_option maxRecDepth 1000000
set_option maxHeartbeats 2000000
set_option linter.unusedVariables false
namespace Go.Proofs.YtkfhjobebhdpoaaGreat
noncomputable section
open Go.X
def baseU (te : TypeId) (l : Nat → Bool) (n : Nat) (u : Int) (v : Int) : List (Nat × Blk) := (0, .pur (pvB l) n te) :: (24, .row [.int .i64 u, .int .i64 v] 3 true []) :: pU
def eLU (n : Nat) (ins want : AV) (c : Int) (u : Int) (v : Int) (i : Nat) : List (Nat × AV) := [(0, .slc 0 0 n n false 1), (1, .bool true), (2, .bool true), (11, .ptr 23 0), (12, .bool true), (13, ins), (14, want), (15, .int .i64 c), (16, .slc 24 0 2 2 true 1), (17, .int .i64 (Int.ofNat i))]
def w2U (cI cW : List AV) : List (Nat × Blk) := [(30, .row cI 22 true []), (31, .row cW 22 true [])]
def kPU : List Nat := [23, 8, 9, 10, 11, 12, 13, 14, 15, 16, 17, 18, 19, 20, 21, 22]
def kLU : List Nat := [0, 24, 23, 8, 9, 10, 11, 12, 13, 14, 15, 16, 17, 18, 19, 20, 21, 22]
def apU (rw : List AV) (i : Nat) (t : Prop) : Prop := bcase (dcq false (Nat.ble (Nat.add i 1) i)) (bcase (appC rw i) (bcase (Nat.ble (llen rw) (Nat.mul i 1)) t t) False) False
def rlU (i j : Nat) (n : Nat) (l : Nat → Bool) (b : Bool) (t : Prop) : Prop := bcase (inB (Int.ofNat i) n) (bcase (Bool.and (Nat.ble (Nat.succ j) n) true) (bcase (dcq b (l j)) t False) False) False
def oqfU (te : TypeId) (l : Nat → Bool) (n : Nat) (bv : Int) (w0 : Int) (c2 : Int) (u2 : Int) (v2 : Int) (Kv : XE → Obs → Prop) : KE := fun x env h _ => Kv x (obs [0, 1, 2, 11, 12, 13, 14, 15, 16, 17] (actsOf (lapp [(30, 27, .row (zrowsT 0 1 1) 22 true []), (31, 30, .row (zrowsT 100 1 1) 22 true [])] (zipA (baseU te l n u2 v2) kLU)) [(0, 25, .row [] 3 true []), (100 + 0, 28, .row [] 3 true [])]) (lapp [(30, 27, .row (zrowsT 0 1 1) 22 true []), (31, 30, .row (zrowsT 100 1 1) 22 true [])] (zipA (baseU te l n u2 v2) kLU)) [(0, 25, .row [] 3 true []), (100 + 0, 28, .row [] 3 true [])] env h)
def lqfU (z : T Blk) (te : TypeId) (l : Nat → Bool) (n : Nat) (bv : Int) (w0 : Int) (c2 : Int) (u2 : Int) (v2 : Int) (Kv : XE → Obs → Prop) : Prop := Kv .nrm (expsR 25 (kpOf z) (eLU n (.slc 30 0 1 1 false 1) (.slc 31 0 1 1 false 1) c2 u2 v2 1) [(30, 27, .row (zrowsT 0 1 1) 22 true []), (31, 30, .row (zrowsT 100 1 1) 22 true [])] (zipA (baseU te l n u2 v2) kLU) [(0, 25, .row [.int .i64 bv] 3 true []), (100 + 0, 28, .row [.int .i64 w0] 3 true [])] z [(some (.row [.slc 25 0 1 1 true 1] 22 true []), true), (some (.row [.slc 28 0 1 1 true 1] 22 true []), true)])
def oqsU (te : TypeId) (l : Nat → Bool) (n : Nat) (i : Nat) (bv : Int) (w0 : Int) (c2 : Int) (u2 : Int) (v2 : Int) (Kv : XE → Obs → Prop) : KE := fun x env h _ => Kv x (obs [0, 1, 2, 11, 12, 13, 14, 15, 16, 17] (actsOf (lapp [(30, 1048578, .row (zrowsT 0 1 (i + 1)) 22 true []), (31, 1048581, .row (zrowsT 100 1 (i + 1)) 22 true [])] (zipA (baseU te l n u2 v2) kLU)) [(i, 1048576, .row [] 3 true []), (100 + i, 1048579, .row [] 3 true [])]) (lapp [(30, 1048578, .row (zrowsT 0 1 (i + 1)) 22 true []), (31, 1048581, .row (zrowsT 100 1 (i + 1)) 22 true [])] (zipA (baseU te l n u2 v2) kLU)) [(i, 1048576, .row [] 3 true []), (100 + i, 1048579, .row [] 3 true [])] env h)
def lqsU (z : T Blk) (te : TypeId) (l : Nat → Bool) (n : Nat) (i : Nat) (bv : Int) (w0 : Int) (c2 : Int) (u2 : Int) (v2 : Int) (Kv : XE → Obs → Prop) : Prop := Kv .nrm (expsR 25 (kpOf z) (eLU n (.slc 30 0 (i + 1) (i + 1) false 1) (.slc 31 0 (i + 1) (i + 1) false 1) c2 u2 v2 (i + 1)) [(30, 1048578, .row (zrowsT 0 1 (i + 1)) 22 true []), (31, 1048581, .row (zrowsT 100 1 (i + 1)) 22 true [])] (zipA (baseU te l n u2 v2) kLU) [(i, 1048576, .row [.int .i64 bv] 3 true []), (100 + i, 1048579, .row [.int .i64 w0] 3 true [])] z [(some (.row (lapp (ltake (ldrop (zrowsT 0 1 i) 0) (Nat.mul i 1)) [.slc 1048576 0 1 1 true 1]) 22 true []), true), (some (.row (lapp (ltake (ldrop (zrowsT 100 1 i) 0) (Nat.mul i 1)) [.slc 1048579 0 1 1 true 1]) 22 true []), true)])
def dlU_f0a : List Bool := [true, false, false, false, false, true, true]
theorem lrf0aU (z : T Blk) (te : TypeId) (l : Nat → Bool) (n : Nat) (Kv : XE → Obs → Prop) : xcode C1 Tryz.prog F 6 (loopC Tryz.prog 6 19) (mask 6) (tmpsN Tryz.prog 6) (mkE (eLU n .nils .nils 0 0 100 0)) ⟨mkB z (baseU te l n 0 100), 25⟩ dlU_f0a (oqfU te l n 0 0 0 ((0 + 1)) 100 Kv) = (bcase (dcq true (ltI (Int.ofNat 0) (Int.ofNat n))) (rlU 0 0 n l false (rlU 0 0 n l false (lqfU z te l n 0 0 0 ((0 + 1)) 100 Kv))) False) := by kernel_rfl
def dlU_f1a : List Bool := [true, true, true, true, false, false, true, true]
theorem lrf1aU (z : T Blk) (te : TypeId) (l : Nat → Bool) (n : Nat) (Kv : XE → Obs → Prop) : xcode C1 Tryz.prog F 6 (loopC Tryz.prog 6 19) (mask 6) (tmpsN Tryz.prog 6) (mkE (eLU n .nils .nils 0 0 100 0)) ⟨mkB z (baseU te l n 0 100), 25⟩ dlU_f1a (oqfU te l n 1 100 1 0 ((100 + 1)) Kv) = (bcase (dcq true (ltI (Int.ofNat 0) (Int.ofNat n))) (rlU 0 0 n l true (rlU 0 0 n l true (lqfU z te l n 1 100 1 0 ((100 + 1)) Kv))) False) := by kernel_rfl
def dlU_s0a : List Bool := [true, false, false, false, false, false, false, true, true]
theorem lrs0aU (z : T Blk) (te : TypeId) (l : Nat → Bool) (n i : Nat) (u : Int) (v : Int) (Kv : XE → Obs → Prop) : xcode C1 Tryz.prog F 6 (loopC Tryz.prog 6 19) (mask 6) (tmpsN Tryz.prog 6) (mkE (eLU n (.slc 30 0 i i false 1) (.slc 31 0 i i false 1) 0 u v i)) ⟨mkB z (lapp (w2U (zrowsT 0 1 i) (zrowsT 100 1 i)) (baseU te l n u v)), 1048576⟩ dlU_s0a (oqsU te l n i 0 u 0 ((u + 1)) v Kv) = (bcase (dcq true (ltI (Int.ofNat i) (Int.ofNat n))) (rlU i (Nat.add 0 (Nat.mul (Int.toNat (Int.ofNat i)) 1)) n l false (rlU i (Nat.add 0 (Nat.mul (Int.toNat (Int.ofNat i)) 1)) n l false (apU (zrowsT 0 1 i) i (apU (zrowsT 100 1 i) i (bcase (inR .i64 (u + 1)) (bcase (inR .i64 (Int.ofNat i + Int.ofNat 1)) (lqsU z te l n i 0 u 0 ((u + 1)) v Kv) False) False))))) False) := by kernel_rfl
def dlU_s0b : List Bool := [true, false, false, false, false, false, false, true, true]
theorem lrs0bU (z : T Blk) (te : TypeId) (l : Nat → Bool) (n i : Nat) (u : Int) (v : Int) (Kv : XE → Obs → Prop) : xcode C1 Tryz.prog F 6 (loopC Tryz.prog 6 19) (mask 6) (tmpsN Tryz.prog 6) (mkE (eLU n (.slc 30 0 i i false 1) (.slc 31 0 i i false 1) 1 u v i)) ⟨mkB z (lapp (w2U (zrowsT 0 1 i) (zrowsT 100 1 i)) (baseU te l n u v)), 1048576⟩ dlU_s0b (oqsU te l n i 0 v 1 u ((v + 1)) Kv) = (bcase (dcq true (ltI (Int.ofNat i) (Int.ofNat n))) (rlU i (Nat.add 0 (Nat.mul (Int.toNat (Int.ofNat i)) 1)) n l false (rlU i (Nat.add 0 (Nat.mul (Int.toNat (Int.ofNat i)) 1)) n l false (apU (zrowsT 0 1 i) i (apU (zrowsT 100 1 i) i (bcase (inR .i64 (v + 1)) (bcase (inR .i64 (Int.ofNat i + Int.ofNat 1)) (lqsU z te l n i 0 v 1 u ((v + 1)) Kv) False) False))))) False) := by kernel_rfl
def dlU_s1a : List Bool := [true, true, true, true, false, false, false, false, true, true]
theorem lrs1aU (z : T Blk) (te : TypeId) (l : Nat → Bool) (n i : Nat) (u : Int) (v : Int) (Kv : XE → Obs → Prop) : xcode C1 Tryz.prog F 6 (loopC Tryz.prog 6 19) (mask 6) (tmpsN Tryz.prog 6) (mkE (eLU n (.slc 30 0 i i false 1) (.slc 31 0 i i false 1) 0 u v i)) ⟨mkB z (lapp (w2U (zrowsT 0 1 i) (zrowsT 100 1 i)) (baseU te l n u v)), 1048576⟩ dlU_s1a (oqsU te l n i 1 v 1 u ((v + 1)) Kv) = (bcase (dcq true (ltI (Int.ofNat i) (Int.ofNat n))) (rlU i (Nat.add 0 (Nat.mul (Int.toNat (Int.ofNat i)) 1)) n l true (rlU i (Nat.add 0 (Nat.mul (Int.toNat (Int.ofNat i)) 1)) n l true (apU (zrowsT 0 1 i) i (apU (zrowsT 100 1 i) i (bcase (inR .i64 (v + 1)) (bcase (inR .i64 (Int.ofNat i + Int.ofNat 1)) (lqsU z te l n i 1 v 1 u ((v + 1)) Kv) False) False))))) False) := by kernel_rfl
def dlU_s1b : List Bool := [true, true, true, true, false, false, false, false, true, true]
theorem lrs1bU (z : T Blk) (te : TypeId) (l : Nat → Bool) (n i : Nat) (u : Int) (v : Int) (Kv : XE → Obs → Prop) : xcode C1 Tryz.prog F 6 (loopC Tryz.prog 6 19) (mask 6) (tmpsN Tryz.prog 6) (mkE (eLU n (.slc 30 0 i i false 1) (.slc 31 0 i i false 1) 1 u v i)) ⟨mkB z (lapp (w2U (zrowsT 0 1 i) (zrowsT 100 1 i)) (baseU te l n u v)), 1048576⟩ dlU_s1b (oqsU te l n i 1 u 0 ((u + 1)) v Kv) = (bcase (dcq true (ltI (Int.ofNat i) (Int.ofNat n))) (rlU i (Nat.add 0 (Nat.mul (Int.toNat (Int.ofNat i)) 1)) n l true (rlU i (Nat.add 0 (Nat.mul (Int.toNat (Int.ofNat i)) 1)) n l true (apU (zrowsT 0 1 i) i (apU (zrowsT 100 1 i) i (bcase (inR .i64 (u + 1)) (bcase (inR .i64 (Int.ofNat i + Int.ofNat 1)) (lqsU z te l n i 1 u 0 ((u + 1)) v Kv) False) False))))) False) := by kernel_rfl
theorem lxU (z : T Blk) (te : TypeId) (l : Nat → Bool) (n i : Nat) (c : Int) (u : Int) (v : Int) (Kv : XE → Obs → Prop) : xcode C1 Tryz.prog F 6 (loopC Tryz.prog 6 19) (mask 6) (tmpsN Tryz.prog 6) (mkE (eLU n (.slc 30 0 i i false 1) (.slc 31 0 i i false 1) c u v i)) ⟨mkB z (lapp (w2U (zrowsT 0 1 i) (zrowsT 100 1 i)) (baseU te l n u v)), 1048576⟩ [false] (fun x env h _ => Kv x (obs [11, 12, 13, 14] (actsOf (lapp [(30, 30, .row (zrowsT 0 1 i) 22 true []), (31, 31, .row (zrowsT 100 1 i) 22 true [])] (zipA pU kPU)) []) (lapp [(30, 30, .row (zrowsT 0 1 i) 22 true []), (31, 31, .row (zrowsT 100 1 i) 22 true [])] (zipA pU kPU)) [] env h)) = (bcase (dcq false (ltI (Int.ofNat i) (Int.ofNat n))) (Kv (.ext 0) (expsR 25 (kpOf z) [(11, .ptr 23 0), (12, .bool true), (13, .slc 30 0 i i false 1), (14, .slc 31 0 i i false 1)] [(30, 30, .row (zrowsT 0 1 i) 22 true []), (31, 31, .row (zrowsT 100 1 i) 22 true [])] (zipA pU kPU) [] z [(some (.row (zrowsT 0 1 i) 22 true []), true), (some (.row (zrowsT 100 1 i) 22 true []), true)])) False) := by kernel_rfl
def selU0 (c : Int) (u : Int) (v : Int) : List Bool := if c = 0 then dlU_s0a else dlU_s0b
def selU1 (c : Int) (u : Int) (v : Int) : List Bool := if c = 0 then dlU_s1a else dlU_s1b
end
end Go.Proofs.YtkfhjobebhdpoaaGreat
/- Stream: the loop of StreamAutomata that builds the ticks, as a contract. -/
set_option autoImplicit false
set_option maxRecDepth 1000000
set_option maxHeartbeats 2000000
set_option linter.unusedVariables false
namespace Go.Proofs.YtkfhjobebhdpoaaGreat
noncomputable section
open Go.X
/-- the zone as far as round i -/
def zbU (l : Nat → Bool) (i : Nat) : T Blk := Nat.rec T.leaf (fun j ih => T.set (T.set ih (outU l j) (100 + j)) (inRowU l j) j) i
theorem zbU_succ (l : Nat → Bool) (i : Nat) : zbU l (i + 1) = T.set (T.set (zbU l i) (outU l i) (100 + i)) (inRowU l i) i := rfl
theorem zbU_get (l : Nat → Bool) : ∀ i, i ≤ 60 → (∀ j, j < i → (zbU l i).get j = some (inRowU l j)) ∧ (∀ j, j < i → (zbU l i).get (100 + j) = some (outU l j)) ∧ (∀ x k, (zbU l i).get x = some k → x < 200 ∧ IntRow k)
  | 0, _ => ⟨fun j h => by omega, fun j h => by omega, fun x k h => by cases h⟩
  | i + 1, hi => by
    obtain ⟨h1, h2, h3⟩ := zbU_get l i (by omega)
    rw [zbU_succ]
    refine ⟨fun j hj => ?_, fun j hj => ?_, fun x k h => ?_⟩
    · by_cases e : j = i
      · subst e; exact T.get_set_same _ _
      · rw [T.get_set_other _ _ _ e, T.get_set_other _ _ _ (by omega)]; exact h1 j (by omega)
    · by_cases e : j = i
      · subst e; rw [T.get_set_other _ _ _ (by omega)]; exact T.get_set_same _ _
      · rw [T.get_set_other _ _ _ (by omega), T.get_set_other _ _ _ (by omega)]; exact h2 j (by omega)
    · rcases T.get_set h with ⟨rfl, rfl⟩ | ⟨_, h⟩
      · exact ⟨by omega, [bi (l x)], 3, true, rfl⟩
      · rcases T.get_set h with ⟨rfl, rfl⟩ | ⟨_, h⟩
        · exact ⟨by omega, outU_int l i⟩
        · exact h3 x k h
theorem zbU_in {l : Nat → Bool} {n : Nat} (hn : n ≤ 60) : ZinU l n (zbU l n) := ⟨(zbU_get l n hn).1, (zbU_get l n hn).2.1, (zbU_get l n hn).2.2⟩
theorem zbU_ok {l : Nat → Bool} {i : Nat} (hi : i ≤ 60) : ZoneOK (zbU l i) 1048576 := fun x k h => by
  obtain ⟨a, b⟩ := (zbU_get l i hi).2.2 x k h
  exact ⟨b, by rw [zn_eq]; omega, by rw [zn_eq]; show _ < 1000000000000; omega⟩
def lsU (te : TypeId) (l : Nat → Bool) (n i : Nat) (c : Int) (u : Int) (v : Int) : ZS := ⟨eLU n (.slc 30 0 i i false 1) (.slc 31 0 i i false 1) c u v i, lapp (w2U (zrowsT 0 1 i) (zrowsT 100 1 i)) (baseU te l n u v), zbU l i, 1048576⟩
def ls0U (te : TypeId) (l : Nat → Bool) (n : Nat) : ZS := ⟨eLU n .nils .nils 0 0 100 0, baseU te l n 0 100, T.leaf, 25⟩
def lfinU (l : Nat → Bool) (n : Nat) : ZS := ⟨[(11, .ptr 23 0), (12, .bool true), (13, .slc 30 0 n n false 1), (14, .slc 31 0 n n false 1)], lapp (w2U (zrowsT 0 1 n) (zrowsT 100 1 n)) pU, zbU l n, 1048576⟩
theorem laU_f (te : TypeId) (l : Nat → Bool) (n : Nat) (bv : Int) (w0 : Int) (c2 : Int) (u2 : Int) (v2 : Int) (e1 : Blk.row [.int .i64 bv] 3 true [] = inRowU l 0) (e2 : Blk.row [.int .i64 w0] 3 true [] = outU l 0) {env : Env} {h : H}
    (ho : obs [0, 1, 2, 11, 12, 13, 14, 15, 16, 17] (actsOf (lapp [(30, 27, .row (zrowsT 0 1 1) 22 true []), (31, 30, .row (zrowsT 100 1 1) 22 true [])] (zipA (baseU te l n u2 v2) kLU)) [(0, 25, .row [] 3 true []), (100 + 0, 28, .row [] 3 true [])]) (lapp [(30, 27, .row (zrowsT 0 1 1) 22 true []), (31, 30, .row (zrowsT 100 1 1) 22 true [])] (zipA (baseU te l n u2 v2) kLU)) [(0, 25, .row [] 3 true []), (100 + 0, 28, .row [] 3 true [])] env h = expsR 25 (kpOf T.leaf) (eLU n (.slc 30 0 1 1 false 1) (.slc 31 0 1 1 false 1) c2 u2 v2 1) [(30, 27, .row (zrowsT 0 1 1) 22 true []), (31, 30, .row (zrowsT 100 1 1) 22 true [])] (zipA (baseU te l n u2 v2) kLU) [(0, 25, .row [.int .i64 bv] 3 true []), (100 + 0, 28, .row [.int .i64 w0] 3 true [])] T.leaf [(some (.row [.slc 25 0 1 1 true 1] 22 true []), true), (some (.row [.slc 28 0 1 1 true 1] 22 true []), true)]) : ∃ σ, Abs 25 σ (lsU te l n 1 c2 u2 v2).env (lsU te l n 1 c2 u2 v2).h env h := by
  have hlit : okLit 25 1048576 (lapp [(30, 27, .row (zrowsT 0 1 1) 22 true []), (31, 30, .row (zrowsT 100 1 1) 22 true [])] (zipA (baseU te l n u2 v2) kLU)) = true := okLit_row rfl (belL_slc _ (fun j => zn (0 + j)) _ _ _ fun j hj => by have := List.mem_range.1 hj; rw [zn_eq]; omega) (okLit_row rfl (belL_slc _ (fun j => zn (100 + j)) _ _ _ fun j hj => by have := List.mem_range.1 hj; rw [zn_eq]; omega) (by kernel_rfl))
  have hnd : (([(0, 25, .row [.int .i64 bv] 3 true []), (100 + 0, 28, .row [.int .i64 w0] 3 true [])] : List (Nat × Nat × Blk)).map (·.1)).Nodup := by
    show [0, 100 + 0].Nodup
    refine List.nodup_cons.2 ⟨fun h => ?_, List.nodup_cons.2 ⟨fun h => (by cases h), List.nodup_nil⟩⟩
    have := List.mem_singleton.1 h; omega
  rw [expsR_eq] at ho
  · refine NewOK.abs (t := lsU te l n 1 c2 u2 v2) (A := lapp [(30, 27, .row (zrowsT 0 1 1) 22 true []), (31, 30, .row (zrowsT 100 1 1) 22 true [])] (zipA (baseU te l n u2 v2) kLU)) (Z := [(0, 25, .row [.int .i64 bv] 3 true []), (100 + 0, 28, .row [.int .i64 w0] 3 true [])]) (z := T.leaf)
      ⟨by rw [lmap_app, zipA_B]; rfl, ?_, by show 25 ≤ 1048576; decide, by kernel_rfl, hlit, by kernel_rfl, by kernel_rfl, fun p hp => ?_, hnd, fun x k h => by cases h⟩ rfl rfl rfl rfl ho
    · show T.set (T.set T.leaf (outU l 0) (100 + 0)) (inRowU l 0) 0 = T.set (T.set T.leaf (.row [.int .i64 w0] 3 true []) (100 + 0)) (.row [.int .i64 bv] 3 true []) 0
      rw [← e1, ← e2]
    · rcases List.mem_cons.1 hp with rfl | hp
      · exact ⟨by show 25 ≤ zn 0; rw [zn_eq]; omega, by show zn 0 < 1048576; rw [zn_eq]; omega, by show 25 ≤ 25; decide, by show 25 < 1000000000000; decide, by show 25 % 4096 ≠ 4095; decide, [bv], 3, true, rfl⟩
      · rw [List.mem_singleton.1 hp]
        exact ⟨by show 25 ≤ zn (100 + 0); rw [zn_eq]; omega, by show zn (100 + 0) < 1048576; rw [zn_eq]; omega, by show 25 ≤ 28; decide, by show 28 < 1000000000000; decide, by show 28 % 4096 ≠ 4095; decide, [w0], 3, true, rfl⟩
  · have q1 : [.slc 25 0 1 1 true 1] = renL (szs 25 (namesOf (lapp [(30, 27, .row (zrowsT 0 1 1) 22 true []), (31, 30, .row (zrowsT 100 1 1) 22 true [])] (zipA (baseU te l n u2 v2) kLU)) [(0, 25, .row [.int .i64 bv] 3 true []), (100 + 0, 28, .row [.int .i64 w0] 3 true [])]) (kpOf T.leaf)) (zrowsT 0 1 1) := by
      refine zrowsT_grow (i := 0) (fun j hj => ?_) (szs_row (x := 0 + 0) hlit (by show 25 ≤ zn (0 + 0); rw [zn_eq]; omega) (by rw [Nat.zero_add]; exact List.mem_cons_self ..) hnd)
      omega
    have q2 : [.slc 28 0 1 1 true 1] = renL (szs 25 (namesOf (lapp [(30, 27, .row (zrowsT 0 1 1) 22 true []), (31, 30, .row (zrowsT 100 1 1) 22 true [])] (zipA (baseU te l n u2 v2) kLU)) [(0, 25, .row [.int .i64 bv] 3 true []), (100 + 0, 28, .row [.int .i64 w0] 3 true [])]) (kpOf T.leaf)) (zrowsT 100 1 1) := by
      refine zrowsT_grow (i := 0) (fun j hj => ?_) (szs_row (x := 100 + 0) hlit (by show 25 ≤ zn (100 + 0); rw [zn_eq]; omega) (List.mem_cons_of_mem _ (List.mem_singleton.2 rfl)) hnd)
      omega
    show [(some (Blk.row _ _ _ _), true), (some (Blk.row _ _ _ _), true)] = [(some (Blk.row (renL _ _) _ _ _), true), (some (Blk.row (renL _ _) _ _ _), true)]
    rw [← q1, ← q2]; rfl
theorem laU_s (te : TypeId) (l : Nat → Bool) (n : Nat) {i : Nat} (hi : i < 60) (bv : Int) (w0 : Int) (c2 : Int) (u2 : Int) (v2 : Int) (e1 : Blk.row [.int .i64 bv] 3 true [] = inRowU l i) (e2 : Blk.row [.int .i64 w0] 3 true [] = outU l i) {env : Env} {h : H}
    (ho : obs [0, 1, 2, 11, 12, 13, 14, 15, 16, 17] (actsOf (lapp [(30, 1048578, .row (zrowsT 0 1 (i + 1)) 22 true []), (31, 1048581, .row (zrowsT 100 1 (i + 1)) 22 true [])] (zipA (baseU te l n u2 v2) kLU)) [(i, 1048576, .row [] 3 true []), (100 + i, 1048579, .row [] 3 true [])]) (lapp [(30, 1048578, .row (zrowsT 0 1 (i + 1)) 22 true []), (31, 1048581, .row (zrowsT 100 1 (i + 1)) 22 true [])] (zipA (baseU te l n u2 v2) kLU)) [(i, 1048576, .row [] 3 true []), (100 + i, 1048579, .row [] 3 true [])] env h = expsR 25 (kpOf (zbU l i)) (eLU n (.slc 30 0 (i + 1) (i + 1) false 1) (.slc 31 0 (i + 1) (i + 1) false 1) c2 u2 v2 (i + 1)) [(30, 1048578, .row (zrowsT 0 1 (i + 1)) 22 true []), (31, 1048581, .row (zrowsT 100 1 (i + 1)) 22 true [])] (zipA (baseU te l n u2 v2) kLU) [(i, 1048576, .row [.int .i64 bv] 3 true []), (100 + i, 1048579, .row [.int .i64 w0] 3 true [])] (zbU l i) [(some (.row (lapp (ltake (ldrop (zrowsT 0 1 i) 0) (Nat.mul i 1)) [.slc 1048576 0 1 1 true 1]) 22 true []), true), (some (.row (lapp (ltake (ldrop (zrowsT 100 1 i) 0) (Nat.mul i 1)) [.slc 1048579 0 1 1 true 1]) 22 true []), true)]) : ∃ σ, Abs 25 σ (lsU te l n (i + 1) c2 u2 v2).env (lsU te l n (i + 1) c2 u2 v2).h env h := by
  have hlit : okLit 25 1048576 (lapp [(30, 1048578, .row (zrowsT 0 1 (i + 1)) 22 true []), (31, 1048581, .row (zrowsT 100 1 (i + 1)) 22 true [])] (zipA (baseU te l n u2 v2) kLU)) = true := okLit_row rfl (belL_slc _ (fun j => zn (0 + j)) _ _ _ fun j hj => by have := List.mem_range.1 hj; rw [zn_eq]; omega) (okLit_row rfl (belL_slc _ (fun j => zn (100 + j)) _ _ _ fun j hj => by have := List.mem_range.1 hj; rw [zn_eq]; omega) (by kernel_rfl))
  have hnd : (([(i, 1048576, .row [.int .i64 bv] 3 true []), (100 + i, 1048579, .row [.int .i64 w0] 3 true [])] : List (Nat × Nat × Blk)).map (·.1)).Nodup := by
    show [i, 100 + i].Nodup
    refine List.nodup_cons.2 ⟨fun h => ?_, List.nodup_cons.2 ⟨fun h => (by cases h), List.nodup_nil⟩⟩
    have := List.mem_singleton.1 h; omega
  rw [expsR_eq] at ho
  · refine NewOK.abs (t := lsU te l n (i + 1) c2 u2 v2) (A := lapp [(30, 1048578, .row (zrowsT 0 1 (i + 1)) 22 true []), (31, 1048581, .row (zrowsT 100 1 (i + 1)) 22 true [])] (zipA (baseU te l n u2 v2) kLU)) (Z := [(i, 1048576, .row [.int .i64 bv] 3 true []), (100 + i, 1048579, .row [.int .i64 w0] 3 true [])]) (z := (zbU l i))
      ⟨by rw [lmap_app, zipA_B]; rfl, ?_, by show 25 ≤ 1048576; decide, by kernel_rfl, hlit, by kernel_rfl, by kernel_rfl, fun p hp => ?_, hnd, zbU_ok (by omega)⟩ rfl rfl rfl rfl ho
    · show T.set (T.set (zbU l i) (outU l i) (100 + i)) (inRowU l i) i = T.set (T.set (zbU l i) (.row [.int .i64 w0] 3 true []) (100 + i)) (.row [.int .i64 bv] 3 true []) i
      rw [← e1, ← e2]
    · rcases List.mem_cons.1 hp with rfl | hp
      · exact ⟨by show 25 ≤ zn i; rw [zn_eq]; omega, by show zn i < 1048576; rw [zn_eq]; omega, by show 25 ≤ 1048576; decide, by show 1048576 < 1000000000000; decide, by show 1048576 % 4096 ≠ 4095; decide, [bv], 3, true, rfl⟩
      · rw [List.mem_singleton.1 hp]
        exact ⟨by show 25 ≤ zn (100 + i); rw [zn_eq]; omega, by show zn (100 + i) < 1048576; rw [zn_eq]; omega, by show 25 ≤ 1048579; decide, by show 1048579 < 1000000000000; decide, by show 1048579 % 4096 ≠ 4095; decide, [w0], 3, true, rfl⟩
  · have q1 : (lapp (ltake (ldrop (zrowsT 0 1 i) 0) (Nat.mul i 1)) [.slc 1048576 0 1 1 true 1]) = renL (szs 25 (namesOf (lapp [(30, 1048578, .row (zrowsT 0 1 (i + 1)) 22 true []), (31, 1048581, .row (zrowsT 100 1 (i + 1)) 22 true [])] (zipA (baseU te l n u2 v2) kLU)) [(i, 1048576, .row [.int .i64 bv] 3 true []), (100 + i, 1048579, .row [.int .i64 w0] 3 true [])]) (kpOf (zbU l i))) (zrowsT 0 1 (i + 1)) := by
      refine zrowsT_grow (i := i) (fun j hj => ?_) (szs_row (x := 0 + i) hlit (by show 25 ≤ zn (0 + i); rw [zn_eq]; omega) (by rw [Nat.zero_add]; exact List.mem_cons_self ..) hnd)
      exact szs_zone hlit (by rw [Nat.zero_add]; exact (zbU_get l i (by omega)).1 j hj) (fun p hp e => by rcases List.mem_cons.1 hp with rfl | hp; (have e : i = 0 + j := e; omega); rw [List.mem_singleton.1 hp] at e; have e : 100 + i = 0 + j := e; omega)
    have q2 : (lapp (ltake (ldrop (zrowsT 100 1 i) 0) (Nat.mul i 1)) [.slc 1048579 0 1 1 true 1]) = renL (szs 25 (namesOf (lapp [(30, 1048578, .row (zrowsT 0 1 (i + 1)) 22 true []), (31, 1048581, .row (zrowsT 100 1 (i + 1)) 22 true [])] (zipA (baseU te l n u2 v2) kLU)) [(i, 1048576, .row [.int .i64 bv] 3 true []), (100 + i, 1048579, .row [.int .i64 w0] 3 true [])]) (kpOf (zbU l i))) (zrowsT 100 1 (i + 1)) := by
      refine zrowsT_grow (i := i) (fun j hj => ?_) (szs_row (x := 100 + i) hlit (by show 25 ≤ zn (100 + i); rw [zn_eq]; omega) (List.mem_cons_of_mem _ (List.mem_singleton.2 rfl)) hnd)
      exact szs_zone hlit ((zbU_get l i (by omega)).2.1 j hj) (fun p hp e => by rcases List.mem_cons.1 hp with rfl | hp; (have e : i = 100 + j := e; omega); rw [List.mem_singleton.1 hp] at e; have e : 100 + i = 100 + j := e; omega)
    show [(some (Blk.row _ _ _ _), true), (some (Blk.row _ _ _ _), true)] = [(some (Blk.row (renL _ _) _ _ _), true), (some (Blk.row (renL _ _) _ _ _), true)]
    rw [← q1, ← q2]; rfl
end
end Go.Proofs.YtkfhjobebhdpoaaGreat
/- Stream: the loop of StreamAutomata as a contract, with its end. -/
set_option autoImplicit false
set_option maxRecDepth 1000000
set_option maxHeartbeats 2000000
set_option linter.unusedVariables false
namespace Go.Proofs.YtkfhjobebhdpoaaGreat
noncomputable section
open Go.X
inductive LSU where
  | l0
  | l1 (i : Nat) (c : Int) (u : Int) (v : Int)
def LSU.ok (l : Nat → Bool) (n : Nat) : LSU → Prop
  | .l0 => True
  | .l1 i c u v => 1 ≤ i ∧ i ≤ n ∧ c = nowU l i ∧ u = uU l i ∧ v = vU l i
def LSU.st (te : TypeId) (l : Nat → Bool) (n : Nat) : LSU → ZS
  | .l0 => ls0U te l n
  | .l1 i c u v => lsU te l n i c u v
def LSU.dr (l : Nat → Bool) (n : Nat) : LSU → List Bool
  | .l0 => (cond (l 0) dlU_f1a dlU_f0a)
  | .l1 i c u v => cond (Nat.ble (i + 1) n) (cond (l i) (selU1 c u v) (selU0 c u v)) [false]
def LSU.mu (n : Nat) : LSU → Nat
  | .l0 => n + 1
  | .l1 i _ _ _ => n - i
theorem lawDoneU {te : TypeId} {l : Nat → Bool} {n : Nat} (hn : n ≤ 60) {env : Env} {h : H}
    (ho : obs [11, 12, 13, 14] (actsOf (lapp [(30, 30, .row (zrowsT 0 1 n) 22 true []), (31, 31, .row (zrowsT 100 1 n) 22 true [])] (zipA pU kPU)) []) (lapp [(30, 30, .row (zrowsT 0 1 n) 22 true []), (31, 31, .row (zrowsT 100 1 n) 22 true [])] (zipA pU kPU)) [] env h =
      expsR 25 (kpOf (zbU l n)) [(11, .ptr 23 0), (12, .bool true), (13, .slc 30 0 n n false 1), (14, .slc 31 0 n n false 1)] [(30, 30, .row (zrowsT 0 1 n) 22 true []), (31, 31, .row (zrowsT 100 1 n) 22 true [])] (zipA pU kPU) [] (zbU l n) [(some (.row (zrowsT 0 1 n) 22 true []), true), (some (.row (zrowsT 100 1 n) 22 true []), true)]) :
    ∃ σ, Abs 25 σ (lfinU l n).env (lfinU l n).h env h := by
  have hlit : okLit 25 1048576 (lapp [(30, 30, .row (zrowsT 0 1 n) 22 true []), (31, 31, .row (zrowsT 100 1 n) 22 true [])] (zipA pU kPU)) = true := okLit_row rfl (belL_slc _ (fun j => zn (0 + j)) _ _ _ fun j hj => by have := List.mem_range.1 hj; rw [zn_eq]; omega) (okLit_row rfl (belL_slc _ (fun j => zn (100 + j)) _ _ _ fun j hj => by have := List.mem_range.1 hj; rw [zn_eq]; omega) (by kernel_rfl))
  have zg := zbU_get l n hn
  have k1 : renL (szs 25 (namesOf (lapp [(30, 30, .row (zrowsT 0 1 n) 22 true []), (31, 31, .row (zrowsT 100 1 n) 22 true [])] (zipA pU kPU)) []) (kpOf (zbU l n))) (zrowsT 0 1 n) = zrowsT 0 1 n := by
    exact zrowsT_keep fun j hj => szs_zone hlit (by rw [Nat.zero_add]; exact zg.1 j hj) (fun p hp e => by cases hp)
  have k2 : renL (szs 25 (namesOf (lapp [(30, 30, .row (zrowsT 0 1 n) 22 true []), (31, 31, .row (zrowsT 100 1 n) 22 true [])] (zipA pU kPU)) []) (kpOf (zbU l n))) (zrowsT 100 1 n) = zrowsT 100 1 n := by
    exact zrowsT_keep fun j hj => szs_zone hlit (zg.2.1 j hj) (fun p hp e => by cases hp)
  rw [expsR_eq] at ho
  · exact NewOK.abs (t := lfinU l n) (A := lapp [(30, 30, .row (zrowsT 0 1 n) 22 true []), (31, 31, .row (zrowsT 100 1 n) 22 true [])] (zipA pU kPU)) (Z := []) (z := zbU l n)
      ⟨by rw [lmap_app, zipA_B]; rfl, rfl, by show 25 ≤ 1048576; decide, rfl, hlit, by kernel_rfl, by kernel_rfl, (fun p hp => (by cases hp)), List.nodup_nil, zbU_ok hn⟩ rfl rfl rfl rfl ho
  · show _ = [(some (Blk.row (renL _ _) _ _ _), true), (some (Blk.row (renL _ _) _ _ _), true)]
    rw [k1, k2]; rfl
theorem lawLoopU_good {C : Cfg} (G : X.Good C Tryz.prog) (hg : C.gl = fun _ => none) (hm : C.mask 6 = mask 6) (te : TypeId) {l : Nat → Bool} {n : Nat} (hn1 : 1 ≤ n) (hn : n ≤ 60) :
    X.Good (C.addLc 6 19 (lcZ (S0 := Unit) (fun _ => True) (lmap (fun p => p.1) (ls0U te l n).E) (lmap (fun p => p.1) (ls0U te l n).B) (fun _ => ls0U te l n) (fun _ => (.ext 0, lfinU l n)))) Tryz.prog := by
  refine G.addZR good1 (by rw [hg]; rfl) (S := LSU) (LSU.dr l n) (n0 := 25) (ι := fun _ => .l0) (ok := LSU.ok l n) (St := LSU.st te l n) (fun s => (LSU.st te l n s).E) (μ := LSU.mu n) (fin := fun _ => (.ext 0, lfinU l n)) (fuel := F) hm.symm (by rfl) (fun s _ => Pe.refl _) ?_ ?_ (fun g i h => by rw [hg] at h; cases h)
  · intro _ _
    refine ⟨trivial, rfl, rfl, ⟨rfl, by kernel_rfl, by kernel_rfl, fun x k h => by cases h⟩, by show 25 ≤ 1048576; decide, rfl, rfl⟩
  · intro s hs
    rw [hm]
    cases s with
    | l0 =>
      have hc := leU l 0
      have z0 : nowU l 0 = 0 := rfl
      have z1 : uU l 0 = 0 := rfl
      have z2 : vU l 0 = 100 := rfl
      cases hb : l 0 with
      | false =>
        have q1 := stepU_false0 hb
        refine ⟨?_⟩
        show xcode C1 Tryz.prog F 6 (loopC Tryz.prog 6 19) (mask 6) (tmpsN Tryz.prog 6) (ls0U te l n).env (ls0U te l n).h (cond (l 0) dlU_f1a dlU_f0a) _
        rw [hb]
        refine round_use2 good1.spl (fun Kv => lrf0aU T.leaf te l n Kv) ?_
        have leaf : ∀ (env : Env) (h : H) (ds : List Bool), _ → _ := fun env h ds ho => (laU_f te l n 0 0 0 ((0 + 1)) 100 (by unfold inRowU; rw [hb]; rfl) (row1_eq (by first | omega | rfl | (simp only [Int.ofNat_eq_natCast]; omega))) ho).elim fun σ ab => (⟨LSU.l1 1 0 ((0 + 1)) 100, σ, ⟨Nat.le_refl _, hn1, by omega, by omega, by omega⟩, (by show n - 1 < n + 1; omega), rfl, ab⟩ : ∃ s' σ, LSU.ok l n s' ∧ LSU.mu n s' < LSU.mu n .l0 ∧ (XE.ext 0, lfinU l n) = (XE.ext 0, lfinU l n) ∧ Abs 25 σ (LSU.st te l n s').env (LSU.st te l n s').h env h)
        exact bcase_tt (dcq_lt (by simp only [Int.ofNat_eq_natCast]; omega)) (bcase_tt (inB_of (by omega)) (bcase_tt (by show Bool.and (Nat.ble 1 n) true = true; rw [show Nat.ble 1 n = true from Nat.ble_eq_true_of_le hn1]; rfl) (bcase_tt (by rw [hb]; rfl) (bcase_tt (inB_of (by omega)) (bcase_tt (by show Bool.and (Nat.ble 1 n) true = true; rw [show Nat.ble 1 n = true from Nat.ble_eq_true_of_le hn1]; rfl) (bcase_tt (by rw [hb]; rfl) leaf))))))
      | true =>
        have q1 := stepU_true0 hb
        refine ⟨?_⟩
        show xcode C1 Tryz.prog F 6 (loopC Tryz.prog 6 19) (mask 6) (tmpsN Tryz.prog 6) (ls0U te l n).env (ls0U te l n).h (cond (l 0) dlU_f1a dlU_f0a) _
        rw [hb]
        refine round_use2 good1.spl (fun Kv => lrf1aU T.leaf te l n Kv) ?_
        have leaf : ∀ (env : Env) (h : H) (ds : List Bool), _ → _ := fun env h ds ho => (laU_f te l n 1 100 1 0 ((100 + 1)) (by unfold inRowU; rw [hb]; rfl) (row1_eq (by first | omega | rfl | (simp only [Int.ofNat_eq_natCast]; omega))) ho).elim fun σ ab => (⟨LSU.l1 1 1 0 ((100 + 1)), σ, ⟨Nat.le_refl _, hn1, by omega, by omega, by omega⟩, (by show n - 1 < n + 1; omega), rfl, ab⟩ : ∃ s' σ, LSU.ok l n s' ∧ LSU.mu n s' < LSU.mu n .l0 ∧ (XE.ext 0, lfinU l n) = (XE.ext 0, lfinU l n) ∧ Abs 25 σ (LSU.st te l n s').env (LSU.st te l n s').h env h)
        exact bcase_tt (dcq_lt (by simp only [Int.ofNat_eq_natCast]; omega)) (bcase_tt (inB_of (by omega)) (bcase_tt (by show Bool.and (Nat.ble 1 n) true = true; rw [show Nat.ble 1 n = true from Nat.ble_eq_true_of_le hn1]; rfl) (bcase_tt (by rw [hb]; rfl) (bcase_tt (inB_of (by omega)) (bcase_tt (by show Bool.and (Nat.ble 1 n) true = true; rw [show Nat.ble 1 n = true from Nat.ble_eq_true_of_le hn1]; rfl) (bcase_tt (by rw [hb]; rfl) leaf))))))
    | l1 i c u v =>
      obtain ⟨h1, h2, p0, p1, p2⟩ := hs
      have hc := leU l i
      by_cases hlt : i < n
      · have hi60 : i < 60 := by omega
        cases hb : l i with
        | false =>
          have q1 := stepU_false hb
          rcases (by omega : c = 0 ∨ c = 1) with hc | hc
          · have hsel : selU0 c u v = dlU_s0a := by unfold selU0; rw [if_pos hc]
            refine ⟨?_⟩
            show xcode C1 Tryz.prog F 6 (loopC Tryz.prog 6 19) (mask 6) (tmpsN Tryz.prog 6) (lsU te l n i c u v).env (lsU te l n i c u v).h (cond (Nat.ble (i + 1) n) (cond (l i) (selU1 c u v) (selU0 c u v)) [false]) _
            rw [ble_t hlt, hb, hsel]
            have ec : c = 0 := by omega
            subst ec
            refine round_use2 good1.spl (fun Kv => lrs0aU (zbU l i) te l n i u v Kv) ?_
            have leaf : ∀ (env : Env) (h : H) (ds : List Bool), _ → _ := fun env h ds ho => (laU_s te l n hi60 0 u 0 ((u + 1)) v (by unfold inRowU; rw [hb]; rfl) (row1_eq (by first | omega | rfl | (simp only [Int.ofNat_eq_natCast]; omega))) ho).elim fun σ ab => (⟨LSU.l1 (i + 1) 0 ((u + 1)) v, σ, ⟨by omega, hlt, by omega, by omega, by omega⟩, (by show n - (i + 1) < n - i; omega), rfl, ab⟩ : ∃ s' σ, LSU.ok l n s' ∧ LSU.mu n s' < LSU.mu n (.l1 i 0 u v) ∧ (XE.ext 0, lfinU l n) = (XE.ext 0, lfinU l n) ∧ Abs 25 σ (LSU.st te l n s').env (LSU.st te l n s').h env h)
            exact bcase_tt (dcq_lt (by simp only [Int.ofNat_eq_natCast]; omega)) (bcase_tt (inB_of hlt) (bcase_tt (by rw [ix_eq]; show Bool.and (Nat.ble (i + 1) n) true = true; rw [ble_t hlt]; rfl) (bcase_tt (by rw [ix_eq, hb]; rfl) (bcase_tt (inB_of hlt) (bcase_tt (by rw [ix_eq]; show Bool.and (Nat.ble (i + 1) n) true = true; rw [ble_t hlt]; rfl) (bcase_tt (by rw [ix_eq, hb]; rfl) (bcase_tt (dcq_cap i) (bcase_tt (appC_ok (by rw [zrowsT_len]) (by omega)) (bcase_any (bcase_tt (dcq_cap i) (bcase_tt (appC_ok (by rw [zrowsT_len]) (by omega)) (bcase_any (bcase_tt (inR_i64 (by omega) (by omega)) (bcase_tt (inR_add (by omega)) leaf)) (bcase_tt (inR_i64 (by omega) (by omega)) (bcase_tt (inR_add (by omega)) leaf))))) (bcase_tt (dcq_cap i) (bcase_tt (appC_ok (by rw [zrowsT_len]) (by omega)) (bcase_any (bcase_tt (inR_i64 (by omega) (by omega)) (bcase_tt (inR_add (by omega)) leaf)) (bcase_tt (inR_i64 (by omega) (by omega)) (bcase_tt (inR_add (by omega)) leaf))))))))))))))
          · have hsel : selU0 c u v = dlU_s0b := by unfold selU0; rw [if_neg (by omega)]
            refine ⟨?_⟩
            show xcode C1 Tryz.prog F 6 (loopC Tryz.prog 6 19) (mask 6) (tmpsN Tryz.prog 6) (lsU te l n i c u v).env (lsU te l n i c u v).h (cond (Nat.ble (i + 1) n) (cond (l i) (selU1 c u v) (selU0 c u v)) [false]) _
            rw [ble_t hlt, hb, hsel]
            have ec : c = 1 := by omega
            subst ec
            refine round_use2 good1.spl (fun Kv => lrs0bU (zbU l i) te l n i u v Kv) ?_
            have leaf : ∀ (env : Env) (h : H) (ds : List Bool), _ → _ := fun env h ds ho => (laU_s te l n hi60 0 v 1 u ((v + 1)) (by unfold inRowU; rw [hb]; rfl) (row1_eq (by first | omega | rfl | (simp only [Int.ofNat_eq_natCast]; omega))) ho).elim fun σ ab => (⟨LSU.l1 (i + 1) 1 u ((v + 1)), σ, ⟨by omega, hlt, by omega, by omega, by omega⟩, (by show n - (i + 1) < n - i; omega), rfl, ab⟩ : ∃ s' σ, LSU.ok l n s' ∧ LSU.mu n s' < LSU.mu n (.l1 i 1 u v) ∧ (XE.ext 0, lfinU l n) = (XE.ext 0, lfinU l n) ∧ Abs 25 σ (LSU.st te l n s').env (LSU.st te l n s').h env h)
            exact bcase_tt (dcq_lt (by simp only [Int.ofNat_eq_natCast]; omega)) (bcase_tt (inB_of hlt) (bcase_tt (by rw [ix_eq]; show Bool.and (Nat.ble (i + 1) n) true = true; rw [ble_t hlt]; rfl) (bcase_tt (by rw [ix_eq, hb]; rfl) (bcase_tt (inB_of hlt) (bcase_tt (by rw [ix_eq]; show Bool.and (Nat.ble (i + 1) n) true = true; rw [ble_t hlt]; rfl) (bcase_tt (by rw [ix_eq, hb]; rfl) (bcase_tt (dcq_cap i) (bcase_tt (appC_ok (by rw [zrowsT_len]) (by omega)) (bcase_any (bcase_tt (dcq_cap i) (bcase_tt (appC_ok (by rw [zrowsT_len]) (by omega)) (bcase_any (bcase_tt (inR_i64 (by omega) (by omega)) (bcase_tt (inR_add (by omega)) leaf)) (bcase_tt (inR_i64 (by omega) (by omega)) (bcase_tt (inR_add (by omega)) leaf))))) (bcase_tt (dcq_cap i) (bcase_tt (appC_ok (by rw [zrowsT_len]) (by omega)) (bcase_any (bcase_tt (inR_i64 (by omega) (by omega)) (bcase_tt (inR_add (by omega)) leaf)) (bcase_tt (inR_i64 (by omega) (by omega)) (bcase_tt (inR_add (by omega)) leaf))))))))))))))
        | true =>
          have q1 := stepU_true hb
          rcases (by omega : c = 0 ∨ c = 1) with hc | hc
          · have hsel : selU1 c u v = dlU_s1a := by unfold selU1; rw [if_pos hc]
            refine ⟨?_⟩
            show xcode C1 Tryz.prog F 6 (loopC Tryz.prog 6 19) (mask 6) (tmpsN Tryz.prog 6) (lsU te l n i c u v).env (lsU te l n i c u v).h (cond (Nat.ble (i + 1) n) (cond (l i) (selU1 c u v) (selU0 c u v)) [false]) _
            rw [ble_t hlt, hb, hsel]
            have ec : c = 0 := by omega
            subst ec
            refine round_use2 good1.spl (fun Kv => lrs1aU (zbU l i) te l n i u v Kv) ?_
            have leaf : ∀ (env : Env) (h : H) (ds : List Bool), _ → _ := fun env h ds ho => (laU_s te l n hi60 1 v 1 u ((v + 1)) (by unfold inRowU; rw [hb]; rfl) (row1_eq (by first | omega | rfl | (simp only [Int.ofNat_eq_natCast]; omega))) ho).elim fun σ ab => (⟨LSU.l1 (i + 1) 1 u ((v + 1)), σ, ⟨by omega, hlt, by omega, by omega, by omega⟩, (by show n - (i + 1) < n - i; omega), rfl, ab⟩ : ∃ s' σ, LSU.ok l n s' ∧ LSU.mu n s' < LSU.mu n (.l1 i 0 u v) ∧ (XE.ext 0, lfinU l n) = (XE.ext 0, lfinU l n) ∧ Abs 25 σ (LSU.st te l n s').env (LSU.st te l n s').h env h)
            exact bcase_tt (dcq_lt (by simp only [Int.ofNat_eq_natCast]; omega)) (bcase_tt (inB_of hlt) (bcase_tt (by rw [ix_eq]; show Bool.and (Nat.ble (i + 1) n) true = true; rw [ble_t hlt]; rfl) (bcase_tt (by rw [ix_eq, hb]; rfl) (bcase_tt (inB_of hlt) (bcase_tt (by rw [ix_eq]; show Bool.and (Nat.ble (i + 1) n) true = true; rw [ble_t hlt]; rfl) (bcase_tt (by rw [ix_eq, hb]; rfl) (bcase_tt (dcq_cap i) (bcase_tt (appC_ok (by rw [zrowsT_len]) (by omega)) (bcase_any (bcase_tt (dcq_cap i) (bcase_tt (appC_ok (by rw [zrowsT_len]) (by omega)) (bcase_any (bcase_tt (inR_i64 (by omega) (by omega)) (bcase_tt (inR_add (by omega)) leaf)) (bcase_tt (inR_i64 (by omega) (by omega)) (bcase_tt (inR_add (by omega)) leaf))))) (bcase_tt (dcq_cap i) (bcase_tt (appC_ok (by rw [zrowsT_len]) (by omega)) (bcase_any (bcase_tt (inR_i64 (by omega) (by omega)) (bcase_tt (inR_add (by omega)) leaf)) (bcase_tt (inR_i64 (by omega) (by omega)) (bcase_tt (inR_add (by omega)) leaf))))))))))))))
          · have hsel : selU1 c u v = dlU_s1b := by unfold selU1; rw [if_neg (by omega)]
            refine ⟨?_⟩
            show xcode C1 Tryz.prog F 6 (loopC Tryz.prog 6 19) (mask 6) (tmpsN Tryz.prog 6) (lsU te l n i c u v).env (lsU te l n i c u v).h (cond (Nat.ble (i + 1) n) (cond (l i) (selU1 c u v) (selU0 c u v)) [false]) _
            rw [ble_t hlt, hb, hsel]
            have ec : c = 1 := by omega
            subst ec
            refine round_use2 good1.spl (fun Kv => lrs1bU (zbU l i) te l n i u v Kv) ?_
            have leaf : ∀ (env : Env) (h : H) (ds : List Bool), _ → _ := fun env h ds ho => (laU_s te l n hi60 1 u 0 ((u + 1)) v (by unfold inRowU; rw [hb]; rfl) (row1_eq (by first | omega | rfl | (simp only [Int.ofNat_eq_natCast]; omega))) ho).elim fun σ ab => (⟨LSU.l1 (i + 1) 0 ((u + 1)) v, σ, ⟨by omega, hlt, by omega, by omega, by omega⟩, (by show n - (i + 1) < n - i; omega), rfl, ab⟩ : ∃ s' σ, LSU.ok l n s' ∧ LSU.mu n s' < LSU.mu n (.l1 i 1 u v) ∧ (XE.ext 0, lfinU l n) = (XE.ext 0, lfinU l n) ∧ Abs 25 σ (LSU.st te l n s').env (LSU.st te l n s').h env h)
            exact bcase_tt (dcq_lt (by simp only [Int.ofNat_eq_natCast]; omega)) (bcase_tt (inB_of hlt) (bcase_tt (by rw [ix_eq]; show Bool.and (Nat.ble (i + 1) n) true = true; rw [ble_t hlt]; rfl) (bcase_tt (by rw [ix_eq, hb]; rfl) (bcase_tt (inB_of hlt) (bcase_tt (by rw [ix_eq]; show Bool.and (Nat.ble (i + 1) n) true = true; rw [ble_t hlt]; rfl) (bcase_tt (by rw [ix_eq, hb]; rfl) (bcase_tt (dcq_cap i) (bcase_tt (appC_ok (by rw [zrowsT_len]) (by omega)) (bcase_any (bcase_tt (dcq_cap i) (bcase_tt (appC_ok (by rw [zrowsT_len]) (by omega)) (bcase_any (bcase_tt (inR_i64 (by omega) (by omega)) (bcase_tt (inR_add (by omega)) leaf)) (bcase_tt (inR_i64 (by omega) (by omega)) (bcase_tt (inR_add (by omega)) leaf))))) (bcase_tt (dcq_cap i) (bcase_tt (appC_ok (by rw [zrowsT_len]) (by omega)) (bcase_any (bcase_tt (inR_i64 (by omega) (by omega)) (bcase_tt (inR_add (by omega)) leaf)) (bcase_tt (inR_i64 (by omega) (by omega)) (bcase_tt (inR_add (by omega)) leaf))))))))))))))
      · have hin : i = n := by omega
        subst hin
        refine ⟨?_⟩
        show xcode C1 Tryz.prog F 6 (loopC Tryz.prog 6 19) (mask 6) (tmpsN Tryz.prog 6) (lsU te l i i c u v).env (lsU te l i i c u v).h (cond (Nat.ble (i + 1) i) (cond (l i) (selU1 c u v) (selU0 c u v)) [false]) _
        rw [ble_f (Nat.lt_irrefl i)]
        exact round_use2 good1.spl (fun Kv => lxU (zbU l i) te l i i c u v Kv)
          (bcase_tt (dcq_ge (by omega)) (fun env h ds ho => (lawDoneU (te := te) hn ho).elim fun σ ab => ⟨σ, rfl, ab⟩))
end
end Go.Proofs.YtkfhjobebhdpoaaGreat
/- Stream: StreamAutomata runs to its end and answers true. -/
set_option autoImplicit false
set_option maxRecDepth 1000000
set_option maxHeartbeats 2000000
set_option linter.unusedVariables false
namespace Go.Proofs.YtkfhjobebhdpoaaGreat
noncomputable section
open Go.X
def conReadyU : Con := fun args h ds K => args = [.str nUt vUt] ∧ K (ren (shf h.next) VUt) (addAll h gUt) ds
def conRunU (l : Nat → Bool) (n : Nat) : Con := fun args h ds K => (args = [.agg [.slc 8 0 1 1 false 6], .str 1 102, .slc 30 0 n n false 1] ∧ h = (lfinU l n).h) ∧ K (.tup [.slc n0U 0 n n false 1, .int .i64 (Int.ofNat 0)]) (finU l n (zbU l n)).h ds
def conSameU (l : Nat → Bool) (n : Nat) : Con := fun args h ds K => (args = [.slc n0U 0 n n false 1, .slc 31 0 n n false 1] ∧ h = (finU l n (zbU l n)).h) ∧ K (.bool true) h ds
def valsU (l : Nat → Bool) : Nat → Nat → Int := fun i _ => valU l i
theorem rowsOutU {l : Nat → Bool} {n : Nat} (hn : n ≤ 60) : RowsAre (finU l n (zbU l n)).h n0U n 1 (fun i => zn (300 + i)) (valsU l) := by
  intro i hi
  have g1 : T.get (finU l n (zbU l n)).h.b n0U = some (.row (zrows 300 1 n) 22 true []) := by
    show (mkB (zoU l (zbU l n) n) (rrU (zrows 300 1 n) (zrowsT 0 1 n) (zrowsT 100 1 n))).get n0U = _
    unfold rrU
    rw [mkB_cons]; exact T.get_set_same _ _
  have g2 : T.get (finU l n (zbU l n)).h.b (zn (300 + i)) = some (outU l i) := by
    show (mkB (zoU l (zbU l n) n) (rrU (zrows 300 1 n) (zrowsT 0 1 n) (zrowsT 100 1 n))).get (zn (300 + i)) = _
    unfold rrU
    rw [mkB_cons, T.get_set_other _ _ _ (by show zn (300 + i) ≠ 1049473; rw [zn_eq]; omega), mkB_cons, T.get_set_other _ _ _ (by show zn (300 + i) ≠ 30; rw [zn_eq]; omega), mkB_cons, T.get_set_other _ _ _ (by show zn (300 + i) ≠ 31; rw [zn_eq]; omega), zput_zn]
    exact zgrow_new hi
  refine ⟨⟨1, false, Nat.le_refl _, cellOf_of g1 (zrows_get hi)⟩, fun k hk => ?_⟩
  match k, hk with
  | 0, _ => exact cellOf_of g2 rfl
theorem rowsWantU {l : Nat → Bool} {n : Nat} (hn : n ≤ 60) : RowsAre (finU l n (zbU l n)).h 31 n 1 (fun i => zn (100 + i)) (valsU l) := by
  intro i hi
  have g1 : T.get (finU l n (zbU l n)).h.b 31 = some (.row (zrowsT 100 1 n) 22 true []) := by
    show (mkB (zoU l (zbU l n) n) (rrU (zrows 300 1 n) (zrowsT 0 1 n) (zrowsT 100 1 n))).get 31 = _
    unfold rrU
    rw [mkB_cons, T.get_set_other _ _ _ (by show 31 ≠ 1049473; decide), mkB_cons, T.get_set_other _ _ _ (by show 31 ≠ 30; decide), mkB_cons]; exact T.get_set_same _ _
  have g2 : T.get (finU l n (zbU l n)).h.b (zn (100 + i)) = some (outU l i) := by
    show (mkB (zoU l (zbU l n) n) (rrU (zrows 300 1 n) (zrowsT 0 1 n) (zrowsT 100 1 n))).get (zn (100 + i)) = _
    unfold rrU
    rw [mkB_cons, T.get_set_other _ _ _ (by show zn (100 + i) ≠ 1049473; rw [zn_eq]; omega), mkB_cons, T.get_set_other _ _ _ (by show zn (100 + i) ≠ 30; rw [zn_eq]; omega), mkB_cons, T.get_set_other _ _ _ (by show zn (100 + i) ≠ 31; rw [zn_eq]; omega), zput_zn, zoU_low (by omega)]
    exact (zbU_get l n hn).2.1 i hi
  refine ⟨⟨1, true, Nat.le_refl _, cellOf_of g1 (zrowsT_get hi)⟩, fun k hk => ?_⟩
  match k, hk with
  | 0, _ => exact cellOf_of g2 rfl
theorem finU_hc {l : Nat → Bool} {n : Nat} (hn : n ≤ 60) : HC (finU l n (zbU l n)).h := by
  have : ZS.ok (finU l n (zbU l n)) 2097152 := ⟨rfl, rfl, blksN_row (by show 1049473 < 2097152; decide) (belU_O hn) (blksN_row (by decide) (belU_I hn) (blksN_row (by decide) (belU_W hn) rfl)), zoU_ok (zbU_in hn) hn⟩
  exact this.hc
/-- the contracts of a run of the law -/
def CL1U : Cfg := (C1.addCon 12 conTrue).addCon 13 conReadyU
def CL2U (l : Nat → Bool) (n : Nat) : Cfg := (CL1U.addCon 14 (conRunU l n)).addCon 16 (conSameU l n)
def CL3U (te : TypeId) (l : Nat → Bool) (n : Nat) : Cfg := (CL2U l n).addLc 6 19 (lcZ (S0 := Unit) (fun _ => True) (lmap (fun p => p.1) (ls0U te l n).E) (lmap (fun p => p.1) (ls0U te l n).B) (fun _ => ls0U te l n) (fun _ => (.ext 0, lfinU l n)))
theorem CL1U_good : X.Good CL1U Tryz.prog :=
  (good1.addCon 12 conTrue conTrue_spl (conTrue_ok alive_true)).addCon 13 conReadyU (fun args h ds K hk => ⟨_, _, _, hk.2, by show h.next ≤ h.next + llen gUt; omega, fun K' hk' => ⟨hk.1, hk'⟩⟩) (fun args h ds K hk => by obtain ⟨rfl, hk⟩ := hk; exact readyUt_ok hk)
theorem CL2U_good {l : Nat → Bool} {n : Nat} (hn1 : 1 ≤ n) (hn : n ≤ 60) : X.Good (CL2U l n) Tryz.prog := by
  refine (CL1U_good.addCon 14 (conRunU l n) (fun args h ds K hk => ⟨_, _, _, hk.2, by rw [hk.1.2]; show 1048576 ≤ 2097152; decide, fun K' hk' => ⟨hk.1, hk'⟩⟩) (fun args h ds K hk => ?_)).addCon 16 (conSameU l n) (fun args h ds K hk => ⟨_, _, _, hk.2, Nat.le_refl _, fun K' hk' => ⟨hk.1, hk'⟩⟩) (fun args h ds K hk => ?_)
  · obtain ⟨⟨rfl, rfl⟩, hk⟩ := hk
    exact runU_ok hn1 hn (zbU_in hn) hk
  · obtain ⟨⟨rfl, rfl⟩, hk⟩ := hk
    refine call_args (args2 := [.vs n0U 0 n (fun i => .row (zn (300 + i)) 1 (valsU l i)), .vs 31 0 n (fun i => .row (zn (100 + i)) 1 (valsU l i))]) (fun L vs hv => ?_) ?_
    · cases hv with
      | cons _ _ _ _ a b => cases b with
        | cons _ _ _ _ b c => exact .cons _ _ _ _ (rv_vs a) (.cons _ _ _ _ (rv_vs b) c)
    · exact same1_ok (finU_hc hn) (A := n0U) (B := 31) (by show 1049473 < 2097152; decide) (by show 31 < 2097152; decide) (rowsOutU hn) (rowsWantU hn) (by omega) hk
theorem CL3U_good (te : TypeId) {l : Nat → Bool} {n : Nat} (hn1 : 1 ≤ n) (hn : n ≤ 60) : X.Good (CL3U te l n) Tryz.prog := lawLoopU_good (CL2U_good hn1 hn) rfl rfl te hn1 hn
def hLawU (te : TypeId) (l : Nat → Bool) (n : Nat) : H := ⟨T.set T.leaf (.pur (pvB l) n te) 0, 8⟩
theorem lawU_key (te : TypeId) (l : Nat → Bool) (n : Nat) (K : AV → Prop) : xfun (CL3U te l n) Tryz.prog (xcode (CL3U te l n) Tryz.prog F) 6 [.slc 0 0 n n false 1, .bool true, .bool true] (hLawU te l n) [] (fun v _ _ => K v) =
    (bcase (ltI (Int.ofNat 60) (Int.ofNat n)) (K (.bool true)) ([AV.str nUt vUt] = [.str nUt vUt] ∧ ∃ _ : Unit, True ∧ (ls0U te l n).o0 = (ls0U te l n).o0 ∧
      (([AV.agg [.slc 8 0 1 1 false 6], .str 1 102, .slc 30 0 n n false 1] = [.agg [.slc 8 0 1 1 false 6], .str 1 102, .slc 30 0 n n false 1] ∧ (lfinU l n).h = (lfinU l n).h) ∧
        (([AV.slc n0U 0 n n false 1, .slc 31 0 n n false 1] = [.slc n0U 0 n n false 1, .slc 31 0 n n false 1] ∧ (finU l n (zbU l n)).h = (finU l n (zbU l n)).h) ∧ K (.bool true))))) := by kernel_rfl
theorem lawU_run (te : TypeId) {l : Nat → Bool} {n : Nat} (hn1 : 1 ≤ n) (hn : n ≤ 60) : Ran (xfun (CL3U te l n) Tryz.prog (xcode (CL3U te l n) Tryz.prog F) 6 [.slc 0 0 n n false 1, .bool true, .bool true] (hLawU te l n) [] (fun v _ _ => v = .bool true)) :=
  ⟨Eq.mpr (lawU_key te l n (fun v => v = .bool true)) (bcase_ff (by rw [ltI_eq]; simp; omega) ⟨rfl, (), trivial, rfl, ⟨rfl, rfl⟩, ⟨rfl, rfl⟩, rfl⟩)⟩
/-- more than sixty -/
theorem bigU_key (te : TypeId) (l : Nat → Bool) (n : Nat) (K : AV → Prop) : xfun CL1U Tryz.prog (xcode CL1U Tryz.prog F) 6 [.slc 0 0 n n false 1, .bool true, .bool true] (hLawU te l n) [true] (fun v _ _ => K v) = (bcase (dcq true (ltI (Int.ofNat 60) (Int.ofNat n))) (K (.bool true)) False) := by kernel_rfl
theorem bigU_run (te : TypeId) {l : Nat → Bool} {n : Nat} (hn : 60 < n) : Ran (xfun CL1U Tryz.prog (xcode CL1U Tryz.prog F) 6 [.slc 0 0 n n false 1, .bool true, .bool true] (hLawU te l n) [true] (fun v _ _ => v = .bool true)) :=
  ⟨Eq.mpr (bigU_key te l n (fun v => v = .bool true)) (bcase_tt (dcq_lt (by simp only [Int.ofNat_eq_natCast]; omega)) rfl)⟩
/-- the law of nothing -/
def CL0U : Cfg := (C0.addCon 12 conTrue).addCon 13 conReadyU
theorem CL0U_good : X.Good CL0U Tryz.prog :=
  (good0.addCon 12 conTrue conTrue_spl (conTrue_ok alive_true)).addCon 13 conReadyU (fun args h ds K hk => ⟨_, _, _, hk.2, by show h.next ≤ h.next + llen gUt; omega, fun K' hk' => ⟨hk.1, hk'⟩⟩) (fun args h ds K hk => by obtain ⟨rfl, hk⟩ := hk; exact readyUt_ok hk)
end
end Go.Proofs.YtkfhjobebhdpoaaGreat
/- Stream: StreamAutomata of nothing. -/
set_option autoImplicit false
set_option maxRecDepth 1000000
set_option maxHeartbeats 2000000
set_option linter.unusedVariables false
namespace Go.Proofs.YtkfhjobebhdpoaaGreat
noncomputable section
open Go.X
theorem law0U_run : Ran (xfun CL0U Tryz.prog (xcode CL0U Tryz.prog F) 6 [.emp, .bool true, .bool true] hNil [] (fun v _ _ => v = .bool true)) :=
  ⟨Eq.mpr (β := ([AV.str nUt vUt] = [.str nUt vUt]) ∧ (AV.bool true = AV.bool true)) (by kernel_rfl) ⟨rfl, rfl⟩⟩
end
end Go.Proofs.YtkfhjobebhdpoaaGreat

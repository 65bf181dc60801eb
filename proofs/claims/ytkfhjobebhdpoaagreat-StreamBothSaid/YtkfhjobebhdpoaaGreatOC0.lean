/- Stream: Run's loop over ticks, as a contract (the program of StreamBoth). -/
import Derived.Test.YtkfhjobebhdpoaaGreatOB
import Derived.Test.YtkfhjobebhdpoaaGreatG
set_option linter.unusedVariables false
set_option autoImplicit false
set_option maxRecDepth 1000000
set_option maxHeartbeats 2000000
set_option linter.unusedVariables false
namespace Go.Proofs.YtkfhjobebhdpoaaGreat
noncomputable section
open Go.X
inductive SO where
  | s0 (g : Nat → CV)
  | s1 (i : Nat) (g : Nat → CV)
  | s2 (i : Nat) (a0 : Int) (a1 : Int) (g : Nat → CV)
  | s3 (i : Nat) (a0 : Int) (a1 : Int) (g : Nat → CV)
  | s4 (i : Nat) (a0 : Int) (a1 : Int) (a2 : Int) (g : Nat → CV)
  | s5 (i : Nat) (a0 : Int) (a1 : Int) (a2 : Int) (g : Nat → CV)
  | s6 (i : Nat) (a0 : Int) (a1 : Int) (a2 : Int) (g : Nat → CV)
  | s7 (i : Nat) (a0 : Int) (a1 : Int) (a2 : Int) (a3 : Int) (g : Nat → CV)
  | s8 (i : Nat) (a0 : Int) (g : Nat → CV)
  | s9 (i : Nat) (a0 : Int) (g : Nat → CV)
  | s10 (i : Nat) (a0 : Int) (g : Nat → CV)
  | s11 (i : Nat) (a0 : Int) (a1 : Int) (g : Nat → CV)
  | s12 (i : Nat) (a0 : Int) (a1 : Int) (g : Nat → CV)
  | s13 (i : Nat) (a0 : Int) (a1 : Int) (g : Nat → CV)
  | s14 (i : Nat) (a0 : Int) (a1 : Int) (a2 : Int) (g : Nat → CV)
  | s15 (i : Nat) (a0 : Int) (a1 : Int) (g : Nat → CV)
def SO.ok (l : Nat → Bool) (n : Nat) : SO → Prop
  | .s0 _ => True
  | .s1 i _ => 1 ≤ i ∧ i ≤ n ∧ (i : Int) = 1 ∧ cntO l i = 1
  | .s2 i a0 a1 _ => 1 ≤ i ∧ i ≤ n ∧ a0 = (i : Int) ∧ cntO l i = 0
  | .s3 i a0 a1 _ => 1 ≤ i ∧ i ≤ n ∧ a0 = (i : Int) ∧ cntO l i = 1
  | .s4 i a0 a1 a2 _ => 1 ≤ i ∧ i ≤ n ∧ a0 = (i : Int) ∧ cntO l i = 2
  | .s5 i a0 a1 a2 _ => 1 ≤ i ∧ i ≤ n ∧ a0 = (i : Int) ∧ cntO l i = 0
  | .s6 i a0 a1 a2 _ => 1 ≤ i ∧ i ≤ n ∧ a0 = (i : Int) ∧ cntO l i = 1
  | .s7 i a0 a1 a2 a3 _ => 1 ≤ i ∧ i ≤ n ∧ a0 = (i : Int) ∧ cntO l i = 0
  | .s8 i a0 _ => 1 ≤ i ∧ i ≤ n ∧ a0 = (i : Int) ∧ cntO l i = 0
  | .s9 i a0 _ => 1 ≤ i ∧ i ≤ n ∧ a0 = (i : Int) ∧ cntO l i = 2
  | .s10 i a0 _ => 1 ≤ i ∧ i ≤ n ∧ a0 = (i : Int) ∧ cntO l i = 0
  | .s11 i a0 a1 _ => 1 ≤ i ∧ i ≤ n ∧ a0 = (i : Int) ∧ cntO l i = 1
  | .s12 i a0 a1 _ => 1 ≤ i ∧ i ≤ n ∧ a0 = (i : Int) ∧ cntO l i = 2
  | .s13 i a0 a1 _ => 1 ≤ i ∧ i ≤ n ∧ a0 = (i : Int) ∧ cntO l i = 0
  | .s14 i a0 a1 a2 _ => 1 ≤ i ∧ i ≤ n ∧ a0 = (i : Int) ∧ cntO l i = 0
  | .s15 i a0 a1 _ => 1 ≤ i ∧ i ≤ n ∧ a0 = (i : Int) ∧ cntO l i = 0
def SO.st (l : Nat → Bool) (n : Nat) (z : T Blk) : SO → ZS
  | .s0 g => ⟨eO n g .nils 0, lapp (rr0O (zrowsT 0 1 n) (zrowsT 100 1 n)) bO0, z, n0O⟩
  | .s1 i g => stO l n z i g (bO1)
  | .s2 i a0 a1 g => stO l n z i g (bO2 a0 a1)
  | .s3 i a0 a1 g => stO l n z i g (bO3 a0 a1)
  | .s4 i a0 a1 a2 g => stO l n z i g (bO4 a0 a1 a2)
  | .s5 i a0 a1 a2 g => stO l n z i g (bO5 a0 a1 a2)
  | .s6 i a0 a1 a2 g => stO l n z i g (bO6 a0 a1 a2)
  | .s7 i a0 a1 a2 a3 g => stO l n z i g (bO7 a0 a1 a2 a3)
  | .s8 i a0 g => stO l n z i g (bO8 a0)
  | .s9 i a0 g => stO l n z i g (bO9 a0)
  | .s10 i a0 g => stO l n z i g (bO10 a0)
  | .s11 i a0 a1 g => stO l n z i g (bO11 a0 a1)
  | .s12 i a0 a1 g => stO l n z i g (bO12 a0 a1)
  | .s13 i a0 a1 g => stO l n z i g (bO13 a0 a1)
  | .s14 i a0 a1 a2 g => stO l n z i g (bO14 a0 a1 a2)
  | .s15 i a0 a1 g => stO l n z i g (bO15 a0 a1)
def SO.er (l : Nat → Bool) (n : Nat) : SO → List (Nat × AV)
  | .s0 _ => eO n (ggO (zn 0) [bi (l 0)]) .nils 0
  | .s1 i _ => eO n (ggO (zn i) [bi (l i)]) (.slc n0O 0 i i false 1) i
  | .s2 i _ _ _ => eO n (ggO (zn i) [bi (l i)]) (.slc n0O 0 i i false 1) i
  | .s3 i _ _ _ => eO n (ggO (zn i) [bi (l i)]) (.slc n0O 0 i i false 1) i
  | .s4 i _ _ _ _ => eO n (ggO (zn i) [bi (l i)]) (.slc n0O 0 i i false 1) i
  | .s5 i _ _ _ _ => eO n (ggO (zn i) [bi (l i)]) (.slc n0O 0 i i false 1) i
  | .s6 i _ _ _ _ => eO n (ggO (zn i) [bi (l i)]) (.slc n0O 0 i i false 1) i
  | .s7 i _ _ _ _ _ => eO n (ggO (zn i) [bi (l i)]) (.slc n0O 0 i i false 1) i
  | .s8 i _ _ => eO n (ggO (zn i) [bi (l i)]) (.slc n0O 0 i i false 1) i
  | .s9 i _ _ => eO n (ggO (zn i) [bi (l i)]) (.slc n0O 0 i i false 1) i
  | .s10 i _ _ => eO n (ggO (zn i) [bi (l i)]) (.slc n0O 0 i i false 1) i
  | .s11 i _ _ _ => eO n (ggO (zn i) [bi (l i)]) (.slc n0O 0 i i false 1) i
  | .s12 i _ _ _ => eO n (ggO (zn i) [bi (l i)]) (.slc n0O 0 i i false 1) i
  | .s13 i _ _ _ => eO n (ggO (zn i) [bi (l i)]) (.slc n0O 0 i i false 1) i
  | .s14 i _ _ _ _ => eO n (ggO (zn i) [bi (l i)]) (.slc n0O 0 i i false 1) i
  | .s15 i _ _ _ => eO n (ggO (zn i) [bi (l i)]) (.slc n0O 0 i i false 1) i
def SO.dr (l : Nat → Bool) (n : Nat) : SO → List Bool
  | .s0 _ => (cond (l 0) dO_0_1 dO_0_0)
  | .s1 i _ => cond (Nat.ble (i + 1) n) (cond (l i) dO_1_1 dO_1_0) [false]
  | .s2 i _ _ _ => cond (Nat.ble (i + 1) n) (cond (l i) dO_2_1 dO_2_0) [false]
  | .s3 i _ _ _ => cond (Nat.ble (i + 1) n) (cond (l i) dO_3_1 dO_3_0) [false]
  | .s4 i _ _ _ _ => cond (Nat.ble (i + 1) n) (cond (l i) dO_4_1 dO_4_0) [false]
  | .s5 i _ _ _ _ => cond (Nat.ble (i + 1) n) (cond (l i) dO_5_1 dO_5_0) [false]
  | .s6 i _ _ _ _ => cond (Nat.ble (i + 1) n) (cond (l i) dO_6_1 dO_6_0) [false]
  | .s7 i _ _ _ _ _ => cond (Nat.ble (i + 1) n) (cond (l i) dO_7_1 dO_7_0) [false]
  | .s8 i _ _ => cond (Nat.ble (i + 1) n) (cond (l i) dO_8_1 dO_8_0) [false]
  | .s9 i _ _ => cond (Nat.ble (i + 1) n) (cond (l i) dO_9_1 dO_9_0) [false]
  | .s10 i _ _ => cond (Nat.ble (i + 1) n) (cond (l i) dO_10_1 dO_10_0) [false]
  | .s11 i _ _ _ => cond (Nat.ble (i + 1) n) (cond (l i) dO_11_1 dO_11_0) [false]
  | .s12 i _ _ _ => cond (Nat.ble (i + 1) n) (cond (l i) dO_12_1 dO_12_0) [false]
  | .s13 i _ _ _ => cond (Nat.ble (i + 1) n) (cond (l i) dO_13_1 dO_13_0) [false]
  | .s14 i _ _ _ _ => cond (Nat.ble (i + 1) n) (cond (l i) dO_14_1 dO_14_0) [false]
  | .s15 i _ _ _ => cond (Nat.ble (i + 1) n) (cond (l i) dO_15_1 dO_15_0) [false]
def SO.mu (n : Nat) : SO → Nat
  | .s0 _ => n + 1
  | .s1 i _ => n - i
  | .s2 i _ _ _ => n - i
  | .s3 i _ _ _ => n - i
  | .s4 i _ _ _ _ => n - i
  | .s5 i _ _ _ _ => n - i
  | .s6 i _ _ _ _ => n - i
  | .s7 i _ _ _ _ _ => n - i
  | .s8 i _ _ => n - i
  | .s9 i _ _ => n - i
  | .s10 i _ _ => n - i
  | .s11 i _ _ _ => n - i
  | .s12 i _ _ _ => n - i
  | .s13 i _ _ _ => n - i
  | .s14 i _ _ _ _ => n - i
  | .s15 i _ _ _ => n - i
theorem pe_eO (n : Nat) (g g' : Nat → CV) (out : AV) (i : Nat) : Pe (eO n g out i) (eO n g' out i) :=
  .cons _ _ _ _ _ (.inl rfl) (.cons _ _ _ _ _ (.inl rfl) (.cons _ _ _ _ _ (.inl rfl) (.cons _ _ _ _ _ (.inl rfl) (.cons _ _ _ _ _ (.inr ⟨_, _, _, _, _, rfl, rfl⟩) (.cons _ _ _ _ _ (.inl rfl) (.cons _ _ _ _ _ (.inl rfl) .nil))))))
theorem done_O1 {l : Nat → Bool} {n : Nat} {z : T Blk} (Zs : ZinO l n z) (hn : n ≤ 60) (R : List (Nat × Nat × Blk)) (hR : R = [(n0O, n0O, .row (zrows 300 1 n) 22 true []), (30, 30, .row (zrowsT 0 1 n) 22 true []), (31, 31, .row (zrowsT 100 1 n) 22 true [])]) {env : Env} {h : H}
    (ho : obs [6, 7, 17] (actsOf (lapp R []) []) (lapp R []) [] env h = expsR n0O (kpOf (zoO l z n)) [(6, .nils), (7, .int .i64 (Int.ofNat 0)), (17, .slc n0O 0 n n false 1)] R [] [] (zoO l z n) [(some (.row (zrows 300 1 n) 22 true []), true), (some (.row (zrowsT 0 1 n) 22 true []), true), (some (.row (zrowsT 100 1 n) 22 true []), true)]) :
    ∃ σ, Abs n0O σ (finO l n z).env (finO l n z).h env h := by
  subst hR
  have hlit : okLit n0O 2097152 (lapp [(n0O, n0O, .row (zrows 300 1 n) 22 true []), (30, 30, .row (zrowsT 0 1 n) 22 true []), (31, 31, .row (zrowsT 100 1 n) 22 true [])] []) = true := okLit_row rfl (belO_O (by omega)) (okLit_row rfl (belO_I hn) (okLit_row rfl (belO_W hn) rfl))
  have k1 := keepIO Zs hn (i := n) (Zn := []) hlit (fun p hp => by cases hp)
  have k2 : renL (szs n0O (namesOf (lapp [(n0O, n0O, .row (zrows 300 1 n) 22 true []), (30, 30, .row (zrowsT 0 1 n) 22 true []), (31, 31, .row (zrowsT 100 1 n) 22 true [])] []) []) (kpOf (zoO l z n))) (zrows 300 1 n) = zrows 300 1 n := by
    exact zrows_keep fun j hj => szs_zone hlit (zgrow_new hj) (fun p hp e => by cases hp)
  rw [expsR_eq] at ho
  · exact NewOK.abs (t := finO l n z) (A := lapp [(n0O, n0O, .row (zrows 300 1 n) 22 true []), (30, 30, .row (zrowsT 0 1 n) 22 true []), (31, 31, .row (zrowsT 100 1 n) 22 true [])] []) (Z := []) (z := zoO l z n)
      ⟨rfl, rfl, by show 1049403 ≤ 2097152; decide, rfl, hlit, rfl, rfl, (fun p hp => (by cases hp)), List.nodup_nil, zoO_ok Zs (by omega)⟩ rfl rfl rfl rfl ho
  · show _ = [(some (Blk.row (renL _ _) _ _ _), true), (some (Blk.row (renL _ _) _ _ _), true), (some (Blk.row (renL _ _) _ _ _), true)]
    rw [k2, k1.1, k1.2]; rfl
theorem belO_I0 {n : Nat} (hn : n ≤ 60) : belL n0O (zrowsT 0 1 n) = true := belL_slc _ (fun j => zn (0 + j)) _ _ _ fun j hj => by have := List.mem_range.1 hj; rw [zn_eq]; show _ < 1049403; omega
theorem belO_W0 {n : Nat} (hn : n ≤ 60) : belL n0O (zrowsT 100 1 n) = true := belL_slc _ (fun j => zn (100 + j)) _ _ _ fun j hj => by have := List.mem_range.1 hj; rw [zn_eq]; show _ < 1049403; omega
theorem loopO_good {C : Cfg} (G : X.Good C Tryz.prog) (hg : C.gl = fun _ => none) (hm : C.mask 14 = mask 14) {l : Nat → Bool} {n : Nat} (hn1 : 1 ≤ n) (hn : n ≤ 60) {z : T Blk} (Zs : ZinO l n z) (g : Nat → CV) :
    X.Good (C.addLc 14 22 (lcZ (S0 := Unit) (fun _ => True) (lmap (fun p => p.1) (eO n g .nils 0)) (lmap (fun p => p.1) (lapp (rr0O (zrowsT 0 1 n) (zrowsT 100 1 n)) bO0)) (fun _ => SO.st l n z (.s0 g)) (fun _ => (.ext 2, finO l n z)))) Tryz.prog := by
  refine G.addZR good1 (by rw [hg]; rfl) (S := SO) (SO.dr l n) (n0 := n0O) (ι := fun _ => .s0 g) (ok := SO.ok l n) (St := SO.st l n z) (SO.er l n) (μ := SO.mu n) (fin := fun _ => (.ext 2, finO l n z)) (fuel := F) hm.symm (by rfl) ?_ ?_ ?_ (fun g i h => by rw [hg] at h; cases h)
  · intro s _
    cases s <;> exact pe_eO ..
  · intro _ _
    refine ⟨trivial, rfl, rfl, ⟨rfl, ?_, ?_, ?_⟩, by show 1049403 ≤ 2097152; decide, rfl, rfl⟩
    · show belEs n0O (eO n g .nils 0) = true
      kernel_rfl
    · exact blksN_app (R := rr0O (zrowsT 0 1 n) (zrowsT 100 1 n)) blksO0 (blksN_row (by show 30 < 1049403; decide) (belO_I0 hn) (blksN_row (by show 31 < 1049403; decide) (belO_W0 hn) rfl))
    · intro x k h
      obtain ⟨a, b⟩ := Zs.only x k h
      exact ⟨b, by rw [zn_eq]; show _ < 1049403; omega, by rw [zn_eq]; show _ < 1000000000000; omega⟩
  · intro s hs
    rw [hm]
    cases s with
    | s0 g0 =>
      have hc := cntO_le l 0
      have z0 : cntO l 0 = 0 := rfl
      cases hb : l 0 with
      | false =>
        have q1 : (cntO l 0 = 0 → cntO l (0 + 1) = 1) ∧ (cntO l 0 ≠ 0 → cntO l (0 + 1) = 0) := cntO_false hb
        have q3 : valO l 0 = cntO l 0 + 1 := valO_false hb
        have q1' : (cntO l 0 = 0 → cntO l 1 = 1) ∧ (cntO l 0 ≠ 0 → cntO l 1 = 0) := q1
        have q3' : valO l 0 = cntO l 0 + 1 := q3
        refine ⟨?_⟩
        show xcode C1 Tryz.prog F 14 (loopC Tryz.prog 14 22) (mask 14) (tmpsN Tryz.prog 14) (mkE (eO n (ggO (zn 0) [bi (l 0)]) .nils 0)) _ (cond (l 0) dO_0_1 dO_0_0) _
        rw [hb]
        exact useO_0_0 Zs hn (by omega) (row1_eq (by omega)) (cellI (i := 0) (by omega) (getO0 ..) _) (cellR (zgO0 ..) (by rw [Zs.ins 0 (by omega)]; unfold inRowO; rw [hb]; rfl) _ rfl)
          (fun env h ds σ ab => ⟨.s1 1 _, σ, ⟨Nat.le_refl _, hn1, by omega, by omega⟩, (by show n - 1 < n + 1; omega), rfl, ab⟩)
      | true =>
        have q1 : (cntO l 0 = 0 → cntO l (0 + 1) = 0) ∧ (cntO l 0 ≠ 0 → cntO l (0 + 1) = 2) := cntO_true hb
        have q3 : (cntO l 0 = 2 → valO l 0 = 3) ∧ (cntO l 0 ≠ 2 → valO l 0 = cntO l 0 + 2) := valO_true hb
        have q1' : (cntO l 0 = 0 → cntO l 1 = 0) ∧ (cntO l 0 ≠ 0 → cntO l 1 = 2) := q1
        have q3' : (cntO l 0 = 2 → valO l 0 = 3) ∧ (cntO l 0 ≠ 2 → valO l 0 = cntO l 0 + 2) := q3
        refine ⟨?_⟩
        show xcode C1 Tryz.prog F 14 (loopC Tryz.prog 14 22) (mask 14) (tmpsN Tryz.prog 14) (mkE (eO n (ggO (zn 0) [bi (l 0)]) .nils 0)) _ (cond (l 0) dO_0_1 dO_0_0) _
        rw [hb]
        exact useO_0_1 Zs hn (by omega) (row1_eq (by omega)) (cellI (i := 0) (by omega) (getO0 ..) _) (cellR (zgO0 ..) (by rw [Zs.ins 0 (by omega)]; unfold inRowO; rw [hb]; rfl) _ rfl)
          (fun env h ds σ ab => ⟨.s8 1 1 _, σ, ⟨Nat.le_refl _, hn1, by omega, by omega⟩, (by show n - 1 < n + 1; omega), rfl, ab⟩)
    | s1 i g0 =>
      obtain ⟨h1, h2, p0, p1⟩ := hs
      have hc := cntO_le l i
      by_cases hlt : i < n
      · cases hb : l i with
        | false =>
          have q1 : (cntO l i = 0 → cntO l (i + 1) = 1) ∧ (cntO l i ≠ 0 → cntO l (i + 1) = 0) := cntO_false hb
          have q3 : valO l i = cntO l i + 1 := valO_false hb
          refine ⟨?_⟩
          show xcode C1 Tryz.prog F 14 (loopC Tryz.prog 14 22) (mask 14) (tmpsN Tryz.prog 14) (mkE (eO n (ggO (zn i) [bi (l i)]) (.slc n0O 0 i i false 1) i)) _ (cond (Nat.ble (i + 1) n) (cond (l i) dO_1_1 dO_1_0) [false]) _
          rw [hb, ble_t hlt]
          exact useO_1_0 Zs hn hlt (row1_eq (by omega)) (cellI hlt (getO1 ..) _) (cellR (zgO1 ..) (by rw [zoO_low (by omega), Zs.ins i hlt]; unfold inRowO; rw [hb]; rfl) _ rfl)
            (fun env h ds σ ab => ⟨.s2 (i + 1) 2 0 _, σ, ⟨by omega, hlt, by omega, by omega⟩, (by show n - (i + 1) < n - i; omega), rfl, ab⟩)
        | true =>
          have q1 : (cntO l i = 0 → cntO l (i + 1) = 0) ∧ (cntO l i ≠ 0 → cntO l (i + 1) = 2) := cntO_true hb
          have q3 : (cntO l i = 2 → valO l i = 3) ∧ (cntO l i ≠ 2 → valO l i = cntO l i + 2) := valO_true hb
          refine ⟨?_⟩
          show xcode C1 Tryz.prog F 14 (loopC Tryz.prog 14 22) (mask 14) (tmpsN Tryz.prog 14) (mkE (eO n (ggO (zn i) [bi (l i)]) (.slc n0O 0 i i false 1) i)) _ (cond (Nat.ble (i + 1) n) (cond (l i) dO_1_1 dO_1_0) [false]) _
          rw [hb, ble_t hlt]
          exact useO_1_1 Zs hn hlt (row1_eq (by omega)) (cellI hlt (getO1 ..) _) (cellR (zgO1 ..) (by rw [zoO_low (by omega), Zs.ins i hlt]; unfold inRowO; rw [hb]; rfl) _ rfl)
            (fun env h ds σ ab => ⟨.s9 (i + 1) 2 _, σ, ⟨by omega, hlt, by omega, by omega⟩, (by show n - (i + 1) < n - i; omega), rfl, ab⟩)
      · have hin : i = n := by omega
        subst hin
        refine ⟨?_⟩
        show xcode C1 Tryz.prog F 14 (loopC Tryz.prog 14 22) (mask 14) (tmpsN Tryz.prog 14) (mkE (eO i (ggO (zn i) [bi (l i)]) (.slc n0O 0 i i false 1) i)) _ (cond (Nat.ble (i + 1) i) (cond (l i) dO_1_1 dO_1_0) [false]) _
        rw [ble_f (Nat.lt_irrefl i)]
        exact round_use2 good1.spl (fun Kv => xO_1 (zoO l z i) (zrowsT 0 1 i) (zrowsT 100 1 i) i i _ Kv)
          (bcase_tt (dcq_ge (by omega)) (fun env h ds ho => (done_O1 Zs hn _ rfl ho).elim fun σ ab => ⟨σ, rfl, ab⟩))
    | s2 i a0 a1 g0 =>
      obtain ⟨h1, h2, p0, p1⟩ := hs
      have hc := cntO_le l i
      by_cases hlt : i < n
      · cases hb : l i with
        | false =>
          have q1 : (cntO l i = 0 → cntO l (i + 1) = 1) ∧ (cntO l i ≠ 0 → cntO l (i + 1) = 0) := cntO_false hb
          have q3 : valO l i = cntO l i + 1 := valO_false hb
          refine ⟨?_⟩
          show xcode C1 Tryz.prog F 14 (loopC Tryz.prog 14 22) (mask 14) (tmpsN Tryz.prog 14) (mkE (eO n (ggO (zn i) [bi (l i)]) (.slc n0O 0 i i false 1) i)) _ (cond (Nat.ble (i + 1) n) (cond (l i) dO_2_1 dO_2_0) [false]) _
          rw [hb, ble_t hlt]
          exact useO_2_0 Zs hn hlt a0 a1 (by omega) (by omega) (row1_eq (by omega)) (cellI hlt (getO2 ..) _) (cellR (zgO2 ..) (by rw [zoO_low (by omega), Zs.ins i hlt]; unfold inRowO; rw [hb]; rfl) _ rfl)
            (fun env h ds σ ab => ⟨.s3 (i + 1) (a0 + 1) a0 _, σ, ⟨by omega, hlt, by omega, by omega⟩, (by show n - (i + 1) < n - i; omega), rfl, ab⟩)
        | true =>
          have q1 : (cntO l i = 0 → cntO l (i + 1) = 0) ∧ (cntO l i ≠ 0 → cntO l (i + 1) = 2) := cntO_true hb
          have q3 : (cntO l i = 2 → valO l i = 3) ∧ (cntO l i ≠ 2 → valO l i = cntO l i + 2) := valO_true hb
          refine ⟨?_⟩
          show xcode C1 Tryz.prog F 14 (loopC Tryz.prog 14 22) (mask 14) (tmpsN Tryz.prog 14) (mkE (eO n (ggO (zn i) [bi (l i)]) (.slc n0O 0 i i false 1) i)) _ (cond (Nat.ble (i + 1) n) (cond (l i) dO_2_1 dO_2_0) [false]) _
          rw [hb, ble_t hlt]
          exact useO_2_1 Zs hn hlt a0 a1 (by omega) (by omega) (row1_eq (by omega)) (cellI hlt (getO2 ..) _) (cellR (zgO2 ..) (by rw [zoO_low (by omega), Zs.ins i hlt]; unfold inRowO; rw [hb]; rfl) _ rfl)
            (fun env h ds σ ab => ⟨.s2 (i + 1) (a0 + 1) 1 _, σ, ⟨by omega, hlt, by omega, by omega⟩, (by show n - (i + 1) < n - i; omega), rfl, ab⟩)
      · have hin : i = n := by omega
        subst hin
        refine ⟨?_⟩
        show xcode C1 Tryz.prog F 14 (loopC Tryz.prog 14 22) (mask 14) (tmpsN Tryz.prog 14) (mkE (eO i (ggO (zn i) [bi (l i)]) (.slc n0O 0 i i false 1) i)) _ (cond (Nat.ble (i + 1) i) (cond (l i) dO_2_1 dO_2_0) [false]) _
        rw [ble_f (Nat.lt_irrefl i)]
        exact round_use2 good1.spl (fun Kv => xO_2 (zoO l z i) (zrowsT 0 1 i) (zrowsT 100 1 i) i i _ a0 a1 Kv)
          (bcase_tt (dcq_ge (by omega)) (fun env h ds ho => (done_O1 Zs hn _ rfl ho).elim fun σ ab => ⟨σ, rfl, ab⟩))
    | s3 i a0 a1 g0 =>
      obtain ⟨h1, h2, p0, p1⟩ := hs
      have hc := cntO_le l i
      by_cases hlt : i < n
      · cases hb : l i with
        | false =>
          have q1 : (cntO l i = 0 → cntO l (i + 1) = 1) ∧ (cntO l i ≠ 0 → cntO l (i + 1) = 0) := cntO_false hb
          have q3 : valO l i = cntO l i + 1 := valO_false hb
          refine ⟨?_⟩
          show xcode C1 Tryz.prog F 14 (loopC Tryz.prog 14 22) (mask 14) (tmpsN Tryz.prog 14) (mkE (eO n (ggO (zn i) [bi (l i)]) (.slc n0O 0 i i false 1) i)) _ (cond (Nat.ble (i + 1) n) (cond (l i) dO_3_1 dO_3_0) [false]) _
          rw [hb, ble_t hlt]
          exact useO_3_0 Zs hn hlt a0 a1 (by omega) (by omega) (row1_eq (by omega)) (cellI hlt (getO3 ..) _) (cellR (zgO3 ..) (by rw [zoO_low (by omega), Zs.ins i hlt]; unfold inRowO; rw [hb]; rfl) _ rfl)
            (fun env h ds σ ab => ⟨.s14 (i + 1) (a0 + 1) 0 a0 _, σ, ⟨by omega, hlt, by omega, by omega⟩, (by show n - (i + 1) < n - i; omega), rfl, ab⟩)
        | true =>
          have q1 : (cntO l i = 0 → cntO l (i + 1) = 0) ∧ (cntO l i ≠ 0 → cntO l (i + 1) = 2) := cntO_true hb
          have q3 : (cntO l i = 2 → valO l i = 3) ∧ (cntO l i ≠ 2 → valO l i = cntO l i + 2) := valO_true hb
          refine ⟨?_⟩
          show xcode C1 Tryz.prog F 14 (loopC Tryz.prog 14 22) (mask 14) (tmpsN Tryz.prog 14) (mkE (eO n (ggO (zn i) [bi (l i)]) (.slc n0O 0 i i false 1) i)) _ (cond (Nat.ble (i + 1) n) (cond (l i) dO_3_1 dO_3_0) [false]) _
          rw [hb, ble_t hlt]
          exact useO_3_1 Zs hn hlt a0 a1 (by omega) (by omega) (row1_eq (by omega)) (cellI hlt (getO3 ..) _) (cellR (zgO3 ..) (by rw [zoO_low (by omega), Zs.ins i hlt]; unfold inRowO; rw [hb]; rfl) _ rfl)
            (fun env h ds σ ab => ⟨.s4 (i + 1) (a0 + 1) a0 a1 _, σ, ⟨by omega, hlt, by omega, by omega⟩, (by show n - (i + 1) < n - i; omega), rfl, ab⟩)
      · have hin : i = n := by omega
        subst hin
        refine ⟨?_⟩
        show xcode C1 Tryz.prog F 14 (loopC Tryz.prog 14 22) (mask 14) (tmpsN Tryz.prog 14) (mkE (eO i (ggO (zn i) [bi (l i)]) (.slc n0O 0 i i false 1) i)) _ (cond (Nat.ble (i + 1) i) (cond (l i) dO_3_1 dO_3_0) [false]) _
        rw [ble_f (Nat.lt_irrefl i)]
        exact round_use2 good1.spl (fun Kv => xO_3 (zoO l z i) (zrowsT 0 1 i) (zrowsT 100 1 i) i i _ a0 a1 Kv)
          (bcase_tt (dcq_ge (by omega)) (fun env h ds ho => (done_O1 Zs hn _ rfl ho).elim fun σ ab => ⟨σ, rfl, ab⟩))
    | s4 i a0 a1 a2 g0 =>
      obtain ⟨h1, h2, p0, p1⟩ := hs
      have hc := cntO_le l i
      by_cases hlt : i < n
      · cases hb : l i with
        | false =>
          have q1 : (cntO l i = 0 → cntO l (i + 1) = 1) ∧ (cntO l i ≠ 0 → cntO l (i + 1) = 0) := cntO_false hb
          have q3 : valO l i = cntO l i + 1 := valO_false hb
          refine ⟨?_⟩
          show xcode C1 Tryz.prog F 14 (loopC Tryz.prog 14 22) (mask 14) (tmpsN Tryz.prog 14) (mkE (eO n (ggO (zn i) [bi (l i)]) (.slc n0O 0 i i false 1) i)) _ (cond (Nat.ble (i + 1) n) (cond (l i) dO_4_1 dO_4_0) [false]) _
          rw [hb, ble_t hlt]
          exact useO_4_0 Zs hn hlt a0 a1 a2 (by omega) (by omega) (row1_eq (by omega)) (cellI hlt (getO4 ..) _) (cellR (zgO4 ..) (by rw [zoO_low (by omega), Zs.ins i hlt]; unfold inRowO; rw [hb]; rfl) _ rfl)
            (fun env h ds σ ab => ⟨.s5 (i + 1) (a0 + 1) a1 a2 _, σ, ⟨by omega, hlt, by omega, by omega⟩, (by show n - (i + 1) < n - i; omega), rfl, ab⟩)
        | true =>
          have q1 : (cntO l i = 0 → cntO l (i + 1) = 0) ∧ (cntO l i ≠ 0 → cntO l (i + 1) = 2) := cntO_true hb
          have q3 : (cntO l i = 2 → valO l i = 3) ∧ (cntO l i ≠ 2 → valO l i = cntO l i + 2) := valO_true hb
          refine ⟨?_⟩
          show xcode C1 Tryz.prog F 14 (loopC Tryz.prog 14 22) (mask 14) (tmpsN Tryz.prog 14) (mkE (eO n (ggO (zn i) [bi (l i)]) (.slc n0O 0 i i false 1) i)) _ (cond (Nat.ble (i + 1) n) (cond (l i) dO_4_1 dO_4_0) [false]) _
          rw [hb, ble_t hlt]
          exact useO_4_1 Zs hn hlt a0 a1 a2 (by omega) (by omega) (row1_eq (by omega)) (cellI hlt (getO4 ..) _) (cellR (zgO4 ..) (by rw [zoO_low (by omega), Zs.ins i hlt]; unfold inRowO; rw [hb]; rfl) _ rfl)
            (fun env h ds σ ab => ⟨.s4 (i + 1) (a0 + 1) a1 a2 _, σ, ⟨by omega, hlt, by omega, by omega⟩, (by show n - (i + 1) < n - i; omega), rfl, ab⟩)
      · have hin : i = n := by omega
        subst hin
        refine ⟨?_⟩
        show xcode C1 Tryz.prog F 14 (loopC Tryz.prog 14 22) (mask 14) (tmpsN Tryz.prog 14) (mkE (eO i (ggO (zn i) [bi (l i)]) (.slc n0O 0 i i false 1) i)) _ (cond (Nat.ble (i + 1) i) (cond (l i) dO_4_1 dO_4_0) [false]) _
        rw [ble_f (Nat.lt_irrefl i)]
        exact round_use2 good1.spl (fun Kv => xO_4 (zoO l z i) (zrowsT 0 1 i) (zrowsT 100 1 i) i i _ a0 a1 a2 Kv)
          (bcase_tt (dcq_ge (by omega)) (fun env h ds ho => (done_O1 Zs hn _ rfl ho).elim fun σ ab => ⟨σ, rfl, ab⟩))
    | s5 i a0 a1 a2 g0 =>
      obtain ⟨h1, h2, p0, p1⟩ := hs
      have hc := cntO_le l i
      by_cases hlt : i < n
      · cases hb : l i with
        | false =>
          have q1 : (cntO l i = 0 → cntO l (i + 1) = 1) ∧ (cntO l i ≠ 0 → cntO l (i + 1) = 0) := cntO_false hb
          have q3 : valO l i = cntO l i + 1 := valO_false hb
          refine ⟨?_⟩
          show xcode C1 Tryz.prog F 14 (loopC Tryz.prog 14 22) (mask 14) (tmpsN Tryz.prog 14) (mkE (eO n (ggO (zn i) [bi (l i)]) (.slc n0O 0 i i false 1) i)) _ (cond (Nat.ble (i + 1) n) (cond (l i) dO_5_1 dO_5_0) [false]) _
          rw [hb, ble_t hlt]
          exact useO_5_0 Zs hn hlt a0 a1 a2 (by omega) (by omega) (row1_eq (by omega)) (cellI hlt (getO5 ..) _) (cellR (zgO5 ..) (by rw [zoO_low (by omega), Zs.ins i hlt]; unfold inRowO; rw [hb]; rfl) _ rfl)
            (fun env h ds σ ab => ⟨.s6 (i + 1) (a0 + 1) a2 a0 _, σ, ⟨by omega, hlt, by omega, by omega⟩, (by show n - (i + 1) < n - i; omega), rfl, ab⟩)
        | true =>
          have q1 : (cntO l i = 0 → cntO l (i + 1) = 0) ∧ (cntO l i ≠ 0 → cntO l (i + 1) = 2) := cntO_true hb
          have q3 : (cntO l i = 2 → valO l i = 3) ∧ (cntO l i ≠ 2 → valO l i = cntO l i + 2) := valO_true hb
          refine ⟨?_⟩
          show xcode C1 Tryz.prog F 14 (loopC Tryz.prog 14 22) (mask 14) (tmpsN Tryz.prog 14) (mkE (eO n (ggO (zn i) [bi (l i)]) (.slc n0O 0 i i false 1) i)) _ (cond (Nat.ble (i + 1) n) (cond (l i) dO_5_1 dO_5_0) [false]) _
          rw [hb, ble_t hlt]
          exact useO_5_1 Zs hn hlt a0 a1 a2 (by omega) (by omega) (row1_eq (by omega)) (cellI hlt (getO5 ..) _) (cellR (zgO5 ..) (by rw [zoO_low (by omega), Zs.ins i hlt]; unfold inRowO; rw [hb]; rfl) _ rfl)
            (fun env h ds σ ab => ⟨.s7 (i + 1) (a0 + 1) 1 a1 a0 _, σ, ⟨by omega, hlt, by omega, by omega⟩, (by show n - (i + 1) < n - i; omega), rfl, ab⟩)
      · have hin : i = n := by omega
        subst hin
        refine ⟨?_⟩
        show xcode C1 Tryz.prog F 14 (loopC Tryz.prog 14 22) (mask 14) (tmpsN Tryz.prog 14) (mkE (eO i (ggO (zn i) [bi (l i)]) (.slc n0O 0 i i false 1) i)) _ (cond (Nat.ble (i + 1) i) (cond (l i) dO_5_1 dO_5_0) [false]) _
        rw [ble_f (Nat.lt_irrefl i)]
        exact round_use2 good1.spl (fun Kv => xO_5 (zoO l z i) (zrowsT 0 1 i) (zrowsT 100 1 i) i i _ a0 a1 a2 Kv)
          (bcase_tt (dcq_ge (by omega)) (fun env h ds ho => (done_O1 Zs hn _ rfl ho).elim fun σ ab => ⟨σ, rfl, ab⟩))
    | s6 i a0 a1 a2 g0 =>
      obtain ⟨h1, h2, p0, p1⟩ := hs
      have hc := cntO_le l i
      by_cases hlt : i < n
      · cases hb : l i with
        | false =>
          have q1 : (cntO l i = 0 → cntO l (i + 1) = 1) ∧ (cntO l i ≠ 0 → cntO l (i + 1) = 0) := cntO_false hb
          have q3 : valO l i = cntO l i + 1 := valO_false hb
          refine ⟨?_⟩
          show xcode C1 Tryz.prog F 14 (loopC Tryz.prog 14 22) (mask 14) (tmpsN Tryz.prog 14) (mkE (eO n (ggO (zn i) [bi (l i)]) (.slc n0O 0 i i false 1) i)) _ (cond (Nat.ble (i + 1) n) (cond (l i) dO_6_1 dO_6_0) [false]) _
          rw [hb, ble_t hlt]
          exact useO_6_0 Zs hn hlt a0 a1 a2 (by omega) (by omega) (row1_eq (by omega)) (cellI hlt (getO6 ..) _) (cellR (zgO6 ..) (by rw [zoO_low (by omega), Zs.ins i hlt]; unfold inRowO; rw [hb]; rfl) _ rfl)
            (fun env h ds σ ab => ⟨.s7 (i + 1) (a0 + 1) 0 a0 a2 _, σ, ⟨by omega, hlt, by omega, by omega⟩, (by show n - (i + 1) < n - i; omega), rfl, ab⟩)
        | true =>
          have q1 : (cntO l i = 0 → cntO l (i + 1) = 0) ∧ (cntO l i ≠ 0 → cntO l (i + 1) = 2) := cntO_true hb
          have q3 : (cntO l i = 2 → valO l i = 3) ∧ (cntO l i ≠ 2 → valO l i = cntO l i + 2) := valO_true hb
          refine ⟨?_⟩
          show xcode C1 Tryz.prog F 14 (loopC Tryz.prog 14 22) (mask 14) (tmpsN Tryz.prog 14) (mkE (eO n (ggO (zn i) [bi (l i)]) (.slc n0O 0 i i false 1) i)) _ (cond (Nat.ble (i + 1) n) (cond (l i) dO_6_1 dO_6_0) [false]) _
          rw [hb, ble_t hlt]
          exact useO_6_1 Zs hn hlt a0 a1 a2 (by omega) (by omega) (row1_eq (by omega)) (cellI hlt (getO6 ..) _) (cellR (zgO6 ..) (by rw [zoO_low (by omega), Zs.ins i hlt]; unfold inRowO; rw [hb]; rfl) _ rfl)
            (fun env h ds σ ab => ⟨.s4 (i + 1) (a0 + 1) a0 a1 _, σ, ⟨by omega, hlt, by omega, by omega⟩, (by show n - (i + 1) < n - i; omega), rfl, ab⟩)
      · have hin : i = n := by omega
        subst hin
        refine ⟨?_⟩
        show xcode C1 Tryz.prog F 14 (loopC Tryz.prog 14 22) (mask 14) (tmpsN Tryz.prog 14) (mkE (eO i (ggO (zn i) [bi (l i)]) (.slc n0O 0 i i false 1) i)) _ (cond (Nat.ble (i + 1) i) (cond (l i) dO_6_1 dO_6_0) [false]) _
        rw [ble_f (Nat.lt_irrefl i)]
        exact round_use2 good1.spl (fun Kv => xO_6 (zoO l z i) (zrowsT 0 1 i) (zrowsT 100 1 i) i i _ a0 a1 a2 Kv)
          (bcase_tt (dcq_ge (by omega)) (fun env h ds ho => (done_O1 Zs hn _ rfl ho).elim fun σ ab => ⟨σ, rfl, ab⟩))
    | s7 i a0 a1 a2 a3 g0 =>
      obtain ⟨h1, h2, p0, p1⟩ := hs
      have hc := cntO_le l i
      by_cases hlt : i < n
      · cases hb : l i with
        | false =>
          have q1 : (cntO l i = 0 → cntO l (i + 1) = 1) ∧ (cntO l i ≠ 0 → cntO l (i + 1) = 0) := cntO_false hb
          have q3 : valO l i = cntO l i + 1 := valO_false hb
          refine ⟨?_⟩
          show xcode C1 Tryz.prog F 14 (loopC Tryz.prog 14 22) (mask 14) (tmpsN Tryz.prog 14) (mkE (eO n (ggO (zn i) [bi (l i)]) (.slc n0O 0 i i false 1) i)) _ (cond (Nat.ble (i + 1) n) (cond (l i) dO_7_1 dO_7_0) [false]) _
          rw [hb, ble_t hlt]
          exact useO_7_0 Zs hn hlt a0 a1 a2 a3 (by omega) (by omega) (row1_eq (by omega)) (cellI hlt (getO7 ..) _) (cellR (zgO7 ..) (by rw [zoO_low (by omega), Zs.ins i hlt]; unfold inRowO; rw [hb]; rfl) _ rfl)
            (fun env h ds σ ab => ⟨.s6 (i + 1) (a0 + 1) a0 a3 _, σ, ⟨by omega, hlt, by omega, by omega⟩, (by show n - (i + 1) < n - i; omega), rfl, ab⟩)
        | true =>
          have q1 : (cntO l i = 0 → cntO l (i + 1) = 0) ∧ (cntO l i ≠ 0 → cntO l (i + 1) = 2) := cntO_true hb
          have q3 : (cntO l i = 2 → valO l i = 3) ∧ (cntO l i ≠ 2 → valO l i = cntO l i + 2) := valO_true hb
          refine ⟨?_⟩
          show xcode C1 Tryz.prog F 14 (loopC Tryz.prog 14 22) (mask 14) (tmpsN Tryz.prog 14) (mkE (eO n (ggO (zn i) [bi (l i)]) (.slc n0O 0 i i false 1) i)) _ (cond (Nat.ble (i + 1) n) (cond (l i) dO_7_1 dO_7_0) [false]) _
          rw [hb, ble_t hlt]
          exact useO_7_1 Zs hn hlt a0 a1 a2 a3 (by omega) (by omega) (row1_eq (by omega)) (cellI hlt (getO7 ..) _) (cellR (zgO7 ..) (by rw [zoO_low (by omega), Zs.ins i hlt]; unfold inRowO; rw [hb]; rfl) _ rfl)
            (fun env h ds σ ab => ⟨.s7 (i + 1) (a0 + 1) 1 a2 a3 _, σ, ⟨by omega, hlt, by omega, by omega⟩, (by show n - (i + 1) < n - i; omega), rfl, ab⟩)
      · have hin : i = n := by omega
        subst hin
        refine ⟨?_⟩
        show xcode C1 Tryz.prog F 14 (loopC Tryz.prog 14 22) (mask 14) (tmpsN Tryz.prog 14) (mkE (eO i (ggO (zn i) [bi (l i)]) (.slc n0O 0 i i false 1) i)) _ (cond (Nat.ble (i + 1) i) (cond (l i) dO_7_1 dO_7_0) [false]) _
        rw [ble_f (Nat.lt_irrefl i)]
        exact round_use2 good1.spl (fun Kv => xO_7 (zoO l z i) (zrowsT 0 1 i) (zrowsT 100 1 i) i i _ a0 a1 a2 a3 Kv)
          (bcase_tt (dcq_ge (by omega)) (fun env h ds ho => (done_O1 Zs hn _ rfl ho).elim fun σ ab => ⟨σ, rfl, ab⟩))
    | s8 i a0 g0 =>
      obtain ⟨h1, h2, p0, p1⟩ := hs
      have hc := cntO_le l i
      by_cases hlt : i < n
      · cases hb : l i with
        | false =>
          have q1 : (cntO l i = 0 → cntO l (i + 1) = 1) ∧ (cntO l i ≠ 0 → cntO l (i + 1) = 0) := cntO_false hb
          have q3 : valO l i = cntO l i + 1 := valO_false hb
          refine ⟨?_⟩
          show xcode C1 Tryz.prog F 14 (loopC Tryz.prog 14 22) (mask 14) (tmpsN Tryz.prog 14) (mkE (eO n (ggO (zn i) [bi (l i)]) (.slc n0O 0 i i false 1) i)) _ (cond (Nat.ble (i + 1) n) (cond (l i) dO_8_1 dO_8_0) [false]) _
          rw [hb, ble_t hlt]
          exact useO_8_0 Zs hn hlt a0 (by omega) (by omega) (row1_eq (by omega)) (cellI hlt (getO8 ..) _) (cellR (zgO8 ..) (by rw [zoO_low (by omega), Zs.ins i hlt]; unfold inRowO; rw [hb]; rfl) _ rfl)
            (fun env h ds σ ab => ⟨.s3 (i + 1) (a0 + 1) a0 _, σ, ⟨by omega, hlt, by omega, by omega⟩, (by show n - (i + 1) < n - i; omega), rfl, ab⟩)
        | true =>
          have q1 : (cntO l i = 0 → cntO l (i + 1) = 0) ∧ (cntO l i ≠ 0 → cntO l (i + 1) = 2) := cntO_true hb
          have q3 : (cntO l i = 2 → valO l i = 3) ∧ (cntO l i ≠ 2 → valO l i = cntO l i + 2) := valO_true hb
          refine ⟨?_⟩
          show xcode C1 Tryz.prog F 14 (loopC Tryz.prog 14 22) (mask 14) (tmpsN Tryz.prog 14) (mkE (eO n (ggO (zn i) [bi (l i)]) (.slc n0O 0 i i false 1) i)) _ (cond (Nat.ble (i + 1) n) (cond (l i) dO_8_1 dO_8_0) [false]) _
          rw [hb, ble_t hlt]
          exact useO_8_1 Zs hn hlt a0 (by omega) (by omega) (row1_eq (by omega)) (cellI hlt (getO8 ..) _) (cellR (zgO8 ..) (by rw [zoO_low (by omega), Zs.ins i hlt]; unfold inRowO; rw [hb]; rfl) _ rfl)
            (fun env h ds σ ab => ⟨.s8 (i + 1) (a0 + 1) _, σ, ⟨by omega, hlt, by omega, by omega⟩, (by show n - (i + 1) < n - i; omega), rfl, ab⟩)
      · have hin : i = n := by omega
        subst hin
        refine ⟨?_⟩
        show xcode C1 Tryz.prog F 14 (loopC Tryz.prog 14 22) (mask 14) (tmpsN Tryz.prog 14) (mkE (eO i (ggO (zn i) [bi (l i)]) (.slc n0O 0 i i false 1) i)) _ (cond (Nat.ble (i + 1) i) (cond (l i) dO_8_1 dO_8_0) [false]) _
        rw [ble_f (Nat.lt_irrefl i)]
        exact round_use2 good1.spl (fun Kv => xO_8 (zoO l z i) (zrowsT 0 1 i) (zrowsT 100 1 i) i i _ a0 Kv)
          (bcase_tt (dcq_ge (by omega)) (fun env h ds ho => (done_O1 Zs hn _ rfl ho).elim fun σ ab => ⟨σ, rfl, ab⟩))
    | s9 i a0 g0 =>
      obtain ⟨h1, h2, p0, p1⟩ := hs
      have hc := cntO_le l i
      by_cases hlt : i < n
      · cases hb : l i with
        | false =>
          have q1 : (cntO l i = 0 → cntO l (i + 1) = 1) ∧ (cntO l i ≠ 0 → cntO l (i + 1) = 0) := cntO_false hb
          have q3 : valO l i = cntO l i + 1 := valO_false hb
          refine ⟨?_⟩
          show xcode C1 Tryz.prog F 14 (loopC Tryz.prog 14 22) (mask 14) (tmpsN Tryz.prog 14) (mkE (eO n (ggO (zn i) [bi (l i)]) (.slc n0O 0 i i false 1) i)) _ (cond (Nat.ble (i + 1) n) (cond (l i) dO_9_1 dO_9_0) [false]) _
          rw [hb, ble_t hlt]
          exact useO_9_0 Zs hn hlt a0 (by omega) (by omega) (row1_eq (by omega)) (cellI hlt (getO9 ..) _) (cellR (zgO9 ..) (by rw [zoO_low (by omega), Zs.ins i hlt]; unfold inRowO; rw [hb]; rfl) _ rfl)
            (fun env h ds σ ab => ⟨.s10 (i + 1) (a0 + 1) _, σ, ⟨by omega, hlt, by omega, by omega⟩, (by show n - (i + 1) < n - i; omega), rfl, ab⟩)
        | true =>
          have q1 : (cntO l i = 0 → cntO l (i + 1) = 0) ∧ (cntO l i ≠ 0 → cntO l (i + 1) = 2) := cntO_true hb
          have q3 : (cntO l i = 2 → valO l i = 3) ∧ (cntO l i ≠ 2 → valO l i = cntO l i + 2) := valO_true hb
          refine ⟨?_⟩
          show xcode C1 Tryz.prog F 14 (loopC Tryz.prog 14 22) (mask 14) (tmpsN Tryz.prog 14) (mkE (eO n (ggO (zn i) [bi (l i)]) (.slc n0O 0 i i false 1) i)) _ (cond (Nat.ble (i + 1) n) (cond (l i) dO_9_1 dO_9_0) [false]) _
          rw [hb, ble_t hlt]
          exact useO_9_1 Zs hn hlt a0 (by omega) (by omega) (row1_eq (by omega)) (cellI hlt (getO9 ..) _) (cellR (zgO9 ..) (by rw [zoO_low (by omega), Zs.ins i hlt]; unfold inRowO; rw [hb]; rfl) _ rfl)
            (fun env h ds σ ab => ⟨.s9 (i + 1) (a0 + 1) _, σ, ⟨by omega, hlt, by omega, by omega⟩, (by show n - (i + 1) < n - i; omega), rfl, ab⟩)
      · have hin : i = n := by omega
        subst hin
        refine ⟨?_⟩
        show xcode C1 Tryz.prog F 14 (loopC Tryz.prog 14 22) (mask 14) (tmpsN Tryz.prog 14) (mkE (eO i (ggO (zn i) [bi (l i)]) (.slc n0O 0 i i false 1) i)) _ (cond (Nat.ble (i + 1) i) (cond (l i) dO_9_1 dO_9_0) [false]) _
        rw [ble_f (Nat.lt_irrefl i)]
        exact round_use2 good1.spl (fun Kv => xO_9 (zoO l z i) (zrowsT 0 1 i) (zrowsT 100 1 i) i i _ a0 Kv)
          (bcase_tt (dcq_ge (by omega)) (fun env h ds ho => (done_O1 Zs hn _ rfl ho).elim fun σ ab => ⟨σ, rfl, ab⟩))
    | s10 i a0 g0 =>
      obtain ⟨h1, h2, p0, p1⟩ := hs
      have hc := cntO_le l i
      by_cases hlt : i < n
      · cases hb : l i with
        | false =>
          have q1 : (cntO l i = 0 → cntO l (i + 1) = 1) ∧ (cntO l i ≠ 0 → cntO l (i + 1) = 0) := cntO_false hb
          have q3 : valO l i = cntO l i + 1 := valO_false hb
          refine ⟨?_⟩
          show xcode C1 Tryz.prog F 14 (loopC Tryz.prog 14 22) (mask 14) (tmpsN Tryz.prog 14) (mkE (eO n (ggO (zn i) [bi (l i)]) (.slc n0O 0 i i false 1) i)) _ (cond (Nat.ble (i + 1) n) (cond (l i) dO_10_1 dO_10_0) [false]) _
          rw [hb, ble_t hlt]
          exact useO_10_0 Zs hn hlt a0 (by omega) (by omega) (row1_eq (by omega)) (cellI hlt (getO10 ..) _) (cellR (zgO10 ..) (by rw [zoO_low (by omega), Zs.ins i hlt]; unfold inRowO; rw [hb]; rfl) _ rfl)
            (fun env h ds σ ab => ⟨.s11 (i + 1) (a0 + 1) a0 _, σ, ⟨by omega, hlt, by omega, by omega⟩, (by show n - (i + 1) < n - i; omega), rfl, ab⟩)
        | true =>
          have q1 : (cntO l i = 0 → cntO l (i + 1) = 0) ∧ (cntO l i ≠ 0 → cntO l (i + 1) = 2) := cntO_true hb
          have q3 : (cntO l i = 2 → valO l i = 3) ∧ (cntO l i ≠ 2 → valO l i = cntO l i + 2) := valO_true hb
          refine ⟨?_⟩
          show xcode C1 Tryz.prog F 14 (loopC Tryz.prog 14 22) (mask 14) (tmpsN Tryz.prog 14) (mkE (eO n (ggO (zn i) [bi (l i)]) (.slc n0O 0 i i false 1) i)) _ (cond (Nat.ble (i + 1) n) (cond (l i) dO_10_1 dO_10_0) [false]) _
          rw [hb, ble_t hlt]
          exact useO_10_1 Zs hn hlt a0 (by omega) (by omega) (row1_eq (by omega)) (cellI hlt (getO10 ..) _) (cellR (zgO10 ..) (by rw [zoO_low (by omega), Zs.ins i hlt]; unfold inRowO; rw [hb]; rfl) _ rfl)
            (fun env h ds σ ab => ⟨.s15 (i + 1) (a0 + 1) a0 _, σ, ⟨by omega, hlt, by omega, by omega⟩, (by show n - (i + 1) < n - i; omega), rfl, ab⟩)
      · have hin : i = n := by omega
        subst hin
        refine ⟨?_⟩
        show xcode C1 Tryz.prog F 14 (loopC Tryz.prog 14 22) (mask 14) (tmpsN Tryz.prog 14) (mkE (eO i (ggO (zn i) [bi (l i)]) (.slc n0O 0 i i false 1) i)) _ (cond (Nat.ble (i + 1) i) (cond (l i) dO_10_1 dO_10_0) [false]) _
        rw [ble_f (Nat.lt_irrefl i)]
        exact round_use2 good1.spl (fun Kv => xO_10 (zoO l z i) (zrowsT 0 1 i) (zrowsT 100 1 i) i i _ a0 Kv)
          (bcase_tt (dcq_ge (by omega)) (fun env h ds ho => (done_O1 Zs hn _ rfl ho).elim fun σ ab => ⟨σ, rfl, ab⟩))
    | s11 i a0 a1 g0 =>
      obtain ⟨h1, h2, p0, p1⟩ := hs
      have hc := cntO_le l i
      by_cases hlt : i < n
      · cases hb : l i with
        | false =>
          have q1 : (cntO l i = 0 → cntO l (i + 1) = 1) ∧ (cntO l i ≠ 0 → cntO l (i + 1) = 0) := cntO_false hb
          have q3 : valO l i = cntO l i + 1 := valO_false hb
          refine ⟨?_⟩
          show xcode C1 Tryz.prog F 14 (loopC Tryz.prog 14 22) (mask 14) (tmpsN Tryz.prog 14) (mkE (eO n (ggO (zn i) [bi (l i)]) (.slc n0O 0 i i false 1) i)) _ (cond (Nat.ble (i + 1) n) (cond (l i) dO_11_1 dO_11_0) [false]) _
          rw [hb, ble_t hlt]
          exact useO_11_0 Zs hn hlt a0 a1 (by omega) (by omega) (row1_eq (by omega)) (cellI hlt (getO11 ..) _) (cellR (zgO11 ..) (by rw [zoO_low (by omega), Zs.ins i hlt]; unfold inRowO; rw [hb]; rfl) _ rfl)
            (fun env h ds σ ab => ⟨.s7 (i + 1) (a0 + 1) 0 a0 a1 _, σ, ⟨by omega, hlt, by omega, by omega⟩, (by show n - (i + 1) < n - i; omega), rfl, ab⟩)
        | true =>
          have q1 : (cntO l i = 0 → cntO l (i + 1) = 0) ∧ (cntO l i ≠ 0 → cntO l (i + 1) = 2) := cntO_true hb
          have q3 : (cntO l i = 2 → valO l i = 3) ∧ (cntO l i ≠ 2 → valO l i = cntO l i + 2) := valO_true hb
          refine ⟨?_⟩
          show xcode C1 Tryz.prog F 14 (loopC Tryz.prog 14 22) (mask 14) (tmpsN Tryz.prog 14) (mkE (eO n (ggO (zn i) [bi (l i)]) (.slc n0O 0 i i false 1) i)) _ (cond (Nat.ble (i + 1) n) (cond (l i) dO_11_1 dO_11_0) [false]) _
          rw [hb, ble_t hlt]
          exact useO_11_1 Zs hn hlt a0 a1 (by omega) (by omega) (row1_eq (by omega)) (cellI hlt (getO11 ..) _) (cellR (zgO11 ..) (by rw [zoO_low (by omega), Zs.ins i hlt]; unfold inRowO; rw [hb]; rfl) _ rfl)
            (fun env h ds σ ab => ⟨.s12 (i + 1) (a0 + 1) a0 _, σ, ⟨by omega, hlt, by omega, by omega⟩, (by show n - (i + 1) < n - i; omega), rfl, ab⟩)
      · have hin : i = n := by omega
        subst hin
        refine ⟨?_⟩
        show xcode C1 Tryz.prog F 14 (loopC Tryz.prog 14 22) (mask 14) (tmpsN Tryz.prog 14) (mkE (eO i (ggO (zn i) [bi (l i)]) (.slc n0O 0 i i false 1) i)) _ (cond (Nat.ble (i + 1) i) (cond (l i) dO_11_1 dO_11_0) [false]) _
        rw [ble_f (Nat.lt_irrefl i)]
        exact round_use2 good1.spl (fun Kv => xO_11 (zoO l z i) (zrowsT 0 1 i) (zrowsT 100 1 i) i i _ a0 a1 Kv)
          (bcase_tt (dcq_ge (by omega)) (fun env h ds ho => (done_O1 Zs hn _ rfl ho).elim fun σ ab => ⟨σ, rfl, ab⟩))
    | s12 i a0 a1 g0 =>
      obtain ⟨h1, h2, p0, p1⟩ := hs
      have hc := cntO_le l i
      by_cases hlt : i < n
      · cases hb : l i with
        | false =>
          have q1 : (cntO l i = 0 → cntO l (i + 1) = 1) ∧ (cntO l i ≠ 0 → cntO l (i + 1) = 0) := cntO_false hb
          have q3 : valO l i = cntO l i + 1 := valO_false hb
          refine ⟨?_⟩
          show xcode C1 Tryz.prog F 14 (loopC Tryz.prog 14 22) (mask 14) (tmpsN Tryz.prog 14) (mkE (eO n (ggO (zn i) [bi (l i)]) (.slc n0O 0 i i false 1) i)) _ (cond (Nat.ble (i + 1) n) (cond (l i) dO_12_1 dO_12_0) [false]) _
          rw [hb, ble_t hlt]
          exact useO_12_0 Zs hn hlt a0 a1 (by omega) (by omega) (row1_eq (by omega)) (cellI hlt (getO12 ..) _) (cellR (zgO12 ..) (by rw [zoO_low (by omega), Zs.ins i hlt]; unfold inRowO; rw [hb]; rfl) _ rfl)
            (fun env h ds σ ab => ⟨.s13 (i + 1) (a0 + 1) a1 _, σ, ⟨by omega, hlt, by omega, by omega⟩, (by show n - (i + 1) < n - i; omega), rfl, ab⟩)
        | true =>
          have q1 : (cntO l i = 0 → cntO l (i + 1) = 0) ∧ (cntO l i ≠ 0 → cntO l (i + 1) = 2) := cntO_true hb
          have q3 : (cntO l i = 2 → valO l i = 3) ∧ (cntO l i ≠ 2 → valO l i = cntO l i + 2) := valO_true hb
          refine ⟨?_⟩
          show xcode C1 Tryz.prog F 14 (loopC Tryz.prog 14 22) (mask 14) (tmpsN Tryz.prog 14) (mkE (eO n (ggO (zn i) [bi (l i)]) (.slc n0O 0 i i false 1) i)) _ (cond (Nat.ble (i + 1) n) (cond (l i) dO_12_1 dO_12_0) [false]) _
          rw [hb, ble_t hlt]
          exact useO_12_1 Zs hn hlt a0 a1 (by omega) (by omega) (row1_eq (by omega)) (cellI hlt (getO12 ..) _) (cellR (zgO12 ..) (by rw [zoO_low (by omega), Zs.ins i hlt]; unfold inRowO; rw [hb]; rfl) _ rfl)
            (fun env h ds σ ab => ⟨.s12 (i + 1) (a0 + 1) a1 _, σ, ⟨by omega, hlt, by omega, by omega⟩, (by show n - (i + 1) < n - i; omega), rfl, ab⟩)
      · have hin : i = n := by omega
        subst hin
        refine ⟨?_⟩
        show xcode C1 Tryz.prog F 14 (loopC Tryz.prog 14 22) (mask 14) (tmpsN Tryz.prog 14) (mkE (eO i (ggO (zn i) [bi (l i)]) (.slc n0O 0 i i false 1) i)) _ (cond (Nat.ble (i + 1) i) (cond (l i) dO_12_1 dO_12_0) [false]) _
        rw [ble_f (Nat.lt_irrefl i)]
        exact round_use2 good1.spl (fun Kv => xO_12 (zoO l z i) (zrowsT 0 1 i) (zrowsT 100 1 i) i i _ a0 a1 Kv)
          (bcase_tt (dcq_ge (by omega)) (fun env h ds ho => (done_O1 Zs hn _ rfl ho).elim fun σ ab => ⟨σ, rfl, ab⟩))
    | s13 i a0 a1 g0 =>
      obtain ⟨h1, h2, p0, p1⟩ := hs
      have hc := cntO_le l i
      by_cases hlt : i < n
      · cases hb : l i with
        | false =>
          have q1 : (cntO l i = 0 → cntO l (i + 1) = 1) ∧ (cntO l i ≠ 0 → cntO l (i + 1) = 0) := cntO_false hb
          have q3 : valO l i = cntO l i + 1 := valO_false hb
          refine ⟨?_⟩
          show xcode C1 Tryz.prog F 14 (loopC Tryz.prog 14 22) (mask 14) (tmpsN Tryz.prog 14) (mkE (eO n (ggO (zn i) [bi (l i)]) (.slc n0O 0 i i false 1) i)) _ (cond (Nat.ble (i + 1) n) (cond (l i) dO_13_1 dO_13_0) [false]) _
          rw [hb, ble_t hlt]
          exact useO_13_0 Zs hn hlt a0 a1 (by omega) (by omega) (row1_eq (by omega)) (cellI hlt (getO13 ..) _) (cellR (zgO13 ..) (by rw [zoO_low (by omega), Zs.ins i hlt]; unfold inRowO; rw [hb]; rfl) _ rfl)
            (fun env h ds σ ab => ⟨.s11 (i + 1) (a0 + 1) a0 _, σ, ⟨by omega, hlt, by omega, by omega⟩, (by show n - (i + 1) < n - i; omega), rfl, ab⟩)
        | true =>
          have q1 : (cntO l i = 0 → cntO l (i + 1) = 0) ∧ (cntO l i ≠ 0 → cntO l (i + 1) = 2) := cntO_true hb
          have q3 : (cntO l i = 2 → valO l i = 3) ∧ (cntO l i ≠ 2 → valO l i = cntO l i + 2) := valO_true hb
          refine ⟨?_⟩
          show xcode C1 Tryz.prog F 14 (loopC Tryz.prog 14 22) (mask 14) (tmpsN Tryz.prog 14) (mkE (eO n (ggO (zn i) [bi (l i)]) (.slc n0O 0 i i false 1) i)) _ (cond (Nat.ble (i + 1) n) (cond (l i) dO_13_1 dO_13_0) [false]) _
          rw [hb, ble_t hlt]
          exact useO_13_1 Zs hn hlt a0 a1 (by omega) (by omega) (row1_eq (by omega)) (cellI hlt (getO13 ..) _) (cellR (zgO13 ..) (by rw [zoO_low (by omega), Zs.ins i hlt]; unfold inRowO; rw [hb]; rfl) _ rfl)
            (fun env h ds σ ab => ⟨.s7 (i + 1) (a0 + 1) 1 a1 a0 _, σ, ⟨by omega, hlt, by omega, by omega⟩, (by show n - (i + 1) < n - i; omega), rfl, ab⟩)
      · have hin : i = n := by omega
        subst hin
        refine ⟨?_⟩
        show xcode C1 Tryz.prog F 14 (loopC Tryz.prog 14 22) (mask 14) (tmpsN Tryz.prog 14) (mkE (eO i (ggO (zn i) [bi (l i)]) (.slc n0O 0 i i false 1) i)) _ (cond (Nat.ble (i + 1) i) (cond (l i) dO_13_1 dO_13_0) [false]) _
        rw [ble_f (Nat.lt_irrefl i)]
        exact round_use2 good1.spl (fun Kv => xO_13 (zoO l z i) (zrowsT 0 1 i) (zrowsT 100 1 i) i i _ a0 a1 Kv)
          (bcase_tt (dcq_ge (by omega)) (fun env h ds ho => (done_O1 Zs hn _ rfl ho).elim fun σ ab => ⟨σ, rfl, ab⟩))
    | s14 i a0 a1 a2 g0 =>
      obtain ⟨h1, h2, p0, p1⟩ := hs
      have hc := cntO_le l i
      by_cases hlt : i < n
      · cases hb : l i with
        | false =>
          have q1 : (cntO l i = 0 → cntO l (i + 1) = 1) ∧ (cntO l i ≠ 0 → cntO l (i + 1) = 0) := cntO_false hb
          have q3 : valO l i = cntO l i + 1 := valO_false hb
          refine ⟨?_⟩
          show xcode C1 Tryz.prog F 14 (loopC Tryz.prog 14 22) (mask 14) (tmpsN Tryz.prog 14) (mkE (eO n (ggO (zn i) [bi (l i)]) (.slc n0O 0 i i false 1) i)) _ (cond (Nat.ble (i + 1) n) (cond (l i) dO_14_1 dO_14_0) [false]) _
          rw [hb, ble_t hlt]
          exact useO_14_0 Zs hn hlt a0 a1 a2 (by omega) (by omega) (row1_eq (by omega)) (cellI hlt (getO14 ..) _) (cellR (zgO14 ..) (by rw [zoO_low (by omega), Zs.ins i hlt]; unfold inRowO; rw [hb]; rfl) _ rfl)
            (fun env h ds σ ab => ⟨.s3 (i + 1) (a0 + 1) a0 _, σ, ⟨by omega, hlt, by omega, by omega⟩, (by show n - (i + 1) < n - i; omega), rfl, ab⟩)
        | true =>
          have q1 : (cntO l i = 0 → cntO l (i + 1) = 0) ∧ (cntO l i ≠ 0 → cntO l (i + 1) = 2) := cntO_true hb
          have q3 : (cntO l i = 2 → valO l i = 3) ∧ (cntO l i ≠ 2 → valO l i = cntO l i + 2) := valO_true hb
          refine ⟨?_⟩
          show xcode C1 Tryz.prog F 14 (loopC Tryz.prog 14 22) (mask 14) (tmpsN Tryz.prog 14) (mkE (eO n (ggO (zn i) [bi (l i)]) (.slc n0O 0 i i false 1) i)) _ (cond (Nat.ble (i + 1) n) (cond (l i) dO_14_1 dO_14_0) [false]) _
          rw [hb, ble_t hlt]
          exact useO_14_1 Zs hn hlt a0 a1 a2 (by omega) (by omega) (row1_eq (by omega)) (cellI hlt (getO14 ..) _) (cellR (zgO14 ..) (by rw [zoO_low (by omega), Zs.ins i hlt]; unfold inRowO; rw [hb]; rfl) _ rfl)
            (fun env h ds σ ab => ⟨.s14 (i + 1) (a0 + 1) 1 a2 _, σ, ⟨by omega, hlt, by omega, by omega⟩, (by show n - (i + 1) < n - i; omega), rfl, ab⟩)
      · have hin : i = n := by omega
        subst hin
        refine ⟨?_⟩
        show xcode C1 Tryz.prog F 14 (loopC Tryz.prog 14 22) (mask 14) (tmpsN Tryz.prog 14) (mkE (eO i (ggO (zn i) [bi (l i)]) (.slc n0O 0 i i false 1) i)) _ (cond (Nat.ble (i + 1) i) (cond (l i) dO_14_1 dO_14_0) [false]) _
        rw [ble_f (Nat.lt_irrefl i)]
        exact round_use2 good1.spl (fun Kv => xO_14 (zoO l z i) (zrowsT 0 1 i) (zrowsT 100 1 i) i i _ a0 a1 a2 Kv)
          (bcase_tt (dcq_ge (by omega)) (fun env h ds ho => (done_O1 Zs hn _ rfl ho).elim fun σ ab => ⟨σ, rfl, ab⟩))
    | s15 i a0 a1 g0 =>
      obtain ⟨h1, h2, p0, p1⟩ := hs
      have hc := cntO_le l i
      by_cases hlt : i < n
      · cases hb : l i with
        | false =>
          have q1 : (cntO l i = 0 → cntO l (i + 1) = 1) ∧ (cntO l i ≠ 0 → cntO l (i + 1) = 0) := cntO_false hb
          have q3 : valO l i = cntO l i + 1 := valO_false hb
          refine ⟨?_⟩
          show xcode C1 Tryz.prog F 14 (loopC Tryz.prog 14 22) (mask 14) (tmpsN Tryz.prog 14) (mkE (eO n (ggO (zn i) [bi (l i)]) (.slc n0O 0 i i false 1) i)) _ (cond (Nat.ble (i + 1) n) (cond (l i) dO_15_1 dO_15_0) [false]) _
          rw [hb, ble_t hlt]
          exact useO_15_0 Zs hn hlt a0 a1 (by omega) (by omega) (row1_eq (by omega)) (cellI hlt (getO15 ..) _) (cellR (zgO15 ..) (by rw [zoO_low (by omega), Zs.ins i hlt]; unfold inRowO; rw [hb]; rfl) _ rfl)
            (fun env h ds σ ab => ⟨.s6 (i + 1) (a0 + 1) a0 a1 _, σ, ⟨by omega, hlt, by omega, by omega⟩, (by show n - (i + 1) < n - i; omega), rfl, ab⟩)
        | true =>
          have q1 : (cntO l i = 0 → cntO l (i + 1) = 0) ∧ (cntO l i ≠ 0 → cntO l (i + 1) = 2) := cntO_true hb
          have q3 : (cntO l i = 2 → valO l i = 3) ∧ (cntO l i ≠ 2 → valO l i = cntO l i + 2) := valO_true hb
          refine ⟨?_⟩
          show xcode C1 Tryz.prog F 14 (loopC Tryz.prog 14 22) (mask 14) (tmpsN Tryz.prog 14) (mkE (eO n (ggO (zn i) [bi (l i)]) (.slc n0O 0 i i false 1) i)) _ (cond (Nat.ble (i + 1) n) (cond (l i) dO_15_1 dO_15_0) [false]) _
          rw [hb, ble_t hlt]
          exact useO_15_1 Zs hn hlt a0 a1 (by omega) (by omega) (row1_eq (by omega)) (cellI hlt (getO15 ..) _) (cellR (zgO15 ..) (by rw [zoO_low (by omega), Zs.ins i hlt]; unfold inRowO; rw [hb]; rfl) _ rfl)
            (fun env h ds σ ab => ⟨.s15 (i + 1) (a0 + 1) a1 _, σ, ⟨by omega, hlt, by omega, by omega⟩, (by show n - (i + 1) < n - i; omega), rfl, ab⟩)
      · have hin : i = n := by omega
        subst hin
        refine ⟨?_⟩
        show xcode C1 Tryz.prog F 14 (loopC Tryz.prog 14 22) (mask 14) (tmpsN Tryz.prog 14) (mkE (eO i (ggO (zn i) [bi (l i)]) (.slc n0O 0 i i false 1) i)) _ (cond (Nat.ble (i + 1) i) (cond (l i) dO_15_1 dO_15_0) [false]) _
        rw [ble_f (Nat.lt_irrefl i)]
        exact round_use2 good1.spl (fun Kv => xO_15 (zoO l z i) (zrowsT 0 1 i) (zrowsT 100 1 i) i i _ a0 a1 Kv)
          (bcase_tt (dcq_ge (by omega)) (fun env h ds ho => (done_O1 Zs hn _ rfl ho).elim fun σ ab => ⟨σ, rfl, ab⟩))
end
end Go.Proofs.YtkfhjobebhdpoaaGreat

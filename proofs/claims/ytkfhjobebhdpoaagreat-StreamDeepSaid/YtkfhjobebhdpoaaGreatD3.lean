/- Stream: Run's loop over ticks, as a contract (the program of StreamDeep). -/
import Derived.Test.YtkfhjobebhdpoaaGreatDA
import Derived.Test.YtkfhjobebhdpoaaGreatG
set_option linter.unusedVariables false
set_option autoImplicit false
set_option maxRecDepth 1000000
set_option maxHeartbeats 2000000
set_option linter.unusedVariables false
namespace Go.Proofs.YtkfhjobebhdpoaaGreat
noncomputable section
open Go.X
inductive SD where
  | s0 (g : Nat → CV)
  | s1 (i : Nat) (g : Nat → CV)
  | s2 (i : Nat) (g : Nat → CV)
  | s3 (i : Nat) (a0 : Int) (a1 : Int) (g : Nat → CV)
  | s4 (i : Nat) (a0 : Int) (a1 : Int) (g : Nat → CV)
  | s5 (i : Nat) (a0 : Int) (a1 : Int) (g : Nat → CV)
  | s6 (i : Nat) (a0 : Int) (g : Nat → CV)
  | s7 (i : Nat) (a0 : Int) (g : Nat → CV)
  | s8 (i : Nat) (a0 : Int) (a1 : Int) (a2 : Int) (g : Nat → CV)
  | s9 (i : Nat) (a0 : Int) (a1 : Int) (a2 : Int) (g : Nat → CV)
  | s10 (i : Nat) (a0 : Int) (a1 : Int) (a2 : Int) (g : Nat → CV)
def SD.ok (l : Nat → Bool) (n : Nat) : SD → Prop
  | .s0 _ => True
  | .s1 i _ => 1 ≤ i ∧ i ≤ n ∧ cntD l i = 1 ∧ (i : Int) = 1
  | .s2 i _ => 1 ≤ i ∧ i ≤ n ∧ cntD l i = 2 ∧ (i : Int) = 2
  | .s3 i a0 a1 _ => 1 ≤ i ∧ i ≤ n ∧ a0 = (i : Int) ∧ cntD l i = a0 ∧ cntD l i % 3 = 0 ∧ 3 ≤ cntD l i
  | .s4 i a0 a1 _ => 1 ≤ i ∧ i ≤ n ∧ a0 = (i : Int) ∧ cntD l i = a0 ∧ cntD l i % 3 = 1 ∧ 3 ≤ cntD l i
  | .s5 i a0 a1 _ => 1 ≤ i ∧ i ≤ n ∧ a0 = (i : Int) ∧ cntD l i = a0 ∧ cntD l i % 3 = 2 ∧ 3 ≤ cntD l i
  | .s6 i a0 _ => 1 ≤ i ∧ i ≤ n ∧ a0 = (i : Int) ∧ cntD l i = 1
  | .s7 i a0 _ => 1 ≤ i ∧ i ≤ n ∧ a0 = (i : Int) ∧ cntD l i = 2
  | .s8 i a0 a1 a2 _ => 1 ≤ i ∧ i ≤ n ∧ a0 = (i : Int) ∧ cntD l i = a2 ∧ cntD l i % 3 = 0 ∧ 3 ≤ cntD l i
  | .s9 i a0 a1 a2 _ => 1 ≤ i ∧ i ≤ n ∧ a0 = (i : Int) ∧ cntD l i = a2 ∧ cntD l i % 3 = 1 ∧ 3 ≤ cntD l i
  | .s10 i a0 a1 a2 _ => 1 ≤ i ∧ i ≤ n ∧ a0 = (i : Int) ∧ cntD l i = a2 ∧ cntD l i % 3 = 2 ∧ 3 ≤ cntD l i
def SD.st (l : Nat → Bool) (n : Nat) (z : T Blk) : SD → ZS
  | .s0 g => ⟨eD n g .nils 0, lapp (rr0D (zrowsT 0 1 n) (zrowsT 100 3 n)) bD0, z, n0D⟩
  | .s1 i g => stD l n z i g (bD1)
  | .s2 i g => stD l n z i g (bD2)
  | .s3 i a0 a1 g => stD l n z i g (bD3 a0 a1)
  | .s4 i a0 a1 g => stD l n z i g (bD4 a0 a1)
  | .s5 i a0 a1 g => stD l n z i g (bD5 a0 a1)
  | .s6 i a0 g => stD l n z i g (bD6 a0)
  | .s7 i a0 g => stD l n z i g (bD7 a0)
  | .s8 i a0 a1 a2 g => stD l n z i g (bD8 a0 a1 a2)
  | .s9 i a0 a1 a2 g => stD l n z i g (bD9 a0 a1 a2)
  | .s10 i a0 a1 a2 g => stD l n z i g (bD10 a0 a1 a2)
def SD.er (l : Nat → Bool) (n : Nat) : SD → List (Nat × AV)
  | .s0 _ => eD n (ggD (zn 0) [bi (l 0)]) .nils 0
  | .s1 i _ => eD n (ggD (zn i) [bi (l i)]) (.slc n0D 0 i i false 1) i
  | .s2 i _ => eD n (ggD (zn i) [bi (l i)]) (.slc n0D 0 i i false 1) i
  | .s3 i _ _ _ => eD n (ggD (zn i) [bi (l i)]) (.slc n0D 0 i i false 1) i
  | .s4 i _ _ _ => eD n (ggD (zn i) [bi (l i)]) (.slc n0D 0 i i false 1) i
  | .s5 i _ _ _ => eD n (ggD (zn i) [bi (l i)]) (.slc n0D 0 i i false 1) i
  | .s6 i _ _ => eD n (ggD (zn i) [bi (l i)]) (.slc n0D 0 i i false 1) i
  | .s7 i _ _ => eD n (ggD (zn i) [bi (l i)]) (.slc n0D 0 i i false 1) i
  | .s8 i _ _ _ _ => eD n (ggD (zn i) [bi (l i)]) (.slc n0D 0 i i false 1) i
  | .s9 i _ _ _ _ => eD n (ggD (zn i) [bi (l i)]) (.slc n0D 0 i i false 1) i
  | .s10 i _ _ _ _ => eD n (ggD (zn i) [bi (l i)]) (.slc n0D 0 i i false 1) i
def SD.dr (l : Nat → Bool) (n : Nat) : SD → List Bool
  | .s0 _ => (cond (l 0) dD_0_1 dD_0_0)
  | .s1 i _ => cond (Nat.ble (i + 1) n) (cond (l i) dD_1_1 dD_1_0) [false]
  | .s2 i _ => cond (Nat.ble (i + 1) n) (cond (l i) dD_2_1 dD_2_0) [false]
  | .s3 i _ _ _ => cond (Nat.ble (i + 1) n) (cond (l i) dD_3_1 dD_3_0) [false]
  | .s4 i _ _ _ => cond (Nat.ble (i + 1) n) (cond (l i) dD_4_1 dD_4_0) [false]
  | .s5 i _ _ _ => cond (Nat.ble (i + 1) n) (cond (l i) dD_5_1 dD_5_0) [false]
  | .s6 i _ _ => cond (Nat.ble (i + 1) n) (cond (l i) dD_6_1 dD_6_0) [false]
  | .s7 i _ _ => cond (Nat.ble (i + 1) n) (cond (l i) dD_7_1 dD_7_0) [false]
  | .s8 i _ _ _ _ => cond (Nat.ble (i + 1) n) (cond (l i) dD_8_1 dD_8_0) [false]
  | .s9 i _ _ _ _ => cond (Nat.ble (i + 1) n) (cond (l i) dD_9_1 dD_9_0) [false]
  | .s10 i _ _ _ _ => cond (Nat.ble (i + 1) n) (cond (l i) dD_10_1 dD_10_0) [false]
def SD.mu (n : Nat) : SD → Nat
  | .s0 _ => n + 1
  | .s1 i _ => n - i
  | .s2 i _ => n - i
  | .s3 i _ _ _ => n - i
  | .s4 i _ _ _ => n - i
  | .s5 i _ _ _ => n - i
  | .s6 i _ _ => n - i
  | .s7 i _ _ => n - i
  | .s8 i _ _ _ _ => n - i
  | .s9 i _ _ _ _ => n - i
  | .s10 i _ _ _ _ => n - i
theorem pe_eD (n : Nat) (g g' : Nat → CV) (out : AV) (i : Nat) : Pe (eD n g out i) (eD n g' out i) :=
  .cons _ _ _ _ _ (.inl rfl) (.cons _ _ _ _ _ (.inl rfl) (.cons _ _ _ _ _ (.inl rfl) (.cons _ _ _ _ _ (.inl rfl) (.cons _ _ _ _ _ (.inr ⟨_, _, _, _, _, rfl, rfl⟩) (.cons _ _ _ _ _ (.inl rfl) (.cons _ _ _ _ _ (.inl rfl) .nil))))))
theorem done_D1 {l : Nat → Bool} {n : Nat} {z : T Blk} (Zs : ZinD l n z) (hn : n ≤ 60) (R : List (Nat × Nat × Blk)) (hR : R = [(n0D, n0D, .row (zrows 300 3 n) 22 true []), (30, 30, .row (zrowsT 0 1 n) 22 true []), (31, 31, .row (zrowsT 100 3 n) 22 true [])]) {env : Env} {h : H}
    (ho : obs [6, 7, 17] (actsOf (lapp R []) []) (lapp R []) [] env h = expsR n0D (kpOf (zoD l z n)) [(6, .nils), (7, .int .i64 (Int.ofNat 0)), (17, .slc n0D 0 n n false 1)] R [] [] (zoD l z n) [(some (.row (zrows 300 3 n) 22 true []), true), (some (.row (zrowsT 0 1 n) 22 true []), true), (some (.row (zrowsT 100 3 n) 22 true []), true)]) :
    ∃ σ, Abs n0D σ (finD l n z).env (finD l n z).h env h := by
  subst hR
  have hlit : okLit n0D 2097152 (lapp [(n0D, n0D, .row (zrows 300 3 n) 22 true []), (30, 30, .row (zrowsT 0 1 n) 22 true []), (31, 31, .row (zrowsT 100 3 n) 22 true [])] []) = true := okLit_row rfl (belD_O (by omega)) (okLit_row rfl (belD_I hn) (okLit_row rfl (belD_W hn) rfl))
  have k1 := keepID Zs hn (i := n) (Zn := []) hlit (fun p hp => by cases hp)
  have k2 : renL (szs n0D (namesOf (lapp [(n0D, n0D, .row (zrows 300 3 n) 22 true []), (30, 30, .row (zrowsT 0 1 n) 22 true []), (31, 31, .row (zrowsT 100 3 n) 22 true [])] []) []) (kpOf (zoD l z n))) (zrows 300 3 n) = zrows 300 3 n := by
    exact zrows_keep fun j hj => szs_zone hlit (zgrow_new hj) (fun p hp e => by cases hp)
  rw [expsR_eq] at ho
  · exact NewOK.abs (t := finD l n z) (A := lapp [(n0D, n0D, .row (zrows 300 3 n) 22 true []), (30, 30, .row (zrowsT 0 1 n) 22 true []), (31, 31, .row (zrowsT 100 3 n) 22 true [])] []) (Z := []) (z := zoD l z n)
      ⟨rfl, rfl, by show 1050009 ≤ 2097152; decide, rfl, hlit, rfl, rfl, (fun p hp => (by cases hp)), List.nodup_nil, zoD_ok Zs (by omega)⟩ rfl rfl rfl rfl ho
  · show _ = [(some (Blk.row (renL _ _) _ _ _), true), (some (Blk.row (renL _ _) _ _ _), true), (some (Blk.row (renL _ _) _ _ _), true)]
    rw [k2, k1.1, k1.2]; rfl
theorem belD_I0 {n : Nat} (hn : n ≤ 60) : belL n0D (zrowsT 0 1 n) = true := belL_slc _ (fun j => zn (0 + j)) _ _ _ fun j hj => by have := List.mem_range.1 hj; rw [zn_eq]; show _ < 1050009; omega
theorem belD_W0 {n : Nat} (hn : n ≤ 60) : belL n0D (zrowsT 100 3 n) = true := belL_slc _ (fun j => zn (100 + j)) _ _ _ fun j hj => by have := List.mem_range.1 hj; rw [zn_eq]; show _ < 1050009; omega
theorem loopD_good {C : Cfg} (G : X.Good C Tryz.prog) (hg : C.gl = fun _ => none) (hm : C.mask 14 = mask 14) {l : Nat → Bool} {n : Nat} (hn1 : 1 ≤ n) (hn : n ≤ 60) {z : T Blk} (Zs : ZinD l n z) (g : Nat → CV) :
    X.Good (C.addLc 14 22 (lcZ (S0 := Unit) (fun _ => True) (lmap (fun p => p.1) (eD n g .nils 0)) (lmap (fun p => p.1) (lapp (rr0D (zrowsT 0 1 n) (zrowsT 100 3 n)) bD0)) (fun _ => SD.st l n z (.s0 g)) (fun _ => (.ext 2, finD l n z)))) Tryz.prog := by
  refine G.addZR good1 (by rw [hg]; rfl) (S := SD) (SD.dr l n) (n0 := n0D) (ι := fun _ => .s0 g) (ok := SD.ok l n) (St := SD.st l n z) (SD.er l n) (μ := SD.mu n) (fin := fun _ => (.ext 2, finD l n z)) (fuel := F) hm.symm (by rfl) ?_ ?_ ?_ (fun g i h => by rw [hg] at h; cases h)
  · intro s _
    cases s <;> exact pe_eD ..
  · intro _ _
    refine ⟨trivial, rfl, rfl, ⟨rfl, ?_, ?_, ?_⟩, by show 1050009 ≤ 2097152; decide, rfl, rfl⟩
    · show belEs n0D (eD n g .nils 0) = true
      kernel_rfl
    · exact blksN_app (R := rr0D (zrowsT 0 1 n) (zrowsT 100 3 n)) blksD0 (blksN_row (by show 30 < 1050009; decide) (belD_I0 hn) (blksN_row (by show 31 < 1050009; decide) (belD_W0 hn) rfl))
    · intro x k h
      obtain ⟨a, b⟩ := Zs.only x k h
      exact ⟨b, by rw [zn_eq]; show _ < 1050009; omega, by rw [zn_eq]; show _ < 1000000000000; omega⟩
  · intro s hs
    rw [hm]
    cases s with
    | s0 g0 =>
      have hc := leD l 0
      have z0 : cntD l 0 = 0 := rfl
      cases hb : l 0 with
      | false =>
        have q1 : cntD l (0 + 1) = cntD l 0 + 1 ∧ nD l 0 = cntD l 0 ∧ (cntD l 0 % 3 = 1 → tD l 0 = 1) ∧ (cntD l 0 % 3 ≠ 1 → tD l 0 = 0) ∧ (3 ≤ cntD l 0 → sD l 0 = 3) ∧ (cntD l 0 < 3 → sD l 0 = cntD l 0 + 1) := stepD_false hb
        have q1' : cntD l 1 = cntD l 0 + 1 ∧ nD l 0 = cntD l 0 ∧ (cntD l 0 % 3 = 1 → tD l 0 = 1) ∧ (cntD l 0 % 3 ≠ 1 → tD l 0 = 0) ∧ (3 ≤ cntD l 0 → sD l 0 = 3) ∧ (cntD l 0 < 3 → sD l 0 = cntD l 0 + 1) := q1
        refine ⟨?_⟩
        show xcode C1 Tryz.prog F 14 (loopC Tryz.prog 14 22) (mask 14) (tmpsN Tryz.prog 14) (mkE (eD n (ggD (zn 0) [bi (l 0)]) .nils 0)) _ (cond (l 0) dD_0_1 dD_0_0) _
        rw [hb]
        exact useD_0_0 Zs hn (by omega) (row3_eq (by omega) (by omega) (by omega)) (cellI (i := 0) (by omega) (getD0 ..) _) (cellR (zgD0 ..) (by rw [Zs.ins 0 (by omega)]; unfold inRowD; rw [hb]; rfl) _ rfl)
          (fun env h ds σ ab => ⟨.s1 1 _, σ, ⟨Nat.le_refl _, hn1, by omega, by omega⟩, (by show n - 1 < n + 1; omega), rfl, ab⟩)
      | true =>
        have q1 : cntD l (0 + 1) = 1 ∧ nD l 0 = 0 ∧ tD l 0 = 0 ∧ sD l 0 = 1 := stepD_true hb
        have q1' : cntD l 1 = 1 ∧ nD l 0 = 0 ∧ tD l 0 = 0 ∧ sD l 0 = 1 := q1
        refine ⟨?_⟩
        show xcode C1 Tryz.prog F 14 (loopC Tryz.prog 14 22) (mask 14) (tmpsN Tryz.prog 14) (mkE (eD n (ggD (zn 0) [bi (l 0)]) .nils 0)) _ (cond (l 0) dD_0_1 dD_0_0) _
        rw [hb]
        exact useD_0_1 Zs hn (by omega) (row3_eq (by omega) (by omega) (by omega)) (cellI (i := 0) (by omega) (getD0 ..) _) (cellR (zgD0 ..) (by rw [Zs.ins 0 (by omega)]; unfold inRowD; rw [hb]; rfl) _ rfl)
          (fun env h ds σ ab => ⟨.s6 1 1 _, σ, ⟨Nat.le_refl _, hn1, by omega, by omega⟩, (by show n - 1 < n + 1; omega), rfl, ab⟩)
    | s1 i g0 =>
      obtain ⟨h1, h2, p0, p1⟩ := hs
      have hc := leD l i
      by_cases hlt : i < n
      · cases hb : l i with
        | false =>
          have q1 : cntD l (i + 1) = cntD l i + 1 ∧ nD l i = cntD l i ∧ (cntD l i % 3 = 1 → tD l i = 1) ∧ (cntD l i % 3 ≠ 1 → tD l i = 0) ∧ (3 ≤ cntD l i → sD l i = 3) ∧ (cntD l i < 3 → sD l i = cntD l i + 1) := stepD_false hb
          refine ⟨?_⟩
          show xcode C1 Tryz.prog F 14 (loopC Tryz.prog 14 22) (mask 14) (tmpsN Tryz.prog 14) (mkE (eD n (ggD (zn i) [bi (l i)]) (.slc n0D 0 i i false 1) i)) _ (cond (Nat.ble (i + 1) n) (cond (l i) dD_1_1 dD_1_0) [false]) _
          rw [hb, ble_t hlt]
          exact useD_1_0 Zs hn hlt (row3_eq (by omega) (by omega) (by omega)) (cellI hlt (getD1 ..) _) (cellR (zgD1 ..) (by rw [zoD_low (by omega), Zs.ins i hlt]; unfold inRowD; rw [hb]; rfl) _ rfl)
            (fun env h ds σ ab => ⟨.s2 (i + 1) _, σ, ⟨by omega, hlt, by omega, by omega⟩, (by show n - (i + 1) < n - i; omega), rfl, ab⟩)
        | true =>
          have q1 : cntD l (i + 1) = 1 ∧ nD l i = 0 ∧ tD l i = 0 ∧ sD l i = 1 := stepD_true hb
          refine ⟨?_⟩
          show xcode C1 Tryz.prog F 14 (loopC Tryz.prog 14 22) (mask 14) (tmpsN Tryz.prog 14) (mkE (eD n (ggD (zn i) [bi (l i)]) (.slc n0D 0 i i false 1) i)) _ (cond (Nat.ble (i + 1) n) (cond (l i) dD_1_1 dD_1_0) [false]) _
          rw [hb, ble_t hlt]
          exact useD_1_1 Zs hn hlt (row3_eq (by omega) (by omega) (by omega)) (cellI hlt (getD1 ..) _) (cellR (zgD1 ..) (by rw [zoD_low (by omega), Zs.ins i hlt]; unfold inRowD; rw [hb]; rfl) _ rfl)
            (fun env h ds σ ab => ⟨.s6 (i + 1) 2 _, σ, ⟨by omega, hlt, by omega, by omega⟩, (by show n - (i + 1) < n - i; omega), rfl, ab⟩)
      · have hin : i = n := by omega
        subst hin
        refine ⟨?_⟩
        show xcode C1 Tryz.prog F 14 (loopC Tryz.prog 14 22) (mask 14) (tmpsN Tryz.prog 14) (mkE (eD i (ggD (zn i) [bi (l i)]) (.slc n0D 0 i i false 1) i)) _ (cond (Nat.ble (i + 1) i) (cond (l i) dD_1_1 dD_1_0) [false]) _
        rw [ble_f (Nat.lt_irrefl i)]
        exact round_use2 good1.spl (fun Kv => xD_1 (zoD l z i) (zrowsT 0 1 i) (zrowsT 100 3 i) i i _ Kv)
          (bcase_tt (dcq_ge (by omega)) (fun env h ds ho => (done_D1 Zs hn _ rfl ho).elim fun σ ab => ⟨σ, rfl, ab⟩))
    | s2 i g0 =>
      obtain ⟨h1, h2, p0, p1⟩ := hs
      have hc := leD l i
      by_cases hlt : i < n
      · cases hb : l i with
        | false =>
          have q1 : cntD l (i + 1) = cntD l i + 1 ∧ nD l i = cntD l i ∧ (cntD l i % 3 = 1 → tD l i = 1) ∧ (cntD l i % 3 ≠ 1 → tD l i = 0) ∧ (3 ≤ cntD l i → sD l i = 3) ∧ (cntD l i < 3 → sD l i = cntD l i + 1) := stepD_false hb
          refine ⟨?_⟩
          show xcode C1 Tryz.prog F 14 (loopC Tryz.prog 14 22) (mask 14) (tmpsN Tryz.prog 14) (mkE (eD n (ggD (zn i) [bi (l i)]) (.slc n0D 0 i i false 1) i)) _ (cond (Nat.ble (i + 1) n) (cond (l i) dD_2_1 dD_2_0) [false]) _
          rw [hb, ble_t hlt]
          exact useD_2_0 Zs hn hlt (row3_eq (by omega) (by omega) (by omega)) (cellI hlt (getD2 ..) _) (cellR (zgD2 ..) (by rw [zoD_low (by omega), Zs.ins i hlt]; unfold inRowD; rw [hb]; rfl) _ rfl)
            (fun env h ds σ ab => ⟨.s3 (i + 1) 3 2 _, σ, ⟨by omega, hlt, by omega, by omega, by omega, by omega⟩, (by show n - (i + 1) < n - i; omega), rfl, ab⟩)
        | true =>
          have q1 : cntD l (i + 1) = 1 ∧ nD l i = 0 ∧ tD l i = 0 ∧ sD l i = 1 := stepD_true hb
          refine ⟨?_⟩
          show xcode C1 Tryz.prog F 14 (loopC Tryz.prog 14 22) (mask 14) (tmpsN Tryz.prog 14) (mkE (eD n (ggD (zn i) [bi (l i)]) (.slc n0D 0 i i false 1) i)) _ (cond (Nat.ble (i + 1) n) (cond (l i) dD_2_1 dD_2_0) [false]) _
          rw [hb, ble_t hlt]
          exact useD_2_1 Zs hn hlt (row3_eq (by omega) (by omega) (by omega)) (cellI hlt (getD2 ..) _) (cellR (zgD2 ..) (by rw [zoD_low (by omega), Zs.ins i hlt]; unfold inRowD; rw [hb]; rfl) _ rfl)
            (fun env h ds σ ab => ⟨.s6 (i + 1) 3 _, σ, ⟨by omega, hlt, by omega, by omega⟩, (by show n - (i + 1) < n - i; omega), rfl, ab⟩)
      · have hin : i = n := by omega
        subst hin
        refine ⟨?_⟩
        show xcode C1 Tryz.prog F 14 (loopC Tryz.prog 14 22) (mask 14) (tmpsN Tryz.prog 14) (mkE (eD i (ggD (zn i) [bi (l i)]) (.slc n0D 0 i i false 1) i)) _ (cond (Nat.ble (i + 1) i) (cond (l i) dD_2_1 dD_2_0) [false]) _
        rw [ble_f (Nat.lt_irrefl i)]
        exact round_use2 good1.spl (fun Kv => xD_2 (zoD l z i) (zrowsT 0 1 i) (zrowsT 100 3 i) i i _ Kv)
          (bcase_tt (dcq_ge (by omega)) (fun env h ds ho => (done_D1 Zs hn _ rfl ho).elim fun σ ab => ⟨σ, rfl, ab⟩))
    | s3 i a0 a1 g0 =>
      obtain ⟨h1, h2, p0, p1, p2, p3⟩ := hs
      have hc := leD l i
      by_cases hlt : i < n
      · cases hb : l i with
        | false =>
          have q1 : cntD l (i + 1) = cntD l i + 1 ∧ nD l i = cntD l i ∧ (cntD l i % 3 = 1 → tD l i = 1) ∧ (cntD l i % 3 ≠ 1 → tD l i = 0) ∧ (3 ≤ cntD l i → sD l i = 3) ∧ (cntD l i < 3 → sD l i = cntD l i + 1) := stepD_false hb
          refine ⟨?_⟩
          show xcode C1 Tryz.prog F 14 (loopC Tryz.prog 14 22) (mask 14) (tmpsN Tryz.prog 14) (mkE (eD n (ggD (zn i) [bi (l i)]) (.slc n0D 0 i i false 1) i)) _ (cond (Nat.ble (i + 1) n) (cond (l i) dD_3_1 dD_3_0) [false]) _
          rw [hb, ble_t hlt]
          exact useD_3_0 Zs hn hlt a0 a1 (by omega) (by omega) (row3_eq (by omega) (by omega) (by omega)) (cellI hlt (getD3 ..) _) (cellR (zgD3 ..) (by rw [zoD_low (by omega), Zs.ins i hlt]; unfold inRowD; rw [hb]; rfl) _ rfl)
            (fun env h ds σ ab => ⟨.s4 (i + 1) (a0 + 1) a0 _, σ, ⟨by omega, hlt, by omega, by omega, by omega, by omega⟩, (by show n - (i + 1) < n - i; omega), rfl, ab⟩)
        | true =>
          have q1 : cntD l (i + 1) = 1 ∧ nD l i = 0 ∧ tD l i = 0 ∧ sD l i = 1 := stepD_true hb
          refine ⟨?_⟩
          show xcode C1 Tryz.prog F 14 (loopC Tryz.prog 14 22) (mask 14) (tmpsN Tryz.prog 14) (mkE (eD n (ggD (zn i) [bi (l i)]) (.slc n0D 0 i i false 1) i)) _ (cond (Nat.ble (i + 1) n) (cond (l i) dD_3_1 dD_3_0) [false]) _
          rw [hb, ble_t hlt]
          exact useD_3_1 Zs hn hlt a0 a1 (by omega) (by omega) (row3_eq (by omega) (by omega) (by omega)) (cellI hlt (getD3 ..) _) (cellR (zgD3 ..) (by rw [zoD_low (by omega), Zs.ins i hlt]; unfold inRowD; rw [hb]; rfl) _ rfl)
            (fun env h ds σ ab => ⟨.s6 (i + 1) (a0 + 1) _, σ, ⟨by omega, hlt, by omega, by omega⟩, (by show n - (i + 1) < n - i; omega), rfl, ab⟩)
      · have hin : i = n := by omega
        subst hin
        refine ⟨?_⟩
        show xcode C1 Tryz.prog F 14 (loopC Tryz.prog 14 22) (mask 14) (tmpsN Tryz.prog 14) (mkE (eD i (ggD (zn i) [bi (l i)]) (.slc n0D 0 i i false 1) i)) _ (cond (Nat.ble (i + 1) i) (cond (l i) dD_3_1 dD_3_0) [false]) _
        rw [ble_f (Nat.lt_irrefl i)]
        exact round_use2 good1.spl (fun Kv => xD_3 (zoD l z i) (zrowsT 0 1 i) (zrowsT 100 3 i) i i _ a0 a1 Kv)
          (bcase_tt (dcq_ge (by omega)) (fun env h ds ho => (done_D1 Zs hn _ rfl ho).elim fun σ ab => ⟨σ, rfl, ab⟩))
    | s4 i a0 a1 g0 =>
      obtain ⟨h1, h2, p0, p1, p2, p3⟩ := hs
      have hc := leD l i
      by_cases hlt : i < n
      · cases hb : l i with
        | false =>
          have q1 : cntD l (i + 1) = cntD l i + 1 ∧ nD l i = cntD l i ∧ (cntD l i % 3 = 1 → tD l i = 1) ∧ (cntD l i % 3 ≠ 1 → tD l i = 0) ∧ (3 ≤ cntD l i → sD l i = 3) ∧ (cntD l i < 3 → sD l i = cntD l i + 1) := stepD_false hb
          refine ⟨?_⟩
          show xcode C1 Tryz.prog F 14 (loopC Tryz.prog 14 22) (mask 14) (tmpsN Tryz.prog 14) (mkE (eD n (ggD (zn i) [bi (l i)]) (.slc n0D 0 i i false 1) i)) _ (cond (Nat.ble (i + 1) n) (cond (l i) dD_4_1 dD_4_0) [false]) _
          rw [hb, ble_t hlt]
          exact useD_4_0 Zs hn hlt a0 a1 (by omega) (by omega) (row3_eq (by omega) (by omega) (by omega)) (cellI hlt (getD4 ..) _) (cellR (zgD4 ..) (by rw [zoD_low (by omega), Zs.ins i hlt]; unfold inRowD; rw [hb]; rfl) _ rfl)
            (fun env h ds σ ab => ⟨.s5 (i + 1) (a0 + 1) a0 _, σ, ⟨by omega, hlt, by omega, by omega, by omega, by omega⟩, (by show n - (i + 1) < n - i; omega), rfl, ab⟩)
        | true =>
          have q1 : cntD l (i + 1) = 1 ∧ nD l i = 0 ∧ tD l i = 0 ∧ sD l i = 1 := stepD_true hb
          refine ⟨?_⟩
          show xcode C1 Tryz.prog F 14 (loopC Tryz.prog 14 22) (mask 14) (tmpsN Tryz.prog 14) (mkE (eD n (ggD (zn i) [bi (l i)]) (.slc n0D 0 i i false 1) i)) _ (cond (Nat.ble (i + 1) n) (cond (l i) dD_4_1 dD_4_0) [false]) _
          rw [hb, ble_t hlt]
          exact useD_4_1 Zs hn hlt a0 a1 (by omega) (by omega) (row3_eq (by omega) (by omega) (by omega)) (cellI hlt (getD4 ..) _) (cellR (zgD4 ..) (by rw [zoD_low (by omega), Zs.ins i hlt]; unfold inRowD; rw [hb]; rfl) _ rfl)
            (fun env h ds σ ab => ⟨.s6 (i + 1) (a0 + 1) _, σ, ⟨by omega, hlt, by omega, by omega⟩, (by show n - (i + 1) < n - i; omega), rfl, ab⟩)
      · have hin : i = n := by omega
        subst hin
        refine ⟨?_⟩
        show xcode C1 Tryz.prog F 14 (loopC Tryz.prog 14 22) (mask 14) (tmpsN Tryz.prog 14) (mkE (eD i (ggD (zn i) [bi (l i)]) (.slc n0D 0 i i false 1) i)) _ (cond (Nat.ble (i + 1) i) (cond (l i) dD_4_1 dD_4_0) [false]) _
        rw [ble_f (Nat.lt_irrefl i)]
        exact round_use2 good1.spl (fun Kv => xD_4 (zoD l z i) (zrowsT 0 1 i) (zrowsT 100 3 i) i i _ a0 a1 Kv)
          (bcase_tt (dcq_ge (by omega)) (fun env h ds ho => (done_D1 Zs hn _ rfl ho).elim fun σ ab => ⟨σ, rfl, ab⟩))
    | s5 i a0 a1 g0 =>
      obtain ⟨h1, h2, p0, p1, p2, p3⟩ := hs
      have hc := leD l i
      by_cases hlt : i < n
      · cases hb : l i with
        | false =>
          have q1 : cntD l (i + 1) = cntD l i + 1 ∧ nD l i = cntD l i ∧ (cntD l i % 3 = 1 → tD l i = 1) ∧ (cntD l i % 3 ≠ 1 → tD l i = 0) ∧ (3 ≤ cntD l i → sD l i = 3) ∧ (cntD l i < 3 → sD l i = cntD l i + 1) := stepD_false hb
          refine ⟨?_⟩
          show xcode C1 Tryz.prog F 14 (loopC Tryz.prog 14 22) (mask 14) (tmpsN Tryz.prog 14) (mkE (eD n (ggD (zn i) [bi (l i)]) (.slc n0D 0 i i false 1) i)) _ (cond (Nat.ble (i + 1) n) (cond (l i) dD_5_1 dD_5_0) [false]) _
          rw [hb, ble_t hlt]
          exact useD_5_0 Zs hn hlt a0 a1 (by omega) (by omega) (row3_eq (by omega) (by omega) (by omega)) (cellI hlt (getD5 ..) _) (cellR (zgD5 ..) (by rw [zoD_low (by omega), Zs.ins i hlt]; unfold inRowD; rw [hb]; rfl) _ rfl)
            (fun env h ds σ ab => ⟨.s3 (i + 1) (a0 + 1) a0 _, σ, ⟨by omega, hlt, by omega, by omega, by omega, by omega⟩, (by show n - (i + 1) < n - i; omega), rfl, ab⟩)
        | true =>
          have q1 : cntD l (i + 1) = 1 ∧ nD l i = 0 ∧ tD l i = 0 ∧ sD l i = 1 := stepD_true hb
          refine ⟨?_⟩
          show xcode C1 Tryz.prog F 14 (loopC Tryz.prog 14 22) (mask 14) (tmpsN Tryz.prog 14) (mkE (eD n (ggD (zn i) [bi (l i)]) (.slc n0D 0 i i false 1) i)) _ (cond (Nat.ble (i + 1) n) (cond (l i) dD_5_1 dD_5_0) [false]) _
          rw [hb, ble_t hlt]
          exact useD_5_1 Zs hn hlt a0 a1 (by omega) (by omega) (row3_eq (by omega) (by omega) (by omega)) (cellI hlt (getD5 ..) _) (cellR (zgD5 ..) (by rw [zoD_low (by omega), Zs.ins i hlt]; unfold inRowD; rw [hb]; rfl) _ rfl)
            (fun env h ds σ ab => ⟨.s6 (i + 1) (a0 + 1) _, σ, ⟨by omega, hlt, by omega, by omega⟩, (by show n - (i + 1) < n - i; omega), rfl, ab⟩)
      · have hin : i = n := by omega
        subst hin
        refine ⟨?_⟩
        show xcode C1 Tryz.prog F 14 (loopC Tryz.prog 14 22) (mask 14) (tmpsN Tryz.prog 14) (mkE (eD i (ggD (zn i) [bi (l i)]) (.slc n0D 0 i i false 1) i)) _ (cond (Nat.ble (i + 1) i) (cond (l i) dD_5_1 dD_5_0) [false]) _
        rw [ble_f (Nat.lt_irrefl i)]
        exact round_use2 good1.spl (fun Kv => xD_5 (zoD l z i) (zrowsT 0 1 i) (zrowsT 100 3 i) i i _ a0 a1 Kv)
          (bcase_tt (dcq_ge (by omega)) (fun env h ds ho => (done_D1 Zs hn _ rfl ho).elim fun σ ab => ⟨σ, rfl, ab⟩))
    | s6 i a0 g0 =>
      obtain ⟨h1, h2, p0, p1⟩ := hs
      have hc := leD l i
      by_cases hlt : i < n
      · cases hb : l i with
        | false =>
          have q1 : cntD l (i + 1) = cntD l i + 1 ∧ nD l i = cntD l i ∧ (cntD l i % 3 = 1 → tD l i = 1) ∧ (cntD l i % 3 ≠ 1 → tD l i = 0) ∧ (3 ≤ cntD l i → sD l i = 3) ∧ (cntD l i < 3 → sD l i = cntD l i + 1) := stepD_false hb
          refine ⟨?_⟩
          show xcode C1 Tryz.prog F 14 (loopC Tryz.prog 14 22) (mask 14) (tmpsN Tryz.prog 14) (mkE (eD n (ggD (zn i) [bi (l i)]) (.slc n0D 0 i i false 1) i)) _ (cond (Nat.ble (i + 1) n) (cond (l i) dD_6_1 dD_6_0) [false]) _
          rw [hb, ble_t hlt]
          exact useD_6_0 Zs hn hlt a0 (by omega) (by omega) (row3_eq (by omega) (by omega) (by omega)) (cellI hlt (getD6 ..) _) (cellR (zgD6 ..) (by rw [zoD_low (by omega), Zs.ins i hlt]; unfold inRowD; rw [hb]; rfl) _ rfl)
            (fun env h ds σ ab => ⟨.s7 (i + 1) (a0 + 1) _, σ, ⟨by omega, hlt, by omega, by omega⟩, (by show n - (i + 1) < n - i; omega), rfl, ab⟩)
        | true =>
          have q1 : cntD l (i + 1) = 1 ∧ nD l i = 0 ∧ tD l i = 0 ∧ sD l i = 1 := stepD_true hb
          refine ⟨?_⟩
          show xcode C1 Tryz.prog F 14 (loopC Tryz.prog 14 22) (mask 14) (tmpsN Tryz.prog 14) (mkE (eD n (ggD (zn i) [bi (l i)]) (.slc n0D 0 i i false 1) i)) _ (cond (Nat.ble (i + 1) n) (cond (l i) dD_6_1 dD_6_0) [false]) _
          rw [hb, ble_t hlt]
          exact useD_6_1 Zs hn hlt a0 (by omega) (by omega) (row3_eq (by omega) (by omega) (by omega)) (cellI hlt (getD6 ..) _) (cellR (zgD6 ..) (by rw [zoD_low (by omega), Zs.ins i hlt]; unfold inRowD; rw [hb]; rfl) _ rfl)
            (fun env h ds σ ab => ⟨.s6 (i + 1) (a0 + 1) _, σ, ⟨by omega, hlt, by omega, by omega⟩, (by show n - (i + 1) < n - i; omega), rfl, ab⟩)
      · have hin : i = n := by omega
        subst hin
        refine ⟨?_⟩
        show xcode C1 Tryz.prog F 14 (loopC Tryz.prog 14 22) (mask 14) (tmpsN Tryz.prog 14) (mkE (eD i (ggD (zn i) [bi (l i)]) (.slc n0D 0 i i false 1) i)) _ (cond (Nat.ble (i + 1) i) (cond (l i) dD_6_1 dD_6_0) [false]) _
        rw [ble_f (Nat.lt_irrefl i)]
        exact round_use2 good1.spl (fun Kv => xD_6 (zoD l z i) (zrowsT 0 1 i) (zrowsT 100 3 i) i i _ a0 Kv)
          (bcase_tt (dcq_ge (by omega)) (fun env h ds ho => (done_D1 Zs hn _ rfl ho).elim fun σ ab => ⟨σ, rfl, ab⟩))
    | s7 i a0 g0 =>
      obtain ⟨h1, h2, p0, p1⟩ := hs
      have hc := leD l i
      by_cases hlt : i < n
      · cases hb : l i with
        | false =>
          have q1 : cntD l (i + 1) = cntD l i + 1 ∧ nD l i = cntD l i ∧ (cntD l i % 3 = 1 → tD l i = 1) ∧ (cntD l i % 3 ≠ 1 → tD l i = 0) ∧ (3 ≤ cntD l i → sD l i = 3) ∧ (cntD l i < 3 → sD l i = cntD l i + 1) := stepD_false hb
          refine ⟨?_⟩
          show xcode C1 Tryz.prog F 14 (loopC Tryz.prog 14 22) (mask 14) (tmpsN Tryz.prog 14) (mkE (eD n (ggD (zn i) [bi (l i)]) (.slc n0D 0 i i false 1) i)) _ (cond (Nat.ble (i + 1) n) (cond (l i) dD_7_1 dD_7_0) [false]) _
          rw [hb, ble_t hlt]
          exact useD_7_0 Zs hn hlt a0 (by omega) (by omega) (row3_eq (by omega) (by omega) (by omega)) (cellI hlt (getD7 ..) _) (cellR (zgD7 ..) (by rw [zoD_low (by omega), Zs.ins i hlt]; unfold inRowD; rw [hb]; rfl) _ rfl)
            (fun env h ds σ ab => ⟨.s8 (i + 1) (a0 + 1) 2 3 _, σ, ⟨by omega, hlt, by omega, by omega, by omega, by omega⟩, (by show n - (i + 1) < n - i; omega), rfl, ab⟩)
        | true =>
          have q1 : cntD l (i + 1) = 1 ∧ nD l i = 0 ∧ tD l i = 0 ∧ sD l i = 1 := stepD_true hb
          refine ⟨?_⟩
          show xcode C1 Tryz.prog F 14 (loopC Tryz.prog 14 22) (mask 14) (tmpsN Tryz.prog 14) (mkE (eD n (ggD (zn i) [bi (l i)]) (.slc n0D 0 i i false 1) i)) _ (cond (Nat.ble (i + 1) n) (cond (l i) dD_7_1 dD_7_0) [false]) _
          rw [hb, ble_t hlt]
          exact useD_7_1 Zs hn hlt a0 (by omega) (by omega) (row3_eq (by omega) (by omega) (by omega)) (cellI hlt (getD7 ..) _) (cellR (zgD7 ..) (by rw [zoD_low (by omega), Zs.ins i hlt]; unfold inRowD; rw [hb]; rfl) _ rfl)
            (fun env h ds σ ab => ⟨.s6 (i + 1) (a0 + 1) _, σ, ⟨by omega, hlt, by omega, by omega⟩, (by show n - (i + 1) < n - i; omega), rfl, ab⟩)
      · have hin : i = n := by omega
        subst hin
        refine ⟨?_⟩
        show xcode C1 Tryz.prog F 14 (loopC Tryz.prog 14 22) (mask 14) (tmpsN Tryz.prog 14) (mkE (eD i (ggD (zn i) [bi (l i)]) (.slc n0D 0 i i false 1) i)) _ (cond (Nat.ble (i + 1) i) (cond (l i) dD_7_1 dD_7_0) [false]) _
        rw [ble_f (Nat.lt_irrefl i)]
        exact round_use2 good1.spl (fun Kv => xD_7 (zoD l z i) (zrowsT 0 1 i) (zrowsT 100 3 i) i i _ a0 Kv)
          (bcase_tt (dcq_ge (by omega)) (fun env h ds ho => (done_D1 Zs hn _ rfl ho).elim fun σ ab => ⟨σ, rfl, ab⟩))
    | s8 i a0 a1 a2 g0 =>
      obtain ⟨h1, h2, p0, p1, p2, p3⟩ := hs
      have hc := leD l i
      by_cases hlt : i < n
      · cases hb : l i with
        | false =>
          have q1 : cntD l (i + 1) = cntD l i + 1 ∧ nD l i = cntD l i ∧ (cntD l i % 3 = 1 → tD l i = 1) ∧ (cntD l i % 3 ≠ 1 → tD l i = 0) ∧ (3 ≤ cntD l i → sD l i = 3) ∧ (cntD l i < 3 → sD l i = cntD l i + 1) := stepD_false hb
          refine ⟨?_⟩
          show xcode C1 Tryz.prog F 14 (loopC Tryz.prog 14 22) (mask 14) (tmpsN Tryz.prog 14) (mkE (eD n (ggD (zn i) [bi (l i)]) (.slc n0D 0 i i false 1) i)) _ (cond (Nat.ble (i + 1) n) (cond (l i) dD_8_1 dD_8_0) [false]) _
          rw [hb, ble_t hlt]
          exact useD_8_0 Zs hn hlt a0 a1 a2 (by omega) (by omega) (by omega) (by omega) (row3_eq (by omega) (by omega) (by omega)) (cellI hlt (getD8 ..) _) (cellR (zgD8 ..) (by rw [zoD_low (by omega), Zs.ins i hlt]; unfold inRowD; rw [hb]; rfl) _ rfl)
            (fun env h ds σ ab => ⟨.s9 (i + 1) (a0 + 1) a2 (a2 + 1) _, σ, ⟨by omega, hlt, by omega, by omega, by omega, by omega⟩, (by show n - (i + 1) < n - i; omega), rfl, ab⟩)
        | true =>
          have q1 : cntD l (i + 1) = 1 ∧ nD l i = 0 ∧ tD l i = 0 ∧ sD l i = 1 := stepD_true hb
          refine ⟨?_⟩
          show xcode C1 Tryz.prog F 14 (loopC Tryz.prog 14 22) (mask 14) (tmpsN Tryz.prog 14) (mkE (eD n (ggD (zn i) [bi (l i)]) (.slc n0D 0 i i false 1) i)) _ (cond (Nat.ble (i + 1) n) (cond (l i) dD_8_1 dD_8_0) [false]) _
          rw [hb, ble_t hlt]
          exact useD_8_1 Zs hn hlt a0 a1 a2 (by omega) (by omega) (row3_eq (by omega) (by omega) (by omega)) (cellI hlt (getD8 ..) _) (cellR (zgD8 ..) (by rw [zoD_low (by omega), Zs.ins i hlt]; unfold inRowD; rw [hb]; rfl) _ rfl)
            (fun env h ds σ ab => ⟨.s6 (i + 1) (a0 + 1) _, σ, ⟨by omega, hlt, by omega, by omega⟩, (by show n - (i + 1) < n - i; omega), rfl, ab⟩)
      · have hin : i = n := by omega
        subst hin
        refine ⟨?_⟩
        show xcode C1 Tryz.prog F 14 (loopC Tryz.prog 14 22) (mask 14) (tmpsN Tryz.prog 14) (mkE (eD i (ggD (zn i) [bi (l i)]) (.slc n0D 0 i i false 1) i)) _ (cond (Nat.ble (i + 1) i) (cond (l i) dD_8_1 dD_8_0) [false]) _
        rw [ble_f (Nat.lt_irrefl i)]
        exact round_use2 good1.spl (fun Kv => xD_8 (zoD l z i) (zrowsT 0 1 i) (zrowsT 100 3 i) i i _ a0 a1 a2 Kv)
          (bcase_tt (dcq_ge (by omega)) (fun env h ds ho => (done_D1 Zs hn _ rfl ho).elim fun σ ab => ⟨σ, rfl, ab⟩))
    | s9 i a0 a1 a2 g0 =>
      obtain ⟨h1, h2, p0, p1, p2, p3⟩ := hs
      have hc := leD l i
      by_cases hlt : i < n
      · cases hb : l i with
        | false =>
          have q1 : cntD l (i + 1) = cntD l i + 1 ∧ nD l i = cntD l i ∧ (cntD l i % 3 = 1 → tD l i = 1) ∧ (cntD l i % 3 ≠ 1 → tD l i = 0) ∧ (3 ≤ cntD l i → sD l i = 3) ∧ (cntD l i < 3 → sD l i = cntD l i + 1) := stepD_false hb
          refine ⟨?_⟩
          show xcode C1 Tryz.prog F 14 (loopC Tryz.prog 14 22) (mask 14) (tmpsN Tryz.prog 14) (mkE (eD n (ggD (zn i) [bi (l i)]) (.slc n0D 0 i i false 1) i)) _ (cond (Nat.ble (i + 1) n) (cond (l i) dD_9_1 dD_9_0) [false]) _
          rw [hb, ble_t hlt]
          exact useD_9_0 Zs hn hlt a0 a1 a2 (by omega) (by omega) (by omega) (by omega) (row3_eq (by omega) (by omega) (by omega)) (cellI hlt (getD9 ..) _) (cellR (zgD9 ..) (by rw [zoD_low (by omega), Zs.ins i hlt]; unfold inRowD; rw [hb]; rfl) _ rfl)
            (fun env h ds σ ab => ⟨.s10 (i + 1) (a0 + 1) a2 (a2 + 1) _, σ, ⟨by omega, hlt, by omega, by omega, by omega, by omega⟩, (by show n - (i + 1) < n - i; omega), rfl, ab⟩)
        | true =>
          have q1 : cntD l (i + 1) = 1 ∧ nD l i = 0 ∧ tD l i = 0 ∧ sD l i = 1 := stepD_true hb
          refine ⟨?_⟩
          show xcode C1 Tryz.prog F 14 (loopC Tryz.prog 14 22) (mask 14) (tmpsN Tryz.prog 14) (mkE (eD n (ggD (zn i) [bi (l i)]) (.slc n0D 0 i i false 1) i)) _ (cond (Nat.ble (i + 1) n) (cond (l i) dD_9_1 dD_9_0) [false]) _
          rw [hb, ble_t hlt]
          exact useD_9_1 Zs hn hlt a0 a1 a2 (by omega) (by omega) (row3_eq (by omega) (by omega) (by omega)) (cellI hlt (getD9 ..) _) (cellR (zgD9 ..) (by rw [zoD_low (by omega), Zs.ins i hlt]; unfold inRowD; rw [hb]; rfl) _ rfl)
            (fun env h ds σ ab => ⟨.s6 (i + 1) (a0 + 1) _, σ, ⟨by omega, hlt, by omega, by omega⟩, (by show n - (i + 1) < n - i; omega), rfl, ab⟩)
      · have hin : i = n := by omega
        subst hin
        refine ⟨?_⟩
        show xcode C1 Tryz.prog F 14 (loopC Tryz.prog 14 22) (mask 14) (tmpsN Tryz.prog 14) (mkE (eD i (ggD (zn i) [bi (l i)]) (.slc n0D 0 i i false 1) i)) _ (cond (Nat.ble (i + 1) i) (cond (l i) dD_9_1 dD_9_0) [false]) _
        rw [ble_f (Nat.lt_irrefl i)]
        exact round_use2 good1.spl (fun Kv => xD_9 (zoD l z i) (zrowsT 0 1 i) (zrowsT 100 3 i) i i _ a0 a1 a2 Kv)
          (bcase_tt (dcq_ge (by omega)) (fun env h ds ho => (done_D1 Zs hn _ rfl ho).elim fun σ ab => ⟨σ, rfl, ab⟩))
    | s10 i a0 a1 a2 g0 =>
      obtain ⟨h1, h2, p0, p1, p2, p3⟩ := hs
      have hc := leD l i
      by_cases hlt : i < n
      · cases hb : l i with
        | false =>
          have q1 : cntD l (i + 1) = cntD l i + 1 ∧ nD l i = cntD l i ∧ (cntD l i % 3 = 1 → tD l i = 1) ∧ (cntD l i % 3 ≠ 1 → tD l i = 0) ∧ (3 ≤ cntD l i → sD l i = 3) ∧ (cntD l i < 3 → sD l i = cntD l i + 1) := stepD_false hb
          refine ⟨?_⟩
          show xcode C1 Tryz.prog F 14 (loopC Tryz.prog 14 22) (mask 14) (tmpsN Tryz.prog 14) (mkE (eD n (ggD (zn i) [bi (l i)]) (.slc n0D 0 i i false 1) i)) _ (cond (Nat.ble (i + 1) n) (cond (l i) dD_10_1 dD_10_0) [false]) _
          rw [hb, ble_t hlt]
          exact useD_10_0 Zs hn hlt a0 a1 a2 (by omega) (by omega) (by omega) (by omega) (row3_eq (by omega) (by omega) (by omega)) (cellI hlt (getD10 ..) _) (cellR (zgD10 ..) (by rw [zoD_low (by omega), Zs.ins i hlt]; unfold inRowD; rw [hb]; rfl) _ rfl)
            (fun env h ds σ ab => ⟨.s8 (i + 1) (a0 + 1) a2 (a2 + 1) _, σ, ⟨by omega, hlt, by omega, by omega, by omega, by omega⟩, (by show n - (i + 1) < n - i; omega), rfl, ab⟩)
        | true =>
          have q1 : cntD l (i + 1) = 1 ∧ nD l i = 0 ∧ tD l i = 0 ∧ sD l i = 1 := stepD_true hb
          refine ⟨?_⟩
          show xcode C1 Tryz.prog F 14 (loopC Tryz.prog 14 22) (mask 14) (tmpsN Tryz.prog 14) (mkE (eD n (ggD (zn i) [bi (l i)]) (.slc n0D 0 i i false 1) i)) _ (cond (Nat.ble (i + 1) n) (cond (l i) dD_10_1 dD_10_0) [false]) _
          rw [hb, ble_t hlt]
          exact useD_10_1 Zs hn hlt a0 a1 a2 (by omega) (by omega) (row3_eq (by omega) (by omega) (by omega)) (cellI hlt (getD10 ..) _) (cellR (zgD10 ..) (by rw [zoD_low (by omega), Zs.ins i hlt]; unfold inRowD; rw [hb]; rfl) _ rfl)
            (fun env h ds σ ab => ⟨.s6 (i + 1) (a0 + 1) _, σ, ⟨by omega, hlt, by omega, by omega⟩, (by show n - (i + 1) < n - i; omega), rfl, ab⟩)
      · have hin : i = n := by omega
        subst hin
        refine ⟨?_⟩
        show xcode C1 Tryz.prog F 14 (loopC Tryz.prog 14 22) (mask 14) (tmpsN Tryz.prog 14) (mkE (eD i (ggD (zn i) [bi (l i)]) (.slc n0D 0 i i false 1) i)) _ (cond (Nat.ble (i + 1) i) (cond (l i) dD_10_1 dD_10_0) [false]) _
        rw [ble_f (Nat.lt_irrefl i)]
        exact round_use2 good1.spl (fun Kv => xD_10 (zoD l z i) (zrowsT 0 1 i) (zrowsT 100 3 i) i i _ a0 a1 a2 Kv)
          (bcase_tt (dcq_ge (by omega)) (fun env h ds ho => (done_D1 Zs hn _ rfl ho).elim fun σ ab => ⟨σ, rfl, ab⟩))
end
end Go.Proofs.YtkfhjobebhdpoaaGreat

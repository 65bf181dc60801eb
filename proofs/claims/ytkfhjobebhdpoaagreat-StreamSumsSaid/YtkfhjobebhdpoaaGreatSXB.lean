/- Stream: what laws of numbers share. -/
import Derived.Test.YtkfhjobebhdpoaaGreatG
import Derived.Test.YtkfhjobebhdpoaaGreatSXA
set_option linter.unusedVariables false
set_option autoImplicit false
set_option maxRecDepth 1000000
set_option maxHeartbeats 2000000
set_option linter.unusedVariables false
namespace Go.Proofs.YtkfhjobebhdpoaaGreat
noncomputable section
open Go.X
/-- what is told ahead holds -/
theorem cellIX {b : T Blk} {N n i : Nat} (hi : i < n) {e : TypeId} (h : b.get 50 = some (.row (zrowsT 0 1 n) e true [])) (c : Nat → Int) : cellIs ⟨b, N⟩ 50 (Nat.add 0 (Nat.mul (Int.toNat (Int.ofNat i)) 1)) (.row (zn i) 1 c) := by
  rw [ix_eq]
  refine ⟨1, true, Nat.le_refl _, ?_⟩
  unfold cellOf
  show (match T.get b 50 with | some (.row cells _ _ _) => lget cells i | _ => none) = _
  rw [h]
  show lget (zrowsT 0 1 n) i = _
  rw [lget_eq]
  unfold zrowsT
  rw [List.getElem?_map, List.getElem?_range hi]
  simp
def pvI (l : Nat → Int) : Nat → PV := fun j => .int .i64 (l j)
end
end Go.Proofs.YtkfhjobebhdpoaaGreat
/- Stream: Run's loop over ticks, as a contract (the program of StreamSums). -/
set_option autoImplicit false
set_option maxRecDepth 1000000
set_option maxHeartbeats 2000000
set_option linter.unusedVariables false
namespace Go.Proofs.YtkfhjobebhdpoaaGreat
noncomputable section
open Go.X
inductive SX where
  | s0 (g : Nat → CV)
  | s1 (i : Nat) (a0 : Int) (a1 : Int) (a2 : Int) (g : Nat → CV)
  | s2 (i : Nat) (a0 : Int) (a1 : Int) (a2 : Int) (a3 : Int) (a4 : Int) (a5 : Int) (g : Nat → CV)
def SX.ok (l : Nat → Int) (n : Nat) : SX → Prop
  | .s0 _ => True
  | .s1 i a0 a1 a2 _ => 1 ≤ i ∧ i ≤ n ∧ (i : Int) = 1 ∧ a0 = cntX l i ∧ a1 = cntX l i ∧ a2 = cntX l i
  | .s2 i a0 a1 a2 a3 a4 a5 _ => 1 ≤ i ∧ i ≤ n ∧ a0 = (i : Int) ∧ a1 = cntX l i ∧ a2 = cntX l i ∧ a3 = cntX l i
def SX.st (l : Nat → Int) (n : Nat) (z : T Blk) : SX → ZS
  | .s0 g => ⟨eX n g .nils 0, lapp (rr0X (zrowsT 0 1 n) (zrowsT 100 4 n)) bX0, z, n0X⟩
  | .s1 i a0 a1 a2 g => stX l n z i g (bX1 a0 a1 a2)
  | .s2 i a0 a1 a2 a3 a4 a5 g => stX l n z i g (bX2 a0 a1 a2 a3 a4 a5)
def SX.er (l : Nat → Int) (n : Nat) : SX → List (Nat × AV)
  | .s0 _ => eX n (ggX (zn 0) [xX l 0]) .nils 0
  | .s1 i _ _ _ _ => eX n (ggX (zn i) [xX l i]) (.slc n0X 0 i i false 1) i
  | .s2 i _ _ _ _ _ _ _ => eX n (ggX (zn i) [xX l i]) (.slc n0X 0 i i false 1) i
def SX.dr (l : Nat → Int) (n : Nat) : SX → List Bool
  | .s0 _ => dX_0_x
  | .s1 i _ _ _ _ => cond (Nat.ble (i + 1) n) dX_1_x [false]
  | .s2 i _ _ _ _ _ _ _ => cond (Nat.ble (i + 1) n) dX_2_x [false]
def SX.mu (n : Nat) : SX → Nat
  | .s0 _ => n + 1
  | .s1 i _ _ _ _ => n - i
  | .s2 i _ _ _ _ _ _ _ => n - i
theorem pe_eX (n : Nat) (g g' : Nat → CV) (out : AV) (i : Nat) : Pe (eX n g out i) (eX n g' out i) :=
  .cons _ _ _ _ _ (.inl rfl) (.cons _ _ _ _ _ (.inl rfl) (.cons _ _ _ _ _ (.inl rfl) (.cons _ _ _ _ _ (.inl rfl) (.cons _ _ _ _ _ (.inr ⟨_, _, _, _, _, rfl, rfl⟩) (.cons _ _ _ _ _ (.inl rfl) (.cons _ _ _ _ _ (.inl rfl) .nil))))))
theorem done_X1 {l : Nat → Int} {n : Nat} {z : T Blk} (Zs : ZinX l n z) (hn : n ≤ 40) (R : List (Nat × Nat × Blk)) (hR : R = [(n0X, n0X, .row (zrows 300 4 n) 22 true []), (50, 50, .row (zrowsT 0 1 n) 22 true []), (51, 51, .row (zrowsT 100 4 n) 22 true [])]) {env : Env} {h : H}
    (ho : obs [6, 7, 17] (actsOf (lapp R []) []) (lapp R []) [] env h = expsR n0X (kpOf (zoX l z n)) [(6, .nils), (7, .int .i64 (Int.ofNat 0)), (17, .slc n0X 0 n n false 1)] R [] [] (zoX l z n) [(some (.row (zrows 300 4 n) 22 true []), true), (some (.row (zrowsT 0 1 n) 22 true []), true), (some (.row (zrowsT 100 4 n) 22 true []), true)]) :
    ∃ σ, Abs n0X σ (finX l n z).env (finX l n z).h env h := by
  subst hR
  have hlit : okLit n0X 2097152 (lapp [(n0X, n0X, .row (zrows 300 4 n) 22 true []), (50, 50, .row (zrowsT 0 1 n) 22 true []), (51, 51, .row (zrowsT 100 4 n) 22 true [])] []) = true := okLit_row rfl (belX_O (by omega)) (okLit_row rfl (belX_I hn) (okLit_row rfl (belX_W hn) rfl))
  have k1 := keepIX Zs hn (i := n) (Zn := []) hlit (fun p hp => by cases hp)
  have k2 : renL (szs n0X (namesOf (lapp [(n0X, n0X, .row (zrows 300 4 n) 22 true []), (50, 50, .row (zrowsT 0 1 n) 22 true []), (51, 51, .row (zrowsT 100 4 n) 22 true [])] []) []) (kpOf (zoX l z n))) (zrows 300 4 n) = zrows 300 4 n := by
    exact zrows_keep fun j hj => szs_zone hlit (zgrow_new hj) (fun p hp e => by cases hp)
  rw [expsR_eq] at ho
  · exact NewOK.abs (t := finX l n z) (A := lapp [(n0X, n0X, .row (zrows 300 4 n) 22 true []), (50, 50, .row (zrowsT 0 1 n) 22 true []), (51, 51, .row (zrowsT 100 4 n) 22 true [])] []) (Z := []) (z := zoX l z n)
      ⟨rfl, rfl, by show 1050507 ≤ 2097152; decide, rfl, hlit, rfl, rfl, (fun p hp => (by cases hp)), List.nodup_nil, zoX_ok Zs (by omega)⟩ rfl rfl rfl rfl ho
  · show _ = [(some (Blk.row (renL _ _) _ _ _), true), (some (Blk.row (renL _ _) _ _ _), true), (some (Blk.row (renL _ _) _ _ _), true)]
    rw [k2, k1.1, k1.2]; rfl
theorem belX_I0 {n : Nat} (hn : n ≤ 40) : belL n0X (zrowsT 0 1 n) = true := belL_slc _ (fun j => zn (0 + j)) _ _ _ fun j hj => by have := List.mem_range.1 hj; rw [zn_eq]; show _ < 1050507; omega
theorem belX_W0 {n : Nat} (hn : n ≤ 40) : belL n0X (zrowsT 100 4 n) = true := belL_slc _ (fun j => zn (100 + j)) _ _ _ fun j hj => by have := List.mem_range.1 hj; rw [zn_eq]; show _ < 1050507; omega
theorem loopX_good {C : Cfg} (G : X.Good C Tryz.prog) (hg : C.gl = fun _ => none) (hm : C.mask 14 = mask 14) {l : Nat → Int} {n : Nat} (hn1 : 1 ≤ n) (hn : n ≤ 40) {z : T Blk} (Zs : ZinX l n z) (g : Nat → CV) :
    X.Good (C.addLc 14 22 (lcZ (S0 := Unit) (fun _ => True) (lmap (fun p => p.1) (eX n g .nils 0)) (lmap (fun p => p.1) (lapp (rr0X (zrowsT 0 1 n) (zrowsT 100 4 n)) bX0)) (fun _ => SX.st l n z (.s0 g)) (fun _ => (.ext 2, finX l n z)))) Tryz.prog := by
  refine G.addZR good1 (by rw [hg]; rfl) (S := SX) (SX.dr l n) (n0 := n0X) (ι := fun _ => .s0 g) (ok := SX.ok l n) (St := SX.st l n z) (SX.er l n) (μ := SX.mu n) (fin := fun _ => (.ext 2, finX l n z)) (fuel := F) hm.symm (by rfl) ?_ ?_ ?_ (fun g i h => by rw [hg] at h; cases h)
  · intro s _
    cases s <;> exact pe_eX ..
  · intro _ _
    refine ⟨trivial, rfl, rfl, ⟨rfl, ?_, ?_, ?_⟩, by show 1050507 ≤ 2097152; decide, rfl, rfl⟩
    · show belEs n0X (eX n g .nils 0) = true
      kernel_rfl
    · exact blksN_app (R := rr0X (zrowsT 0 1 n) (zrowsT 100 4 n)) blksX0 (blksN_row (by show 50 < 1050507; decide) (belX_I0 hn) (blksN_row (by show 51 < 1050507; decide) (belX_W0 hn) rfl))
    · intro x k h
      obtain ⟨a, b⟩ := Zs.only x k h
      exact ⟨b, by rw [zn_eq]; show _ < 1050507; omega, by rw [zn_eq]; show _ < 1000000000000; omega⟩
  · intro s hs
    rw [hm]
    cases s with
    | s0 g0 =>
      have hc := leX l 0
      have hx := xX_le l 0
      have q1 := firstX l
      have q2 : cntX l (0 + 1) = xX l 0 := q1.1
      refine ⟨?_⟩
      show xcode C1 Tryz.prog F 14 (loopC Tryz.prog 14 22) (mask 14) (tmpsN Tryz.prog 14) (mkE (eX n (ggX (zn 0) [xX l 0]) .nils 0)) _ dX_0_x _
      exact useX_0_x Zs hn (by omega) (xX l 0) hx.1 hx.2 (row4_eq (by omega) (by omega) (by omega) (by omega)) (cellIX (i := 0) (by omega) (getX0 ..) _) (cellR (zgX0 ..) (by rw [Zs.ins 0 (by omega)]; rfl) _ rfl)
        (fun env h ds σ ab => ⟨.s1 1 (xX l 0) (wrapF .i8 (0 + (xX l 0))) (wrapF .i8 ((xX l 0) + 0)) _, σ, ⟨Nat.le_refl _, hn1, by omega, by omega, by omega, by omega⟩, (by show n - 1 < n + 1; omega), rfl, ab⟩)
    | s1 i a0 a1 a2 g0 =>
      obtain ⟨h1, h2, p0, p1, p2, p3⟩ := hs
      have hc := leX l i
      by_cases hlt : i < n
      · have hx := xX_le l i
        have q1 := cntX_succ l i
        have ra0 : wrapF .i8 (a0 + xX l i) = cntX l (i + 1) := by rw [p1]; rfl
        have rb0 : wrapF .i8 (xX l i + a0) = cntX l (i + 1) := by rw [p1, Int.add_comm]; rfl
        have ra1 : wrapF .i8 (a1 + xX l i) = cntX l (i + 1) := by rw [p2]; rfl
        have rb1 : wrapF .i8 (xX l i + a1) = cntX l (i + 1) := by rw [p2, Int.add_comm]; rfl
        have ra2 : wrapF .i8 (a2 + xX l i) = cntX l (i + 1) := by rw [p3]; rfl
        have rb2 : wrapF .i8 (xX l i + a2) = cntX l (i + 1) := by rw [p3, Int.add_comm]; rfl
        refine ⟨?_⟩
        show xcode C1 Tryz.prog F 14 (loopC Tryz.prog 14 22) (mask 14) (tmpsN Tryz.prog 14) (mkE (eX n (ggX (zn i) [xX l i]) (.slc n0X 0 i i false 1) i)) _ (cond (Nat.ble (i + 1) n) dX_1_x [false]) _
        rw [ble_t hlt]
        exact useX_1_x Zs hn hlt a0 a1 a2 (xX l i) hx.1 hx.2 (by omega) (by omega) (by omega) (by omega) (by omega) (by omega) (row4_eq (by omega) (by omega) (by omega) (by omega)) (cellIX hlt (getX1 ..) _) (cellR (zgX1 ..) (by rw [zoX_low (by omega), Zs.ins i hlt]; rfl) _ rfl)
          (fun env h ds σ ab => ⟨.s2 (i + 1) 2 (wrapF .i8 (a0 + (xX l i))) (wrapF .i8 (a1 + (xX l i))) (wrapF .i8 ((xX l i) + a2)) (xX l i) a2 _, σ, ⟨by omega, hlt, by omega, by omega, by omega, by omega⟩, (by show n - (i + 1) < n - i; omega), rfl, ab⟩)
      · have hin : i = n := by omega
        subst hin
        refine ⟨?_⟩
        show xcode C1 Tryz.prog F 14 (loopC Tryz.prog 14 22) (mask 14) (tmpsN Tryz.prog 14) (mkE (eX i (ggX (zn i) [xX l i]) (.slc n0X 0 i i false 1) i)) _ (cond (Nat.ble (i + 1) i) dX_1_x [false]) _
        rw [ble_f (Nat.lt_irrefl i)]
        exact round_use2 good1.spl (fun Kv => xX_1 (zoX l z i) (zrowsT 0 1 i) (zrowsT 100 4 i) i i _ a0 a1 a2 Kv)
          (bcase_tt (dcq_ge (by omega)) (fun env h ds ho => (done_X1 Zs hn _ rfl ho).elim fun σ ab => ⟨σ, rfl, ab⟩))
    | s2 i a0 a1 a2 a3 a4 a5 g0 =>
      obtain ⟨h1, h2, p0, p1, p2, p3⟩ := hs
      have hc := leX l i
      by_cases hlt : i < n
      · have hx := xX_le l i
        have q1 := cntX_succ l i
        have ra1 : wrapF .i8 (a1 + xX l i) = cntX l (i + 1) := by rw [p1]; rfl
        have rb1 : wrapF .i8 (xX l i + a1) = cntX l (i + 1) := by rw [p1, Int.add_comm]; rfl
        have ra2 : wrapF .i8 (a2 + xX l i) = cntX l (i + 1) := by rw [p2]; rfl
        have rb2 : wrapF .i8 (xX l i + a2) = cntX l (i + 1) := by rw [p2, Int.add_comm]; rfl
        have ra3 : wrapF .i8 (a3 + xX l i) = cntX l (i + 1) := by rw [p3]; rfl
        have rb3 : wrapF .i8 (xX l i + a3) = cntX l (i + 1) := by rw [p3, Int.add_comm]; rfl
        refine ⟨?_⟩
        show xcode C1 Tryz.prog F 14 (loopC Tryz.prog 14 22) (mask 14) (tmpsN Tryz.prog 14) (mkE (eX n (ggX (zn i) [xX l i]) (.slc n0X 0 i i false 1) i)) _ (cond (Nat.ble (i + 1) n) dX_2_x [false]) _
        rw [ble_t hlt]
        exact useX_2_x Zs hn hlt a0 a1 a2 a3 a4 a5 (xX l i) hx.1 hx.2 (by omega) (by omega) (by omega) (by omega) (by omega) (by omega) (by omega) (by omega) (by omega) (row4_eq (by omega) (by omega) (by omega) (by omega)) (cellIX hlt (getX2 ..) _) (cellR (zgX2 ..) (by rw [zoX_low (by omega), Zs.ins i hlt]; rfl) _ rfl)
          (fun env h ds σ ab => ⟨.s2 (i + 1) (a0 + 1) (wrapF .i8 (a1 + (xX l i))) (wrapF .i8 (a2 + (xX l i))) (wrapF .i8 ((xX l i) + a3)) (xX l i) a3 _, σ, ⟨by omega, hlt, by omega, by omega, by omega, by omega⟩, (by show n - (i + 1) < n - i; omega), rfl, ab⟩)
      · have hin : i = n := by omega
        subst hin
        refine ⟨?_⟩
        show xcode C1 Tryz.prog F 14 (loopC Tryz.prog 14 22) (mask 14) (tmpsN Tryz.prog 14) (mkE (eX i (ggX (zn i) [xX l i]) (.slc n0X 0 i i false 1) i)) _ (cond (Nat.ble (i + 1) i) dX_2_x [false]) _
        rw [ble_f (Nat.lt_irrefl i)]
        exact round_use2 good1.spl (fun Kv => xX_2 (zoX l z i) (zrowsT 0 1 i) (zrowsT 100 4 i) i i _ a0 a1 a2 a3 a4 a5 Kv)
          (bcase_tt (dcq_ge (by omega)) (fun env h ds ho => (done_X1 Zs hn _ rfl ho).elim fun σ ab => ⟨σ, rfl, ab⟩))
end
end Go.Proofs.YtkfhjobebhdpoaaGreat

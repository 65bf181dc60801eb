/- Stream: StreamMerges runs to its end and answers true. -/
import Derived.Test.YtkfhjobebhdpoaaGreatMC
set_option linter.unusedVariables false
set_option autoImplicit false
set_option maxRecDepth 1000000
set_option maxHeartbeats 2000000
set_option linter.unusedVariables false
namespace Go.Proofs.YtkfhjobebhdpoaaGreat
noncomputable section
open Go.X
def conReadyM : Con := fun args h ds K => args = [.str nMt vMt] ∧ K (ren (shf h.next) VMt) (addAll h gMt) ds
def conRunM (l : Nat → Bool) (n : Nat) : Con := fun args h ds K => (args = [.agg [.slc 8 0 2 2 false 6], .str 1 102, .slc 30 0 n n false 1] ∧ h = (lfinM l n).h) ∧ K (.tup [.slc n0M 0 n n false 1, .int .i64 (Int.ofNat 0)]) (finM l n (zbM l n)).h ds
def conSameM (l : Nat → Bool) (n : Nat) : Con := fun args h ds K => (args = [.slc n0M 0 n n false 1, .slc 31 0 n n false 1] ∧ h = (finM l n (zbM l n)).h) ∧ K (.bool true) h ds
def valsM (l : Nat → Bool) : Nat → Nat → Int := fun i _ => valM l i
theorem rowsOutM {l : Nat → Bool} {n : Nat} (hn : n ≤ 60) : RowsAre (finM l n (zbM l n)).h n0M n 1 (fun i => zn (300 + i)) (valsM l) := by
  intro i hi
  have g1 : T.get (finM l n (zbM l n)).h.b n0M = some (.row (zrows 300 1 n) 22 true []) := by
    show (mkB (zoM l (zbM l n) n) (rrM (zrows 300 1 n) (zrowsT 0 1 n) (zrowsT 100 1 n))).get n0M = _
    unfold rrM
    rw [mkB_cons]; exact T.get_set_same _ _
  have g2 : T.get (finM l n (zbM l n)).h.b (zn (300 + i)) = some (outM l i) := by
    show (mkB (zoM l (zbM l n) n) (rrM (zrows 300 1 n) (zrowsT 0 1 n) (zrowsT 100 1 n))).get (zn (300 + i)) = _
    unfold rrM
    rw [mkB_cons, T.get_set_other _ _ _ (by show zn (300 + i) ≠ 1049540; rw [zn_eq]; omega), mkB_cons, T.get_set_other _ _ _ (by show zn (300 + i) ≠ 30; rw [zn_eq]; omega), mkB_cons, T.get_set_other _ _ _ (by show zn (300 + i) ≠ 31; rw [zn_eq]; omega), zput_zn]
    exact zgrow_new hi
  refine ⟨⟨1, false, Nat.le_refl _, cellOf_of g1 (zrows_get hi)⟩, fun k hk => ?_⟩
  match k, hk with
  | 0, _ => exact cellOf_of g2 rfl
theorem rowsWantM {l : Nat → Bool} {n : Nat} (hn : n ≤ 60) : RowsAre (finM l n (zbM l n)).h 31 n 1 (fun i => zn (100 + i)) (valsM l) := by
  intro i hi
  have g1 : T.get (finM l n (zbM l n)).h.b 31 = some (.row (zrowsT 100 1 n) 22 true []) := by
    show (mkB (zoM l (zbM l n) n) (rrM (zrows 300 1 n) (zrowsT 0 1 n) (zrowsT 100 1 n))).get 31 = _
    unfold rrM
    rw [mkB_cons, T.get_set_other _ _ _ (by show 31 ≠ 1049540; decide), mkB_cons, T.get_set_other _ _ _ (by show 31 ≠ 30; decide), mkB_cons]; exact T.get_set_same _ _
  have g2 : T.get (finM l n (zbM l n)).h.b (zn (100 + i)) = some (outM l i) := by
    show (mkB (zoM l (zbM l n) n) (rrM (zrows 300 1 n) (zrowsT 0 1 n) (zrowsT 100 1 n))).get (zn (100 + i)) = _
    unfold rrM
    rw [mkB_cons, T.get_set_other _ _ _ (by show zn (100 + i) ≠ 1049540; rw [zn_eq]; omega), mkB_cons, T.get_set_other _ _ _ (by show zn (100 + i) ≠ 30; rw [zn_eq]; omega), mkB_cons, T.get_set_other _ _ _ (by show zn (100 + i) ≠ 31; rw [zn_eq]; omega), zput_zn, zoM_low (by omega)]
    exact (zbM_get l n hn).2.1 i hi
  refine ⟨⟨1, true, Nat.le_refl _, cellOf_of g1 (zrowsT_get hi)⟩, fun k hk => ?_⟩
  match k, hk with
  | 0, _ => exact cellOf_of g2 rfl
theorem finM_hc {l : Nat → Bool} {n : Nat} (hn : n ≤ 60) : HC (finM l n (zbM l n)).h := by
  have : ZS.ok (finM l n (zbM l n)) 2097152 := ⟨rfl, rfl, blksN_row (by show 1049540 < 2097152; decide) (belM_O hn) (blksN_row (by decide) (belM_I hn) (blksN_row (by decide) (belM_W hn) rfl)), zoM_ok (zbM_in hn) hn⟩
  exact this.hc
/-- the contracts of a run of the law -/
def CL1M : Cfg := (C1.addCon 12 conTrue).addCon 13 conReadyM
def CL2M (l : Nat → Bool) (n : Nat) : Cfg := (CL1M.addCon 14 (conRunM l n)).addCon 16 (conSameM l n)
def CL3M (te : TypeId) (l : Nat → Bool) (n : Nat) : Cfg := (CL2M l n).addLc 10 11 (lcZ (S0 := Unit) (fun _ => True) (lmap (fun p => p.1) (ls0M te l n).E) (lmap (fun p => p.1) (ls0M te l n).B) (fun _ => ls0M te l n) (fun _ => (.ext 0, lfinM l n)))
theorem CL1M_good : X.Good CL1M Tryz.prog :=
  (good1.addCon 12 conTrue conTrue_spl (conTrue_ok alive_true)).addCon 13 conReadyM (fun args h ds K hk => ⟨_, _, _, hk.2, by show h.next ≤ h.next + llen gMt; omega, fun K' hk' => ⟨hk.1, hk'⟩⟩) (fun args h ds K hk => by obtain ⟨rfl, hk⟩ := hk; exact readyMt_ok hk)
theorem CL2M_good {l : Nat → Bool} {n : Nat} (hn1 : 1 ≤ n) (hn : n ≤ 60) : X.Good (CL2M l n) Tryz.prog := by
  refine (CL1M_good.addCon 14 (conRunM l n) (fun args h ds K hk => ⟨_, _, _, hk.2, by rw [hk.1.2]; show 1048576 ≤ 2097152; decide, fun K' hk' => ⟨hk.1, hk'⟩⟩) (fun args h ds K hk => ?_)).addCon 16 (conSameM l n) (fun args h ds K hk => ⟨_, _, _, hk.2, Nat.le_refl _, fun K' hk' => ⟨hk.1, hk'⟩⟩) (fun args h ds K hk => ?_)
  · obtain ⟨⟨rfl, rfl⟩, hk⟩ := hk
    exact runM_ok hn1 hn (zbM_in hn) hk
  · obtain ⟨⟨rfl, rfl⟩, hk⟩ := hk
    refine call_args (args2 := [.vs n0M 0 n (fun i => .row (zn (300 + i)) 1 (valsM l i)), .vs 31 0 n (fun i => .row (zn (100 + i)) 1 (valsM l i))]) (fun L vs hv => ?_) ?_
    · cases hv with
      | cons _ _ _ _ a b => cases b with
        | cons _ _ _ _ b c => exact .cons _ _ _ _ (rv_vs a) (.cons _ _ _ _ (rv_vs b) c)
    · exact same1_ok (finM_hc hn) (A := n0M) (B := 31) (by show 1049540 < 2097152; decide) (by show 31 < 2097152; decide) (rowsOutM hn) (rowsWantM hn) (by omega) hk
theorem CL3M_good (te : TypeId) {l : Nat → Bool} {n : Nat} (hn1 : 1 ≤ n) (hn : n ≤ 60) : X.Good (CL3M te l n) Tryz.prog := lawLoopM_good (CL2M_good hn1 hn) rfl rfl te hn1 hn
def hLawM (te : TypeId) (l : Nat → Bool) (n : Nat) : H := ⟨T.set T.leaf (.pur (pvB l) n te) 0, 8⟩
theorem lawM_key (te : TypeId) (l : Nat → Bool) (n : Nat) (K : AV → Prop) : xfun (CL3M te l n) Tryz.prog (xcode (CL3M te l n) Tryz.prog F) 10 [.slc 0 0 n n false 1] (hLawM te l n) [] (fun v _ _ => K v) =
    (bcase (ltI (Int.ofNat 60) (Int.ofNat n)) (K (.bool true)) ([AV.str nMt vMt] = [.str nMt vMt] ∧ ∃ _ : Unit, True ∧ (ls0M te l n).o0 = (ls0M te l n).o0 ∧
      (([AV.agg [.slc 8 0 2 2 false 6], .str 1 102, .slc 30 0 n n false 1] = [.agg [.slc 8 0 2 2 false 6], .str 1 102, .slc 30 0 n n false 1] ∧ (lfinM l n).h = (lfinM l n).h) ∧
        (([AV.slc n0M 0 n n false 1, .slc 31 0 n n false 1] = [.slc n0M 0 n n false 1, .slc 31 0 n n false 1] ∧ (finM l n (zbM l n)).h = (finM l n (zbM l n)).h) ∧ K (.bool true))))) := by kernel_rfl
theorem lawM_run (te : TypeId) {l : Nat → Bool} {n : Nat} (hn1 : 1 ≤ n) (hn : n ≤ 60) : Ran (xfun (CL3M te l n) Tryz.prog (xcode (CL3M te l n) Tryz.prog F) 10 [.slc 0 0 n n false 1] (hLawM te l n) [] (fun v _ _ => v = .bool true)) :=
  ⟨Eq.mpr (lawM_key te l n (fun v => v = .bool true)) (bcase_ff (by rw [ltI_eq]; simp; omega) ⟨rfl, (), trivial, rfl, ⟨rfl, rfl⟩, ⟨rfl, rfl⟩, rfl⟩)⟩
/-- more than sixty -/
theorem bigM_key (te : TypeId) (l : Nat → Bool) (n : Nat) (K : AV → Prop) : xfun CL1M Tryz.prog (xcode CL1M Tryz.prog F) 10 [.slc 0 0 n n false 1] (hLawM te l n) [true] (fun v _ _ => K v) = (bcase (dcq true (ltI (Int.ofNat 60) (Int.ofNat n))) (K (.bool true)) False) := by kernel_rfl
theorem bigM_run (te : TypeId) {l : Nat → Bool} {n : Nat} (hn : 60 < n) : Ran (xfun CL1M Tryz.prog (xcode CL1M Tryz.prog F) 10 [.slc 0 0 n n false 1] (hLawM te l n) [true] (fun v _ _ => v = .bool true)) :=
  ⟨Eq.mpr (bigM_key te l n (fun v => v = .bool true)) (bcase_tt (dcq_lt (by simp only [Int.ofNat_eq_natCast]; omega)) rfl)⟩
/-- the law of nothing -/
def CL0M : Cfg := (C0.addCon 12 conTrue).addCon 13 conReadyM
theorem CL0M_good : X.Good CL0M Tryz.prog :=
  (good0.addCon 12 conTrue conTrue_spl (conTrue_ok alive_true)).addCon 13 conReadyM (fun args h ds K hk => ⟨_, _, _, hk.2, by show h.next ≤ h.next + llen gMt; omega, fun K' hk' => ⟨hk.1, hk'⟩⟩) (fun args h ds K hk => by obtain ⟨rfl, hk⟩ := hk; exact readyMt_ok hk)
end
end Go.Proofs.YtkfhjobebhdpoaaGreat

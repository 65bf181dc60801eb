/- Stream: StreamClocks runs to its end and answers true. -/
import Derived.Test.YtkfhjobebhdpoaaGreatCC
set_option linter.unusedVariables false
set_option autoImplicit false
set_option maxRecDepth 1000000
set_option maxHeartbeats 2000000
set_option linter.unusedVariables false
namespace Go.Proofs.YtkfhjobebhdpoaaGreat
noncomputable section
open Go.X
def conReadyC : Con := fun args h ds K => args = [.str nCt vCt] ∧ K (ren (shf h.next) VCt) (addAll h gCt) ds
def conRunC (l : Nat → Bool) (n : Nat) : Con := fun args h ds K => (args = [.agg [.slc 8 0 1 1 false 6], .str 1 102, .slc 30 0 n n false 1] ∧ h = (lfinC l n).h) ∧ K (.tup [.slc n0C 0 n n false 1, .int .i64 (Int.ofNat 0)]) (finC l n (zbC l n)).h ds
def conSameC (l : Nat → Bool) (n : Nat) : Con := fun args h ds K => (args = [.slc n0C 0 n n false 1, .slc 31 0 n n false 1] ∧ h = (finC l n (zbC l n)).h) ∧ K (.bool true) h ds
def valsC (l : Nat → Bool) : Nat → Nat → Int := fun i _ => cntC l (i + 1)
theorem rowsOutC {l : Nat → Bool} {n : Nat} (hn : n ≤ 60) : RowsAre (finC l n (zbC l n)).h n0C n 1 (fun i => zn (300 + i)) (valsC l) := by
  intro i hi
  have g1 : T.get (finC l n (zbC l n)).h.b n0C = some (.row (zrows 300 1 n) 22 true []) := by
    show (mkB (zoC l (zbC l n) n) (rrC (zrows 300 1 n) (zrowsT 0 1 n) (zrowsT 100 1 n))).get n0C = _
    unfold rrC
    rw [mkB_cons]; exact T.get_set_same _ _
  have g2 : T.get (finC l n (zbC l n)).h.b (zn (300 + i)) = some (outC l i) := by
    show (mkB (zoC l (zbC l n) n) (rrC (zrows 300 1 n) (zrowsT 0 1 n) (zrowsT 100 1 n))).get (zn (300 + i)) = _
    unfold rrC
    rw [mkB_cons, T.get_set_other _ _ _ (by show zn (300 + i) ≠ 1049359; rw [zn_eq]; omega), mkB_cons, T.get_set_other _ _ _ (by show zn (300 + i) ≠ 30; rw [zn_eq]; omega), mkB_cons, T.get_set_other _ _ _ (by show zn (300 + i) ≠ 31; rw [zn_eq]; omega), zput_zn]
    exact zgrow_new hi
  refine ⟨⟨1, false, Nat.le_refl _, cellOf_of g1 (zrows_get hi)⟩, fun k hk => ?_⟩
  match k, hk with
  | 0, _ => exact cellOf_of g2 rfl
theorem rowsWantC {l : Nat → Bool} {n : Nat} (hn : n ≤ 60) : RowsAre (finC l n (zbC l n)).h 31 n 1 (fun i => zn (100 + i)) (valsC l) := by
  intro i hi
  have g1 : T.get (finC l n (zbC l n)).h.b 31 = some (.row (zrowsT 100 1 n) 22 true []) := by
    show (mkB (zoC l (zbC l n) n) (rrC (zrows 300 1 n) (zrowsT 0 1 n) (zrowsT 100 1 n))).get 31 = _
    unfold rrC
    rw [mkB_cons, T.get_set_other _ _ _ (by show 31 ≠ 1049359; decide), mkB_cons, T.get_set_other _ _ _ (by show 31 ≠ 30; decide), mkB_cons]; exact T.get_set_same _ _
  have g2 : T.get (finC l n (zbC l n)).h.b (zn (100 + i)) = some (outC l i) := by
    show (mkB (zoC l (zbC l n) n) (rrC (zrows 300 1 n) (zrowsT 0 1 n) (zrowsT 100 1 n))).get (zn (100 + i)) = _
    unfold rrC
    rw [mkB_cons, T.get_set_other _ _ _ (by show zn (100 + i) ≠ 1049359; rw [zn_eq]; omega), mkB_cons, T.get_set_other _ _ _ (by show zn (100 + i) ≠ 30; rw [zn_eq]; omega), mkB_cons, T.get_set_other _ _ _ (by show zn (100 + i) ≠ 31; rw [zn_eq]; omega), zput_zn, zoC_low (by omega)]
    exact (zbC_get l n hn).2.1 i hi
  refine ⟨⟨1, true, Nat.le_refl _, cellOf_of g1 (zrowsT_get hi)⟩, fun k hk => ?_⟩
  match k, hk with
  | 0, _ => exact cellOf_of g2 rfl
theorem finC_hc {l : Nat → Bool} {n : Nat} (hn : n ≤ 60) : HC (finC l n (zbC l n)).h := by
  have : ZS.ok (finC l n (zbC l n)) 2097152 := ⟨rfl, rfl, blksN_row (by show 1049359 < 2097152; decide) (belC_O hn) (blksN_row (by decide) (belC_I hn) (blksN_row (by decide) (belC_W hn) rfl)), zoC_ok (zbC_in hn) hn⟩
  exact this.hc
/-- the contracts of a run of the law -/
def CL1C : Cfg := (C1.addCon 12 conTrue).addCon 13 conReadyC
def CL2C (l : Nat → Bool) (n : Nat) : Cfg := (CL1C.addCon 14 (conRunC l n)).addCon 16 (conSameC l n)
def CL3C (te : TypeId) (l : Nat → Bool) (n : Nat) : Cfg := (CL2C l n).addLc 5 10 (lcZ (S0 := Unit) (fun _ => True) (lmap (fun p => p.1) (ls0C te l n).E) (lmap (fun p => p.1) (ls0C te l n).B) (fun _ => ls0C te l n) (fun _ => (.ext 0, lfinC l n)))
theorem CL1C_good : X.Good CL1C Tryz.prog :=
  (good1.addCon 12 conTrue conTrue_spl (conTrue_ok alive_true)).addCon 13 conReadyC (fun args h ds K hk => ⟨_, _, _, hk.2, by show h.next ≤ h.next + llen gCt; omega, fun K' hk' => ⟨hk.1, hk'⟩⟩) (fun args h ds K hk => by obtain ⟨rfl, hk⟩ := hk; exact readyCt_ok hk)
theorem CL2C_good {l : Nat → Bool} {n : Nat} (hn1 : 1 ≤ n) (hn : n ≤ 60) : X.Good (CL2C l n) Tryz.prog := by
  refine (CL1C_good.addCon 14 (conRunC l n) (fun args h ds K hk => ⟨_, _, _, hk.2, by rw [hk.1.2]; show 1048576 ≤ 2097152; decide, fun K' hk' => ⟨hk.1, hk'⟩⟩) (fun args h ds K hk => ?_)).addCon 16 (conSameC l n) (fun args h ds K hk => ⟨_, _, _, hk.2, Nat.le_refl _, fun K' hk' => ⟨hk.1, hk'⟩⟩) (fun args h ds K hk => ?_)
  · obtain ⟨⟨rfl, rfl⟩, hk⟩ := hk
    exact runC_ok hn1 hn (zbC_in hn) hk
  · obtain ⟨⟨rfl, rfl⟩, hk⟩ := hk
    refine call_args (args2 := [.vs n0C 0 n (fun i => .row (zn (300 + i)) 1 (valsC l i)), .vs 31 0 n (fun i => .row (zn (100 + i)) 1 (valsC l i))]) (fun L vs hv => ?_) ?_
    · cases hv with
      | cons _ _ _ _ a b => cases b with
        | cons _ _ _ _ b c => exact .cons _ _ _ _ (rv_vs a) (.cons _ _ _ _ (rv_vs b) c)
    · exact same1_ok (finC_hc hn) (A := n0C) (B := 31) (by show 1049359 < 2097152; decide) (by show 31 < 2097152; decide) (rowsOutC hn) (rowsWantC hn) (by omega) hk
theorem CL3C_good (te : TypeId) {l : Nat → Bool} {n : Nat} (hn1 : 1 ≤ n) (hn : n ≤ 60) : X.Good (CL3C te l n) Tryz.prog := lawLoopC_good (CL2C_good hn1 hn) rfl rfl te hn1 hn
def hLawC (te : TypeId) (l : Nat → Bool) (n : Nat) : H := ⟨T.set T.leaf (.pur (pvB l) n te) 0, 8⟩
theorem lawC_key (te : TypeId) (l : Nat → Bool) (n : Nat) (K : AV → Prop) : xfun (CL3C te l n) Tryz.prog (xcode (CL3C te l n) Tryz.prog F) 5 [.slc 0 0 n n false 1] (hLawC te l n) [] (fun v _ _ => K v) =
    (bcase (ltI (Int.ofNat 60) (Int.ofNat n)) (K (.bool true)) ([AV.str nCt vCt] = [.str nCt vCt] ∧ ∃ _ : Unit, True ∧ (ls0C te l n).o0 = (ls0C te l n).o0 ∧
      (([AV.agg [.slc 8 0 1 1 false 6], .str 1 102, .slc 30 0 n n false 1] = [.agg [.slc 8 0 1 1 false 6], .str 1 102, .slc 30 0 n n false 1] ∧ (lfinC l n).h = (lfinC l n).h) ∧
        (([AV.slc n0C 0 n n false 1, .slc 31 0 n n false 1] = [.slc n0C 0 n n false 1, .slc 31 0 n n false 1] ∧ (finC l n (zbC l n)).h = (finC l n (zbC l n)).h) ∧ K (.bool true))))) := by kernel_rfl
theorem lawC_run (te : TypeId) {l : Nat → Bool} {n : Nat} (hn1 : 1 ≤ n) (hn : n ≤ 60) : Ran (xfun (CL3C te l n) Tryz.prog (xcode (CL3C te l n) Tryz.prog F) 5 [.slc 0 0 n n false 1] (hLawC te l n) [] (fun v _ _ => v = .bool true)) :=
  ⟨Eq.mpr (lawC_key te l n (fun v => v = .bool true)) (bcase_ff (by rw [ltI_eq]; simp; omega) ⟨rfl, (), trivial, rfl, ⟨rfl, rfl⟩, ⟨rfl, rfl⟩, rfl⟩)⟩
/-- more than sixty -/
theorem bigC_key (te : TypeId) (l : Nat → Bool) (n : Nat) (K : AV → Prop) : xfun CL1C Tryz.prog (xcode CL1C Tryz.prog F) 5 [.slc 0 0 n n false 1] (hLawC te l n) [true] (fun v _ _ => K v) = (bcase (dcq true (ltI (Int.ofNat 60) (Int.ofNat n))) (K (.bool true)) False) := by kernel_rfl
theorem bigC_run (te : TypeId) {l : Nat → Bool} {n : Nat} (hn : 60 < n) : Ran (xfun CL1C Tryz.prog (xcode CL1C Tryz.prog F) 5 [.slc 0 0 n n false 1] (hLawC te l n) [true] (fun v _ _ => v = .bool true)) :=
  ⟨Eq.mpr (bigC_key te l n (fun v => v = .bool true)) (bcase_tt (dcq_lt (by simp only [Int.ofNat_eq_natCast]; omega)) rfl)⟩
/-- the law of nothing -/
def CL0C : Cfg := (C0.addCon 12 conTrue).addCon 13 conReadyC
theorem CL0C_good : X.Good CL0C Tryz.prog :=
  (good0.addCon 12 conTrue conTrue_spl (conTrue_ok alive_true)).addCon 13 conReadyC (fun args h ds K hk => ⟨_, _, _, hk.2, by show h.next ≤ h.next + llen gCt; omega, fun K' hk' => ⟨hk.1, hk'⟩⟩) (fun args h ds K hk => by obtain ⟨rfl, hk⟩ := hk; exact readyCt_ok hk)
end
end Go.Proofs.YtkfhjobebhdpoaaGreat

/- Stream: StreamBoth runs to its end and answers true. -/
import Derived.Test.YtkfhjobebhdpoaaGreatOC
set_option linter.unusedVariables false
set_option autoImplicit false
set_option maxRecDepth 1000000
set_option maxHeartbeats 2000000
set_option linter.unusedVariables false
namespace Go.Proofs.YtkfhjobebhdpoaaGreat
noncomputable section
open Go.X
def conReadyO : Con := fun args h ds K => args = [.str nOt vOt] ∧ K (ren (shf h.next) VOt) (addAll h gOt) ds
def conRunO (l : Nat → Bool) (n : Nat) : Con := fun args h ds K => (args = [.agg [.slc 8 0 1 1 false 6], .str 1 102, .slc 30 0 n n false 1] ∧ h = (lfinO l n).h) ∧ K (.tup [.slc n0O 0 n n false 1, .int .i64 (Int.ofNat 0)]) (finO l n (zbO l n)).h ds
def conSameO (l : Nat → Bool) (n : Nat) : Con := fun args h ds K => (args = [.slc n0O 0 n n false 1, .slc 31 0 n n false 1] ∧ h = (finO l n (zbO l n)).h) ∧ K (.bool true) h ds
def valsO (l : Nat → Bool) : Nat → Nat → Int := fun i _ => valO l i
theorem rowsOutO {l : Nat → Bool} {n : Nat} (hn : n ≤ 60) : RowsAre (finO l n (zbO l n)).h n0O n 1 (fun i => zn (300 + i)) (valsO l) := by
  intro i hi
  have g1 : T.get (finO l n (zbO l n)).h.b n0O = some (.row (zrows 300 1 n) 22 true []) := by
    show (mkB (zoO l (zbO l n) n) (rrO (zrows 300 1 n) (zrowsT 0 1 n) (zrowsT 100 1 n))).get n0O = _
    unfold rrO
    rw [mkB_cons]; exact T.get_set_same _ _
  have g2 : T.get (finO l n (zbO l n)).h.b (zn (300 + i)) = some (outO l i) := by
    show (mkB (zoO l (zbO l n) n) (rrO (zrows 300 1 n) (zrowsT 0 1 n) (zrowsT 100 1 n))).get (zn (300 + i)) = _
    unfold rrO
    rw [mkB_cons, T.get_set_other _ _ _ (by show zn (300 + i) ≠ 1049403; rw [zn_eq]; omega), mkB_cons, T.get_set_other _ _ _ (by show zn (300 + i) ≠ 30; rw [zn_eq]; omega), mkB_cons, T.get_set_other _ _ _ (by show zn (300 + i) ≠ 31; rw [zn_eq]; omega), zput_zn]
    exact zgrow_new hi
  refine ⟨⟨1, false, Nat.le_refl _, cellOf_of g1 (zrows_get hi)⟩, fun k hk => ?_⟩
  match k, hk with
  | 0, _ => exact cellOf_of g2 rfl
theorem rowsWantO {l : Nat → Bool} {n : Nat} (hn : n ≤ 60) : RowsAre (finO l n (zbO l n)).h 31 n 1 (fun i => zn (100 + i)) (valsO l) := by
  intro i hi
  have g1 : T.get (finO l n (zbO l n)).h.b 31 = some (.row (zrowsT 100 1 n) 22 true []) := by
    show (mkB (zoO l (zbO l n) n) (rrO (zrows 300 1 n) (zrowsT 0 1 n) (zrowsT 100 1 n))).get 31 = _
    unfold rrO
    rw [mkB_cons, T.get_set_other _ _ _ (by show 31 ≠ 1049403; decide), mkB_cons, T.get_set_other _ _ _ (by show 31 ≠ 30; decide), mkB_cons]; exact T.get_set_same _ _
  have g2 : T.get (finO l n (zbO l n)).h.b (zn (100 + i)) = some (outO l i) := by
    show (mkB (zoO l (zbO l n) n) (rrO (zrows 300 1 n) (zrowsT 0 1 n) (zrowsT 100 1 n))).get (zn (100 + i)) = _
    unfold rrO
    rw [mkB_cons, T.get_set_other _ _ _ (by show zn (100 + i) ≠ 1049403; rw [zn_eq]; omega), mkB_cons, T.get_set_other _ _ _ (by show zn (100 + i) ≠ 30; rw [zn_eq]; omega), mkB_cons, T.get_set_other _ _ _ (by show zn (100 + i) ≠ 31; rw [zn_eq]; omega), zput_zn, zoO_low (by omega)]
    exact (zbO_get l n hn).2.1 i hi
  refine ⟨⟨1, true, Nat.le_refl _, cellOf_of g1 (zrowsT_get hi)⟩, fun k hk => ?_⟩
  match k, hk with
  | 0, _ => exact cellOf_of g2 rfl
theorem finO_hc {l : Nat → Bool} {n : Nat} (hn : n ≤ 60) : HC (finO l n (zbO l n)).h := by
  have : ZS.ok (finO l n (zbO l n)) 2097152 := ⟨rfl, rfl, blksN_row (by show 1049403 < 2097152; decide) (belO_O hn) (blksN_row (by decide) (belO_I hn) (blksN_row (by decide) (belO_W hn) rfl)), zoO_ok (zbO_in hn) hn⟩
  exact this.hc
/-- the contracts of a run of the law -/
def CL1O : Cfg := (C1.addCon 12 conTrue).addCon 13 conReadyO
def CL2O (l : Nat → Bool) (n : Nat) : Cfg := (CL1O.addCon 14 (conRunO l n)).addCon 16 (conSameO l n)
def CL3O (te : TypeId) (l : Nat → Bool) (n : Nat) : Cfg := (CL2O l n).addLc 11 10 (lcZ (S0 := Unit) (fun _ => True) (lmap (fun p => p.1) (ls0O te l n).E) (lmap (fun p => p.1) (ls0O te l n).B) (fun _ => ls0O te l n) (fun _ => (.ext 0, lfinO l n)))
theorem CL1O_good : X.Good CL1O Tryz.prog :=
  (good1.addCon 12 conTrue conTrue_spl (conTrue_ok alive_true)).addCon 13 conReadyO (fun args h ds K hk => ⟨_, _, _, hk.2, by show h.next ≤ h.next + llen gOt; omega, fun K' hk' => ⟨hk.1, hk'⟩⟩) (fun args h ds K hk => by obtain ⟨rfl, hk⟩ := hk; exact readyOt_ok hk)
theorem CL2O_good {l : Nat → Bool} {n : Nat} (hn1 : 1 ≤ n) (hn : n ≤ 60) : X.Good (CL2O l n) Tryz.prog := by
  refine (CL1O_good.addCon 14 (conRunO l n) (fun args h ds K hk => ⟨_, _, _, hk.2, by rw [hk.1.2]; show 1048576 ≤ 2097152; decide, fun K' hk' => ⟨hk.1, hk'⟩⟩) (fun args h ds K hk => ?_)).addCon 16 (conSameO l n) (fun args h ds K hk => ⟨_, _, _, hk.2, Nat.le_refl _, fun K' hk' => ⟨hk.1, hk'⟩⟩) (fun args h ds K hk => ?_)
  · obtain ⟨⟨rfl, rfl⟩, hk⟩ := hk
    exact runO_ok hn1 hn (zbO_in hn) hk
  · obtain ⟨⟨rfl, rfl⟩, hk⟩ := hk
    refine call_args (args2 := [.vs n0O 0 n (fun i => .row (zn (300 + i)) 1 (valsO l i)), .vs 31 0 n (fun i => .row (zn (100 + i)) 1 (valsO l i))]) (fun L vs hv => ?_) ?_
    · cases hv with
      | cons _ _ _ _ a b => cases b with
        | cons _ _ _ _ b c => exact .cons _ _ _ _ (rv_vs a) (.cons _ _ _ _ (rv_vs b) c)
    · exact same1_ok (finO_hc hn) (A := n0O) (B := 31) (by show 1049403 < 2097152; decide) (by show 31 < 2097152; decide) (rowsOutO hn) (rowsWantO hn) (by omega) hk
theorem CL3O_good (te : TypeId) {l : Nat → Bool} {n : Nat} (hn1 : 1 ≤ n) (hn : n ≤ 60) : X.Good (CL3O te l n) Tryz.prog := lawLoopO_good (CL2O_good hn1 hn) rfl rfl te hn1 hn
def hLawO (te : TypeId) (l : Nat → Bool) (n : Nat) : H := ⟨T.set T.leaf (.pur (pvB l) n te) 0, 8⟩
theorem lawO_key (te : TypeId) (l : Nat → Bool) (n : Nat) (K : AV → Prop) : xfun (CL3O te l n) Tryz.prog (xcode (CL3O te l n) Tryz.prog F) 11 [.slc 0 0 n n false 1] (hLawO te l n) [] (fun v _ _ => K v) =
    (bcase (ltI (Int.ofNat 60) (Int.ofNat n)) (K (.bool true)) ([AV.str nOt vOt] = [.str nOt vOt] ∧ ∃ _ : Unit, True ∧ (ls0O te l n).o0 = (ls0O te l n).o0 ∧
      (([AV.agg [.slc 8 0 1 1 false 6], .str 1 102, .slc 30 0 n n false 1] = [.agg [.slc 8 0 1 1 false 6], .str 1 102, .slc 30 0 n n false 1] ∧ (lfinO l n).h = (lfinO l n).h) ∧
        (([AV.slc n0O 0 n n false 1, .slc 31 0 n n false 1] = [.slc n0O 0 n n false 1, .slc 31 0 n n false 1] ∧ (finO l n (zbO l n)).h = (finO l n (zbO l n)).h) ∧ K (.bool true))))) := by kernel_rfl
theorem lawO_run (te : TypeId) {l : Nat → Bool} {n : Nat} (hn1 : 1 ≤ n) (hn : n ≤ 60) : Ran (xfun (CL3O te l n) Tryz.prog (xcode (CL3O te l n) Tryz.prog F) 11 [.slc 0 0 n n false 1] (hLawO te l n) [] (fun v _ _ => v = .bool true)) :=
  ⟨Eq.mpr (lawO_key te l n (fun v => v = .bool true)) (bcase_ff (by rw [ltI_eq]; simp; omega) ⟨rfl, (), trivial, rfl, ⟨rfl, rfl⟩, ⟨rfl, rfl⟩, rfl⟩)⟩
/-- more than sixty -/
theorem bigO_key (te : TypeId) (l : Nat → Bool) (n : Nat) (K : AV → Prop) : xfun CL1O Tryz.prog (xcode CL1O Tryz.prog F) 11 [.slc 0 0 n n false 1] (hLawO te l n) [true] (fun v _ _ => K v) = (bcase (dcq true (ltI (Int.ofNat 60) (Int.ofNat n))) (K (.bool true)) False) := by kernel_rfl
theorem bigO_run (te : TypeId) {l : Nat → Bool} {n : Nat} (hn : 60 < n) : Ran (xfun CL1O Tryz.prog (xcode CL1O Tryz.prog F) 11 [.slc 0 0 n n false 1] (hLawO te l n) [true] (fun v _ _ => v = .bool true)) :=
  ⟨Eq.mpr (bigO_key te l n (fun v => v = .bool true)) (bcase_tt (dcq_lt (by simp only [Int.ofNat_eq_natCast]; omega)) rfl)⟩
/-- the law of nothing -/
def CL0O : Cfg := (C0.addCon 12 conTrue).addCon 13 conReadyO
theorem CL0O_good : X.Good CL0O Tryz.prog :=
  (good0.addCon 12 conTrue conTrue_spl (conTrue_ok alive_true)).addCon 13 conReadyO (fun args h ds K hk => ⟨_, _, _, hk.2, by show h.next ≤ h.next + llen gOt; omega, fun K' hk' => ⟨hk.1, hk'⟩⟩) (fun args h ds K hk => by obtain ⟨rfl, hk⟩ := hk; exact readyOt_ok hk)
end
end Go.Proofs.YtkfhjobebhdpoaaGreat

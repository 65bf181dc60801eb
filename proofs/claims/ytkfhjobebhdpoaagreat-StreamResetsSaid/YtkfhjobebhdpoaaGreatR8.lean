/- Stream: StreamResets runs to its end and answers true. -/
import Derived.Test.YtkfhjobebhdpoaaGreatRC
set_option linter.unusedVariables false
set_option autoImplicit false
set_option maxRecDepth 1000000
set_option maxHeartbeats 2000000
set_option linter.unusedVariables false
namespace Go.Proofs.YtkfhjobebhdpoaaGreat
noncomputable section
open Go.X
theorem alive_true : ∀ w, Calls Tryz.prog 12 #[] w fun e w' => e = .returned (.bool true) ∧ Quiet w w' := by
  intro w
  refine (xrun_nil conA_good.ok conA_good.spl rfl alive_run (args := []) (args' := #[]) .nil w).mono ?_
  rintro e w' ⟨v, v', L', rfl, rfl, r, q⟩
  cases r
  exact ⟨rfl, q⟩
def conReadyR : Con := fun args h ds K => args = [.str nRt vRt] ∧ K (ren (shf h.next) VRt) (addAll h gRt) ds
def conRunR (l : Nat → Bool) (n : Nat) : Con := fun args h ds K => (args = [.agg [.slc 16 0 2 2 false 6], .str 1 102, .slc 30 0 n n false 1] ∧ h = (lfinR l n).h) ∧ K (.tup [.slc n0R 0 n n false 1, .int .i64 (Int.ofNat 0)]) (finR l n (zbR l n)).h ds
def conSameR (l : Nat → Bool) (n : Nat) : Con := fun args h ds K => (args = [.slc n0R 0 n n false 1, .slc 31 0 n n false 1] ∧ h = (finR l n (zbR l n)).h) ∧ K (.bool true) h ds
theorem rowsOut {l : Nat → Bool} {n : Nat} (hn : n ≤ 60) : RowsAre (finR l n (zbR l n)).h n0R n 2 (fun i => zn (300 + i)) (fun i k => Nat.rec (cvR l i) (fun _ _ => (i : Int)) k) := by
  intro i hi
  have g1 : T.get (finR l n (zbR l n)).h.b n0R = some (.row (zrows 300 2 n) 22 true []) := by
    show (mkB (zoR l (zbR l n) n) (rrR (zrows 300 2 n) (zrowsT 0 1 n) (zrowsT 100 2 n))).get n0R = _
    unfold rrR
    rw [mkB_cons]; exact T.get_set_same _ _
  have g2 : T.get (finR l n (zbR l n)).h.b (zn (300 + i)) = some (outR l i) := by
    show (mkB (zoR l (zbR l n) n) (rrR (zrows 300 2 n) (zrowsT 0 1 n) (zrowsT 100 2 n))).get (zn (300 + i)) = _
    unfold rrR
    rw [mkB_cons, T.get_set_other _ _ _ (by show zn (300 + i) ≠ 1049321; rw [zn_eq]; omega), mkB_cons, T.get_set_other _ _ _ (by show zn (300 + i) ≠ 30; rw [zn_eq]; omega), mkB_cons, T.get_set_other _ _ _ (by show zn (300 + i) ≠ 31; rw [zn_eq]; omega), zput_zn]
    exact zgrow_new hi
  refine ⟨⟨2, false, Nat.le_refl _, cellOf_of g1 (zrows_get hi)⟩, fun k hk => ?_⟩
  match k, hk with
  | 0, _ => exact cellOf_of g2 rfl
  | 1, _ => exact cellOf_of g2 rfl
theorem rowsWant {l : Nat → Bool} {n : Nat} (hn : n ≤ 60) : RowsAre (finR l n (zbR l n)).h 31 n 2 (fun i => zn (100 + i)) (fun i k => Nat.rec (cvR l i) (fun _ _ => (i : Int)) k) := by
  intro i hi
  have g1 : T.get (finR l n (zbR l n)).h.b 31 = some (.row (zrowsT 100 2 n) 22 true []) := by
    show (mkB (zoR l (zbR l n) n) (rrR (zrows 300 2 n) (zrowsT 0 1 n) (zrowsT 100 2 n))).get 31 = _
    unfold rrR
    rw [mkB_cons, T.get_set_other _ _ _ (by show 31 ≠ 1049321; decide), mkB_cons, T.get_set_other _ _ _ (by show 31 ≠ 30; decide), mkB_cons]; exact T.get_set_same _ _
  have g2 : T.get (finR l n (zbR l n)).h.b (zn (100 + i)) = some (outR l i) := by
    show (mkB (zoR l (zbR l n) n) (rrR (zrows 300 2 n) (zrowsT 0 1 n) (zrowsT 100 2 n))).get (zn (100 + i)) = _
    unfold rrR
    rw [mkB_cons, T.get_set_other _ _ _ (by show zn (100 + i) ≠ 1049321; rw [zn_eq]; omega), mkB_cons, T.get_set_other _ _ _ (by show zn (100 + i) ≠ 30; rw [zn_eq]; omega), mkB_cons, T.get_set_other _ _ _ (by show zn (100 + i) ≠ 31; rw [zn_eq]; omega), zput_zn, zoR_low (by omega)]
    exact (zbR_get l n hn).2.1 i hi
  refine ⟨⟨2, true, Nat.le_refl _, cellOf_of g1 (zrowsT_get hi)⟩, fun k hk => ?_⟩
  match k, hk with
  | 0, _ => exact cellOf_of g2 rfl
  | 1, _ => exact cellOf_of g2 rfl
theorem finR_hc {l : Nat → Bool} {n : Nat} (hn : n ≤ 60) : HC (finR l n (zbR l n)).h := by
  have : ZS.ok (finR l n (zbR l n)) 2097152 := ⟨rfl, rfl, blksN_row (by show 1049321 < 2097152; decide) (belR_O hn) (blksN_row (by decide) (belR_I hn) (blksN_row (by decide) (belR_W hn) rfl)), zoR_ok (zbR_in hn) hn⟩
  exact this.hc
/-- the contracts of a run of the law -/
def CL1 : Cfg := (C1.addCon 12 conTrue).addCon 13 conReadyR
def CL2 (l : Nat → Bool) (n : Nat) : Cfg := (CL1.addCon 14 (conRunR l n)).addCon 16 (conSameR l n)
def CL3 (te : TypeId) (l : Nat → Bool) (n : Nat) : Cfg := (CL2 l n).addLc 4 10 (lcZ (S0 := Unit) (fun _ => True) (lmap (fun p => p.1) (ls0R te l n).E) (lmap (fun p => p.1) (ls0R te l n).B) (fun _ => ls0R te l n) (fun _ => (.ext 0, lfinR l n)))
theorem CL1_good : X.Good CL1 Tryz.prog :=
  (good1.addCon 12 conTrue conTrue_spl (conTrue_ok alive_true)).addCon 13 conReadyR (fun args h ds K hk => ⟨_, _, _, hk.2, by show h.next ≤ h.next + llen gRt; omega, fun K' hk' => ⟨hk.1, hk'⟩⟩) (fun args h ds K hk => by obtain ⟨rfl, hk⟩ := hk; exact readyRt_ok hk)
theorem CL2_good {l : Nat → Bool} {n : Nat} (hn1 : 1 ≤ n) (hn : n ≤ 60) : X.Good (CL2 l n) Tryz.prog := by
  refine (CL1_good.addCon 14 (conRunR l n) (fun args h ds K hk => ⟨_, _, _, hk.2, by rw [hk.1.2]; show 1048576 ≤ 2097152; decide, fun K' hk' => ⟨hk.1, hk'⟩⟩) (fun args h ds K hk => ?_)).addCon 16 (conSameR l n) (fun args h ds K hk => ⟨_, _, _, hk.2, Nat.le_refl _, fun K' hk' => ⟨hk.1, hk'⟩⟩) (fun args h ds K hk => ?_)
  · obtain ⟨⟨rfl, rfl⟩, hk⟩ := hk
    exact runR_ok hn1 hn (zbR_in hn) hk
  · obtain ⟨⟨rfl, rfl⟩, hk⟩ := hk
    refine call_args (args2 := [.vs n0R 0 n (fun i => .row (zn (300 + i)) 2 ((fun i k => Nat.rec (cvR l i) (fun _ _ => (i : Int)) k) i)), .vs 31 0 n (fun i => .row (zn (100 + i)) 2 ((fun i k => Nat.rec (cvR l i) (fun _ _ => (i : Int)) k) i))]) (fun L vs hv => ?_) ?_
    · cases hv with
      | cons _ _ _ _ a b => cases b with
        | cons _ _ _ _ b c => exact .cons _ _ _ _ (rv_vs a) (.cons _ _ _ _ (rv_vs b) c)
    · exact same2_ok (finR_hc hn) (A := n0R) (B := 31) (by show 1049321 < 2097152; decide) (by show 31 < 2097152; decide) (rowsOut hn) (rowsWant hn) (by omega) hk
theorem CL3_good (te : TypeId) {l : Nat → Bool} {n : Nat} (hn1 : 1 ≤ n) (hn : n ≤ 60) : X.Good (CL3 te l n) Tryz.prog := lawLoop_good (CL2_good hn1 hn) rfl rfl te hn1 hn
def hLaw (te : TypeId) (l : Nat → Bool) (n : Nat) : H := ⟨T.set T.leaf (.pur (pvR l) n te) 0, 16⟩
theorem law_key (te : TypeId) (l : Nat → Bool) (n : Nat) (K : AV → Prop) : xfun (CL3 te l n) Tryz.prog (xcode (CL3 te l n) Tryz.prog F) 4 [.slc 0 0 n n false 1] (hLaw te l n) [] (fun v _ _ => K v) =
    (bcase (ltI (Int.ofNat 60) (Int.ofNat n)) (K (.bool true)) ([AV.str nRt vRt] = [.str nRt vRt] ∧ ∃ _ : Unit, True ∧ (ls0R te l n).o0 = (ls0R te l n).o0 ∧
      (([AV.agg [.slc 16 0 2 2 false 6], .str 1 102, .slc 30 0 n n false 1] = [.agg [.slc 16 0 2 2 false 6], .str 1 102, .slc 30 0 n n false 1] ∧ (lfinR l n).h = (lfinR l n).h) ∧
        (([AV.slc n0R 0 n n false 1, .slc 31 0 n n false 1] = [.slc n0R 0 n n false 1, .slc 31 0 n n false 1] ∧ (finR l n (zbR l n)).h = (finR l n (zbR l n)).h) ∧ K (.bool true))))) := by kernel_rfl
theorem law_run (te : TypeId) {l : Nat → Bool} {n : Nat} (hn1 : 1 ≤ n) (hn : n ≤ 60) : Ran (xfun (CL3 te l n) Tryz.prog (xcode (CL3 te l n) Tryz.prog F) 4 [.slc 0 0 n n false 1] (hLaw te l n) [] (fun v _ _ => v = .bool true)) :=
  ⟨Eq.mpr (law_key te l n (fun v => v = .bool true)) (bcase_ff (by rw [ltI_eq]; simp; omega) ⟨rfl, (), trivial, rfl, ⟨rfl, rfl⟩, ⟨rfl, rfl⟩, rfl⟩)⟩
/-- more than sixty -/
theorem big_key (te : TypeId) (l : Nat → Bool) (n : Nat) (K : AV → Prop) : xfun CL1 Tryz.prog (xcode CL1 Tryz.prog F) 4 [.slc 0 0 n n false 1] (hLaw te l n) [true] (fun v _ _ => K v) = (bcase (dcq true (ltI (Int.ofNat 60) (Int.ofNat n))) (K (.bool true)) False) := by kernel_rfl
theorem big_run (te : TypeId) {l : Nat → Bool} {n : Nat} (hn : 60 < n) : Ran (xfun CL1 Tryz.prog (xcode CL1 Tryz.prog F) 4 [.slc 0 0 n n false 1] (hLaw te l n) [true] (fun v _ _ => v = .bool true)) :=
  ⟨Eq.mpr (big_key te l n (fun v => v = .bool true)) (bcase_tt (dcq_lt (by simp only [Int.ofNat_eq_natCast]; omega)) rfl)⟩
end
end Go.Proofs.YtkfhjobebhdpoaaGreat

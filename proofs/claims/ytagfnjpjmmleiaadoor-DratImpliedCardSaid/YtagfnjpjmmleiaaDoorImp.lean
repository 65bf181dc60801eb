/- Proved: for every formula and every clause, DratImplied answers true; and its input reads as it did. No condition but the row's own: the listed variables read as the program's text lays them, and the card ties that. -/
import Derived.Test.YtagfnjpjmmleiaaDoorImpA
set_option linter.unusedVariables false
set_option linter.unusedSimpArgs false
namespace Go.Proofs.YtagfnjpjmmleiaaDoor
open Go.ChangeShapes Go.WideShapes Go.ChangeAt Go.RowKit
set_option linter.unusedVariables false
theorem below_alloc0 {W W' : World} {c : Array Value} {e : TypeId} {fz : Nat × Nat} (hw : W.heap[0]? = some (.cells c e fz)) (hb : Below W.heap.size W W') : W'.heap[0]? = some (.cells c e fz) := by
  have h0 : 0 < W.heap.size := by
    by_cases h : 0 < W.heap.size
    · exact h
    · rw [Array.getElem?_eq_none (by omega)] at hw; cases hw
  exact (hb.block 0 h0).trans hw
theorem laidOut4 : laidOutB Tryd.prog = true := by kernel_rfl
set_option maxRecDepth 100000 in
theorem lifted (os : Os) (started : os.Started) (H : Type) (enc : TypeId × Value → H) :
    ReturnsInHanded {} Tryd.checked os 4 .any (fun w args => (Rows.dratImpliedSpec.pre enc Tryd.prog Tryd.f4 [] false w args ∧ laidMetH Tryd.prog laidL w) ∧ sizedMet enc Tryd.prog Tryd.f4 (OpenSpec.ofChange Rows.dratImpliedSpec) false w args)
      (Rows.dratImpliedSpec.post enc Tryd.prog Tryd.f4 false true false false) := by
  refine returnsInHanded_of_change_and (C := Tryd.checked) (X := fun w _ => laidMetH Tryd.prog laidL w) (fun _ _ _ hh h => h.of_heap hh) own started (by kernel_rfl) Tryd.func4
    (ChangeSpec.witness_shaped (enc := enc) (C := Tryd.checked) (os := os) (X := fun w _ => laidMetH Tryd.prog laidL w) false (World.doorLaid Tryd.prog 65 os) #[.agg #[.int .i64 0, .slice none 0 0], .slice none 0 0] 8 rfl (World.shaped_of_RefB (by kernel_rfl) (by kernel_rfl)) (by kernel_rfl) (by kernel_rfl) (by kernel_rfl) (door_met os _)) ?_
  intro W base args ds gs before hval0 hW _ hsz0 hL _
  have hval : ∀ (j : Nat) t v, Tryd.f4.params[j]? = some t → args[j]? = some v → Value.okWide Tryd.prog W .any base t v := hval0
  have hW' := hW
  have hsz : (DataW.weightsEach Tryd.prog (Tryd.f4.params.toList ++ Rows.dratImpliedSpec.plain.varTypes Tryd.prog) (ds ++ gs)).all (· ≤ reachBytes) = true := hsz0
  obtain ⟨p, q, hA0, hV, rfl, hfz, hnd⟩ := hW
  have hA : DataW.TrodAll enc Tryd.prog W 0 (fun _ => true) true Tryd.f4.params.toList args.toList ds p := hA0
  rw [Tryd.params4] at hA hval hsz
  obtain ⟨v0, vs0, d0, ds0, p0, q0, hargs, rfl, rfl, h0, r0⟩ := trodAll_cons hA
  obtain ⟨v1, vs1, d1, ds1, p1, q1, rfl, rfl, rfl, h1, r1⟩ := trodAll_cons r0
  obtain ⟨rfl, rfl, rfl⟩ := trodAll_nil r1
  obtain rfl : args = #[v0, v1] := by cases args; simp_all
  obtain ⟨rfl, rfl⟩ := trodVars_none hV
  have hs0 : ∀ n ∈ d0.weights Tryd.prog 24, n ≤ reachBytes := fun n hn => of_decide_eq_true (List.all_eq_true.1 hsz n (DataW.weights_mem_each (j := 0) rfl rfl n hn))
  have hs1 : ∀ n ∈ d1.weights Tryd.prog 33, n ≤ reachBytes := fun n hn => of_decide_eq_true (List.all_eq_true.1 hsz n (DataW.weights_mem_each (j := 1) rfl rfl n hn))
  obtain ⟨vars, a, n, c, cs, rfl, hn, hlen, hl, hz⟩ := form_open (hval 0 24 v0 rfl rfl) h0 hs0
  obtain ⟨la, ln, lc, zl, rfl, hln, hl9, hli⟩ := clause_open (hval 1 33 v1 rfl rfl) h1 hs1
  have hlt : ∀ x ∈ p0 ++ (p1 ++ []), x.block < W.heap.size := fun x hx => hW'.lt x (List.mem_append_left _ hx)
  obtain ⟨tc, te, tf, hw, hc⟩ := of_laid hL
  clear hA0 hval0
  simp only [List.append_nil] at hW' hlt
  refine (law4_walk a n c cs vars la ln lc zl W hn hlen hl hz hln hl9 hli (tab_at hw hc) (fun W1 hb => alive_call (below_alloc0 hw hb) hc)).mono fun e W' ⟨he, hg⟩ => ?_
  subst he
  refine ⟨_, rfl, post_quiet (pa := p0 ++ p1) (pv := []) hW' (fun _ _ _ => (trodAll_cons_mk (shut_bool Tryd.underlying4 _) trodAll_mk0)) (fun sp hsp => ?_) (fun _ _ => rfl) (by simp)
    (quiet_below hg) (ok_one (by kernel_rfl) rfl (okWide_bool_mk Tryd.underlying4 _))⟩
  exact trodAll_mk2 (WideElems.Trod_stays laidOut4 (by kernel_rfl) (of_decide_eq_true (by kernel_rfl)) h0 (fun x hx => same_below hg (hlt x (List.mem_append_left _ hx))) (fun x hx => hsp x (by simp [hx])))
    (WideElems.Trod_stays laidOut4 (by kernel_rfl) (of_decide_eq_true (by kernel_rfl)) h1 (fun x hx => same_below hg (hlt x (List.mem_append_right _ hx))) (fun x hx => hsp x (by simp [hx])))
theorem over : Rows.DratImpliedSaid :=
  OpenClaim.holds_of_wide 4 Tryd.f4 rfl rfl rfl rfl rfl rfl rfl ⟨rfl, rfl, rfl, rfl, rfl⟩ rfl rfl rfl rfl rfl (by kernel_rfl) Tryd.func4 (by kernel_rfl)
    (of_decide_eq_true (by kernel_rfl)) (by unfold Func.isWrapper; first | (rw [if_pos (by decide +kernel)]; kernel_rfl) | (rw [if_neg (by decide +kernel)]; exact ⟨rfl, rfl⟩))
    (fun os started H enc _ => lifted os started H enc)
/-- the statement -/
theorem dratImplied_card : Rows.DratImpliedCardSaid :=
  Claim7.holds_tied_plain_at .later [] [.data, .data, .data] true (true, "f7c6a09deb85292f0f7a4f3d481fbefc0cf33c9511ab3048a5989890288a003a") false
    over (fun _ h => by cases h) (by kernel_rfl) (fun _ h => by cases h) dratImplied_row_tie rfl ⟨rfl, rfl⟩ (by kernel_rfl) rfl
    (fun f fn hf hfn => by
      obtain rfl : f = 4 := Option.some.inj ((show Tryd.prog.funcNamed "metronome/metronomelaw24.DratImplied" = some 4 by kernel_rfl).symm.trans hf) |>.symm
      obtain rfl : fn = Tryd.f4 := (Option.some.inj (Tryd.func4.symm.trans hfn)).symm
      exact ⟨by kernel_rfl, fun j t ht => by
        rw [Tryd.params4] at ht
        have hm : t ∈ [24, 33] := by simpa using Array.mem_of_getElem? ht
        have hall : ([24, 33].all fun u => !Tryd.prog.wantsStandIn u) = true := by kernel_rfl
        exact (show Tryd.prog.wantsStandIn t = false by simpa using List.all_eq_true.1 hall t hm)⟩)
    (by kernel_rfl)
end Go.Proofs.YtagfnjpjmmleiaaDoor

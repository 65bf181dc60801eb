/- Proved: for every formula, every model and every proof, DratSound answers true; and its input reads as it did. No condition but the row's own: the listed variables read as the program's text lays them, and the card ties that. -/
import Derived.Test.YtagfnjpjmmleiaaDoorVC
import Derived.Test.YtagfnjpjmmleiaaDoorVB
import Derived.Test.YtagfnjpjmmleiaaDoorUG
set_option linter.unusedVariables false
set_option linter.unusedSimpArgs false
namespace Go.Proofs.YtagfnjpjmmleiaaDoor
open Go.ChangeShapes Go.WideShapes Go.ChangeAt Go.RowKit
set_option linter.unusedVariables false
theorem laidOut4 : laidOutB Tryd.prog = true := by kernel_rfl
set_option maxRecDepth 100000 in
theorem lifted (os : Os) (started : os.Started) (H : Type) (enc : TypeId × Value → H) :
    ReturnsInHanded {} Tryd.checked os 5 .any (fun w args => (Rows.dratSoundSpec.pre enc Tryd.prog Tryd.f5 [] false w args ∧ laidMetH Tryd.prog laidL w) ∧ sizedMet enc Tryd.prog Tryd.f5 (OpenSpec.ofChange Rows.dratSoundSpec) false w args)
      (Rows.dratSoundSpec.post enc Tryd.prog Tryd.f5 false true false false) := by
  refine returnsInHanded_of_change_and (C := Tryd.checked) (X := fun w _ => laidMetH Tryd.prog laidL w) (fun _ _ _ hh h => h.of_heap hh) own started (by kernel_rfl) Tryd.func5
    (ChangeSpec.witness_shaped (enc := enc) (C := Tryd.checked) (os := os) (X := fun w _ => laidMetH Tryd.prog laidL w) false (World.doorLaid Tryd.prog 65 os) #[.agg #[.int .i64 0, .slice none 0 0], .slice none 0 0, .slice none 0 0] 8 rfl (World.shaped_of_RefB (by kernel_rfl) (by kernel_rfl)) (by kernel_rfl) (by kernel_rfl) (by kernel_rfl) (door_met os _)) ?_
  intro W base args ds gs before hval0 hW _ hsz0 hL _
  have hval : ∀ (j : Nat) t v, Tryd.f5.params[j]? = some t → args[j]? = some v → Value.okWide Tryd.prog W .any base t v := hval0
  have hW' := hW
  have hsz : (DataW.weightsEach Tryd.prog (Tryd.f5.params.toList ++ Rows.dratSoundSpec.plain.varTypes Tryd.prog) (ds ++ gs)).all (· ≤ reachBytes) = true := hsz0
  obtain ⟨p, q, hA0, hV, rfl, hfz, hnd⟩ := hW
  have hA : DataW.TrodAll enc Tryd.prog W 0 (fun _ => true) true Tryd.f5.params.toList args.toList ds p := hA0
  rw [Tryd.params5] at hA hval hsz
  obtain ⟨v0, vs0, d0, ds0, p0, q0, hargs, rfl, rfl, h0, r0⟩ := trodAll_cons hA
  obtain ⟨v1, vs1, d1, ds1, p1, q1, rfl, rfl, rfl, h1, r1⟩ := trodAll_cons r0
  obtain ⟨v2, vs2, d2, ds2, p2, q2, rfl, rfl, rfl, h2, r2⟩ := trodAll_cons r1
  obtain ⟨rfl, rfl, rfl⟩ := trodAll_nil r2
  obtain rfl : args = #[v0, v1, v2] := by cases args; simp_all
  obtain ⟨rfl, rfl⟩ := trodVars_none hV
  have hs0 : ∀ n ∈ d0.weights Tryd.prog 24, n ≤ reachBytes := fun n hn => of_decide_eq_true (List.all_eq_true.1 hsz n (DataW.weights_mem_each (j := 0) rfl rfl n hn))
  have hs1 : ∀ n ∈ d1.weights Tryd.prog 44, n ≤ reachBytes := fun n hn => of_decide_eq_true (List.all_eq_true.1 hsz n (DataW.weights_mem_each (j := 1) rfl rfl n hn))
  have hs2 : ∀ n ∈ d2.weights Tryd.prog 25, n ≤ reachBytes := fun n hn => of_decide_eq_true (List.all_eq_true.1 hsz n (DataW.weights_mem_each (j := 2) rfl rfl n hn))
  obtain ⟨vars, a, n, c, cs, rfl, hn, hlen, hl, hz⟩ := form_open (hval 0 24 v0 rfl rfl) h0 hs0
  obtain ⟨am, nm, cm, ms, rfl, hnm, hnl, hms⟩ := model_open (hval 1 44 v1 rfl rfl) h1 hs1
  obtain ⟨pa, pn, pc, ls, rfl, hpn, hp9, hpl, hpz⟩ := lines_open (hval 2 25 v2 rfl rfl) h2 hs2
  have hlt : ∀ x ∈ p0 ++ (p1 ++ (p2 ++ [])), x.block < W.heap.size := fun x hx => hW'.lt x (List.mem_append_left _ hx)
  obtain ⟨tc, te, tf, hw, hc⟩ := of_laid hL
  clear hA0 hval0
  simp only [List.append_nil] at hW' hlt
  refine (law5_walk a n c cs vars am nm cm ms pa pn pc ls W hn hlen hl hz hnm hnl hms hpn hp9 hpl hpz (tab_at hw hc) (fun W1 hb => alive_walk W1 ((tab_at hw hc).grow hb))).mono fun e W' ⟨he, hg⟩ => ?_
  subst he
  refine ⟨_, rfl, post_below (pa := p0 ++ (p1 ++ p2)) (pv := []) hW' (fun _ _ _ => (trodAll_cons_mk (shut_bool Tryd.underlying4 _) trodAll_mk0)) (fun sp hsp => ?_) (fun _ _ => rfl) (by simp)
    hg (ok_one (by kernel_rfl) rfl (okWide_bool_mk Tryd.underlying4 _))⟩
  exact trodAll_mk3 (WideElems.Trod_stays laidOut4 (by kernel_rfl) (of_decide_eq_true (by kernel_rfl)) h0 (fun x hx => same_below hg (hlt x (List.mem_append_left _ hx))) (fun x hx => hsp x (by simp [hx])))
    (WideElems.Trod_stays laidOut4 (by kernel_rfl) (of_decide_eq_true (by kernel_rfl)) h1 (fun x hx => same_below hg (hlt x (List.mem_append_right _ (List.mem_append_left _ hx)))) (fun x hx => hsp x (by simp [hx])))
    (WideElems.Trod_stays laidOut4 (by kernel_rfl) (of_decide_eq_true (by kernel_rfl)) h2 (fun x hx => same_below hg (hlt x (List.mem_append_right _ (List.mem_append_right _ hx)))) (fun x hx => hsp x (by simp [hx])))
theorem over : Rows.DratSoundSaid :=
  OpenClaim.holds_of_wide 5 Tryd.f5 rfl rfl rfl rfl rfl rfl rfl ⟨rfl, rfl, rfl, rfl, rfl⟩ rfl rfl rfl rfl rfl (by kernel_rfl) Tryd.func5 (by kernel_rfl)
    (of_decide_eq_true (by kernel_rfl)) (by unfold Func.isWrapper; first | (rw [if_pos (by decide +kernel)]; kernel_rfl) | (rw [if_neg (by decide +kernel)]; exact ⟨rfl, rfl⟩))
    (fun os started H enc _ => lifted os started H enc)
/-- the statement -/
theorem dratSound_card : Rows.DratSoundCardSaid :=
  Claim7.holds_tied_plain_at .later [] [.data, .data, .data] true (true, "f7c6a09deb85292f0f7a4f3d481fbefc0cf33c9511ab3048a5989890288a003a") false
    over (fun _ h => by cases h) (by kernel_rfl) (fun _ h => by cases h) dratSound_row_tie rfl ⟨rfl, rfl⟩ (by kernel_rfl) rfl
    (fun f fn hf hfn => by
      obtain rfl : f = 5 := Option.some.inj ((show Tryd.prog.funcNamed "metronome/metronomelaw24.DratSound" = some 5 by kernel_rfl).symm.trans hf) |>.symm
      obtain rfl : fn = Tryd.f5 := (Option.some.inj (Tryd.func5.symm.trans hfn)).symm
      exact ⟨by kernel_rfl, fun j t ht => by
        rw [Tryd.params5] at ht
        have hm : t ∈ [24, 44, 25] := by simpa using Array.mem_of_getElem? ht
        have hall : ([24, 44, 25].all fun u => !Tryd.prog.wantsStandIn u) = true := by kernel_rfl
        exact (show Tryd.prog.wantsStandIn t = false by simpa using List.all_eq_true.1 hall t hm)⟩)
    (by kernel_rfl)
end Go.Proofs.YtagfnjpjmmleiaaDoor

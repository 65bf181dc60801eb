/- Proved: for every list of truth values, StreamDeep answers true; and its input reads as it did. No condition. -/
import Derived.Test.YtkfhjobebhdpoaaGreatZ
import Derived.Test.YtkfhjobebhdpoaaGreatDC
import Derived.Test.YtkfhjobebhdpoaaGreatJD
set_option linter.unusedVariables false
set_option autoImplicit false
set_option linter.unusedVariables false
set_option maxRecDepth 100000
namespace Go.Proofs.YtkfhjobebhdpoaaGreat
open Go.ChangeShapes Go.WideShapes Go.ChangeAt Go.RowKit Go.ChangeMaps
theorem lawD_none (a : Option Addr) (c : Nat) {W : World} : Calls Tryz.prog 9 #[.slice a 0 c] W fun e w' => e = .returned (.bool true) ∧ Go.X.Quiet W w' := by
  refine (Go.X.xrun_nil CL0D_good.ok CL0D_good.spl rfl law0D_run (args := [.emp]) (args' := #[.slice a 0 c]) (.cons _ _ _ _ (.emp _ _) .nil) W).mono ?_
  rintro e w' ⟨v, v', L', rfl, rfl, r, q⟩
  cases r
  exact ⟨rfl, q⟩
theorem lawD_call {a : Addr} {len cap : Nat} {B : Nat → Bool} (h0 : 0 < len) (hlen : len ≤ cap) {W : World} (hw : ∀ i, i < cap → W.cell? (a.add i) = some (.bool (B i))) :
    Calls Tryz.prog 9 #[.slice (some a) len cap] W fun e w' => e = .returned (.bool true) ∧ Go.X.Quiet W w' := by
  obtain ⟨s1, b1, c1, e1, fz1, w1, z1, q1⟩ := slice_cells (f := fun i => .bool (B i)) (by omega) hw
  have hv : Go.X.RVs (L1 (some (Go.X.Loc.mk a.block a.off c1.size))) [Go.X.AV.slc 0 0 len len false 1] (#[Value.slice (some a) len cap] : Array Value).toList := by
    refine .cons _ _ _ _ ?_ .nil
    have := Go.X.RV.slc (L := L1 (some (Go.X.Loc.mk a.block a.off c1.size))) 0 0 len len false 1 (Go.X.Loc.mk a.block a.off c1.size) cap rfl hlen (Nat.le_refl _) (fun h => by cases h) (by show a.off + 0 + cap * 1 ≤ c1.size; omega)
    rw [addr_eta s1]; exact this
  by_cases hn : len ≤ 60
  · exact call_of (CL3D_good e1 (l := B) (n := len) h0 hn) rfl (rhB (N := 1) (by decide) (P0 := pvB B) (fun _ => rfl) w1 (by omega) (fun k hk => q1 k (by omega))) roB (lawD_run e1 h0 hn) hv
  · exact call_of CL1D_good rfl (rhB (N := 1) (by decide) (P0 := pvB B) (fun _ => rfl) w1 (by omega) (fun k hk => q1 k (by omega))) roB (bigD_run e1 (l := B) (by omega)) hv
set_option maxRecDepth 100000 in
theorem liftedD (os : Os) (started : os.Started) (H : Type) (enc : TypeId × Value → H) :
    ReturnsInHanded {} Tryz.checked os 9 .any (Rows.streamDeepSpec.pre6 enc Tryz.prog Tryz.f9 Rows.streamDeepRow.domain false) (Rows.streamDeepSpec.post enc Tryz.prog Tryz.f9 false true false false) := by
  refine returnsInHanded_of_change (C := Tryz.checked) own started (by kernel_rfl) Tryz.func9
    (ChangeSpec.witness6 (enc := enc) (C := Tryz.checked) false ⟨#[], #[.slice none 0 0], []⟩ 8 (by kernel_rfl) (by kernel_rfl) (by kernel_rfl) (by kernel_rfl)) ?_
  intro W base args ds gs before hval0 hW hcnd _
  have hval : ∀ (j : Nat) t v, Tryz.f9.params[j]? = some t → args[j]? = some v → Value.okWide Tryz.prog W .any base t v := hval0
  have hW' := hW
  obtain ⟨p, q, hA0, hV, rfl, hfz, hnd⟩ := hW
  have hA : DataW.TrodAll enc Tryz.prog W 0 (fun _ => true) true Tryz.f9.params.toList args.toList ds p := hA0
  rw [Tryz.params9] at hA hval
  obtain ⟨v0, vs0, d0, ds0, p0, q0, hargs, rfl, rfl, h0, r0⟩ := trodAll_cons hA
  obtain ⟨rfl, rfl, rfl⟩ := trodAll_nil r0
  obtain rfl : args = #[v0] := by cases args; simp_all
  obtain ⟨rfl, rfl⟩ := trodVars_none hV
  obtain ⟨a0, len, cap, rfl⟩ := Go.WideShapes.okWide_slice Tryz.underlying37 (hval 0 37 v0 rfl rfl)
  have h0k := h0
  obtain ⟨fu0, hf0⟩ := h0
  have hcall : Calls Tryz.prog 9 #[.slice a0 len cap] W fun e w' => e = .returned (.bool true) ∧ Go.X.Quiet W w' := by
    rcases Go.Deep.open_bools Tryz.underlying37 Tryz.underlying4 (by kernel_rfl) hf0 with ⟨hcs, _⟩ | ⟨a, l1, c1, B, hcs, _, hl1, _, _, hcell⟩
    · have e : Value.slice a0 len cap = .slice none 0 0 := by simpa [Value.cells] using hcs
      rw [e]; exact lawD_none _ _
    · have e : Value.slice a0 len cap = .slice (some a) l1 c1 := by simpa [Value.cells] using hcs
      rw [e]
      rcases Nat.eq_zero_or_pos l1 with hz0 | hz0
      · subst hz0; exact lawD_none _ _
      · exact lawD_call hz0 hl1 (fun i hi => hcell i hi)
  clear hA0 hval0
  simp only [List.append_nil] at hW'
  refine hcall.mono fun e W' ⟨he, hg⟩ => ?_
  subst he
  have hb : Below W.heap.size W W' := ⟨hg.os, hg.tape, hg.output, hg.size, fun k hk => hg.keep k hk⟩
  have hlt : ∀ p ∈ p0, p.block < W.heap.size := fun p hp => hW'.lt p hp
  refine ⟨_, rfl, post_quiet (pa := p0 ++ []) (pv := []) hW' (fun _ _ _ => (trodAll_cons_mk (shut_bool Tryz.underlying4 _) trodAll_mk0)) (fun sp hsp => ?_) (fun _ _ => rfl) (by simp)
    hg (ok_one (by kernel_rfl) rfl (okWide_bool_mk Tryz.underlying4 _))⟩
  have t0 := Go.WideElems.Trod_stays (sp' := sp) laidOut (by kernel_rfl) (of_decide_eq_true (by kernel_rfl)) h0k (fun x hx => hb.same (hlt x hx)) (fun x hx => hsp x hx)
  exact trodAll_cons_mk t0 trodAll_mk0
theorem overD : Rows.streamDeepRow.holds Tryz.pinned (OpenSpec.ofChange Rows.streamDeepSpec) :=
  OpenClaim.holds_of_wide 9 Tryz.f9 rfl rfl rfl rfl rfl rfl rfl ⟨rfl, rfl, rfl, rfl, rfl⟩ rfl rfl rfl rfl rfl (by kernel_rfl) Tryz.func9 rjfD
    (of_decide_eq_true (by kernel_rfl)) (by unfold Func.isWrapper; first | (rw [if_pos (by decide +kernel)]; kernel_rfl) | (rw [if_neg (by decide +kernel)]; exact ⟨rfl, rfl⟩))
    (fun os started H enc _ => liftedD os started H enc)
/-- the statement -/
theorem streamDeep_holds : Rows.StreamDeepSaid := overD
#print axioms streamDeep_holds
end Go.Proofs.YtkfhjobebhdpoaaGreat

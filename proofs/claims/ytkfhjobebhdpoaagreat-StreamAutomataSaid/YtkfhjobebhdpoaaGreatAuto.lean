/- Proved: for every list of truth values, and either choice of going on and of how it is left, StreamAutomata answers true; and its input reads as it did. No condition. -/
import Derived.Test.YtkfhjobebhdpoaaGreatZ
import Derived.Test.YtkfhjobebhdpoaaGreatPB
import Derived.Test.YtkfhjobebhdpoaaGreatQB
import Derived.Test.YtkfhjobebhdpoaaGreatTB
import Derived.Test.YtkfhjobebhdpoaaGreatUB
import Derived.Test.YtkfhjobebhdpoaaGreatJA
set_option linter.unusedVariables false
set_option autoImplicit false
set_option linter.unusedVariables false
set_option maxRecDepth 100000
namespace Go.Proofs.YtkfhjobebhdpoaaGreat
open Go.ChangeShapes Go.WideShapes Go.ChangeAt Go.RowKit Go.ChangeMaps
theorem lawP_none (a : Option Addr) (c : Nat) {W : World} : Calls Tryz.prog 6 #[.slice a 0 c, .bool false, .bool false] W fun e w' => e = .returned (.bool true) ∧ Go.X.Quiet W w' := by
  refine (Go.X.xrun_nil CL0P_good.ok CL0P_good.spl rfl law0P_run (args := [.emp, .bool false, .bool false]) (args' := #[.slice a 0 c, .bool false, .bool false]) (.cons _ _ _ _ (.emp _ _) (.cons _ _ _ _ (.bool _) (.cons _ _ _ _ (.bool _) .nil))) W).mono ?_
  rintro e w' ⟨v, v', L', rfl, rfl, r, q⟩
  cases r
  exact ⟨rfl, q⟩
theorem lawP_call {a : Addr} {len cap : Nat} {B : Nat → Bool} (h0 : 0 < len) (hlen : len ≤ cap) {W : World} (hw : ∀ i, i < cap → W.cell? (a.add i) = some (.bool (B i))) :
    Calls Tryz.prog 6 #[.slice (some a) len cap, .bool false, .bool false] W fun e w' => e = .returned (.bool true) ∧ Go.X.Quiet W w' := by
  obtain ⟨s1, b1, c1, e1, fz1, w1, z1, q1⟩ := slice_cells (f := fun i => .bool (B i)) (by omega) hw
  have hv : Go.X.RVs (L1 (some (Go.X.Loc.mk a.block a.off c1.size))) [Go.X.AV.slc 0 0 len len false 1, .bool false, .bool false] (#[Value.slice (some a) len cap, .bool false, .bool false] : Array Value).toList := by
    refine .cons _ _ _ _ ?_ (.cons _ _ _ _ (.bool _) (.cons _ _ _ _ (.bool _) .nil))
    have := Go.X.RV.slc (L := L1 (some (Go.X.Loc.mk a.block a.off c1.size))) 0 0 len len false 1 (Go.X.Loc.mk a.block a.off c1.size) cap rfl hlen (Nat.le_refl _) (fun h => by cases h) (by show a.off + 0 + cap * 1 ≤ c1.size; omega)
    rw [addr_eta s1]; exact this
  by_cases hn : len ≤ 60
  · exact call_of (CL3P_good e1 (l := B) (n := len) h0 hn) rfl (rhB (N := 8) (by decide) (P0 := pvB B) (fun _ => rfl) w1 (by omega) (fun k hk => q1 k (by omega))) roB (lawP_run e1 h0 hn) hv
  · exact call_of CL1P_good rfl (rhB (N := 8) (by decide) (P0 := pvB B) (fun _ => rfl) w1 (by omega) (fun k hk => q1 k (by omega))) roB (bigP_run e1 (l := B) (by omega)) hv
theorem lawQ_none (a : Option Addr) (c : Nat) {W : World} : Calls Tryz.prog 6 #[.slice a 0 c, .bool true, .bool false] W fun e w' => e = .returned (.bool true) ∧ Go.X.Quiet W w' := by
  refine (Go.X.xrun_nil CL0Q_good.ok CL0Q_good.spl rfl law0Q_run (args := [.emp, .bool true, .bool false]) (args' := #[.slice a 0 c, .bool true, .bool false]) (.cons _ _ _ _ (.emp _ _) (.cons _ _ _ _ (.bool _) (.cons _ _ _ _ (.bool _) .nil))) W).mono ?_
  rintro e w' ⟨v, v', L', rfl, rfl, r, q⟩
  cases r
  exact ⟨rfl, q⟩
theorem lawQ_call {a : Addr} {len cap : Nat} {B : Nat → Bool} (h0 : 0 < len) (hlen : len ≤ cap) {W : World} (hw : ∀ i, i < cap → W.cell? (a.add i) = some (.bool (B i))) :
    Calls Tryz.prog 6 #[.slice (some a) len cap, .bool true, .bool false] W fun e w' => e = .returned (.bool true) ∧ Go.X.Quiet W w' := by
  obtain ⟨s1, b1, c1, e1, fz1, w1, z1, q1⟩ := slice_cells (f := fun i => .bool (B i)) (by omega) hw
  have hv : Go.X.RVs (L1 (some (Go.X.Loc.mk a.block a.off c1.size))) [Go.X.AV.slc 0 0 len len false 1, .bool true, .bool false] (#[Value.slice (some a) len cap, .bool true, .bool false] : Array Value).toList := by
    refine .cons _ _ _ _ ?_ (.cons _ _ _ _ (.bool _) (.cons _ _ _ _ (.bool _) .nil))
    have := Go.X.RV.slc (L := L1 (some (Go.X.Loc.mk a.block a.off c1.size))) 0 0 len len false 1 (Go.X.Loc.mk a.block a.off c1.size) cap rfl hlen (Nat.le_refl _) (fun h => by cases h) (by show a.off + 0 + cap * 1 ≤ c1.size; omega)
    rw [addr_eta s1]; exact this
  by_cases hn : len ≤ 60
  · exact call_of (CL3Q_good e1 (l := B) (n := len) h0 hn) rfl (rhB (N := 8) (by decide) (P0 := pvB B) (fun _ => rfl) w1 (by omega) (fun k hk => q1 k (by omega))) roB (lawQ_run e1 h0 hn) hv
  · exact call_of CL1Q_good rfl (rhB (N := 8) (by decide) (P0 := pvB B) (fun _ => rfl) w1 (by omega) (fun k hk => q1 k (by omega))) roB (bigQ_run e1 (l := B) (by omega)) hv
theorem lawT_none (a : Option Addr) (c : Nat) {W : World} : Calls Tryz.prog 6 #[.slice a 0 c, .bool false, .bool true] W fun e w' => e = .returned (.bool true) ∧ Go.X.Quiet W w' := by
  refine (Go.X.xrun_nil CL0T_good.ok CL0T_good.spl rfl law0T_run (args := [.emp, .bool false, .bool true]) (args' := #[.slice a 0 c, .bool false, .bool true]) (.cons _ _ _ _ (.emp _ _) (.cons _ _ _ _ (.bool _) (.cons _ _ _ _ (.bool _) .nil))) W).mono ?_
  rintro e w' ⟨v, v', L', rfl, rfl, r, q⟩
  cases r
  exact ⟨rfl, q⟩
theorem lawT_call {a : Addr} {len cap : Nat} {B : Nat → Bool} (h0 : 0 < len) (hlen : len ≤ cap) {W : World} (hw : ∀ i, i < cap → W.cell? (a.add i) = some (.bool (B i))) :
    Calls Tryz.prog 6 #[.slice (some a) len cap, .bool false, .bool true] W fun e w' => e = .returned (.bool true) ∧ Go.X.Quiet W w' := by
  obtain ⟨s1, b1, c1, e1, fz1, w1, z1, q1⟩ := slice_cells (f := fun i => .bool (B i)) (by omega) hw
  have hv : Go.X.RVs (L1 (some (Go.X.Loc.mk a.block a.off c1.size))) [Go.X.AV.slc 0 0 len len false 1, .bool false, .bool true] (#[Value.slice (some a) len cap, .bool false, .bool true] : Array Value).toList := by
    refine .cons _ _ _ _ ?_ (.cons _ _ _ _ (.bool _) (.cons _ _ _ _ (.bool _) .nil))
    have := Go.X.RV.slc (L := L1 (some (Go.X.Loc.mk a.block a.off c1.size))) 0 0 len len false 1 (Go.X.Loc.mk a.block a.off c1.size) cap rfl hlen (Nat.le_refl _) (fun h => by cases h) (by show a.off + 0 + cap * 1 ≤ c1.size; omega)
    rw [addr_eta s1]; exact this
  by_cases hn : len ≤ 60
  · exact call_of (CL3T_good e1 (l := B) (n := len) h0 hn) rfl (rhB (N := 8) (by decide) (P0 := pvB B) (fun _ => rfl) w1 (by omega) (fun k hk => q1 k (by omega))) roB (lawT_run e1 h0 hn) hv
  · exact call_of CL1T_good rfl (rhB (N := 8) (by decide) (P0 := pvB B) (fun _ => rfl) w1 (by omega) (fun k hk => q1 k (by omega))) roB (bigT_run e1 (l := B) (by omega)) hv
theorem lawU_none (a : Option Addr) (c : Nat) {W : World} : Calls Tryz.prog 6 #[.slice a 0 c, .bool true, .bool true] W fun e w' => e = .returned (.bool true) ∧ Go.X.Quiet W w' := by
  refine (Go.X.xrun_nil CL0U_good.ok CL0U_good.spl rfl law0U_run (args := [.emp, .bool true, .bool true]) (args' := #[.slice a 0 c, .bool true, .bool true]) (.cons _ _ _ _ (.emp _ _) (.cons _ _ _ _ (.bool _) (.cons _ _ _ _ (.bool _) .nil))) W).mono ?_
  rintro e w' ⟨v, v', L', rfl, rfl, r, q⟩
  cases r
  exact ⟨rfl, q⟩
theorem lawU_call {a : Addr} {len cap : Nat} {B : Nat → Bool} (h0 : 0 < len) (hlen : len ≤ cap) {W : World} (hw : ∀ i, i < cap → W.cell? (a.add i) = some (.bool (B i))) :
    Calls Tryz.prog 6 #[.slice (some a) len cap, .bool true, .bool true] W fun e w' => e = .returned (.bool true) ∧ Go.X.Quiet W w' := by
  obtain ⟨s1, b1, c1, e1, fz1, w1, z1, q1⟩ := slice_cells (f := fun i => .bool (B i)) (by omega) hw
  have hv : Go.X.RVs (L1 (some (Go.X.Loc.mk a.block a.off c1.size))) [Go.X.AV.slc 0 0 len len false 1, .bool true, .bool true] (#[Value.slice (some a) len cap, .bool true, .bool true] : Array Value).toList := by
    refine .cons _ _ _ _ ?_ (.cons _ _ _ _ (.bool _) (.cons _ _ _ _ (.bool _) .nil))
    have := Go.X.RV.slc (L := L1 (some (Go.X.Loc.mk a.block a.off c1.size))) 0 0 len len false 1 (Go.X.Loc.mk a.block a.off c1.size) cap rfl hlen (Nat.le_refl _) (fun h => by cases h) (by show a.off + 0 + cap * 1 ≤ c1.size; omega)
    rw [addr_eta s1]; exact this
  by_cases hn : len ≤ 60
  · exact call_of (CL3U_good e1 (l := B) (n := len) h0 hn) rfl (rhB (N := 8) (by decide) (P0 := pvB B) (fun _ => rfl) w1 (by omega) (fun k hk => q1 k (by omega))) roB (lawU_run e1 h0 hn) hv
  · exact call_of CL1U_good rfl (rhB (N := 8) (by decide) (P0 := pvB B) (fun _ => rfl) w1 (by omega) (fun k hk => q1 k (by omega))) roB (bigU_run e1 (l := B) (by omega)) hv
theorem lawA_none (a : Option Addr) (c : Nat) (x y : Bool) {W : World} : Calls Tryz.prog 6 #[.slice a 0 c, .bool x, .bool y] W fun e w' => e = .returned (.bool true) ∧ Go.X.Quiet W w' := by
  cases x <;> cases y
  · exact lawP_none a c
  · exact lawT_none a c
  · exact lawQ_none a c
  · exact lawU_none a c
theorem lawA_call {a : Addr} {len cap : Nat} {B : Nat → Bool} (x y : Bool) (h0 : 0 < len) (hlen : len ≤ cap) {W : World} (hw : ∀ i, i < cap → W.cell? (a.add i) = some (.bool (B i))) :
    Calls Tryz.prog 6 #[.slice (some a) len cap, .bool x, .bool y] W fun e w' => e = .returned (.bool true) ∧ Go.X.Quiet W w' := by
  cases x <;> cases y
  · exact lawP_call h0 hlen hw
  · exact lawT_call h0 hlen hw
  · exact lawQ_call h0 hlen hw
  · exact lawU_call h0 hlen hw
set_option maxRecDepth 100000 in
theorem liftedA (os : Os) (started : os.Started) (H : Type) (enc : TypeId × Value → H) :
    ReturnsInHanded {} Tryz.checked os 6 .any (Rows.streamAutomataSpec.pre6 enc Tryz.prog Tryz.f6 Rows.streamAutomataRow.domain false) (Rows.streamAutomataSpec.post enc Tryz.prog Tryz.f6 false true false false) := by
  refine returnsInHanded_of_change (C := Tryz.checked) own started (by kernel_rfl) Tryz.func6
    (ChangeSpec.witness6 (enc := enc) (C := Tryz.checked) false ⟨#[], #[.slice none 0 0, .bool false, .bool false], []⟩ 8 (by kernel_rfl) (by kernel_rfl) (by kernel_rfl) (by kernel_rfl)) ?_
  intro W base args ds gs before hval0 hW hcnd _
  have hval : ∀ (j : Nat) t v, Tryz.f6.params[j]? = some t → args[j]? = some v → Value.okWide Tryz.prog W .any base t v := hval0
  have hW' := hW
  obtain ⟨p, q, hA0, hV, rfl, hfz, hnd⟩ := hW
  have hA : DataW.TrodAll enc Tryz.prog W 0 (fun _ => true) true Tryz.f6.params.toList args.toList ds p := hA0
  rw [Tryz.params6] at hA hval
  obtain ⟨v0, vs0, d0, ds0, p0, q0, hargs, rfl, rfl, h0, r0⟩ := trodAll_cons hA
  obtain ⟨v1, vs1, d1, ds1, p1, q1, rfl, rfl, rfl, h1, r1⟩ := trodAll_cons r0
  obtain ⟨v2, vs2, d2, ds2, p2, q2, rfl, rfl, rfl, h2, r2⟩ := trodAll_cons r1
  obtain ⟨rfl, rfl, rfl⟩ := trodAll_nil r2
  obtain rfl : args = #[v0, v1, v2] := by cases args; simp_all
  obtain ⟨rfl, rfl⟩ := trodVars_none hV
  obtain ⟨a0, len, cap, rfl⟩ := Go.WideShapes.okWide_slice Tryz.underlying37 (hval 0 37 v0 rfl rfl)
  obtain ⟨x, rfl, rfl, rfl⟩ := open_bool Tryz.underlying4 (hval 1 4 v1 rfl rfl) h1
  obtain ⟨y, rfl, rfl, rfl⟩ := open_bool Tryz.underlying4 (hval 2 4 v2 rfl rfl) h2
  have h0k := h0
  obtain ⟨fu0, hf0⟩ := h0
  have hcall : Calls Tryz.prog 6 #[.slice a0 len cap, .bool x, .bool y] W fun e w' => e = .returned (.bool true) ∧ Go.X.Quiet W w' := by
    rcases Go.Deep.open_bools Tryz.underlying37 Tryz.underlying4 (by kernel_rfl) hf0 with ⟨hcs, _⟩ | ⟨a, l1, c1, B, hcs, _, hl1, _, _, hcell⟩
    · have e : Value.slice a0 len cap = .slice none 0 0 := by simpa [Value.cells] using hcs
      rw [e]; exact lawA_none _ _ _ _
    · have e : Value.slice a0 len cap = .slice (some a) l1 c1 := by simpa [Value.cells] using hcs
      rw [e]
      rcases Nat.eq_zero_or_pos l1 with hz0 | hz0
      · subst hz0; exact lawA_none _ _ _ _
      · exact lawA_call _ _ hz0 hl1 (fun i hi => hcell i hi)
  clear hA0 hval0
  simp only [List.append_nil] at hW'
  refine hcall.mono fun e W' ⟨he, hg⟩ => ?_
  subst he
  have hb : Below W.heap.size W W' := ⟨hg.os, hg.tape, hg.output, hg.size, fun k hk => hg.keep k hk⟩
  have hlt : ∀ p ∈ p0, p.block < W.heap.size := fun p hp => hW'.lt p hp
  refine ⟨_, rfl, post_quiet (pa := p0 ++ []) (pv := []) hW' (fun _ _ _ => (trodAll_cons_mk (shut_bool Tryz.underlying4 _) trodAll_mk0)) (fun sp hsp => ?_) (fun _ _ => rfl) (by simp)
    hg (ok_one (by kernel_rfl) rfl (okWide_bool_mk Tryz.underlying4 _))⟩
  have t0 := Go.WideElems.Trod_stays (sp' := sp) laidOut (by kernel_rfl) (of_decide_eq_true (by kernel_rfl)) h0k (fun x hx => hb.same (hlt x hx)) (fun x hx => hsp x hx)
  exact trodAll_cons_mk t0 (trodAll_cons_mk (shut_bool Tryz.underlying4 x) (trodAll_cons_mk (shut_bool Tryz.underlying4 y) trodAll_mk0))
theorem overA : Rows.streamAutomataRow.holds Tryz.pinned (OpenSpec.ofChange Rows.streamAutomataSpec) :=
  OpenClaim.holds_of_wide 6 Tryz.f6 rfl rfl rfl rfl rfl rfl rfl ⟨rfl, rfl, rfl, rfl, rfl⟩ rfl rfl rfl rfl rfl (by kernel_rfl) Tryz.func6 rjfA
    (of_decide_eq_true (by kernel_rfl)) (by unfold Func.isWrapper; first | (rw [if_pos (by decide +kernel)]; kernel_rfl) | (rw [if_neg (by decide +kernel)]; exact ⟨rfl, rfl⟩))
    (fun os started H enc _ => liftedA os started H enc)
/-- the statement -/
theorem streamAutomata_holds : Rows.StreamAutomataSaid := overA
#print axioms streamAutomata_holds
end Go.Proofs.YtkfhjobebhdpoaaGreat

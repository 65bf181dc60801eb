/- Proved: for every kind and number, LexNumbers answers true; and its input reads as it did. No condition but the row's own: the listed variables read as the program's text lays them, and the card ties that. -/
import Derived.Test.YtoeoaiipchklbaaDoorCards
import Derived.Test.YtoeoaiipchklbaaDoorZ
import Derived.Test.YtoeoaiipchklbaaDoorN2
set_option linter.unusedVariables false
namespace Go.Proofs.YtoeoaiipchklbaaDoor
open Go.ChangeShapes Go.WideShapes Go.ChangeAt Go.RowKit
set_option linter.unusedVariables false
/-- a law's run, over what is laid, where decisions are given -/
theorem law_callD {C : Go.X.Cfg} (G : Go.X.Good C Tryd.prog) (hgl : C.gl = glA) {f : Nat} {args : List Go.X.AV} {V : Go.X.AV} {ds : List Bool} {W : World} (hl : laidMetH Tryd.prog laidL W)
    (hk : ∀ e, Go.X.Ran (Go.X.xfun C Tryd.prog (Go.X.xcode C Tryd.prog F) f args (hA e) ds (fun v _ _ => v = .bool true))) {args' : Array Value} (hargs : Go.X.RVs L0 args args'.toList) :
    Calls Tryd.prog f args' W fun e w' => e = .returned (.bool true) ∧ Go.X.Quiet W w' := by
  obtain ⟨c, e, fz, hw, hc⟩ := of_laid hl
  refine (Go.X.xrun_ro G.ok G.spl (hk e) (rh0 hw hc) ro0 (by rw [hgl]; exact rg0) hargs).mono ?_
  rintro e w' ⟨v, v', L', rfl, rfl, r, q⟩
  cases r
  exact ⟨rfl, q⟩
theorem wfl {n : Int} (h : (Lit.int .i64 n).wf = true) : -9223372036854775808 ≤ n := by
  simp [Lit.wf, IntKind.min, IntKind.max, IntKind.signed, IntKind.bits] at h; omega
theorem wfu {n : Int} (h : (Lit.int .i64 n).wf = true) : n < 9223372036854775808 := by
  simp [Lit.wf, IntKind.min, IntKind.max, IntKind.signed, IntKind.bits] at h; omega
theorem numbers_call (a0 a1 : Int) (h1 : -9223372036854775808 ≤ a1) (h2 : a1 < 9223372036854775808) {W : World} (hl : laidMetH Tryd.prog laidL W) : Calls Tryd.prog 4 #[.int .i64 a0, .int .i64 a1] W fun e w' => e = .returned (.bool true) ∧ Go.X.Quiet W w' := by
  obtain ⟨n0, v0, cells0, g1, g2, g3⟩ := numAny (k := a0) h1 h2
  exact law_callD (V := .bool true) (goodCN g1 g2) rfl hl g3 (args := [.int .i64 a0, .int .i64 a1]) (.cons _ _ _ _ (.int _ _) (.cons _ _ _ _ (.int _ _) .nil))
set_option maxRecDepth 100000 in
theorem lifted (os : Os) (started : os.Started) (H : Type) (enc : TypeId × Value → H) :
    ReturnsInHanded {} Tryd.checked os 4 .any (fun w args => (Rows.lexNumbersSpec.pre enc Tryd.prog Tryd.f4 [] false w args ∧ laidMetH Tryd.prog laidL w) ∧ sizedMet enc Tryd.prog Tryd.f4 (OpenSpec.ofChange Rows.lexNumbersSpec) false w args)
      (Rows.lexNumbersSpec.post enc Tryd.prog Tryd.f4 false true false false) := by
  refine returnsInHanded_of_change_and (C := Tryd.checked) (X := fun w _ => laidMetH Tryd.prog laidL w) (fun _ _ _ hh h => h.of_heap hh) own started (by kernel_rfl) Tryd.func4
    (ChangeSpec.witness_shaped (enc := enc) (C := Tryd.checked) (os := os) (X := fun w _ => laidMetH Tryd.prog laidL w) false (World.doorLaid Tryd.prog 33 os) #[.int .i64 0, .int .i64 0] 8 rfl (World.shaped_of_RefB (by kernel_rfl) (by kernel_rfl)) (by kernel_rfl) (by kernel_rfl) (by kernel_rfl) (door_met os _)) ?_
  intro W base args ds gs before hval0 hW _ _ hL _
  have hval : ∀ (j : Nat) t v, Tryd.f4.params[j]? = some t → args[j]? = some v → Value.okWide Tryd.prog W .any base t v := hval0
  have hW' := hW
  obtain ⟨p, q, hA0, hV, rfl, hfz, hnd⟩ := hW
  have hA : DataW.TrodAll enc Tryd.prog W 0 (fun _ => true) true Tryd.f4.params.toList args.toList ds p := hA0
  rw [Tryd.params4] at hA hval
  obtain ⟨v0, vs0, d0, ds0, p0, q0, hargs, rfl, rfl, h0, r0⟩ := trodAll_cons hA
  obtain ⟨v1, vs1, d1, ds1, p1, q1, rfl, rfl, rfl, h1, r1⟩ := trodAll_cons r0
  obtain ⟨rfl, rfl, rfl⟩ := trodAll_nil r1
  obtain rfl : args = #[v0, v1] := by cases args; simp_all
  obtain ⟨rfl, rfl⟩ := trodVars_none hV
  obtain ⟨a0, rfl, rfl, rfl, w0⟩ := open_int Tryd.underlying3 (hval 0 3 v0 rfl rfl) h0
  obtain ⟨a1, rfl, rfl, rfl, w1⟩ := open_int Tryd.underlying3 (hval 1 3 v1 rfl rfl) h1
  clear hA0 hval0
  simp only [List.append_nil] at hW'
  refine (numbers_call a0 a1 (wfl w1) (wfu w1) hL).mono fun e W' ⟨he, hg⟩ => ?_
  subst he
  exact ⟨_, rfl, post_quiet (pa := []) (pv := []) hW' (fun _ _ _ => (trodAll_cons_mk (shut_bool Tryd.underlying4 _) trodAll_mk0)) (fun sp _ => (trodAll_cons_mk (shut_int Tryd.underlying3 w0) (trodAll_cons_mk (shut_int Tryd.underlying3 w1) trodAll_mk0))) (fun _ _ => rfl) rfl
    hg (ok_one (by kernel_rfl) rfl (okWide_bool_mk Tryd.underlying4 _))⟩
theorem over : Rows.LexNumbersSaid :=
  OpenClaim.holds_of_wide 4 Tryd.f4 rfl rfl rfl rfl rfl rfl rfl ⟨rfl, rfl, rfl, rfl, rfl⟩ rfl rfl rfl rfl rfl (by kernel_rfl) Tryd.func4 (by kernel_rfl)
    (of_decide_eq_true (by kernel_rfl)) (by unfold Func.isWrapper; first | (rw [if_pos (by decide +kernel)]; kernel_rfl) | (rw [if_neg (by decide +kernel)]; exact ⟨rfl, rfl⟩))
    (fun os started H enc _ => lifted os started H enc)
/-- the statement -/
theorem lexNumbers_card : Rows.LexNumbersCardSaid :=
  Claim7.holds_tied_plain_at .later [] [.listed, .data] true (true, "d693a59a2605abab18937f7b1aad55e089952f352892f45ef532b199af370b83") false
    over (fun _ h => by cases h) (by kernel_rfl) (fun _ h => by cases h) lexNumbers_row_tie rfl ⟨rfl, rfl⟩ (by kernel_rfl) rfl
    (fun f fn hf hfn => by
      obtain rfl : f = 4 := Option.some.inj ((show Tryd.prog.funcNamed "metronome/metronomelaw2.LexNumbers" = some 4 by kernel_rfl).symm.trans hf) |>.symm
      obtain rfl : fn = Tryd.f4 := (Option.some.inj (Tryd.func4.symm.trans hfn)).symm
      exact ⟨by kernel_rfl, fun j t ht => by
        rw [Tryd.params4] at ht
        have hm : t ∈ [3, 3] := by simpa using Array.mem_of_getElem? ht
        have hall : ([3, 3].all fun u => !Tryd.prog.wantsStandIn u) = true := by kernel_rfl
        exact (show Tryd.prog.wantsStandIn t = false by simpa using List.all_eq_true.1 hall t hm)⟩)
    (by kernel_rfl)
#print axioms lexNumbers_card
end Go.Proofs.YtoeoaiipchklbaaDoor

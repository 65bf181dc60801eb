/- Proved: for every number of ticks and every case, StreamWrong answers true. No condition. -/
import Derived.Test.YtkfhjobebhdpoaaGreatZ
import Derived.Test.YtkfhjobebhdpoaaGreatW11
import Derived.Test.YtkfhjobebhdpoaaGreatJW
import Derived.ChangeSlices
set_option linter.unusedVariables false
set_option autoImplicit false
set_option linter.unusedVariables false
set_option maxRecDepth 100000
namespace Go.Proofs.YtkfhjobebhdpoaaGreat
open Go.ChangeShapes Go.WideShapes Go.ChangeAt Go.RowKit Go.ChangeMaps
theorem lawW_call (a0 a1 : Int) {W : World} : Calls Tryz.prog 8 #[.int .i64 a0, .int .i64 a1] W fun e w' => e = .returned (.bool true) ∧ Go.X.Quiet W w' := by
  obtain ⟨C, ds, G, hgl, hr⟩ := allW a0 a1
  refine call_of G hgl (L := fun _ => none) (h := hLW) (fun U => ⟨fun i k p hi => ?_, fun i j ki kj p q hi => ?_, fun i hi hU => rfl, fun i p hp => (by cases hp), fun i k hi => ?_⟩) (fun B => ?_) hr (.cons _ _ _ _ (.int _ _) (.cons _ _ _ _ (.int _ _) .nil))
  · cases hi
  · cases hi
  · cases hi
  · rintro ⟨i, k, p, hi, _⟩; cases hi
set_option maxRecDepth 100000 in
theorem liftedW (os : Os) (started : os.Started) (H : Type) (enc : TypeId × Value → H) :
    ReturnsInHanded {} Tryz.checked os 8 .any (Rows.streamWrongSpec.pre6 enc Tryz.prog Tryz.f8 Rows.streamWrongRow.domain false) (Rows.streamWrongSpec.post enc Tryz.prog Tryz.f8 false true false false) := by
  refine returnsInHanded_of_change (C := Tryz.checked) own started (by kernel_rfl) Tryz.func8
    (ChangeSpec.witness6 (enc := enc) (C := Tryz.checked) false ⟨#[], #[.int .i64 0, .int .i64 0], []⟩ 8 (by kernel_rfl) (by kernel_rfl) (by kernel_rfl) (by kernel_rfl)) ?_
  intro W base args ds gs before hval0 hW hcnd _
  have hval : ∀ (j : Nat) t v, Tryz.f8.params[j]? = some t → args[j]? = some v → Value.okWide Tryz.prog W .any base t v := hval0
  have hW' := hW
  obtain ⟨p, q, hA0, hV, rfl, hfz, hnd⟩ := hW
  have hA : DataW.TrodAll enc Tryz.prog W 0 (fun _ => true) true Tryz.f8.params.toList args.toList ds p := hA0
  rw [Tryz.params8] at hA hval
  obtain ⟨v0, vs0, d0, ds0, p0, q0, hargs, rfl, rfl, h0, r0⟩ := trodAll_cons hA
  obtain ⟨v1, vs1, d1, ds1, p1, q1, rfl, rfl, rfl, h1, r1⟩ := trodAll_cons r0
  obtain ⟨rfl, rfl, rfl⟩ := trodAll_nil r1
  obtain rfl : args = #[v0, v1] := by cases args; simp_all
  obtain ⟨rfl, rfl⟩ := trodVars_none hV
  obtain ⟨a0, rfl, rfl, rfl, w0⟩ := open_int Tryz.underlying3 (hval 0 3 v0 rfl rfl) h0
  obtain ⟨a1, rfl, rfl, rfl, w1⟩ := open_int Tryz.underlying3 (hval 1 3 v1 rfl rfl) h1
  clear hA0 hval0
  simp only [List.append_nil] at hW'
  refine (lawW_call a0 a1).mono fun e W' ⟨he, hg⟩ => ?_
  subst he
  exact ⟨_, rfl, post_quiet (pa := []) (pv := []) hW' (fun _ _ _ => (trodAll_cons_mk (shut_bool Tryz.underlying4 _) trodAll_mk0)) (fun sp _ => (trodAll_cons_mk (shut_int Tryz.underlying3 w0) (trodAll_cons_mk (shut_int Tryz.underlying3 w1) trodAll_mk0))) (fun _ _ => rfl) rfl
    hg (ok_one (by kernel_rfl) rfl (okWide_bool_mk Tryz.underlying4 _))⟩
theorem overW : Rows.streamWrongRow.holds Tryz.pinned (OpenSpec.ofChange Rows.streamWrongSpec) :=
  OpenClaim.holds_of_wide 8 Tryz.f8 rfl rfl rfl rfl rfl rfl rfl ⟨rfl, rfl, rfl, rfl, rfl⟩ rfl rfl rfl rfl rfl (by kernel_rfl) Tryz.func8 rjfW
    (of_decide_eq_true (by kernel_rfl)) (by unfold Func.isWrapper; first | (rw [if_pos (by decide +kernel)]; kernel_rfl) | (rw [if_neg (by decide +kernel)]; exact ⟨rfl, rfl⟩))
    (fun os started H enc _ => liftedW os started H enc)
/-- the statement -/
theorem streamWrong_holds : Rows.StreamWrongSaid := overW
#print axioms streamWrong_holds
end Go.Proofs.YtkfhjobebhdpoaaGreat

/- Proved: for every which, FirstForms answers true; and its input reads as it did. No condition. -/
import Derived.Test.YtjhbegfkeppcbaaRows
import Derived.WalkKit
import Derived.ProofKit
import Derived.OpenShut
import Derived.Test.YtjhbegfkeppcbaaFirstA
import Derived.Test.YtjhbegfkeppcbaaFirst0
import Derived.Test.YtjhbegfkeppcbaaFirst1
import Derived.Test.YtjhbegfkeppcbaaFirst2
import Derived.Test.YtjhbegfkeppcbaaFirst3
import Derived.Test.YtjhbegfkeppcbaaFirst4
namespace Go.Proofs.Ytjhbegfkeppcbaa
open Go.ChangeShapes Go.WideShapes Go.ChangeAt Go.RowKit
set_option linter.unusedVariables false

theorem own : ownKnob Try.prog.godebug = none := by kernel_rfl

theorem each {p : Int → Prop} (hN : ∀ k, p (.negSucc k)) (hB : ∀ k, p (.ofNat (k + 19))) (h0 : p (.ofNat 0)) (h1 : p (.ofNat 1)) (h2 : p (.ofNat 2)) (h3 : p (.ofNat 3)) (h4 : p (.ofNat 4)) (h5 : p (.ofNat 5)) (h6 : p (.ofNat 6)) (h7 : p (.ofNat 7)) (h8 : p (.ofNat 8)) (h9 : p (.ofNat 9)) (h10 : p (.ofNat 10)) (h11 : p (.ofNat 11)) (h12 : p (.ofNat 12)) (h13 : p (.ofNat 13)) (h14 : p (.ofNat 14)) (h15 : p (.ofNat 15)) (h16 : p (.ofNat 16)) (h17 : p (.ofNat 17)) (h18 : p (.ofNat 18)) (a : Int) : p a := by
  match a with
  | .negSucc k => exact hN k
  | .ofNat 0 => exact h0
  | .ofNat 1 => exact h1
  | .ofNat 2 => exact h2
  | .ofNat 3 => exact h3
  | .ofNat 4 => exact h4
  | .ofNat 5 => exact h5
  | .ofNat 6 => exact h6
  | .ofNat 7 => exact h7
  | .ofNat 8 => exact h8
  | .ofNat 9 => exact h9
  | .ofNat 10 => exact h10
  | .ofNat 11 => exact h11
  | .ofNat 12 => exact h12
  | .ofNat 13 => exact h13
  | .ofNat 14 => exact h14
  | .ofNat 15 => exact h15
  | .ofNat 16 => exact h16
  | .ofNat 17 => exact h17
  | .ofNat 18 => exact h18
  | .ofNat (k + 19) => exact hB k
/-- a fact that is not to be unfolded -/
structure Ran (p : Prop) : Prop where
  out : p
theorem ran_of {p : Prop} (h : p = True) : Ran p := ⟨by rw [h]; trivial⟩
theorem runAll (a : Int) : Ran (runF a) :=
  each (p := fun a => Ran (runF a)) (fun k => ran_of (ranN k)) (fun k => ran_of (ranB k)) (ran_of ran0) (ran_of ran1) (ran_of ran2) (ran_of ran3) (ran_of ran4) (ran_of ran5) (ran_of ran6) (ran_of ran7) (ran_of ran8) (ran_of ran9) (ran_of ran10) (ran_of ran11) (ran_of ran12) (ran_of ran13) (ran_of ran14) (ran_of ran15) (ran_of ran16) (ran_of ran17) (ran_of ran18) a
theorem xrun_ran {C : Go.X.Cfg} (hC : Go.X.ConOK C Try.prog) (hS : Go.X.SplCon C) {f : Nat} {args : List Go.X.AV}
    (hk : Ran (Go.X.xfun C Try.prog (Go.X.xcode C Try.prog 1000000) f args Go.X.hNil [] (fun v _ _ => isT v)))
    {args' : Array Value} (hargs : Go.X.RVs (fun _ => none) args args'.toList) (w : World) : Calls Try.prog f args' w fun e w' => ∃ v v' L', e = .returned v' ∧ isT v ∧ Go.X.RV L' v v' ∧ Go.X.Quiet w w' :=
  Go.X.xrun_nil hC hS (by exact hk.out) hargs w

theorem grown {w w' : World} (q : Go.X.Quiet w w') : Grown w w' := by
  refine ⟨⟨q.os, q.output, fun i hi => ?_⟩, q.fro, q.size⟩
  rw [q.keep i hi]
  cases w.heap[i]? with
  | none => rfl
  | some o => cases o with
    | cells c t fr => exact ⟨rfl, rfl, rfl, fun _ _ => rfl⟩
    | map es clock => exact .inr ⟨rfl, rfl⟩
    | _ => rfl

theorem true_of {v : Go.X.AV} {v' : Value} {L : Go.X.LM} (h : isT v) (r : Go.X.RV L v v') : v' = .bool true := by
  rw [isT_eq h] at r; cases r; rfl

/-- alive answers true -/
theorem alive (w : World) : Calls Try.prog 4 #[] w fun e w' => e = .returned (.bool true) ∧ Go.X.Quiet w w' := by
  refine (xrun_ran (C := cfgA) (Go.X.cfg0_ok false mask) (Go.X.cfg0_spl false mask) (ran_of ranA) (args' := #[]) .nil w).mono ?_
  rintro e w' ⟨v, v', L', rfl, h, r, q⟩
  exact ⟨by rw [true_of h r], q⟩

theorem walk (a0 : Int) (w0 : (Lit.int .i64 a0).wf = true) (w : World) :
    Calls Try.prog 3 #[.int .i64 a0] w fun e w' => e = .returned (.bool true) ∧ Grown w w' := by
  refine (xrun_ran (C := cfgF) (Go.X.cfg1_ok (Go.X.conTrue_ok alive)) (Go.X.cfg1_spl Go.X.conTrue_spl) (runAll a0) (args' := #[.int .i64 a0]) (.cons _ _ _ _ (.int _ _) .nil) w).mono ?_
  rintro e w' ⟨v, v', L', rfl, h, r, q⟩
  exact ⟨by rw [true_of h r], grown q⟩

/-! ### THE ROW's STEP: WRITTEN OUT: LEAVE IT -/
set_option maxRecDepth 100000 in
theorem lifted (os : Os) (started : os.Started) (H : Type) (enc : TypeId × Value → H) :
    ReturnsInHanded {} Try.checked os 3 .any (Rows.firstFormsSpec.pre6 enc Try.prog Try.f3 Rows.firstFormsRow.domain false) (Rows.firstFormsSpec.post enc Try.prog Try.f3 false true false false) := by
  refine returnsInHanded_of_change (C := Try.checked) own started (by kernel_rfl) Try.func3
    (ChangeSpec.witness6 (enc := enc) (C := Try.checked) false ⟨#[], #[.int .i64 0], []⟩ 8 (by kernel_rfl) (by kernel_rfl) (by kernel_rfl) (by kernel_rfl)) ?_
  intro W base args ds gs before hval0 hW hcnd _
  have hval : ∀ (j : Nat) t v, Try.f3.params[j]? = some t → args[j]? = some v → Value.okWide Try.prog W .any base t v := hval0
  have hW' := hW
  obtain ⟨p, q, hA0, hV, rfl, hfz, hnd⟩ := hW
  have hA : DataW.TrodAll enc Try.prog W 0 (fun _ => true) true Try.f3.params.toList args.toList ds p := hA0
  rw [Try.params3] at hA hval
  obtain ⟨v0, vs0, d0, ds0, p0, q0, hargs, rfl, rfl, h0, r0⟩ := trodAll_cons hA
  obtain ⟨rfl, rfl, rfl⟩ := trodAll_nil r0
  obtain rfl : args = #[v0] := by cases args; simp_all
  obtain ⟨rfl, rfl⟩ := trodVars_none hV
  obtain ⟨a0, rfl, rfl, rfl, w0⟩ := open_int Try.underlying3 (hval 0 3 v0 rfl rfl) h0
  clear hA0 hval0
  simp only [List.append_nil] at hW'
  refine (walk a0 w0 W).mono fun e W' ⟨he, hg⟩ => ?_
  subst he
  exact ⟨_, rfl, post_of_same (pa := []) (pv := []) hW' (fun _ _ _ => (trodAll_cons_mk (shut_bool Try.underlying4 _) trodAll_mk0)) (fun sp _ => (trodAll_cons_mk (shut_int Try.underlying3 w0) trodAll_mk0)) (fun _ _ => rfl) rfl
    (hg.frame _) hg.2.1 (ok_one (by kernel_rfl) rfl (okWide_bool_mk Try.underlying4 _))⟩

theorem over : Rows.firstFormsRow.holds Try.pinned (OpenSpec.ofChange Rows.firstFormsSpec) :=
  OpenClaim.holds_of_wide 3 Try.f3 rfl rfl rfl rfl rfl rfl rfl ⟨rfl, rfl, rfl, rfl, rfl⟩ rfl rfl rfl rfl rfl (by kernel_rfl) Try.func3 (by kernel_rfl)
    (of_decide_eq_true (by kernel_rfl)) (by unfold Func.isWrapper; first | (rw [if_pos (by decide +kernel)]; kernel_rfl) | (rw [if_neg (by decide +kernel)]; exact ⟨rfl, rfl⟩))
    (fun os started H enc _ => lifted os started H enc)

/-- ████ THE STATEMENT ████ -/
theorem firstForms_holds : Rows.FirstFormsSaid :=
  over
#print axioms firstForms_holds
end Go.Proofs.Ytjhbegfkeppcbaa

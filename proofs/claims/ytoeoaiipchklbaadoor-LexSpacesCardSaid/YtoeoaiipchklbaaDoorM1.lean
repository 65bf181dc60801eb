/- The document's lexer: runs of its small functions. -/
import Derived.Test.YtoeoaiipchklbaaDoorL5
import Derived.Test.YtoeoaiipchklbaaDoorL4
set_option linter.unusedVariables false
set_option autoImplicit false
set_option maxRecDepth 1000000
set_option maxHeartbeats 0
namespace Go.Proofs.YtoeoaiipchklbaaDoor
noncomputable section
open Go.X
theorem rletter_res (c : Nat) (h : H) (K : KV) : xfun C0 Tryd.prog (xcode C0 Tryd.prog F) 33 [.int .u8 (.ofNat c)] h [] K = (bcase (ltI (Int.ofNat c) (Int.ofNat 97)) (bcase (ltI (Int.ofNat c) (Int.ofNat 65)) (bcase (eqI (Int.ofNat c) (Int.ofNat 95)) (K (AV.bool true) h []) (K (AV.bool false) h [])) (bcase (ltI (Int.ofNat 90) (Int.ofNat c)) (bcase (eqI (Int.ofNat c) (Int.ofNat 95)) (K (AV.bool true) h []) (K (AV.bool false) h [])) (K (AV.bool true) h []))) (bcase (ltI (Int.ofNat 122) (Int.ofNat c)) (bcase (ltI (Int.ofNat c) (Int.ofNat 65)) (bcase (eqI (Int.ofNat c) (Int.ofNat 95)) (K (AV.bool true) h []) (K (AV.bool false) h [])) (bcase (ltI (Int.ofNat 90) (Int.ofNat c)) (bcase (eqI (Int.ofNat c) (Int.ofNat 95)) (K (AV.bool true) h []) (K (AV.bool false) h [])) (K (AV.bool true) h []))) (K (AV.bool true) h []))) := by kernel_rfl
theorem rdigit_res (c : Nat) (h : H) (K : KV) : xfun C0 Tryd.prog (xcode C0 Tryd.prog F) 34 [.int .u8 (.ofNat c)] h [] K = (bcase (ltI (Int.ofNat c) (Int.ofNat 48)) (K (AV.bool false) h []) (bcase (ltI (Int.ofNat 57) (Int.ofNat c)) (K (AV.bool false) h []) (K (AV.bool true) h []))) := by kernel_rfl
theorem rkind_res (n v : Nat) (h : H) (K : AV → Prop) : xfun C0 Tryd.prog (xcode C0 Tryd.prog F) 36 [.str n v] hNil [] (fun v _ _ => K v) = (bcase (Nat.beq 4 n && Nat.beq 1819242338 v) (K (AV.int Go.IntKind.i64 (Int.ofNat 1))) (bcase (Nat.beq 2 n && Nat.beq 14441 v) (K (AV.int Go.IntKind.i64 (Int.ofNat 2))) (bcase (Nat.beq 3 n && Nat.beq 3551593 v) (K (AV.int Go.IntKind.i64 (Int.ofNat 3))) (bcase (Nat.beq 3 n && Nat.beq 3289961 v) (K (AV.int Go.IntKind.i64 (Int.ofNat 4))) (bcase (Nat.beq 3 n && Nat.beq 3421801 v) (K (AV.int Go.IntKind.i64 (Int.ofNat 5))) (bcase (Nat.beq 2 n && Nat.beq 14453 v) (K (AV.int Go.IntKind.i64 (Int.ofNat 6))) (bcase (Nat.beq 3 n && Nat.beq 3551605 v) (K (AV.int Go.IntKind.i64 (Int.ofNat 7))) (bcase (Nat.beq 3 n && Nat.beq 3289973 v) (K (AV.int Go.IntKind.i64 (Int.ofNat 8))) (bcase (Nat.beq 3 n && Nat.beq 3421813 v) (K (AV.int Go.IntKind.i64 (Int.ofNat 9))) (K (AV.int Go.IntKind.i64 (Int.ofNat 0)))))))))))) := by kernel_rfl
theorem rsign_res (n v i : Nat) (K : AV → Prop) : xfun C0 Tryd.prog (xcode C0 Tryd.prog F) 38 [.str n v, .int .i64 (.ofNat i)] hNil [] (fun v _ _ => K v) = (bcase (inR Go.IntKind.i64 (Int.ofNat i + Int.ofNat 2)) (bcase (ltI (Int.ofNat n) (Int.ofNat i + Int.ofNat 2)) (bcase (inB (Int.ofNat i) n) (bcase (eqI (Int.ofNat (byteAt v (Int.toNat (Int.ofNat i)))) (Int.ofNat 40)) (K (AV.int Go.IntKind.i64 (Int.ofNat 1))) (bcase (eqI (Int.ofNat (byteAt v (Int.toNat (Int.ofNat i)))) (Int.ofNat 41)) (K (AV.int Go.IntKind.i64 (Int.ofNat 1))) (bcase (eqI (Int.ofNat (byteAt v (Int.toNat (Int.ofNat i)))) (Int.ofNat 91)) (K (AV.int Go.IntKind.i64 (Int.ofNat 1))) (bcase (eqI (Int.ofNat (byteAt v (Int.toNat (Int.ofNat i)))) (Int.ofNat 93)) (K (AV.int Go.IntKind.i64 (Int.ofNat 1))) (bcase (eqI (Int.ofNat (byteAt v (Int.toNat (Int.ofNat i)))) (Int.ofNat 44)) (K (AV.int Go.IntKind.i64 (Int.ofNat 1))) (bcase (eqI (Int.ofNat (byteAt v (Int.toNat (Int.ofNat i)))) (Int.ofNat 59)) (K (AV.int Go.IntKind.i64 (Int.ofNat 1))) (bcase (eqI (Int.ofNat (byteAt v (Int.toNat (Int.ofNat i)))) (Int.ofNat 58)) (K (AV.int Go.IntKind.i64 (Int.ofNat 1))) (bcase (eqI (Int.ofNat (byteAt v (Int.toNat (Int.ofNat i)))) (Int.ofNat 61)) (K (AV.int Go.IntKind.i64 (Int.ofNat 1))) (bcase (eqI (Int.ofNat (byteAt v (Int.toNat (Int.ofNat i)))) (Int.ofNat 60)) (K (AV.int Go.IntKind.i64 (Int.ofNat 1))) (bcase (eqI (Int.ofNat (byteAt v (Int.toNat (Int.ofNat i)))) (Int.ofNat 62)) (K (AV.int Go.IntKind.i64 (Int.ofNat 1))) (bcase (eqI (Int.ofNat (byteAt v (Int.toNat (Int.ofNat i)))) (Int.ofNat 43)) (K (AV.int Go.IntKind.i64 (Int.ofNat 1))) (bcase (eqI (Int.ofNat (byteAt v (Int.toNat (Int.ofNat i)))) (Int.ofNat 45)) (K (AV.int Go.IntKind.i64 (Int.ofNat 1))) (bcase (eqI (Int.ofNat (byteAt v (Int.toNat (Int.ofNat i)))) (Int.ofNat 42)) (K (AV.int Go.IntKind.i64 (Int.ofNat 1))) (bcase (eqI (Int.ofNat (byteAt v (Int.toNat (Int.ofNat i)))) (Int.ofNat 47)) (K (AV.int Go.IntKind.i64 (Int.ofNat 1))) (bcase (eqI (Int.ofNat (byteAt v (Int.toNat (Int.ofNat i)))) (Int.ofNat 38)) (K (AV.int Go.IntKind.i64 (Int.ofNat 1))) (bcase (eqI (Int.ofNat (byteAt v (Int.toNat (Int.ofNat i)))) (Int.ofNat 124)) (K (AV.int Go.IntKind.i64 (Int.ofNat 1))) (bcase (eqI (Int.ofNat (byteAt v (Int.toNat (Int.ofNat i)))) (Int.ofNat 94)) (K (AV.int Go.IntKind.i64 (Int.ofNat 1))) (K (AV.int Go.IntKind.i64 (Int.ofNat 0)))))))))))))))))))) False) (bcase (inR Go.IntKind.i64 (Int.ofNat i + Int.ofNat 2)) (bcase (Nat.ble (i + 2) n && Nat.ble i (i + 2)) (bcase (Nat.beq (Nat.sub (i + 2) i) 2 && Nat.beq (subV v i (i + 2)) 15917) (K (AV.int Go.IntKind.i64 (Int.ofNat 2))) (bcase (Nat.beq (Nat.sub (i + 2) i) 2 && Nat.beq (subV v i (i + 2)) 15933) (K (AV.int Go.IntKind.i64 (Int.ofNat 2))) (bcase (Nat.beq (Nat.sub (i + 2) i) 2 && Nat.beq (subV v i (i + 2)) 15932) (K (AV.int Go.IntKind.i64 (Int.ofNat 2))) (bcase (Nat.beq (Nat.sub (i + 2) i) 2 && Nat.beq (subV v i (i + 2)) 15676) (K (AV.int Go.IntKind.i64 (Int.ofNat 2))) (bcase (Nat.beq (Nat.sub (i + 2) i) 2 && Nat.beq (subV v i (i + 2)) 15678) (K (AV.int Go.IntKind.i64 (Int.ofNat 2))) (bcase (Nat.beq (Nat.sub (i + 2) i) 2 && Nat.beq (subV v i (i + 2)) 15420) (K (AV.int Go.IntKind.i64 (Int.ofNat 2))) (bcase (Nat.beq (Nat.sub (i + 2) i) 2 && Nat.beq (subV v i (i + 2)) 15934) (K (AV.int Go.IntKind.i64 (Int.ofNat 2))) (bcase (inB (Int.ofNat i) n) (bcase (eqI (Int.ofNat (byteAt v (Int.toNat (Int.ofNat i)))) (Int.ofNat 40)) (K (AV.int Go.IntKind.i64 (Int.ofNat 1))) (bcase (eqI (Int.ofNat (byteAt v (Int.toNat (Int.ofNat i)))) (Int.ofNat 41)) (K (AV.int Go.IntKind.i64 (Int.ofNat 1))) (bcase (eqI (Int.ofNat (byteAt v (Int.toNat (Int.ofNat i)))) (Int.ofNat 91)) (K (AV.int Go.IntKind.i64 (Int.ofNat 1))) (bcase (eqI (Int.ofNat (byteAt v (Int.toNat (Int.ofNat i)))) (Int.ofNat 93)) (K (AV.int Go.IntKind.i64 (Int.ofNat 1))) (bcase (eqI (Int.ofNat (byteAt v (Int.toNat (Int.ofNat i)))) (Int.ofNat 44)) (K (AV.int Go.IntKind.i64 (Int.ofNat 1))) (bcase (eqI (Int.ofNat (byteAt v (Int.toNat (Int.ofNat i)))) (Int.ofNat 59)) (K (AV.int Go.IntKind.i64 (Int.ofNat 1))) (bcase (eqI (Int.ofNat (byteAt v (Int.toNat (Int.ofNat i)))) (Int.ofNat 58)) (K (AV.int Go.IntKind.i64 (Int.ofNat 1))) (bcase (eqI (Int.ofNat (byteAt v (Int.toNat (Int.ofNat i)))) (Int.ofNat 61)) (K (AV.int Go.IntKind.i64 (Int.ofNat 1))) (bcase (eqI (Int.ofNat (byteAt v (Int.toNat (Int.ofNat i)))) (Int.ofNat 60)) (K (AV.int Go.IntKind.i64 (Int.ofNat 1))) (bcase (eqI (Int.ofNat (byteAt v (Int.toNat (Int.ofNat i)))) (Int.ofNat 62)) (K (AV.int Go.IntKind.i64 (Int.ofNat 1))) (bcase (eqI (Int.ofNat (byteAt v (Int.toNat (Int.ofNat i)))) (Int.ofNat 43)) (K (AV.int Go.IntKind.i64 (Int.ofNat 1))) (bcase (eqI (Int.ofNat (byteAt v (Int.toNat (Int.ofNat i)))) (Int.ofNat 45)) (K (AV.int Go.IntKind.i64 (Int.ofNat 1))) (bcase (eqI (Int.ofNat (byteAt v (Int.toNat (Int.ofNat i)))) (Int.ofNat 42)) (K (AV.int Go.IntKind.i64 (Int.ofNat 1))) (bcase (eqI (Int.ofNat (byteAt v (Int.toNat (Int.ofNat i)))) (Int.ofNat 47)) (K (AV.int Go.IntKind.i64 (Int.ofNat 1))) (bcase (eqI (Int.ofNat (byteAt v (Int.toNat (Int.ofNat i)))) (Int.ofNat 38)) (K (AV.int Go.IntKind.i64 (Int.ofNat 1))) (bcase (eqI (Int.ofNat (byteAt v (Int.toNat (Int.ofNat i)))) (Int.ofNat 124)) (K (AV.int Go.IntKind.i64 (Int.ofNat 1))) (bcase (eqI (Int.ofNat (byteAt v (Int.toNat (Int.ofNat i)))) (Int.ofNat 94)) (K (AV.int Go.IntKind.i64 (Int.ofNat 1))) (K (AV.int Go.IntKind.i64 (Int.ofNat 0)))))))))))))))))))) False)))))))) False) False)) False) := by kernel_rfl
end
end Go.Proofs.YtoeoaiipchklbaaDoor
/- The document's lexer: its small functions. -/
set_option autoImplicit false
set_option linter.unusedVariables false
set_option maxRecDepth 1000000
namespace Go.Proofs.YtoeoaiipchklbaaDoor
noncomputable section
open Go.X
theorem rletter_ok {gl : Glob} (args : List AV) (h : H) (v : AV) (h' : H) (ds : List Bool) (K : KV) (hf : fB isL args h = some (true, v, h')) (hK : K v h' ds) : CallOK Tryd.prog gl 33 args h K := by
  unfold fB at hf
  split at hf <;> try (cases hf; done)
  rename_i c
  simp only [Option.some.injEq, Prod.mk.injEq] at hf
  obtain ⟨-, rfl, rfl⟩ := hf
  refine frame_pure goodC0 rfl (fuel := F) (ds1 := []) rfl rfl ⟨Eq.mpr (rletter_res c _ _) ?_⟩ hK
  refine bcase_mk (fun h1 => ?_) (fun h1 => ?_)
  · refine bcase_mk (fun h2 => ?_) (fun h2 => ?_)
    · refine bcase_mk (fun h3 => ?_) (fun h3 => ?_) <;> (refine bool_eq ?_; simp only [ltN, eqN, decide_eq_true_iff, decide_eq_false_iff_not] at h1 h2 h3; rw [isL_iff]; symm; first | (rw [decide_eq_true_iff]; omega) | (rw [decide_eq_false_iff_not]; omega))
    · refine bcase_mk (fun h4 => ?_) (fun h4 => ?_)
      · refine bcase_mk (fun h3 => ?_) (fun h3 => ?_) <;> (refine bool_eq ?_; simp only [ltN, eqN, decide_eq_true_iff, decide_eq_false_iff_not] at h1 h2 h3 h4; rw [isL_iff]; symm; first | (rw [decide_eq_true_iff]; omega) | (rw [decide_eq_false_iff_not]; omega))
      · refine bool_eq ?_; simp only [ltN, decide_eq_true_iff, decide_eq_false_iff_not] at h1 h2 h4; rw [isL_iff]; symm; rw [decide_eq_true_iff]; omega
  · refine bcase_mk (fun h5 => ?_) (fun h5 => ?_)
    · refine bcase_mk (fun h2 => ?_) (fun h2 => ?_)
      · refine bcase_mk (fun h3 => ?_) (fun h3 => ?_) <;> (refine bool_eq ?_; simp only [ltN, eqN, decide_eq_true_iff, decide_eq_false_iff_not] at h1 h2 h3 h5; rw [isL_iff]; symm; first | (rw [decide_eq_true_iff]; omega) | (rw [decide_eq_false_iff_not]; omega))
      · refine bcase_mk (fun h4 => ?_) (fun h4 => ?_)
        · refine bcase_mk (fun h3 => ?_) (fun h3 => ?_) <;> (refine bool_eq ?_; simp only [ltN, eqN, decide_eq_true_iff, decide_eq_false_iff_not] at h1 h2 h3 h4 h5; rw [isL_iff]; symm; first | (rw [decide_eq_true_iff]; omega) | (rw [decide_eq_false_iff_not]; omega))
        · refine bool_eq ?_; simp only [ltN, decide_eq_true_iff, decide_eq_false_iff_not] at h1 h2 h4 h5; rw [isL_iff]; symm; rw [decide_eq_true_iff]; omega
    · refine bool_eq ?_; simp only [ltN, decide_eq_false_iff_not] at h1 h5; rw [isL_iff]; symm; rw [decide_eq_true_iff]; omega
theorem rdigit_ok {gl : Glob} (args : List AV) (h : H) (v : AV) (h' : H) (ds : List Bool) (K : KV) (hf : fB isD args h = some (true, v, h')) (hK : K v h' ds) : CallOK Tryd.prog gl 34 args h K := by
  unfold fB at hf
  split at hf <;> try (cases hf; done)
  rename_i c
  simp only [Option.some.injEq, Prod.mk.injEq] at hf
  obtain ⟨-, rfl, rfl⟩ := hf
  refine frame_pure goodC0 rfl (fuel := F) (ds1 := []) rfl rfl ⟨Eq.mpr (rdigit_res c _ _) ?_⟩ hK
  refine bcase_mk (fun h1 => ?_) (fun h1 => ?_)
  · refine bool_eq ?_; simp only [ltN, decide_eq_true_iff] at h1; rw [isD_iff]; symm; rw [decide_eq_false_iff_not]; omega
  · refine bcase_mk (fun h2 => ?_) (fun h2 => ?_)
    · refine bool_eq ?_; simp only [ltN, decide_eq_true_iff] at h2; rw [isD_iff]; symm; rw [decide_eq_false_iff_not]; omega
    · refine bool_eq ?_; simp only [ltN, decide_eq_false_iff_not] at h1 h2; rw [isD_iff]; symm; rw [decide_eq_true_iff]; omega
theorem rkind_ok {gl : Glob} (args : List AV) (h : H) (v : AV) (h' : H) (ds : List Bool) (K : KV) (hf : fKind args h = some (true, v, h')) (hK : K v h' ds) : CallOK Tryd.prog gl 36 args h K := by
  unfold fKind at hf
  split at hf <;> try (cases hf; done)
  rename_i n v
  simp only [Option.some.injEq, Prod.mk.injEq] at hf
  obtain ⟨-, rfl, rfl⟩ := hf
  refine frame_pure goodC0 rfl (fuel := F) (ds1 := []) rfl rfl ⟨Eq.mpr (rkind_res n v hNil _) ?_⟩ hK
  refine bcase_mk (fun h1 => ?_) (fun h1 => bcase_mk (fun h2 => ?_) (fun h2 => bcase_mk (fun h3 => ?_) (fun h3 => bcase_mk (fun h4 => ?_) (fun h4 => bcase_mk (fun h5 => ?_) (fun h5 => bcase_mk (fun h6 => ?_) (fun h6 => bcase_mk (fun h7 => ?_) (fun h7 => bcase_mk (fun h8 => ?_) (fun h8 => bcase_mk (fun h9 => ?_) (fun h9 => ?_)))))))))
  all_goals
    refine congrArg (fun k => AV.int .i64 (Int.ofNat k)) ?_
    unfold kindF
    simp only [*, cond_true, cond_false]
def oneL : List Nat := [40, 41, 91, 93, 44, 59, 58, 61, 60, 62, 43, 45, 42, 47, 38, 124, 94]
theorem isOne_tab : (List.range 256).all (fun c => isOne c == oneL.any (Nat.beq c)) = true := by kernel_rfl
theorem isOne_iff {c : Nat} (hc : c < 256) : isOne c = oneL.any (Nat.beq c) := by
  have := List.all_eq_true.1 isOne_tab c (List.mem_range.2 hc)
  exact eq_of_beq this
theorem one_chain {c : Nat} {k1 k0 : Prop} (hc : c < 256) (h1 : isOne c = true → k1) (h0 : isOne c = false → k0) : (bcase (eqI (Int.ofNat c) (Int.ofNat 40)) k1 (bcase (eqI (Int.ofNat c) (Int.ofNat 41)) k1 (bcase (eqI (Int.ofNat c) (Int.ofNat 91)) k1 (bcase (eqI (Int.ofNat c) (Int.ofNat 93)) k1 (bcase (eqI (Int.ofNat c) (Int.ofNat 44)) k1 (bcase (eqI (Int.ofNat c) (Int.ofNat 59)) k1 (bcase (eqI (Int.ofNat c) (Int.ofNat 58)) k1 (bcase (eqI (Int.ofNat c) (Int.ofNat 61)) k1 (bcase (eqI (Int.ofNat c) (Int.ofNat 60)) k1 (bcase (eqI (Int.ofNat c) (Int.ofNat 62)) k1 (bcase (eqI (Int.ofNat c) (Int.ofNat 43)) k1 (bcase (eqI (Int.ofNat c) (Int.ofNat 45)) k1 (bcase (eqI (Int.ofNat c) (Int.ofNat 42)) k1 (bcase (eqI (Int.ofNat c) (Int.ofNat 47)) k1 (bcase (eqI (Int.ofNat c) (Int.ofNat 38)) k1 (bcase (eqI (Int.ofNat c) (Int.ofNat 124)) k1 (bcase (eqI (Int.ofNat c) (Int.ofNat 94)) k1 k0))))))))))))))))) := by
  have key : ∀ x, x ∈ oneL → c = x → isOne c = true := fun x hx e => by
    rw [isOne_iff hc, List.any_eq_true]; exact ⟨x, hx, by rw [e, natBeq_iff]⟩
  refine bcase_mk (fun h => h1 (key 40 (by decide) (eqT h))) (fun q0 => bcase_mk (fun h => h1 (key 41 (by decide) (eqT h))) (fun q1 => bcase_mk (fun h => h1 (key 91 (by decide) (eqT h))) (fun q2 => bcase_mk (fun h => h1 (key 93 (by decide) (eqT h))) (fun q3 => bcase_mk (fun h => h1 (key 44 (by decide) (eqT h))) (fun q4 => bcase_mk (fun h => h1 (key 59 (by decide) (eqT h))) (fun q5 => bcase_mk (fun h => h1 (key 58 (by decide) (eqT h))) (fun q6 => bcase_mk (fun h => h1 (key 61 (by decide) (eqT h))) (fun q7 => bcase_mk (fun h => h1 (key 60 (by decide) (eqT h))) (fun q8 => bcase_mk (fun h => h1 (key 62 (by decide) (eqT h))) (fun q9 => bcase_mk (fun h => h1 (key 43 (by decide) (eqT h))) (fun q10 => bcase_mk (fun h => h1 (key 45 (by decide) (eqT h))) (fun q11 => bcase_mk (fun h => h1 (key 42 (by decide) (eqT h))) (fun q12 => bcase_mk (fun h => h1 (key 47 (by decide) (eqT h))) (fun q13 => bcase_mk (fun h => h1 (key 38 (by decide) (eqT h))) (fun q14 => bcase_mk (fun h => h1 (key 124 (by decide) (eqT h))) (fun q15 => bcase_mk (fun h => h1 (key 94 (by decide) (eqT h))) (fun q16 => ?_)))))))))))))))))
  refine h0 ?_
  rw [isOne_iff hc]
  cases h : oneL.any (Nat.beq c) with
  | false => rfl
  | true =>
    rw [List.any_eq_true] at h
    obtain ⟨x, hx, e⟩ := h
    rw [natBeq_iff] at e
    subst e
    simp only [oneL, List.mem_cons, List.not_mem_nil, or_false] at hx
    have q0 := eqF q0
    have q1 := eqF q1
    have q2 := eqF q2
    have q3 := eqF q3
    have q4 := eqF q4
    have q5 := eqF q5
    have q6 := eqF q6
    have q7 := eqF q7
    have q8 := eqF q8
    have q9 := eqF q9
    have q10 := eqF q10
    have q11 := eqF q11
    have q12 := eqF q12
    have q13 := eqF q13
    have q14 := eqF q14
    have q15 := eqF q15
    have q16 := eqF q16
    omega
end
end Go.Proofs.YtoeoaiipchklbaaDoor
/- The document's lexer: signs. -/
set_option autoImplicit false
set_option linter.unusedVariables false
set_option maxRecDepth 1000000
namespace Go.Proofs.YtoeoaiipchklbaaDoor
noncomputable section
open Go.X
def fRSign (args : List AV) (h : H) : Option (Bool × AV × H) := match args with
  | [.str n v, .int .i64 z] => match z with
    | .ofNat i => some (Bool.and (Nat.ble (Nat.succ i) n) (Nat.ble n 9000000000000000000), .int .i64 (.ofNat (sLen n v i)), h)
    | .negSucc _ => none
  | _ => none
theorem two_sh {i : Nat} {b : Bool} : (Nat.beq (Nat.sub (i + 2) i) 2 && b) = b := by
  have : Nat.beq (Nat.sub (i + 2) i) 2 = true := by rw [natBeq_iff]; show i + 2 - i = 2; omega
  rw [this]; rfl
theorem rsign_run {n v i : Nat} (hi : i < n) (hn : n ≤ 9000000000000000000) : Ran (xfun C0 Tryd.prog (xcode C0 Tryd.prog F) 38 [.str n v, .int .i64 (.ofNat i)] hNil [] (fun u _ _ => u = .int .i64 (.ofNat (sLen n v i)))) := by
  have h := rsign_res n v i (fun u => u = .int .i64 (.ofNat (sLen n v i)))
  refine ⟨?_⟩
  rw [h]
  clear h
  have hc := byteAt_lt v i
  refine bcase_t (inR_add (by omega)) ?_
  refine bcase_mk (fun q => ?_) (fun q => ?_)
  · have q : n < i + 2 := ltT q
    have le2 : Nat.ble (i + 2) n = false := by rw [bleD, decide_eq_false_iff_not]; omega
    refine bcase_t (inB_of hi) ?_
    refine one_chain hc (fun o => ?_) (fun o => ?_)
    · have o : isOne (byteAt v i) = true := o
      unfold sLen; rw [le2, o]; rfl
    · have o : isOne (byteAt v i) = false := o
      unfold sLen; rw [le2, o]; rfl
  · have q : ¬ n < i + 2 := ltF q
    have le2 : Nat.ble (i + 2) n = true := by rw [bleD, decide_eq_true_iff]; omega
    have t2 : ∀ w, isTwo w = true → Nat.beq (subV v i (i + 2)) w = true → AV.int .i64 (Int.ofNat 2) = AV.int .i64 (Int.ofNat (sLen n v i)) := fun w hw e => by
      rw [natBeq_iff] at e
      unfold sLen; rw [le2, e, hw]; rfl
    refine bcase_t (inR_add (by omega)) ?_
    refine bcase_t (by rw [le2, Nat.ble_eq_true_of_le (Nat.le_add_right i 2)]; rfl) ?_
    rw [two_sh, two_sh, two_sh, two_sh, two_sh, two_sh, two_sh]
    refine bcase_mk (fun h => t2 _ rfl h) fun q0 => bcase_mk (fun h => t2 _ rfl h) fun q1 => bcase_mk (fun h => t2 _ rfl h) fun q2 => bcase_mk (fun h => t2 _ rfl h) fun q3 => bcase_mk (fun h => t2 _ rfl h) fun q4 => bcase_mk (fun h => t2 _ rfl h) fun q5 => bcase_mk (fun h => t2 _ rfl h) fun q6 => ?_
    have nt : isTwo (subV v i (i + 2)) = false := by unfold isTwo; rw [q0, q1, q2, q3, q4, q5, q6]; rfl
    refine bcase_t (inB_of hi) ?_
    refine one_chain hc (fun o => ?_) (fun o => ?_)
    · have o : isOne (byteAt v i) = true := o
      unfold sLen; rw [le2, nt, o]; rfl
    · have o : isOne (byteAt v i) = false := o
      unfold sLen; rw [le2, nt, o]; rfl
theorem rsign_ok {gl : Glob} (args : List AV) (h : H) (v : AV) (h' : H) (ds : List Bool) (K : KV) (hf : fRSign args h = some (true, v, h')) (hK : K v h' ds) : CallOK Tryd.prog gl 38 args h K := by
  unfold fRSign at hf
  split at hf <;> try (cases hf; done)
  split at hf <;> try (cases hf; done)
  rename_i n v _ i
  simp only [Option.some.injEq, Prod.mk.injEq] at hf
  obtain ⟨hc, rfl, rfl⟩ := hf
  obtain ⟨c1, c2⟩ := and_tt hc
  exact frame_pure goodC0 rfl (fuel := F) (ds1 := []) rfl rfl (rsign_run (bleT c1) (bleT c2)) hK
end
end Go.Proofs.YtoeoaiipchklbaaDoor
/- The document's lexer: runs of more functions. -/
set_option autoImplicit false
set_option maxRecDepth 1000000
set_option maxHeartbeats 0
namespace Go.Proofs.YtoeoaiipchklbaaDoor
noncomputable section
open Go.X
theorem rwidth_res (k : Nat) (K : AV → Prop) : xfun C0 Tryd.prog (xcode C0 Tryd.prog F) 21 [.int .i64 (.ofNat k)] hNil [] (fun v _ _ => K v) = (bcase (eqI (Int.ofNat k) (Int.ofNat 1)) (K (AV.int Go.IntKind.i64 (Int.ofNat 1))) (bcase (eqI (Int.ofNat k) (Int.ofNat 2)) (K (AV.int Go.IntKind.i64 (Int.ofNat 8))) (bcase (eqI (Int.ofNat k) (Int.ofNat 6)) (K (AV.int Go.IntKind.i64 (Int.ofNat 8))) (bcase (eqI (Int.ofNat k) (Int.ofNat 3)) (K (AV.int Go.IntKind.i64 (Int.ofNat 16))) (bcase (eqI (Int.ofNat k) (Int.ofNat 7)) (K (AV.int Go.IntKind.i64 (Int.ofNat 16))) (bcase (eqI (Int.ofNat k) (Int.ofNat 4)) (K (AV.int Go.IntKind.i64 (Int.ofNat 32))) (bcase (eqI (Int.ofNat k) (Int.ofNat 8)) (K (AV.int Go.IntKind.i64 (Int.ofNat 32))) (bcase (eqI (Int.ofNat k) (Int.ofNat 5)) (K (AV.int Go.IntKind.i64 (Int.ofNat 64))) (bcase (eqI (Int.ofNat k) (Int.ofNat 9)) (K (AV.int Go.IntKind.i64 (Int.ofNat 64))) (K (AV.int Go.IntKind.i64 (Int.ofNat 0)))))))))))) := by kernel_rfl
theorem rsigned_res (k : Nat) (K : AV → Prop) : xfun C0 Tryd.prog (xcode C0 Tryd.prog F) 23 [.int .i64 (.ofNat k)] hNil [] (fun v _ _ => K v) = (bcase (ltI (Int.ofNat k) (Int.ofNat 2)) (K (AV.bool false)) (bcase (ltI (Int.ofNat 5) (Int.ofNat k)) (K (AV.bool false)) (K (AV.bool true)))) := by kernel_rfl
theorem rkey_res (n v : Nat) (K : AV → Prop) : xfun (C0.addCon 36 (conF fKind)) Tryd.prog (xcode (C0.addCon 36 (conF fKind)) Tryd.prog F) 35 [.str n v] hNil [] (fun v _ _ => K v) = (bcase (ltI (Int.ofNat 0) (Int.ofNat (kindF n v))) (K (AV.bool true)) (bcase (Nat.beq n 4 && Nat.beq v 1701080942) (K (AV.bool true)) (bcase (Nat.beq n 7 && Nat.beq v 32491060197614962) (K (AV.bool true)) (bcase (Nat.beq n 3 && Nat.beq v 7496054) (K (AV.bool true)) (bcase (Nat.beq n 3 && Nat.beq v 7628140) (K (AV.bool true)) (bcase (Nat.beq n 3 && Nat.beq v 7103860) (K (AV.bool true)) (bcase (Nat.beq n 2 && Nat.beq v 26217) (K (AV.bool true)) (bcase (Nat.beq n 4 && Nat.beq v 1852139636) (K (AV.bool true)) (bcase (Nat.beq n 4 && Nat.beq v 1702063205) (K (AV.bool true)) (bcase (Nat.beq n 3 && Nat.beq v 7630702) (K (AV.bool true)) (bcase (Nat.beq n 3 && Nat.beq v 6581857) (K (AV.bool true)) (bcase (Nat.beq n 2 && Nat.beq v 29295) (K (AV.bool true)) (bcase (Nat.beq n 3 && Nat.beq v 7499640) (K (AV.bool true)) (bcase (Nat.beq n 3 && Nat.beq v 6582125) (K (AV.bool true)) (bcase (Nat.beq n 3 && Nat.beq v 6648432) (K (AV.bool true)) (bcase (Nat.beq n 3 && Nat.beq v 7955046) (K (AV.bool true)) (bcase (Nat.beq n 4 && Nat.beq v 1852139639) (K (AV.bool true)) (bcase (Nat.beq n 5 && Nat.beq v 435527247213) (K (AV.bool true)) (bcase (Nat.beq n 4 && Nat.beq v 1953718627) (K (AV.bool true)) (bcase (Nat.beq n 4 && Nat.beq v 1801677172) (K (AV.bool true)) (bcase (Nat.beq n 5 && Nat.beq v 499918267762) (K (AV.bool true)) (bcase (Nat.beq n 3 && Nat.beq v 7366002) (K (AV.bool true)) (bcase (Nat.beq n 3 && Nat.beq v 7364973) (K (AV.bool true)) (bcase (Nat.beq n 4 && Nat.beq v 1684828006) (K (AV.bool true)) (bcase (Nat.beq n 2 && Nat.beq v 28271) (K (AV.bool true)) (bcase (Nat.beq n 4 && Nat.beq v 1702195828) (K (AV.bool true)) (bcase (Nat.beq n 5 && Nat.beq v 435728179558) (K (AV.bool true)) (bcase (Nat.beq n 9 && Nat.beq v 2037172999266208347489) (K (AV.bool true)) (bcase (Nat.beq n 5 && Nat.beq v 435744240755) (K (AV.bool true)) (bcase (Nat.beq n 2 && Nat.beq v 28516) (K (AV.bool true)) (bcase (Nat.beq n 6 && Nat.beq v 126939460038261) (K (AV.bool true)) (bcase (Nat.beq n 5 && Nat.beq v 465625706101) (K (AV.bool true)) (bcase (Nat.beq n 8 && Nat.beq v 7310870969309884259) (K (AV.bool true)) (bcase (Nat.beq n 3 && Nat.beq v 6581861) (K (AV.bool true)) (K (AV.bool false)))))))))))))))))))))))))))))))))))) := by kernel_rfl
end
end Go.Proofs.YtoeoaiipchklbaaDoor
/- The document's lexer: words of the language. -/
set_option autoImplicit false
set_option linter.unusedVariables false
set_option maxRecDepth 1000000
set_option maxHeartbeats 1000000
namespace Go.Proofs.YtoeoaiipchklbaaDoor
noncomputable section
open Go.X
theorem isKey_pos {n v L w : Nat} (h : (Nat.beq n L && Nat.beq v w) = true) (hk : isKey L w = true) : isKey n v = true := by
  obtain ⟨h1, h2⟩ := and_tt (by exact h : Bool.and (Nat.beq n L) (Nat.beq v w) = true)
  rw [natBeq_iff] at h1 h2
  subst h1; subst h2; exact hk
theorem findS_no {n v L w : Nat} {m z : Int} {es : List (AV × AV)} (h : (Nat.beq n L && Nat.beq v w) = false) : findS n v ((.str L w, .int .i64 m) :: es) z = findS n v es z := by
  show (Bool.rec (motive := fun _ => Int) (findS n v es z) m (Bool.and (Nat.beq n L) (Nat.beq v w)) : Int) = _
  have h : Bool.and (Nat.beq n L) (Nat.beq v w) = false := h
  rw [h]
theorem beq_cm (a b : Nat) : Nat.beq a b = Nat.beq b a := by rw [beqD, beqD, Bool.eq_iff_iff, decide_eq_true_iff, decide_eq_true_iff]; exact eq_comm
theorem kindF_no {n v : Nat} (h : kindF n v = 0) : (Nat.beq n 4 && Nat.beq v 1819242338) = false ∧ (Nat.beq n 2 && Nat.beq v 14441) = false ∧ (Nat.beq n 3 && Nat.beq v 3551593) = false ∧ (Nat.beq n 3 && Nat.beq v 3289961) = false ∧ (Nat.beq n 3 && Nat.beq v 3421801) = false ∧ (Nat.beq n 2 && Nat.beq v 14453) = false ∧ (Nat.beq n 3 && Nat.beq v 3551605) = false ∧ (Nat.beq n 3 && Nat.beq v 3289973) = false ∧ (Nat.beq n 3 && Nat.beq v 3421813) = false := by
  unfold kindF at h
  simp only [beq_cm _ n, beq_cm _ v] at h
  cases q0 : (Nat.beq n 4 && Nat.beq v 1819242338) with
  | true => rw [q0] at h; simp only [cond_true] at h; cases h
  | false =>
  rw [q0] at h; simp only [cond_false] at h
  cases q1 : (Nat.beq n 2 && Nat.beq v 14441) with
  | true => rw [q1] at h; simp only [cond_true] at h; cases h
  | false =>
  rw [q1] at h; simp only [cond_false] at h
  cases q2 : (Nat.beq n 3 && Nat.beq v 3551593) with
  | true => rw [q2] at h; simp only [cond_true] at h; cases h
  | false =>
  rw [q2] at h; simp only [cond_false] at h
  cases q3 : (Nat.beq n 3 && Nat.beq v 3289961) with
  | true => rw [q3] at h; simp only [cond_true] at h; cases h
  | false =>
  rw [q3] at h; simp only [cond_false] at h
  cases q4 : (Nat.beq n 3 && Nat.beq v 3421801) with
  | true => rw [q4] at h; simp only [cond_true] at h; cases h
  | false =>
  rw [q4] at h; simp only [cond_false] at h
  cases q5 : (Nat.beq n 2 && Nat.beq v 14453) with
  | true => rw [q5] at h; simp only [cond_true] at h; cases h
  | false =>
  rw [q5] at h; simp only [cond_false] at h
  cases q6 : (Nat.beq n 3 && Nat.beq v 3551605) with
  | true => rw [q6] at h; simp only [cond_true] at h; cases h
  | false =>
  rw [q6] at h; simp only [cond_false] at h
  cases q7 : (Nat.beq n 3 && Nat.beq v 3289973) with
  | true => rw [q7] at h; simp only [cond_true] at h; cases h
  | false =>
  rw [q7] at h; simp only [cond_false] at h
  cases q8 : (Nat.beq n 3 && Nat.beq v 3421813) with
  | true => rw [q8] at h; simp only [cond_true] at h; cases h
  | false =>
  rw [q8] at h; simp only [cond_false] at h
  exact ⟨rfl, rfl, rfl, rfl, rfl, rfl, rfl, rfl, rfl⟩
theorem kindF_key {n v : Nat} (h : ¬ kindF n v = 0) : isKey n v = true := by
  unfold kindF at h
  simp only [beq_cm _ n, beq_cm _ v] at h
  cases q0 : (Nat.beq n 4 && Nat.beq v 1819242338) with
  | true => exact isKey_pos q0 (by kernel_rfl)
  | false =>
  rw [q0] at h; simp only [cond_false] at h
  cases q1 : (Nat.beq n 2 && Nat.beq v 14441) with
  | true => exact isKey_pos q1 (by kernel_rfl)
  | false =>
  rw [q1] at h; simp only [cond_false] at h
  cases q2 : (Nat.beq n 3 && Nat.beq v 3551593) with
  | true => exact isKey_pos q2 (by kernel_rfl)
  | false =>
  rw [q2] at h; simp only [cond_false] at h
  cases q3 : (Nat.beq n 3 && Nat.beq v 3289961) with
  | true => exact isKey_pos q3 (by kernel_rfl)
  | false =>
  rw [q3] at h; simp only [cond_false] at h
  cases q4 : (Nat.beq n 3 && Nat.beq v 3421801) with
  | true => exact isKey_pos q4 (by kernel_rfl)
  | false =>
  rw [q4] at h; simp only [cond_false] at h
  cases q5 : (Nat.beq n 2 && Nat.beq v 14453) with
  | true => exact isKey_pos q5 (by kernel_rfl)
  | false =>
  rw [q5] at h; simp only [cond_false] at h
  cases q6 : (Nat.beq n 3 && Nat.beq v 3551605) with
  | true => exact isKey_pos q6 (by kernel_rfl)
  | false =>
  rw [q6] at h; simp only [cond_false] at h
  cases q7 : (Nat.beq n 3 && Nat.beq v 3289973) with
  | true => exact isKey_pos q7 (by kernel_rfl)
  | false =>
  rw [q7] at h; simp only [cond_false] at h
  cases q8 : (Nat.beq n 3 && Nat.beq v 3421813) with
  | true => exact isKey_pos q8 (by kernel_rfl)
  | false =>
  rw [q8] at h; simp only [cond_false] at h
  exact (h trivial).elim
theorem rkey_run (n v : Nat) : Ran (xfun (C0.addCon 36 (conF fKind)) Tryd.prog (xcode (C0.addCon 36 (conF fKind)) Tryd.prog F) 35 [.str n v] hNil [] (fun u _ _ => u = .bool (isKey n v))) := by
  have h := rkey_res n v (fun u => u = .bool (isKey n v))
  refine ⟨?_⟩
  rw [h]
  clear h
  have yes : isKey n v = true → AV.bool true = AV.bool (isKey n v) := fun h => by rw [h]
  refine bcase_mk (fun q => yes (kindF_key ?_)) (fun q => ?_)
  · have := ltT q; omega
  have k0 : kindF n v = 0 := by have := ltF q; omega
  obtain ⟨k1, k2, k3, k4, k5, k6, k7, k8, k9⟩ := kindF_no k0
  refine bcase_mk (fun q => yes (isKey_pos q (by kernel_rfl))) (fun q0 => ?_)
  refine bcase_mk (fun q => yes (isKey_pos q (by kernel_rfl))) (fun q1 => ?_)
  refine bcase_mk (fun q => yes (isKey_pos q (by kernel_rfl))) (fun q2 => ?_)
  refine bcase_mk (fun q => yes (isKey_pos q (by kernel_rfl))) (fun q3 => ?_)
  refine bcase_mk (fun q => yes (isKey_pos q (by kernel_rfl))) (fun q4 => ?_)
  refine bcase_mk (fun q => yes (isKey_pos q (by kernel_rfl))) (fun q5 => ?_)
  refine bcase_mk (fun q => yes (isKey_pos q (by kernel_rfl))) (fun q6 => ?_)
  refine bcase_mk (fun q => yes (isKey_pos q (by kernel_rfl))) (fun q7 => ?_)
  refine bcase_mk (fun q => yes (isKey_pos q (by kernel_rfl))) (fun q8 => ?_)
  refine bcase_mk (fun q => yes (isKey_pos q (by kernel_rfl))) (fun q9 => ?_)
  refine bcase_mk (fun q => yes (isKey_pos q (by kernel_rfl))) (fun q10 => ?_)
  refine bcase_mk (fun q => yes (isKey_pos q (by kernel_rfl))) (fun q11 => ?_)
  refine bcase_mk (fun q => yes (isKey_pos q (by kernel_rfl))) (fun q12 => ?_)
  refine bcase_mk (fun q => yes (isKey_pos q (by kernel_rfl))) (fun q13 => ?_)
  refine bcase_mk (fun q => yes (isKey_pos q (by kernel_rfl))) (fun q14 => ?_)
  refine bcase_mk (fun q => yes (isKey_pos q (by kernel_rfl))) (fun q15 => ?_)
  refine bcase_mk (fun q => yes (isKey_pos q (by kernel_rfl))) (fun q16 => ?_)
  refine bcase_mk (fun q => yes (isKey_pos q (by kernel_rfl))) (fun q17 => ?_)
  refine bcase_mk (fun q => yes (isKey_pos q (by kernel_rfl))) (fun q18 => ?_)
  refine bcase_mk (fun q => yes (isKey_pos q (by kernel_rfl))) (fun q19 => ?_)
  refine bcase_mk (fun q => yes (isKey_pos q (by kernel_rfl))) (fun q20 => ?_)
  refine bcase_mk (fun q => yes (isKey_pos q (by kernel_rfl))) (fun q21 => ?_)
  refine bcase_mk (fun q => yes (isKey_pos q (by kernel_rfl))) (fun q22 => ?_)
  refine bcase_mk (fun q => yes (isKey_pos q (by kernel_rfl))) (fun q23 => ?_)
  refine bcase_mk (fun q => yes (isKey_pos q (by kernel_rfl))) (fun q24 => ?_)
  refine bcase_mk (fun q => yes (isKey_pos q (by kernel_rfl))) (fun q25 => ?_)
  refine bcase_mk (fun q => yes (isKey_pos q (by kernel_rfl))) (fun q26 => ?_)
  refine bcase_mk (fun q => yes (isKey_pos q (by kernel_rfl))) (fun q27 => ?_)
  refine bcase_mk (fun q => yes (isKey_pos q (by kernel_rfl))) (fun q28 => ?_)
  refine bcase_mk (fun q => yes (isKey_pos q (by kernel_rfl))) (fun q29 => ?_)
  refine bcase_mk (fun q => yes (isKey_pos q (by kernel_rfl))) (fun q30 => ?_)
  refine bcase_mk (fun q => yes (isKey_pos q (by kernel_rfl))) (fun q31 => ?_)
  refine bcase_mk (fun q => yes (isKey_pos q (by kernel_rfl))) (fun q32 => ?_)
  have no : isKey n v = false := by
    unfold isKey KEYS
    rw [findS_no k1]
    rw [findS_no k2]
    rw [findS_no k3]
    rw [findS_no k4]
    rw [findS_no k5]
    rw [findS_no k6]
    rw [findS_no k7]
    rw [findS_no k8]
    rw [findS_no k9]
    rw [findS_no q0]
    rw [findS_no q1]
    rw [findS_no q2]
    rw [findS_no q3]
    rw [findS_no q4]
    rw [findS_no q5]
    rw [findS_no q6]
    rw [findS_no q7]
    rw [findS_no q8]
    rw [findS_no q9]
    rw [findS_no q10]
    rw [findS_no q11]
    rw [findS_no q12]
    rw [findS_no q13]
    rw [findS_no q14]
    rw [findS_no q15]
    rw [findS_no q16]
    rw [findS_no q17]
    rw [findS_no q18]
    rw [findS_no q19]
    rw [findS_no q20]
    rw [findS_no q21]
    rw [findS_no q22]
    rw [findS_no q23]
    rw [findS_no q24]
    rw [findS_no q25]
    rw [findS_no q26]
    rw [findS_no q27]
    rw [findS_no q28]
    rw [findS_no q29]
    rw [findS_no q30]
    rw [findS_no q31]
    rw [findS_no q32]
    rfl
  rw [no]
def fRKey (args : List AV) (h : H) : Option (Bool × AV × H) := match args with
  | [.str n v] => some (true, .bool (isKey n v), h)
  | _ => none
theorem goodRK : X.Good (C0.addCon 36 (conF fKind)) Tryd.prog := goodC0.addCon 36 _ (conF_spl _) (conF_ok rkind_ok)
theorem rkey_ok {gl : Glob} (args : List AV) (h : H) (v : AV) (h' : H) (ds : List Bool) (K : KV) (hf : fRKey args h = some (true, v, h')) (hK : K v h' ds) : CallOK Tryd.prog gl 35 args h K := by
  unfold fRKey at hf
  split at hf <;> try (cases hf; done)
  rename_i n v
  simp only [Option.some.injEq, Prod.mk.injEq] at hf
  obtain ⟨-, rfl, rfl⟩ := hf
  exact frame_pure goodRK rfl (fuel := F) (ds1 := []) rfl rfl (rkey_run n v) hK
end
end Go.Proofs.YtoeoaiipchklbaaDoor

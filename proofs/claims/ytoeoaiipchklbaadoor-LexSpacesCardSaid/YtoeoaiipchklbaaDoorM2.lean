/- The document's lexer: runs of Wrap. -/
import Derived.Test.YtoeoaiipchklbaaDoorM1
set_option linter.unusedVariables false
set_option autoImplicit false
set_option maxRecDepth 1000000
set_option maxHeartbeats 0
namespace Go.Proofs.YtoeoaiipchklbaaDoor
noncomputable section
open Go.X
theorem rwrap_res2 (n : Int) (K : AV → Prop) : xfun C0 Tryd.prog (xcode C0 Tryd.prog F) 13 [.int .i64 (.ofNat 2), .int .i64 n] hNil [] (fun v _ _ => K v) = (bcase (ltI (Int.tmod n (Int.ofNat 256)) (Int.ofNat 0)) (bcase (inR Go.IntKind.i64 (Int.tmod n (Int.ofNat 256) + Int.ofNat 256)) (bcase (ltI (Int.tmod n (Int.ofNat 256) + Int.ofNat 256) (Int.ofNat 128)) (K (AV.int Go.IntKind.i64 (Int.tmod n (Int.ofNat 256) + Int.ofNat 256))) (bcase (inR Go.IntKind.i64 (Int.tmod n (Int.ofNat 256) + Int.ofNat 256 - Int.ofNat 256)) (K (AV.int Go.IntKind.i64 (Int.tmod n (Int.ofNat 256) + Int.ofNat 256 - Int.ofNat 256))) False)) False) (bcase (ltI (Int.tmod n (Int.ofNat 256)) (Int.ofNat 128)) (K (AV.int Go.IntKind.i64 (Int.tmod n (Int.ofNat 256)))) (bcase (inR Go.IntKind.i64 (Int.tmod n (Int.ofNat 256) - Int.ofNat 256)) (K (AV.int Go.IntKind.i64 (Int.tmod n (Int.ofNat 256) - Int.ofNat 256))) False))) := by kernel_rfl
theorem rwrap_res3 (n : Int) (K : AV → Prop) : xfun C0 Tryd.prog (xcode C0 Tryd.prog F) 13 [.int .i64 (.ofNat 3), .int .i64 n] hNil [] (fun v _ _ => K v) = (bcase (ltI (Int.tmod n (Int.ofNat 65536)) (Int.ofNat 0)) (bcase (inR Go.IntKind.i64 (Int.tmod n (Int.ofNat 65536) + Int.ofNat 65536)) (bcase (ltI (Int.tmod n (Int.ofNat 65536) + Int.ofNat 65536) (Int.ofNat 32768)) (K (AV.int Go.IntKind.i64 (Int.tmod n (Int.ofNat 65536) + Int.ofNat 65536))) (bcase (inR Go.IntKind.i64 (Int.tmod n (Int.ofNat 65536) + Int.ofNat 65536 - Int.ofNat 65536)) (K (AV.int Go.IntKind.i64 (Int.tmod n (Int.ofNat 65536) + Int.ofNat 65536 - Int.ofNat 65536))) False)) False) (bcase (ltI (Int.tmod n (Int.ofNat 65536)) (Int.ofNat 32768)) (K (AV.int Go.IntKind.i64 (Int.tmod n (Int.ofNat 65536)))) (bcase (inR Go.IntKind.i64 (Int.tmod n (Int.ofNat 65536) - Int.ofNat 65536)) (K (AV.int Go.IntKind.i64 (Int.tmod n (Int.ofNat 65536) - Int.ofNat 65536))) False))) := by kernel_rfl
theorem rwrap_res4 (n : Int) (K : AV → Prop) : xfun C0 Tryd.prog (xcode C0 Tryd.prog F) 13 [.int .i64 (.ofNat 4), .int .i64 n] hNil [] (fun v _ _ => K v) = (bcase (ltI (Int.tmod n (Int.ofNat 4294967296)) (Int.ofNat 0)) (bcase (inR Go.IntKind.i64 (Int.tmod n (Int.ofNat 4294967296) + Int.ofNat 4294967296)) (bcase (ltI (Int.tmod n (Int.ofNat 4294967296) + Int.ofNat 4294967296) (Int.ofNat 2147483648)) (K (AV.int Go.IntKind.i64 (Int.tmod n (Int.ofNat 4294967296) + Int.ofNat 4294967296))) (bcase (inR Go.IntKind.i64 (Int.tmod n (Int.ofNat 4294967296) + Int.ofNat 4294967296 - Int.ofNat 4294967296)) (K (AV.int Go.IntKind.i64 (Int.tmod n (Int.ofNat 4294967296) + Int.ofNat 4294967296 - Int.ofNat 4294967296))) False)) False) (bcase (ltI (Int.tmod n (Int.ofNat 4294967296)) (Int.ofNat 2147483648)) (K (AV.int Go.IntKind.i64 (Int.tmod n (Int.ofNat 4294967296)))) (bcase (inR Go.IntKind.i64 (Int.tmod n (Int.ofNat 4294967296) - Int.ofNat 4294967296)) (K (AV.int Go.IntKind.i64 (Int.tmod n (Int.ofNat 4294967296) - Int.ofNat 4294967296))) False))) := by kernel_rfl
theorem rwrap_res5 (n : Int) (K : AV → Prop) : xfun C0 Tryd.prog (xcode C0 Tryd.prog F) 13 [.int .i64 (.ofNat 5), .int .i64 n] hNil [] (fun v _ _ => K v) = (K (AV.int Go.IntKind.i64 n)) := by kernel_rfl
theorem rwrap_res6 (n : Int) (K : AV → Prop) : xfun C0 Tryd.prog (xcode C0 Tryd.prog F) 13 [.int .i64 (.ofNat 6), .int .i64 n] hNil [] (fun v _ _ => K v) = (bcase (ltI (Int.tmod n (Int.ofNat 256)) (Int.ofNat 0)) (bcase (inR Go.IntKind.i64 (Int.tmod n (Int.ofNat 256) + Int.ofNat 256)) (K (AV.int Go.IntKind.i64 (Int.tmod n (Int.ofNat 256) + Int.ofNat 256))) False) (K (AV.int Go.IntKind.i64 (Int.tmod n (Int.ofNat 256))))) := by kernel_rfl
theorem rwrap_res7 (n : Int) (K : AV → Prop) : xfun C0 Tryd.prog (xcode C0 Tryd.prog F) 13 [.int .i64 (.ofNat 7), .int .i64 n] hNil [] (fun v _ _ => K v) = (bcase (ltI (Int.tmod n (Int.ofNat 65536)) (Int.ofNat 0)) (bcase (inR Go.IntKind.i64 (Int.tmod n (Int.ofNat 65536) + Int.ofNat 65536)) (K (AV.int Go.IntKind.i64 (Int.tmod n (Int.ofNat 65536) + Int.ofNat 65536))) False) (K (AV.int Go.IntKind.i64 (Int.tmod n (Int.ofNat 65536))))) := by kernel_rfl
theorem rwrap_res8 (n : Int) (K : AV → Prop) : xfun C0 Tryd.prog (xcode C0 Tryd.prog F) 13 [.int .i64 (.ofNat 8), .int .i64 n] hNil [] (fun v _ _ => K v) = (bcase (ltI (Int.tmod n (Int.ofNat 4294967296)) (Int.ofNat 0)) (bcase (inR Go.IntKind.i64 (Int.tmod n (Int.ofNat 4294967296) + Int.ofNat 4294967296)) (K (AV.int Go.IntKind.i64 (Int.tmod n (Int.ofNat 4294967296) + Int.ofNat 4294967296))) False) (K (AV.int Go.IntKind.i64 (Int.tmod n (Int.ofNat 4294967296))))) := by kernel_rfl
theorem rwrap_res9 (n : Int) (K : AV → Prop) : xfun C0 Tryd.prog (xcode C0 Tryd.prog F) 13 [.int .i64 (.ofNat 9), .int .i64 n] hNil [] (fun v _ _ => K v) = (K (AV.int Go.IntKind.i64 n)) := by kernel_rfl
end
end Go.Proofs.YtoeoaiipchklbaaDoor
/- The document's lexer: Wrap. -/
set_option autoImplicit false
set_option linter.unusedVariables false
set_option maxRecDepth 100000
set_option maxHeartbeats 1000000
namespace Go.Proofs.YtoeoaiipchklbaaDoor
noncomputable section
open Go.X
theorem tmod_pos {n p : Int} (h : 0 ≤ n) : Int.tmod n p = n % p := Int.tmod_eq_emod_of_nonneg h
theorem tmod_neg {n p : Int} (h : n < 0) : Int.tmod n p = -((-n) % p) := by
  have : Int.tmod (-n) p = (-n) % p := Int.tmod_eq_emod_of_nonneg (by omega)
  rw [Int.neg_tmod] at this; omega
theorem ltIT {a b : Int} (h : ltI a b = true) : a < b := by rw [ltI_eq, decide_eq_true_iff] at h; exact h
theorem ltIF {a b : Int} (h : ltI a b = false) : ¬ a < b := by rw [ltI_eq, decide_eq_false_iff_not] at h; exact h
theorem inR_of' {i : Int} (h0 : -9223372036854775808 ≤ i) (h : i ≤ 9223372036854775807) : inR .i64 i = true := by
  show sIn 9223372036854775808 i = true
  rw [sIn_eq, decide_eq_true_iff]; omega
theorem key_i {a b : Int} (h : a = b) : AV.int .i64 a = .int .i64 b := by rw [h]
theorem wrapK_2 (n : Int) : wrapK 2 n = if n % 256 ≥ 128 then n % 256 - 256 else n % 256 := by
  have e : wrapK 2 n = IntKind.wrap .i64 (IntKind.wrap .i8 n) := by
    show wrapF .i64 (wrapF .i8 n) = _
    rw [wrapF_eq, wrapF_eq]
  have e2 : IntKind.wrap .i8 n = if n % 256 ≥ 128 then n % 256 - 256 else n % 256 := by simp [IntKind.wrap, IntKind.bits, IntKind.signed]
  rw [e, e2]
  refine wrap_in (inR_of' ?_ ?_) <;> (split <;> omega)
theorem rwrap_run2 (n : Int) : Ran (xfun C0 Tryd.prog (xcode C0 Tryd.prog F) 13 [.int .i64 (.ofNat 2), .int .i64 n] hNil [] (fun u _ _ => u = .int .i64 (wrapK 2 n))) := by
  have h := rwrap_res2 n (fun u => u = .int .i64 (wrapK 2 n))
  refine ⟨?_⟩
  rw [h, wrapK_2]; clear h
  simp only [Int.ofNat_eq_natCast, Int.cast_ofNat_Int]
  rcases Int.lt_or_le n 0 with hs | hs
  · rw [tmod_neg hs]
    refine bcase_mk (fun q1 => bcase_t (inR_of' ?_ ?_) (bcase_mk (fun q2 => key_i ?_) (fun q2 => bcase_t (inR_of' ?_ ?_) (key_i ?_)))) (fun q1 => bcase_mk (fun q2 => key_i ?_) (fun q2 => bcase_t (inR_of' ?_ ?_) (key_i ?_)))
    all_goals
      first | have q1 := ltIT q1 | have q1 := ltIF q1 | skip
      first | have q2 := ltIT q2 | have q2 := ltIF q2 | skip
      first | omega | (split <;> omega)
  · rw [tmod_pos hs]
    refine bcase_mk (fun q1 => bcase_t (inR_of' ?_ ?_) (bcase_mk (fun q2 => key_i ?_) (fun q2 => bcase_t (inR_of' ?_ ?_) (key_i ?_)))) (fun q1 => bcase_mk (fun q2 => key_i ?_) (fun q2 => bcase_t (inR_of' ?_ ?_) (key_i ?_)))
    all_goals
      first | have q1 := ltIT q1 | have q1 := ltIF q1 | skip
      first | have q2 := ltIT q2 | have q2 := ltIF q2 | skip
      first | omega | (split <;> omega)
theorem wrapK_3 (n : Int) : wrapK 3 n = if n % 65536 ≥ 32768 then n % 65536 - 65536 else n % 65536 := by
  have e : wrapK 3 n = IntKind.wrap .i64 (IntKind.wrap .i16 n) := by
    show wrapF .i64 (wrapF .i16 n) = _
    rw [wrapF_eq, wrapF_eq]
  have e2 : IntKind.wrap .i16 n = if n % 65536 ≥ 32768 then n % 65536 - 65536 else n % 65536 := by simp [IntKind.wrap, IntKind.bits, IntKind.signed]
  rw [e, e2]
  refine wrap_in (inR_of' ?_ ?_) <;> (split <;> omega)
theorem rwrap_run3 (n : Int) : Ran (xfun C0 Tryd.prog (xcode C0 Tryd.prog F) 13 [.int .i64 (.ofNat 3), .int .i64 n] hNil [] (fun u _ _ => u = .int .i64 (wrapK 3 n))) := by
  have h := rwrap_res3 n (fun u => u = .int .i64 (wrapK 3 n))
  refine ⟨?_⟩
  rw [h, wrapK_3]; clear h
  simp only [Int.ofNat_eq_natCast, Int.cast_ofNat_Int]
  rcases Int.lt_or_le n 0 with hs | hs
  · rw [tmod_neg hs]
    refine bcase_mk (fun q1 => bcase_t (inR_of' ?_ ?_) (bcase_mk (fun q2 => key_i ?_) (fun q2 => bcase_t (inR_of' ?_ ?_) (key_i ?_)))) (fun q1 => bcase_mk (fun q2 => key_i ?_) (fun q2 => bcase_t (inR_of' ?_ ?_) (key_i ?_)))
    all_goals
      first | have q1 := ltIT q1 | have q1 := ltIF q1 | skip
      first | have q2 := ltIT q2 | have q2 := ltIF q2 | skip
      first | omega | (split <;> omega)
  · rw [tmod_pos hs]
    refine bcase_mk (fun q1 => bcase_t (inR_of' ?_ ?_) (bcase_mk (fun q2 => key_i ?_) (fun q2 => bcase_t (inR_of' ?_ ?_) (key_i ?_)))) (fun q1 => bcase_mk (fun q2 => key_i ?_) (fun q2 => bcase_t (inR_of' ?_ ?_) (key_i ?_)))
    all_goals
      first | have q1 := ltIT q1 | have q1 := ltIF q1 | skip
      first | have q2 := ltIT q2 | have q2 := ltIF q2 | skip
      first | omega | (split <;> omega)
theorem wrapK_4 (n : Int) : wrapK 4 n = if n % 4294967296 ≥ 2147483648 then n % 4294967296 - 4294967296 else n % 4294967296 := by
  have e : wrapK 4 n = IntKind.wrap .i64 (IntKind.wrap .i32 n) := by
    show wrapF .i64 (wrapF .i32 n) = _
    rw [wrapF_eq, wrapF_eq]
  have e2 : IntKind.wrap .i32 n = if n % 4294967296 ≥ 2147483648 then n % 4294967296 - 4294967296 else n % 4294967296 := by simp [IntKind.wrap, IntKind.bits, IntKind.signed]
  rw [e, e2]
  refine wrap_in (inR_of' ?_ ?_) <;> (split <;> omega)
theorem rwrap_run4 (n : Int) : Ran (xfun C0 Tryd.prog (xcode C0 Tryd.prog F) 13 [.int .i64 (.ofNat 4), .int .i64 n] hNil [] (fun u _ _ => u = .int .i64 (wrapK 4 n))) := by
  have h := rwrap_res4 n (fun u => u = .int .i64 (wrapK 4 n))
  refine ⟨?_⟩
  rw [h, wrapK_4]; clear h
  simp only [Int.ofNat_eq_natCast, Int.cast_ofNat_Int]
  rcases Int.lt_or_le n 0 with hs | hs
  · rw [tmod_neg hs]
    refine bcase_mk (fun q1 => bcase_t (inR_of' ?_ ?_) (bcase_mk (fun q2 => key_i ?_) (fun q2 => bcase_t (inR_of' ?_ ?_) (key_i ?_)))) (fun q1 => bcase_mk (fun q2 => key_i ?_) (fun q2 => bcase_t (inR_of' ?_ ?_) (key_i ?_)))
    all_goals
      first | have q1 := ltIT q1 | have q1 := ltIF q1 | skip
      first | have q2 := ltIT q2 | have q2 := ltIF q2 | skip
      first | omega | (split <;> omega)
  · rw [tmod_pos hs]
    refine bcase_mk (fun q1 => bcase_t (inR_of' ?_ ?_) (bcase_mk (fun q2 => key_i ?_) (fun q2 => bcase_t (inR_of' ?_ ?_) (key_i ?_)))) (fun q1 => bcase_mk (fun q2 => key_i ?_) (fun q2 => bcase_t (inR_of' ?_ ?_) (key_i ?_)))
    all_goals
      first | have q1 := ltIT q1 | have q1 := ltIF q1 | skip
      first | have q2 := ltIT q2 | have q2 := ltIF q2 | skip
      first | omega | (split <;> omega)
theorem wrapK_6 (n : Int) : wrapK 6 n = n % 256 := by
  have e : wrapK 6 n = IntKind.wrap .i64 (IntKind.wrap .u8 n) := by
    show wrapF .i64 (wrapF .u8 n) = _
    rw [wrapF_eq, wrapF_eq]
  have e2 : IntKind.wrap .u8 n = n % 256 := by simp [IntKind.wrap, IntKind.bits, IntKind.signed]
  rw [e, e2]
  refine wrap_in (inR_of' ?_ ?_) <;> omega
theorem rwrap_run6 (n : Int) : Ran (xfun C0 Tryd.prog (xcode C0 Tryd.prog F) 13 [.int .i64 (.ofNat 6), .int .i64 n] hNil [] (fun u _ _ => u = .int .i64 (wrapK 6 n))) := by
  have h := rwrap_res6 n (fun u => u = .int .i64 (wrapK 6 n))
  refine ⟨?_⟩
  rw [h, wrapK_6]; clear h
  simp only [Int.ofNat_eq_natCast, Int.cast_ofNat_Int]
  rcases Int.lt_or_le n 0 with hs | hs
  · rw [tmod_neg hs]
    refine bcase_mk (fun q1 => bcase_t (inR_of' ?_ ?_) (key_i ?_)) (fun q1 => key_i ?_)
    all_goals
      first | have q1 := ltIT q1 | have q1 := ltIF q1 | skip
      omega
  · rw [tmod_pos hs]
    refine bcase_mk (fun q1 => bcase_t (inR_of' ?_ ?_) (key_i ?_)) (fun q1 => key_i ?_)
    all_goals
      first | have q1 := ltIT q1 | have q1 := ltIF q1 | skip
      omega
theorem wrapK_7 (n : Int) : wrapK 7 n = n % 65536 := by
  have e : wrapK 7 n = IntKind.wrap .i64 (IntKind.wrap .u16 n) := by
    show wrapF .i64 (wrapF .u16 n) = _
    rw [wrapF_eq, wrapF_eq]
  have e2 : IntKind.wrap .u16 n = n % 65536 := by simp [IntKind.wrap, IntKind.bits, IntKind.signed]
  rw [e, e2]
  refine wrap_in (inR_of' ?_ ?_) <;> omega
theorem rwrap_run7 (n : Int) : Ran (xfun C0 Tryd.prog (xcode C0 Tryd.prog F) 13 [.int .i64 (.ofNat 7), .int .i64 n] hNil [] (fun u _ _ => u = .int .i64 (wrapK 7 n))) := by
  have h := rwrap_res7 n (fun u => u = .int .i64 (wrapK 7 n))
  refine ⟨?_⟩
  rw [h, wrapK_7]; clear h
  simp only [Int.ofNat_eq_natCast, Int.cast_ofNat_Int]
  rcases Int.lt_or_le n 0 with hs | hs
  · rw [tmod_neg hs]
    refine bcase_mk (fun q1 => bcase_t (inR_of' ?_ ?_) (key_i ?_)) (fun q1 => key_i ?_)
    all_goals
      first | have q1 := ltIT q1 | have q1 := ltIF q1 | skip
      omega
  · rw [tmod_pos hs]
    refine bcase_mk (fun q1 => bcase_t (inR_of' ?_ ?_) (key_i ?_)) (fun q1 => key_i ?_)
    all_goals
      first | have q1 := ltIT q1 | have q1 := ltIF q1 | skip
      omega
theorem wrapK_8 (n : Int) : wrapK 8 n = n % 4294967296 := by
  have e : wrapK 8 n = IntKind.wrap .i64 (IntKind.wrap .u32 n) := by
    show wrapF .i64 (wrapF .u32 n) = _
    rw [wrapF_eq, wrapF_eq]
  have e2 : IntKind.wrap .u32 n = n % 4294967296 := by simp [IntKind.wrap, IntKind.bits, IntKind.signed]
  rw [e, e2]
  refine wrap_in (inR_of' ?_ ?_) <;> omega
theorem rwrap_run8 (n : Int) : Ran (xfun C0 Tryd.prog (xcode C0 Tryd.prog F) 13 [.int .i64 (.ofNat 8), .int .i64 n] hNil [] (fun u _ _ => u = .int .i64 (wrapK 8 n))) := by
  have h := rwrap_res8 n (fun u => u = .int .i64 (wrapK 8 n))
  refine ⟨?_⟩
  rw [h, wrapK_8]; clear h
  simp only [Int.ofNat_eq_natCast, Int.cast_ofNat_Int]
  rcases Int.lt_or_le n 0 with hs | hs
  · rw [tmod_neg hs]
    refine bcase_mk (fun q1 => bcase_t (inR_of' ?_ ?_) (key_i ?_)) (fun q1 => key_i ?_)
    all_goals
      first | have q1 := ltIT q1 | have q1 := ltIF q1 | skip
      omega
  · rw [tmod_pos hs]
    refine bcase_mk (fun q1 => bcase_t (inR_of' ?_ ?_) (key_i ?_)) (fun q1 => key_i ?_)
    all_goals
      first | have q1 := ltIT q1 | have q1 := ltIF q1 | skip
      omega
end
end Go.Proofs.YtoeoaiipchklbaaDoor
/- The document's lexer: Wrap, Width, Signed as contracts. -/
set_option autoImplicit false
set_option linter.unusedVariables false
set_option maxRecDepth 100000
namespace Go.Proofs.YtoeoaiipchklbaaDoor
noncomputable section
open Go.X
theorem rwrap_run {k : Nat} (hk : isK k = true) (n : Int) : Ran (xfun C0 Tryd.prog (xcode C0 Tryd.prog F) 13 [.int .i64 (.ofNat k), .int .i64 n] hNil [] (fun u _ _ => u = .int .i64 (wrapK k n))) := by
  obtain ⟨h1, h2⟩ := and_tt (by exact hk : Bool.and (Nat.ble 2 k) (Nat.ble k 9) = true)
  have h1 := bleT h1
  have h2 := bleT h2
  match k, h1, h2 with
  | 2, _, _ => exact rwrap_run2 n
  | 3, _, _ => exact rwrap_run3 n
  | 4, _, _ => exact rwrap_run4 n
  | 5, _, _ =>
    have h := rwrap_res5 n (fun u => u = .int .i64 (wrapK 5 n))
    refine ⟨?_⟩; rw [h]; rfl
  | 6, _, _ => exact rwrap_run6 n
  | 7, _, _ => exact rwrap_run7 n
  | 8, _, _ => exact rwrap_run8 n
  | 9, _, _ =>
    have h := rwrap_res9 n (fun u => u = .int .i64 (wrapK 9 n))
    refine ⟨?_⟩; rw [h]; rfl
theorem rwrap_ok {gl : Glob} (args : List AV) (h : H) (v : AV) (h' : H) (ds : List Bool) (K : KV) (hf : fWrap args h = some (true, v, h')) (hK : K v h' ds) : CallOK Tryd.prog gl 13 args h K := by
  unfold fWrap at hf
  split at hf <;> try (cases hf; done)
  rename_i k n
  simp only [Option.some.injEq, Prod.mk.injEq] at hf
  obtain ⟨hc, rfl, rfl⟩ := hf
  exact frame_pure goodC0 rfl (fuel := F) (ds1 := []) rfl rfl (rwrap_run hc n) hK
end
end Go.Proofs.YtoeoaiipchklbaaDoor
/- The document's lexer: numbers: definitions. -/
set_option autoImplicit false
set_option linter.unusedVariables false
set_option maxRecDepth 100000
namespace Go.Proofs.YtoeoaiipchklbaaDoor
noncomputable section
open Go.X
/-- the document's own small functions -/
def R1 : Cfg := (((((C0.addCon 33 (conF (fB isL))).addCon 34 (conF (fB isD))).addCon 36 (conF fKind)).addCon 35 (conF fRKey)).addCon 38 (conF fRSign)).addCon 13 (conF fWrap)
theorem goodR1 : X.Good R1 Tryd.prog := (((((goodC0.addCon 33 _ (conF_spl _) (conF_ok rletter_ok)).addCon 34 _ (conF_spl _) (conF_ok rdigit_ok)).addCon 36 _ (conF_spl _) (conF_ok rkind_ok)).addCon 35 _ (conF_spl _) (conF_ok rkey_ok)).addCon 38 _ (conF_spl _) (conF_ok rsign_ok)).addCon 13 _ (conF_spl _) (conF_ok rwrap_ok)
/-- the greatest number that is gone on with -/
def limK (k : Nat) : Nat := cond (Nat.beq k 5) 9223372036854775808 (cond (Nat.beq k 9) 18446744073709551615 8589934592)
/-- may one digit more stand there? -/
def stepK (k u c : Nat) : Bool := cond (Nat.beq k 0) true (Nat.ble (u * 10 + c) (limK k))
def dOK (k d : Nat) : Nat → Nat → Nat → Bool
  | 0, _, _ => true
  | f + 1, j, u => cond (stepK k u (byteAt d j - 48)) (dOK k d f (j + 1) (u * 10 + (byteAt d j - 48))) false
/-- how the document's machine keeps a number -/
def zK (k u : Nat) : Int := cond (Nat.beq k 5) (-(Int.ofNat u)) (cond (Nat.beq k 9) (wrapF .i64 (Int.ofNat u)) (Int.ofNat u))
def eU (k : Nat) (z : Int) (j m d : Nat) : Env := T.set (T.set (T.set (T.set T.leaf (.str m d) 0) (.int .i64 (.ofNat k)) 1) (.int .i64 z) 6) (.int .i64 (.ofNat j)) 7
def eUO (k : Nat) (z : Int) : Env := T.set (T.set T.leaf (.int .i64 (.ofNat k)) 1) (.int .i64 z) 6
def eUF : Env := T.set (T.set T.leaf (.int .i64 (.ofNat 0)) 4) (.bool false) 5
structure SU where
  j : Nat
  u : Nat
  m : Nat
  d : Nat
def okU (k : Nat) (s : SU) : Prop := s.m ≤ 20 ∧ (k = 0 → s.m ≤ 9 ∧ s.u < 10 ^ s.j ∧ s.j ≤ s.m) ∧ (k ≠ 0 → s.u ≤ limK k) ∧ ∀ j, j < s.m → isD (byteAt s.d j) = true
def lU (k : Nat) : LCon := lcE2 (okU k) (fun s => eU k (zK k s.u) s.j s.m s.d) (fun _ => hNil) (fun s => dOK k s.d (s.m - s.j) s.j s.u)
  (fun s => (.ext 0, eUO k (zK k (vVal s.d (s.m - s.j) s.j s.u)), hNil)) (fun _ => (.ret, eUF, hNil))
def R2 (k : Nat) : Cfg := R1.addLc 37 6 (lU k)
def dsU (k : Nat) : List Bool := cond (Nat.beq k 9) [true, true, false, false] []
end
end Go.Proofs.YtoeoaiipchklbaaDoor
/- The document's lexer: runs of number's loop. -/
set_option autoImplicit false
set_option maxRecDepth 1000000
set_option maxHeartbeats 0
namespace Go.Proofs.YtoeoaiipchklbaaDoor
noncomputable section
open Go.X
theorem rnum_body0 (j m d : Nat) (n : Int) (K : KE) : xcode R1 Tryd.prog F 37 (loopC Tryd.prog 37 6) (R1.mask 37) (tmpsN Tryd.prog 37) (eU 0 n j m d) hNil [] K = (bcase (ltI (Int.ofNat j) (Int.ofNat m)) (bcase (inB (Int.ofNat j) m) (bcase (inR Go.IntKind.u8 (Int.ofNat (byteAt d (Int.toNat (Int.ofNat j))) - Int.ofNat 48)) (bcase (inR Go.IntKind.i64 (Int.ofNat (byteAt d (Int.toNat (Int.ofNat j))) - Int.ofNat 48)) (bcase (inR Go.IntKind.i64 (Int.ofNat 10 * n)) (bcase (inR Go.IntKind.i64 (Int.ofNat 10 * n + (Int.ofNat (byteAt d (Int.toNat (Int.ofNat j))) - Int.ofNat 48))) (bcase (inR Go.IntKind.i64 (Int.ofNat j + Int.ofNat 1)) (K XE.nrm (T.node (T.node (T.node (T.node T.leaf Option.none (T.node T.leaf (Option.some (AV.int Go.IntKind.i64 (Int.ofNat (byteAt d (Int.toNat (Int.ofNat j))) - Int.ofNat 48))) T.leaf)) Option.none (T.node (T.node (T.node T.leaf Option.none (T.node T.leaf (Option.some (AV.bool true)) T.leaf)) Option.none T.leaf) Option.none T.leaf)) Option.none (T.node T.leaf Option.none (T.node T.leaf (Option.some (AV.int Go.IntKind.i64 (Int.ofNat 10 * n + (Int.ofNat (byteAt d (Int.toNat (Int.ofNat j))) - Int.ofNat 48)))) T.leaf))) (Option.some (AV.str m d)) (T.node (T.node T.leaf Option.none (T.node (T.node T.leaf Option.none (T.node T.leaf Option.none (T.node T.leaf (Option.some (AV.bool false)) T.leaf))) Option.none T.leaf)) (Option.some (AV.int Go.IntKind.i64 (Int.ofNat 0))) (T.node (T.node (T.node (T.node T.leaf Option.none (T.node T.leaf (Option.some (AV.int Go.IntKind.i64 (Int.ofNat 0))) T.leaf)) Option.none T.leaf) Option.none (T.node T.leaf Option.none (T.node T.leaf (Option.some (AV.bool true)) T.leaf))) Option.none (T.node T.leaf (Option.some (AV.int Go.IntKind.i64 (Int.ofNat j + Int.ofNat 1))) T.leaf)))) (H.mk T.leaf 0) []) False) False) False) False) False) False) (K (XE.ext 0) (T.node (T.node T.leaf Option.none (T.node T.leaf Option.none (T.node T.leaf (Option.some (AV.int Go.IntKind.i64 n)) T.leaf))) (Option.some (AV.str m d)) (T.node T.leaf (Option.some (AV.int Go.IntKind.i64 (Int.ofNat 0))) (T.node (T.node T.leaf Option.none (T.node T.leaf Option.none (T.node T.leaf (Option.some (AV.bool false)) T.leaf))) Option.none (T.node T.leaf (Option.some (AV.int Go.IntKind.i64 (Int.ofNat j))) T.leaf)))) (H.mk T.leaf 0) [])) := by kernel_rfl
theorem rnum_body2 (j m d : Nat) (n : Int) (K : KE) : xcode R1 Tryd.prog F 37 (loopC Tryd.prog 37 6) (R1.mask 37) (tmpsN Tryd.prog 37) (eU 2 n j m d) hNil [] K = (bcase (ltI (Int.ofNat j) (Int.ofNat m)) (bcase (inB (Int.ofNat j) m) (bcase (inR Go.IntKind.u8 (Int.ofNat (byteAt d (Int.toNat (Int.ofNat j))) - Int.ofNat 48)) (bcase (inR Go.IntKind.i64 (Int.ofNat (byteAt d (Int.toNat (Int.ofNat j))) - Int.ofNat 48)) (bcase (inR Go.IntKind.i64 (Int.ofNat 10 * n)) (bcase (inR Go.IntKind.i64 (Int.ofNat 10 * n + (Int.ofNat (byteAt d (Int.toNat (Int.ofNat j))) - Int.ofNat 48))) (bcase (ltI (Int.ofNat 8589934592) (Int.ofNat 10 * n + (Int.ofNat (byteAt d (Int.toNat (Int.ofNat j))) - Int.ofNat 48))) (K XE.ret (T.node (T.node (T.node (T.node T.leaf Option.none (T.node T.leaf (Option.some (AV.int Go.IntKind.i64 (Int.ofNat (byteAt d (Int.toNat (Int.ofNat j))) - Int.ofNat 48))) T.leaf)) Option.none (T.node (T.node (T.node T.leaf Option.none (T.node T.leaf (Option.some (AV.bool true)) T.leaf)) Option.none T.leaf) (Option.some (AV.int Go.IntKind.i64 (Int.ofNat 0))) T.leaf)) Option.none (T.node T.leaf Option.none (T.node T.leaf (Option.some (AV.int Go.IntKind.i64 (Int.ofNat 10 * n + (Int.ofNat (byteAt d (Int.toNat (Int.ofNat j))) - Int.ofNat 48)))) T.leaf))) (Option.some (AV.str m d)) (T.node (T.node T.leaf Option.none (T.node (T.node T.leaf Option.none (T.node T.leaf Option.none (T.node T.leaf (Option.some (AV.bool true)) T.leaf))) (Option.some (AV.bool false)) T.leaf)) (Option.some (AV.int Go.IntKind.i64 (Int.ofNat 2))) (T.node (T.node (T.node (T.node T.leaf Option.none (T.node T.leaf (Option.some (AV.int Go.IntKind.i64 (Int.ofNat 2))) T.leaf)) Option.none T.leaf) Option.none (T.node T.leaf Option.none (T.node T.leaf (Option.some (AV.bool true)) T.leaf))) Option.none (T.node T.leaf (Option.some (AV.int Go.IntKind.i64 (Int.ofNat j))) T.leaf)))) (H.mk T.leaf 0) []) (bcase (inR Go.IntKind.i64 (Int.ofNat j + Int.ofNat 1)) (K XE.nrm (T.node (T.node (T.node (T.node T.leaf Option.none (T.node T.leaf (Option.some (AV.int Go.IntKind.i64 (Int.ofNat (byteAt d (Int.toNat (Int.ofNat j))) - Int.ofNat 48))) T.leaf)) Option.none (T.node (T.node (T.node T.leaf Option.none (T.node T.leaf (Option.some (AV.bool true)) T.leaf)) Option.none T.leaf) Option.none T.leaf)) Option.none (T.node T.leaf Option.none (T.node T.leaf (Option.some (AV.int Go.IntKind.i64 (Int.ofNat 10 * n + (Int.ofNat (byteAt d (Int.toNat (Int.ofNat j))) - Int.ofNat 48)))) T.leaf))) (Option.some (AV.str m d)) (T.node (T.node T.leaf Option.none (T.node (T.node T.leaf Option.none (T.node T.leaf Option.none (T.node T.leaf (Option.some (AV.bool false)) T.leaf))) Option.none T.leaf)) (Option.some (AV.int Go.IntKind.i64 (Int.ofNat 2))) (T.node (T.node (T.node (T.node T.leaf Option.none (T.node T.leaf (Option.some (AV.int Go.IntKind.i64 (Int.ofNat 2))) T.leaf)) Option.none T.leaf) Option.none (T.node T.leaf Option.none (T.node T.leaf (Option.some (AV.bool true)) T.leaf))) Option.none (T.node T.leaf (Option.some (AV.int Go.IntKind.i64 (Int.ofNat j + Int.ofNat 1))) T.leaf)))) (H.mk T.leaf 0) []) False)) False) False) False) False) False) (K (XE.ext 0) (T.node (T.node T.leaf Option.none (T.node T.leaf Option.none (T.node T.leaf (Option.some (AV.int Go.IntKind.i64 n)) T.leaf))) (Option.some (AV.str m d)) (T.node T.leaf (Option.some (AV.int Go.IntKind.i64 (Int.ofNat 2))) (T.node (T.node T.leaf Option.none (T.node T.leaf Option.none (T.node T.leaf (Option.some (AV.bool false)) T.leaf))) Option.none (T.node T.leaf (Option.some (AV.int Go.IntKind.i64 (Int.ofNat j))) T.leaf)))) (H.mk T.leaf 0) [])) := by kernel_rfl
theorem rnum_body3 (j m d : Nat) (n : Int) (K : KE) : xcode R1 Tryd.prog F 37 (loopC Tryd.prog 37 6) (R1.mask 37) (tmpsN Tryd.prog 37) (eU 3 n j m d) hNil [] K = (bcase (ltI (Int.ofNat j) (Int.ofNat m)) (bcase (inB (Int.ofNat j) m) (bcase (inR Go.IntKind.u8 (Int.ofNat (byteAt d (Int.toNat (Int.ofNat j))) - Int.ofNat 48)) (bcase (inR Go.IntKind.i64 (Int.ofNat (byteAt d (Int.toNat (Int.ofNat j))) - Int.ofNat 48)) (bcase (inR Go.IntKind.i64 (Int.ofNat 10 * n)) (bcase (inR Go.IntKind.i64 (Int.ofNat 10 * n + (Int.ofNat (byteAt d (Int.toNat (Int.ofNat j))) - Int.ofNat 48))) (bcase (ltI (Int.ofNat 8589934592) (Int.ofNat 10 * n + (Int.ofNat (byteAt d (Int.toNat (Int.ofNat j))) - Int.ofNat 48))) (K XE.ret (T.node (T.node (T.node (T.node T.leaf Option.none (T.node T.leaf (Option.some (AV.int Go.IntKind.i64 (Int.ofNat (byteAt d (Int.toNat (Int.ofNat j))) - Int.ofNat 48))) T.leaf)) Option.none (T.node (T.node (T.node T.leaf Option.none (T.node T.leaf (Option.some (AV.bool true)) T.leaf)) Option.none T.leaf) (Option.some (AV.int Go.IntKind.i64 (Int.ofNat 0))) T.leaf)) Option.none (T.node T.leaf Option.none (T.node T.leaf (Option.some (AV.int Go.IntKind.i64 (Int.ofNat 10 * n + (Int.ofNat (byteAt d (Int.toNat (Int.ofNat j))) - Int.ofNat 48)))) T.leaf))) (Option.some (AV.str m d)) (T.node (T.node T.leaf Option.none (T.node (T.node T.leaf Option.none (T.node T.leaf Option.none (T.node T.leaf (Option.some (AV.bool true)) T.leaf))) (Option.some (AV.bool false)) T.leaf)) (Option.some (AV.int Go.IntKind.i64 (Int.ofNat 3))) (T.node (T.node (T.node (T.node T.leaf Option.none (T.node T.leaf (Option.some (AV.int Go.IntKind.i64 (Int.ofNat 3))) T.leaf)) Option.none T.leaf) Option.none (T.node T.leaf Option.none (T.node T.leaf (Option.some (AV.bool true)) T.leaf))) Option.none (T.node T.leaf (Option.some (AV.int Go.IntKind.i64 (Int.ofNat j))) T.leaf)))) (H.mk T.leaf 0) []) (bcase (inR Go.IntKind.i64 (Int.ofNat j + Int.ofNat 1)) (K XE.nrm (T.node (T.node (T.node (T.node T.leaf Option.none (T.node T.leaf (Option.some (AV.int Go.IntKind.i64 (Int.ofNat (byteAt d (Int.toNat (Int.ofNat j))) - Int.ofNat 48))) T.leaf)) Option.none (T.node (T.node (T.node T.leaf Option.none (T.node T.leaf (Option.some (AV.bool true)) T.leaf)) Option.none T.leaf) Option.none T.leaf)) Option.none (T.node T.leaf Option.none (T.node T.leaf (Option.some (AV.int Go.IntKind.i64 (Int.ofNat 10 * n + (Int.ofNat (byteAt d (Int.toNat (Int.ofNat j))) - Int.ofNat 48)))) T.leaf))) (Option.some (AV.str m d)) (T.node (T.node T.leaf Option.none (T.node (T.node T.leaf Option.none (T.node T.leaf Option.none (T.node T.leaf (Option.some (AV.bool false)) T.leaf))) Option.none T.leaf)) (Option.some (AV.int Go.IntKind.i64 (Int.ofNat 3))) (T.node (T.node (T.node (T.node T.leaf Option.none (T.node T.leaf (Option.some (AV.int Go.IntKind.i64 (Int.ofNat 3))) T.leaf)) Option.none T.leaf) Option.none (T.node T.leaf Option.none (T.node T.leaf (Option.some (AV.bool true)) T.leaf))) Option.none (T.node T.leaf (Option.some (AV.int Go.IntKind.i64 (Int.ofNat j + Int.ofNat 1))) T.leaf)))) (H.mk T.leaf 0) []) False)) False) False) False) False) False) (K (XE.ext 0) (T.node (T.node T.leaf Option.none (T.node T.leaf Option.none (T.node T.leaf (Option.some (AV.int Go.IntKind.i64 n)) T.leaf))) (Option.some (AV.str m d)) (T.node T.leaf (Option.some (AV.int Go.IntKind.i64 (Int.ofNat 3))) (T.node (T.node T.leaf Option.none (T.node T.leaf Option.none (T.node T.leaf (Option.some (AV.bool false)) T.leaf))) Option.none (T.node T.leaf (Option.some (AV.int Go.IntKind.i64 (Int.ofNat j))) T.leaf)))) (H.mk T.leaf 0) [])) := by kernel_rfl
theorem rnum_body4 (j m d : Nat) (n : Int) (K : KE) : xcode R1 Tryd.prog F 37 (loopC Tryd.prog 37 6) (R1.mask 37) (tmpsN Tryd.prog 37) (eU 4 n j m d) hNil [] K = (bcase (ltI (Int.ofNat j) (Int.ofNat m)) (bcase (inB (Int.ofNat j) m) (bcase (inR Go.IntKind.u8 (Int.ofNat (byteAt d (Int.toNat (Int.ofNat j))) - Int.ofNat 48)) (bcase (inR Go.IntKind.i64 (Int.ofNat (byteAt d (Int.toNat (Int.ofNat j))) - Int.ofNat 48)) (bcase (inR Go.IntKind.i64 (Int.ofNat 10 * n)) (bcase (inR Go.IntKind.i64 (Int.ofNat 10 * n + (Int.ofNat (byteAt d (Int.toNat (Int.ofNat j))) - Int.ofNat 48))) (bcase (ltI (Int.ofNat 8589934592) (Int.ofNat 10 * n + (Int.ofNat (byteAt d (Int.toNat (Int.ofNat j))) - Int.ofNat 48))) (K XE.ret (T.node (T.node (T.node (T.node T.leaf Option.none (T.node T.leaf (Option.some (AV.int Go.IntKind.i64 (Int.ofNat (byteAt d (Int.toNat (Int.ofNat j))) - Int.ofNat 48))) T.leaf)) Option.none (T.node (T.node (T.node T.leaf Option.none (T.node T.leaf (Option.some (AV.bool true)) T.leaf)) Option.none T.leaf) (Option.some (AV.int Go.IntKind.i64 (Int.ofNat 0))) T.leaf)) Option.none (T.node T.leaf Option.none (T.node T.leaf (Option.some (AV.int Go.IntKind.i64 (Int.ofNat 10 * n + (Int.ofNat (byteAt d (Int.toNat (Int.ofNat j))) - Int.ofNat 48)))) T.leaf))) (Option.some (AV.str m d)) (T.node (T.node T.leaf Option.none (T.node (T.node T.leaf Option.none (T.node T.leaf Option.none (T.node T.leaf (Option.some (AV.bool true)) T.leaf))) (Option.some (AV.bool false)) T.leaf)) (Option.some (AV.int Go.IntKind.i64 (Int.ofNat 4))) (T.node (T.node (T.node (T.node T.leaf Option.none (T.node T.leaf (Option.some (AV.int Go.IntKind.i64 (Int.ofNat 4))) T.leaf)) Option.none T.leaf) Option.none (T.node T.leaf Option.none (T.node T.leaf (Option.some (AV.bool true)) T.leaf))) Option.none (T.node T.leaf (Option.some (AV.int Go.IntKind.i64 (Int.ofNat j))) T.leaf)))) (H.mk T.leaf 0) []) (bcase (inR Go.IntKind.i64 (Int.ofNat j + Int.ofNat 1)) (K XE.nrm (T.node (T.node (T.node (T.node T.leaf Option.none (T.node T.leaf (Option.some (AV.int Go.IntKind.i64 (Int.ofNat (byteAt d (Int.toNat (Int.ofNat j))) - Int.ofNat 48))) T.leaf)) Option.none (T.node (T.node (T.node T.leaf Option.none (T.node T.leaf (Option.some (AV.bool true)) T.leaf)) Option.none T.leaf) Option.none T.leaf)) Option.none (T.node T.leaf Option.none (T.node T.leaf (Option.some (AV.int Go.IntKind.i64 (Int.ofNat 10 * n + (Int.ofNat (byteAt d (Int.toNat (Int.ofNat j))) - Int.ofNat 48)))) T.leaf))) (Option.some (AV.str m d)) (T.node (T.node T.leaf Option.none (T.node (T.node T.leaf Option.none (T.node T.leaf Option.none (T.node T.leaf (Option.some (AV.bool false)) T.leaf))) Option.none T.leaf)) (Option.some (AV.int Go.IntKind.i64 (Int.ofNat 4))) (T.node (T.node (T.node (T.node T.leaf Option.none (T.node T.leaf (Option.some (AV.int Go.IntKind.i64 (Int.ofNat 4))) T.leaf)) Option.none T.leaf) Option.none (T.node T.leaf Option.none (T.node T.leaf (Option.some (AV.bool true)) T.leaf))) Option.none (T.node T.leaf (Option.some (AV.int Go.IntKind.i64 (Int.ofNat j + Int.ofNat 1))) T.leaf)))) (H.mk T.leaf 0) []) False)) False) False) False) False) False) (K (XE.ext 0) (T.node (T.node T.leaf Option.none (T.node T.leaf Option.none (T.node T.leaf (Option.some (AV.int Go.IntKind.i64 n)) T.leaf))) (Option.some (AV.str m d)) (T.node T.leaf (Option.some (AV.int Go.IntKind.i64 (Int.ofNat 4))) (T.node (T.node T.leaf Option.none (T.node T.leaf Option.none (T.node T.leaf (Option.some (AV.bool false)) T.leaf))) Option.none (T.node T.leaf (Option.some (AV.int Go.IntKind.i64 (Int.ofNat j))) T.leaf)))) (H.mk T.leaf 0) [])) := by kernel_rfl
theorem rnum_body5 (j m d : Nat) (n : Int) (K : KE) : xcode R1 Tryd.prog F 37 (loopC Tryd.prog 37 6) (R1.mask 37) (tmpsN Tryd.prog 37) (eU 5 n j m d) hNil [] K = (bcase (ltI (Int.ofNat j) (Int.ofNat m)) (bcase (inB (Int.ofNat j) m) (bcase (inR Go.IntKind.u8 (Int.ofNat (byteAt d (Int.toNat (Int.ofNat j))) - Int.ofNat 48)) (bcase (inR Go.IntKind.i64 (Int.ofNat (byteAt d (Int.toNat (Int.ofNat j))) - Int.ofNat 48)) (bcase (ltI n (Int.negSucc 922337203685477579)) (K XE.ret (T.node (T.node (T.node (T.node T.leaf Option.none (T.node T.leaf (Option.some (AV.int Go.IntKind.i64 (Int.ofNat (byteAt d (Int.toNat (Int.ofNat j))) - Int.ofNat 48))) T.leaf)) Option.none (T.node (T.node (T.node T.leaf Option.none (T.node T.leaf (Option.some (AV.bool false)) T.leaf)) Option.none T.leaf) (Option.some (AV.int Go.IntKind.i64 (Int.ofNat 0))) T.leaf)) Option.none (T.node T.leaf Option.none (T.node (T.node T.leaf Option.none (T.node T.leaf Option.none (T.node T.leaf (Option.some (AV.bool true)) T.leaf))) (Option.some (AV.int Go.IntKind.i64 n)) T.leaf))) (Option.some (AV.str m d)) (T.node (T.node (T.node (T.node (T.node (T.node T.leaf Option.none (T.node T.leaf (Option.some (AV.bool true)) T.leaf)) Option.none T.leaf) Option.none T.leaf) Option.none T.leaf) Option.none (T.node T.leaf (Option.some (AV.bool false)) T.leaf)) (Option.some (AV.int Go.IntKind.i64 (Int.ofNat 5))) (T.node (T.node (T.node (T.node T.leaf Option.none (T.node T.leaf (Option.some (AV.int Go.IntKind.i64 (Int.ofNat 5))) T.leaf)) Option.none T.leaf) Option.none (T.node T.leaf Option.none (T.node T.leaf (Option.some (AV.bool true)) T.leaf))) Option.none (T.node T.leaf (Option.some (AV.int Go.IntKind.i64 (Int.ofNat j))) T.leaf)))) (H.mk T.leaf 0) []) (bcase (eqI n (Int.negSucc 922337203685477579)) (bcase (ltI (Int.ofNat 8) (Int.ofNat (byteAt d (Int.toNat (Int.ofNat j))) - Int.ofNat 48)) (K XE.ret (T.node (T.node (T.node (T.node T.leaf Option.none (T.node T.leaf (Option.some (AV.int Go.IntKind.i64 (Int.ofNat (byteAt d (Int.toNat (Int.ofNat j))) - Int.ofNat 48))) T.leaf)) Option.none (T.node (T.node (T.node T.leaf Option.none (T.node T.leaf (Option.some (AV.bool false)) T.leaf)) Option.none T.leaf) (Option.some (AV.int Go.IntKind.i64 (Int.ofNat 0))) T.leaf)) Option.none (T.node T.leaf Option.none (T.node (T.node T.leaf Option.none (T.node T.leaf Option.none (T.node T.leaf (Option.some (AV.bool true)) T.leaf))) (Option.some (AV.int Go.IntKind.i64 n)) T.leaf))) (Option.some (AV.str m d)) (T.node (T.node (T.node (T.node (T.node (T.node T.leaf Option.none (T.node T.leaf (Option.some (AV.bool true)) T.leaf)) Option.none T.leaf) Option.none T.leaf) Option.none T.leaf) Option.none (T.node T.leaf (Option.some (AV.bool false)) T.leaf)) (Option.some (AV.int Go.IntKind.i64 (Int.ofNat 5))) (T.node (T.node (T.node (T.node T.leaf Option.none (T.node T.leaf (Option.some (AV.int Go.IntKind.i64 (Int.ofNat 5))) T.leaf)) Option.none T.leaf) Option.none (T.node T.leaf Option.none (T.node T.leaf (Option.some (AV.bool true)) T.leaf))) Option.none (T.node T.leaf (Option.some (AV.int Go.IntKind.i64 (Int.ofNat j))) T.leaf)))) (H.mk T.leaf 0) []) (bcase (inR Go.IntKind.i64 (Int.ofNat 10 * n)) (bcase (inR Go.IntKind.i64 (Int.ofNat 10 * n - (Int.ofNat (byteAt d (Int.toNat (Int.ofNat j))) - Int.ofNat 48))) (bcase (inR Go.IntKind.i64 (Int.ofNat j + Int.ofNat 1)) (K XE.nrm (T.node (T.node (T.node (T.node T.leaf Option.none (T.node T.leaf (Option.some (AV.int Go.IntKind.i64 (Int.ofNat (byteAt d (Int.toNat (Int.ofNat j))) - Int.ofNat 48))) T.leaf)) Option.none (T.node (T.node (T.node T.leaf Option.none (T.node T.leaf (Option.some (AV.bool false)) T.leaf)) Option.none T.leaf) Option.none T.leaf)) Option.none (T.node T.leaf Option.none (T.node (T.node T.leaf Option.none (T.node T.leaf Option.none (T.node T.leaf (Option.some (AV.bool true)) T.leaf))) (Option.some (AV.int Go.IntKind.i64 (Int.ofNat 10 * n - (Int.ofNat (byteAt d (Int.toNat (Int.ofNat j))) - Int.ofNat 48)))) T.leaf))) (Option.some (AV.str m d)) (T.node (T.node (T.node (T.node (T.node (T.node T.leaf Option.none (T.node T.leaf (Option.some (AV.bool false)) T.leaf)) Option.none T.leaf) Option.none T.leaf) Option.none T.leaf) Option.none T.leaf) (Option.some (AV.int Go.IntKind.i64 (Int.ofNat 5))) (T.node (T.node (T.node (T.node T.leaf Option.none (T.node T.leaf (Option.some (AV.int Go.IntKind.i64 (Int.ofNat 5))) T.leaf)) Option.none T.leaf) Option.none (T.node T.leaf Option.none (T.node T.leaf (Option.some (AV.bool true)) T.leaf))) Option.none (T.node T.leaf (Option.some (AV.int Go.IntKind.i64 (Int.ofNat j + Int.ofNat 1))) T.leaf)))) (H.mk T.leaf 0) []) False) False) False)) (bcase (inR Go.IntKind.i64 (Int.ofNat 10 * n)) (bcase (inR Go.IntKind.i64 (Int.ofNat 10 * n - (Int.ofNat (byteAt d (Int.toNat (Int.ofNat j))) - Int.ofNat 48))) (bcase (inR Go.IntKind.i64 (Int.ofNat j + Int.ofNat 1)) (K XE.nrm (T.node (T.node (T.node (T.node T.leaf Option.none (T.node T.leaf (Option.some (AV.int Go.IntKind.i64 (Int.ofNat (byteAt d (Int.toNat (Int.ofNat j))) - Int.ofNat 48))) T.leaf)) Option.none (T.node (T.node (T.node T.leaf Option.none (T.node T.leaf (Option.some (AV.bool false)) T.leaf)) Option.none T.leaf) Option.none T.leaf)) Option.none (T.node T.leaf Option.none (T.node (T.node T.leaf Option.none (T.node T.leaf Option.none (T.node T.leaf (Option.some (AV.bool true)) T.leaf))) (Option.some (AV.int Go.IntKind.i64 (Int.ofNat 10 * n - (Int.ofNat (byteAt d (Int.toNat (Int.ofNat j))) - Int.ofNat 48)))) T.leaf))) (Option.some (AV.str m d)) (T.node (T.node (T.node (T.node (T.node (T.node T.leaf Option.none (T.node T.leaf (Option.some (AV.bool false)) T.leaf)) Option.none T.leaf) Option.none T.leaf) Option.none T.leaf) Option.none T.leaf) (Option.some (AV.int Go.IntKind.i64 (Int.ofNat 5))) (T.node (T.node (T.node (T.node T.leaf Option.none (T.node T.leaf (Option.some (AV.int Go.IntKind.i64 (Int.ofNat 5))) T.leaf)) Option.none T.leaf) Option.none (T.node T.leaf Option.none (T.node T.leaf (Option.some (AV.bool true)) T.leaf))) Option.none (T.node T.leaf (Option.some (AV.int Go.IntKind.i64 (Int.ofNat j + Int.ofNat 1))) T.leaf)))) (H.mk T.leaf 0) []) False) False) False))) False) False) False) (K (XE.ext 0) (T.node (T.node T.leaf Option.none (T.node T.leaf Option.none (T.node T.leaf (Option.some (AV.int Go.IntKind.i64 n)) T.leaf))) (Option.some (AV.str m d)) (T.node T.leaf (Option.some (AV.int Go.IntKind.i64 (Int.ofNat 5))) (T.node (T.node T.leaf Option.none (T.node T.leaf Option.none (T.node T.leaf (Option.some (AV.bool false)) T.leaf))) Option.none (T.node T.leaf (Option.some (AV.int Go.IntKind.i64 (Int.ofNat j))) T.leaf)))) (H.mk T.leaf 0) [])) := by kernel_rfl
theorem rnum_body6 (j m d : Nat) (n : Int) (K : KE) : xcode R1 Tryd.prog F 37 (loopC Tryd.prog 37 6) (R1.mask 37) (tmpsN Tryd.prog 37) (eU 6 n j m d) hNil [] K = (bcase (ltI (Int.ofNat j) (Int.ofNat m)) (bcase (inB (Int.ofNat j) m) (bcase (inR Go.IntKind.u8 (Int.ofNat (byteAt d (Int.toNat (Int.ofNat j))) - Int.ofNat 48)) (bcase (inR Go.IntKind.i64 (Int.ofNat (byteAt d (Int.toNat (Int.ofNat j))) - Int.ofNat 48)) (bcase (inR Go.IntKind.i64 (Int.ofNat 10 * n)) (bcase (inR Go.IntKind.i64 (Int.ofNat 10 * n + (Int.ofNat (byteAt d (Int.toNat (Int.ofNat j))) - Int.ofNat 48))) (bcase (ltI (Int.ofNat 8589934592) (Int.ofNat 10 * n + (Int.ofNat (byteAt d (Int.toNat (Int.ofNat j))) - Int.ofNat 48))) (K XE.ret (T.node (T.node (T.node (T.node T.leaf Option.none (T.node T.leaf (Option.some (AV.int Go.IntKind.i64 (Int.ofNat (byteAt d (Int.toNat (Int.ofNat j))) - Int.ofNat 48))) T.leaf)) Option.none (T.node (T.node (T.node T.leaf Option.none (T.node T.leaf (Option.some (AV.bool true)) T.leaf)) Option.none T.leaf) (Option.some (AV.int Go.IntKind.i64 (Int.ofNat 0))) T.leaf)) Option.none (T.node T.leaf Option.none (T.node T.leaf (Option.some (AV.int Go.IntKind.i64 (Int.ofNat 10 * n + (Int.ofNat (byteAt d (Int.toNat (Int.ofNat j))) - Int.ofNat 48)))) T.leaf))) (Option.some (AV.str m d)) (T.node (T.node T.leaf Option.none (T.node (T.node T.leaf Option.none (T.node T.leaf Option.none (T.node T.leaf (Option.some (AV.bool true)) T.leaf))) (Option.some (AV.bool false)) T.leaf)) (Option.some (AV.int Go.IntKind.i64 (Int.ofNat 6))) (T.node (T.node (T.node (T.node T.leaf Option.none (T.node T.leaf (Option.some (AV.int Go.IntKind.i64 (Int.ofNat 6))) T.leaf)) Option.none T.leaf) Option.none (T.node T.leaf Option.none (T.node T.leaf (Option.some (AV.bool true)) T.leaf))) Option.none (T.node T.leaf (Option.some (AV.int Go.IntKind.i64 (Int.ofNat j))) T.leaf)))) (H.mk T.leaf 0) []) (bcase (inR Go.IntKind.i64 (Int.ofNat j + Int.ofNat 1)) (K XE.nrm (T.node (T.node (T.node (T.node T.leaf Option.none (T.node T.leaf (Option.some (AV.int Go.IntKind.i64 (Int.ofNat (byteAt d (Int.toNat (Int.ofNat j))) - Int.ofNat 48))) T.leaf)) Option.none (T.node (T.node (T.node T.leaf Option.none (T.node T.leaf (Option.some (AV.bool true)) T.leaf)) Option.none T.leaf) Option.none T.leaf)) Option.none (T.node T.leaf Option.none (T.node T.leaf (Option.some (AV.int Go.IntKind.i64 (Int.ofNat 10 * n + (Int.ofNat (byteAt d (Int.toNat (Int.ofNat j))) - Int.ofNat 48)))) T.leaf))) (Option.some (AV.str m d)) (T.node (T.node T.leaf Option.none (T.node (T.node T.leaf Option.none (T.node T.leaf Option.none (T.node T.leaf (Option.some (AV.bool false)) T.leaf))) Option.none T.leaf)) (Option.some (AV.int Go.IntKind.i64 (Int.ofNat 6))) (T.node (T.node (T.node (T.node T.leaf Option.none (T.node T.leaf (Option.some (AV.int Go.IntKind.i64 (Int.ofNat 6))) T.leaf)) Option.none T.leaf) Option.none (T.node T.leaf Option.none (T.node T.leaf (Option.some (AV.bool true)) T.leaf))) Option.none (T.node T.leaf (Option.some (AV.int Go.IntKind.i64 (Int.ofNat j + Int.ofNat 1))) T.leaf)))) (H.mk T.leaf 0) []) False)) False) False) False) False) False) (K (XE.ext 0) (T.node (T.node T.leaf Option.none (T.node T.leaf Option.none (T.node T.leaf (Option.some (AV.int Go.IntKind.i64 n)) T.leaf))) (Option.some (AV.str m d)) (T.node T.leaf (Option.some (AV.int Go.IntKind.i64 (Int.ofNat 6))) (T.node (T.node T.leaf Option.none (T.node T.leaf Option.none (T.node T.leaf (Option.some (AV.bool false)) T.leaf))) Option.none (T.node T.leaf (Option.some (AV.int Go.IntKind.i64 (Int.ofNat j))) T.leaf)))) (H.mk T.leaf 0) [])) := by kernel_rfl
theorem rnum_body7 (j m d : Nat) (n : Int) (K : KE) : xcode R1 Tryd.prog F 37 (loopC Tryd.prog 37 6) (R1.mask 37) (tmpsN Tryd.prog 37) (eU 7 n j m d) hNil [] K = (bcase (ltI (Int.ofNat j) (Int.ofNat m)) (bcase (inB (Int.ofNat j) m) (bcase (inR Go.IntKind.u8 (Int.ofNat (byteAt d (Int.toNat (Int.ofNat j))) - Int.ofNat 48)) (bcase (inR Go.IntKind.i64 (Int.ofNat (byteAt d (Int.toNat (Int.ofNat j))) - Int.ofNat 48)) (bcase (inR Go.IntKind.i64 (Int.ofNat 10 * n)) (bcase (inR Go.IntKind.i64 (Int.ofNat 10 * n + (Int.ofNat (byteAt d (Int.toNat (Int.ofNat j))) - Int.ofNat 48))) (bcase (ltI (Int.ofNat 8589934592) (Int.ofNat 10 * n + (Int.ofNat (byteAt d (Int.toNat (Int.ofNat j))) - Int.ofNat 48))) (K XE.ret (T.node (T.node (T.node (T.node T.leaf Option.none (T.node T.leaf (Option.some (AV.int Go.IntKind.i64 (Int.ofNat (byteAt d (Int.toNat (Int.ofNat j))) - Int.ofNat 48))) T.leaf)) Option.none (T.node (T.node (T.node T.leaf Option.none (T.node T.leaf (Option.some (AV.bool true)) T.leaf)) Option.none T.leaf) (Option.some (AV.int Go.IntKind.i64 (Int.ofNat 0))) T.leaf)) Option.none (T.node T.leaf Option.none (T.node T.leaf (Option.some (AV.int Go.IntKind.i64 (Int.ofNat 10 * n + (Int.ofNat (byteAt d (Int.toNat (Int.ofNat j))) - Int.ofNat 48)))) T.leaf))) (Option.some (AV.str m d)) (T.node (T.node T.leaf Option.none (T.node (T.node T.leaf Option.none (T.node T.leaf Option.none (T.node T.leaf (Option.some (AV.bool true)) T.leaf))) (Option.some (AV.bool false)) T.leaf)) (Option.some (AV.int Go.IntKind.i64 (Int.ofNat 7))) (T.node (T.node (T.node (T.node T.leaf Option.none (T.node T.leaf (Option.some (AV.int Go.IntKind.i64 (Int.ofNat 7))) T.leaf)) Option.none T.leaf) Option.none (T.node T.leaf Option.none (T.node T.leaf (Option.some (AV.bool true)) T.leaf))) Option.none (T.node T.leaf (Option.some (AV.int Go.IntKind.i64 (Int.ofNat j))) T.leaf)))) (H.mk T.leaf 0) []) (bcase (inR Go.IntKind.i64 (Int.ofNat j + Int.ofNat 1)) (K XE.nrm (T.node (T.node (T.node (T.node T.leaf Option.none (T.node T.leaf (Option.some (AV.int Go.IntKind.i64 (Int.ofNat (byteAt d (Int.toNat (Int.ofNat j))) - Int.ofNat 48))) T.leaf)) Option.none (T.node (T.node (T.node T.leaf Option.none (T.node T.leaf (Option.some (AV.bool true)) T.leaf)) Option.none T.leaf) Option.none T.leaf)) Option.none (T.node T.leaf Option.none (T.node T.leaf (Option.some (AV.int Go.IntKind.i64 (Int.ofNat 10 * n + (Int.ofNat (byteAt d (Int.toNat (Int.ofNat j))) - Int.ofNat 48)))) T.leaf))) (Option.some (AV.str m d)) (T.node (T.node T.leaf Option.none (T.node (T.node T.leaf Option.none (T.node T.leaf Option.none (T.node T.leaf (Option.some (AV.bool false)) T.leaf))) Option.none T.leaf)) (Option.some (AV.int Go.IntKind.i64 (Int.ofNat 7))) (T.node (T.node (T.node (T.node T.leaf Option.none (T.node T.leaf (Option.some (AV.int Go.IntKind.i64 (Int.ofNat 7))) T.leaf)) Option.none T.leaf) Option.none (T.node T.leaf Option.none (T.node T.leaf (Option.some (AV.bool true)) T.leaf))) Option.none (T.node T.leaf (Option.some (AV.int Go.IntKind.i64 (Int.ofNat j + Int.ofNat 1))) T.leaf)))) (H.mk T.leaf 0) []) False)) False) False) False) False) False) (K (XE.ext 0) (T.node (T.node T.leaf Option.none (T.node T.leaf Option.none (T.node T.leaf (Option.some (AV.int Go.IntKind.i64 n)) T.leaf))) (Option.some (AV.str m d)) (T.node T.leaf (Option.some (AV.int Go.IntKind.i64 (Int.ofNat 7))) (T.node (T.node T.leaf Option.none (T.node T.leaf Option.none (T.node T.leaf (Option.some (AV.bool false)) T.leaf))) Option.none (T.node T.leaf (Option.some (AV.int Go.IntKind.i64 (Int.ofNat j))) T.leaf)))) (H.mk T.leaf 0) [])) := by kernel_rfl
theorem rnum_body8 (j m d : Nat) (n : Int) (K : KE) : xcode R1 Tryd.prog F 37 (loopC Tryd.prog 37 6) (R1.mask 37) (tmpsN Tryd.prog 37) (eU 8 n j m d) hNil [] K = (bcase (ltI (Int.ofNat j) (Int.ofNat m)) (bcase (inB (Int.ofNat j) m) (bcase (inR Go.IntKind.u8 (Int.ofNat (byteAt d (Int.toNat (Int.ofNat j))) - Int.ofNat 48)) (bcase (inR Go.IntKind.i64 (Int.ofNat (byteAt d (Int.toNat (Int.ofNat j))) - Int.ofNat 48)) (bcase (inR Go.IntKind.i64 (Int.ofNat 10 * n)) (bcase (inR Go.IntKind.i64 (Int.ofNat 10 * n + (Int.ofNat (byteAt d (Int.toNat (Int.ofNat j))) - Int.ofNat 48))) (bcase (ltI (Int.ofNat 8589934592) (Int.ofNat 10 * n + (Int.ofNat (byteAt d (Int.toNat (Int.ofNat j))) - Int.ofNat 48))) (K XE.ret (T.node (T.node (T.node (T.node T.leaf Option.none (T.node T.leaf (Option.some (AV.int Go.IntKind.i64 (Int.ofNat (byteAt d (Int.toNat (Int.ofNat j))) - Int.ofNat 48))) T.leaf)) Option.none (T.node (T.node (T.node T.leaf Option.none (T.node T.leaf (Option.some (AV.bool true)) T.leaf)) Option.none T.leaf) (Option.some (AV.int Go.IntKind.i64 (Int.ofNat 0))) T.leaf)) Option.none (T.node T.leaf Option.none (T.node T.leaf (Option.some (AV.int Go.IntKind.i64 (Int.ofNat 10 * n + (Int.ofNat (byteAt d (Int.toNat (Int.ofNat j))) - Int.ofNat 48)))) T.leaf))) (Option.some (AV.str m d)) (T.node (T.node T.leaf Option.none (T.node (T.node T.leaf Option.none (T.node T.leaf Option.none (T.node T.leaf (Option.some (AV.bool true)) T.leaf))) (Option.some (AV.bool false)) T.leaf)) (Option.some (AV.int Go.IntKind.i64 (Int.ofNat 8))) (T.node (T.node (T.node (T.node T.leaf Option.none (T.node T.leaf (Option.some (AV.int Go.IntKind.i64 (Int.ofNat 8))) T.leaf)) Option.none T.leaf) Option.none (T.node T.leaf Option.none (T.node T.leaf (Option.some (AV.bool true)) T.leaf))) Option.none (T.node T.leaf (Option.some (AV.int Go.IntKind.i64 (Int.ofNat j))) T.leaf)))) (H.mk T.leaf 0) []) (bcase (inR Go.IntKind.i64 (Int.ofNat j + Int.ofNat 1)) (K XE.nrm (T.node (T.node (T.node (T.node T.leaf Option.none (T.node T.leaf (Option.some (AV.int Go.IntKind.i64 (Int.ofNat (byteAt d (Int.toNat (Int.ofNat j))) - Int.ofNat 48))) T.leaf)) Option.none (T.node (T.node (T.node T.leaf Option.none (T.node T.leaf (Option.some (AV.bool true)) T.leaf)) Option.none T.leaf) Option.none T.leaf)) Option.none (T.node T.leaf Option.none (T.node T.leaf (Option.some (AV.int Go.IntKind.i64 (Int.ofNat 10 * n + (Int.ofNat (byteAt d (Int.toNat (Int.ofNat j))) - Int.ofNat 48)))) T.leaf))) (Option.some (AV.str m d)) (T.node (T.node T.leaf Option.none (T.node (T.node T.leaf Option.none (T.node T.leaf Option.none (T.node T.leaf (Option.some (AV.bool false)) T.leaf))) Option.none T.leaf)) (Option.some (AV.int Go.IntKind.i64 (Int.ofNat 8))) (T.node (T.node (T.node (T.node T.leaf Option.none (T.node T.leaf (Option.some (AV.int Go.IntKind.i64 (Int.ofNat 8))) T.leaf)) Option.none T.leaf) Option.none (T.node T.leaf Option.none (T.node T.leaf (Option.some (AV.bool true)) T.leaf))) Option.none (T.node T.leaf (Option.some (AV.int Go.IntKind.i64 (Int.ofNat j + Int.ofNat 1))) T.leaf)))) (H.mk T.leaf 0) []) False)) False) False) False) False) False) (K (XE.ext 0) (T.node (T.node T.leaf Option.none (T.node T.leaf Option.none (T.node T.leaf (Option.some (AV.int Go.IntKind.i64 n)) T.leaf))) (Option.some (AV.str m d)) (T.node T.leaf (Option.some (AV.int Go.IntKind.i64 (Int.ofNat 8))) (T.node (T.node T.leaf Option.none (T.node T.leaf Option.none (T.node T.leaf (Option.some (AV.bool false)) T.leaf))) Option.none (T.node T.leaf (Option.some (AV.int Go.IntKind.i64 (Int.ofNat j))) T.leaf)))) (H.mk T.leaf 0) [])) := by kernel_rfl
theorem rnum_body9 (j m d : Nat) (n : Int) (K : KE) : xcode R1 Tryd.prog F 37 (loopC Tryd.prog 37 6) (R1.mask 37) (tmpsN Tryd.prog 37) (eU 9 n j m d) hNil [true, true, false, false] K = (bcase (ltI (Int.ofNat j) (Int.ofNat m)) (bcase (inB (Int.ofNat j) m) (bcase (inR Go.IntKind.u8 (Int.ofNat (byteAt d (Int.toNat (Int.ofNat j))) - Int.ofNat 48)) (bcase (inR Go.IntKind.i64 (Int.ofNat (byteAt d (Int.toNat (Int.ofNat j))) - Int.ofNat 48)) (bcase (ltI n (Int.ofNat 0)) (K XE.ret (T.node (T.node (T.node (T.node T.leaf Option.none (T.node T.leaf (Option.some (AV.int Go.IntKind.i64 (Int.ofNat (byteAt d (Int.toNat (Int.ofNat j))) - Int.ofNat 48))) T.leaf)) Option.none (T.node (T.node (T.node T.leaf Option.none (T.node T.leaf (Option.some (AV.bool false)) T.leaf)) Option.none T.leaf) (Option.some (AV.int Go.IntKind.i64 (Int.ofNat 0))) T.leaf)) Option.none (T.node T.leaf Option.none (T.node (T.node (T.node (T.node T.leaf Option.none (T.node T.leaf (Option.some (AV.bool true)) T.leaf)) Option.none T.leaf) Option.none (T.node T.leaf Option.none (T.node T.leaf (Option.some (AV.bool false)) T.leaf))) (Option.some (AV.int Go.IntKind.i64 n)) T.leaf))) (Option.some (AV.str m d)) (T.node (T.node T.leaf Option.none (T.node (T.node T.leaf Option.none (T.node (T.node T.leaf Option.none (T.node T.leaf (Option.some (AV.bool true)) T.leaf)) Option.none T.leaf)) (Option.some (AV.bool false)) T.leaf)) (Option.some (AV.int Go.IntKind.i64 (Int.ofNat 9))) (T.node (T.node (T.node (T.node T.leaf Option.none (T.node T.leaf (Option.some (AV.int Go.IntKind.i64 (Int.ofNat 9))) T.leaf)) Option.none T.leaf) Option.none (T.node T.leaf Option.none (T.node T.leaf (Option.some (AV.bool true)) T.leaf))) Option.none (T.node T.leaf (Option.some (AV.int Go.IntKind.i64 (Int.ofNat j))) T.leaf)))) (H.mk T.leaf 0) [false, false]) (bcase (ltI (Int.ofNat 1844674407370955161) n) (K XE.ret (T.node (T.node (T.node (T.node T.leaf Option.none (T.node T.leaf (Option.some (AV.int Go.IntKind.i64 (Int.ofNat (byteAt d (Int.toNat (Int.ofNat j))) - Int.ofNat 48))) T.leaf)) Option.none (T.node (T.node (T.node T.leaf Option.none (T.node T.leaf (Option.some (AV.bool false)) T.leaf)) Option.none T.leaf) (Option.some (AV.int Go.IntKind.i64 (Int.ofNat 0))) T.leaf)) Option.none (T.node T.leaf Option.none (T.node (T.node (T.node (T.node T.leaf Option.none (T.node T.leaf (Option.some (AV.bool true)) T.leaf)) Option.none T.leaf) Option.none (T.node T.leaf Option.none (T.node T.leaf (Option.some (AV.bool false)) T.leaf))) (Option.some (AV.int Go.IntKind.i64 n)) T.leaf))) (Option.some (AV.str m d)) (T.node (T.node T.leaf Option.none (T.node (T.node T.leaf Option.none (T.node (T.node T.leaf Option.none (T.node T.leaf (Option.some (AV.bool true)) T.leaf)) Option.none T.leaf)) (Option.some (AV.bool false)) T.leaf)) (Option.some (AV.int Go.IntKind.i64 (Int.ofNat 9))) (T.node (T.node (T.node (T.node T.leaf Option.none (T.node T.leaf (Option.some (AV.int Go.IntKind.i64 (Int.ofNat 9))) T.leaf)) Option.none T.leaf) Option.none (T.node T.leaf Option.none (T.node T.leaf (Option.some (AV.bool true)) T.leaf))) Option.none (T.node T.leaf (Option.some (AV.int Go.IntKind.i64 (Int.ofNat j))) T.leaf)))) (H.mk T.leaf 0) [false, false]) (bcase (eqI n (Int.ofNat 1844674407370955161)) (bcase (ltI (Int.ofNat 5) (Int.ofNat (byteAt d (Int.toNat (Int.ofNat j))) - Int.ofNat 48)) (K XE.ret (T.node (T.node (T.node (T.node T.leaf Option.none (T.node T.leaf (Option.some (AV.int Go.IntKind.i64 (Int.ofNat (byteAt d (Int.toNat (Int.ofNat j))) - Int.ofNat 48))) T.leaf)) Option.none (T.node (T.node (T.node T.leaf Option.none (T.node T.leaf (Option.some (AV.bool false)) T.leaf)) Option.none T.leaf) (Option.some (AV.int Go.IntKind.i64 (Int.ofNat 0))) T.leaf)) Option.none (T.node T.leaf Option.none (T.node (T.node (T.node (T.node T.leaf Option.none (T.node T.leaf (Option.some (AV.bool true)) T.leaf)) Option.none T.leaf) Option.none (T.node T.leaf Option.none (T.node T.leaf (Option.some (AV.bool false)) T.leaf))) (Option.some (AV.int Go.IntKind.i64 n)) T.leaf))) (Option.some (AV.str m d)) (T.node (T.node T.leaf Option.none (T.node (T.node T.leaf Option.none (T.node (T.node T.leaf Option.none (T.node T.leaf (Option.some (AV.bool true)) T.leaf)) Option.none T.leaf)) (Option.some (AV.bool false)) T.leaf)) (Option.some (AV.int Go.IntKind.i64 (Int.ofNat 9))) (T.node (T.node (T.node (T.node T.leaf Option.none (T.node T.leaf (Option.some (AV.int Go.IntKind.i64 (Int.ofNat 9))) T.leaf)) Option.none T.leaf) Option.none (T.node T.leaf Option.none (T.node T.leaf (Option.some (AV.bool true)) T.leaf))) Option.none (T.node T.leaf (Option.some (AV.int Go.IntKind.i64 (Int.ofNat j))) T.leaf)))) (H.mk T.leaf 0) [false, false]) (bcase (inR Go.IntKind.i64 (Int.ofNat j + Int.ofNat 1)) (K XE.nrm (T.node (T.node (T.node (T.node T.leaf Option.none (T.node T.leaf (Option.some (AV.int Go.IntKind.i64 (Int.ofNat (byteAt d (Int.toNat (Int.ofNat j))) - Int.ofNat 48))) T.leaf)) Option.none (T.node (T.node (T.node T.leaf Option.none (T.node T.leaf (Option.some (AV.bool false)) T.leaf)) Option.none T.leaf) Option.none T.leaf)) Option.none (T.node T.leaf Option.none (T.node (T.node (T.node (T.node T.leaf Option.none (T.node T.leaf (Option.some (AV.bool true)) T.leaf)) Option.none T.leaf) Option.none (T.node T.leaf Option.none (T.node T.leaf (Option.some (AV.bool false)) T.leaf))) (Option.some (AV.int Go.IntKind.i64 (wrapF Go.IntKind.i64 (wrapF Go.IntKind.i64 (Int.ofNat 10 * n) + (Int.ofNat (byteAt d (Int.toNat (Int.ofNat j))) - Int.ofNat 48))))) T.leaf))) (Option.some (AV.str m d)) (T.node (T.node T.leaf Option.none (T.node (T.node T.leaf Option.none (T.node (T.node T.leaf Option.none (T.node T.leaf (Option.some (AV.bool false)) T.leaf)) Option.none T.leaf)) Option.none T.leaf)) (Option.some (AV.int Go.IntKind.i64 (Int.ofNat 9))) (T.node (T.node (T.node (T.node T.leaf Option.none (T.node T.leaf (Option.some (AV.int Go.IntKind.i64 (Int.ofNat 9))) T.leaf)) Option.none T.leaf) Option.none (T.node T.leaf Option.none (T.node T.leaf (Option.some (AV.bool true)) T.leaf))) Option.none (T.node T.leaf (Option.some (AV.int Go.IntKind.i64 (Int.ofNat j + Int.ofNat 1))) T.leaf)))) (H.mk T.leaf 0) []) False)) (bcase (inR Go.IntKind.i64 (Int.ofNat j + Int.ofNat 1)) (K XE.nrm (T.node (T.node (T.node (T.node T.leaf Option.none (T.node T.leaf (Option.some (AV.int Go.IntKind.i64 (Int.ofNat (byteAt d (Int.toNat (Int.ofNat j))) - Int.ofNat 48))) T.leaf)) Option.none (T.node (T.node (T.node T.leaf Option.none (T.node T.leaf (Option.some (AV.bool false)) T.leaf)) Option.none T.leaf) Option.none T.leaf)) Option.none (T.node T.leaf Option.none (T.node (T.node (T.node (T.node T.leaf Option.none (T.node T.leaf (Option.some (AV.bool true)) T.leaf)) Option.none T.leaf) Option.none (T.node T.leaf Option.none (T.node T.leaf (Option.some (AV.bool false)) T.leaf))) (Option.some (AV.int Go.IntKind.i64 (wrapF Go.IntKind.i64 (wrapF Go.IntKind.i64 (Int.ofNat 10 * n) + (Int.ofNat (byteAt d (Int.toNat (Int.ofNat j))) - Int.ofNat 48))))) T.leaf))) (Option.some (AV.str m d)) (T.node (T.node T.leaf Option.none (T.node (T.node T.leaf Option.none (T.node (T.node T.leaf Option.none (T.node T.leaf (Option.some (AV.bool false)) T.leaf)) Option.none T.leaf)) Option.none T.leaf)) (Option.some (AV.int Go.IntKind.i64 (Int.ofNat 9))) (T.node (T.node (T.node (T.node T.leaf Option.none (T.node T.leaf (Option.some (AV.int Go.IntKind.i64 (Int.ofNat 9))) T.leaf)) Option.none T.leaf) Option.none (T.node T.leaf Option.none (T.node T.leaf (Option.some (AV.bool true)) T.leaf))) Option.none (T.node T.leaf (Option.some (AV.int Go.IntKind.i64 (Int.ofNat j + Int.ofNat 1))) T.leaf)))) (H.mk T.leaf 0) []) False)))) False) False) False) (K (XE.ext 0) (T.node (T.node T.leaf Option.none (T.node T.leaf Option.none (T.node T.leaf (Option.some (AV.int Go.IntKind.i64 n)) T.leaf))) (Option.some (AV.str m d)) (T.node T.leaf (Option.some (AV.int Go.IntKind.i64 (Int.ofNat 9))) (T.node (T.node T.leaf Option.none (T.node T.leaf Option.none (T.node T.leaf (Option.some (AV.bool false)) T.leaf))) Option.none (T.node T.leaf (Option.some (AV.int Go.IntKind.i64 (Int.ofNat j))) T.leaf)))) (H.mk T.leaf 0) [true, true, false, false])) := by kernel_rfl
end
end Go.Proofs.YtoeoaiipchklbaaDoor
/- The document's lexer: the digits of a number. -/
set_option autoImplicit false
set_option linter.unusedVariables false
set_option maxRecDepth 100000
set_option maxHeartbeats 1000000
namespace Go.Proofs.YtoeoaiipchklbaaDoor
noncomputable section
open Go.X
theorem wrap64 (n : Int) : wrapF .i64 n = if n % 18446744073709551616 ≥ 9223372036854775808 then n % 18446744073709551616 - 18446744073709551616 else n % 18446744073709551616 := by
  rw [wrapF_eq]; simp [IntKind.wrap, IntKind.bits, IntKind.signed]
theorem dOK_succ {k d m j u : Nat} (h : j < m) : dOK k d (m - j) j u = cond (stepK k u (byteAt d j - 48)) (dOK k d (m - (j + 1)) (j + 1) (u * 10 + (byteAt d j - 48))) false := by
  have : m - j = (m - (j + 1)) + 1 := by omega
  rw [this, dOK]
theorem int_eq {a b : Int} (h : a = b) : AV.int .i64 a = .int .i64 b := by rw [h]
theorem fin_yes {k d m j u : Nat} (h : j < m) (hs : stepK k u (byteAt d j - 48) = true) :
    (cond (dOK k d (m - (j + 1)) (j + 1) (u * 10 + (byteAt d j - 48))) ((XE.ext 0 : XE), eUO k (zK k (vVal d (m - (j + 1)) (j + 1) (u * 10 + (byteAt d j - 48)))), hNil) (.ret, eUF, hNil)) =
    cond (dOK k d (m - j) j u) ((XE.ext 0 : XE), eUO k (zK k (vVal d (m - j) j u)), hNil) (.ret, eUF, hNil) := by
  rw [dOK_succ h, vVal_succ h, hs]; rfl
theorem fin_no {k d m j u : Nat} (h : j < m) (hs : stepK k u (byteAt d j - 48) = false) :
    cond (dOK k d (m - j) j u) ((XE.ext 0 : XE), eUO k (zK k (vVal d (m - j) j u)), hNil) (.ret, eUF, hNil) = ((.ret : XE), eUF, hNil) := by
  rw [dOK_succ h, hs]; rfl
theorem fin_end {k d m j u : Nat} (h : ¬ j < m) :
    cond (dOK k d (m - j) j u) ((XE.ext 0 : XE), eUO k (zK k (vVal d (m - j) j u)), hNil) (.ret, eUF, hNil) = ((.ext 0 : XE), eUO k (zK k u), hNil) := by
  have : m - j = 0 := by omega
  rw [this]; rfl
/-- one round, as the rule of loops asks it -/
abbrev RoundU (k j u m d : Nat) (x : XE) (env : Env) (h : H) : Prop := match x with
  | .nrm => ∃ s' l, okU k s' ∧ s'.m - s'.j < m - j ∧ cond (dOK k s'.d (s'.m - s'.j) s'.j s'.u) ((XE.ext 0 : XE), eUO k (zK k (vVal s'.d (s'.m - s'.j) s'.j s'.u)), hNil) (.ret, eUF, hNil) = cond (dOK k d (m - j) j u) ((XE.ext 0 : XE), eUO k (zK k (vVal d (m - j) j u)), hNil) (.ret, eUF, hNil) ∧ Abs 0 (sg 0 l) (eU k (zK k s'.u) s'.j s'.m s'.d) hNil env h
  | x => ∃ l, (cond (dOK k d (m - j) j u) ((XE.ext 0 : XE), eUO k (zK k (vVal d (m - j) j u)), hNil) (.ret, eUF, hNil)).1 = x ∧ Abs 0 (sg 0 l) (cond (dOK k d (m - j) j u) ((XE.ext 0 : XE), eUO k (zK k (vVal d (m - j) j u)), hNil) (.ret, eUF, hNil)).2.1 (cond (dOK k d (m - j) j u) ((XE.ext 0 : XE), eUO k (zK k (vVal d (m - j) j u)), hNil) (.ret, eUF, hNil)).2.2 env h
theorem rnum_round0 (j u m d : Nat) (hok : okU 0 ⟨j, u, m, d⟩) : Ran (xcode R1 Tryd.prog F 37 (loopC Tryd.prog 37 6) (R1.mask 37) (tmpsN Tryd.prog 37) (eU 0 (zK 0 u) j m d) hNil [] (fun x env h _ => RoundU 0 j u m d x env h)) := by
  have h := rnum_body0 j m d (Int.ofNat u) (fun x env h _ => RoundU 0 j u m d x env h)
  refine ⟨?_⟩
  have ez : zK 0 u = (Int.ofNat u) := rfl
  rw [ez, h]
  clear h
  obtain ⟨hm, h0, hl, hd⟩ := hok
  have hm : m ≤ 20 := hm
  have hd : ∀ j, j < m → isD (byteAt d j) = true := hd
  obtain ⟨hm9, hu, hjm⟩ := h0 rfl
  have hm9 : m ≤ 9 := hm9
  have hjm : j ≤ m := hjm
  have hu : u < 10 ^ j := hu
  refine bcase_mk (fun h1 => ?_) (fun h1 => ?_)
  · have h1 := ltT h1
    have hdj := hd j h1
    rw [isD_iff, decide_eq_true_iff] at hdj
    have ej : Int.toNat (Int.ofNat j) = j := rfl
    rw [ej]
    have fy := fin_yes (k := 0) (u := u) (d := d) h1
    have fn := fin_no (k := 0) (u := u) (d := d) h1
    generalize hc : byteAt d j = c at *
    have ec : Int.ofNat c - Int.ofNat 48 = Int.ofNat (c - 48) := subN (by omega)
    rw [ec]
    refine bcase_t (inB_of h1) (bcase_t (inR_u8 (by simp) (by simp; omega)) (bcase_t (inR_of (by simp) (by simp; omega)) ?_))
    have e10 : Int.ofNat 10 * Int.ofNat u = Int.ofNat (u * 10) := by simp only [Int.ofNat_eq_natCast]; omega
    have hs : stepK 0 u (c - 48) = true := rfl
    have p9 : 10 ^ (j + 1) ≤ 10 ^ 9 := Nat.pow_le_pow_right (by decide) (by omega)
    have hp : 10 ^ (j + 1) = 10 ^ j * 10 := Nat.pow_succ ..
    have p9 : 10 ^ (j + 1) ≤ 1000000000 := p9
    rw [e10, addN]
    refine bcase_t (inR_of (by simp only [Int.ofNat_eq_natCast]; omega) (by simp only [Int.ofNat_eq_natCast]; omega)) (bcase_t (inR_of (by simp only [Int.ofNat_eq_natCast]; omega) (by simp only [Int.ofNat_eq_natCast]; omega)) ?_)
    refine bcase_t (inR_add (by omega)) ⟨⟨j + 1, u * 10 + (c - 48), m, d⟩, [], ⟨hm, fun _ => ⟨hm9, by dsimp only; omega, by dsimp only; omega⟩, fun h => absurd rfl h, hd⟩, by dsimp only; omega, fy hs, ?_⟩
    (refine abs_mk rfl rfl rfl ?_ ?_ <;> repeat' (first | exact trivial | exact rfl | exact ⟨_, rfl, rfl⟩ | refine And.intro ?_ ?_))
  · have h1 := ltF h1
    have hf := fin_end (k := 0) (u := u) (d := d) h1
    refine ⟨[], by rw [hf], ?_⟩
    rw [hf]
    (refine abs_mk rfl rfl rfl ?_ ?_ <;> repeat' (first | exact trivial | exact rfl | exact ⟨_, rfl, rfl⟩ | refine And.intro ?_ ?_))
theorem rnum_round2 (j u m d : Nat) (hok : okU 2 ⟨j, u, m, d⟩) : Ran (xcode R1 Tryd.prog F 37 (loopC Tryd.prog 37 6) (R1.mask 37) (tmpsN Tryd.prog 37) (eU 2 (zK 2 u) j m d) hNil [] (fun x env h _ => RoundU 2 j u m d x env h)) := by
  have h := rnum_body2 j m d (Int.ofNat u) (fun x env h _ => RoundU 2 j u m d x env h)
  refine ⟨?_⟩
  have ez : zK 2 u = (Int.ofNat u) := rfl
  rw [ez, h]
  clear h
  obtain ⟨hm, h0, hl, hd⟩ := hok
  have hm : m ≤ 20 := hm
  have hd : ∀ j, j < m → isD (byteAt d j) = true := hd
  have hu : u ≤ 8589934592 := hl (by decide : (2 : Nat) ≠ 0)
  refine bcase_mk (fun h1 => ?_) (fun h1 => ?_)
  · have h1 := ltT h1
    have hdj := hd j h1
    rw [isD_iff, decide_eq_true_iff] at hdj
    have ej : Int.toNat (Int.ofNat j) = j := rfl
    rw [ej]
    have fy := fin_yes (k := 2) (u := u) (d := d) h1
    have fn := fin_no (k := 2) (u := u) (d := d) h1
    generalize hc : byteAt d j = c at *
    have ec : Int.ofNat c - Int.ofNat 48 = Int.ofNat (c - 48) := subN (by omega)
    rw [ec]
    refine bcase_t (inB_of h1) (bcase_t (inR_u8 (by simp) (by simp; omega)) (bcase_t (inR_of (by simp) (by simp; omega)) ?_))
    have e10 : Int.ofNat 10 * Int.ofNat u = Int.ofNat (u * 10) := by simp only [Int.ofNat_eq_natCast]; omega
    rw [e10, addN]
    refine bcase_t (inR_of (by simp only [Int.ofNat_eq_natCast]; omega) (by simp only [Int.ofNat_eq_natCast]; omega)) (bcase_t (inR_of (by simp only [Int.ofNat_eq_natCast]; omega) (by simp only [Int.ofNat_eq_natCast]; omega)) (bcase_mk (fun q => ?_) (fun q => ?_)))
    · have q := ltT q
      have hs : stepK 2 u (c - 48) = false := by show Nat.ble (u * 10 + (c - 48)) 8589934592 = false; rw [bleD, decide_eq_false_iff_not]; omega
      have hf := fn hs
      refine ⟨[], by rw [hf], ?_⟩
      rw [hf]
      (refine abs_mk rfl rfl rfl ?_ ?_ <;> repeat' (first | exact trivial | exact rfl | exact ⟨_, rfl, rfl⟩ | refine And.intro ?_ ?_))
    · have q := ltF q
      have hs : stepK 2 u (c - 48) = true := by show Nat.ble (u * 10 + (c - 48)) 8589934592 = true; rw [bleD, decide_eq_true_iff]; omega
      refine bcase_t (inR_add (by omega)) ⟨⟨j + 1, u * 10 + (c - 48), m, d⟩, [], ⟨hm, fun h => absurd h (by decide), fun _ => (by omega : u * 10 + (c - 48) ≤ 8589934592), hd⟩, by dsimp only; omega, fy hs, ?_⟩
      (refine abs_mk rfl rfl rfl ?_ ?_ <;> repeat' (first | exact trivial | exact rfl | exact ⟨_, rfl, rfl⟩ | refine And.intro ?_ ?_))
  · have h1 := ltF h1
    have hf := fin_end (k := 2) (u := u) (d := d) h1
    refine ⟨[], by rw [hf], ?_⟩
    rw [hf]
    (refine abs_mk rfl rfl rfl ?_ ?_ <;> repeat' (first | exact trivial | exact rfl | exact ⟨_, rfl, rfl⟩ | refine And.intro ?_ ?_))
theorem rnum_round3 (j u m d : Nat) (hok : okU 3 ⟨j, u, m, d⟩) : Ran (xcode R1 Tryd.prog F 37 (loopC Tryd.prog 37 6) (R1.mask 37) (tmpsN Tryd.prog 37) (eU 3 (zK 3 u) j m d) hNil [] (fun x env h _ => RoundU 3 j u m d x env h)) := by
  have h := rnum_body3 j m d (Int.ofNat u) (fun x env h _ => RoundU 3 j u m d x env h)
  refine ⟨?_⟩
  have ez : zK 3 u = (Int.ofNat u) := rfl
  rw [ez, h]
  clear h
  obtain ⟨hm, h0, hl, hd⟩ := hok
  have hm : m ≤ 20 := hm
  have hd : ∀ j, j < m → isD (byteAt d j) = true := hd
  have hu : u ≤ 8589934592 := hl (by decide : (3 : Nat) ≠ 0)
  refine bcase_mk (fun h1 => ?_) (fun h1 => ?_)
  · have h1 := ltT h1
    have hdj := hd j h1
    rw [isD_iff, decide_eq_true_iff] at hdj
    have ej : Int.toNat (Int.ofNat j) = j := rfl
    rw [ej]
    have fy := fin_yes (k := 3) (u := u) (d := d) h1
    have fn := fin_no (k := 3) (u := u) (d := d) h1
    generalize hc : byteAt d j = c at *
    have ec : Int.ofNat c - Int.ofNat 48 = Int.ofNat (c - 48) := subN (by omega)
    rw [ec]
    refine bcase_t (inB_of h1) (bcase_t (inR_u8 (by simp) (by simp; omega)) (bcase_t (inR_of (by simp) (by simp; omega)) ?_))
    have e10 : Int.ofNat 10 * Int.ofNat u = Int.ofNat (u * 10) := by simp only [Int.ofNat_eq_natCast]; omega
    rw [e10, addN]
    refine bcase_t (inR_of (by simp only [Int.ofNat_eq_natCast]; omega) (by simp only [Int.ofNat_eq_natCast]; omega)) (bcase_t (inR_of (by simp only [Int.ofNat_eq_natCast]; omega) (by simp only [Int.ofNat_eq_natCast]; omega)) (bcase_mk (fun q => ?_) (fun q => ?_)))
    · have q := ltT q
      have hs : stepK 3 u (c - 48) = false := by show Nat.ble (u * 10 + (c - 48)) 8589934592 = false; rw [bleD, decide_eq_false_iff_not]; omega
      have hf := fn hs
      refine ⟨[], by rw [hf], ?_⟩
      rw [hf]
      (refine abs_mk rfl rfl rfl ?_ ?_ <;> repeat' (first | exact trivial | exact rfl | exact ⟨_, rfl, rfl⟩ | refine And.intro ?_ ?_))
    · have q := ltF q
      have hs : stepK 3 u (c - 48) = true := by show Nat.ble (u * 10 + (c - 48)) 8589934592 = true; rw [bleD, decide_eq_true_iff]; omega
      refine bcase_t (inR_add (by omega)) ⟨⟨j + 1, u * 10 + (c - 48), m, d⟩, [], ⟨hm, fun h => absurd h (by decide), fun _ => (by omega : u * 10 + (c - 48) ≤ 8589934592), hd⟩, by dsimp only; omega, fy hs, ?_⟩
      (refine abs_mk rfl rfl rfl ?_ ?_ <;> repeat' (first | exact trivial | exact rfl | exact ⟨_, rfl, rfl⟩ | refine And.intro ?_ ?_))
  · have h1 := ltF h1
    have hf := fin_end (k := 3) (u := u) (d := d) h1
    refine ⟨[], by rw [hf], ?_⟩
    rw [hf]
    (refine abs_mk rfl rfl rfl ?_ ?_ <;> repeat' (first | exact trivial | exact rfl | exact ⟨_, rfl, rfl⟩ | refine And.intro ?_ ?_))
theorem rnum_round4 (j u m d : Nat) (hok : okU 4 ⟨j, u, m, d⟩) : Ran (xcode R1 Tryd.prog F 37 (loopC Tryd.prog 37 6) (R1.mask 37) (tmpsN Tryd.prog 37) (eU 4 (zK 4 u) j m d) hNil [] (fun x env h _ => RoundU 4 j u m d x env h)) := by
  have h := rnum_body4 j m d (Int.ofNat u) (fun x env h _ => RoundU 4 j u m d x env h)
  refine ⟨?_⟩
  have ez : zK 4 u = (Int.ofNat u) := rfl
  rw [ez, h]
  clear h
  obtain ⟨hm, h0, hl, hd⟩ := hok
  have hm : m ≤ 20 := hm
  have hd : ∀ j, j < m → isD (byteAt d j) = true := hd
  have hu : u ≤ 8589934592 := hl (by decide : (4 : Nat) ≠ 0)
  refine bcase_mk (fun h1 => ?_) (fun h1 => ?_)
  · have h1 := ltT h1
    have hdj := hd j h1
    rw [isD_iff, decide_eq_true_iff] at hdj
    have ej : Int.toNat (Int.ofNat j) = j := rfl
    rw [ej]
    have fy := fin_yes (k := 4) (u := u) (d := d) h1
    have fn := fin_no (k := 4) (u := u) (d := d) h1
    generalize hc : byteAt d j = c at *
    have ec : Int.ofNat c - Int.ofNat 48 = Int.ofNat (c - 48) := subN (by omega)
    rw [ec]
    refine bcase_t (inB_of h1) (bcase_t (inR_u8 (by simp) (by simp; omega)) (bcase_t (inR_of (by simp) (by simp; omega)) ?_))
    have e10 : Int.ofNat 10 * Int.ofNat u = Int.ofNat (u * 10) := by simp only [Int.ofNat_eq_natCast]; omega
    rw [e10, addN]
    refine bcase_t (inR_of (by simp only [Int.ofNat_eq_natCast]; omega) (by simp only [Int.ofNat_eq_natCast]; omega)) (bcase_t (inR_of (by simp only [Int.ofNat_eq_natCast]; omega) (by simp only [Int.ofNat_eq_natCast]; omega)) (bcase_mk (fun q => ?_) (fun q => ?_)))
    · have q := ltT q
      have hs : stepK 4 u (c - 48) = false := by show Nat.ble (u * 10 + (c - 48)) 8589934592 = false; rw [bleD, decide_eq_false_iff_not]; omega
      have hf := fn hs
      refine ⟨[], by rw [hf], ?_⟩
      rw [hf]
      (refine abs_mk rfl rfl rfl ?_ ?_ <;> repeat' (first | exact trivial | exact rfl | exact ⟨_, rfl, rfl⟩ | refine And.intro ?_ ?_))
    · have q := ltF q
      have hs : stepK 4 u (c - 48) = true := by show Nat.ble (u * 10 + (c - 48)) 8589934592 = true; rw [bleD, decide_eq_true_iff]; omega
      refine bcase_t (inR_add (by omega)) ⟨⟨j + 1, u * 10 + (c - 48), m, d⟩, [], ⟨hm, fun h => absurd h (by decide), fun _ => (by omega : u * 10 + (c - 48) ≤ 8589934592), hd⟩, by dsimp only; omega, fy hs, ?_⟩
      (refine abs_mk rfl rfl rfl ?_ ?_ <;> repeat' (first | exact trivial | exact rfl | exact ⟨_, rfl, rfl⟩ | refine And.intro ?_ ?_))
  · have h1 := ltF h1
    have hf := fin_end (k := 4) (u := u) (d := d) h1
    refine ⟨[], by rw [hf], ?_⟩
    rw [hf]
    (refine abs_mk rfl rfl rfl ?_ ?_ <;> repeat' (first | exact trivial | exact rfl | exact ⟨_, rfl, rfl⟩ | refine And.intro ?_ ?_))
theorem rnum_round5 (j u m d : Nat) (hok : okU 5 ⟨j, u, m, d⟩) : Ran (xcode R1 Tryd.prog F 37 (loopC Tryd.prog 37 6) (R1.mask 37) (tmpsN Tryd.prog 37) (eU 5 (zK 5 u) j m d) hNil [] (fun x env h _ => RoundU 5 j u m d x env h)) := by
  have h := rnum_body5 j m d (-(Int.ofNat u)) (fun x env h _ => RoundU 5 j u m d x env h)
  refine ⟨?_⟩
  have ez : zK 5 u = (-(Int.ofNat u)) := rfl
  rw [ez, h]
  clear h
  obtain ⟨hm, h0, hl, hd⟩ := hok
  have hm : m ≤ 20 := hm
  have hd : ∀ j, j < m → isD (byteAt d j) = true := hd
  have hu : u ≤ 9223372036854775808 := hl (by decide : (5 : Nat) ≠ 0)
  refine bcase_mk (fun h1 => ?_) (fun h1 => ?_)
  · have h1 := ltT h1
    have hdj := hd j h1
    rw [isD_iff, decide_eq_true_iff] at hdj
    have ej : Int.toNat (Int.ofNat j) = j := rfl
    rw [ej]
    have fy := fin_yes (k := 5) (u := u) (d := d) h1
    have fn := fin_no (k := 5) (u := u) (d := d) h1
    generalize hc : byteAt d j = c at *
    have ec : Int.ofNat c - Int.ofNat 48 = Int.ofNat (c - 48) := subN (by omega)
    rw [ec]
    refine bcase_t (inB_of h1) (bcase_t (inR_u8 (by simp) (by simp; omega)) (bcase_t (inR_of (by simp) (by simp; omega)) ?_))
    have en : Int.negSucc 922337203685477579 = -922337203685477580 := rfl
    rw [en]
    refine bcase_mk (fun q => ?_) (fun q => bcase_mk (fun q2 => bcase_mk (fun q3 => ?_) (fun q3 => ?_)) (fun q2 => ?_))
    · have q := ltIT q
      simp only [Int.ofNat_eq_natCast] at q
      have hs : stepK 5 u (c - 48) = false := by show Nat.ble (u * 10 + (c - 48)) 9223372036854775808 = false; rw [bleD, decide_eq_false_iff_not]; omega
      have hf := fn hs
      refine ⟨[], by rw [hf], ?_⟩
      rw [hf]
      (refine abs_mk rfl rfl rfl ?_ ?_ <;> repeat' (first | exact trivial | exact rfl | exact ⟨_, rfl, rfl⟩ | refine And.intro ?_ ?_))
    · rw [eqI_eq, beq_iff_eq] at q2
      simp only [Int.ofNat_eq_natCast] at q2
      have q3 := ltT q3
      have hs : stepK 5 u (c - 48) = false := by show Nat.ble (u * 10 + (c - 48)) 9223372036854775808 = false; rw [bleD, decide_eq_false_iff_not]; omega
      have hf := fn hs
      refine ⟨[], by rw [hf], ?_⟩
      rw [hf]
      (refine abs_mk rfl rfl rfl ?_ ?_ <;> repeat' (first | exact trivial | exact rfl | exact ⟨_, rfl, rfl⟩ | refine And.intro ?_ ?_))
    · rw [eqI_eq, beq_iff_eq] at q2
      simp only [Int.ofNat_eq_natCast] at q2
      have q3 := ltF q3
      have hs : stepK 5 u (c - 48) = true := by show Nat.ble (u * 10 + (c - 48)) 9223372036854775808 = true; rw [bleD, decide_eq_true_iff]; omega
      have e10 : Int.ofNat 10 * -(Int.ofNat u) - Int.ofNat (c - 48) = -(Int.ofNat (u * 10 + (c - 48))) := by simp only [Int.ofNat_eq_natCast]; omega
      rw [e10]
      refine bcase_t (inR_of' (by simp only [Int.ofNat_eq_natCast]; omega) (by simp only [Int.ofNat_eq_natCast]; omega)) (bcase_t (inR_of' (by simp only [Int.ofNat_eq_natCast]; omega) (by simp only [Int.ofNat_eq_natCast]; omega)) ?_)
      refine bcase_t (inR_add (by omega)) ⟨⟨j + 1, u * 10 + (c - 48), m, d⟩, [], ⟨hm, fun h => absurd h (by decide), fun _ => (by omega : u * 10 + (c - 48) ≤ 9223372036854775808), hd⟩, by dsimp only; omega, fy hs, ?_⟩
      (refine abs_mk rfl rfl rfl ?_ ?_ <;> repeat' (first | exact trivial | exact rfl | exact ⟨_, rfl, rfl⟩ | refine And.intro ?_ ?_))
    · have q := ltIF q
      rw [eqI_eq, beq_eq_false_iff_ne] at q2
      simp only [Int.ofNat_eq_natCast] at q q2
      have hs : stepK 5 u (c - 48) = true := by show Nat.ble (u * 10 + (c - 48)) 9223372036854775808 = true; rw [bleD, decide_eq_true_iff]; omega
      have e10 : Int.ofNat 10 * -(Int.ofNat u) - Int.ofNat (c - 48) = -(Int.ofNat (u * 10 + (c - 48))) := by simp only [Int.ofNat_eq_natCast]; omega
      rw [e10]
      refine bcase_t (inR_of' (by simp only [Int.ofNat_eq_natCast]; omega) (by simp only [Int.ofNat_eq_natCast]; omega)) (bcase_t (inR_of' (by simp only [Int.ofNat_eq_natCast]; omega) (by simp only [Int.ofNat_eq_natCast]; omega)) ?_)
      refine bcase_t (inR_add (by omega)) ⟨⟨j + 1, u * 10 + (c - 48), m, d⟩, [], ⟨hm, fun h => absurd h (by decide), fun _ => (by omega : u * 10 + (c - 48) ≤ 9223372036854775808), hd⟩, by dsimp only; omega, fy hs, ?_⟩
      (refine abs_mk rfl rfl rfl ?_ ?_ <;> repeat' (first | exact trivial | exact rfl | exact ⟨_, rfl, rfl⟩ | refine And.intro ?_ ?_))
  · have h1 := ltF h1
    have hf := fin_end (k := 5) (u := u) (d := d) h1
    refine ⟨[], by rw [hf], ?_⟩
    rw [hf]
    (refine abs_mk rfl rfl rfl ?_ ?_ <;> repeat' (first | exact trivial | exact rfl | exact ⟨_, rfl, rfl⟩ | refine And.intro ?_ ?_))
theorem rnum_round6 (j u m d : Nat) (hok : okU 6 ⟨j, u, m, d⟩) : Ran (xcode R1 Tryd.prog F 37 (loopC Tryd.prog 37 6) (R1.mask 37) (tmpsN Tryd.prog 37) (eU 6 (zK 6 u) j m d) hNil [] (fun x env h _ => RoundU 6 j u m d x env h)) := by
  have h := rnum_body6 j m d (Int.ofNat u) (fun x env h _ => RoundU 6 j u m d x env h)
  refine ⟨?_⟩
  have ez : zK 6 u = (Int.ofNat u) := rfl
  rw [ez, h]
  clear h
  obtain ⟨hm, h0, hl, hd⟩ := hok
  have hm : m ≤ 20 := hm
  have hd : ∀ j, j < m → isD (byteAt d j) = true := hd
  have hu : u ≤ 8589934592 := hl (by decide : (6 : Nat) ≠ 0)
  refine bcase_mk (fun h1 => ?_) (fun h1 => ?_)
  · have h1 := ltT h1
    have hdj := hd j h1
    rw [isD_iff, decide_eq_true_iff] at hdj
    have ej : Int.toNat (Int.ofNat j) = j := rfl
    rw [ej]
    have fy := fin_yes (k := 6) (u := u) (d := d) h1
    have fn := fin_no (k := 6) (u := u) (d := d) h1
    generalize hc : byteAt d j = c at *
    have ec : Int.ofNat c - Int.ofNat 48 = Int.ofNat (c - 48) := subN (by omega)
    rw [ec]
    refine bcase_t (inB_of h1) (bcase_t (inR_u8 (by simp) (by simp; omega)) (bcase_t (inR_of (by simp) (by simp; omega)) ?_))
    have e10 : Int.ofNat 10 * Int.ofNat u = Int.ofNat (u * 10) := by simp only [Int.ofNat_eq_natCast]; omega
    rw [e10, addN]
    refine bcase_t (inR_of (by simp only [Int.ofNat_eq_natCast]; omega) (by simp only [Int.ofNat_eq_natCast]; omega)) (bcase_t (inR_of (by simp only [Int.ofNat_eq_natCast]; omega) (by simp only [Int.ofNat_eq_natCast]; omega)) (bcase_mk (fun q => ?_) (fun q => ?_)))
    · have q := ltT q
      have hs : stepK 6 u (c - 48) = false := by show Nat.ble (u * 10 + (c - 48)) 8589934592 = false; rw [bleD, decide_eq_false_iff_not]; omega
      have hf := fn hs
      refine ⟨[], by rw [hf], ?_⟩
      rw [hf]
      (refine abs_mk rfl rfl rfl ?_ ?_ <;> repeat' (first | exact trivial | exact rfl | exact ⟨_, rfl, rfl⟩ | refine And.intro ?_ ?_))
    · have q := ltF q
      have hs : stepK 6 u (c - 48) = true := by show Nat.ble (u * 10 + (c - 48)) 8589934592 = true; rw [bleD, decide_eq_true_iff]; omega
      refine bcase_t (inR_add (by omega)) ⟨⟨j + 1, u * 10 + (c - 48), m, d⟩, [], ⟨hm, fun h => absurd h (by decide), fun _ => (by omega : u * 10 + (c - 48) ≤ 8589934592), hd⟩, by dsimp only; omega, fy hs, ?_⟩
      (refine abs_mk rfl rfl rfl ?_ ?_ <;> repeat' (first | exact trivial | exact rfl | exact ⟨_, rfl, rfl⟩ | refine And.intro ?_ ?_))
  · have h1 := ltF h1
    have hf := fin_end (k := 6) (u := u) (d := d) h1
    refine ⟨[], by rw [hf], ?_⟩
    rw [hf]
    (refine abs_mk rfl rfl rfl ?_ ?_ <;> repeat' (first | exact trivial | exact rfl | exact ⟨_, rfl, rfl⟩ | refine And.intro ?_ ?_))
theorem rnum_round7 (j u m d : Nat) (hok : okU 7 ⟨j, u, m, d⟩) : Ran (xcode R1 Tryd.prog F 37 (loopC Tryd.prog 37 6) (R1.mask 37) (tmpsN Tryd.prog 37) (eU 7 (zK 7 u) j m d) hNil [] (fun x env h _ => RoundU 7 j u m d x env h)) := by
  have h := rnum_body7 j m d (Int.ofNat u) (fun x env h _ => RoundU 7 j u m d x env h)
  refine ⟨?_⟩
  have ez : zK 7 u = (Int.ofNat u) := rfl
  rw [ez, h]
  clear h
  obtain ⟨hm, h0, hl, hd⟩ := hok
  have hm : m ≤ 20 := hm
  have hd : ∀ j, j < m → isD (byteAt d j) = true := hd
  have hu : u ≤ 8589934592 := hl (by decide : (7 : Nat) ≠ 0)
  refine bcase_mk (fun h1 => ?_) (fun h1 => ?_)
  · have h1 := ltT h1
    have hdj := hd j h1
    rw [isD_iff, decide_eq_true_iff] at hdj
    have ej : Int.toNat (Int.ofNat j) = j := rfl
    rw [ej]
    have fy := fin_yes (k := 7) (u := u) (d := d) h1
    have fn := fin_no (k := 7) (u := u) (d := d) h1
    generalize hc : byteAt d j = c at *
    have ec : Int.ofNat c - Int.ofNat 48 = Int.ofNat (c - 48) := subN (by omega)
    rw [ec]
    refine bcase_t (inB_of h1) (bcase_t (inR_u8 (by simp) (by simp; omega)) (bcase_t (inR_of (by simp) (by simp; omega)) ?_))
    have e10 : Int.ofNat 10 * Int.ofNat u = Int.ofNat (u * 10) := by simp only [Int.ofNat_eq_natCast]; omega
    rw [e10, addN]
    refine bcase_t (inR_of (by simp only [Int.ofNat_eq_natCast]; omega) (by simp only [Int.ofNat_eq_natCast]; omega)) (bcase_t (inR_of (by simp only [Int.ofNat_eq_natCast]; omega) (by simp only [Int.ofNat_eq_natCast]; omega)) (bcase_mk (fun q => ?_) (fun q => ?_)))
    · have q := ltT q
      have hs : stepK 7 u (c - 48) = false := by show Nat.ble (u * 10 + (c - 48)) 8589934592 = false; rw [bleD, decide_eq_false_iff_not]; omega
      have hf := fn hs
      refine ⟨[], by rw [hf], ?_⟩
      rw [hf]
      (refine abs_mk rfl rfl rfl ?_ ?_ <;> repeat' (first | exact trivial | exact rfl | exact ⟨_, rfl, rfl⟩ | refine And.intro ?_ ?_))
    · have q := ltF q
      have hs : stepK 7 u (c - 48) = true := by show Nat.ble (u * 10 + (c - 48)) 8589934592 = true; rw [bleD, decide_eq_true_iff]; omega
      refine bcase_t (inR_add (by omega)) ⟨⟨j + 1, u * 10 + (c - 48), m, d⟩, [], ⟨hm, fun h => absurd h (by decide), fun _ => (by omega : u * 10 + (c - 48) ≤ 8589934592), hd⟩, by dsimp only; omega, fy hs, ?_⟩
      (refine abs_mk rfl rfl rfl ?_ ?_ <;> repeat' (first | exact trivial | exact rfl | exact ⟨_, rfl, rfl⟩ | refine And.intro ?_ ?_))
  · have h1 := ltF h1
    have hf := fin_end (k := 7) (u := u) (d := d) h1
    refine ⟨[], by rw [hf], ?_⟩
    rw [hf]
    (refine abs_mk rfl rfl rfl ?_ ?_ <;> repeat' (first | exact trivial | exact rfl | exact ⟨_, rfl, rfl⟩ | refine And.intro ?_ ?_))
theorem rnum_round8 (j u m d : Nat) (hok : okU 8 ⟨j, u, m, d⟩) : Ran (xcode R1 Tryd.prog F 37 (loopC Tryd.prog 37 6) (R1.mask 37) (tmpsN Tryd.prog 37) (eU 8 (zK 8 u) j m d) hNil [] (fun x env h _ => RoundU 8 j u m d x env h)) := by
  have h := rnum_body8 j m d (Int.ofNat u) (fun x env h _ => RoundU 8 j u m d x env h)
  refine ⟨?_⟩
  have ez : zK 8 u = (Int.ofNat u) := rfl
  rw [ez, h]
  clear h
  obtain ⟨hm, h0, hl, hd⟩ := hok
  have hm : m ≤ 20 := hm
  have hd : ∀ j, j < m → isD (byteAt d j) = true := hd
  have hu : u ≤ 8589934592 := hl (by decide : (8 : Nat) ≠ 0)
  refine bcase_mk (fun h1 => ?_) (fun h1 => ?_)
  · have h1 := ltT h1
    have hdj := hd j h1
    rw [isD_iff, decide_eq_true_iff] at hdj
    have ej : Int.toNat (Int.ofNat j) = j := rfl
    rw [ej]
    have fy := fin_yes (k := 8) (u := u) (d := d) h1
    have fn := fin_no (k := 8) (u := u) (d := d) h1
    generalize hc : byteAt d j = c at *
    have ec : Int.ofNat c - Int.ofNat 48 = Int.ofNat (c - 48) := subN (by omega)
    rw [ec]
    refine bcase_t (inB_of h1) (bcase_t (inR_u8 (by simp) (by simp; omega)) (bcase_t (inR_of (by simp) (by simp; omega)) ?_))
    have e10 : Int.ofNat 10 * Int.ofNat u = Int.ofNat (u * 10) := by simp only [Int.ofNat_eq_natCast]; omega
    rw [e10, addN]
    refine bcase_t (inR_of (by simp only [Int.ofNat_eq_natCast]; omega) (by simp only [Int.ofNat_eq_natCast]; omega)) (bcase_t (inR_of (by simp only [Int.ofNat_eq_natCast]; omega) (by simp only [Int.ofNat_eq_natCast]; omega)) (bcase_mk (fun q => ?_) (fun q => ?_)))
    · have q := ltT q
      have hs : stepK 8 u (c - 48) = false := by show Nat.ble (u * 10 + (c - 48)) 8589934592 = false; rw [bleD, decide_eq_false_iff_not]; omega
      have hf := fn hs
      refine ⟨[], by rw [hf], ?_⟩
      rw [hf]
      (refine abs_mk rfl rfl rfl ?_ ?_ <;> repeat' (first | exact trivial | exact rfl | exact ⟨_, rfl, rfl⟩ | refine And.intro ?_ ?_))
    · have q := ltF q
      have hs : stepK 8 u (c - 48) = true := by show Nat.ble (u * 10 + (c - 48)) 8589934592 = true; rw [bleD, decide_eq_true_iff]; omega
      refine bcase_t (inR_add (by omega)) ⟨⟨j + 1, u * 10 + (c - 48), m, d⟩, [], ⟨hm, fun h => absurd h (by decide), fun _ => (by omega : u * 10 + (c - 48) ≤ 8589934592), hd⟩, by dsimp only; omega, fy hs, ?_⟩
      (refine abs_mk rfl rfl rfl ?_ ?_ <;> repeat' (first | exact trivial | exact rfl | exact ⟨_, rfl, rfl⟩ | refine And.intro ?_ ?_))
  · have h1 := ltF h1
    have hf := fin_end (k := 8) (u := u) (d := d) h1
    refine ⟨[], by rw [hf], ?_⟩
    rw [hf]
    (refine abs_mk rfl rfl rfl ?_ ?_ <;> repeat' (first | exact trivial | exact rfl | exact ⟨_, rfl, rfl⟩ | refine And.intro ?_ ?_))
theorem rnum_round9 (j u m d : Nat) (hok : okU 9 ⟨j, u, m, d⟩) : Ran (xcode R1 Tryd.prog F 37 (loopC Tryd.prog 37 6) (R1.mask 37) (tmpsN Tryd.prog 37) (eU 9 (zK 9 u) j m d) hNil [true, true, false, false] (fun x env h _ => RoundU 9 j u m d x env h)) := by
  have h := rnum_body9 j m d (wrapF .i64 (Int.ofNat u)) (fun x env h _ => RoundU 9 j u m d x env h)
  refine ⟨?_⟩
  have ez : zK 9 u = (wrapF .i64 (Int.ofNat u)) := rfl
  rw [ez, h]
  clear h
  obtain ⟨hm, h0, hl, hd⟩ := hok
  have hm : m ≤ 20 := hm
  have hd : ∀ j, j < m → isD (byteAt d j) = true := hd
  have hu : u ≤ 18446744073709551615 := hl (by decide : (9 : Nat) ≠ 0)
  refine bcase_mk (fun h1 => ?_) (fun h1 => ?_)
  · have h1 := ltT h1
    have hdj := hd j h1
    rw [isD_iff, decide_eq_true_iff] at hdj
    have ej : Int.toNat (Int.ofNat j) = j := rfl
    rw [ej]
    have fy := fin_yes (k := 9) (u := u) (d := d) h1
    have fn := fin_no (k := 9) (u := u) (d := d) h1
    generalize hc : byteAt d j = c at *
    have ec : Int.ofNat c - Int.ofNat 48 = Int.ofNat (c - 48) := subN (by omega)
    rw [ec]
    refine bcase_t (inB_of h1) (bcase_t (inR_u8 (by simp) (by simp; omega)) (bcase_t (inR_of (by simp) (by simp; omega)) ?_))
    refine bcase_mk (fun q => ?_) (fun q => bcase_mk (fun q1 => ?_) (fun q1 => bcase_mk (fun q2 => bcase_mk (fun q3 => ?_) (fun q3 => ?_)) (fun q2 => ?_)))
    · have q := ltIT q
      rw [wrap64] at q
      simp only [Int.ofNat_eq_natCast] at q
      have hu3 : 9223372036854775808 ≤ u := by revert q; split <;> omega
      have hs : stepK 9 u (c - 48) = false := by show Nat.ble (u * 10 + (c - 48)) 18446744073709551615 = false; rw [bleD, decide_eq_false_iff_not]; omega
      have hf := fn hs
      refine ⟨[], by rw [hf], ?_⟩
      rw [hf]
      (refine abs_mk rfl rfl rfl ?_ ?_ <;> repeat' (first | exact trivial | exact rfl | exact ⟨_, rfl, rfl⟩ | refine And.intro ?_ ?_))
    · have q := ltIF q
      have q1 := ltIT q1
      rw [wrap64] at q1
      simp only [Int.ofNat_eq_natCast] at q1
      have hu3 : 1844674407370955161 < u := by revert q1; split <;> omega
      have hs : stepK 9 u (c - 48) = false := by show Nat.ble (u * 10 + (c - 48)) 18446744073709551615 = false; rw [bleD, decide_eq_false_iff_not]; omega
      have hf := fn hs
      refine ⟨[], by rw [hf], ?_⟩
      rw [hf]
      (refine abs_mk rfl rfl rfl ?_ ?_ <;> repeat' (first | exact trivial | exact rfl | exact ⟨_, rfl, rfl⟩ | refine And.intro ?_ ?_))
    · have q := ltIF q
      rw [eqI_eq, beq_iff_eq, wrap64] at q2
      simp only [Int.ofNat_eq_natCast] at q2
      have q3 := ltT q3
      have hu3 : 1844674407370955161 = u := by revert q2; split <;> omega
      have hs : stepK 9 u (c - 48) = false := by show Nat.ble (u * 10 + (c - 48)) 18446744073709551615 = false; rw [bleD, decide_eq_false_iff_not]; omega
      have hf := fn hs
      refine ⟨[], by rw [hf], ?_⟩
      rw [hf]
      (refine abs_mk rfl rfl rfl ?_ ?_ <;> repeat' (first | exact trivial | exact rfl | exact ⟨_, rfl, rfl⟩ | refine And.intro ?_ ?_))
    · have q := ltIF q
      rw [eqI_eq, beq_iff_eq] at q2
      have hw := q2
      rw [wrap64] at q2
      simp only [Int.ofNat_eq_natCast] at q2
      have q3 := ltF q3
      have hu3 : 1844674407370955161 = u := by revert q2; split <;> omega
      have hu2 : u * 10 + (c - 48) ≤ 18446744073709551615 := by omega
      have hs : stepK 9 u (c - 48) = true := by show Nat.ble (u * 10 + (c - 48)) 18446744073709551615 = true; rw [bleD, decide_eq_true_iff]; omega
      have e10 : wrapF .i64 (wrapF .i64 (Int.ofNat 10 * wrapF .i64 (Int.ofNat u)) + Int.ofNat (c - 48)) = wrapF .i64 (Int.ofNat (u * 10 + (c - 48))) := by
        rw [hw]; simp only [wrap64, Int.ofNat_eq_natCast]; (repeat' split) <;> omega
      rw [e10]
      refine bcase_t (inR_add (by omega)) ⟨⟨j + 1, u * 10 + (c - 48), m, d⟩, [], ⟨hm, fun h => absurd h (by decide), fun _ => hu2, hd⟩, by dsimp only; omega, fy hs, ?_⟩
      (refine abs_mk rfl rfl rfl ?_ ?_ <;> repeat' (first | exact trivial | exact rfl | exact ⟨_, rfl, rfl⟩ | refine And.intro ?_ ?_))
    · have q := ltIF q
      have q1 := ltIF q1
      rw [eqI_eq, beq_eq_false_iff_ne] at q2
      have hu3 : u < 1844674407370955161 := by
        rw [wrap64] at q q1 q2
        simp only [Int.ofNat_eq_natCast] at q q1 q2
        revert q q1 q2; split <;> omega
      have hw : wrapF .i64 (Int.ofNat u) = Int.ofNat u := by rw [wrap64]; simp only [Int.ofNat_eq_natCast]; split <;> omega
      have hu2 : u * 10 + (c - 48) ≤ 18446744073709551615 := by omega
      have hs : stepK 9 u (c - 48) = true := by show Nat.ble (u * 10 + (c - 48)) 18446744073709551615 = true; rw [bleD, decide_eq_true_iff]; omega
      have e10 : wrapF .i64 (wrapF .i64 (Int.ofNat 10 * wrapF .i64 (Int.ofNat u)) + Int.ofNat (c - 48)) = wrapF .i64 (Int.ofNat (u * 10 + (c - 48))) := by
        rw [hw]; simp only [wrap64, Int.ofNat_eq_natCast]; (repeat' split) <;> omega
      rw [e10]
      refine bcase_t (inR_add (by omega)) ⟨⟨j + 1, u * 10 + (c - 48), m, d⟩, [], ⟨hm, fun h => absurd h (by decide), fun _ => hu2, hd⟩, by dsimp only; omega, fy hs, ?_⟩
      (refine abs_mk rfl rfl rfl ?_ ?_ <;> repeat' (first | exact trivial | exact rfl | exact ⟨_, rfl, rfl⟩ | refine And.intro ?_ ?_))
  · have h1 := ltF h1
    have hf := fin_end (k := 9) (u := u) (d := d) h1
    refine ⟨[], by rw [hf], ?_⟩
    rw [hf]
    (refine abs_mk rfl rfl rfl ?_ ?_ <;> repeat' (first | exact trivial | exact rfl | exact ⟨_, rfl, rfl⟩ | refine And.intro ?_ ?_))
theorem goodR2 {k : Nat} (hk : k = 0 ∨ k = 2 ∨ k = 3 ∨ k = 4 ∨ k = 5 ∨ k = 6 ∨ k = 7 ∨ k = 8 ∨ k = 9) : X.Good (R2 k) Tryd.prog := by
  unfold R2 lU
  rw [lcE2_eq]
  refine goodR1.addED (n0 := 0) (μ := fun s : SU => s.m - s.j) (fun s => dsU k) (fuel := F) (by kernel_rfl) ?_ ?_ ?_
  · intro s _
    refine ⟨rfl, ?_, ?_, ?_⟩
    · cases dOK k s.d (s.m - s.j) s.j s.u <;> exact Nat.le_refl _
    · repeat' (first | exact trivial | exact rfl | refine And.intro ?_ ?_)
    · repeat' (first | exact trivial | exact rfl | refine And.intro ?_ ?_)
  · rintro ⟨j, u, m, d⟩ hok
    obtain rfl | rfl | rfl | rfl | rfl | rfl | rfl | rfl | rfl := hk
    · exact rnum_round0 j u m d hok
    · exact rnum_round2 j u m d hok
    · exact rnum_round3 j u m d hok
    · exact rnum_round4 j u m d hok
    · exact rnum_round5 j u m d hok
    · exact rnum_round6 j u m d hok
    · exact rnum_round7 j u m d hok
    · exact rnum_round8 j u m d hok
    · exact rnum_round9 j u m d hok
  · intro g i h; cases h
end
end Go.Proofs.YtoeoaiipchklbaaDoor
/- The document's lexer: numbers: what comes out. -/
set_option autoImplicit false
set_option linter.unusedVariables false
set_option maxRecDepth 100000
namespace Go.Proofs.YtoeoaiipchklbaaDoor
noncomputable section
open Go.X
def allD (d : Nat) : Nat → Bool
  | 0 => true
  | f + 1 => isD (byteAt d f) && allD d f
def okN (m d k : Nat) : Bool := Nat.ble m 20 && (cond (Nat.beq k 0) (Nat.ble m 9) (Nat.ble (vVal d m 0 0) (mostK k)))
def valN (m d k : Nat) : Int := cond (Nat.beq k 0) (wrapF .i64 (Int.ofNat (vVal d m 0 0))) (wrapK k (wrapF .i64 (Int.ofNat (vVal d m 0 0))))
/-- what is told beside a 'no' -/
def failN (m d k : Nat) : Int := cond (Nat.ble m 20 && (Nat.ble 6 k && (Nat.ble k 8 && Nat.ble (vVal d m 0 0) 8589934592))) (Int.ofNat (vVal d m 0 0)) (Int.ofNat 0)
def fRNum (args : List AV) (h : H) : Option (Bool × Bool × (AV × H) × (AV × H)) := match args with
  | [.str m d, .int .i64 z] => match z with
    | .ofNat k => some (Bool.and (Bool.or (Nat.beq k 0) (isK k)) (Bool.and (Nat.ble m 9000000000000000000) (allD d m)), okN m d k, (.tup [.int .i64 (valN m d k), .bool true], h), (.tup [.int .i64 (failN m d k), .bool false], h))
    | .negSucc _ => none
  | _ => none
end
end Go.Proofs.YtoeoaiipchklbaaDoor
/- The document's lexer: runs of number. -/
set_option autoImplicit false
set_option maxRecDepth 1000000
set_option maxHeartbeats 0
namespace Go.Proofs.YtoeoaiipchklbaaDoor
noncomputable section
open Go.X
theorem rnum_res0 (m d : Nat) (K : AV → Prop) : xfun (R2 0) Tryd.prog (xcode (R2 0) Tryd.prog F) 37 [.str m d, .int .i64 (.ofNat 0)] hNil [] (fun v _ _ => K v) = (bcase (ltI (Int.ofNat 20) (Int.ofNat m)) (K (AV.tup [AV.int Go.IntKind.i64 (Int.ofNat 0), AV.bool false])) (bcase (ltI (Int.ofNat 9) (Int.ofNat m)) (K (AV.tup [AV.int Go.IntKind.i64 (Int.ofNat 0), AV.bool false])) (∃ s, (Nat.le (SU.m s) 20 ∧ (0 = 0 → SU.m s ≤ 9 ∧ SU.u s < 10 ^ SU.j s ∧ SU.j s ≤ SU.m s) ∧ (0 ≠ 0 → SU.u s ≤ limK 0) ∧ ∀ (j : Nat), j < SU.m s → isD (byteAt (SU.d s) j) = true) ∧ (Option.some (AV.str m d) = Option.some (AV.str s.3 s.4) ∧ (True ∧ True ∧ Option.some (AV.int Go.IntKind.i64 (Int.ofNat 0)) = Option.some (AV.int Go.IntKind.i64 (zK 0 s.2)) ∧ True ∧ True) ∧ Option.some (AV.int Go.IntKind.i64 (Int.ofNat 0)) = Option.some (AV.int Go.IntKind.i64 (Int.ofNat 0)) ∧ True ∧ True ∧ Option.some (AV.int Go.IntKind.i64 (Int.ofNat 0)) = Option.some (AV.int Go.IntKind.i64 (Int.ofNat s.1)) ∧ True ∧ True) ∧ 0 = 0 ∧ True ∧ bcase (dOK 0 s.4 (s.3 - s.1) s.1 s.2) (K (AV.tup [AV.int Go.IntKind.i64 (zK 0 (vVal s.4 (s.3 - s.1) s.1 s.2)), AV.bool true])) (K (AV.tup [AV.int Go.IntKind.i64 (Int.ofNat 0), AV.bool false]))))) := by kernel_rfl
theorem rnum_res2 (m d : Nat) (K : AV → Prop) : xfun (R2 2) Tryd.prog (xcode (R2 2) Tryd.prog F) 37 [.str m d, .int .i64 (.ofNat 2)] hNil [] (fun v _ _ => K v) = (bcase (ltI (Int.ofNat 20) (Int.ofNat m)) (K (AV.tup [AV.int Go.IntKind.i64 (Int.ofNat 0), AV.bool false])) (∃ s, (Nat.le (SU.m s) 20 ∧ (2 = 0 → SU.m s ≤ 9 ∧ SU.u s < 10 ^ SU.j s ∧ SU.j s ≤ SU.m s) ∧ (2 ≠ 0 → SU.u s ≤ limK 2) ∧ ∀ (j : Nat), j < SU.m s → isD (byteAt (SU.d s) j) = true) ∧ (Option.some (AV.str m d) = Option.some (AV.str s.3 s.4) ∧ (True ∧ True ∧ Option.some (AV.int Go.IntKind.i64 (Int.ofNat 0)) = Option.some (AV.int Go.IntKind.i64 (zK 2 s.2)) ∧ True ∧ True) ∧ Option.some (AV.int Go.IntKind.i64 (Int.ofNat 2)) = Option.some (AV.int Go.IntKind.i64 (Int.ofNat 2)) ∧ True ∧ True ∧ Option.some (AV.int Go.IntKind.i64 (Int.ofNat 0)) = Option.some (AV.int Go.IntKind.i64 (Int.ofNat s.1)) ∧ True ∧ True) ∧ 0 = 0 ∧ True ∧ bcase (dOK 2 s.4 (s.3 - s.1) s.1 s.2) (bcase (ltI (Int.ofNat 128) (zK 2 (vVal s.4 (s.3 - s.1) s.1 s.2))) (K (AV.tup [AV.int Go.IntKind.i64 (Int.ofNat 0), AV.bool false])) (K (AV.tup [AV.int Go.IntKind.i64 (wrapK 2 (zK 2 (vVal s.4 (s.3 - s.1) s.1 s.2))), AV.bool true]))) (K (AV.tup [AV.int Go.IntKind.i64 (Int.ofNat 0), AV.bool false])))) := by kernel_rfl
theorem rnum_res3 (m d : Nat) (K : AV → Prop) : xfun (R2 3) Tryd.prog (xcode (R2 3) Tryd.prog F) 37 [.str m d, .int .i64 (.ofNat 3)] hNil [] (fun v _ _ => K v) = (bcase (ltI (Int.ofNat 20) (Int.ofNat m)) (K (AV.tup [AV.int Go.IntKind.i64 (Int.ofNat 0), AV.bool false])) (∃ s, (Nat.le (SU.m s) 20 ∧ (3 = 0 → SU.m s ≤ 9 ∧ SU.u s < 10 ^ SU.j s ∧ SU.j s ≤ SU.m s) ∧ (3 ≠ 0 → SU.u s ≤ limK 3) ∧ ∀ (j : Nat), j < SU.m s → isD (byteAt (SU.d s) j) = true) ∧ (Option.some (AV.str m d) = Option.some (AV.str s.3 s.4) ∧ (True ∧ True ∧ Option.some (AV.int Go.IntKind.i64 (Int.ofNat 0)) = Option.some (AV.int Go.IntKind.i64 (zK 3 s.2)) ∧ True ∧ True) ∧ Option.some (AV.int Go.IntKind.i64 (Int.ofNat 3)) = Option.some (AV.int Go.IntKind.i64 (Int.ofNat 3)) ∧ True ∧ True ∧ Option.some (AV.int Go.IntKind.i64 (Int.ofNat 0)) = Option.some (AV.int Go.IntKind.i64 (Int.ofNat s.1)) ∧ True ∧ True) ∧ 0 = 0 ∧ True ∧ bcase (dOK 3 s.4 (s.3 - s.1) s.1 s.2) (bcase (ltI (Int.ofNat 32768) (zK 3 (vVal s.4 (s.3 - s.1) s.1 s.2))) (K (AV.tup [AV.int Go.IntKind.i64 (Int.ofNat 0), AV.bool false])) (K (AV.tup [AV.int Go.IntKind.i64 (wrapK 3 (zK 3 (vVal s.4 (s.3 - s.1) s.1 s.2))), AV.bool true]))) (K (AV.tup [AV.int Go.IntKind.i64 (Int.ofNat 0), AV.bool false])))) := by kernel_rfl
theorem rnum_res4 (m d : Nat) (K : AV → Prop) : xfun (R2 4) Tryd.prog (xcode (R2 4) Tryd.prog F) 37 [.str m d, .int .i64 (.ofNat 4)] hNil [] (fun v _ _ => K v) = (bcase (ltI (Int.ofNat 20) (Int.ofNat m)) (K (AV.tup [AV.int Go.IntKind.i64 (Int.ofNat 0), AV.bool false])) (∃ s, (Nat.le (SU.m s) 20 ∧ (4 = 0 → SU.m s ≤ 9 ∧ SU.u s < 10 ^ SU.j s ∧ SU.j s ≤ SU.m s) ∧ (4 ≠ 0 → SU.u s ≤ limK 4) ∧ ∀ (j : Nat), j < SU.m s → isD (byteAt (SU.d s) j) = true) ∧ (Option.some (AV.str m d) = Option.some (AV.str s.3 s.4) ∧ (True ∧ True ∧ Option.some (AV.int Go.IntKind.i64 (Int.ofNat 0)) = Option.some (AV.int Go.IntKind.i64 (zK 4 s.2)) ∧ True ∧ True) ∧ Option.some (AV.int Go.IntKind.i64 (Int.ofNat 4)) = Option.some (AV.int Go.IntKind.i64 (Int.ofNat 4)) ∧ True ∧ True ∧ Option.some (AV.int Go.IntKind.i64 (Int.ofNat 0)) = Option.some (AV.int Go.IntKind.i64 (Int.ofNat s.1)) ∧ True ∧ True) ∧ 0 = 0 ∧ True ∧ bcase (dOK 4 s.4 (s.3 - s.1) s.1 s.2) (bcase (ltI (Int.ofNat 2147483648) (zK 4 (vVal s.4 (s.3 - s.1) s.1 s.2))) (K (AV.tup [AV.int Go.IntKind.i64 (Int.ofNat 0), AV.bool false])) (K (AV.tup [AV.int Go.IntKind.i64 (wrapK 4 (zK 4 (vVal s.4 (s.3 - s.1) s.1 s.2))), AV.bool true]))) (K (AV.tup [AV.int Go.IntKind.i64 (Int.ofNat 0), AV.bool false])))) := by kernel_rfl
theorem rnum_res5 (m d : Nat) (K : AV → Prop) : xfun (R2 5) Tryd.prog (xcode (R2 5) Tryd.prog F) 37 [.str m d, .int .i64 (.ofNat 5)] hNil [] (fun v _ _ => K v) = (bcase (ltI (Int.ofNat 20) (Int.ofNat m)) (K (AV.tup [AV.int Go.IntKind.i64 (Int.ofNat 0), AV.bool false])) (∃ s, (Nat.le (SU.m s) 20 ∧ (5 = 0 → SU.m s ≤ 9 ∧ SU.u s < 10 ^ SU.j s ∧ SU.j s ≤ SU.m s) ∧ (5 ≠ 0 → SU.u s ≤ limK 5) ∧ ∀ (j : Nat), j < SU.m s → isD (byteAt (SU.d s) j) = true) ∧ (Option.some (AV.str m d) = Option.some (AV.str s.3 s.4) ∧ (True ∧ True ∧ Option.some (AV.int Go.IntKind.i64 (Int.ofNat 0)) = Option.some (AV.int Go.IntKind.i64 (zK 5 s.2)) ∧ True ∧ True) ∧ Option.some (AV.int Go.IntKind.i64 (Int.ofNat 5)) = Option.some (AV.int Go.IntKind.i64 (Int.ofNat 5)) ∧ True ∧ True ∧ Option.some (AV.int Go.IntKind.i64 (Int.ofNat 0)) = Option.some (AV.int Go.IntKind.i64 (Int.ofNat s.1)) ∧ True ∧ True) ∧ 0 = 0 ∧ True ∧ bcase (dOK 5 s.4 (s.3 - s.1) s.1 s.2) (bcase (eqI (zK 5 (vVal s.4 (s.3 - s.1) s.1 s.2)) (Int.negSucc 9223372036854775807)) (K (AV.tup [AV.int Go.IntKind.i64 (zK 5 (vVal s.4 (s.3 - s.1) s.1 s.2)), AV.bool true])) (bcase (inR Go.IntKind.i64 (Int.ofNat 0 - zK 5 (vVal s.4 (s.3 - s.1) s.1 s.2))) (K (AV.tup [AV.int Go.IntKind.i64 (Int.ofNat 0 - zK 5 (vVal s.4 (s.3 - s.1) s.1 s.2)), AV.bool true])) False)) (K (AV.tup [AV.int Go.IntKind.i64 (Int.ofNat 0), AV.bool false])))) := by kernel_rfl
theorem rnum_res6 (m d : Nat) (K : AV → Prop) : xfun (R2 6) Tryd.prog (xcode (R2 6) Tryd.prog F) 37 [.str m d, .int .i64 (.ofNat 6)] hNil [] (fun v _ _ => K v) = (bcase (ltI (Int.ofNat 20) (Int.ofNat m)) (K (AV.tup [AV.int Go.IntKind.i64 (Int.ofNat 0), AV.bool false])) (∃ s, (Nat.le (SU.m s) 20 ∧ (6 = 0 → SU.m s ≤ 9 ∧ SU.u s < 10 ^ SU.j s ∧ SU.j s ≤ SU.m s) ∧ (6 ≠ 0 → SU.u s ≤ limK 6) ∧ ∀ (j : Nat), j < SU.m s → isD (byteAt (SU.d s) j) = true) ∧ (Option.some (AV.str m d) = Option.some (AV.str s.3 s.4) ∧ (True ∧ True ∧ Option.some (AV.int Go.IntKind.i64 (Int.ofNat 0)) = Option.some (AV.int Go.IntKind.i64 (zK 6 s.2)) ∧ True ∧ True) ∧ Option.some (AV.int Go.IntKind.i64 (Int.ofNat 6)) = Option.some (AV.int Go.IntKind.i64 (Int.ofNat 6)) ∧ True ∧ True ∧ Option.some (AV.int Go.IntKind.i64 (Int.ofNat 0)) = Option.some (AV.int Go.IntKind.i64 (Int.ofNat s.1)) ∧ True ∧ True) ∧ 0 = 0 ∧ True ∧ bcase (dOK 6 s.4 (s.3 - s.1) s.1 s.2) (bcase (ltI (zK 6 (vVal s.4 (s.3 - s.1) s.1 s.2)) (Int.ofNat 256)) (K (AV.tup [AV.int Go.IntKind.i64 (zK 6 (vVal s.4 (s.3 - s.1) s.1 s.2)), AV.bool true])) (K (AV.tup [AV.int Go.IntKind.i64 (zK 6 (vVal s.4 (s.3 - s.1) s.1 s.2)), AV.bool false]))) (K (AV.tup [AV.int Go.IntKind.i64 (Int.ofNat 0), AV.bool false])))) := by kernel_rfl
theorem rnum_res7 (m d : Nat) (K : AV → Prop) : xfun (R2 7) Tryd.prog (xcode (R2 7) Tryd.prog F) 37 [.str m d, .int .i64 (.ofNat 7)] hNil [] (fun v _ _ => K v) = (bcase (ltI (Int.ofNat 20) (Int.ofNat m)) (K (AV.tup [AV.int Go.IntKind.i64 (Int.ofNat 0), AV.bool false])) (∃ s, (Nat.le (SU.m s) 20 ∧ (7 = 0 → SU.m s ≤ 9 ∧ SU.u s < 10 ^ SU.j s ∧ SU.j s ≤ SU.m s) ∧ (7 ≠ 0 → SU.u s ≤ limK 7) ∧ ∀ (j : Nat), j < SU.m s → isD (byteAt (SU.d s) j) = true) ∧ (Option.some (AV.str m d) = Option.some (AV.str s.3 s.4) ∧ (True ∧ True ∧ Option.some (AV.int Go.IntKind.i64 (Int.ofNat 0)) = Option.some (AV.int Go.IntKind.i64 (zK 7 s.2)) ∧ True ∧ True) ∧ Option.some (AV.int Go.IntKind.i64 (Int.ofNat 7)) = Option.some (AV.int Go.IntKind.i64 (Int.ofNat 7)) ∧ True ∧ True ∧ Option.some (AV.int Go.IntKind.i64 (Int.ofNat 0)) = Option.some (AV.int Go.IntKind.i64 (Int.ofNat s.1)) ∧ True ∧ True) ∧ 0 = 0 ∧ True ∧ bcase (dOK 7 s.4 (s.3 - s.1) s.1 s.2) (bcase (ltI (zK 7 (vVal s.4 (s.3 - s.1) s.1 s.2)) (Int.ofNat 65536)) (K (AV.tup [AV.int Go.IntKind.i64 (zK 7 (vVal s.4 (s.3 - s.1) s.1 s.2)), AV.bool true])) (K (AV.tup [AV.int Go.IntKind.i64 (zK 7 (vVal s.4 (s.3 - s.1) s.1 s.2)), AV.bool false]))) (K (AV.tup [AV.int Go.IntKind.i64 (Int.ofNat 0), AV.bool false])))) := by kernel_rfl
theorem rnum_res8 (m d : Nat) (K : AV → Prop) : xfun (R2 8) Tryd.prog (xcode (R2 8) Tryd.prog F) 37 [.str m d, .int .i64 (.ofNat 8)] hNil [] (fun v _ _ => K v) = (bcase (ltI (Int.ofNat 20) (Int.ofNat m)) (K (AV.tup [AV.int Go.IntKind.i64 (Int.ofNat 0), AV.bool false])) (∃ s, (Nat.le (SU.m s) 20 ∧ (8 = 0 → SU.m s ≤ 9 ∧ SU.u s < 10 ^ SU.j s ∧ SU.j s ≤ SU.m s) ∧ (8 ≠ 0 → SU.u s ≤ limK 8) ∧ ∀ (j : Nat), j < SU.m s → isD (byteAt (SU.d s) j) = true) ∧ (Option.some (AV.str m d) = Option.some (AV.str s.3 s.4) ∧ (True ∧ True ∧ Option.some (AV.int Go.IntKind.i64 (Int.ofNat 0)) = Option.some (AV.int Go.IntKind.i64 (zK 8 s.2)) ∧ True ∧ True) ∧ Option.some (AV.int Go.IntKind.i64 (Int.ofNat 8)) = Option.some (AV.int Go.IntKind.i64 (Int.ofNat 8)) ∧ True ∧ True ∧ Option.some (AV.int Go.IntKind.i64 (Int.ofNat 0)) = Option.some (AV.int Go.IntKind.i64 (Int.ofNat s.1)) ∧ True ∧ True) ∧ 0 = 0 ∧ True ∧ bcase (dOK 8 s.4 (s.3 - s.1) s.1 s.2) (bcase (ltI (zK 8 (vVal s.4 (s.3 - s.1) s.1 s.2)) (Int.ofNat 4294967296)) (K (AV.tup [AV.int Go.IntKind.i64 (zK 8 (vVal s.4 (s.3 - s.1) s.1 s.2)), AV.bool true])) (K (AV.tup [AV.int Go.IntKind.i64 (zK 8 (vVal s.4 (s.3 - s.1) s.1 s.2)), AV.bool false]))) (K (AV.tup [AV.int Go.IntKind.i64 (Int.ofNat 0), AV.bool false])))) := by kernel_rfl
theorem rnum_res9 (m d : Nat) (K : AV → Prop) : xfun (R2 9) Tryd.prog (xcode (R2 9) Tryd.prog F) 37 [.str m d, .int .i64 (.ofNat 9)] hNil [] (fun v _ _ => K v) = (bcase (ltI (Int.ofNat 20) (Int.ofNat m)) (K (AV.tup [AV.int Go.IntKind.i64 (Int.ofNat 0), AV.bool false])) (∃ s, (Nat.le (SU.m s) 20 ∧ (9 = 0 → SU.m s ≤ 9 ∧ SU.u s < 10 ^ SU.j s ∧ SU.j s ≤ SU.m s) ∧ (9 ≠ 0 → SU.u s ≤ limK 9) ∧ ∀ (j : Nat), j < SU.m s → isD (byteAt (SU.d s) j) = true) ∧ (Option.some (AV.str m d) = Option.some (AV.str s.3 s.4) ∧ (True ∧ True ∧ Option.some (AV.int Go.IntKind.i64 (Int.ofNat 0)) = Option.some (AV.int Go.IntKind.i64 (zK 9 s.2)) ∧ True ∧ True) ∧ Option.some (AV.int Go.IntKind.i64 (Int.ofNat 9)) = Option.some (AV.int Go.IntKind.i64 (Int.ofNat 9)) ∧ True ∧ True ∧ Option.some (AV.int Go.IntKind.i64 (Int.ofNat 0)) = Option.some (AV.int Go.IntKind.i64 (Int.ofNat s.1)) ∧ True ∧ True) ∧ 0 = 0 ∧ True ∧ bcase (dOK 9 s.4 (s.3 - s.1) s.1 s.2) (K (AV.tup [AV.int Go.IntKind.i64 (zK 9 (vVal s.4 (s.3 - s.1) s.1 s.2)), AV.bool true])) (K (AV.tup [AV.int Go.IntKind.i64 (Int.ofNat 0), AV.bool false])))) := by kernel_rfl
end
end Go.Proofs.YtoeoaiipchklbaaDoor
/- The document's lexer: numbers, as a contract. -/
set_option autoImplicit false
set_option linter.unusedVariables false
set_option maxRecDepth 100000
set_option maxHeartbeats 1000000
namespace Go.Proofs.YtoeoaiipchklbaaDoor
noncomputable section
open Go.X
theorem allD_get {d : Nat} : ∀ {m : Nat}, allD d m = true → ∀ j, j < m → isD (byteAt d j) = true
  | 0, _, j, hj => by omega
  | m + 1, h, j, hj => by
    have h : (isD (byteAt d m) && allD d m) = true := h
    rw [Bool.and_eq_true] at h
    by_cases e : j = m
    · rw [e]; exact h.1
    · exact allD_get h.2 j (by omega)
theorem allD_mk {d : Nat} : ∀ {m : Nat}, (∀ j, j < m → isD (byteAt d j) = true) → allD d m = true
  | 0, _ => rfl
  | m + 1, h => by
    show (isD (byteAt d m) && allD d m) = true
    rw [Bool.and_eq_true]
    exact ⟨h m (by omega), allD_mk fun j hj => h j (by omega)⟩
theorem vVal_ge (d : Nat) : ∀ (f j u : Nat), u ≤ vVal d f j u
  | 0, j, u => Nat.le_refl _
  | f + 1, j, u => by
    have := vVal_ge d f (j + 1) (u * 10 + (byteAt d j - 48))
    rw [vVal]; omega
theorem dOK_iff {k d : Nat} (hk : k ≠ 0) : ∀ (f j u : Nat), u ≤ limK k → dOK k d f j u = Nat.ble (vVal d f j u) (limK k)
  | 0, j, u, hu => by rw [vVal, Nat.ble_eq_true_of_le hu]; rfl
  | f + 1, j, u, hu => by
    rw [dOK, vVal]
    have e : stepK k u (byteAt d j - 48) = Nat.ble (u * 10 + (byteAt d j - 48)) (limK k) := by
      unfold stepK; rw [show Nat.beq k 0 = false by rw [beqD, decide_eq_false_iff_not]; exact hk]; rfl
    rw [e]
    have := vVal_ge d f (j + 1) (u * 10 + (byteAt d j - 48))
    cases hb : Nat.ble (u * 10 + (byteAt d j - 48)) (limK k) with
    | true => exact dOK_iff hk f (j + 1) _ (bleT hb)
    | false =>
      have hb := bleF hb
      show false = _
      symm; rw [bleD, decide_eq_false_iff_not]; omega
theorem dOK_0 (d : Nat) : ∀ (f j u : Nat), dOK 0 d f j u = true
  | 0, j, u => rfl
  | f + 1, j, u => dOK_0 d f (j + 1) _
theorem vVal_lt {d : Nat} : ∀ (f j u : Nat), (∀ i, i < j + f → isD (byteAt d i) = true) → vVal d f j u < (u + 1) * 10 ^ f
  | 0, j, u, _ => by rw [vVal]; omega
  | f + 1, j, u, h => by
    have h1 := h j (by omega)
    rw [isD_iff, decide_eq_true_iff] at h1
    have := vVal_lt f (j + 1) (u * 10 + (byteAt d j - 48)) (fun i hi => h i (by omega))
    rw [vVal, Nat.pow_succ]
    have h2 : (u * 10 + (byteAt d j - 48) + 1) * 10 ^ f ≤ ((u + 1) * 10) * 10 ^ f := Nat.mul_le_mul_right _ (by omega)
    have h3 : ((u + 1) * 10) * 10 ^ f = (u + 1) * (10 ^ f * 10) := by rw [Nat.mul_assoc, Nat.mul_comm 10]
    omega
def QN (m d k : Nat) (v : AV) : Prop := (okN m d k = true ∧ v = .tup [.int .i64 (valN m d k), .bool true]) ∨ (okN m d k = false ∧ v = .tup [.int .i64 (failN m d k), .bool false])
theorem tup_eq {a b : Int} {c : Bool} (h : a = b) : AV.tup [.int .i64 a, .bool c] = .tup [.int .i64 b, .bool c] := by rw [h]
theorem wrap_pos {u : Nat} (h : u < 9223372036854775808) : wrapF .i64 (Int.ofNat u) = Int.ofNat u := by
  rw [wrap64]; simp only [Int.ofNat_eq_natCast]; split <;> omega
theorem rnum_run0 {m d : Nat} (hd : ∀ j, j < m → isD (byteAt d j) = true) : Ran (xfun (R2 0) Tryd.prog (xcode (R2 0) Tryd.prog F) 37 [.str m d, .int .i64 (.ofNat 0)] hNil [] (fun v _ _ => QN m d 0 v)) := by
  have h := rnum_res0 m d (fun v => QN m d 0 v)
  refine ⟨?_⟩
  rw [h]; clear h
  have f20 : ¬ m ≤ 20 → okN m d 0 = false := fun h => by unfold okN; rw [show Nat.ble m 20 = false by rw [bleD, decide_eq_false_iff_not]; exact h]; rfl
  have z20 : ¬ m ≤ 20 → failN m d 0 = Int.ofNat 0 := fun h => by unfold failN; rw [show Nat.ble m 20 = false by rw [bleD, decide_eq_false_iff_not]; exact h]; rfl
  refine bcase_mk (fun q => .inr ⟨f20 (by have := ltT q; omega), tup_eq (z20 (by have := ltT q; omega)).symm⟩) (fun q20 => ?_)
  have h20 : m ≤ 20 := by have := ltF q20; omega
  have b20 : Nat.ble m 20 = true := Nat.ble_eq_true_of_le h20
  refine bcase_mk (fun q => .inr ⟨?_, tup_eq ?_⟩) (fun q9 => ?_)
  · have := ltT q
    unfold okN; rw [b20, show Nat.ble m 9 = false by rw [bleD, decide_eq_false_iff_not]; omega]; rfl
  · unfold failN; rw [b20]; rfl
  have h9 : m ≤ 9 := by have := ltF q9; omega
  refine ⟨⟨0, 0, m, d⟩, ⟨h20, fun _ => ⟨h9, (by decide : 0 < 10 ^ 0), Nat.zero_le _⟩, fun h => absurd rfl h, hd⟩, by repeat' (first | exact trivial | exact rfl | refine And.intro ?_ ?_), rfl, by repeat' (first | exact trivial | exact rfl | refine And.intro ?_ ?_), ?_⟩
  refine bcase_mk (fun _ => .inl ⟨?_, tup_eq ?_⟩) (fun q => ?_)
  · unfold okN; rw [b20, Nat.ble_eq_true_of_le h9]; rfl
  · have h1 := vVal_lt (d := d) m 0 0 (fun i hi => hd i (by omega))
    have h2 : 10 ^ m ≤ 10 ^ 9 := Nat.pow_le_pow_right (by decide) h9
    have h3 : (10 : Nat) ^ 9 = 1000000000 := rfl
    show Int.ofNat (vVal d m 0 0) = wrapF .i64 (Int.ofNat (vVal d m 0 0))
    rw [wrap_pos]; omega
  · have := dOK_0 d (m - 0) 0 0
    rw [q] at this; cases this
theorem rnum_run2 {m d : Nat} (hd : ∀ j, j < m → isD (byteAt d j) = true) : Ran (xfun (R2 2) Tryd.prog (xcode (R2 2) Tryd.prog F) 37 [.str m d, .int .i64 (.ofNat 2)] hNil [] (fun v _ _ => QN m d 2 v)) := by
  have h := rnum_res2 m d (fun v => QN m d 2 v)
  refine ⟨?_⟩
  rw [h]; clear h
  have f20 : ¬ m ≤ 20 → okN m d 2 = false := fun h => by unfold okN; rw [show Nat.ble m 20 = false by rw [bleD, decide_eq_false_iff_not]; exact h]; rfl
  have z20 : ¬ m ≤ 20 → failN m d 2 = Int.ofNat 0 := fun h => by unfold failN; rw [show Nat.ble m 20 = false by rw [bleD, decide_eq_false_iff_not]; exact h]; rfl
  refine bcase_mk (fun q => .inr ⟨f20 (by have := ltT q; omega), tup_eq (z20 (by have := ltT q; omega)).symm⟩) (fun q20 => ?_)
  have h20 : m ≤ 20 := by have := ltF q20; omega
  have b20 : Nat.ble m 20 = true := Nat.ble_eq_true_of_le h20
  refine ⟨⟨0, 0, m, d⟩, ⟨h20, fun h => absurd h (by decide), fun _ => Nat.zero_le _, hd⟩, by repeat' (first | exact trivial | exact rfl | refine And.intro ?_ ?_), rfl, by repeat' (first | exact trivial | exact rfl | refine And.intro ?_ ?_), ?_⟩
  have ed : dOK 2 d (m - 0) 0 0 = Nat.ble (vVal d m 0 0) 8589934592 := dOK_iff (by decide) m 0 0 (Nat.zero_le _)
  have yes : vVal d m 0 0 ≤ 128 → okN m d 2 = true := fun h => by
    show (Nat.ble m 20 && Nat.ble (vVal d m 0 0) 128) = true
    rw [b20, Nat.ble_eq_true_of_le h]; rfl
  have no : ¬ vVal d m 0 0 ≤ 128 → okN m d 2 = false := fun h => by
    show (Nat.ble m 20 && Nat.ble (vVal d m 0 0) 128) = false
    rw [b20, show Nat.ble (vVal d m 0 0) 128 = false by rw [bleD, decide_eq_false_iff_not]; exact h]; rfl
  refine bcase_mk (fun q => ?_) (fun q => ?_)
  · have q : vVal d m 0 0 ≤ 8589934592 := bleT (ed.symm.trans q)
    refine bcase_mk (fun q2 => ?_) (fun q2 => ?_)
    · have q2 : 128 < vVal d m 0 0 := ltT q2
      exact .inr ⟨no (by omega), tup_eq (by unfold failN; rw [b20]; rfl)⟩
    · have q2 : ¬ 128 < vVal d m 0 0 := ltF q2
      refine .inl ⟨yes (by omega), tup_eq ?_⟩
      show wrapK 2 (Int.ofNat (vVal d m 0 0)) = wrapK 2 (wrapF .i64 (Int.ofNat (vVal d m 0 0)))
      rw [wrap_pos (by omega)]
  · have q : ¬ vVal d m 0 0 ≤ 8589934592 := bleF (ed.symm.trans q)
    exact .inr ⟨no (by omega), tup_eq (by unfold failN; rw [b20]; rfl)⟩
theorem rnum_run3 {m d : Nat} (hd : ∀ j, j < m → isD (byteAt d j) = true) : Ran (xfun (R2 3) Tryd.prog (xcode (R2 3) Tryd.prog F) 37 [.str m d, .int .i64 (.ofNat 3)] hNil [] (fun v _ _ => QN m d 3 v)) := by
  have h := rnum_res3 m d (fun v => QN m d 3 v)
  refine ⟨?_⟩
  rw [h]; clear h
  have f20 : ¬ m ≤ 20 → okN m d 3 = false := fun h => by unfold okN; rw [show Nat.ble m 20 = false by rw [bleD, decide_eq_false_iff_not]; exact h]; rfl
  have z20 : ¬ m ≤ 20 → failN m d 3 = Int.ofNat 0 := fun h => by unfold failN; rw [show Nat.ble m 20 = false by rw [bleD, decide_eq_false_iff_not]; exact h]; rfl
  refine bcase_mk (fun q => .inr ⟨f20 (by have := ltT q; omega), tup_eq (z20 (by have := ltT q; omega)).symm⟩) (fun q20 => ?_)
  have h20 : m ≤ 20 := by have := ltF q20; omega
  have b20 : Nat.ble m 20 = true := Nat.ble_eq_true_of_le h20
  refine ⟨⟨0, 0, m, d⟩, ⟨h20, fun h => absurd h (by decide), fun _ => Nat.zero_le _, hd⟩, by repeat' (first | exact trivial | exact rfl | refine And.intro ?_ ?_), rfl, by repeat' (first | exact trivial | exact rfl | refine And.intro ?_ ?_), ?_⟩
  have ed : dOK 3 d (m - 0) 0 0 = Nat.ble (vVal d m 0 0) 8589934592 := dOK_iff (by decide) m 0 0 (Nat.zero_le _)
  have yes : vVal d m 0 0 ≤ 32768 → okN m d 3 = true := fun h => by
    show (Nat.ble m 20 && Nat.ble (vVal d m 0 0) 32768) = true
    rw [b20, Nat.ble_eq_true_of_le h]; rfl
  have no : ¬ vVal d m 0 0 ≤ 32768 → okN m d 3 = false := fun h => by
    show (Nat.ble m 20 && Nat.ble (vVal d m 0 0) 32768) = false
    rw [b20, show Nat.ble (vVal d m 0 0) 32768 = false by rw [bleD, decide_eq_false_iff_not]; exact h]; rfl
  refine bcase_mk (fun q => ?_) (fun q => ?_)
  · have q : vVal d m 0 0 ≤ 8589934592 := bleT (ed.symm.trans q)
    refine bcase_mk (fun q2 => ?_) (fun q2 => ?_)
    · have q2 : 32768 < vVal d m 0 0 := ltT q2
      exact .inr ⟨no (by omega), tup_eq (by unfold failN; rw [b20]; rfl)⟩
    · have q2 : ¬ 32768 < vVal d m 0 0 := ltF q2
      refine .inl ⟨yes (by omega), tup_eq ?_⟩
      show wrapK 3 (Int.ofNat (vVal d m 0 0)) = wrapK 3 (wrapF .i64 (Int.ofNat (vVal d m 0 0)))
      rw [wrap_pos (by omega)]
  · have q : ¬ vVal d m 0 0 ≤ 8589934592 := bleF (ed.symm.trans q)
    exact .inr ⟨no (by omega), tup_eq (by unfold failN; rw [b20]; rfl)⟩
theorem rnum_run4 {m d : Nat} (hd : ∀ j, j < m → isD (byteAt d j) = true) : Ran (xfun (R2 4) Tryd.prog (xcode (R2 4) Tryd.prog F) 37 [.str m d, .int .i64 (.ofNat 4)] hNil [] (fun v _ _ => QN m d 4 v)) := by
  have h := rnum_res4 m d (fun v => QN m d 4 v)
  refine ⟨?_⟩
  rw [h]; clear h
  have f20 : ¬ m ≤ 20 → okN m d 4 = false := fun h => by unfold okN; rw [show Nat.ble m 20 = false by rw [bleD, decide_eq_false_iff_not]; exact h]; rfl
  have z20 : ¬ m ≤ 20 → failN m d 4 = Int.ofNat 0 := fun h => by unfold failN; rw [show Nat.ble m 20 = false by rw [bleD, decide_eq_false_iff_not]; exact h]; rfl
  refine bcase_mk (fun q => .inr ⟨f20 (by have := ltT q; omega), tup_eq (z20 (by have := ltT q; omega)).symm⟩) (fun q20 => ?_)
  have h20 : m ≤ 20 := by have := ltF q20; omega
  have b20 : Nat.ble m 20 = true := Nat.ble_eq_true_of_le h20
  refine ⟨⟨0, 0, m, d⟩, ⟨h20, fun h => absurd h (by decide), fun _ => Nat.zero_le _, hd⟩, by repeat' (first | exact trivial | exact rfl | refine And.intro ?_ ?_), rfl, by repeat' (first | exact trivial | exact rfl | refine And.intro ?_ ?_), ?_⟩
  have ed : dOK 4 d (m - 0) 0 0 = Nat.ble (vVal d m 0 0) 8589934592 := dOK_iff (by decide) m 0 0 (Nat.zero_le _)
  have yes : vVal d m 0 0 ≤ 2147483648 → okN m d 4 = true := fun h => by
    show (Nat.ble m 20 && Nat.ble (vVal d m 0 0) 2147483648) = true
    rw [b20, Nat.ble_eq_true_of_le h]; rfl
  have no : ¬ vVal d m 0 0 ≤ 2147483648 → okN m d 4 = false := fun h => by
    show (Nat.ble m 20 && Nat.ble (vVal d m 0 0) 2147483648) = false
    rw [b20, show Nat.ble (vVal d m 0 0) 2147483648 = false by rw [bleD, decide_eq_false_iff_not]; exact h]; rfl
  refine bcase_mk (fun q => ?_) (fun q => ?_)
  · have q : vVal d m 0 0 ≤ 8589934592 := bleT (ed.symm.trans q)
    refine bcase_mk (fun q2 => ?_) (fun q2 => ?_)
    · have q2 : 2147483648 < vVal d m 0 0 := ltT q2
      exact .inr ⟨no (by omega), tup_eq (by unfold failN; rw [b20]; rfl)⟩
    · have q2 : ¬ 2147483648 < vVal d m 0 0 := ltF q2
      refine .inl ⟨yes (by omega), tup_eq ?_⟩
      show wrapK 4 (Int.ofNat (vVal d m 0 0)) = wrapK 4 (wrapF .i64 (Int.ofNat (vVal d m 0 0)))
      rw [wrap_pos (by omega)]
  · have q : ¬ vVal d m 0 0 ≤ 8589934592 := bleF (ed.symm.trans q)
    exact .inr ⟨no (by omega), tup_eq (by unfold failN; rw [b20]; rfl)⟩
theorem rnum_run5 {m d : Nat} (hd : ∀ j, j < m → isD (byteAt d j) = true) : Ran (xfun (R2 5) Tryd.prog (xcode (R2 5) Tryd.prog F) 37 [.str m d, .int .i64 (.ofNat 5)] hNil [] (fun v _ _ => QN m d 5 v)) := by
  have h := rnum_res5 m d (fun v => QN m d 5 v)
  refine ⟨?_⟩
  rw [h]; clear h
  have f20 : ¬ m ≤ 20 → okN m d 5 = false := fun h => by unfold okN; rw [show Nat.ble m 20 = false by rw [bleD, decide_eq_false_iff_not]; exact h]; rfl
  have z20 : ¬ m ≤ 20 → failN m d 5 = Int.ofNat 0 := fun h => by unfold failN; rw [show Nat.ble m 20 = false by rw [bleD, decide_eq_false_iff_not]; exact h]; rfl
  refine bcase_mk (fun q => .inr ⟨f20 (by have := ltT q; omega), tup_eq (z20 (by have := ltT q; omega)).symm⟩) (fun q20 => ?_)
  have h20 : m ≤ 20 := by have := ltF q20; omega
  have b20 : Nat.ble m 20 = true := Nat.ble_eq_true_of_le h20
  refine ⟨⟨0, 0, m, d⟩, ⟨h20, fun h => absurd h (by decide), fun _ => Nat.zero_le _, hd⟩, by repeat' (first | exact trivial | exact rfl | refine And.intro ?_ ?_), rfl, by repeat' (first | exact trivial | exact rfl | refine And.intro ?_ ?_), ?_⟩
  have ed : dOK 5 d (m - 0) 0 0 = Nat.ble (vVal d m 0 0) 9223372036854775808 := dOK_iff (by decide) m 0 0 (Nat.zero_le _)
  have yes : vVal d m 0 0 ≤ 9223372036854775808 → okN m d 5 = true := fun h => by
    show (Nat.ble m 20 && Nat.ble (vVal d m 0 0) 9223372036854775808) = true
    rw [b20, Nat.ble_eq_true_of_le h]; rfl
  have no : ¬ vVal d m 0 0 ≤ 9223372036854775808 → okN m d 5 = false := fun h => by
    show (Nat.ble m 20 && Nat.ble (vVal d m 0 0) 9223372036854775808) = false
    rw [b20, show Nat.ble (vVal d m 0 0) 9223372036854775808 = false by rw [bleD, decide_eq_false_iff_not]; exact h]; rfl
  refine bcase_mk (fun q => ?_) (fun q => ?_)
  · have q : vVal d m 0 0 ≤ 9223372036854775808 := bleT (ed.symm.trans q)
    have ez : zK 5 (vVal d m 0 0) = -(Int.ofNat (vVal d m 0 0)) := rfl
    have ev : valN m d 5 = wrapF .i64 (Int.ofNat (vVal d m 0 0)) := rfl
    refine bcase_mk (fun q2 => ?_) (fun q2 => bcase_t ?_ ?_)
    · rw [eqI_eq, beq_iff_eq] at q2
      have q3 : -(Int.ofNat (vVal d m 0 0)) = Int.negSucc 9223372036854775807 := q2
      refine .inl ⟨yes (by omega), tup_eq ?_⟩
      rw [ev]
      show -(Int.ofNat (vVal d m 0 0)) = _
      have : vVal d m 0 0 = 9223372036854775808 := by simp only [Int.ofNat_eq_natCast] at q3; omega
      rw [this]; rfl
    · show inR .i64 (Int.ofNat 0 - -(Int.ofNat (vVal d m 0 0))) = true
      rw [eqI_eq, beq_eq_false_iff_ne] at q2
      have q3 : -(Int.ofNat (vVal d m 0 0)) ≠ Int.negSucc 9223372036854775807 := q2
      simp only [Int.ofNat_eq_natCast] at q3
      exact inR_of' (by simp only [Int.ofNat_eq_natCast]; omega) (by simp only [Int.ofNat_eq_natCast]; omega)
    · rw [eqI_eq, beq_eq_false_iff_ne] at q2
      have q3 : -(Int.ofNat (vVal d m 0 0)) ≠ Int.negSucc 9223372036854775807 := q2
      simp only [Int.ofNat_eq_natCast] at q3
      refine .inl ⟨yes (by omega), tup_eq ?_⟩
      rw [ev]
      show Int.ofNat 0 - -(Int.ofNat (vVal d m 0 0)) = _
      rw [wrap_pos (by omega)]; simp only [Int.ofNat_eq_natCast]; omega
  · have q : ¬ vVal d m 0 0 ≤ 9223372036854775808 := bleF (ed.symm.trans q)
    exact .inr ⟨no (by omega), tup_eq (by unfold failN; rw [b20]; rfl)⟩
theorem rnum_run6 {m d : Nat} (hd : ∀ j, j < m → isD (byteAt d j) = true) : Ran (xfun (R2 6) Tryd.prog (xcode (R2 6) Tryd.prog F) 37 [.str m d, .int .i64 (.ofNat 6)] hNil [] (fun v _ _ => QN m d 6 v)) := by
  have h := rnum_res6 m d (fun v => QN m d 6 v)
  refine ⟨?_⟩
  rw [h]; clear h
  have f20 : ¬ m ≤ 20 → okN m d 6 = false := fun h => by unfold okN; rw [show Nat.ble m 20 = false by rw [bleD, decide_eq_false_iff_not]; exact h]; rfl
  have z20 : ¬ m ≤ 20 → failN m d 6 = Int.ofNat 0 := fun h => by unfold failN; rw [show Nat.ble m 20 = false by rw [bleD, decide_eq_false_iff_not]; exact h]; rfl
  refine bcase_mk (fun q => .inr ⟨f20 (by have := ltT q; omega), tup_eq (z20 (by have := ltT q; omega)).symm⟩) (fun q20 => ?_)
  have h20 : m ≤ 20 := by have := ltF q20; omega
  have b20 : Nat.ble m 20 = true := Nat.ble_eq_true_of_le h20
  refine ⟨⟨0, 0, m, d⟩, ⟨h20, fun h => absurd h (by decide), fun _ => Nat.zero_le _, hd⟩, by repeat' (first | exact trivial | exact rfl | refine And.intro ?_ ?_), rfl, by repeat' (first | exact trivial | exact rfl | refine And.intro ?_ ?_), ?_⟩
  have ed : dOK 6 d (m - 0) 0 0 = Nat.ble (vVal d m 0 0) 8589934592 := dOK_iff (by decide) m 0 0 (Nat.zero_le _)
  have yes : vVal d m 0 0 ≤ 255 → okN m d 6 = true := fun h => by
    show (Nat.ble m 20 && Nat.ble (vVal d m 0 0) 255) = true
    rw [b20, Nat.ble_eq_true_of_le h]; rfl
  have no : ¬ vVal d m 0 0 ≤ 255 → okN m d 6 = false := fun h => by
    show (Nat.ble m 20 && Nat.ble (vVal d m 0 0) 255) = false
    rw [b20, show Nat.ble (vVal d m 0 0) 255 = false by rw [bleD, decide_eq_false_iff_not]; exact h]; rfl
  refine bcase_mk (fun q => ?_) (fun q => ?_)
  · have q : vVal d m 0 0 ≤ 8589934592 := bleT (ed.symm.trans q)
    refine bcase_mk (fun q2 => ?_) (fun q2 => ?_)
    · have q2 : vVal d m 0 0 < 256 := ltT q2
      refine .inl ⟨yes (by omega), tup_eq ?_⟩
      show Int.ofNat (vVal d m 0 0) = wrapK 6 (wrapF .i64 (Int.ofNat (vVal d m 0 0)))
      rw [wrap_pos (by omega), wrapK_6]; simp only [Int.ofNat_eq_natCast]; omega
    · have q2 : ¬ vVal d m 0 0 < 256 := ltF q2
      refine .inr ⟨no (by omega), tup_eq ?_⟩
      show Int.ofNat (vVal d m 0 0) = _
      unfold failN; rw [b20, Nat.ble_eq_true_of_le q]; rfl
  · have q : ¬ vVal d m 0 0 ≤ 8589934592 := bleF (ed.symm.trans q)
    exact .inr ⟨no (by omega), tup_eq (by unfold failN; rw [b20, show Nat.ble (vVal d m 0 0) 8589934592 = false by rw [bleD, decide_eq_false_iff_not]; omega]; rfl)⟩
theorem rnum_run7 {m d : Nat} (hd : ∀ j, j < m → isD (byteAt d j) = true) : Ran (xfun (R2 7) Tryd.prog (xcode (R2 7) Tryd.prog F) 37 [.str m d, .int .i64 (.ofNat 7)] hNil [] (fun v _ _ => QN m d 7 v)) := by
  have h := rnum_res7 m d (fun v => QN m d 7 v)
  refine ⟨?_⟩
  rw [h]; clear h
  have f20 : ¬ m ≤ 20 → okN m d 7 = false := fun h => by unfold okN; rw [show Nat.ble m 20 = false by rw [bleD, decide_eq_false_iff_not]; exact h]; rfl
  have z20 : ¬ m ≤ 20 → failN m d 7 = Int.ofNat 0 := fun h => by unfold failN; rw [show Nat.ble m 20 = false by rw [bleD, decide_eq_false_iff_not]; exact h]; rfl
  refine bcase_mk (fun q => .inr ⟨f20 (by have := ltT q; omega), tup_eq (z20 (by have := ltT q; omega)).symm⟩) (fun q20 => ?_)
  have h20 : m ≤ 20 := by have := ltF q20; omega
  have b20 : Nat.ble m 20 = true := Nat.ble_eq_true_of_le h20
  refine ⟨⟨0, 0, m, d⟩, ⟨h20, fun h => absurd h (by decide), fun _ => Nat.zero_le _, hd⟩, by repeat' (first | exact trivial | exact rfl | refine And.intro ?_ ?_), rfl, by repeat' (first | exact trivial | exact rfl | refine And.intro ?_ ?_), ?_⟩
  have ed : dOK 7 d (m - 0) 0 0 = Nat.ble (vVal d m 0 0) 8589934592 := dOK_iff (by decide) m 0 0 (Nat.zero_le _)
  have yes : vVal d m 0 0 ≤ 65535 → okN m d 7 = true := fun h => by
    show (Nat.ble m 20 && Nat.ble (vVal d m 0 0) 65535) = true
    rw [b20, Nat.ble_eq_true_of_le h]; rfl
  have no : ¬ vVal d m 0 0 ≤ 65535 → okN m d 7 = false := fun h => by
    show (Nat.ble m 20 && Nat.ble (vVal d m 0 0) 65535) = false
    rw [b20, show Nat.ble (vVal d m 0 0) 65535 = false by rw [bleD, decide_eq_false_iff_not]; exact h]; rfl
  refine bcase_mk (fun q => ?_) (fun q => ?_)
  · have q : vVal d m 0 0 ≤ 8589934592 := bleT (ed.symm.trans q)
    refine bcase_mk (fun q2 => ?_) (fun q2 => ?_)
    · have q2 : vVal d m 0 0 < 65536 := ltT q2
      refine .inl ⟨yes (by omega), tup_eq ?_⟩
      show Int.ofNat (vVal d m 0 0) = wrapK 7 (wrapF .i64 (Int.ofNat (vVal d m 0 0)))
      rw [wrap_pos (by omega), wrapK_7]; simp only [Int.ofNat_eq_natCast]; omega
    · have q2 : ¬ vVal d m 0 0 < 65536 := ltF q2
      refine .inr ⟨no (by omega), tup_eq ?_⟩
      show Int.ofNat (vVal d m 0 0) = _
      unfold failN; rw [b20, Nat.ble_eq_true_of_le q]; rfl
  · have q : ¬ vVal d m 0 0 ≤ 8589934592 := bleF (ed.symm.trans q)
    exact .inr ⟨no (by omega), tup_eq (by unfold failN; rw [b20, show Nat.ble (vVal d m 0 0) 8589934592 = false by rw [bleD, decide_eq_false_iff_not]; omega]; rfl)⟩
theorem rnum_run8 {m d : Nat} (hd : ∀ j, j < m → isD (byteAt d j) = true) : Ran (xfun (R2 8) Tryd.prog (xcode (R2 8) Tryd.prog F) 37 [.str m d, .int .i64 (.ofNat 8)] hNil [] (fun v _ _ => QN m d 8 v)) := by
  have h := rnum_res8 m d (fun v => QN m d 8 v)
  refine ⟨?_⟩
  rw [h]; clear h
  have f20 : ¬ m ≤ 20 → okN m d 8 = false := fun h => by unfold okN; rw [show Nat.ble m 20 = false by rw [bleD, decide_eq_false_iff_not]; exact h]; rfl
  have z20 : ¬ m ≤ 20 → failN m d 8 = Int.ofNat 0 := fun h => by unfold failN; rw [show Nat.ble m 20 = false by rw [bleD, decide_eq_false_iff_not]; exact h]; rfl
  refine bcase_mk (fun q => .inr ⟨f20 (by have := ltT q; omega), tup_eq (z20 (by have := ltT q; omega)).symm⟩) (fun q20 => ?_)
  have h20 : m ≤ 20 := by have := ltF q20; omega
  have b20 : Nat.ble m 20 = true := Nat.ble_eq_true_of_le h20
  refine ⟨⟨0, 0, m, d⟩, ⟨h20, fun h => absurd h (by decide), fun _ => Nat.zero_le _, hd⟩, by repeat' (first | exact trivial | exact rfl | refine And.intro ?_ ?_), rfl, by repeat' (first | exact trivial | exact rfl | refine And.intro ?_ ?_), ?_⟩
  have ed : dOK 8 d (m - 0) 0 0 = Nat.ble (vVal d m 0 0) 8589934592 := dOK_iff (by decide) m 0 0 (Nat.zero_le _)
  have yes : vVal d m 0 0 ≤ 4294967295 → okN m d 8 = true := fun h => by
    show (Nat.ble m 20 && Nat.ble (vVal d m 0 0) 4294967295) = true
    rw [b20, Nat.ble_eq_true_of_le h]; rfl
  have no : ¬ vVal d m 0 0 ≤ 4294967295 → okN m d 8 = false := fun h => by
    show (Nat.ble m 20 && Nat.ble (vVal d m 0 0) 4294967295) = false
    rw [b20, show Nat.ble (vVal d m 0 0) 4294967295 = false by rw [bleD, decide_eq_false_iff_not]; exact h]; rfl
  refine bcase_mk (fun q => ?_) (fun q => ?_)
  · have q : vVal d m 0 0 ≤ 8589934592 := bleT (ed.symm.trans q)
    refine bcase_mk (fun q2 => ?_) (fun q2 => ?_)
    · have q2 : vVal d m 0 0 < 4294967296 := ltT q2
      refine .inl ⟨yes (by omega), tup_eq ?_⟩
      show Int.ofNat (vVal d m 0 0) = wrapK 8 (wrapF .i64 (Int.ofNat (vVal d m 0 0)))
      rw [wrap_pos (by omega), wrapK_8]; simp only [Int.ofNat_eq_natCast]; omega
    · have q2 : ¬ vVal d m 0 0 < 4294967296 := ltF q2
      refine .inr ⟨no (by omega), tup_eq ?_⟩
      show Int.ofNat (vVal d m 0 0) = _
      unfold failN; rw [b20, Nat.ble_eq_true_of_le q]; rfl
  · have q : ¬ vVal d m 0 0 ≤ 8589934592 := bleF (ed.symm.trans q)
    exact .inr ⟨no (by omega), tup_eq (by unfold failN; rw [b20, show Nat.ble (vVal d m 0 0) 8589934592 = false by rw [bleD, decide_eq_false_iff_not]; omega]; rfl)⟩
theorem rnum_run9 {m d : Nat} (hd : ∀ j, j < m → isD (byteAt d j) = true) : Ran (xfun (R2 9) Tryd.prog (xcode (R2 9) Tryd.prog F) 37 [.str m d, .int .i64 (.ofNat 9)] hNil [] (fun v _ _ => QN m d 9 v)) := by
  have h := rnum_res9 m d (fun v => QN m d 9 v)
  refine ⟨?_⟩
  rw [h]; clear h
  have f20 : ¬ m ≤ 20 → okN m d 9 = false := fun h => by unfold okN; rw [show Nat.ble m 20 = false by rw [bleD, decide_eq_false_iff_not]; exact h]; rfl
  have z20 : ¬ m ≤ 20 → failN m d 9 = Int.ofNat 0 := fun h => by unfold failN; rw [show Nat.ble m 20 = false by rw [bleD, decide_eq_false_iff_not]; exact h]; rfl
  refine bcase_mk (fun q => .inr ⟨f20 (by have := ltT q; omega), tup_eq (z20 (by have := ltT q; omega)).symm⟩) (fun q20 => ?_)
  have h20 : m ≤ 20 := by have := ltF q20; omega
  have b20 : Nat.ble m 20 = true := Nat.ble_eq_true_of_le h20
  refine ⟨⟨0, 0, m, d⟩, ⟨h20, fun h => absurd h (by decide), fun _ => Nat.zero_le _, hd⟩, by repeat' (first | exact trivial | exact rfl | refine And.intro ?_ ?_), rfl, by repeat' (first | exact trivial | exact rfl | refine And.intro ?_ ?_), ?_⟩
  have ed : dOK 9 d (m - 0) 0 0 = Nat.ble (vVal d m 0 0) 18446744073709551615 := dOK_iff (by decide) m 0 0 (Nat.zero_le _)
  have yes : vVal d m 0 0 ≤ 18446744073709551615 → okN m d 9 = true := fun h => by
    show (Nat.ble m 20 && Nat.ble (vVal d m 0 0) 18446744073709551615) = true
    rw [b20, Nat.ble_eq_true_of_le h]; rfl
  have no : ¬ vVal d m 0 0 ≤ 18446744073709551615 → okN m d 9 = false := fun h => by
    show (Nat.ble m 20 && Nat.ble (vVal d m 0 0) 18446744073709551615) = false
    rw [b20, show Nat.ble (vVal d m 0 0) 18446744073709551615 = false by rw [bleD, decide_eq_false_iff_not]; exact h]; rfl
  refine bcase_mk (fun q => ?_) (fun q => ?_)
  · have q : vVal d m 0 0 ≤ 18446744073709551615 := bleT (ed.symm.trans q)
    exact .inl ⟨yes q, rfl⟩
  · have q : ¬ vVal d m 0 0 ≤ 18446744073709551615 := bleF (ed.symm.trans q)
    exact .inr ⟨no (by omega), tup_eq (by unfold failN; rw [b20]; rfl)⟩
theorem num_kinds {k : Nat} (h : Bool.or (Nat.beq k 0) (isK k) = true) : k = 0 ∨ k = 2 ∨ k = 3 ∨ k = 4 ∨ k = 5 ∨ k = 6 ∨ k = 7 ∨ k = 8 ∨ k = 9 := by
  have h : (Nat.beq k 0 || isK k) = true := h
  rw [Bool.or_eq_true] at h
  rcases h with h | h
  · exact .inl (natBeq_iff.1 h)
  · obtain ⟨b1, b2⟩ := and_tt h
    have b1 := bleT b1
    have b2 := bleT b2
    omega
theorem rnum_run {k m d : Nat} (hk : k = 0 ∨ k = 2 ∨ k = 3 ∨ k = 4 ∨ k = 5 ∨ k = 6 ∨ k = 7 ∨ k = 8 ∨ k = 9) (hd : ∀ j, j < m → isD (byteAt d j) = true) : Ran (xfun (R2 k) Tryd.prog (xcode (R2 k) Tryd.prog F) 37 [.str m d, .int .i64 (.ofNat k)] hNil [] (fun v _ _ => QN m d k v)) := by
  obtain rfl | rfl | rfl | rfl | rfl | rfl | rfl | rfl | rfl := hk
  · exact rnum_run0 hd
  · exact rnum_run2 hd
  · exact rnum_run3 hd
  · exact rnum_run4 hd
  · exact rnum_run5 hd
  · exact rnum_run6 hd
  · exact rnum_run7 hd
  · exact rnum_run8 hd
  · exact rnum_run9 hd
theorem rnum_ok {gl : Glob} (args : List AV) (h : H) (ds : List Bool) (K : KV) (hk : conF2 fRNum args h ds K) : CallOK Tryd.prog gl 37 args h K := by
  refine conF2_ok (F := fRNum) ?_ ?_ args h ds K hk
  all_goals
    clear hk
    intro args h r1 r2 ds K hf hK
    unfold fRNum at hf
    split at hf <;> try (cases hf; done)
    split at hf <;> try (cases hf; done)
    rename_i m d _ k
    simp only [Option.some.injEq, Prod.mk.injEq] at hf
    obtain ⟨hc, hok, rfl, rfl⟩ := hf
    obtain ⟨c1, c2⟩ := and_tt hc
    obtain ⟨c3, c4⟩ := and_tt c2
    have hk := num_kinds c1
    have run := rnum_run hk (allD_get c4)
  · refine frame_pure (goodR2 hk) rfl (fuel := F) (ds1 := []) rfl rfl (ran_imp (goodR2 hk) run fun u h' d q => ?_) hK
    rcases q with ⟨q1, q2⟩ | ⟨q1, q2⟩
    · exact q2
    · rw [hok] at q1; cases q1
  · refine frame_pure (goodR2 hk) rfl (fuel := F) (ds1 := []) rfl rfl (ran_imp (goodR2 hk) run fun u h' d q => ?_) hK
    rcases q with ⟨q1, q2⟩ | ⟨q1, q2⟩
    · rw [hok] at q1; cases q1
    · exact q2
def R3 : Cfg := R1.addCon 37 (conF2 fRNum)
theorem goodR3 : X.Good R3 Tryd.prog := goodR1.addCon 37 _ (conF2_spl _) rnum_ok
end
end Go.Proofs.YtoeoaiipchklbaaDoor

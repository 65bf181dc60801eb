/- The program's lexer: numbers: definitions. -/
import Derived.Test.YtoeoaiipchklbaaDoorL1
set_option linter.unusedVariables false
set_option autoImplicit false
set_option linter.unusedVariables false
set_option maxRecDepth 100000
namespace Go.Proofs.YtoeoaiipchklbaaDoor
noncomputable section
open Go.X
/-- the kind that a word names -/
def kindF (n v : Nat) : Nat :=
  cond (Nat.beq 4 n && Nat.beq 1819242338 v) 1 (cond (Nat.beq 2 n && Nat.beq 14441 v) 2 (cond (Nat.beq 3 n && Nat.beq 3551593 v) 3 (cond (Nat.beq 3 n && Nat.beq 3289961 v) 4
  (cond (Nat.beq 3 n && Nat.beq 3421801 v) 5 (cond (Nat.beq 2 n && Nat.beq 14453 v) 6 (cond (Nat.beq 3 n && Nat.beq 3551605 v) 7 (cond (Nat.beq 3 n && Nat.beq 3289973 v) 8
  (cond (Nat.beq 3 n && Nat.beq 3421813 v) 9 0))))))))
def fKind (args : List AV) (h : H) : Option (Bool × AV × H) := match args with
  | [.str n v] => some (true, .int .i64 (.ofNat (kindF n v)), h)
  | _ => none
/-- the greatest number that may stand ahead of a kind -/
def mostK (k : Nat) : Nat := cond (Nat.beq k 2) 128 (cond (Nat.beq k 3) 32768 (cond (Nat.beq k 4) 2147483648 (cond (Nat.beq k 5) 9223372036854775808 (cond (Nat.beq k 6) 255 (cond (Nat.beq k 7) 65535 (cond (Nat.beq k 8) 4294967295 18446744073709551615))))))
def isK (k : Nat) : Bool := Bool.and (Nat.ble 2 k) (Nat.ble k 9)
def fFits (args : List AV) (h : H) : Option (Bool × AV × H) := match args with
  | [.int .i64 (.ofNat k), .int .u64 (.ofNat u)] => some (isK k, .bool (Nat.ble u (mostK k)), h)
  | _ => none
/-- a number as a value of a kind -/
def wrapK (k : Nat) (n : Int) : Int := cond (Nat.beq k 2) (wrapF .i64 (wrapF .i8 n)) (cond (Nat.beq k 3) (wrapF .i64 (wrapF .i16 n)) (cond (Nat.beq k 4) (wrapF .i64 (wrapF .i32 n)) (cond (Nat.beq k 6) (wrapF .i64 (wrapF .u8 n)) (cond (Nat.beq k 7) (wrapF .i64 (wrapF .u16 n)) (cond (Nat.beq k 8) (wrapF .i64 (wrapF .u32 n)) n)))))
def fWrap (args : List AV) (h : H) : Option (Bool × AV × H) := match args with
  | [.int .i64 (.ofNat k), .int .i64 n] => some (isK k, .int .i64 (wrapK k n), h)
  | _ => none
def C6 : Cfg := ((C5.addCon 43 (conF fKind)).addCon 44 (conF fFits)).addCon 45 (conF fWrap)
end
end Go.Proofs.YtoeoaiipchklbaaDoor
set_option autoImplicit false
set_option maxRecDepth 1000000
set_option maxHeartbeats 0
namespace Go.Proofs.YtoeoaiipchklbaaDoor
noncomputable section
open Go.X
theorem kind_res (n v : Nat) (K : KV) : xfun C5 Tryd.prog (xcode C5 Tryd.prog F) 43 [.str n v] hNil [] K = (bcase (Nat.beq 4 n && Nat.beq 1819242338 v) (K (AV.int Go.IntKind.i64 (Int.ofNat 1)) (H.mk T.leaf 0) []) (bcase (Nat.beq 2 n && Nat.beq 14441 v) (K (AV.int Go.IntKind.i64 (Int.ofNat 2)) (H.mk T.leaf 0) []) (bcase (Nat.beq 3 n && Nat.beq 3551593 v) (K (AV.int Go.IntKind.i64 (Int.ofNat 3)) (H.mk T.leaf 0) []) (bcase (Nat.beq 3 n && Nat.beq 3289961 v) (K (AV.int Go.IntKind.i64 (Int.ofNat 4)) (H.mk T.leaf 0) []) (bcase (Nat.beq 3 n && Nat.beq 3421801 v) (K (AV.int Go.IntKind.i64 (Int.ofNat 5)) (H.mk T.leaf 0) []) (bcase (Nat.beq 2 n && Nat.beq 14453 v) (K (AV.int Go.IntKind.i64 (Int.ofNat 6)) (H.mk T.leaf 0) []) (bcase (Nat.beq 3 n && Nat.beq 3551605 v) (K (AV.int Go.IntKind.i64 (Int.ofNat 7)) (H.mk T.leaf 0) []) (bcase (Nat.beq 3 n && Nat.beq 3289973 v) (K (AV.int Go.IntKind.i64 (Int.ofNat 8)) (H.mk T.leaf 0) []) (bcase (Nat.beq 3 n && Nat.beq 3421813 v) (K (AV.int Go.IntKind.i64 (Int.ofNat 9)) (H.mk T.leaf 0) []) (K (AV.int Go.IntKind.i64 (Int.ofNat 0)) (H.mk T.leaf 0) [])))))))))) := by kernel_rfl
theorem width_res (k : Nat) (K : KV) : xfun C5 Tryd.prog (xcode C5 Tryd.prog F) 49 [.int .i64 (.ofNat k)] hNil [] K = (bcase (eqI (Int.ofNat k) (Int.ofNat 1)) (K (AV.int Go.IntKind.i64 (Int.ofNat 1)) (H.mk T.leaf 0) []) (bcase (eqI (Int.ofNat k) (Int.ofNat 2)) (K (AV.int Go.IntKind.i64 (Int.ofNat 8)) (H.mk T.leaf 0) []) (bcase (eqI (Int.ofNat k) (Int.ofNat 6)) (K (AV.int Go.IntKind.i64 (Int.ofNat 8)) (H.mk T.leaf 0) []) (bcase (eqI (Int.ofNat k) (Int.ofNat 3)) (K (AV.int Go.IntKind.i64 (Int.ofNat 16)) (H.mk T.leaf 0) []) (bcase (eqI (Int.ofNat k) (Int.ofNat 7)) (K (AV.int Go.IntKind.i64 (Int.ofNat 16)) (H.mk T.leaf 0) []) (bcase (eqI (Int.ofNat k) (Int.ofNat 4)) (K (AV.int Go.IntKind.i64 (Int.ofNat 32)) (H.mk T.leaf 0) []) (bcase (eqI (Int.ofNat k) (Int.ofNat 8)) (K (AV.int Go.IntKind.i64 (Int.ofNat 32)) (H.mk T.leaf 0) []) (bcase (eqI (Int.ofNat k) (Int.ofNat 5)) (K (AV.int Go.IntKind.i64 (Int.ofNat 64)) (H.mk T.leaf 0) []) (bcase (eqI (Int.ofNat k) (Int.ofNat 9)) (K (AV.int Go.IntKind.i64 (Int.ofNat 64)) (H.mk T.leaf 0) []) (K (AV.int Go.IntKind.i64 (Int.ofNat 0)) (H.mk T.leaf 0) [])))))))))) := by kernel_rfl
theorem fits_res (k u : Nat) (K : KV) : xfun C5 Tryd.prog (xcode C5 Tryd.prog F) 44 [.int .i64 (.ofNat k), .int .u64 (.ofNat u)] hNil [] K = (bcase (eqI (Int.ofNat k) (Int.ofNat 1)) (bcase (ltI (Int.ofNat 5) (Int.ofNat k)) (bcase (ltI (Int.ofNat 1) (Int.ofNat u)) (K (AV.bool false) (H.mk T.leaf 0) []) (K (AV.bool true) (H.mk T.leaf 0) [])) (bcase (ltI (Int.ofNat 1) (Int.ofNat u)) (K (AV.bool false) (H.mk T.leaf 0) []) (K (AV.bool true) (H.mk T.leaf 0) []))) (bcase (eqI (Int.ofNat k) (Int.ofNat 2)) (bcase (ltI (Int.ofNat 5) (Int.ofNat k)) (bcase (ltI (Int.ofNat 255) (Int.ofNat u)) (K (AV.bool false) (H.mk T.leaf 0) []) (K (AV.bool true) (H.mk T.leaf 0) [])) (bcase (ltI (Int.ofNat 128) (Int.ofNat u)) (K (AV.bool false) (H.mk T.leaf 0) []) (K (AV.bool true) (H.mk T.leaf 0) []))) (bcase (eqI (Int.ofNat k) (Int.ofNat 6)) (bcase (ltI (Int.ofNat 5) (Int.ofNat k)) (bcase (ltI (Int.ofNat 255) (Int.ofNat u)) (K (AV.bool false) (H.mk T.leaf 0) []) (K (AV.bool true) (H.mk T.leaf 0) [])) (bcase (ltI (Int.ofNat 128) (Int.ofNat u)) (K (AV.bool false) (H.mk T.leaf 0) []) (K (AV.bool true) (H.mk T.leaf 0) []))) (bcase (eqI (Int.ofNat k) (Int.ofNat 3)) (bcase (ltI (Int.ofNat 5) (Int.ofNat k)) (bcase (ltI (Int.ofNat 65535) (Int.ofNat u)) (K (AV.bool false) (H.mk T.leaf 0) []) (K (AV.bool true) (H.mk T.leaf 0) [])) (bcase (ltI (Int.ofNat 32768) (Int.ofNat u)) (K (AV.bool false) (H.mk T.leaf 0) []) (K (AV.bool true) (H.mk T.leaf 0) []))) (bcase (eqI (Int.ofNat k) (Int.ofNat 7)) (bcase (ltI (Int.ofNat 5) (Int.ofNat k)) (bcase (ltI (Int.ofNat 65535) (Int.ofNat u)) (K (AV.bool false) (H.mk T.leaf 0) []) (K (AV.bool true) (H.mk T.leaf 0) [])) (bcase (ltI (Int.ofNat 32768) (Int.ofNat u)) (K (AV.bool false) (H.mk T.leaf 0) []) (K (AV.bool true) (H.mk T.leaf 0) []))) (bcase (eqI (Int.ofNat k) (Int.ofNat 4)) (bcase (ltI (Int.ofNat 5) (Int.ofNat k)) (bcase (ltI (Int.ofNat 4294967295) (Int.ofNat u)) (K (AV.bool false) (H.mk T.leaf 0) []) (K (AV.bool true) (H.mk T.leaf 0) [])) (bcase (ltI (Int.ofNat 2147483648) (Int.ofNat u)) (K (AV.bool false) (H.mk T.leaf 0) []) (K (AV.bool true) (H.mk T.leaf 0) []))) (bcase (eqI (Int.ofNat k) (Int.ofNat 8)) (bcase (ltI (Int.ofNat 5) (Int.ofNat k)) (bcase (ltI (Int.ofNat 4294967295) (Int.ofNat u)) (K (AV.bool false) (H.mk T.leaf 0) []) (K (AV.bool true) (H.mk T.leaf 0) [])) (bcase (ltI (Int.ofNat 2147483648) (Int.ofNat u)) (K (AV.bool false) (H.mk T.leaf 0) []) (K (AV.bool true) (H.mk T.leaf 0) []))) (bcase (eqI (Int.ofNat k) (Int.ofNat 5)) (bcase (ltI (Int.ofNat 5) (Int.ofNat k)) (bcase (ltI (Int.ofNat 18446744073709551615) (Int.ofNat u)) (K (AV.bool false) (H.mk T.leaf 0) []) (K (AV.bool true) (H.mk T.leaf 0) [])) (bcase (ltI (Int.ofNat 9223372036854775808) (Int.ofNat u)) (K (AV.bool false) (H.mk T.leaf 0) []) (K (AV.bool true) (H.mk T.leaf 0) []))) (bcase (eqI (Int.ofNat k) (Int.ofNat 9)) (bcase (ltI (Int.ofNat 5) (Int.ofNat k)) (bcase (ltI (Int.ofNat 18446744073709551615) (Int.ofNat u)) (K (AV.bool false) (H.mk T.leaf 0) []) (K (AV.bool true) (H.mk T.leaf 0) [])) (bcase (ltI (Int.ofNat 9223372036854775808) (Int.ofNat u)) (K (AV.bool false) (H.mk T.leaf 0) []) (K (AV.bool true) (H.mk T.leaf 0) []))) (bcase (ltI (Int.ofNat 5) (Int.ofNat k)) (bcase (ltI (Int.ofNat 0) (Int.ofNat u)) (K (AV.bool false) (H.mk T.leaf 0) []) (K (AV.bool true) (H.mk T.leaf 0) [])) False)))))))))) := by kernel_rfl
theorem wrap_res (k : Nat) (n : Int) (K : KV) : xfun C5 Tryd.prog (xcode C5 Tryd.prog F) 45 [.int .i64 (.ofNat (k + 2)), .int .i64 n] hNil [false, false] K = (bcase (eqI (Int.ofNat (k + 2)) (Int.ofNat 2)) (K (AV.int Go.IntKind.i64 (wrapF Go.IntKind.i64 (wrapF Go.IntKind.i8 n))) (H.mk T.leaf 0) []) (bcase (eqI (Int.ofNat (k + 2)) (Int.ofNat 3)) (K (AV.int Go.IntKind.i64 (wrapF Go.IntKind.i64 (wrapF Go.IntKind.i16 n))) (H.mk T.leaf 0) []) (bcase (eqI (Int.ofNat (k + 2)) (Int.ofNat 4)) (K (AV.int Go.IntKind.i64 (wrapF Go.IntKind.i64 (wrapF Go.IntKind.i32 n))) (H.mk T.leaf 0) []) (bcase (eqI (Int.ofNat (k + 2)) (Int.ofNat 6)) (K (AV.int Go.IntKind.i64 (wrapF Go.IntKind.i64 (wrapF Go.IntKind.u8 n))) (H.mk T.leaf 0) []) (bcase (eqI (Int.ofNat (k + 2)) (Int.ofNat 7)) (K (AV.int Go.IntKind.i64 (wrapF Go.IntKind.i64 (wrapF Go.IntKind.u16 n))) (H.mk T.leaf 0) []) (bcase (eqI (Int.ofNat (k + 2)) (Int.ofNat 8)) (K (AV.int Go.IntKind.i64 (wrapF Go.IntKind.i64 (wrapF Go.IntKind.u32 n))) (H.mk T.leaf 0) []) (bcase (eqI (Int.ofNat (k + 2)) (Int.ofNat 5)) (K (AV.int Go.IntKind.i64 n) (H.mk T.leaf 0) [false, false]) (bcase (eqI (Int.ofNat (k + 2)) (Int.ofNat 9)) (K (AV.int Go.IntKind.i64 n) (H.mk T.leaf 0) [false, false]) (K (AV.int Go.IntKind.i64 (Int.ofNat 0)) (H.mk T.leaf 0) [false, false]))))))))) := by kernel_rfl
end
end Go.Proofs.YtoeoaiipchklbaaDoor
/- The program's lexer: kinds. -/
set_option autoImplicit false
set_option linter.unusedVariables false
set_option maxRecDepth 100000
namespace Go.Proofs.YtoeoaiipchklbaaDoor
noncomputable section
open Go.X
theorem kind_ok {gl : Glob} (args : List AV) (h : H) (v : AV) (h' : H) (ds : List Bool) (K : KV) (hf : fKind args h = some (true, v, h')) (hK : K v h' ds) : CallOK Tryd.prog gl 43 args h K := by
  unfold fKind at hf
  split at hf <;> try (cases hf; done)
  rename_i n v
  simp only [Option.some.injEq, Prod.mk.injEq] at hf
  obtain ⟨-, rfl, rfl⟩ := hf
  refine frame_pure goodC5 rfl (fuel := F) (ds1 := []) rfl rfl ⟨Eq.mpr (kind_res n v _) ?_⟩ hK
  refine bcase_mk (fun h1 => ?_) (fun h1 => bcase_mk (fun h2 => ?_) (fun h2 => bcase_mk (fun h3 => ?_) (fun h3 => bcase_mk (fun h4 => ?_) (fun h4 => bcase_mk (fun h5 => ?_) (fun h5 => bcase_mk (fun h6 => ?_) (fun h6 => bcase_mk (fun h7 => ?_) (fun h7 => bcase_mk (fun h8 => ?_) (fun h8 => bcase_mk (fun h9 => ?_) (fun h9 => ?_)))))))))
  all_goals
    refine congrArg (fun k => AV.int .i64 (Int.ofNat k)) ?_
    unfold kindF
    simp only [*, cond_true, cond_false]
theorem fits_ok {gl : Glob} (args : List AV) (h : H) (v : AV) (h' : H) (ds : List Bool) (K : KV) (hf : fFits args h = some (true, v, h')) (hK : K v h' ds) : CallOK Tryd.prog gl 44 args h K := by
  unfold fFits at hf
  split at hf <;> try (cases hf; done)
  rename_i k u
  simp only [Option.some.injEq, Prod.mk.injEq] at hf
  obtain ⟨hk, rfl, rfl⟩ := hf
  · skip
    refine frame_pure goodC5 rfl (fuel := F) (ds1 := []) rfl rfl ⟨Eq.mpr (fits_res k u _) ?_⟩ hK
    obtain ⟨b1, b2⟩ := and_tt hk
    have b1 := bleT b1
    have b2 := bleT b2
    have nl : ∀ a : Nat, Nat.ble u a = Bool.not (ltI (Int.ofNat a) (Int.ofNat u)) := fun a => by
      rw [ltN, bleD, ← decide_not]; congr 1; apply propext; omega
    have leaf : bcase (ltI (Int.ofNat (mostK k)) (Int.ofNat u)) (AV.bool false = AV.bool (Nat.ble u (mostK k))) (AV.bool true = AV.bool (Nat.ble u (mostK k))) :=
      bcase_mk (fun h => bool_eq (by rw [nl, h]; rfl)) (fun h => bool_eq (by rw [nl, h]; rfl))
    obtain rfl | rfl | rfl | rfl | rfl | rfl | rfl | rfl : k = 2 ∨ k = 3 ∨ k = 4 ∨ k = 5 ∨ k = 6 ∨ k = 7 ∨ k = 8 ∨ k = 9 := by omega
    all_goals exact Eq.mpr (by kernel_rfl) leaf
theorem wrap_ok {gl : Glob} (args : List AV) (h : H) (v : AV) (h' : H) (ds : List Bool) (K : KV) (hf : fWrap args h = some (true, v, h')) (hK : K v h' ds) : CallOK Tryd.prog gl 45 args h K := by
  unfold fWrap at hf
  split at hf <;> try (cases hf; done)
  rename_i k n
  simp only [Option.some.injEq, Prod.mk.injEq] at hf
  obtain ⟨hk, rfl, rfl⟩ := hf
  · skip
    obtain ⟨b1, b2⟩ := and_tt hk
    have b1 := bleT b1
    have b2 := bleT b2
    obtain ⟨j, rfl⟩ : ∃ j, k = j + 2 := ⟨k - 2, by omega⟩
    refine frame_pure goodC5 rfl (fuel := F) (ds1 := [false, false]) rfl rfl ⟨Eq.mpr (wrap_res j n _) ?_⟩ hK
    have leaf : AV.int .i64 (wrapK (j + 2) n) = AV.int .i64 (wrapK (j + 2) n) := rfl
    obtain rfl | rfl | rfl | rfl | rfl | rfl | rfl | rfl : j = 0 ∨ j = 1 ∨ j = 2 ∨ j = 3 ∨ j = 4 ∨ j = 5 ∨ j = 6 ∨ j = 7 := by omega
    all_goals exact Eq.mpr (by kernel_rfl) leaf
theorem goodC6 : X.Good C6 Tryd.prog := ((goodC5.addCon 43 _ (conF_spl _) (conF_ok kind_ok)).addCon 44 _ (conF_spl _) (conF_ok fits_ok)).addCon 45 _ (conF_spl _) (conF_ok wrap_ok)
end
end Go.Proofs.YtoeoaiipchklbaaDoor
/- The program's lexer: the digits of a number: definitions. -/
set_option autoImplicit false
set_option linter.unusedVariables false
set_option maxRecDepth 100000
namespace Go.Proofs.YtoeoaiipchklbaaDoor
noncomputable section
open Go.X
/-- a token's cells -/
def tok (kind tn tv : Nat) (N : Int) (tk at_ : Nat) : List AV := [.int .i64 (.ofNat kind), .str tn tv, .int .i64 N, .int .i64 (.ofNat tk), .int .i64 (.ofNat 0), .int .i64 (.ofNat at_)]
def rowR (n v x b : Nat) : Blk := .row [.str n v, .int .i64 (.ofNat x), .map 1, .int .i64 (.ofNat b)] 48 true []
def e1 (i : Nat) : Env := T.set (T.set (T.set T.leaf (.ptr 0 0) 0) (.ptr 2 0) 2) (.int .i64 (.ofNat i)) 3
def h1 (n v x b : Nat) : H := ⟨T.set (T.set T.leaf (rowR n v x b) 0) (.row (tok 0 0 0 (.ofNat 0) 0 0) 30 true []) 2, 3⟩
structure S1 where
  i : Nat
  n : Nat
  v : Nat
  x : Nat
  b : Nat
def l1 : LCon := lcE (fun s : S1 => s.n ≤ maxI) (fun s => e1 s.i) (fun s => h1 s.n s.v s.x s.b) (fun s => (.ext 0, e1 (scan isD s.v (s.n - s.i) s.i), h1 s.n s.v s.x s.b))
def C7 : Cfg := C6.addLc 28 3 l1
/-- the greatest number of 64 bits that may stand ahead of one digit more -/
def roomU (c : Nat) : Nat := (18446744073709551615 - (c - 48)) / 10
/-- is what digits say, from place j on, a number of 64 bits? -/
def vOK (d : Nat) : Nat → Nat → Nat → Bool
  | 0, _, _ => true
  | f + 1, j, u => cond (Nat.ble u (roomU (byteAt d j))) (vOK d f (j + 1) (u * 10 + (byteAt d j - 48))) false
def vVal (d : Nat) : Nat → Nat → Nat → Nat
  | 0, _, u => u
  | f + 1, j, u => vVal d f (j + 1) (u * 10 + (byteAt d j - 48))
def eR : Env := T.set T.leaf (.ptr 2 0) 2
def e3 (k u : Nat) : Env := T.set (T.set (T.set (T.set eR (.ptr 0 0) 0) (.int .i64 (.ofNat k)) 6) (.ptr 3 0) 7) (.int .u64 (.ofNat u)) 8
def e2 (j u m k : Nat) : Env := T.set (T.set (T.set (e3 k u) (.slc 4 0 m m false 1) 98) (.int .i64 (.ofNat m)) 99) (.int .i64 (.ofNat j)) 100
def h2 (n v x b z k tn tv m d : Nat) : H := ⟨T.set (T.set (T.set (T.set T.leaf (rowR n v x b) 0) (.row (tok 0 0 0 (.ofNat 0) 0 z) 30 true []) 2) (.row (tok 2 tn tv (.ofNat 0) k x) 30 true []) 3) (.bts m d 5) 4, 5⟩
structure S2 where
  j : Nat
  u : Nat
  m : Nat
  d : Nat
  k : Nat
  n : Nat
  v : Nat
  x : Nat
  b : Nat
  tn : Nat
  tv : Nat
def ok2 (s : S2) : Prop := s.m ≤ maxI ∧ s.u < 18446744073709551616 ∧ ∀ j, j < s.m → isD (byteAt s.d j) = true
def l2 : LCon := lcE2 ok2 (fun s => e2 s.j s.u s.m s.k) (fun s => h2 s.n s.v s.x s.b 0 s.k s.tn s.tv s.m s.d) (fun s => vOK s.d (s.m - s.j) s.j s.u)
  (fun s => (.ext 2, e3 s.k (vVal s.d (s.m - s.j) s.j s.u), h2 s.n s.v s.x s.b 0 s.k s.tn s.tv s.m s.d)) (fun s => (.ret, eR, h2 s.n s.v s.x 11 s.x s.k s.tn s.tv s.m s.d))
def C8 : Cfg := C7.addLc 28 13 l2
end
end Go.Proofs.YtoeoaiipchklbaaDoor

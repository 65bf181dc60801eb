/- The document's lexer: one token: definitions. -/
import Derived.Test.YtoeoaiipchklbaaDoorM2
set_option linter.unusedVariables false
set_option autoImplicit false
set_option linter.unusedVariables false
set_option maxRecDepth 100000
namespace Go.Proofs.YtoeoaiipchklbaaDoor
noncomputable section
open Go.X
def hTk : H := ⟨T.set T.leaf (.row (tok 0 0 0 (.ofNat 0) 0 0) 30 true []) 0, 1⟩
def eTk (i k n v : Nat) : Env := T.set (T.set (T.set (T.set T.leaf (.str n v) 0) (.int .i64 (.ofNat i)) 1) (.ptr 0 0) 4) (.int .i64 (.ofNat k)) 6
def eTm (i k n v dl dv m : Nat) : Env := T.set (T.set (eTk i k n v) (.str dl dv) 9) (.int .i64 (.ofNat m)) 10
structure STk where
  i : Nat
  k : Nat
  n : Nat
  v : Nat
structure STm where
  i : Nat
  k : Nat
  n : Nat
  v : Nat
  dl : Nat
  dv : Nat
  m : Nat
def lTk (p : Nat → Bool) (x : Nat) : LCon := lcE (fun s : STk => s.n ≤ maxI) (fun s => eTk s.i s.k s.n s.v) (fun _ => hTk) (fun s => (.ext x, eTk s.i (scan p s.v (s.n - s.k) s.k) s.n s.v, hTk))
def lTm : LCon := lcE (fun s : STm => s.n ≤ maxI) (fun s => eTm s.i s.k s.n s.v s.dl s.dv s.m) (fun _ => hTk) (fun s => (.ext 4, eTm s.i s.k s.n s.v s.dl s.dv (scan isW s.v (s.n - s.m) s.m), hTk))
def R4 : Cfg := R3.addLc 20 4 (lTk isW 0)
def R5 : Cfg := R4.addLc 20 14 (lTk isD 2)
def R6 : Cfg := R5.addLc 20 18 lTm
/-- the token at a place: is there none, and why; its kind, its length, its number, its number's kind -/
def tk (n v p : Nat) : Bool × Nat × Nat × Nat × Int × Nat :=
  cond (isD (byteAt v p)) (cond (nBad n v p) (true, 11, 0, 0, .ofNat 0, 0) (false, 0, 2, nTok n v p - p, nInt n v p, nKind n v p))
    (cond (isL (byteAt v p)) (cond (Nat.ble (wordN n v p) 40) (false, 0, cond (isKey (wordN n v p) (subV v p (p + wordN n v p))) 3 1, wordN n v p, .ofNat 0, 0) (true, 2, 0, 0, .ofNat 0, 0))
      (cond (Nat.beq (sLen n v p) 0) (true, 10, 0, 0, .ofNat 0, 0) (false, 0, 4, sLen n v p, .ofNat 0, 0)))
theorem nx_tk (n v x : Nat) : nx n v x = cond (Nat.ble (Nat.succ (bl v n x)) n) (tk n v (bl v n x)) (false, 0, 5, 0, .ofNat 0, 0) := rfl
def tkE (n v x : Nat) : Bool := (tk n v x).1
def tkC (n v x : Nat) : Nat := (tk n v x).2.1
def tkK (n v x : Nat) : Nat := (tk n v x).2.2.1
def tkL (n v x : Nat) : Nat := (tk n v x).2.2.2.1
def tkN (n v x : Nat) : Int := (tk n v x).2.2.2.2.1
def tkT (n v x : Nat) : Nat := (tk n v x).2.2.2.2.2
def fRTok (args : List AV) (h : H) : Option (Bool × Bool × (AV × H) × (AV × H)) := match args with
  | [.str n v, .int .i64 z] => match z with
    | .ofNat i => some (Bool.and (Nat.ble (Nat.succ i) n) (Nat.ble n 9000000000000000000), tkE n v i, (.tup [tokA 0 0 0 (.ofNat 0) 0 0, .int .i64 (.ofNat (tkC n v i))], h),
        (.tup [tokA (tkK n v i) (tkL n v i) (subV v i (i + tkL n v i)) (tkN n v i) (tkT n v i) i, .int .i64 (.ofNat 0)], h))
    | .negSucc _ => none
  | _ => none
end
end Go.Proofs.YtoeoaiipchklbaaDoor
/- The document's lexer: runs of token. -/
set_option autoImplicit false
set_option maxRecDepth 1000000
set_option maxHeartbeats 0
namespace Go.Proofs.YtoeoaiipchklbaaDoor
noncomputable section
open Go.X
theorem tk_body1 (i k n v : Nat) (K : KE) : xcode R3 Tryd.prog F 20 (loopC Tryd.prog 20 4) (R3.mask 20) (tmpsN Tryd.prog 20) (eTk i k n v) hTk [] K = (bcase (ltI (Int.ofNat k) (Int.ofNat n)) (bcase (inB (Int.ofNat k) n) (bcase (isL (byteAt v (Int.toNat (Int.ofNat k)))) (bcase (inR Go.IntKind.i64 (Int.ofNat k + Int.ofNat 1)) (K XE.nrm (T.node (T.node (T.node T.leaf Option.none (T.node T.leaf (Option.some (AV.ptr 0 0)) T.leaf)) Option.none (T.node T.leaf Option.none (T.node T.leaf (Option.some (AV.int Go.IntKind.i64 (Int.ofNat k + Int.ofNat 1))) T.leaf))) (Option.some (AV.str n v)) (T.node T.leaf (Option.some (AV.int Go.IntKind.i64 (Int.ofNat i))) (T.node (T.node (T.node (T.node T.leaf Option.none (T.node T.leaf (Option.some (AV.bool true)) T.leaf)) Option.none T.leaf) Option.none T.leaf) Option.none T.leaf))) (H.mk (T.node T.leaf (Option.some (Blk.row [AV.int Go.IntKind.i64 (Int.ofNat 0), AV.str 0 0, AV.int Go.IntKind.i64 (Int.ofNat 0), AV.int Go.IntKind.i64 (Int.ofNat 0), AV.int Go.IntKind.i64 (Int.ofNat 0), AV.int Go.IntKind.i64 (Int.ofNat 0)] 30 true [])) T.leaf) 1) []) False) (bcase (inB (Int.ofNat k) n) (bcase (isD (byteAt v (Int.toNat (Int.ofNat k)))) (bcase (inR Go.IntKind.i64 (Int.ofNat k + Int.ofNat 1)) (K XE.nrm (T.node (T.node (T.node T.leaf Option.none (T.node T.leaf (Option.some (AV.ptr 0 0)) T.leaf)) Option.none (T.node T.leaf Option.none (T.node T.leaf (Option.some (AV.int Go.IntKind.i64 (Int.ofNat k + Int.ofNat 1))) T.leaf))) (Option.some (AV.str n v)) (T.node T.leaf (Option.some (AV.int Go.IntKind.i64 (Int.ofNat i))) (T.node (T.node (T.node (T.node T.leaf Option.none (T.node T.leaf (Option.some (AV.bool true)) T.leaf)) Option.none T.leaf) Option.none T.leaf) Option.none T.leaf))) (H.mk (T.node T.leaf (Option.some (Blk.row [AV.int Go.IntKind.i64 (Int.ofNat 0), AV.str 0 0, AV.int Go.IntKind.i64 (Int.ofNat 0), AV.int Go.IntKind.i64 (Int.ofNat 0), AV.int Go.IntKind.i64 (Int.ofNat 0), AV.int Go.IntKind.i64 (Int.ofNat 0)] 30 true [])) T.leaf) 1) []) False) (K (XE.ext 0) (T.node (T.node (T.node T.leaf Option.none (T.node T.leaf (Option.some (AV.ptr 0 0)) T.leaf)) Option.none (T.node T.leaf Option.none (T.node T.leaf (Option.some (AV.int Go.IntKind.i64 (Int.ofNat k))) T.leaf))) (Option.some (AV.str n v)) (T.node T.leaf (Option.some (AV.int Go.IntKind.i64 (Int.ofNat i))) (T.node (T.node (T.node (T.node T.leaf Option.none (T.node T.leaf (Option.some (AV.bool false)) T.leaf)) Option.none T.leaf) Option.none T.leaf) Option.none T.leaf))) (H.mk (T.node T.leaf (Option.some (Blk.row [AV.int Go.IntKind.i64 (Int.ofNat 0), AV.str 0 0, AV.int Go.IntKind.i64 (Int.ofNat 0), AV.int Go.IntKind.i64 (Int.ofNat 0), AV.int Go.IntKind.i64 (Int.ofNat 0), AV.int Go.IntKind.i64 (Int.ofNat 0)] 30 true [])) T.leaf) 1) [])) False)) False) (K (XE.ext 0) (T.node (T.node (T.node T.leaf Option.none (T.node T.leaf (Option.some (AV.ptr 0 0)) T.leaf)) Option.none (T.node T.leaf Option.none (T.node T.leaf (Option.some (AV.int Go.IntKind.i64 (Int.ofNat k))) T.leaf))) (Option.some (AV.str n v)) (T.node T.leaf (Option.some (AV.int Go.IntKind.i64 (Int.ofNat i))) (T.node (T.node (T.node (T.node T.leaf Option.none (T.node T.leaf (Option.some (AV.bool false)) T.leaf)) Option.none T.leaf) Option.none T.leaf) Option.none T.leaf))) (H.mk (T.node T.leaf (Option.some (Blk.row [AV.int Go.IntKind.i64 (Int.ofNat 0), AV.str 0 0, AV.int Go.IntKind.i64 (Int.ofNat 0), AV.int Go.IntKind.i64 (Int.ofNat 0), AV.int Go.IntKind.i64 (Int.ofNat 0), AV.int Go.IntKind.i64 (Int.ofNat 0)] 30 true [])) T.leaf) 1) [])) := by kernel_rfl
theorem tk_body2 (i k n v : Nat) (K : KE) : xcode R4 Tryd.prog F 20 (loopC Tryd.prog 20 14) (R4.mask 20) (tmpsN Tryd.prog 20) (eTk i k n v) hTk [] K = (bcase (ltI (Int.ofNat k) (Int.ofNat n)) (bcase (inB (Int.ofNat k) n) (bcase (isD (byteAt v (Int.toNat (Int.ofNat k)))) (bcase (inR Go.IntKind.i64 (Int.ofNat k + Int.ofNat 1)) (K XE.nrm (T.node (T.node (T.node T.leaf Option.none (T.node (T.node (T.node (T.node T.leaf Option.none (T.node T.leaf (Option.some (AV.bool true)) T.leaf)) Option.none T.leaf) Option.none T.leaf) (Option.some (AV.ptr 0 0)) T.leaf)) Option.none (T.node T.leaf Option.none (T.node T.leaf (Option.some (AV.int Go.IntKind.i64 (Int.ofNat k + Int.ofNat 1))) T.leaf))) (Option.some (AV.str n v)) (T.node T.leaf (Option.some (AV.int Go.IntKind.i64 (Int.ofNat i))) T.leaf)) (H.mk (T.node T.leaf (Option.some (Blk.row [AV.int Go.IntKind.i64 (Int.ofNat 0), AV.str 0 0, AV.int Go.IntKind.i64 (Int.ofNat 0), AV.int Go.IntKind.i64 (Int.ofNat 0), AV.int Go.IntKind.i64 (Int.ofNat 0), AV.int Go.IntKind.i64 (Int.ofNat 0)] 30 true [])) T.leaf) 1) []) False) (K (XE.ext 2) (T.node (T.node (T.node T.leaf Option.none (T.node (T.node (T.node (T.node T.leaf Option.none (T.node T.leaf (Option.some (AV.bool false)) T.leaf)) Option.none T.leaf) Option.none T.leaf) (Option.some (AV.ptr 0 0)) T.leaf)) Option.none (T.node T.leaf Option.none (T.node T.leaf (Option.some (AV.int Go.IntKind.i64 (Int.ofNat k))) T.leaf))) (Option.some (AV.str n v)) (T.node T.leaf (Option.some (AV.int Go.IntKind.i64 (Int.ofNat i))) T.leaf)) (H.mk (T.node T.leaf (Option.some (Blk.row [AV.int Go.IntKind.i64 (Int.ofNat 0), AV.str 0 0, AV.int Go.IntKind.i64 (Int.ofNat 0), AV.int Go.IntKind.i64 (Int.ofNat 0), AV.int Go.IntKind.i64 (Int.ofNat 0), AV.int Go.IntKind.i64 (Int.ofNat 0)] 30 true [])) T.leaf) 1) [])) False) (K (XE.ext 2) (T.node (T.node (T.node T.leaf Option.none (T.node (T.node (T.node (T.node T.leaf Option.none (T.node T.leaf (Option.some (AV.bool false)) T.leaf)) Option.none T.leaf) Option.none T.leaf) (Option.some (AV.ptr 0 0)) T.leaf)) Option.none (T.node T.leaf Option.none (T.node T.leaf (Option.some (AV.int Go.IntKind.i64 (Int.ofNat k))) T.leaf))) (Option.some (AV.str n v)) (T.node T.leaf (Option.some (AV.int Go.IntKind.i64 (Int.ofNat i))) T.leaf)) (H.mk (T.node T.leaf (Option.some (Blk.row [AV.int Go.IntKind.i64 (Int.ofNat 0), AV.str 0 0, AV.int Go.IntKind.i64 (Int.ofNat 0), AV.int Go.IntKind.i64 (Int.ofNat 0), AV.int Go.IntKind.i64 (Int.ofNat 0), AV.int Go.IntKind.i64 (Int.ofNat 0)] 30 true [])) T.leaf) 1) [])) := by kernel_rfl
theorem tk_body3 (i k n v dl dv m : Nat) (K : KE) : xcode R5 Tryd.prog F 20 (loopC Tryd.prog 20 18) (R5.mask 20) (tmpsN Tryd.prog 20) (eTm i k n v dl dv m) hTk [] K = (bcase (ltI (Int.ofNat m) (Int.ofNat n)) (bcase (inB (Int.ofNat m) n) (bcase (isL (byteAt v (Int.toNat (Int.ofNat m)))) (bcase (inR Go.IntKind.i64 (Int.ofNat m + Int.ofNat 1)) (K XE.nrm (T.node (T.node (T.node T.leaf Option.none (T.node T.leaf (Option.some (AV.ptr 0 0)) T.leaf)) Option.none (T.node (T.node T.leaf Option.none (T.node T.leaf (Option.some (AV.int Go.IntKind.i64 (Int.ofNat m + Int.ofNat 1))) T.leaf)) Option.none (T.node T.leaf (Option.some (AV.int Go.IntKind.i64 (Int.ofNat k))) T.leaf))) (Option.some (AV.str n v)) (T.node (T.node (T.node T.leaf Option.none (T.node T.leaf (Option.some (AV.str dl dv)) T.leaf)) Option.none T.leaf) (Option.some (AV.int Go.IntKind.i64 (Int.ofNat i))) (T.node (T.node T.leaf Option.none (T.node T.leaf Option.none (T.node (T.node T.leaf Option.none (T.node T.leaf (Option.some (AV.bool true)) T.leaf)) Option.none T.leaf))) Option.none T.leaf))) (H.mk (T.node T.leaf (Option.some (Blk.row [AV.int Go.IntKind.i64 (Int.ofNat 0), AV.str 0 0, AV.int Go.IntKind.i64 (Int.ofNat 0), AV.int Go.IntKind.i64 (Int.ofNat 0), AV.int Go.IntKind.i64 (Int.ofNat 0), AV.int Go.IntKind.i64 (Int.ofNat 0)] 30 true [])) T.leaf) 1) []) False) (bcase (inB (Int.ofNat m) n) (bcase (isD (byteAt v (Int.toNat (Int.ofNat m)))) (bcase (inR Go.IntKind.i64 (Int.ofNat m + Int.ofNat 1)) (K XE.nrm (T.node (T.node (T.node T.leaf Option.none (T.node T.leaf (Option.some (AV.ptr 0 0)) T.leaf)) Option.none (T.node (T.node T.leaf Option.none (T.node T.leaf (Option.some (AV.int Go.IntKind.i64 (Int.ofNat m + Int.ofNat 1))) T.leaf)) Option.none (T.node T.leaf (Option.some (AV.int Go.IntKind.i64 (Int.ofNat k))) T.leaf))) (Option.some (AV.str n v)) (T.node (T.node (T.node T.leaf Option.none (T.node T.leaf (Option.some (AV.str dl dv)) T.leaf)) Option.none T.leaf) (Option.some (AV.int Go.IntKind.i64 (Int.ofNat i))) (T.node (T.node T.leaf Option.none (T.node T.leaf Option.none (T.node (T.node T.leaf Option.none (T.node T.leaf (Option.some (AV.bool true)) T.leaf)) Option.none T.leaf))) Option.none T.leaf))) (H.mk (T.node T.leaf (Option.some (Blk.row [AV.int Go.IntKind.i64 (Int.ofNat 0), AV.str 0 0, AV.int Go.IntKind.i64 (Int.ofNat 0), AV.int Go.IntKind.i64 (Int.ofNat 0), AV.int Go.IntKind.i64 (Int.ofNat 0), AV.int Go.IntKind.i64 (Int.ofNat 0)] 30 true [])) T.leaf) 1) []) False) (K (XE.ext 4) (T.node (T.node (T.node T.leaf Option.none (T.node T.leaf (Option.some (AV.ptr 0 0)) T.leaf)) Option.none (T.node (T.node T.leaf Option.none (T.node T.leaf (Option.some (AV.int Go.IntKind.i64 (Int.ofNat m))) T.leaf)) Option.none (T.node T.leaf (Option.some (AV.int Go.IntKind.i64 (Int.ofNat k))) T.leaf))) (Option.some (AV.str n v)) (T.node (T.node (T.node T.leaf Option.none (T.node T.leaf (Option.some (AV.str dl dv)) T.leaf)) Option.none T.leaf) (Option.some (AV.int Go.IntKind.i64 (Int.ofNat i))) (T.node (T.node T.leaf Option.none (T.node T.leaf Option.none (T.node (T.node T.leaf Option.none (T.node T.leaf (Option.some (AV.bool false)) T.leaf)) Option.none T.leaf))) Option.none T.leaf))) (H.mk (T.node T.leaf (Option.some (Blk.row [AV.int Go.IntKind.i64 (Int.ofNat 0), AV.str 0 0, AV.int Go.IntKind.i64 (Int.ofNat 0), AV.int Go.IntKind.i64 (Int.ofNat 0), AV.int Go.IntKind.i64 (Int.ofNat 0), AV.int Go.IntKind.i64 (Int.ofNat 0)] 30 true [])) T.leaf) 1) [])) False)) False) (K (XE.ext 4) (T.node (T.node (T.node T.leaf Option.none (T.node T.leaf (Option.some (AV.ptr 0 0)) T.leaf)) Option.none (T.node (T.node T.leaf Option.none (T.node T.leaf (Option.some (AV.int Go.IntKind.i64 (Int.ofNat m))) T.leaf)) Option.none (T.node T.leaf (Option.some (AV.int Go.IntKind.i64 (Int.ofNat k))) T.leaf))) (Option.some (AV.str n v)) (T.node (T.node (T.node T.leaf Option.none (T.node T.leaf (Option.some (AV.str dl dv)) T.leaf)) Option.none T.leaf) (Option.some (AV.int Go.IntKind.i64 (Int.ofNat i))) (T.node (T.node T.leaf Option.none (T.node T.leaf Option.none (T.node (T.node T.leaf Option.none (T.node T.leaf (Option.some (AV.bool false)) T.leaf)) Option.none T.leaf))) Option.none T.leaf))) (H.mk (T.node T.leaf (Option.some (Blk.row [AV.int Go.IntKind.i64 (Int.ofNat 0), AV.str 0 0, AV.int Go.IntKind.i64 (Int.ofNat 0), AV.int Go.IntKind.i64 (Int.ofNat 0), AV.int Go.IntKind.i64 (Int.ofNat 0), AV.int Go.IntKind.i64 (Int.ofNat 0)] 30 true [])) T.leaf) 1) [])) := by kernel_rfl
theorem tk_res (n v i : Nat) (K : AV → Prop) : xfun R6 Tryd.prog (xcode R6 Tryd.prog F) 20 [.str n v, .int .i64 (.ofNat i)] hNil [] (fun u _ _ => K u) = (bcase (inB (Int.ofNat i) n) (bcase (isL (byteAt v (Int.toNat (Int.ofNat i)))) (∃ s, Nat.le (STk.n s) maxI ∧ (Option.some (AV.str n v) = Option.some (AV.str s.3 s.4) ∧ ((True ∧ Option.some (AV.ptr 0 0) = Option.some (AV.ptr 0 0) ∧ True ∧ True) ∧ True ∧ Option.some (AV.int Go.IntKind.i64 (Int.ofNat i)) = Option.some (AV.int Go.IntKind.i64 (Int.ofNat s.2)) ∧ True ∧ True) ∧ Option.some (AV.int Go.IntKind.i64 (Int.ofNat i)) = Option.some (AV.int Go.IntKind.i64 (Int.ofNat s.1)) ∧ True ∧ True) ∧ 1 = 1 ∧ (Option.some (Blk.row [AV.int Go.IntKind.i64 (Int.ofNat 0), AV.str 0 0, AV.int Go.IntKind.i64 (Int.ofNat 0), AV.int Go.IntKind.i64 (Int.ofNat 0), AV.int Go.IntKind.i64 (Int.ofNat 0), AV.int Go.IntKind.i64 (Int.ofNat 0)] 30 true []) = Option.some (Blk.row [AV.int Go.IntKind.i64 (Int.ofNat 0), AV.str 0 0, AV.int Go.IntKind.i64 (Int.ofNat 0), AV.int Go.IntKind.i64 (Int.ofNat 0), AV.int Go.IntKind.i64 (Int.ofNat 0), AV.int Go.IntKind.i64 (Int.ofNat 0)] 30 true []) ∧ True ∧ True) ∧ bcase (inR Go.IntKind.i64 (Int.ofNat (scan isW s.4 (s.3 - s.2) s.2) - Int.ofNat s.1)) (bcase (ltI (Int.ofNat 40) (Int.ofNat (scan isW s.4 (s.3 - s.2) s.2) - Int.ofNat s.1)) (K (AV.tup [AV.agg [AV.int Go.IntKind.i64 (Int.ofNat 0), AV.str 0 0, AV.int Go.IntKind.i64 (Int.ofNat 0), AV.int Go.IntKind.i64 (Int.ofNat 0), AV.int Go.IntKind.i64 (Int.ofNat 0), AV.int Go.IntKind.i64 (Int.ofNat 0)], AV.int Go.IntKind.i64 (Int.ofNat 2)])) (bcase (Nat.ble (scan isW s.4 (s.3 - s.2) s.2) s.3 && Nat.ble s.1 (scan isW s.4 (s.3 - s.2) s.2)) (bcase (isKey (Nat.sub (scan isW s.4 (s.3 - s.2) s.2) s.1) (subV s.4 s.1 (scan isW s.4 (s.3 - s.2) s.2))) (K (AV.tup [AV.agg (ltake (ldrop (lput [AV.int Go.IntKind.i64 (Int.ofNat 0), AV.str 0 0, AV.int Go.IntKind.i64 (Int.ofNat 0), AV.int Go.IntKind.i64 (Int.ofNat 0), AV.int Go.IntKind.i64 (Int.ofNat 0), AV.int Go.IntKind.i64 (Int.ofNat 0)] (ltake (ldrop (lput (lput [AV.int Go.IntKind.i64 (Int.ofNat 0), AV.str 0 0, AV.int Go.IntKind.i64 (Int.ofNat 0), AV.int Go.IntKind.i64 (Int.ofNat 0), AV.int Go.IntKind.i64 (Int.ofNat 0), AV.int Go.IntKind.i64 (Int.ofNat 0)] (lput (lput (lput [AV.int Go.IntKind.i64 (Int.ofNat 0), AV.str 0 0, AV.int Go.IntKind.i64 (Int.ofNat 0), AV.int Go.IntKind.i64 (Int.ofNat 0), AV.int Go.IntKind.i64 (Int.ofNat 0), AV.int Go.IntKind.i64 (Int.ofNat 0)] [AV.int Go.IntKind.i64 (Int.ofNat 1)] 0) [AV.str (Nat.sub (scan isW s.4 (s.3 - s.2) s.2) s.1) (subV s.4 s.1 (scan isW s.4 (s.3 - s.2) s.2))] 1) [AV.int Go.IntKind.i64 (Int.ofNat s.1)] 5) 0) [AV.int Go.IntKind.i64 (Int.ofNat 3)] 0) 0) 6) 0) 0) 6), AV.int Go.IntKind.i64 (Int.ofNat 0)])) (K (AV.tup [AV.agg (ltake (ldrop (lput [AV.int Go.IntKind.i64 (Int.ofNat 0), AV.str 0 0, AV.int Go.IntKind.i64 (Int.ofNat 0), AV.int Go.IntKind.i64 (Int.ofNat 0), AV.int Go.IntKind.i64 (Int.ofNat 0), AV.int Go.IntKind.i64 (Int.ofNat 0)] (ltake (ldrop (lput [AV.int Go.IntKind.i64 (Int.ofNat 0), AV.str 0 0, AV.int Go.IntKind.i64 (Int.ofNat 0), AV.int Go.IntKind.i64 (Int.ofNat 0), AV.int Go.IntKind.i64 (Int.ofNat 0), AV.int Go.IntKind.i64 (Int.ofNat 0)] (lput (lput (lput [AV.int Go.IntKind.i64 (Int.ofNat 0), AV.str 0 0, AV.int Go.IntKind.i64 (Int.ofNat 0), AV.int Go.IntKind.i64 (Int.ofNat 0), AV.int Go.IntKind.i64 (Int.ofNat 0), AV.int Go.IntKind.i64 (Int.ofNat 0)] [AV.int Go.IntKind.i64 (Int.ofNat 1)] 0) [AV.str (Nat.sub (scan isW s.4 (s.3 - s.2) s.2) s.1) (subV s.4 s.1 (scan isW s.4 (s.3 - s.2) s.2))] 1) [AV.int Go.IntKind.i64 (Int.ofNat s.1)] 5) 0) 0) 6) 0) 0) 6), AV.int Go.IntKind.i64 (Int.ofNat 0)]))) False)) False) (bcase (inB (Int.ofNat i) n) (bcase (isD (byteAt v (Int.toNat (Int.ofNat i)))) (∃ s, Nat.le (STk.n s) maxI ∧ (Option.some (AV.str n v) = Option.some (AV.str s.3 s.4) ∧ ((True ∧ Option.some (AV.ptr 0 0) = Option.some (AV.ptr 0 0) ∧ True ∧ True) ∧ True ∧ Option.some (AV.int Go.IntKind.i64 (Int.ofNat i)) = Option.some (AV.int Go.IntKind.i64 (Int.ofNat s.2)) ∧ True ∧ True) ∧ Option.some (AV.int Go.IntKind.i64 (Int.ofNat i)) = Option.some (AV.int Go.IntKind.i64 (Int.ofNat s.1)) ∧ True ∧ True) ∧ 1 = 1 ∧ (Option.some (Blk.row [AV.int Go.IntKind.i64 (Int.ofNat 0), AV.str 0 0, AV.int Go.IntKind.i64 (Int.ofNat 0), AV.int Go.IntKind.i64 (Int.ofNat 0), AV.int Go.IntKind.i64 (Int.ofNat 0), AV.int Go.IntKind.i64 (Int.ofNat 0)] 30 true []) = Option.some (Blk.row [AV.int Go.IntKind.i64 (Int.ofNat 0), AV.str 0 0, AV.int Go.IntKind.i64 (Int.ofNat 0), AV.int Go.IntKind.i64 (Int.ofNat 0), AV.int Go.IntKind.i64 (Int.ofNat 0), AV.int Go.IntKind.i64 (Int.ofNat 0)] 30 true []) ∧ True ∧ True) ∧ bcase (Nat.ble (scan isD s.4 (s.3 - s.2) s.2) s.3 && Nat.ble s.1 (scan isD s.4 (s.3 - s.2) s.2)) (∃ s_1, Nat.le (STm.n s_1) maxI ∧ (Option.some (AV.str s.3 s.4) = Option.some (AV.str s_1.3 s_1.4) ∧ ((True ∧ Option.some (AV.ptr 0 0) = Option.some (AV.ptr 0 0) ∧ True ∧ True) ∧ (True ∧ Option.some (AV.int Go.IntKind.i64 (Int.ofNat (scan isD s.4 (s.3 - s.2) s.2))) = Option.some (AV.int Go.IntKind.i64 (Int.ofNat s_1.7)) ∧ True ∧ True) ∧ Option.some (AV.int Go.IntKind.i64 (Int.ofNat (scan isD s.4 (s.3 - s.2) s.2))) = Option.some (AV.int Go.IntKind.i64 (Int.ofNat s_1.2)) ∧ True ∧ True) ∧ Option.some (AV.int Go.IntKind.i64 (Int.ofNat s.1)) = Option.some (AV.int Go.IntKind.i64 (Int.ofNat s_1.1)) ∧ ((True ∧ Option.some (AV.str (Nat.sub (scan isD s.4 (s.3 - s.2) s.2) s.1) (subV s.4 s.1 (scan isD s.4 (s.3 - s.2) s.2))) = Option.some (AV.str s_1.5 s_1.6) ∧ True ∧ True) ∧ True) ∧ True) ∧ 1 = 1 ∧ (Option.some (Blk.row [AV.int Go.IntKind.i64 (Int.ofNat 0), AV.str 0 0, AV.int Go.IntKind.i64 (Int.ofNat 0), AV.int Go.IntKind.i64 (Int.ofNat 0), AV.int Go.IntKind.i64 (Int.ofNat 0), AV.int Go.IntKind.i64 (Int.ofNat 0)] 30 true []) = Option.some (Blk.row [AV.int Go.IntKind.i64 (Int.ofNat 0), AV.str 0 0, AV.int Go.IntKind.i64 (Int.ofNat 0), AV.int Go.IntKind.i64 (Int.ofNat 0), AV.int Go.IntKind.i64 (Int.ofNat 0), AV.int Go.IntKind.i64 (Int.ofNat 0)] 30 true []) ∧ True ∧ True) ∧ bcase (Nat.ble (scan isW s_1.4 (s_1.3 - s_1.7) s_1.7) s_1.3 && Nat.ble s_1.2 (scan isW s_1.4 (s_1.3 - s_1.7) s_1.7)) (bcase (ltI (Int.ofNat s_1.2) (Int.ofNat (scan isW s_1.4 (s_1.3 - s_1.7) s_1.7))) (bcase (ltI (Int.ofNat (kindF (Nat.sub (scan isW s_1.4 (s_1.3 - s_1.7) s_1.7) s_1.2) (subV s_1.4 s_1.2 (scan isW s_1.4 (s_1.3 - s_1.7) s_1.7)))) (Int.ofNat 2)) (K (AV.tup [AV.agg [AV.int Go.IntKind.i64 (Int.ofNat 0), AV.str 0 0, AV.int Go.IntKind.i64 (Int.ofNat 0), AV.int Go.IntKind.i64 (Int.ofNat 0), AV.int Go.IntKind.i64 (Int.ofNat 0), AV.int Go.IntKind.i64 (Int.ofNat 0)], AV.int Go.IntKind.i64 (Int.ofNat 11)])) (bcase ((Nat.beq (kindF (Nat.sub (scan isW s_1.4 (s_1.3 - s_1.7) s_1.7) s_1.2) (subV s_1.4 s_1.2 (scan isW s_1.4 (s_1.3 - s_1.7) s_1.7))) 0 || isK (kindF (Nat.sub (scan isW s_1.4 (s_1.3 - s_1.7) s_1.7) s_1.2) (subV s_1.4 s_1.2 (scan isW s_1.4 (s_1.3 - s_1.7) s_1.7)))) && (Nat.ble s_1.5 9000000000000000000 && allD s_1.6 s_1.5)) (bcase (okN s_1.5 s_1.6 (kindF (Nat.sub (scan isW s_1.4 (s_1.3 - s_1.7) s_1.7) s_1.2) (subV s_1.4 s_1.2 (scan isW s_1.4 (s_1.3 - s_1.7) s_1.7)))) (bcase (Nat.ble (scan isW s_1.4 (s_1.3 - s_1.7) s_1.7) s_1.3 && Nat.ble s_1.1 (scan isW s_1.4 (s_1.3 - s_1.7) s_1.7)) (K (AV.tup [AV.agg (ltake (ldrop (lput [AV.int Go.IntKind.i64 (Int.ofNat 0), AV.str 0 0, AV.int Go.IntKind.i64 (Int.ofNat 0), AV.int Go.IntKind.i64 (Int.ofNat 0), AV.int Go.IntKind.i64 (Int.ofNat 0), AV.int Go.IntKind.i64 (Int.ofNat 0)] (lput (lput (lput (lput (lput [AV.int Go.IntKind.i64 (Int.ofNat 0), AV.str 0 0, AV.int Go.IntKind.i64 (Int.ofNat 0), AV.int Go.IntKind.i64 (Int.ofNat 0), AV.int Go.IntKind.i64 (Int.ofNat 0), AV.int Go.IntKind.i64 (Int.ofNat 0)] [AV.int Go.IntKind.i64 (Int.ofNat 2)] 0) [AV.str (Nat.sub (scan isW s_1.4 (s_1.3 - s_1.7) s_1.7) s_1.1) (subV s_1.4 s_1.1 (scan isW s_1.4 (s_1.3 - s_1.7) s_1.7))] 1) [AV.int Go.IntKind.i64 (valN s_1.5 s_1.6 (kindF (Nat.sub (scan isW s_1.4 (s_1.3 - s_1.7) s_1.7) s_1.2) (subV s_1.4 s_1.2 (scan isW s_1.4 (s_1.3 - s_1.7) s_1.7))))] 2) (lput [AV.int Go.IntKind.i64 (Int.ofNat 0), AV.int Go.IntKind.i64 (Int.ofNat 0)] [AV.int Go.IntKind.i64 (Int.ofNat (kindF (Nat.sub (scan isW s_1.4 (s_1.3 - s_1.7) s_1.7) s_1.2) (subV s_1.4 s_1.2 (scan isW s_1.4 (s_1.3 - s_1.7) s_1.7))))] 0) 3) [AV.int Go.IntKind.i64 (Int.ofNat s_1.1)] 5) 0) 0) 6), AV.int Go.IntKind.i64 (Int.ofNat 0)])) False) (K (AV.tup [AV.agg [AV.int Go.IntKind.i64 (Int.ofNat 0), AV.str 0 0, AV.int Go.IntKind.i64 (Int.ofNat 0), AV.int Go.IntKind.i64 (Int.ofNat 0), AV.int Go.IntKind.i64 (Int.ofNat 0), AV.int Go.IntKind.i64 (Int.ofNat 0)], AV.int Go.IntKind.i64 (Int.ofNat 11)]))) False)) (bcase ((Nat.beq (kindF (Nat.sub (scan isW s_1.4 (s_1.3 - s_1.7) s_1.7) s_1.2) (subV s_1.4 s_1.2 (scan isW s_1.4 (s_1.3 - s_1.7) s_1.7))) 0 || isK (kindF (Nat.sub (scan isW s_1.4 (s_1.3 - s_1.7) s_1.7) s_1.2) (subV s_1.4 s_1.2 (scan isW s_1.4 (s_1.3 - s_1.7) s_1.7)))) && (Nat.ble s_1.5 9000000000000000000 && allD s_1.6 s_1.5)) (bcase (okN s_1.5 s_1.6 (kindF (Nat.sub (scan isW s_1.4 (s_1.3 - s_1.7) s_1.7) s_1.2) (subV s_1.4 s_1.2 (scan isW s_1.4 (s_1.3 - s_1.7) s_1.7)))) (bcase (Nat.ble (scan isW s_1.4 (s_1.3 - s_1.7) s_1.7) s_1.3 && Nat.ble s_1.1 (scan isW s_1.4 (s_1.3 - s_1.7) s_1.7)) (K (AV.tup [AV.agg (ltake (ldrop (lput [AV.int Go.IntKind.i64 (Int.ofNat 0), AV.str 0 0, AV.int Go.IntKind.i64 (Int.ofNat 0), AV.int Go.IntKind.i64 (Int.ofNat 0), AV.int Go.IntKind.i64 (Int.ofNat 0), AV.int Go.IntKind.i64 (Int.ofNat 0)] (lput (lput (lput (lput (lput [AV.int Go.IntKind.i64 (Int.ofNat 0), AV.str 0 0, AV.int Go.IntKind.i64 (Int.ofNat 0), AV.int Go.IntKind.i64 (Int.ofNat 0), AV.int Go.IntKind.i64 (Int.ofNat 0), AV.int Go.IntKind.i64 (Int.ofNat 0)] [AV.int Go.IntKind.i64 (Int.ofNat 2)] 0) [AV.str (Nat.sub (scan isW s_1.4 (s_1.3 - s_1.7) s_1.7) s_1.1) (subV s_1.4 s_1.1 (scan isW s_1.4 (s_1.3 - s_1.7) s_1.7))] 1) [AV.int Go.IntKind.i64 (valN s_1.5 s_1.6 (kindF (Nat.sub (scan isW s_1.4 (s_1.3 - s_1.7) s_1.7) s_1.2) (subV s_1.4 s_1.2 (scan isW s_1.4 (s_1.3 - s_1.7) s_1.7))))] 2) (lput [AV.int Go.IntKind.i64 (Int.ofNat 0), AV.int Go.IntKind.i64 (Int.ofNat 0)] [AV.int Go.IntKind.i64 (Int.ofNat (kindF (Nat.sub (scan isW s_1.4 (s_1.3 - s_1.7) s_1.7) s_1.2) (subV s_1.4 s_1.2 (scan isW s_1.4 (s_1.3 - s_1.7) s_1.7))))] 0) 3) [AV.int Go.IntKind.i64 (Int.ofNat s_1.1)] 5) 0) 0) 6), AV.int Go.IntKind.i64 (Int.ofNat 0)])) False) (K (AV.tup [AV.agg [AV.int Go.IntKind.i64 (Int.ofNat 0), AV.str 0 0, AV.int Go.IntKind.i64 (Int.ofNat 0), AV.int Go.IntKind.i64 (Int.ofNat 0), AV.int Go.IntKind.i64 (Int.ofNat 0), AV.int Go.IntKind.i64 (Int.ofNat 0)], AV.int Go.IntKind.i64 (Int.ofNat 11)]))) False)) False) False) (bcase (Nat.ble (Nat.succ i) n && Nat.ble n 9000000000000000000) (bcase (eqI (Int.ofNat (sLen n v i)) (Int.ofNat 0)) (K (AV.tup [AV.agg [AV.int Go.IntKind.i64 (Int.ofNat 0), AV.str 0 0, AV.int Go.IntKind.i64 (Int.ofNat 0), AV.int Go.IntKind.i64 (Int.ofNat 0), AV.int Go.IntKind.i64 (Int.ofNat 0), AV.int Go.IntKind.i64 (Int.ofNat 0)], AV.int Go.IntKind.i64 (Int.ofNat 10)])) (bcase (inR Go.IntKind.i64 (Int.ofNat i + Int.ofNat (sLen n v i))) (bcase (Nat.ble (i + sLen n v i) n && Nat.ble i (i + sLen n v i)) (K (AV.tup [AV.agg (ltake (ldrop (lput [AV.int Go.IntKind.i64 (Int.ofNat 0), AV.str 0 0, AV.int Go.IntKind.i64 (Int.ofNat 0), AV.int Go.IntKind.i64 (Int.ofNat 0), AV.int Go.IntKind.i64 (Int.ofNat 0), AV.int Go.IntKind.i64 (Int.ofNat 0)] (lput (lput (lput [AV.int Go.IntKind.i64 (Int.ofNat 0), AV.str 0 0, AV.int Go.IntKind.i64 (Int.ofNat 0), AV.int Go.IntKind.i64 (Int.ofNat 0), AV.int Go.IntKind.i64 (Int.ofNat 0), AV.int Go.IntKind.i64 (Int.ofNat 0)] [AV.int Go.IntKind.i64 (Int.ofNat 4)] 0) [AV.str (Nat.sub (i + sLen n v i) i) (subV v i (i + sLen n v i))] 1) [AV.int Go.IntKind.i64 (Int.ofNat i)] 5) 0) 0) 6), AV.int Go.IntKind.i64 (Int.ofNat 0)])) False) False)) False)) False)) False) := by kernel_rfl
end
end Go.Proofs.YtoeoaiipchklbaaDoor
/- The document's lexer: one token, as a contract. -/
set_option autoImplicit false
set_option linter.unusedVariables false
set_option maxRecDepth 100000
set_option maxHeartbeats 1000000
namespace Go.Proofs.YtoeoaiipchklbaaDoor
noncomputable section
open Go.X
theorem isW_L {c : Nat} (h : isL c = true) : isW c = true := by unfold isW; rw [h]; rfl
theorem isW_D {c : Nat} (h : isL c = false) : isW c = isD c := by unfold isW; rw [h]; rfl
theorem goodR4 : X.Good R4 Tryd.prog := by
  refine goodR3.addE (n0 := 1) (μ := fun s : STk => s.n - s.k) (fuel := F) (by kernel_rfl) ?_ ?_ ?_
  · intro s _
    refine ⟨rfl, Nat.le_refl _, ?_, ?_⟩ <;> repeat' (first | exact trivial | exact rfl | refine And.intro ?_ ?_)
  · rintro ⟨i, k, n, v⟩ hok
    have hn : n ≤ 9223372036854775807 := hok
    refine ⟨Eq.mpr (tk_body1 i k n v _) ?_⟩
    have ej : Int.toNat (Int.ofNat k) = k := rfl
    rw [ej]
    refine bcase_mk (fun h1 => ?_) (fun h1 => ?_)
    · have h1 := ltT h1
      refine bcase_t (inB_of h1) (bcase_mk (fun h2 => ?_) (fun h2 => ?_))
      · refine bcase_t (inR_add (by omega)) ⟨⟨i, k + 1, n, v⟩, [], hok, by dsimp only; omega, ?_, ?_⟩
        · dsimp only; rw [scan_yes h1 (isW_L h2)]
        · refine abs_mk rfl rfl rfl ?_ ?_ <;> repeat' (first | exact trivial | exact rfl | exact ⟨_, rfl, rfl⟩ | refine And.intro ?_ ?_)
      · refine bcase_t (inB_of h1) (bcase_mk (fun h3 => ?_) (fun h3 => ?_))
        · refine bcase_t (inR_add (by omega)) ⟨⟨i, k + 1, n, v⟩, [], hok, by dsimp only; omega, ?_, ?_⟩
          · dsimp only; rw [scan_yes h1 ((isW_D h2).trans h3)]
          · refine abs_mk rfl rfl rfl ?_ ?_ <;> repeat' (first | exact trivial | exact rfl | exact ⟨_, rfl, rfl⟩ | refine And.intro ?_ ?_)
        · refine ⟨[], rfl, ?_⟩
          dsimp only; rw [scan_no fun _ => (isW_D h2).trans h3]
          refine abs_mk rfl rfl rfl ?_ ?_ <;> repeat' (first | exact trivial | exact rfl | exact ⟨_, rfl, rfl⟩ | refine And.intro ?_ ?_)
    · refine ⟨[], rfl, ?_⟩
      dsimp only; rw [scan_no fun h => absurd h (ltF h1)]
      refine abs_mk rfl rfl rfl ?_ ?_ <;> repeat' (first | exact trivial | exact rfl | exact ⟨_, rfl, rfl⟩ | refine And.intro ?_ ?_)
  · intro g i h; cases h
theorem goodR5 : X.Good R5 Tryd.prog := by
  refine goodR4.addE (n0 := 1) (μ := fun s : STk => s.n - s.k) (fuel := F) (by kernel_rfl) ?_ ?_ ?_
  · intro s _
    refine ⟨rfl, Nat.le_refl _, ?_, ?_⟩ <;> repeat' (first | exact trivial | exact rfl | refine And.intro ?_ ?_)
  · rintro ⟨i, k, n, v⟩ hok
    have hn : n ≤ 9223372036854775807 := hok
    refine ⟨Eq.mpr (tk_body2 i k n v _) ?_⟩
    have ej : Int.toNat (Int.ofNat k) = k := rfl
    rw [ej]
    refine bcase_mk (fun h1 => ?_) (fun h1 => ?_)
    · have h1 := ltT h1
      refine bcase_t (inB_of h1) (bcase_mk (fun h2 => ?_) (fun h2 => ?_))
      · refine bcase_t (inR_add (by omega)) ⟨⟨i, k + 1, n, v⟩, [], hok, by dsimp only; omega, ?_, ?_⟩
        · dsimp only; rw [scan_yes h1 h2]
        · refine abs_mk rfl rfl rfl ?_ ?_ <;> repeat' (first | exact trivial | exact rfl | exact ⟨_, rfl, rfl⟩ | refine And.intro ?_ ?_)
      · refine ⟨[], rfl, ?_⟩
        dsimp only; rw [scan_no fun _ => h2]
        refine abs_mk rfl rfl rfl ?_ ?_ <;> repeat' (first | exact trivial | exact rfl | exact ⟨_, rfl, rfl⟩ | refine And.intro ?_ ?_)
    · refine ⟨[], rfl, ?_⟩
      dsimp only; rw [scan_no fun h => absurd h (ltF h1)]
      refine abs_mk rfl rfl rfl ?_ ?_ <;> repeat' (first | exact trivial | exact rfl | exact ⟨_, rfl, rfl⟩ | refine And.intro ?_ ?_)
  · intro g i h; cases h
theorem goodR6 : X.Good R6 Tryd.prog := by
  refine goodR5.addE (n0 := 1) (μ := fun s : STm => s.n - s.m) (fuel := F) (by kernel_rfl) ?_ ?_ ?_
  · intro s _
    refine ⟨rfl, Nat.le_refl _, ?_, ?_⟩ <;> repeat' (first | exact trivial | exact rfl | refine And.intro ?_ ?_)
  · rintro ⟨i, k, n, v, dl, dv, m⟩ hok
    have hn : n ≤ 9223372036854775807 := hok
    refine ⟨Eq.mpr (tk_body3 i k n v dl dv m _) ?_⟩
    have ej : Int.toNat (Int.ofNat m) = m := rfl
    rw [ej]
    refine bcase_mk (fun h1 => ?_) (fun h1 => ?_)
    · have h1 := ltT h1
      refine bcase_t (inB_of h1) (bcase_mk (fun h2 => ?_) (fun h2 => ?_))
      · refine bcase_t (inR_add (by omega)) ⟨⟨i, k, n, v, dl, dv, m + 1⟩, [], hok, by dsimp only; omega, ?_, ?_⟩
        · dsimp only; rw [scan_yes h1 (isW_L h2)]
        · refine abs_mk rfl rfl rfl ?_ ?_ <;> repeat' (first | exact trivial | exact rfl | exact ⟨_, rfl, rfl⟩ | refine And.intro ?_ ?_)
      · refine bcase_t (inB_of h1) (bcase_mk (fun h3 => ?_) (fun h3 => ?_))
        · refine bcase_t (inR_add (by omega)) ⟨⟨i, k, n, v, dl, dv, m + 1⟩, [], hok, by dsimp only; omega, ?_, ?_⟩
          · dsimp only; rw [scan_yes h1 ((isW_D h2).trans h3)]
          · refine abs_mk rfl rfl rfl ?_ ?_ <;> repeat' (first | exact trivial | exact rfl | exact ⟨_, rfl, rfl⟩ | refine And.intro ?_ ?_)
        · refine ⟨[], rfl, ?_⟩
          dsimp only; rw [scan_no fun _ => (isW_D h2).trans h3]
          refine abs_mk rfl rfl rfl ?_ ?_ <;> repeat' (first | exact trivial | exact rfl | exact ⟨_, rfl, rfl⟩ | refine And.intro ?_ ?_)
    · refine ⟨[], rfl, ?_⟩
      dsimp only; rw [scan_no fun h => absurd h (ltF h1)]
      refine abs_mk rfl rfl rfl ?_ ?_ <;> repeat' (first | exact trivial | exact rfl | exact ⟨_, rfl, rfl⟩ | refine And.intro ?_ ?_)
  · intro g i h; cases h
theorem vOK_eq {d : Nat} : ∀ (f j u : Nat), (∀ i, i < j + f → isD (byteAt d i) = true) → u < 18446744073709551616 → vOK d f j u = Nat.ble (vVal d f j u) 18446744073709551615
  | 0, j, u, _, hu => by rw [vVal, Nat.ble_eq_true_of_le (by omega)]; rfl
  | f + 1, j, u, h, hu => by
    have h1 := h j (by omega)
    rw [isD_iff, decide_eq_true_iff] at h1
    rw [vOK, vVal]
    cases hb : Nat.ble u (roomU (byteAt d j)) with
    | true =>
      have hb := bleT hb
      unfold roomU at hb
      exact vOK_eq f (j + 1) _ (fun i hi => h i (by omega)) (by omega)
    | false =>
      have hb := bleF hb
      unfold roomU at hb
      have := vVal_ge d f (j + 1) (u * 10 + (byteAt d j - 48))
      show false = _
      symm; rw [bleD, decide_eq_false_iff_not]; omega
theorem nDig {n v x : Nat} : ∀ j, j < nLen n v x → isD (byteAt (subV v x (nEnd n v x)) j) = true := by
  intro j hj
  have hj : j < nEnd n v x - x := hj
  rw [byteAt_subV hj]
  exact scan_all (n - x) x (x + j) (by omega) (by have : nEnd n v x = scan isD v (n - x) x := rfl; omega)
theorem mostK_le (k : Nat) : mostK k ≤ 18446744073709551615 := by
  unfold mostK
  refine cond_le (by decide) (cond_le (by decide) (cond_le (by decide) (cond_le (by decide) (cond_le (by decide) (cond_le (by decide) (cond_le (by decide) (by decide)))))))
theorem nBad_ok {n v x : Nat} (h1 : ¬ (1 ≤ wordN n v (nEnd n v x) ∧ nKind n v x ≤ 1)) : nBad n v x = !(okN (nLen n v x) (subV v x (nEnd n v x)) (nKind n v x)) := by
  have ov := vOK_eq (d := subV v x (nEnd n v x)) (nLen n v x) 0 0 (fun i hi => nDig i (by omega)) (by decide)
  have ov : nOv n v x = Nat.ble (nVal n v x) 18446744073709551615 := ov
  have e : okN (nLen n v x) (subV v x (nEnd n v x)) (nKind n v x) = true ↔ nLen n v x ≤ 20 ∧ (nKind n v x = 0 → nLen n v x ≤ 9) ∧ (nKind n v x ≠ 0 → nVal n v x ≤ mostK (nKind n v x)) := by
    unfold okN
    rw [Bool.and_eq_true, Nat.ble_eq]
    refine and_congr Iff.rfl ?_
    cases hk : Nat.beq (nKind n v x) 0 with
    | true =>
      have hk := natBeq_iff.1 hk
      rw [cond_true, Nat.ble_eq]
      exact ⟨fun h => ⟨fun _ => h, fun h2 => absurd hk h2⟩, fun h => h.1 hk⟩
    | false =>
      have hk : ¬ nKind n v x = 0 := fun e => by rw [e] at hk; cases hk
      rw [cond_false, Nat.ble_eq]
      exact ⟨fun h => ⟨fun h2 => absurd h2 hk, fun _ => h⟩, fun h => h.2 hk⟩
  have ef : okN (nLen n v x) (subV v x (nEnd n v x)) (nKind n v x) = false ↔ ¬ (nLen n v x ≤ 20 ∧ (nKind n v x = 0 → nLen n v x ≤ 9) ∧ (nKind n v x ≠ 0 → nVal n v x ≤ mostK (nKind n v x))) := by rw [← e]; simp
  rw [Bool.eq_iff_iff, nBad_iff, Bool.not_eq_true', ef, ov, bleD, decide_eq_false_iff_not]
  have hm := mostK_le (nKind n v x)
  have h9 : nLen n v x ≤ 9 → nVal n v x < 1000000000 := by
    intro h
    have a1 := vVal_lt (d := subV v x (nEnd n v x)) (nLen n v x) 0 0 (fun i hi => nDig i (by omega))
    have h2 : 10 ^ (nLen n v x) ≤ 10 ^ 9 := Nat.pow_le_pow_right (by decide) h
    have h3 : (10 : Nat) ^ 9 = 1000000000 := rfl
    have a1 : nVal n v x < (0 + 1) * 10 ^ (nLen n v x) := a1
    omega
  constructor
  · rintro (h | h | h | h | h) ⟨b1, b2, b3⟩
    · exact h1 h
    · exact h b1
    · exact h.2 (b2 h.1)
    · by_cases hk : nKind n v x = 0
      · have := h9 (b2 hk); omega
      · have := b3 hk; omega
    · exact h.2 (b3 h.1)
  · intro h
    by_cases c1 : nLen n v x ≤ 20
    · by_cases hk : nKind n v x = 0
      · by_cases c2 : nLen n v x ≤ 9
        · exact absurd ⟨c1, fun _ => c2, fun h => absurd hk h⟩ h
        · exact .inr (.inr (.inl ⟨hk, c2⟩))
      · by_cases c2 : nVal n v x ≤ mostK (nKind n v x)
        · exact absurd ⟨c1, fun h => absurd h hk, fun _ => c2⟩ h
        · exact .inr (.inr (.inr (.inr ⟨hk, c2⟩)))
    · exact .inr (.inl c1)
def QTk (n v i : Nat) (u : AV) : Prop := (tkE n v i = true ∧ u = .tup [tokA 0 0 0 (.ofNat 0) 0 0, .int .i64 (.ofNat (tkC n v i))]) ∨
  (tkE n v i = false ∧ u = .tup [tokA (tkK n v i) (tkL n v i) (subV v i (i + tkL n v i)) (tkN n v i) (tkT n v i) i, .int .i64 (.ofNat 0)])
theorem isL_noD {c : Nat} (h : isL c = true) : isD c = false := by
  rw [isL_iff, decide_eq_true_iff] at h
  rw [isD_iff, decide_eq_false_iff_not]; omega
theorem rtok_run {n v i : Nat} (hi : i < n) (hn : n ≤ 9000000000000000000) : Ran (xfun R6 Tryd.prog (xcode R6 Tryd.prog F) 20 [.str n v, .int .i64 (.ofNat i)] hNil [] (fun u _ _ => QTk n v i u)) := by
  have h := tk_res n v i (fun u => QTk n v i u)
  refine ⟨?_⟩
  rw [h]; clear h
  have bad : ∀ {c : Nat}, tk n v i = (true, c, 0, 0, .ofNat 0, 0) → QTk n v i (.tup [tokA 0 0 0 (.ofNat 0) 0 0, .int .i64 (.ofNat c)]) := by
    intro c e
    refine .inl ⟨by unfold tkE; rw [e], by unfold tkC; rw [e]⟩
  have good : ∀ {k l : Nat} {N : Int} {t : Nat}, tk n v i = (false, 0, k, l, N, t) → QTk n v i (.tup [tokA k l (subV v i (i + l)) N t i, .int .i64 (.ofNat 0)]) := by
    intro k l N t e
    refine .inr ⟨by unfold tkE; rw [e], by unfold tkK tkL tkN tkT; rw [e]⟩
  have hM : n ≤ maxI := by show n ≤ 9223372036854775807; omega
  refine bcase_t (inB_of hi) (bcase_mk (fun g1 => ?_) (fun g1 => bcase_t (inB_of hi) (bcase_mk (fun g2 => ?_) (fun g2 => ?_))))
  · have g1 : isL (byteAt v i) = true := g1
    have g2 := isL_noD g1
    have e1 : i + wordN n v i ≤ n := word_end (by omega)
    have e2 : scan isW v (n - i) i = i + wordN n v i := by
      have := scan_ge isW v (n - i) i
      unfold wordN; omega
    refine ⟨⟨i, i, n, v⟩, hM, by repeat' (first | exact trivial | exact rfl | refine And.intro ?_ ?_), rfl, by repeat' (first | exact trivial | exact rfl | refine And.intro ?_ ?_), ?_⟩
    dsimp only
    rw [e2, subN (Nat.le_add_right _ _), Nat.add_sub_cancel_left]
    refine bcase_t (inR_of (by simp) (by simp only [Int.ofNat_eq_natCast]; omega)) (bcase_mk (fun g3 => ?_) (fun g3 => bcase_t ?_ (bcase_mk (fun g4 => ?_) (fun g4 => ?_))))
    · have g3 := ltT g3
      refine bad ?_
      have : Nat.ble (wordN n v i) 40 = false := by rw [bleD, decide_eq_false_iff_not]; omega
      unfold tk; rw [g1, g2, this]; rfl
    · exact and2 (Nat.ble_eq_true_of_le e1) (Nat.ble_eq_true_of_le (Nat.le_add_right _ _))
    · have g3 := ltF g3
      have le40 : Nat.ble (wordN n v i) 40 = true := Nat.ble_eq_true_of_le (by omega)
      have e3 : Nat.sub (i + wordN n v i) i = wordN n v i := Nat.add_sub_cancel_left _ _
      rw [e3] at g4 ⊢
      have := good (k := 3) (l := wordN n v i) (N := .ofNat 0) (t := 0) (by unfold tk; rw [g1, g2, le40, g4]; rfl)
      exact this
    · have g3 := ltF g3
      have le40 : Nat.ble (wordN n v i) 40 = true := Nat.ble_eq_true_of_le (by omega)
      have e3 : Nat.sub (i + wordN n v i) i = wordN n v i := Nat.add_sub_cancel_left _ _
      rw [e3] at g4 ⊢
      have := good (k := 1) (l := wordN n v i) (N := .ofNat 0) (t := 0) (by unfold tk; rw [g1, g2, le40, g4]; rfl)
      exact this
  · have g2 : isD (byteAt v i) = true := g2
    have s1 := scan_ge isD v (n - i) i
    have ee : scan isD v (n - i) i = nEnd n v i := rfl
    have e1 : nEnd n v i ≤ n := scan_le_n (by omega)
    have e2 : i ≤ nEnd n v i := s1
    have t1 : nTok n v i ≤ n := nTok_le (by omega)
    have s2 := scan_ge isW v (n - nEnd n v i) (nEnd n v i)
    have tt : scan isW v (n - nEnd n v i) (nEnd n v i) = nTok n v i := by unfold nTok wordN; omega
    have t2 : nEnd n v i ≤ nTok n v i := Nat.le_add_right _ _
    refine ⟨⟨i, i, n, v⟩, hM, by repeat' (first | exact trivial | exact rfl | refine And.intro ?_ ?_), rfl, by repeat' (first | exact trivial | exact rfl | refine And.intro ?_ ?_), ?_⟩
    dsimp only
    rw [ee]
    refine bcase_t (and2 (Nat.ble_eq_true_of_le e1) (Nat.ble_eq_true_of_le e2)) ?_
    refine ⟨⟨i, nEnd n v i, n, v, nLen n v i, subV v i (nEnd n v i), nEnd n v i⟩, hM, by repeat' (first | exact trivial | exact rfl | refine And.intro ?_ ?_), rfl, by repeat' (first | exact trivial | exact rfl | refine And.intro ?_ ?_), ?_⟩
    dsimp only
    rw [tt]
    have kk : kindF (Nat.sub (nTok n v i) (nEnd n v i)) (subV v (nEnd n v i) (nTok n v i)) = nKind n v i := rfl
    rw [kk]
    have ll : nLen n v i = nEnd n v i - i := rfl
    have hk9 : nKind n v i ≤ 9 := kindF_le _ _
    have KW : wordN n v (nEnd n v i) = 0 → nKind n v i = 0 := by
      intro h
      have e : nTok n v i - nEnd n v i = 0 := by unfold nTok; omega
      unfold nKind; rw [e]; rfl
    have tw : nTok n v i = nEnd n v i + wordN n v (nEnd n v i) := rfl
    have tail : ¬ (1 ≤ wordN n v (nEnd n v i) ∧ nKind n v i ≤ 1) → (nKind n v i = 0 ∨ 2 ≤ nKind n v i) → bcase (Bool.or (Nat.beq (nKind n v i) 0) (isK (nKind n v i)) && (Nat.ble (nLen n v i) 9000000000000000000 && allD (subV v i (nEnd n v i)) (nLen n v i)))
        (bcase (okN (nLen n v i) (subV v i (nEnd n v i)) (nKind n v i)) (bcase (Nat.ble (nTok n v i) n && Nat.ble i (nTok n v i)) (QTk n v i (.tup [tokA 2 (Nat.sub (nTok n v i) i) (subV v i (nTok n v i)) (valN (nLen n v i) (subV v i (nEnd n v i)) (nKind n v i)) (nKind n v i) i, .int .i64 (.ofNat 0)])) False) (QTk n v i (.tup [tokA 0 0 0 (.ofNat 0) 0 0, .int .i64 (.ofNat 11)]))) False := by
      intro c1 c2
      have nb := nBad_ok (n := n) (v := v) (x := i) c1
      refine bcase_t ?_ (bcase_mk (fun g3 => bcase_t ?_ ?_) (fun g3 => ?_))
      · refine and2 ?_ (and2 (Nat.ble_eq_true_of_le (by omega)) (allD_mk nDig))
        rcases c2 with c2 | c2
        · rw [c2]; rfl
        · have : isK (nKind n v i) = true := and2 (Nat.ble_eq_true_of_le c2) (Nat.ble_eq_true_of_le hk9)
          rw [this]; show (Nat.beq _ _ || true) = true; simp
      · exact and2 (Nat.ble_eq_true_of_le t1) (Nat.ble_eq_true_of_le (by omega))
      · rw [g3] at nb
        have e := good (k := 2) (l := nTok n v i - i) (N := nInt n v i) (t := nKind n v i) (by unfold tk; rw [g2, nb]; rfl)
        rw [show i + (nTok n v i - i) = nTok n v i by omega] at e
        exact e
      · rw [g3] at nb
        exact bad (by unfold tk; rw [g2, nb]; rfl)
    refine bcase_t (and2 (Nat.ble_eq_true_of_le t1) (Nat.ble_eq_true_of_le t2)) (bcase_mk (fun g3 => bcase_mk (fun g4 => ?_) (fun g4 => ?_)) (fun g3 => ?_))
    · have g3 := ltT g3
      have g4 := ltT g4
      have : nBad n v i = true := (nBad_iff n v i).2 (.inl ⟨by omega, by omega⟩)
      exact bad (by unfold tk; rw [g2, this]; rfl)
    · have g4 := ltF g4
      exact tail (by omega) (.inr (by omega))
    · have g3 := ltF g3
      have w0 : wordN n v (nEnd n v i) = 0 := by omega
      exact tail (by omega) (.inl (KW w0))
  · have g1 : isL (byteAt v i) = false := g1
    have g2 : isD (byteAt v i) = false := g2
    have s := sLen_le (v := v) hi
    refine bcase_t (and2 (Nat.ble_eq_true_of_le hi) (Nat.ble_eq_true_of_le hn)) (bcase_mk (fun g3 => ?_) (fun g3 => bcase_t (inR_add (by omega)) (bcase_t (and2 (Nat.ble_eq_true_of_le s) (Nat.ble_eq_true_of_le (Nat.le_add_right _ _))) ?_)))
    · have g3 := eqT g3
      exact bad (by unfold tk; rw [g1, g2, g3]; rfl)
    · have g3 := eqF g3
      have : Nat.beq (sLen n v i) 0 = false := by rw [beqD, decide_eq_false_iff_not]; exact g3
      have e3 : Nat.sub (i + sLen n v i) i = sLen n v i := Nat.add_sub_cancel_left _ _
      have := good (k := 4) (l := sLen n v i) (N := .ofNat 0) (t := 0) (by unfold tk; rw [g1, g2, this]; rfl)
      rw [e3]
      exact this
theorem rtok_ok {gl : Glob} (args : List AV) (h : H) (ds : List Bool) (K : KV) (hk : conF2 fRTok args h ds K) : CallOK Tryd.prog gl 20 args h K := by
  refine conF2_ok (F := fRTok) ?_ ?_ args h ds K hk
  all_goals
    clear hk
    intro args h r1 r2 ds K hf hK
    unfold fRTok at hf
    split at hf <;> try (cases hf; done)
    split at hf <;> try (cases hf; done)
    rename_i n v _ i
    simp only [Option.some.injEq, Prod.mk.injEq] at hf
    obtain ⟨hc, hok, rfl, rfl⟩ := hf
    obtain ⟨c1, c2⟩ := and_tt hc
    have run := rtok_run (v := v) (bleT c1) (bleT c2)
  · refine frame_pure goodR6 rfl (fuel := F) (ds1 := []) rfl rfl (ran_imp goodR6 run fun u h' d q => ?_) hK
    rcases q with ⟨q1, q2⟩ | ⟨q1, q2⟩
    · exact q2
    · rw [hok] at q1; cases q1
  · refine frame_pure goodR6 rfl (fuel := F) (ds1 := []) rfl rfl (ran_imp goodR6 run fun u h' d q => ?_) hK
    rcases q with ⟨q1, q2⟩ | ⟨q1, q2⟩
    · rw [hok] at q1; cases q1
    · exact q2
def R7 : Cfg := C0.addCon 20 (conF2 fRTok)
theorem goodR7 : X.Good R7 Tryd.prog := goodC0.addCon 20 _ (conF2_spl _) rtok_ok
end
end Go.Proofs.YtoeoaiipchklbaaDoor

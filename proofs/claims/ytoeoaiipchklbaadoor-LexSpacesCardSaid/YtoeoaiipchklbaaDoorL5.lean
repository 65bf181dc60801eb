/- The program's lexer: all tokens: definitions. -/
import Derived.Test.YtoeoaiipchklbaaDoorL4
set_option linter.unusedVariables false
set_option autoImplicit false
set_option linter.unusedVariables false
set_option maxRecDepth 100000
namespace Go.Proofs.YtoeoaiipchklbaaDoor
noncomputable section
open Go.X
/-- the next token's cells -/
def nxTok (n v x : Nat) : List AV := tok (nxK n v x) (nxL n v x) (subV v (bl v n x) (bl v n x + nxL n v x)) (nxN n v x) (nxT n v x) (bl v n x)
def nxX (n v x : Nat) : Nat := bl v n x + nxL n v x
structure Res where
  ok : Bool
  at_ : Nat
  code : Nat
  cells : List AV
  count : Nat
/-- the tokens from a place on, behind those that are there -/
def tokF (n v : Nat) : Nat → Nat → List AV → Nat → Res
  | 0, _, _, _ => ⟨false, 0, 0, [], 0⟩
  | f + 1, x, cells, k => cond (nxE n v x) ⟨false, bl v n x, nxC n v x, [], 0⟩ (cond (Nat.beq k 20000) ⟨false, bl v n x, 2, [], 0⟩
      (cond (Nat.beq (nxK n v x) 5) ⟨true, 0, 0, lapp cells (nxTok n v x), Nat.succ k⟩ (tokF n v f (nxX n v x) (lapp cells (nxTok n v x)) (Nat.succ k))))
def toks (n v x : Nat) (cells : List AV) (k : Nat) : Res := tokF n v (n + 1 - x) x cells k
def eT (l : AV) : Env := T.set (T.set (T.set T.leaf (.ptr 2 0) 5) (.fn (.func 19) [.ptr 2 0] []) 6) l 7
def hT0 (n v e : Nat) : H := ⟨T.set (T.set (T.set T.leaf (.row ASCII e false []) 0) (.map KEYS) 1) (rowJ n v 0 1 0) 2, 3⟩
def hT1 (n v x e : Nat) (cells : List AV) : H := ⟨T.set (T.set (T.set (T.set T.leaf (.row ASCII e false []) 0) (.map KEYS) 1) (rowJ n v x 1 0) 2) (.row cells 30 true []) 3, 4⟩
def eE (l : AV) (at_ code : Nat) : Env := T.set (T.set (T.set T.leaf l 2) (.int .i64 (.ofNat at_)) 3) (.int .i64 (.ofNat code)) 4
def hOk (e : Nat) (cells : List AV) : H := ⟨T.set (T.set T.leaf (.row ASCII e false []) 0) (.row cells 30 true []) 3, 4⟩
def hErr (e : Nat) : H := ⟨T.set T.leaf (.row ASCII e false []) 0, 4⟩
structure ST where
  n : Nat
  v : Nat
  e : Nat
def lT : LCon := lcE2 (fun s : ST => s.n ≤ 65536) (fun _ => eT .nils) (fun s => hT0 s.n s.v s.e) (fun s => (toks s.n s.v 0 [] 0).ok)
  (fun s => (.ret, eE (.slc 3 0 (toks s.n s.v 0 [] 0).count (toks s.n s.v 0 [] 0).count false 6) 0 0, hOk s.e (toks s.n s.v 0 [] 0).cells))
  (fun s => (.ret, eE .nils (toks s.n s.v 0 [] 0).at_ (toks s.n s.v 0 [] 0).code, hErr s.e))
def C13 : Cfg := C12.addLc 10 7 lT
end
end Go.Proofs.YtoeoaiipchklbaaDoor
set_option autoImplicit false
set_option maxRecDepth 1000000
set_option maxHeartbeats 0
namespace Go.Proofs.YtoeoaiipchklbaaDoor
noncomputable section
open Go.X
theorem tb0 (n v e : Nat) (K : KE) : xcode C12 Tryd.prog F 10 (loopC Tryd.prog 10 7) (C12.mask 10) (tmpsN Tryd.prog 10) (eT .nils) (hT0 n v e) [] K = (bcase (true && (Nat.ble 3 3 && (Nat.ble 2 3 && (true && Nat.ble n 9223372036854775807))) && (Nat.ble 0 n && true)) (bcase (nxE n v 0) (bcase (eqI (Int.ofNat (nxC n v 0)) (Int.ofNat 0)) (K XE.nrm (T.node (T.node (T.node (T.node T.leaf Option.none (T.node T.leaf (Option.some (AV.ptr 3 0)) (T.node T.leaf (Option.some (AV.bool false)) T.leaf))) Option.none T.leaf) Option.none (T.node (T.node T.leaf Option.none (T.node (T.node T.leaf Option.none (T.node T.leaf (Option.some (AV.bool false)) T.leaf)) Option.none T.leaf)) Option.none (T.node T.leaf (Option.some (AV.fn (Go.Fn.func 19) [AV.ptr 2 0] [])) T.leaf))) Option.none (T.node (T.node (T.node (T.node (T.node T.leaf Option.none (T.node T.leaf (Option.some (AV.bool false)) T.leaf)) Option.none T.leaf) Option.none T.leaf) Option.none (T.node T.leaf (Option.some (AV.ptr 2 0)) T.leaf)) Option.none (T.node T.leaf Option.none (T.node T.leaf (Option.some (AV.slc (Nat.succ (Nat.succ 3)) 0 1 1 false 6)) T.leaf)))) (H.mk (T.node (T.node (T.node T.leaf Option.none (T.node T.leaf (Option.some (Blk.row [AV.int Go.IntKind.i64 (Int.ofNat 0), AV.str 0 0, AV.int Go.IntKind.i64 (Int.ofNat 0), AV.int Go.IntKind.i64 (Int.ofNat 0), AV.int Go.IntKind.i64 (Int.ofNat 0), AV.int Go.IntKind.i64 (Int.ofNat (bl v n 0))] 30 true [])) T.leaf)) Option.none (T.node T.leaf (Option.some (Blk.row [AV.str n v, AV.int Go.IntKind.i64 (Int.ofNat (bl v n 0)), AV.map 1, AV.int Go.IntKind.i64 (Int.ofNat (nxC n v 0))] 48 true [])) T.leaf)) (Option.some (Blk.row ASCII e false [])) (T.node (T.node T.leaf Option.none (T.node T.leaf (Option.some (Blk.row [AV.int Go.IntKind.i64 (Int.ofNat 0), AV.str 0 0, AV.int Go.IntKind.i64 (Int.ofNat 0), AV.int Go.IntKind.i64 (Int.ofNat 0), AV.int Go.IntKind.i64 (Int.ofNat 0), AV.int Go.IntKind.i64 (Int.ofNat (bl v n 0))] 30 true [])) T.leaf)) (Option.some (Blk.map KEYS)) (T.node T.leaf (Option.some (Blk.row [AV.int Go.IntKind.i64 (Int.ofNat 0), AV.str 0 0, AV.int Go.IntKind.i64 (Int.ofNat 0), AV.int Go.IntKind.i64 (Int.ofNat 0), AV.int Go.IntKind.i64 (Int.ofNat 0), AV.int Go.IntKind.i64 (Int.ofNat (bl v n 0))] 30 true [])) T.leaf))) (Nat.succ (Nat.succ (Nat.succ 3)))) []) (K XE.ret (T.node (T.node (T.node (T.node T.leaf Option.none (T.node T.leaf (Option.some (AV.ptr 3 0)) (T.node T.leaf (Option.some (AV.bool true)) T.leaf))) Option.none (T.node T.leaf (Option.some (AV.int Go.IntKind.i64 (Int.ofNat (nxC n v 0)))) T.leaf)) Option.none (T.node T.leaf (Option.some AV.nils) (T.node T.leaf (Option.some (AV.fn (Go.Fn.func 19) [AV.ptr 2 0] [])) T.leaf))) Option.none (T.node (T.node T.leaf Option.none (T.node T.leaf (Option.some (AV.ptr 2 0)) T.leaf)) Option.none (T.node T.leaf (Option.some (AV.int Go.IntKind.i64 (Int.ofNat (bl v n 0)))) (T.node T.leaf (Option.some AV.nils) T.leaf)))) (H.mk (T.node (T.node T.leaf Option.none (T.node T.leaf (Option.some (Blk.row [AV.str n v, AV.int Go.IntKind.i64 (Int.ofNat (bl v n 0)), AV.map 1, AV.int Go.IntKind.i64 (Int.ofNat (nxC n v 0))] 48 true [])) T.leaf)) (Option.some (Blk.row ASCII e false [])) (T.node T.leaf (Option.some (Blk.map KEYS)) (T.node T.leaf (Option.some (Blk.row [AV.int Go.IntKind.i64 (Int.ofNat 0), AV.str 0 0, AV.int Go.IntKind.i64 (Int.ofNat 0), AV.int Go.IntKind.i64 (Int.ofNat 0), AV.int Go.IntKind.i64 (Int.ofNat 0), AV.int Go.IntKind.i64 (Int.ofNat (bl v n 0))] 30 true [])) T.leaf))) (Nat.succ 3)) [])) (bcase (eqI (Int.ofNat (nxK n v 0)) (Int.ofNat 5)) (K XE.ret (T.node (T.node (T.node (T.node T.leaf Option.none (T.node T.leaf (Option.some (AV.ptr 3 0)) (T.node T.leaf (Option.some (AV.bool false)) T.leaf))) Option.none (T.node T.leaf (Option.some (AV.int Go.IntKind.i64 (Int.ofNat 0))) T.leaf)) Option.none (T.node (T.node T.leaf Option.none (T.node (T.node T.leaf Option.none (T.node T.leaf (Option.some (AV.bool true)) T.leaf)) Option.none T.leaf)) (Option.some (AV.slc (Nat.succ (Nat.succ 3)) 0 1 1 false 6)) (T.node T.leaf (Option.some (AV.fn (Go.Fn.func 19) [AV.ptr 2 0] [])) T.leaf))) Option.none (T.node (T.node (T.node (T.node (T.node T.leaf Option.none (T.node T.leaf (Option.some (AV.bool false)) T.leaf)) Option.none T.leaf) Option.none T.leaf) Option.none (T.node T.leaf (Option.some (AV.ptr 2 0)) T.leaf)) Option.none (T.node T.leaf (Option.some (AV.int Go.IntKind.i64 (Int.ofNat 0))) (T.node T.leaf (Option.some (AV.slc (Nat.succ (Nat.succ 3)) 0 1 1 false 6)) T.leaf)))) (H.mk (T.node (T.node (T.node T.leaf Option.none (T.node T.leaf (Option.some (Blk.row [AV.int Go.IntKind.i64 (Int.ofNat (nxK n v 0)), AV.str (nxL n v 0) (subV v (bl v n 0) (bl v n 0 + nxL n v 0)), AV.int Go.IntKind.i64 (nxN n v 0), AV.int Go.IntKind.i64 (Int.ofNat (nxT n v 0)), AV.int Go.IntKind.i64 (Int.ofNat 0), AV.int Go.IntKind.i64 (Int.ofNat (bl v n 0))] 30 true [])) T.leaf)) Option.none (T.node T.leaf (Option.some (Blk.row [AV.str n v, AV.int Go.IntKind.i64 (Int.ofNat (bl v n 0 + nxL n v 0)), AV.map 1, AV.int Go.IntKind.i64 (Int.ofNat 0)] 48 true [])) T.leaf)) (Option.some (Blk.row ASCII e false [])) (T.node (T.node T.leaf Option.none (T.node T.leaf (Option.some (Blk.row [AV.int Go.IntKind.i64 (Int.ofNat (nxK n v 0)), AV.str (nxL n v 0) (subV v (bl v n 0) (bl v n 0 + nxL n v 0)), AV.int Go.IntKind.i64 (nxN n v 0), AV.int Go.IntKind.i64 (Int.ofNat (nxT n v 0)), AV.int Go.IntKind.i64 (Int.ofNat 0), AV.int Go.IntKind.i64 (Int.ofNat (bl v n 0))] 30 true [])) T.leaf)) (Option.some (Blk.map KEYS)) (T.node T.leaf (Option.some (Blk.row [AV.int Go.IntKind.i64 (Int.ofNat (nxK n v 0)), AV.str (nxL n v 0) (subV v (bl v n 0) (bl v n 0 + nxL n v 0)), AV.int Go.IntKind.i64 (nxN n v 0), AV.int Go.IntKind.i64 (Int.ofNat (nxT n v 0)), AV.int Go.IntKind.i64 (Int.ofNat 0), AV.int Go.IntKind.i64 (Int.ofNat (bl v n 0))] 30 true [])) T.leaf))) (Nat.succ (Nat.succ (Nat.succ 3)))) []) (K XE.nrm (T.node (T.node (T.node (T.node T.leaf Option.none (T.node T.leaf (Option.some (AV.ptr 3 0)) (T.node T.leaf (Option.some (AV.bool false)) T.leaf))) Option.none T.leaf) Option.none (T.node (T.node T.leaf Option.none (T.node (T.node T.leaf Option.none (T.node T.leaf (Option.some (AV.bool false)) T.leaf)) Option.none T.leaf)) Option.none (T.node T.leaf (Option.some (AV.fn (Go.Fn.func 19) [AV.ptr 2 0] [])) T.leaf))) Option.none (T.node (T.node (T.node (T.node (T.node T.leaf Option.none (T.node T.leaf (Option.some (AV.bool false)) T.leaf)) Option.none T.leaf) Option.none T.leaf) Option.none (T.node T.leaf (Option.some (AV.ptr 2 0)) T.leaf)) Option.none (T.node T.leaf Option.none (T.node T.leaf (Option.some (AV.slc (Nat.succ (Nat.succ 3)) 0 1 1 false 6)) T.leaf)))) (H.mk (T.node (T.node (T.node T.leaf Option.none (T.node T.leaf (Option.some (Blk.row [AV.int Go.IntKind.i64 (Int.ofNat (nxK n v 0)), AV.str (nxL n v 0) (subV v (bl v n 0) (bl v n 0 + nxL n v 0)), AV.int Go.IntKind.i64 (nxN n v 0), AV.int Go.IntKind.i64 (Int.ofNat (nxT n v 0)), AV.int Go.IntKind.i64 (Int.ofNat 0), AV.int Go.IntKind.i64 (Int.ofNat (bl v n 0))] 30 true [])) T.leaf)) Option.none (T.node T.leaf (Option.some (Blk.row [AV.str n v, AV.int Go.IntKind.i64 (Int.ofNat (bl v n 0 + nxL n v 0)), AV.map 1, AV.int Go.IntKind.i64 (Int.ofNat 0)] 48 true [])) T.leaf)) (Option.some (Blk.row ASCII e false [])) (T.node (T.node T.leaf Option.none (T.node T.leaf (Option.some (Blk.row [AV.int Go.IntKind.i64 (Int.ofNat (nxK n v 0)), AV.str (nxL n v 0) (subV v (bl v n 0) (bl v n 0 + nxL n v 0)), AV.int Go.IntKind.i64 (nxN n v 0), AV.int Go.IntKind.i64 (Int.ofNat (nxT n v 0)), AV.int Go.IntKind.i64 (Int.ofNat 0), AV.int Go.IntKind.i64 (Int.ofNat (bl v n 0))] 30 true [])) T.leaf)) (Option.some (Blk.map KEYS)) (T.node T.leaf (Option.some (Blk.row [AV.int Go.IntKind.i64 (Int.ofNat (nxK n v 0)), AV.str (nxL n v 0) (subV v (bl v n 0) (bl v n 0 + nxL n v 0)), AV.int Go.IntKind.i64 (nxN n v 0), AV.int Go.IntKind.i64 (Int.ofNat (nxT n v 0)), AV.int Go.IntKind.i64 (Int.ofNat 0), AV.int Go.IntKind.i64 (Int.ofNat (bl v n 0))] 30 true [])) T.leaf))) (Nat.succ (Nat.succ (Nat.succ 3)))) []))) False) := by kernel_rfl
theorem tb1 (n v x k e : Nat) (cells : List AV) (K : KE) : xcode C12 Tryd.prog F 10 (loopC Tryd.prog 10 7) (C12.mask 10) (tmpsN Tryd.prog 10) (eT (.slc 3 0 k k false 6)) (hT1 n v x e cells) [] K = (bcase (true && (Nat.ble 3 4 && (Nat.ble 2 4 && (true && Nat.ble n 9223372036854775807))) && (Nat.ble x n && true)) (bcase (nxE n v x) (bcase (eqI (Int.ofNat (nxC n v x)) (Int.ofNat 0)) (bcase (eqI (Int.ofNat k) (Int.ofNat 20000)) (K XE.ret (T.node (T.node (T.node (T.node T.leaf Option.none (T.node T.leaf (Option.some (AV.ptr 4 0)) (T.node T.leaf (Option.some (AV.bool false)) T.leaf))) Option.none (T.node T.leaf (Option.some (AV.int Go.IntKind.i64 (Int.ofNat 2))) T.leaf)) Option.none (T.node T.leaf (Option.some AV.nils) (T.node T.leaf (Option.some (AV.fn (Go.Fn.func 19) [AV.ptr 2 0] [])) T.leaf))) Option.none (T.node (T.node (T.node (T.node (T.node T.leaf Option.none (T.node T.leaf (Option.some (AV.bool true)) T.leaf)) Option.none T.leaf) Option.none T.leaf) Option.none (T.node T.leaf (Option.some (AV.ptr 2 0)) T.leaf)) Option.none (T.node T.leaf (Option.some (AV.int Go.IntKind.i64 (Int.ofNat (bl v n x)))) (T.node T.leaf (Option.some (AV.slc 3 0 k k false 6)) T.leaf)))) (H.mk (T.node (T.node (T.node T.leaf Option.none (T.node T.leaf (Option.some (Blk.row [AV.int Go.IntKind.i64 (Int.ofNat 0), AV.str 0 0, AV.int Go.IntKind.i64 (Int.ofNat 0), AV.int Go.IntKind.i64 (Int.ofNat 0), AV.int Go.IntKind.i64 (Int.ofNat 0), AV.int Go.IntKind.i64 (Int.ofNat (bl v n x))] 30 true [])) T.leaf)) Option.none (T.node T.leaf (Option.some (Blk.row [AV.str n v, AV.int Go.IntKind.i64 (Int.ofNat (bl v n x)), AV.map 1, AV.int Go.IntKind.i64 (Int.ofNat (nxC n v x))] 48 true [])) T.leaf)) (Option.some (Blk.row ASCII e false [])) (T.node T.leaf (Option.some (Blk.map KEYS)) (T.node T.leaf (Option.some (Blk.row cells 30 true [])) T.leaf))) (Nat.succ 4)) []) (bcase (Nat.ble (Nat.add k 1) k) (bcase (Nat.ble (Nat.add (Nat.add 0 (Nat.mul k 6)) (llen [AV.int Go.IntKind.i64 (Int.ofNat 0), AV.str 0 0, AV.int Go.IntKind.i64 (Int.ofNat 0), AV.int Go.IntKind.i64 (Int.ofNat 0), AV.int Go.IntKind.i64 (Int.ofNat 0), AV.int Go.IntKind.i64 (Int.ofNat (bl v n x))])) (llen cells)) (K XE.nrm (T.node (T.node (T.node (T.node T.leaf Option.none (T.node T.leaf (Option.some (AV.ptr 4 0)) (T.node T.leaf (Option.some (AV.bool false)) T.leaf))) Option.none T.leaf) Option.none (T.node (T.node T.leaf Option.none (T.node (T.node T.leaf Option.none (T.node T.leaf (Option.some (AV.bool false)) T.leaf)) Option.none T.leaf)) Option.none (T.node T.leaf (Option.some (AV.fn (Go.Fn.func 19) [AV.ptr 2 0] [])) T.leaf))) Option.none (T.node (T.node (T.node (T.node (T.node T.leaf Option.none (T.node T.leaf (Option.some (AV.bool false)) T.leaf)) Option.none T.leaf) Option.none T.leaf) Option.none (T.node T.leaf (Option.some (AV.ptr 2 0)) T.leaf)) Option.none (T.node T.leaf Option.none (T.node T.leaf (Option.some (AV.slc 3 0 (Nat.add k 1) k false 6)) T.leaf)))) (H.mk (T.node (T.node (T.node T.leaf Option.none (T.node T.leaf (Option.some (Blk.row [AV.int Go.IntKind.i64 (Int.ofNat 0), AV.str 0 0, AV.int Go.IntKind.i64 (Int.ofNat 0), AV.int Go.IntKind.i64 (Int.ofNat 0), AV.int Go.IntKind.i64 (Int.ofNat 0), AV.int Go.IntKind.i64 (Int.ofNat (bl v n x))] 30 true [])) T.leaf)) Option.none (T.node T.leaf (Option.some (Blk.row [AV.str n v, AV.int Go.IntKind.i64 (Int.ofNat (bl v n x)), AV.map 1, AV.int Go.IntKind.i64 (Int.ofNat (nxC n v x))] 48 true [])) T.leaf)) (Option.some (Blk.row ASCII e false [])) (T.node (T.node T.leaf Option.none (T.node T.leaf (Option.some (Blk.row [AV.int Go.IntKind.i64 (Int.ofNat 0), AV.str 0 0, AV.int Go.IntKind.i64 (Int.ofNat 0), AV.int Go.IntKind.i64 (Int.ofNat 0), AV.int Go.IntKind.i64 (Int.ofNat 0), AV.int Go.IntKind.i64 (Int.ofNat (bl v n x))] 30 true [])) T.leaf)) (Option.some (Blk.map KEYS)) (T.node T.leaf (Option.some (Blk.row (lapp (ltake cells (Nat.add 0 (Nat.mul k 6))) (AV.int Go.IntKind.i64 (Int.ofNat 0) :: AV.str 0 0 :: AV.int Go.IntKind.i64 (Int.ofNat 0) :: AV.int Go.IntKind.i64 (Int.ofNat 0) :: AV.int Go.IntKind.i64 (Int.ofNat 0) :: AV.int Go.IntKind.i64 (Int.ofNat (bl v n x)) :: ldrop cells (Nat.add (Nat.add 0 (Nat.mul k 6)) (llen [AV.int Go.IntKind.i64 (Int.ofNat 0), AV.str 0 0, AV.int Go.IntKind.i64 (Int.ofNat 0), AV.int Go.IntKind.i64 (Int.ofNat 0), AV.int Go.IntKind.i64 (Int.ofNat 0), AV.int Go.IntKind.i64 (Int.ofNat (bl v n x))])))) 30 true [])) T.leaf))) (Nat.succ (Nat.succ 4))) []) False) (bcase (true && (Nat.beq (llen (ltake (ldrop cells 0) (Nat.mul k 6))) (Nat.mul k 6) && (Nat.ble (Nat.add k 1) 9223372036854775807 && Nat.ble (Nat.mul (Nat.add k 1) 56) 140737488355328))) (bcase (Nat.ble (llen cells) (Nat.mul k 6)) (K XE.nrm (T.node (T.node (T.node (T.node T.leaf Option.none (T.node T.leaf (Option.some (AV.ptr 4 0)) (T.node T.leaf (Option.some (AV.bool false)) T.leaf))) Option.none T.leaf) Option.none (T.node (T.node T.leaf Option.none (T.node (T.node T.leaf Option.none (T.node T.leaf (Option.some (AV.bool false)) T.leaf)) Option.none T.leaf)) Option.none (T.node T.leaf (Option.some (AV.fn (Go.Fn.func 19) [AV.ptr 2 0] [])) T.leaf))) Option.none (T.node (T.node (T.node (T.node (T.node T.leaf Option.none (T.node T.leaf (Option.some (AV.bool false)) T.leaf)) Option.none T.leaf) Option.none T.leaf) Option.none (T.node T.leaf (Option.some (AV.ptr 2 0)) T.leaf)) Option.none (T.node T.leaf Option.none (T.node T.leaf (Option.some (AV.slc (Nat.succ (Nat.succ 4)) 0 (Nat.add k 1) (Nat.add k 1) false 6)) T.leaf)))) (H.mk (T.node (T.node (T.node T.leaf Option.none (T.node T.leaf (Option.some (Blk.row [AV.int Go.IntKind.i64 (Int.ofNat 0), AV.str 0 0, AV.int Go.IntKind.i64 (Int.ofNat 0), AV.int Go.IntKind.i64 (Int.ofNat 0), AV.int Go.IntKind.i64 (Int.ofNat 0), AV.int Go.IntKind.i64 (Int.ofNat (bl v n x))] 30 true [])) T.leaf)) Option.none (T.node T.leaf (Option.some (Blk.row [AV.str n v, AV.int Go.IntKind.i64 (Int.ofNat (bl v n x)), AV.map 1, AV.int Go.IntKind.i64 (Int.ofNat (nxC n v x))] 48 true [])) (T.node T.leaf (Option.some (Blk.row (lapp (ltake (ldrop cells 0) (Nat.mul k 6)) [AV.int Go.IntKind.i64 (Int.ofNat 0), AV.str 0 0, AV.int Go.IntKind.i64 (Int.ofNat 0), AV.int Go.IntKind.i64 (Int.ofNat 0), AV.int Go.IntKind.i64 (Int.ofNat 0), AV.int Go.IntKind.i64 (Int.ofNat (bl v n x))]) 30 true [3])) T.leaf))) (Option.some (Blk.row ASCII e false [])) (T.node (T.node T.leaf Option.none (T.node T.leaf (Option.some (Blk.row [AV.int Go.IntKind.i64 (Int.ofNat 0), AV.str 0 0, AV.int Go.IntKind.i64 (Int.ofNat 0), AV.int Go.IntKind.i64 (Int.ofNat 0), AV.int Go.IntKind.i64 (Int.ofNat 0), AV.int Go.IntKind.i64 (Int.ofNat (bl v n x))] 30 true [])) T.leaf)) (Option.some (Blk.map KEYS)) (T.node T.leaf (Option.some (Blk.row cells 30 true [Nat.succ (Nat.succ 4)])) T.leaf))) (Nat.succ (Nat.succ (Nat.succ 4)))) []) (K XE.nrm (T.node (T.node (T.node (T.node T.leaf Option.none (T.node T.leaf (Option.some (AV.ptr 4 0)) (T.node T.leaf (Option.some (AV.bool false)) T.leaf))) Option.none T.leaf) Option.none (T.node (T.node T.leaf Option.none (T.node (T.node T.leaf Option.none (T.node T.leaf (Option.some (AV.bool false)) T.leaf)) Option.none T.leaf)) Option.none (T.node T.leaf (Option.some (AV.fn (Go.Fn.func 19) [AV.ptr 2 0] [])) T.leaf))) Option.none (T.node (T.node (T.node (T.node (T.node T.leaf Option.none (T.node T.leaf (Option.some (AV.bool false)) T.leaf)) Option.none T.leaf) Option.none T.leaf) Option.none (T.node T.leaf (Option.some (AV.ptr 2 0)) T.leaf)) Option.none (T.node T.leaf Option.none (T.node T.leaf (Option.some (AV.slc (Nat.succ (Nat.succ 4)) 0 (Nat.add k 1) (Nat.add k 1) false 6)) T.leaf)))) (H.mk (T.node (T.node (T.node T.leaf Option.none (T.node T.leaf (Option.some (Blk.row [AV.int Go.IntKind.i64 (Int.ofNat 0), AV.str 0 0, AV.int Go.IntKind.i64 (Int.ofNat 0), AV.int Go.IntKind.i64 (Int.ofNat 0), AV.int Go.IntKind.i64 (Int.ofNat 0), AV.int Go.IntKind.i64 (Int.ofNat (bl v n x))] 30 true [])) T.leaf)) Option.none (T.node T.leaf (Option.some (Blk.row [AV.str n v, AV.int Go.IntKind.i64 (Int.ofNat (bl v n x)), AV.map 1, AV.int Go.IntKind.i64 (Int.ofNat (nxC n v x))] 48 true [])) (T.node T.leaf (Option.some (Blk.row (lapp (ltake (ldrop cells 0) (Nat.mul k 6)) [AV.int Go.IntKind.i64 (Int.ofNat 0), AV.str 0 0, AV.int Go.IntKind.i64 (Int.ofNat 0), AV.int Go.IntKind.i64 (Int.ofNat 0), AV.int Go.IntKind.i64 (Int.ofNat 0), AV.int Go.IntKind.i64 (Int.ofNat (bl v n x))]) 30 true [3])) T.leaf))) (Option.some (Blk.row ASCII e false [])) (T.node (T.node T.leaf Option.none (T.node T.leaf (Option.some (Blk.row [AV.int Go.IntKind.i64 (Int.ofNat 0), AV.str 0 0, AV.int Go.IntKind.i64 (Int.ofNat 0), AV.int Go.IntKind.i64 (Int.ofNat 0), AV.int Go.IntKind.i64 (Int.ofNat 0), AV.int Go.IntKind.i64 (Int.ofNat (bl v n x))] 30 true [])) T.leaf)) (Option.some (Blk.map KEYS)) (T.node T.leaf Option.none T.leaf))) (Nat.succ (Nat.succ (Nat.succ 4)))) [])) False))) (K XE.ret (T.node (T.node (T.node (T.node T.leaf Option.none (T.node T.leaf (Option.some (AV.ptr 4 0)) (T.node T.leaf (Option.some (AV.bool true)) T.leaf))) Option.none (T.node T.leaf (Option.some (AV.int Go.IntKind.i64 (Int.ofNat (nxC n v x)))) T.leaf)) Option.none (T.node T.leaf (Option.some AV.nils) (T.node T.leaf (Option.some (AV.fn (Go.Fn.func 19) [AV.ptr 2 0] [])) T.leaf))) Option.none (T.node (T.node T.leaf Option.none (T.node T.leaf (Option.some (AV.ptr 2 0)) T.leaf)) Option.none (T.node T.leaf (Option.some (AV.int Go.IntKind.i64 (Int.ofNat (bl v n x)))) (T.node T.leaf (Option.some (AV.slc 3 0 k k false 6)) T.leaf)))) (H.mk (T.node (T.node (T.node T.leaf Option.none (T.node T.leaf (Option.some (Blk.row [AV.int Go.IntKind.i64 (Int.ofNat 0), AV.str 0 0, AV.int Go.IntKind.i64 (Int.ofNat 0), AV.int Go.IntKind.i64 (Int.ofNat 0), AV.int Go.IntKind.i64 (Int.ofNat 0), AV.int Go.IntKind.i64 (Int.ofNat (bl v n x))] 30 true [])) T.leaf)) Option.none (T.node T.leaf (Option.some (Blk.row [AV.str n v, AV.int Go.IntKind.i64 (Int.ofNat (bl v n x)), AV.map 1, AV.int Go.IntKind.i64 (Int.ofNat (nxC n v x))] 48 true [])) T.leaf)) (Option.some (Blk.row ASCII e false [])) (T.node T.leaf (Option.some (Blk.map KEYS)) (T.node T.leaf (Option.some (Blk.row cells 30 true [])) T.leaf))) (Nat.succ 4)) [])) (bcase (eqI (Int.ofNat k) (Int.ofNat 20000)) (K XE.ret (T.node (T.node (T.node (T.node T.leaf Option.none (T.node T.leaf (Option.some (AV.ptr 4 0)) (T.node T.leaf (Option.some (AV.bool false)) T.leaf))) Option.none (T.node T.leaf (Option.some (AV.int Go.IntKind.i64 (Int.ofNat 2))) T.leaf)) Option.none (T.node T.leaf (Option.some AV.nils) (T.node T.leaf (Option.some (AV.fn (Go.Fn.func 19) [AV.ptr 2 0] [])) T.leaf))) Option.none (T.node (T.node (T.node (T.node (T.node T.leaf Option.none (T.node T.leaf (Option.some (AV.bool true)) T.leaf)) Option.none T.leaf) Option.none T.leaf) Option.none (T.node T.leaf (Option.some (AV.ptr 2 0)) T.leaf)) Option.none (T.node T.leaf (Option.some (AV.int Go.IntKind.i64 (Int.ofNat (bl v n x)))) (T.node T.leaf (Option.some (AV.slc 3 0 k k false 6)) T.leaf)))) (H.mk (T.node (T.node (T.node T.leaf Option.none (T.node T.leaf (Option.some (Blk.row [AV.int Go.IntKind.i64 (Int.ofNat (nxK n v x)), AV.str (nxL n v x) (subV v (bl v n x) (bl v n x + nxL n v x)), AV.int Go.IntKind.i64 (nxN n v x), AV.int Go.IntKind.i64 (Int.ofNat (nxT n v x)), AV.int Go.IntKind.i64 (Int.ofNat 0), AV.int Go.IntKind.i64 (Int.ofNat (bl v n x))] 30 true [])) T.leaf)) Option.none (T.node T.leaf (Option.some (Blk.row [AV.str n v, AV.int Go.IntKind.i64 (Int.ofNat (bl v n x + nxL n v x)), AV.map 1, AV.int Go.IntKind.i64 (Int.ofNat 0)] 48 true [])) T.leaf)) (Option.some (Blk.row ASCII e false [])) (T.node T.leaf (Option.some (Blk.map KEYS)) (T.node T.leaf (Option.some (Blk.row cells 30 true [])) T.leaf))) (Nat.succ 4)) []) (bcase (Nat.ble (Nat.add k 1) k) (bcase (Nat.ble (Nat.add (Nat.add 0 (Nat.mul k 6)) (llen [AV.int Go.IntKind.i64 (Int.ofNat (nxK n v x)), AV.str (nxL n v x) (subV v (bl v n x) (bl v n x + nxL n v x)), AV.int Go.IntKind.i64 (nxN n v x), AV.int Go.IntKind.i64 (Int.ofNat (nxT n v x)), AV.int Go.IntKind.i64 (Int.ofNat 0), AV.int Go.IntKind.i64 (Int.ofNat (bl v n x))])) (llen cells)) (bcase (eqI (Int.ofNat (nxK n v x)) (Int.ofNat 5)) (K XE.ret (T.node (T.node (T.node (T.node T.leaf Option.none (T.node T.leaf (Option.some (AV.ptr 4 0)) (T.node T.leaf (Option.some (AV.bool false)) T.leaf))) Option.none (T.node T.leaf (Option.some (AV.int Go.IntKind.i64 (Int.ofNat 0))) T.leaf)) Option.none (T.node (T.node T.leaf Option.none (T.node (T.node T.leaf Option.none (T.node T.leaf (Option.some (AV.bool true)) T.leaf)) Option.none T.leaf)) (Option.some (AV.slc 3 0 (Nat.add k 1) k false 6)) (T.node T.leaf (Option.some (AV.fn (Go.Fn.func 19) [AV.ptr 2 0] [])) T.leaf))) Option.none (T.node (T.node (T.node (T.node (T.node T.leaf Option.none (T.node T.leaf (Option.some (AV.bool false)) T.leaf)) Option.none T.leaf) Option.none T.leaf) Option.none (T.node T.leaf (Option.some (AV.ptr 2 0)) T.leaf)) Option.none (T.node T.leaf (Option.some (AV.int Go.IntKind.i64 (Int.ofNat 0))) (T.node T.leaf (Option.some (AV.slc 3 0 (Nat.add k 1) k false 6)) T.leaf)))) (H.mk (T.node (T.node (T.node T.leaf Option.none (T.node T.leaf (Option.some (Blk.row [AV.int Go.IntKind.i64 (Int.ofNat (nxK n v x)), AV.str (nxL n v x) (subV v (bl v n x) (bl v n x + nxL n v x)), AV.int Go.IntKind.i64 (nxN n v x), AV.int Go.IntKind.i64 (Int.ofNat (nxT n v x)), AV.int Go.IntKind.i64 (Int.ofNat 0), AV.int Go.IntKind.i64 (Int.ofNat (bl v n x))] 30 true [])) T.leaf)) Option.none (T.node T.leaf (Option.some (Blk.row [AV.str n v, AV.int Go.IntKind.i64 (Int.ofNat (bl v n x + nxL n v x)), AV.map 1, AV.int Go.IntKind.i64 (Int.ofNat 0)] 48 true [])) T.leaf)) (Option.some (Blk.row ASCII e false [])) (T.node (T.node T.leaf Option.none (T.node T.leaf (Option.some (Blk.row [AV.int Go.IntKind.i64 (Int.ofNat (nxK n v x)), AV.str (nxL n v x) (subV v (bl v n x) (bl v n x + nxL n v x)), AV.int Go.IntKind.i64 (nxN n v x), AV.int Go.IntKind.i64 (Int.ofNat (nxT n v x)), AV.int Go.IntKind.i64 (Int.ofNat 0), AV.int Go.IntKind.i64 (Int.ofNat (bl v n x))] 30 true [])) T.leaf)) (Option.some (Blk.map KEYS)) (T.node T.leaf (Option.some (Blk.row (lapp (ltake cells (Nat.add 0 (Nat.mul k 6))) (AV.int Go.IntKind.i64 (Int.ofNat (nxK n v x)) :: AV.str (nxL n v x) (subV v (bl v n x) (bl v n x + nxL n v x)) :: AV.int Go.IntKind.i64 (nxN n v x) :: AV.int Go.IntKind.i64 (Int.ofNat (nxT n v x)) :: AV.int Go.IntKind.i64 (Int.ofNat 0) :: AV.int Go.IntKind.i64 (Int.ofNat (bl v n x)) :: ldrop cells (Nat.add (Nat.add 0 (Nat.mul k 6)) (llen [AV.int Go.IntKind.i64 (Int.ofNat (nxK n v x)), AV.str (nxL n v x) (subV v (bl v n x) (bl v n x + nxL n v x)), AV.int Go.IntKind.i64 (nxN n v x), AV.int Go.IntKind.i64 (Int.ofNat (nxT n v x)), AV.int Go.IntKind.i64 (Int.ofNat 0), AV.int Go.IntKind.i64 (Int.ofNat (bl v n x))])))) 30 true [])) T.leaf))) (Nat.succ (Nat.succ 4))) []) (K XE.nrm (T.node (T.node (T.node (T.node T.leaf Option.none (T.node T.leaf (Option.some (AV.ptr 4 0)) (T.node T.leaf (Option.some (AV.bool false)) T.leaf))) Option.none T.leaf) Option.none (T.node (T.node T.leaf Option.none (T.node (T.node T.leaf Option.none (T.node T.leaf (Option.some (AV.bool false)) T.leaf)) Option.none T.leaf)) Option.none (T.node T.leaf (Option.some (AV.fn (Go.Fn.func 19) [AV.ptr 2 0] [])) T.leaf))) Option.none (T.node (T.node (T.node (T.node (T.node T.leaf Option.none (T.node T.leaf (Option.some (AV.bool false)) T.leaf)) Option.none T.leaf) Option.none T.leaf) Option.none (T.node T.leaf (Option.some (AV.ptr 2 0)) T.leaf)) Option.none (T.node T.leaf Option.none (T.node T.leaf (Option.some (AV.slc 3 0 (Nat.add k 1) k false 6)) T.leaf)))) (H.mk (T.node (T.node (T.node T.leaf Option.none (T.node T.leaf (Option.some (Blk.row [AV.int Go.IntKind.i64 (Int.ofNat (nxK n v x)), AV.str (nxL n v x) (subV v (bl v n x) (bl v n x + nxL n v x)), AV.int Go.IntKind.i64 (nxN n v x), AV.int Go.IntKind.i64 (Int.ofNat (nxT n v x)), AV.int Go.IntKind.i64 (Int.ofNat 0), AV.int Go.IntKind.i64 (Int.ofNat (bl v n x))] 30 true [])) T.leaf)) Option.none (T.node T.leaf (Option.some (Blk.row [AV.str n v, AV.int Go.IntKind.i64 (Int.ofNat (bl v n x + nxL n v x)), AV.map 1, AV.int Go.IntKind.i64 (Int.ofNat 0)] 48 true [])) T.leaf)) (Option.some (Blk.row ASCII e false [])) (T.node (T.node T.leaf Option.none (T.node T.leaf (Option.some (Blk.row [AV.int Go.IntKind.i64 (Int.ofNat (nxK n v x)), AV.str (nxL n v x) (subV v (bl v n x) (bl v n x + nxL n v x)), AV.int Go.IntKind.i64 (nxN n v x), AV.int Go.IntKind.i64 (Int.ofNat (nxT n v x)), AV.int Go.IntKind.i64 (Int.ofNat 0), AV.int Go.IntKind.i64 (Int.ofNat (bl v n x))] 30 true [])) T.leaf)) (Option.some (Blk.map KEYS)) (T.node T.leaf (Option.some (Blk.row (lapp (ltake cells (Nat.add 0 (Nat.mul k 6))) (AV.int Go.IntKind.i64 (Int.ofNat (nxK n v x)) :: AV.str (nxL n v x) (subV v (bl v n x) (bl v n x + nxL n v x)) :: AV.int Go.IntKind.i64 (nxN n v x) :: AV.int Go.IntKind.i64 (Int.ofNat (nxT n v x)) :: AV.int Go.IntKind.i64 (Int.ofNat 0) :: AV.int Go.IntKind.i64 (Int.ofNat (bl v n x)) :: ldrop cells (Nat.add (Nat.add 0 (Nat.mul k 6)) (llen [AV.int Go.IntKind.i64 (Int.ofNat (nxK n v x)), AV.str (nxL n v x) (subV v (bl v n x) (bl v n x + nxL n v x)), AV.int Go.IntKind.i64 (nxN n v x), AV.int Go.IntKind.i64 (Int.ofNat (nxT n v x)), AV.int Go.IntKind.i64 (Int.ofNat 0), AV.int Go.IntKind.i64 (Int.ofNat (bl v n x))])))) 30 true [])) T.leaf))) (Nat.succ (Nat.succ 4))) [])) False) (bcase (true && (Nat.beq (llen (ltake (ldrop cells 0) (Nat.mul k 6))) (Nat.mul k 6) && (Nat.ble (Nat.add k 1) 9223372036854775807 && Nat.ble (Nat.mul (Nat.add k 1) 56) 140737488355328))) (bcase (Nat.ble (llen cells) (Nat.mul k 6)) (bcase (eqI (Int.ofNat (nxK n v x)) (Int.ofNat 5)) (K XE.ret (T.node (T.node (T.node (T.node T.leaf Option.none (T.node T.leaf (Option.some (AV.ptr 4 0)) (T.node T.leaf (Option.some (AV.bool false)) T.leaf))) Option.none (T.node T.leaf (Option.some (AV.int Go.IntKind.i64 (Int.ofNat 0))) T.leaf)) Option.none (T.node (T.node T.leaf Option.none (T.node (T.node T.leaf Option.none (T.node T.leaf (Option.some (AV.bool true)) T.leaf)) Option.none T.leaf)) (Option.some (AV.slc (Nat.succ (Nat.succ 4)) 0 (Nat.add k 1) (Nat.add k 1) false 6)) (T.node T.leaf (Option.some (AV.fn (Go.Fn.func 19) [AV.ptr 2 0] [])) T.leaf))) Option.none (T.node (T.node (T.node (T.node (T.node T.leaf Option.none (T.node T.leaf (Option.some (AV.bool false)) T.leaf)) Option.none T.leaf) Option.none T.leaf) Option.none (T.node T.leaf (Option.some (AV.ptr 2 0)) T.leaf)) Option.none (T.node T.leaf (Option.some (AV.int Go.IntKind.i64 (Int.ofNat 0))) (T.node T.leaf (Option.some (AV.slc (Nat.succ (Nat.succ 4)) 0 (Nat.add k 1) (Nat.add k 1) false 6)) T.leaf)))) (H.mk (T.node (T.node (T.node T.leaf Option.none (T.node T.leaf (Option.some (Blk.row [AV.int Go.IntKind.i64 (Int.ofNat (nxK n v x)), AV.str (nxL n v x) (subV v (bl v n x) (bl v n x + nxL n v x)), AV.int Go.IntKind.i64 (nxN n v x), AV.int Go.IntKind.i64 (Int.ofNat (nxT n v x)), AV.int Go.IntKind.i64 (Int.ofNat 0), AV.int Go.IntKind.i64 (Int.ofNat (bl v n x))] 30 true [])) T.leaf)) Option.none (T.node T.leaf (Option.some (Blk.row [AV.str n v, AV.int Go.IntKind.i64 (Int.ofNat (bl v n x + nxL n v x)), AV.map 1, AV.int Go.IntKind.i64 (Int.ofNat 0)] 48 true [])) (T.node T.leaf (Option.some (Blk.row (lapp (ltake (ldrop cells 0) (Nat.mul k 6)) [AV.int Go.IntKind.i64 (Int.ofNat (nxK n v x)), AV.str (nxL n v x) (subV v (bl v n x) (bl v n x + nxL n v x)), AV.int Go.IntKind.i64 (nxN n v x), AV.int Go.IntKind.i64 (Int.ofNat (nxT n v x)), AV.int Go.IntKind.i64 (Int.ofNat 0), AV.int Go.IntKind.i64 (Int.ofNat (bl v n x))]) 30 true [3])) T.leaf))) (Option.some (Blk.row ASCII e false [])) (T.node (T.node T.leaf Option.none (T.node T.leaf (Option.some (Blk.row [AV.int Go.IntKind.i64 (Int.ofNat (nxK n v x)), AV.str (nxL n v x) (subV v (bl v n x) (bl v n x + nxL n v x)), AV.int Go.IntKind.i64 (nxN n v x), AV.int Go.IntKind.i64 (Int.ofNat (nxT n v x)), AV.int Go.IntKind.i64 (Int.ofNat 0), AV.int Go.IntKind.i64 (Int.ofNat (bl v n x))] 30 true [])) T.leaf)) (Option.some (Blk.map KEYS)) (T.node T.leaf (Option.some (Blk.row cells 30 true [Nat.succ (Nat.succ 4)])) T.leaf))) (Nat.succ (Nat.succ (Nat.succ 4)))) []) (K XE.nrm (T.node (T.node (T.node (T.node T.leaf Option.none (T.node T.leaf (Option.some (AV.ptr 4 0)) (T.node T.leaf (Option.some (AV.bool false)) T.leaf))) Option.none T.leaf) Option.none (T.node (T.node T.leaf Option.none (T.node (T.node T.leaf Option.none (T.node T.leaf (Option.some (AV.bool false)) T.leaf)) Option.none T.leaf)) Option.none (T.node T.leaf (Option.some (AV.fn (Go.Fn.func 19) [AV.ptr 2 0] [])) T.leaf))) Option.none (T.node (T.node (T.node (T.node (T.node T.leaf Option.none (T.node T.leaf (Option.some (AV.bool false)) T.leaf)) Option.none T.leaf) Option.none T.leaf) Option.none (T.node T.leaf (Option.some (AV.ptr 2 0)) T.leaf)) Option.none (T.node T.leaf Option.none (T.node T.leaf (Option.some (AV.slc (Nat.succ (Nat.succ 4)) 0 (Nat.add k 1) (Nat.add k 1) false 6)) T.leaf)))) (H.mk (T.node (T.node (T.node T.leaf Option.none (T.node T.leaf (Option.some (Blk.row [AV.int Go.IntKind.i64 (Int.ofNat (nxK n v x)), AV.str (nxL n v x) (subV v (bl v n x) (bl v n x + nxL n v x)), AV.int Go.IntKind.i64 (nxN n v x), AV.int Go.IntKind.i64 (Int.ofNat (nxT n v x)), AV.int Go.IntKind.i64 (Int.ofNat 0), AV.int Go.IntKind.i64 (Int.ofNat (bl v n x))] 30 true [])) T.leaf)) Option.none (T.node T.leaf (Option.some (Blk.row [AV.str n v, AV.int Go.IntKind.i64 (Int.ofNat (bl v n x + nxL n v x)), AV.map 1, AV.int Go.IntKind.i64 (Int.ofNat 0)] 48 true [])) (T.node T.leaf (Option.some (Blk.row (lapp (ltake (ldrop cells 0) (Nat.mul k 6)) [AV.int Go.IntKind.i64 (Int.ofNat (nxK n v x)), AV.str (nxL n v x) (subV v (bl v n x) (bl v n x + nxL n v x)), AV.int Go.IntKind.i64 (nxN n v x), AV.int Go.IntKind.i64 (Int.ofNat (nxT n v x)), AV.int Go.IntKind.i64 (Int.ofNat 0), AV.int Go.IntKind.i64 (Int.ofNat (bl v n x))]) 30 true [3])) T.leaf))) (Option.some (Blk.row ASCII e false [])) (T.node (T.node T.leaf Option.none (T.node T.leaf (Option.some (Blk.row [AV.int Go.IntKind.i64 (Int.ofNat (nxK n v x)), AV.str (nxL n v x) (subV v (bl v n x) (bl v n x + nxL n v x)), AV.int Go.IntKind.i64 (nxN n v x), AV.int Go.IntKind.i64 (Int.ofNat (nxT n v x)), AV.int Go.IntKind.i64 (Int.ofNat 0), AV.int Go.IntKind.i64 (Int.ofNat (bl v n x))] 30 true [])) T.leaf)) (Option.some (Blk.map KEYS)) (T.node T.leaf (Option.some (Blk.row cells 30 true [Nat.succ (Nat.succ 4)])) T.leaf))) (Nat.succ (Nat.succ (Nat.succ 4)))) [])) (bcase (eqI (Int.ofNat (nxK n v x)) (Int.ofNat 5)) (K XE.ret (T.node (T.node (T.node (T.node T.leaf Option.none (T.node T.leaf (Option.some (AV.ptr 4 0)) (T.node T.leaf (Option.some (AV.bool false)) T.leaf))) Option.none (T.node T.leaf (Option.some (AV.int Go.IntKind.i64 (Int.ofNat 0))) T.leaf)) Option.none (T.node (T.node T.leaf Option.none (T.node (T.node T.leaf Option.none (T.node T.leaf (Option.some (AV.bool true)) T.leaf)) Option.none T.leaf)) (Option.some (AV.slc (Nat.succ (Nat.succ 4)) 0 (Nat.add k 1) (Nat.add k 1) false 6)) (T.node T.leaf (Option.some (AV.fn (Go.Fn.func 19) [AV.ptr 2 0] [])) T.leaf))) Option.none (T.node (T.node (T.node (T.node (T.node T.leaf Option.none (T.node T.leaf (Option.some (AV.bool false)) T.leaf)) Option.none T.leaf) Option.none T.leaf) Option.none (T.node T.leaf (Option.some (AV.ptr 2 0)) T.leaf)) Option.none (T.node T.leaf (Option.some (AV.int Go.IntKind.i64 (Int.ofNat 0))) (T.node T.leaf (Option.some (AV.slc (Nat.succ (Nat.succ 4)) 0 (Nat.add k 1) (Nat.add k 1) false 6)) T.leaf)))) (H.mk (T.node (T.node (T.node T.leaf Option.none (T.node T.leaf (Option.some (Blk.row [AV.int Go.IntKind.i64 (Int.ofNat (nxK n v x)), AV.str (nxL n v x) (subV v (bl v n x) (bl v n x + nxL n v x)), AV.int Go.IntKind.i64 (nxN n v x), AV.int Go.IntKind.i64 (Int.ofNat (nxT n v x)), AV.int Go.IntKind.i64 (Int.ofNat 0), AV.int Go.IntKind.i64 (Int.ofNat (bl v n x))] 30 true [])) T.leaf)) Option.none (T.node T.leaf (Option.some (Blk.row [AV.str n v, AV.int Go.IntKind.i64 (Int.ofNat (bl v n x + nxL n v x)), AV.map 1, AV.int Go.IntKind.i64 (Int.ofNat 0)] 48 true [])) (T.node T.leaf (Option.some (Blk.row (lapp (ltake (ldrop cells 0) (Nat.mul k 6)) [AV.int Go.IntKind.i64 (Int.ofNat (nxK n v x)), AV.str (nxL n v x) (subV v (bl v n x) (bl v n x + nxL n v x)), AV.int Go.IntKind.i64 (nxN n v x), AV.int Go.IntKind.i64 (Int.ofNat (nxT n v x)), AV.int Go.IntKind.i64 (Int.ofNat 0), AV.int Go.IntKind.i64 (Int.ofNat (bl v n x))]) 30 true [3])) T.leaf))) (Option.some (Blk.row ASCII e false [])) (T.node (T.node T.leaf Option.none (T.node T.leaf (Option.some (Blk.row [AV.int Go.IntKind.i64 (Int.ofNat (nxK n v x)), AV.str (nxL n v x) (subV v (bl v n x) (bl v n x + nxL n v x)), AV.int Go.IntKind.i64 (nxN n v x), AV.int Go.IntKind.i64 (Int.ofNat (nxT n v x)), AV.int Go.IntKind.i64 (Int.ofNat 0), AV.int Go.IntKind.i64 (Int.ofNat (bl v n x))] 30 true [])) T.leaf)) (Option.some (Blk.map KEYS)) (T.node T.leaf Option.none T.leaf))) (Nat.succ (Nat.succ (Nat.succ 4)))) []) (K XE.nrm (T.node (T.node (T.node (T.node T.leaf Option.none (T.node T.leaf (Option.some (AV.ptr 4 0)) (T.node T.leaf (Option.some (AV.bool false)) T.leaf))) Option.none T.leaf) Option.none (T.node (T.node T.leaf Option.none (T.node (T.node T.leaf Option.none (T.node T.leaf (Option.some (AV.bool false)) T.leaf)) Option.none T.leaf)) Option.none (T.node T.leaf (Option.some (AV.fn (Go.Fn.func 19) [AV.ptr 2 0] [])) T.leaf))) Option.none (T.node (T.node (T.node (T.node (T.node T.leaf Option.none (T.node T.leaf (Option.some (AV.bool false)) T.leaf)) Option.none T.leaf) Option.none T.leaf) Option.none (T.node T.leaf (Option.some (AV.ptr 2 0)) T.leaf)) Option.none (T.node T.leaf Option.none (T.node T.leaf (Option.some (AV.slc (Nat.succ (Nat.succ 4)) 0 (Nat.add k 1) (Nat.add k 1) false 6)) T.leaf)))) (H.mk (T.node (T.node (T.node T.leaf Option.none (T.node T.leaf (Option.some (Blk.row [AV.int Go.IntKind.i64 (Int.ofNat (nxK n v x)), AV.str (nxL n v x) (subV v (bl v n x) (bl v n x + nxL n v x)), AV.int Go.IntKind.i64 (nxN n v x), AV.int Go.IntKind.i64 (Int.ofNat (nxT n v x)), AV.int Go.IntKind.i64 (Int.ofNat 0), AV.int Go.IntKind.i64 (Int.ofNat (bl v n x))] 30 true [])) T.leaf)) Option.none (T.node T.leaf (Option.some (Blk.row [AV.str n v, AV.int Go.IntKind.i64 (Int.ofNat (bl v n x + nxL n v x)), AV.map 1, AV.int Go.IntKind.i64 (Int.ofNat 0)] 48 true [])) (T.node T.leaf (Option.some (Blk.row (lapp (ltake (ldrop cells 0) (Nat.mul k 6)) [AV.int Go.IntKind.i64 (Int.ofNat (nxK n v x)), AV.str (nxL n v x) (subV v (bl v n x) (bl v n x + nxL n v x)), AV.int Go.IntKind.i64 (nxN n v x), AV.int Go.IntKind.i64 (Int.ofNat (nxT n v x)), AV.int Go.IntKind.i64 (Int.ofNat 0), AV.int Go.IntKind.i64 (Int.ofNat (bl v n x))]) 30 true [3])) T.leaf))) (Option.some (Blk.row ASCII e false [])) (T.node (T.node T.leaf Option.none (T.node T.leaf (Option.some (Blk.row [AV.int Go.IntKind.i64 (Int.ofNat (nxK n v x)), AV.str (nxL n v x) (subV v (bl v n x) (bl v n x + nxL n v x)), AV.int Go.IntKind.i64 (nxN n v x), AV.int Go.IntKind.i64 (Int.ofNat (nxT n v x)), AV.int Go.IntKind.i64 (Int.ofNat 0), AV.int Go.IntKind.i64 (Int.ofNat (bl v n x))] 30 true [])) T.leaf)) (Option.some (Blk.map KEYS)) (T.node T.leaf Option.none T.leaf))) (Nat.succ (Nat.succ (Nat.succ 4)))) []))) False)))) False) := by kernel_rfl
theorem tokens_res (n v e : Nat) (K : KV) : xfun C13 Tryd.prog (xcode C13 Tryd.prog F) 10 [.str n v] (hA e) [] K = (bcase (ltI (Int.ofNat 65536) (Int.ofNat n)) (K (AV.tup [AV.nils, AV.int Go.IntKind.i64 (Int.ofNat 0), AV.int Go.IntKind.i64 (Int.ofNat 2)]) (H.mk (T.node T.leaf (Option.some (Blk.row ASCII e false [])) T.leaf) 1) []) (∃ s, Nat.le (ST.n s) 65536 ∧ ((True ∧ True ∧ Option.some (AV.fn (Go.Fn.func 19) [AV.ptr (Nat.succ 1) 0] []) = Option.some (AV.fn (Go.Fn.func 19) [AV.ptr 2 0] []) ∧ True ∧ True) ∧ (True ∧ Option.some (AV.ptr (Nat.succ 1) 0) = Option.some (AV.ptr 2 0) ∧ True ∧ True) ∧ True ∧ Option.some AV.nils = Option.some AV.nils ∧ True ∧ True) ∧ 3 = Nat.succ (Nat.succ 1) ∧ (Option.some (Blk.row ASCII e false []) = Option.some (Blk.row ASCII s.3 false []) ∧ (True ∧ Option.some (Blk.row [AV.str n v, AV.int Go.IntKind.i64 (Int.ofNat 0), AV.map 1, AV.int Go.IntKind.i64 (Int.ofNat 0)] 48 true []) = Option.some (Blk.row [AV.str s.1 s.2, AV.int Go.IntKind.i64 (Int.ofNat 0), AV.map 1, AV.int Go.IntKind.i64 (Int.ofNat 0)] 48 true []) ∧ True ∧ True) ∧ Option.some (Blk.map KEYS) = Option.some (Blk.map KEYS) ∧ True ∧ True) ∧ bcase (toks (ST.n s) (ST.v s) 0 [] 0).1 (K (AV.tup [AV.slc 3 0 (toks (ST.n s) (ST.v s) 0 [] 0).5 (toks (ST.n s) (ST.v s) 0 [] 0).5 false 6, AV.int Go.IntKind.i64 (Int.ofNat 0), AV.int Go.IntKind.i64 (Int.ofNat 0)]) (H.mk (T.node T.leaf (Option.some (Blk.row ASCII s.3 false [])) (T.node T.leaf Option.none (T.node T.leaf (Option.some (Blk.row (toks (ST.n s) (ST.v s) 0 [] 0).4 30 true [])) T.leaf))) 4) []) (K (AV.tup [AV.nils, AV.int Go.IntKind.i64 (Int.ofNat (toks (ST.n s) (ST.v s) 0 [] 0).2), AV.int Go.IntKind.i64 (Int.ofNat (toks (ST.n s) (ST.v s) 0 [] 0).3)]) (H.mk (T.node T.leaf (Option.some (Blk.row ASCII s.3 false [])) T.leaf) 4) []))) := by kernel_rfl
end
end Go.Proofs.YtoeoaiipchklbaaDoor
/- The program's lexer: what the next token is: plain facts. -/
set_option autoImplicit false
set_option linter.unusedVariables false
set_option maxRecDepth 100000
namespace Go.Proofs.YtoeoaiipchklbaaDoor
noncomputable section
open Go.X
theorem nEnd_gt {n v p : Nat} (h : p < n) (hd : isD (byteAt v p) = true) : p < nEnd n v p := by
  unfold nEnd; rw [scan_yes h hd]
  have := scan_ge isD v (n - (p + 1)) (p + 1); omega
theorem wordN_pos {n v p : Nat} (h : p < n) (hd : isL (byteAt v p) = true) : 1 ≤ wordN n v p := by
  have : isW (byteAt v p) = true := by unfold isW; rw [hd]; rfl
  unfold wordN; rw [scan_yes h this]
  have := scan_ge isW v (n - (p + 1)) (p + 1); omega
theorem word_end {n v p : Nat} (h : p ≤ n) : p + wordN n v p ≤ n := by
  have a1 := scan_le_n (p := isW) (v := v) h
  have a2 := scan_ge isW v (n - p) p
  unfold wordN; omega
theorem nTok_le {n v p : Nat} (h : p ≤ n) : nTok n v p ≤ n := by
  have e1 : nEnd n v p ≤ n := scan_le_n h
  exact word_end e1
theorem nx_cases {n v x : Nat} (hx : x ≤ n) : (nxE n v x = true ∧ nxC n v x ≠ 0) ∨ (nxE n v x = false ∧ nxK n v x = 5 ∧ nxL n v x = 0 ∧ ¬ bl v n x < n) ∨ (nxE n v x = false ∧ nxK n v x ≠ 5 ∧ 1 ≤ nxL n v x ∧ bl v n x + nxL n v x ≤ n) := by
  have hp : bl v n x ≤ n := bl_le v n _ _ hx
  unfold nxE nxC nxK nxL nx
  cases h1 : Nat.ble (Nat.succ (bl v n x)) n with
  | false => exact .inr (.inl ⟨rfl, rfl, rfl, fun h => bleF h1 h⟩)
  | true =>
    have h1 : bl v n x < n := bleT h1
    generalize bl v n x = p at *
    cases h2 : isD (byteAt v p) with
    | true =>
      cases h3 : nBad n v p with
      | true => exact .inl ⟨rfl, (by decide : (11 : Nat) ≠ 0)⟩
      | false =>
        have a1 := nEnd_gt h1 h2
        have a2 := nTok_le (v := v) hp
        have a3 : nEnd n v p ≤ nTok n v p := Nat.le_add_right _ _
        exact .inr (.inr ⟨rfl, by show (2 : Nat) ≠ 5; decide, by show 1 ≤ nTok n v p - p; omega, by show p + (nTok n v p - p) ≤ n; omega⟩)
    | false =>
      cases h3 : isL (byteAt v p) with
      | true =>
        cases h4 : Nat.ble (wordN n v p) 40 with
        | false => exact .inl ⟨rfl, (by decide : (2 : Nat) ≠ 0)⟩
        | true =>
          refine .inr (.inr ⟨rfl, ?_, wordN_pos h1 h3, word_end hp⟩)
          show cond (isKey (wordN n v p) (subV v p (p + wordN n v p))) 3 1 ≠ 5
          cases isKey (wordN n v p) (subV v p (p + wordN n v p)) <;> decide
      | false =>
        cases h4 : Nat.beq (sLen n v p) 0 with
        | true => exact .inl ⟨rfl, (by decide : (10 : Nat) ≠ 0)⟩
        | false =>
          have a1 := sLen_le (v := v) h1
          have a2 : sLen n v p ≠ 0 := fun e => by rw [e] at h4; cases h4
          exact .inr (.inr ⟨rfl, by show (4 : Nat) ≠ 5; decide, by show 1 ≤ sLen n v p; omega, a1⟩)
theorem bl_x {v n x : Nat} : x ≤ bl v n x := bl_ge v n _ _
theorem tokF_fuel (n v : Nat) : ∀ (f g x : Nat) (cells : List AV) (k : Nat), x ≤ n → n + 1 - x ≤ f → n + 1 - x ≤ g → tokF n v f x cells k = tokF n v g x cells k
  | 0, g, x, cells, k, hx, hf, hg => by omega
  | f + 1, 0, x, cells, k, hx, hf, hg => by omega
  | f + 1, g + 1, x, cells, k, hx, hf, hg => by
    rw [tokF, tokF]
    cases h1 : nxE n v x with
    | true => rfl
    | false =>
      cases h2 : Nat.beq k 20000 with
      | true => rfl
      | false =>
        cases h3 : Nat.beq (nxK n v x) 5 with
        | true => rfl
        | false =>
          have hb := bl_x (v := v) (n := n) (x := x)
          rcases nx_cases (v := v) hx with ⟨a, _⟩ | ⟨_, a, _⟩ | ⟨_, a, b, c⟩
          · rw [h1] at a; cases a
          · rw [a] at h3; cases h3
          · exact tokF_fuel n v f g _ _ _ (by unfold nxX; omega) (by unfold nxX; omega) (by unfold nxX; omega)
theorem toks_err {n v x k : Nat} {cells : List AV} (hx : x ≤ n) (h : nxE n v x = true) : toks n v x cells k = ⟨false, bl v n x, nxC n v x, [], 0⟩ := by
  unfold toks
  have : n + 1 - x = (n - x) + 1 := by omega
  rw [this, tokF, h]; rfl
theorem toks_many {n v x k : Nat} {cells : List AV} (hx : x ≤ n) (h : nxE n v x = false) (hk : k = 20000) : toks n v x cells k = ⟨false, bl v n x, 2, [], 0⟩ := by
  unfold toks
  have : n + 1 - x = (n - x) + 1 := by omega
  rw [this, tokF, h, hk]; rfl
theorem toks_end {n v x k : Nat} {cells : List AV} (hx : x ≤ n) (h : nxE n v x = false) (hk : k ≠ 20000) (h5 : nxK n v x = 5) : toks n v x cells k = ⟨true, 0, 0, lapp cells (nxTok n v x), k + 1⟩ := by
  unfold toks
  have : n + 1 - x = (n - x) + 1 := by omega
  have hb : Nat.beq k 20000 = false := by rw [beqD, decide_eq_false_iff_not]; exact hk
  rw [this, tokF, h, hb, h5]; rfl
theorem toks_next {n v x k : Nat} {cells : List AV} (hx : x ≤ n) (h : nxE n v x = false) (hk : k ≠ 20000) (h5 : nxK n v x ≠ 5) : toks n v x cells k = toks n v (nxX n v x) (lapp cells (nxTok n v x)) (k + 1) := by
  unfold toks
  have : n + 1 - x = (n - x) + 1 := by omega
  have hb : Nat.beq k 20000 = false := by rw [beqD, decide_eq_false_iff_not]; exact hk
  have h5' : Nat.beq (nxK n v x) 5 = false := by rw [beqD, decide_eq_false_iff_not]; exact h5
  have hbx := bl_x (v := v) (n := n) (x := x)
  rw [this, tokF, h, hb, h5']
  rcases nx_cases (v := v) hx with ⟨a, _⟩ | ⟨_, a, _⟩ | ⟨_, a, b, c⟩
  · rw [h] at a; cases a
  · exact absurd a h5
  · exact tokF_fuel n v _ _ _ _ _ (by unfold nxX; omega) (by unfold nxX; omega) (by unfold nxX; omega)
theorem renL_pure {σ : Nat → Nat} {l : List AV} (h : belL 0 l = true) : renL σ l = l := by
  rw [renL_bel (N := 0) (ρ := id) (fun i hi => absurd hi (Nat.not_lt_zero _)) l h, renL_id]
theorem belL_app {N : Nat} : ∀ {a b : List AV}, belL N a = true → belL N b = true → belL N (lapp a b) = true
  | [], b, _, hb => hb
  | x :: a, b, ha, hb => by
    obtain ⟨h1, h2⟩ := and_tt (by exact ha : Bool.and (bel N x) (belL N a) = true)
    show Bool.and (bel N x) (belL N (lapp a b)) = true
    rw [h1, belL_app h2 hb]; rfl
end
end Go.Proofs.YtoeoaiipchklbaaDoor
/- The program's lexer: all tokens. -/
set_option autoImplicit false
set_option linter.unusedVariables false
set_option maxRecDepth 1000000
set_option maxHeartbeats 1000000
namespace Go.Proofs.YtoeoaiipchklbaaDoor
noncomputable section
open Go.X
theorem ascii_bel : belL 0 ASCII = true := by kernel_rfl
theorem keys_bel : belE 0 KEYS = true := by kernel_rfl
theorem okA {N i : Nat} {σ : Nat → Nat} {e : TypeId} {o : Option Blk} (ho : o = some (.row ASCII e false [])) : belB N (.row ASCII e false []) = true ∧ blkOK N σ i (.row ASCII e false []) o :=
  ⟨belL_mono (Nat.zero_le _) _ ascii_bel, [], by rw [renL_pure ascii_bel]; exact ho, rfl⟩
theorem okK {N i : Nat} {σ : Nat → Nat} {o : Option Blk} (ho : o = some (.map KEYS)) : belB N (.map KEYS) = true ∧ blkOK N σ i (.map KEYS) o :=
  ⟨belE_mono (M := N) (Nat.zero_le N) KEYS keys_bel, by show o = some (renB σ (.map KEYS)); rw [keys_ren]; exact ho⟩
theorem okR {N i : Nat} {σ : Nat → Nat} {e : TypeId} {w : Bool} {ps ps' : List Nat} {o : Option Blk} {cells : List AV} (hb : belL 0 cells = true) (ho : o = some (.row cells e w ps')) (hp : psOK N σ i ps' ps = true) :
    belB N (.row cells e w ps) = true ∧ blkOK N σ i (.row cells e w ps) o :=
  ⟨belL_mono (Nat.zero_le _) _ hb, ps', by rw [renL_pure hb]; exact ho, hp⟩
theorem tok_bel (n v x : Nat) : belL 0 (nxTok n v x) = true := rfl
theorem tok_len (n v x : Nat) : (nxTok n v x).length = 6 := rfl
theorem lapp_len {α : Type} : ∀ (a b : List α), (lapp a b).length = a.length + b.length
  | [], b => by show b.length = _; simp
  | x :: a, b => by show (x :: lapp a b).length = _; rw [List.length_cons, List.length_cons, lapp_len a b]; omega
theorem lapp_nil {α : Type} (a : List α) : lapp [] a = a := rfl
inductive SS where
  | a (n v e : Nat)
  | b (n v e x k : Nat) (cells : List AV)
def SS.E : SS → Env
  | .a _ _ _ => eT .nils
  | .b _ _ _ _ k _ => eT (.slc 3 0 k k false 6)
def SS.H : SS → H
  | .a n v e => hT0 n v e
  | .b n v e x _ cells => hT1 n v x e cells
def SS.r : SS → Res
  | .a n v _ => toks n v 0 [] 0
  | .b n v _ x k cells => toks n v x cells k
def SS.e : SS → Nat
  | .a _ _ e => e
  | .b _ _ e _ _ _ => e
def SS.ok : SS → Prop
  | .a n _ _ => n ≤ 65536
  | .b n _ _ x k cells => x ≤ n ∧ n ≤ 65536 ∧ 1 ≤ k ∧ k ≤ 20000 ∧ cells.length = k * 6 ∧ belL 0 cells = true
def SS.μ : SS → Nat
  | .a n _ _ => n + 2
  | .b n _ _ x _ _ => n + 1 - x
def finR (r : Res) (e : Nat) : XE × Env × Go.X.H := cond r.ok (.ret, eE (.slc 3 0 r.count r.count false 6) 0 0, hOk e r.cells) (.ret, eE .nils r.at_ r.code, hErr e)
theorem step_a {n v e : Nat} (hn : n ≤ 65536) : Ran (xcode C12 Tryd.prog F 10 (loopC Tryd.prog 10 7) (C12.mask 10) (tmpsN Tryd.prog 10) (SS.a n v e).E (SS.a n v e).H [] (fun x env h ds => match x with
      | .nrm => ∃ s' l, SS.ok s' ∧ s'.μ < (SS.a n v e).μ ∧ finR s'.r s'.e = finR (SS.a n v e).r e ∧ Abs 3 (sg 3 l) s'.E s'.H env h
      | x => ∃ l, (finR (SS.a n v e).r e).1 = x ∧ Abs 3 (sg 3 l) (finR (SS.a n v e).r e).2.1 (finR (SS.a n v e).r e).2.2 env h)) := by
  refine ⟨Eq.mpr (tb0 n v e _) ?_⟩
  have hn2 : Nat.ble n 9223372036854775807 = true := Nat.ble_eq_true_of_le (by omega)
  refine bcase_t (by rw [hn2, Nat.ble_eq_true_of_le (Nat.zero_le n)]; rfl) ?_
  refine bcase_mk (fun q1 => ?_) (fun q1 => ?_)
  · refine bcase_mk (fun q2 => ?_) (fun q2 => ?_)
    · rcases nx_cases (v := v) (Nat.zero_le n) with ⟨_, a⟩ | ⟨a, _⟩ | ⟨a, _⟩
      · exact absurd (eqT q2) a
      · rw [q1] at a; cases a
      · rw [q1] at a; cases a
    · have hf : finR (SS.a n v e).r e = (.ret, eE .nils (bl v n 0) (nxC n v 0), hErr e) := by
        have hr : (SS.a n v e).r = _ := toks_err (k := 0) (cells := []) (Nat.zero_le n) q1
        rw [hr]; rfl
      rw [hf]
      exact ⟨[3], rfl, by (refine abs_mk rfl rfl rfl ?_ ?_ <;> repeat' (first | exact trivial | exact rfl | exact okA rfl | exact okK rfl | exact ⟨_, rfl, rfl⟩ | refine And.intro ?_ ?_))⟩
  · refine bcase_mk (fun q2 => ?_) (fun q2 => ?_)
    · have hf : finR (SS.a n v e).r e = (.ret, eE (.slc 3 0 1 1 false 6) 0 0, hOk e (nxTok n v 0)) := by
        have hr : (SS.a n v e).r = _ := toks_end (k := 0) (cells := []) (Nat.zero_le n) q1 (by decide) (eqT q2)
        rw [hr]; rfl
      rw [hf]
      exact ⟨[5], rfl, by (refine abs_mk rfl rfl rfl ?_ ?_ <;> repeat' (first | exact trivial | exact rfl | exact okA rfl | exact okK rfl | exact (okR (tok_bel n v 0) rfl rfl) | exact ⟨_, rfl, rfl⟩ | refine And.intro ?_ ?_))⟩
    · have hk := eqF q2
      rcases nx_cases (v := v) (Nat.zero_le n) with ⟨a, _⟩ | ⟨_, a, _⟩ | ⟨_, _, a, b⟩
      · rw [q1] at a; cases a
      · exact absurd a hk
      have hx : nxX n v 0 ≤ n := b
      refine ⟨.b n v e (nxX n v 0) 1 (nxTok n v 0), [5], ⟨hx, hn, by decide, by decide, rfl, tok_bel n v 0⟩, ?_, ?_, ?_⟩
      · show n + 1 - nxX n v 0 < n + 2; omega
      · show finR (toks n v (nxX n v 0) (nxTok n v 0) 1) e = finR (toks n v 0 [] 0) e
        rw [toks_next (Nat.zero_le n) q1 (by decide) hk]; rfl
      · (refine abs_mk rfl rfl rfl ?_ ?_ <;> repeat' (first | exact trivial | exact rfl | exact okA rfl | exact okK rfl | exact (okR (tok_bel n v 0) rfl rfl) | exact ⟨_, rfl, rfl⟩ | refine And.intro ?_ ?_))
theorem step_b {n v e x k : Nat} {cells : List AV} (hok : (SS.b n v e x k cells).ok) : Ran (xcode C12 Tryd.prog F 10 (loopC Tryd.prog 10 7) (C12.mask 10) (tmpsN Tryd.prog 10) (SS.b n v e x k cells).E (SS.b n v e x k cells).H [] (fun y env h ds => match y with
      | .nrm => ∃ s' l, SS.ok s' ∧ s'.μ < (SS.b n v e x k cells).μ ∧ finR s'.r s'.e = finR (SS.b n v e x k cells).r e ∧ Abs 3 (sg 3 l) s'.E s'.H env h
      | y => ∃ l, (finR (SS.b n v e x k cells).r e).1 = y ∧ Abs 3 (sg 3 l) (finR (SS.b n v e x k cells).r e).2.1 (finR (SS.b n v e x k cells).r e).2.2 env h)) := by
  obtain ⟨hx, hn, hk1, hk2, hlen, hbel⟩ := hok
  have hx : x ≤ n := hx
  have hn : n ≤ 65536 := hn
  have hk1 : 1 ≤ k := hk1
  have hk2 : k ≤ 20000 := hk2
  have hlen : cells.length = k * 6 := hlen
  have hbel : belL 0 cells = true := hbel
  have hc : ltake (ldrop cells 0) (Nat.mul k 6) = cells := by
    rw [ltake_eq, ldrop_eq, List.drop_zero]
    exact List.take_of_length_le (Nat.le_of_eq hlen)
  have hll : llen cells = Nat.mul k 6 := by rw [llen_eq]; exact hlen
  have hbel2 : belL 0 (lapp cells (nxTok n v x)) = true := belL_app hbel (tok_bel n v x)
  have hlen2 : (lapp cells (nxTok n v x)).length = (k + 1) * 6 := by rw [lapp_len, hlen, tok_len]; omega
  refine ⟨Eq.mpr (tb1 n v x k e cells _) ?_⟩
  have hn2 : Nat.ble n 9223372036854775807 = true := Nat.ble_eq_true_of_le (by omega)
  refine bcase_t (by rw [hn2, Nat.ble_eq_true_of_le hx]; rfl) ?_
  have nogrow : ∀ {p : Prop}, Nat.ble (Nat.add k 1) k = true → p := fun q => absurd (bleT q) (by show ¬ k + 1 ≤ k; omega)
  have room : (true && (Nat.beq (llen (ltake (ldrop cells 0) (Nat.mul k 6))) (Nat.mul k 6) && (Nat.ble (Nat.add k 1) 9223372036854775807 && Nat.ble (Nat.mul (Nat.add k 1) 56) 140737488355328))) = true := by
    have a1 : Nat.beq (llen (ltake (ldrop cells 0) (Nat.mul k 6))) (Nat.mul k 6) = true := by rw [hc, hll, beqD]; simp
    have a2 : Nat.ble (Nat.add k 1) 9223372036854775807 = true := Nat.ble_eq_true_of_le (by show k + 1 ≤ _; omega)
    have a3 : Nat.ble (Nat.mul (Nat.add k 1) 56) 140737488355328 = true := Nat.ble_eq_true_of_le (by show (k + 1) * 56 ≤ _; omega)
    rw [a1, a2, a3]; rfl
  have full : Nat.ble (llen cells) (Nat.mul k 6) = true := by rw [hll]; exact Nat.ble_eq_true_of_le (Nat.le_refl _)
  refine bcase_mk (fun q1 => ?_) (fun q1 => ?_)
  · refine bcase_mk (fun q2 => ?_) (fun q2 => ?_)
    · rcases nx_cases (v := v) hx with ⟨_, a⟩ | ⟨a, _⟩ | ⟨a, _⟩
      · exact absurd (eqT q2) a
      · rw [q1] at a; cases a
      · rw [q1] at a; cases a
    · have hf : finR (SS.b n v e x k cells).r e = (.ret, eE .nils (bl v n x) (nxC n v x), hErr e) := by
        have hr : (SS.b n v e x k cells).r = _ := toks_err hx q1
        rw [hr]; rfl
      rw [hf]
      exact ⟨[3], rfl, by (refine abs_mk rfl rfl rfl ?_ ?_ <;> repeat' (first | exact trivial | exact rfl | exact okA rfl | exact okK rfl | exact ⟨_, rfl, rfl⟩ | refine And.intro ?_ ?_))⟩
  · refine bcase_mk (fun q2 => ?_) (fun q2 => ?_)
    · have hf : finR (SS.b n v e x k cells).r e = (.ret, eE .nils (bl v n x) 2, hErr e) := by
        have hr : (SS.b n v e x k cells).r = _ := toks_many hx q1 (eqT q2)
        rw [hr]; rfl
      rw [hf]
      exact ⟨[3], rfl, by (refine abs_mk rfl rfl rfl ?_ ?_ <;> repeat' (first | exact trivial | exact rfl | exact okA rfl | exact okK rfl | exact ⟨_, rfl, rfl⟩ | refine And.intro ?_ ?_))⟩
    · have hk3 := eqF q2
      refine bcase_mk (fun q => nogrow q) (fun _ => ?_)
      refine bcase_t room (bcase_mk (fun _ => ?_) (fun q => absurd (full.symm.trans q) (by decide)))
      refine bcase_mk (fun q3 => ?_) (fun q3 => ?_)
      · have hf : finR (SS.b n v e x k cells).r e = (.ret, eE (.slc 3 0 (k + 1) (k + 1) false 6) 0 0, hOk e (lapp cells (nxTok n v x))) := by
          have hr : (SS.b n v e x k cells).r = _ := toks_end hx q1 hk3 (eqT q3)
          rw [hr]; rfl
        rw [hf]
        exact ⟨[6], rfl, by (refine abs_mk rfl rfl rfl ?_ ?_ <;> repeat' (first | exact trivial | exact rfl | exact okA rfl | exact okK rfl | exact (okR hbel2 (congrArg (fun c => some (Blk.row (lapp c (nxTok n v x)) 30 true [3])) hc) rfl) | exact ⟨_, rfl, rfl⟩ | refine And.intro ?_ ?_))⟩
      · have hk := eqF q3
        rcases nx_cases (v := v) hx with ⟨a, _⟩ | ⟨_, a, _⟩ | ⟨_, _, a, b⟩
        · rw [q1] at a; cases a
        · exact absurd a hk
        have hx2 : nxX n v x ≤ n := b
        have hx3 : x < nxX n v x := by
          have := bl_x (v := v) (n := n) (x := x)
          unfold nxX; omega
        refine ⟨.b n v e (nxX n v x) (k + 1) (lapp cells (nxTok n v x)), [6], ⟨hx2, hn, by omega, by omega, hlen2, hbel2⟩, ?_, ?_, ?_⟩
        · show n + 1 - nxX n v x < n + 1 - x; omega
        · show finR (toks n v (nxX n v x) (lapp cells (nxTok n v x)) (k + 1)) e = finR (toks n v x cells k) e
          rw [toks_next hx q1 hk3 hk]
        · (refine abs_mk rfl rfl rfl ?_ ?_ <;> repeat' (first | exact trivial | exact rfl | exact okA rfl | exact okK rfl | exact (okR hbel2 (congrArg (fun c => some (Blk.row (lapp c (nxTok n v x)) 30 true [3])) hc) rfl) | exact ⟨_, rfl, rfl⟩ | refine And.intro ?_ ?_))
theorem goodC13 : X.Good C13 Tryd.prog := by
  unfold C13 lT
  rw [lcE2_eq]
  refine goodC12.addI (n0 := 3) (S := SS) (fun s : ST => SS.a s.n s.v s.e) (ok := SS.ok) (E := SS.E) (Hs := SS.H) (μ := SS.μ) (fin := fun s => finR s.r s.e) (fuel := F) (by kernel_rfl) ?_ ?_ ?_
  · rintro ⟨n, v, e⟩ h
    refine ⟨h, rfl, rfl, rfl, rfl, ?_, ?_, ?_⟩
    · show 3 ≤ (cond (toks n v 0 [] 0).ok _ _ : XE × Env × Go.X.H).2.2.next
      cases (toks n v 0 [] 0).ok <;> exact (by decide : 3 ≤ 4)
    · repeat' (first | exact trivial | exact rfl | refine And.intro ?_ ?_)
    · repeat' (first | exact trivial | exact (okA (i := 0) (σ := id) rfl).1 | exact (okK (i := 0) (σ := id) rfl).1 | exact rfl | refine And.intro ?_ ?_)
  · intro s hok
    match s with
    | .a n v e => exact step_a hok
    | .b n v e x k cells => exact step_b hok
  · intro g i hgi
    have hgi : glA g = some i := hgi
    unfold glA at hgi
    cases hb : Nat.beq g 0 with
    | false => rw [hb] at hgi; cases hgi
    | true => rw [hb] at hgi; cases hgi; decide
end
end Go.Proofs.YtoeoaiipchklbaaDoor
/- The program's lexer: lex.Tokens as a contract. -/
set_option autoImplicit false
set_option linter.unusedVariables false
set_option maxRecDepth 1000000
set_option maxHeartbeats 1000000
namespace Go.Proofs.YtoeoaiipchklbaaDoor
noncomputable section
open Go.X
theorem tokF_bel (n v : Nat) : ∀ (f x : Nat) (cells : List AV) (k : Nat), belL 0 cells = true → belL 0 (tokF n v f x cells k).cells = true
  | 0, x, cells, k, h => rfl
  | f + 1, x, cells, k, h => by
    rw [tokF]
    have h2 := belL_app h (tok_bel n v x)
    cases nxE n v x with
    | true => rfl
    | false =>
      cases Nat.beq k 20000 with
      | true => rfl
      | false =>
        cases Nat.beq (nxK n v x) 5 with
        | true => exact h2
        | false => exact tokF_bel n v f _ _ _ h2
theorem toks_bel (n v x k : Nat) (cells : List AV) (h : belL 0 cells = true) : belL 0 (toks n v x cells k).cells = true := tokF_bel _ _ _ _ _ _ h
def tOk (n v : Nat) : Bool := cond (Nat.ble n 65536) (toks n v 0 [] 0).ok false
def tAt (n v : Nat) : Nat := cond (Nat.ble n 65536) (toks n v 0 [] 0).at_ 0
def tCode (n v : Nat) : Nat := cond (Nat.ble n 65536) (toks n v 0 [] 0).code 2
def tCells (n v : Nat) : List AV := (toks n v 0 [] 0).cells
def tCount (n v : Nat) : Nat := (toks n v 0 [] 0).count
def vOk (i n v : Nat) : AV := .tup [.slc i 0 (tCount n v) (tCount n v) false 6, .int .i64 (.ofNat 0), .int .i64 (.ofNat 0)]
def vErr (n v : Nat) : AV := .tup [.nils, .int .i64 (.ofNat (tAt n v)), .int .i64 (.ofNat (tCode n v))]
theorem tokens_run (n v e : Nat) : Ran (xfun C13 Tryd.prog (xcode C13 Tryd.prog F) 10 [.str n v] (hA e) [] (fun u h' _ => h'.b.get 0 = some (.row ASCII e false []) ∧
    ((tOk n v = true ∧ u = vOk 3 n v ∧ h'.b.get 3 = some (.row (tCells n v) 30 true [])) ∨ (tOk n v = false ∧ u = vErr n v)))) := by
  refine ⟨Eq.mpr (tokens_res n v e _) ?_⟩
  refine bcase_mk (fun q => ?_) (fun q => ?_)
  · have q := ltT q
    have hb : Nat.ble n 65536 = false := by rw [bleD, decide_eq_false_iff_not]; omega
    refine ⟨rfl, .inr ⟨by unfold tOk; rw [hb]; rfl, ?_⟩⟩
    unfold vErr tAt tCode; rw [hb]; rfl
  · have q := ltF q
    have hb : Nat.ble n 65536 = true := by rw [bleD, decide_eq_true_iff]; omega
    refine ⟨⟨n, v, e⟩, by show n ≤ 65536; omega, by repeat' (first | exact trivial | exact rfl | refine And.intro ?_ ?_), rfl, by repeat' (first | exact trivial | exact rfl | refine And.intro ?_ ?_), ?_⟩
    refine bcase_mk (fun q => ?_) (fun q => ?_)
    · exact ⟨rfl, .inl ⟨by unfold tOk; rw [hb]; exact q, rfl, rfl⟩⟩
    · refine ⟨rfl, .inr ⟨by unfold tOk; rw [hb]; exact q, ?_⟩⟩
      unfold vErr tAt tCode; rw [hb]; rfl
def fTokens (args : List AV) (h : H) : Option (Bool × Bool × (AV × H) × (AV × H)) := match args with
  | [.str n v] => match h.b.get 0 with
    | some (.row cells e false []) => some (Bool.and (flatEqs cells ASCII) (Nat.ble 1 h.next), tOk n v, (vOk h.next n v, hnew h (.row (tCells n v) 30 true [])), (vErr n v, h))
    | _ => none
  | _ => none
theorem hA_get {e : TypeId} : ∀ {i k}, (hA e).b.get i = some k → i = 0 ∧ k = .row ASCII e false [] := by
  intro i k hi
  have hi : T.get (T.set T.leaf (Blk.row ASCII e false []) 0) i = some k := hi
  rcases T.get_set hi with ⟨rfl, rfl⟩ | ⟨_, hi⟩
  · exact ⟨rfl, rfl⟩
  · exact (leaf_none hi).elim
theorem hA_ren {e : TypeId} (ρ : Nat → Nat) : renB ρ (.row ASCII e false []) = .row ASCII e false [] := by
  show Blk.row (renL ρ ASCII) e false [] = _
  rw [renL_pure ascii_bel]
theorem glA_get {g i : Nat} (h : glA g = some i) : i = 0 ∧ glA g = some 0 := by
  have h2 := h
  unfold glA at h
  cases hb : Nat.beq g 0 with
  | false => rw [hb] at h; cases h
  | true => rw [hb] at h; cases h; exact ⟨rfl, h2⟩
theorem hA_sees {e : TypeId} {h : H} (hg : h.b.get 0 = some (.row ASCII e false [])) (hn : 0 < h.next) : Sees id (hA e) h := by
  refine ⟨?_, ?_, ?_⟩
  · intro i k hi
    obtain ⟨rfl, rfl⟩ := hA_get hi
    exact ⟨Nat.lt_succ_self _, by rw [hA_ren]; exact hg, (okA (i := 0) (σ := id) rfl).1, rfl⟩
  · exact fun i j _ _ e => e
  · intro i hi
    have : i = 0 := by have : i < 1 := hi; omega
    subst this; exact hn
theorem tokens_ok (args : List AV) (h : H) (ds : List Bool) (K : KV) (hk : conF2 fTokens args h ds K) : CallOK Tryd.prog glA 10 args h K := by
  refine conF2_ok (F := fTokens) ?_ ?_ args h ds K hk
  · clear hk
    intro args h r1 r2 ds K hf hK
    unfold fTokens at hf
    split at hf <;> try (cases hf; done)
    rename_i n v
    split at hf <;> try (cases hf; done)
    rename_i cells e hg
    simp only [Option.some.injEq, Prod.mk.injEq] at hf
    obtain ⟨hc, ht, rfl, rfl⟩ := hf
    obtain ⟨c1, c2⟩ := and_tt hc
    have c1 := flatEqs_eq c1
    subst c1
    have c2 : 0 < h.next := bleT c2
    have up0 : up id 1 h.next 0 = 0 := up_old (by omega)
    have up1 : up id 1 h.next 1 = h.next := by rw [up_new (Nat.le_refl _)]; simp
    let G : Nat → Option Blk := fun i => match i with
      | 0 => some (.row ASCII e false [])
      | 1 => some (.row (tCells n v) 30 true [])
      | _ => none
    have hcb : belL 0 (tCells n v) = true := toks_bel _ _ _ _ _ rfl
    have hcr : ∀ ρ : Nat → Nat, renB ρ (.row (tCells n v) 30 true []) = .row (tCells n v) 30 true [] := fun ρ => by
      show Blk.row (renL ρ (tCells n v)) 30 true [] = _
      rw [renL_pure hcb]
    refine frame (fuel := F) (ds1 := []) (N := 2) (G := G) (V := vOk 1 n v) goodC13.ok goodC13.spl (h1 := hA e) (args1 := [.str n v]) (ρ := id) (h2 := hnew h (.row (tCells n v) 30 true [])) (ds := ds) ⟨?_⟩ (hA_sees hg c2) ⟨?_, ?_, ?_, ?_, ?_⟩ rfl ?_ ?_
    · obtain ⟨u, h', d, ⟨q1, q2⟩, _, back⟩ := xfun_spl goodC13.spl (xcode_spl goodC13.spl F) 10 [.str n v] (hA e) [] _ (tokens_run n v e).out
      refine back _ ?_
      rcases q2 with ⟨_, q2, q3⟩ | ⟨q2, _⟩
      · refine ⟨fun i => match i with | 0 => 0 | i + 1 => i + 3, ⟨?_, ?_, ?_⟩, by rw [q2]; rfl, rfl, ?_⟩
        · intro i hi
          have : i = 0 := by have : i < 1 := hi; omega
          subst this; rfl
        · intro i h0 hi
          match i, hi, h0 with
          | i + 1, _, _ => show 1 ≤ i + 3; omega
        · intro i j hi hj e
          match i, j with
          | 0, 0 => rfl
          | 0, j + 1 => cases e
          | i + 1, 0 => cases e
          | i + 1, j + 1 => have e : i + 3 = j + 3 := e; omega
        · intro i k hi hG
          match i, hi with
          | 0, _ => cases hG; rw [hA_ren]; exact q1
          | 1, _ => cases hG; rw [hcr]; exact q3
      · rw [ht] at q2; cases q2
    · exact Nat.le_succ 1
    · rfl
    · intro j k hj
      have hj : T.get (T.set h.b (Blk.row (tCells n v) 30 true []) h.next) j = some k := hj
      rcases T.get_set hj with ⟨rfl, rfl⟩ | ⟨hne, hj⟩
      · exact .inl ⟨1, .row (tCells n v) 30 true [], by omega, up1.symm, rfl, (hcr _).symm⟩
      · by_cases e0 : j = 0
        · subst e0
          rw [hg] at hj; cases hj
          exact .inl ⟨0, _, by omega, up0.symm, rfl, (hA_ren _).symm⟩
        · exact .inr ⟨hj, fun i k1 hi => by obtain ⟨rfl, _⟩ := hA_get hi; exact fun e => e0 e.symm⟩
    · intro i k hi hG
      have : i = 0 := by have : i < 1 := hi; omega
      subst this
      cases hG
      exact ⟨_, rfl, rfl⟩
    · intro i k hi hG
      match i, hi with
      | 0, _ => cases hG; exact ⟨(okA (i := 0) (σ := id) rfl).1, rfl⟩
      | 1, _ => cases hG; exact ⟨belL_mono (Nat.zero_le 2) _ hcb, rfl⟩
    · intro g i hgi
      obtain ⟨rfl, h2⟩ := glA_get hgi
      exact ⟨Nat.lt_succ_self _, h2⟩
    · show K (ren (up id 1 h.next) (vOk 1 n v)) _ _
      have : ren (up id 1 h.next) (vOk 1 n v) = vOk h.next n v := by
        show AV.tup [.slc (up id 1 h.next 1) 0 _ _ false 6, _, _] = _
        rw [up1]; rfl
      rw [this]; exact hK
  · clear hk
    intro args h r1 r2 ds K hf hK
    unfold fTokens at hf
    split at hf <;> try (cases hf; done)
    rename_i n v
    split at hf <;> try (cases hf; done)
    rename_i cells e hg
    simp only [Option.some.injEq, Prod.mk.injEq] at hf
    obtain ⟨hc, ht, rfl, rfl⟩ := hf
    obtain ⟨c1, c2⟩ := and_tt hc
    have c1 := flatEqs_eq c1
    subst c1
    have c2 : 0 < h.next := bleT c2
    have up0 : up id 1 h.next 0 = 0 := up_old (by omega)
    let G : Nat → Option Blk := fun i => match i with
      | 0 => some (.row ASCII e false [])
      | _ => none
    refine frame (fuel := F) (ds1 := []) (N := 1) (G := G) (V := vErr n v) goodC13.ok goodC13.spl (h1 := hA e) (args1 := [.str n v]) (ρ := id) (h2 := h) (ds := ds) ⟨?_⟩ (hA_sees hg c2) ⟨?_, ?_, ?_, ?_, ?_⟩ rfl ?_ hK
    · obtain ⟨u, h', d, ⟨q1, q2⟩, _, back⟩ := xfun_spl goodC13.spl (xcode_spl goodC13.spl F) 10 [.str n v] (hA e) [] _ (tokens_run n v e).out
      refine back _ ?_
      rcases q2 with ⟨q2, _⟩ | ⟨_, q2⟩
      · rw [ht] at q2; cases q2
      · refine ⟨id, ⟨fun i hi => rfl, fun i h0 hi => h0, fun i j hi hj e => e⟩, by rw [ren_id]; exact q2, rfl, fun i k hi hG => ?_⟩
        rw [renB_id]
        match i, hi with
        | 0, _ => cases hG; exact q1
    · exact Nat.le_refl 1
    · rfl
    · intro j k hj
      by_cases e0 : j = 0
      · subst e0
        rw [hg] at hj; cases hj
        exact .inl ⟨0, _, by omega, up0.symm, rfl, (hA_ren _).symm⟩
      · exact .inr ⟨hj, fun i k1 hi => by obtain ⟨rfl, _⟩ := hA_get hi; exact fun e => e0 e.symm⟩
    · intro i k hi hG
      have : i = 0 := by have : i < 1 := hi; omega
      subst this
      cases hG
      exact ⟨_, rfl, rfl⟩
    · intro i k hi hG
      match i, hi with
      | 0, _ => cases hG; exact ⟨(okA (i := 0) (σ := id) rfl).1, rfl⟩
    · intro g i hgi
      obtain ⟨rfl, h2⟩ := glA_get hgi
      exact ⟨Nat.lt_succ_self _, h2⟩
/-- what a law leans on -/
def C14 (m : Bool) : Cfg := (cfgN m mask glA).addCon 10 (conF2 fTokens)
theorem goodC14 (m : Bool) : X.Good (C14 m) Tryd.prog := (goodN _ _ _ _).addCon 10 _ (conF2_spl _) tokens_ok
end
end Go.Proofs.YtoeoaiipchklbaaDoor
/- The program's lexer: what the laws ask first. -/
set_option autoImplicit false
set_option linter.unusedVariables false
set_option maxRecDepth 1000000
set_option maxHeartbeats 1000000
namespace Go.Proofs.YtoeoaiipchklbaaDoor
noncomputable section
open Go.X
theorem seen_call {C : Cfg} (G : X.Good C Tryd.prog) (hgl : C.gl = glA) {f : Nat} {args : List AV} {h : H} {ds : List Bool} {K : KV} {V : AV} {e : TypeId} (hg : h.b.get 0 = some (.row ASCII e false [])) (hn : 0 < h.next) (hb : belL 0 args = true) (hV : bel 0 V = true)
    (hk : Ran (xfun C Tryd.prog (xcode C Tryd.prog F) f args (hA e) [] (fun v h' _ => v = V ∧ h'.b.get 0 = some (.row ASCII e false [])))) (hK : K V h ds) : CallOK Tryd.prog glA f args h K := by
  let G0 : Nat → Option Blk := fun i => match i with
    | 0 => some (.row ASCII e false [])
    | _ => none
  have key := frame (fuel := F) (ds1 := []) (N := 1) (G := G0) (V := V) G.ok G.spl (h1 := hA e) (args1 := args) (ρ := id) (h2 := h) (ds := ds) (gl := glA) (h := h) (K := K) (f := f) ⟨?_⟩ (hA_sees hg hn) ⟨?_, ?_, ?_, ?_, ?_⟩ (belL_mono (Nat.zero_le _) _ hb) ?_ ?_
  · rw [renL_pure hb] at key; exact key
  · obtain ⟨u, h', d, ⟨q1, q2⟩, _, back⟩ := xfun_spl G.spl (xcode_spl G.spl F) f args (hA e) [] _ hk.out
    refine back _ ?_
    refine ⟨id, ⟨fun i hi => rfl, fun i h0 hi => h0, fun i j hi hj e => e⟩, by rw [ren_id]; exact q1, bel_mono (Nat.zero_le 1) _ hV, fun i k hi hG => ?_⟩
    rw [renB_id]
    match i, hi with
    | 0, _ => cases hG; exact q2
  · exact Nat.le_refl 1
  · rfl
  · intro j k hj
    by_cases e0 : j = 0
    · subst e0
      rw [hg] at hj; cases hj
      have up0 : up id 1 h.next 0 = 0 := up_old (by omega)
      exact .inl ⟨0, _, by omega, up0.symm, rfl, (hA_ren _).symm⟩
    · exact .inr ⟨hj, fun i k1 hi => by obtain ⟨rfl, _⟩ := hA_get hi; exact fun e => e0 e.symm⟩
  · intro i k hi hG
    have : i = 0 := by have : i < 1 := hi; omega
    subst this
    cases hG
    exact ⟨_, rfl, rfl⟩
  · intro i k hi hG
    match i, hi with
    | 0, _ => cases hG; exact ⟨(okA (i := 0) (σ := id) rfl).1, rfl⟩
  · rw [hgl]
    intro g i hgi
    obtain ⟨rfl, h2⟩ := glA_get hgi
    exact ⟨Nat.lt_succ_self _, h2⟩
  · rw [ren_bel (N := 0) (ρ := id) (fun i hi => absurd hi (Nat.not_lt_zero _)) V hV, ren_id]; exact hK
theorem alive_run (e : TypeId) : Ran (xfun (C14 true) Tryd.prog (xcode (C14 true) Tryd.prog F) 9 [] (hA e) [] (fun v h' _ => v = .bool true ∧ h'.b.get 0 = some (.row ASCII e false []))) :=
  ⟨Eq.mpr (β := AV.bool true = .bool true ∧ some (Blk.row ASCII e false []) = some (.row ASCII e false [])) (by kernel_rfl) ⟨rfl, rfl⟩⟩
def fAlive (args : List AV) (h : H) : Option (Bool × AV × H) := match args with
  | [] => match h.b.get 0 with
    | some (.row cells e false []) => some (Bool.and (flatEqs cells ASCII) (Nat.ble 1 h.next), .bool true, h)
    | _ => none
  | _ => none
theorem alive_ok (args : List AV) (h : H) (v : AV) (h' : H) (ds : List Bool) (K : KV) (hf : fAlive args h = some (true, v, h')) (hK : K v h' ds) : CallOK Tryd.prog glA 9 args h K := by
  unfold fAlive at hf
  split at hf <;> try (cases hf; done)
  split at hf <;> try (cases hf; done)
  rename_i cells e hg
  simp only [Option.some.injEq, Prod.mk.injEq] at hf
  obtain ⟨hc, rfl, rfl⟩ := hf
  obtain ⟨c1, c2⟩ := and_tt hc
  have c1 := flatEqs_eq c1
  subst c1
  exact seen_call (goodC14 true) rfl hg (bleT c2) rfl rfl (alive_run e) hK
def C15 (m : Bool) : Cfg := (C14 m).addCon 9 (conF fAlive)
theorem goodC15 (m : Bool) : X.Good (C15 m) Tryd.prog := (goodC14 m).addCon 9 _ (conF_spl _) (conF_ok alive_ok)
end
end Go.Proofs.YtoeoaiipchklbaaDoor

/- LexTokens: definitions. -/
import Derived.Test.YtoeoaiipchklbaaDoorM4
import Derived.Test.YtoeoaiipchklbaaDoorE6
set_option linter.unusedVariables false
set_option autoImplicit false
set_option linter.unusedVariables false
set_option maxRecDepth 100000
namespace Go.Proofs.YtoeoaiipchklbaaDoor
noncomputable section
open Go.X
def eM (n v at_ code : Nat) (l : AV) (q c i : Nat) : Env := T.set (T.set (T.set (T.set (T.set (T.set T.leaf (.str n v) 0) l 6) (.int .i64 (.ofNat at_)) 7) (.int .i64 (.ofNat code)) 8) (.slc q 0 c c false 6) 9) (.int .i64 (.ofNat i)) 12
def eMO (n v at_ code : Nat) (l : AV) : Env := T.set (T.set (T.set (T.set T.leaf (.str n v) 0) l 6) (.int .i64 (.ofNat at_)) 7) (.int .i64 (.ofNat code)) 8
def hM0 (e q : Nat) : H := ⟨T.set T.leaf (.row ASCII e false []) 0, q⟩
def hM1 (e : Nat) (mc : List AV) (q : Nat) : H := ⟨T.set (T.set T.leaf (.row ASCII e false []) 0) (.row mc 30 true []) 1, q⟩
def hM2 (e : Nat) (lc mc : List AV) : H := ⟨T.set (T.set (T.set T.leaf (.row ASCII e false []) 0) (.row lc 30 true []) 1) (.row mc 30 true []) 2, 3⟩
def hM3 (e : Nat) (lc mc : List AV) : H := ⟨T.set (T.set (T.set T.leaf (.row ASCII e false []) 0) (.row lc 30 true []) 1) (.row mc 30 true []) 3, 4⟩
structure SM1 where
  n : Nat
  v : Nat
  at_ : Nat
  code : Nat
  c : Nat
  i : Nat
  e : Nat
  mc : List AV
structure SM2 where
  n : Nat
  v : Nat
  at_ : Nat
  code : Nat
  c : Nat
  i : Nat
  e : Nat
  mc : List AV
  k : Nat
  lc : List AV
def okM (c i : Nat) (mc : List AV) : Prop := c ≤ 100000 ∧ mc.length = c * 6 ∧ belL 0 mc = true
def lM1 : LCon := lcE (fun s : SM1 => okM s.c s.i s.mc) (fun s => eM s.n s.v s.at_ s.code .nils 1 s.c s.i) (fun s => hM1 s.e s.mc 2) (fun s => (.ext 0, eMO s.n s.v s.at_ s.code .nils, hM0 s.e 2))
def lM2 : LCon := lcE (fun s : SM2 => okM s.c s.i s.mc ∧ belL 0 s.lc = true) (fun s => eM s.n s.v s.at_ s.code (.slc 1 0 s.k s.k false 6) 2 s.c s.i) (fun s => hM2 s.e s.lc s.mc) (fun s => (.ext 0, eMO s.n s.v s.at_ s.code (.slc 1 0 s.k s.k false 6), hM1 s.e s.lc 3))
def pickM : Env → H → LCon := fun env h => match T.get env 9 with
  | some (.slc q _ _ _ _ _) => cond (Nat.beq q 1) lM1 lM2
  | _ => lcOnce (CT true) Tryd.prog F 3 8
def CT1 : Cfg := (CT true).addLc 3 8 (fun env h ds K => pickM env h env h ds K)
/-- at each place of a list of tokens there is one -/
def tokAt (lc : List AV) (j : Nat) : Prop := ∃ kd tn tv N tk_ at_, ltake (ldrop lc (Nat.mul j 6)) 6 = tok kd tn tv N tk_ at_
def eW2 (k q i : Nat) : Env := T.set (T.set (T.set T.leaf (.slc 1 0 k k false 6) 6) (.slc q 0 k k false 6) 13) (.int .i64 (.ofNat i)) 16
structure SW2 where
  k : Nat
  i : Nat
  e : Nat
  lc : List AV
def okW (s : SW2) : Prop := s.k ≤ 100000 ∧ belL 0 s.lc = true ∧ ∀ j, j < s.k → tokAt s.lc j
def lW2 : LCon := lcE okW (fun s => eW2 s.k 2 s.i) (fun s => hM2 s.e s.lc s.lc) (fun s => (.ext 2, T.leaf, hM0 s.e 3))
def lW3 : LCon := lcE okW (fun s => eW2 s.k 3 s.i) (fun s => hM3 s.e s.lc s.lc) (fun s => (.ext 2, T.leaf, hM0 s.e 4))
def pickW : Env → H → LCon := fun env h => match T.get env 6 with
  | some (.slc _ _ _ _ _ _) => match T.get env 13 with
    | some (.slc q _ _ _ _ _) => cond (Nat.beq q 2) lW2 lW3
    | _ => lcOnce CT1 Tryd.prog F 3 15
  | _ => lcOnce CT1 Tryd.prog F 3 15
def CT2 : Cfg := CT1.addLc 3 15 (fun env h ds K => pickW env h env h ds K)
end
end Go.Proofs.YtoeoaiipchklbaaDoor
/- LexTokens: runs. -/
set_option autoImplicit false
set_option maxRecDepth 1000000
set_option maxHeartbeats 0
namespace Go.Proofs.YtoeoaiipchklbaaDoor
noncomputable section
open Go.X
theorem ta_m1 (n v a b c i e : Nat) (mc : List AV) (K : KE) : xcode (CT true) Tryd.prog F 3 (loopC Tryd.prog 3 8) ((CT true).mask 3) (tmpsN Tryd.prog 3) (eM n v a b .nils 1 c i) (hM1 e mc 2) [] K = (bcase (ltI (Int.ofNat i) (Int.ofNat c)) (bcase (inB (Int.ofNat i) c) (bcase (Nat.ble (Nat.add (Nat.add 0 (Nat.mul (Int.toNat (Int.ofNat i)) 6)) (llen (lput [AV.int Go.IntKind.i64 (Int.ofNat 0), AV.str 0 0, AV.int Go.IntKind.i64 (Int.ofNat 0), AV.int Go.IntKind.i64 (Int.ofNat 0), AV.int Go.IntKind.i64 (Int.ofNat 0), AV.int Go.IntKind.i64 (Int.ofNat 0)] [AV.str 1 63] 1))) (llen mc)) (bcase (inR Go.IntKind.i64 (Int.ofNat i + Int.ofNat 1)) (K XE.nrm (T.node (T.node (T.node (T.node T.leaf Option.none (T.node T.leaf (Option.some (AV.int Go.IntKind.i64 (Int.ofNat b))) T.leaf)) Option.none (T.node T.leaf Option.none (T.node T.leaf (Option.some (AV.int Go.IntKind.i64 (Int.ofNat i + Int.ofNat 1))) T.leaf))) Option.none (T.node T.leaf Option.none (T.node T.leaf (Option.some AV.nils) (T.node (T.node T.leaf Option.none (T.node T.leaf (Option.some (AV.bool true)) T.leaf)) Option.none T.leaf)))) (Option.some (AV.str n v)) (T.node (T.node (T.node T.leaf Option.none (T.node T.leaf (Option.some (AV.slc 1 0 c c false 6)) T.leaf)) Option.none T.leaf) Option.none (T.node T.leaf Option.none (T.node T.leaf (Option.some (AV.int Go.IntKind.i64 (Int.ofNat a))) T.leaf)))) (H.mk (T.node T.leaf (Option.some (Blk.row ASCII e false [])) (T.node T.leaf (Option.some (Blk.row (lput mc (lput [AV.int Go.IntKind.i64 (Int.ofNat 0), AV.str 0 0, AV.int Go.IntKind.i64 (Int.ofNat 0), AV.int Go.IntKind.i64 (Int.ofNat 0), AV.int Go.IntKind.i64 (Int.ofNat 0), AV.int Go.IntKind.i64 (Int.ofNat 0)] [AV.str 1 63] 1) (Nat.add 0 (Nat.mul (Int.toNat (Int.ofNat i)) 6))) 30 true [])) T.leaf)) 2) []) False) False) False) (K (XE.ext 0) (T.node (T.node (T.node (T.node T.leaf Option.none (T.node T.leaf (Option.some (AV.int Go.IntKind.i64 (Int.ofNat b))) T.leaf)) Option.none (T.node T.leaf Option.none (T.node T.leaf (Option.some (AV.int Go.IntKind.i64 (Int.ofNat i))) T.leaf))) Option.none (T.node T.leaf Option.none (T.node T.leaf (Option.some AV.nils) (T.node (T.node T.leaf Option.none (T.node T.leaf (Option.some (AV.bool false)) T.leaf)) Option.none T.leaf)))) (Option.some (AV.str n v)) (T.node (T.node (T.node T.leaf Option.none (T.node T.leaf (Option.some (AV.slc 1 0 c c false 6)) T.leaf)) Option.none T.leaf) Option.none (T.node T.leaf Option.none (T.node T.leaf (Option.some (AV.int Go.IntKind.i64 (Int.ofNat a))) T.leaf)))) (H.mk (T.node T.leaf (Option.some (Blk.row ASCII e false [])) (T.node T.leaf (Option.some (Blk.row mc 30 true [])) T.leaf)) 2) [])) := by kernel_rfl
theorem ta_m2 (n v a b c i e k : Nat) (mc lc : List AV) (K : KE) : xcode (CT true) Tryd.prog F 3 (loopC Tryd.prog 3 8) ((CT true).mask 3) (tmpsN Tryd.prog 3) (eM n v a b (.slc 1 0 k k false 6) 2 c i) (hM2 e lc mc) [] K = (bcase (ltI (Int.ofNat i) (Int.ofNat c)) (bcase (inB (Int.ofNat i) c) (bcase (Nat.ble (Nat.add (Nat.add 0 (Nat.mul (Int.toNat (Int.ofNat i)) 6)) (llen (lput [AV.int Go.IntKind.i64 (Int.ofNat 0), AV.str 0 0, AV.int Go.IntKind.i64 (Int.ofNat 0), AV.int Go.IntKind.i64 (Int.ofNat 0), AV.int Go.IntKind.i64 (Int.ofNat 0), AV.int Go.IntKind.i64 (Int.ofNat 0)] [AV.str 1 63] 1))) (llen mc)) (bcase (inR Go.IntKind.i64 (Int.ofNat i + Int.ofNat 1)) (K XE.nrm (T.node (T.node (T.node (T.node T.leaf Option.none (T.node T.leaf (Option.some (AV.int Go.IntKind.i64 (Int.ofNat b))) T.leaf)) Option.none (T.node T.leaf Option.none (T.node T.leaf (Option.some (AV.int Go.IntKind.i64 (Int.ofNat i + Int.ofNat 1))) T.leaf))) Option.none (T.node T.leaf Option.none (T.node T.leaf (Option.some (AV.slc 1 0 k k false 6)) (T.node (T.node T.leaf Option.none (T.node T.leaf (Option.some (AV.bool true)) T.leaf)) Option.none T.leaf)))) (Option.some (AV.str n v)) (T.node (T.node (T.node T.leaf Option.none (T.node T.leaf (Option.some (AV.slc 2 0 c c false 6)) T.leaf)) Option.none T.leaf) Option.none (T.node T.leaf Option.none (T.node T.leaf (Option.some (AV.int Go.IntKind.i64 (Int.ofNat a))) T.leaf)))) (H.mk (T.node (T.node T.leaf Option.none (T.node T.leaf (Option.some (Blk.row (lput mc (lput [AV.int Go.IntKind.i64 (Int.ofNat 0), AV.str 0 0, AV.int Go.IntKind.i64 (Int.ofNat 0), AV.int Go.IntKind.i64 (Int.ofNat 0), AV.int Go.IntKind.i64 (Int.ofNat 0), AV.int Go.IntKind.i64 (Int.ofNat 0)] [AV.str 1 63] 1) (Nat.add 0 (Nat.mul (Int.toNat (Int.ofNat i)) 6))) 30 true [])) T.leaf)) (Option.some (Blk.row ASCII e false [])) (T.node T.leaf (Option.some (Blk.row lc 30 true [])) T.leaf)) 3) []) False) False) False) (K (XE.ext 0) (T.node (T.node (T.node (T.node T.leaf Option.none (T.node T.leaf (Option.some (AV.int Go.IntKind.i64 (Int.ofNat b))) T.leaf)) Option.none (T.node T.leaf Option.none (T.node T.leaf (Option.some (AV.int Go.IntKind.i64 (Int.ofNat i))) T.leaf))) Option.none (T.node T.leaf Option.none (T.node T.leaf (Option.some (AV.slc 1 0 k k false 6)) (T.node (T.node T.leaf Option.none (T.node T.leaf (Option.some (AV.bool false)) T.leaf)) Option.none T.leaf)))) (Option.some (AV.str n v)) (T.node (T.node (T.node T.leaf Option.none (T.node T.leaf (Option.some (AV.slc 2 0 c c false 6)) T.leaf)) Option.none T.leaf) Option.none (T.node T.leaf Option.none (T.node T.leaf (Option.some (AV.int Go.IntKind.i64 (Int.ofNat a))) T.leaf)))) (H.mk (T.node (T.node T.leaf Option.none (T.node T.leaf (Option.some (Blk.row mc 30 true [])) T.leaf)) (Option.some (Blk.row ASCII e false [])) (T.node T.leaf (Option.some (Blk.row lc 30 true [])) T.leaf)) 3) [])) := by kernel_rfl
theorem ta_w2 (k i e : Nat) (lc : List AV) (K : KE) : xcode CT1 Tryd.prog F 3 (loopC Tryd.prog 3 15) (CT1.mask 3) (tmpsN Tryd.prog 3) (eW2 k 2 i) (hM2 e lc lc) [] K = (bcase (ltI (Int.ofNat i) (Int.ofNat k)) (bcase (inB (Int.ofNat i) k) (bcase (Nat.beq (llen (ltake (ldrop lc (Nat.add 0 (Nat.mul (Int.toNat (Int.ofNat i)) 6))) 6)) 6) (bcase (inB (Int.ofNat i) k) (bcase (Nat.beq (llen (ltake (ldrop lc (Nat.add 0 (Nat.mul (Int.toNat (Int.ofNat i)) 6))) 6)) 6) (@ocase Bool (xeqT Tryd.prog 20 30 (AV.agg (ltake (ldrop lc (Nat.add 0 (Nat.mul (Int.toNat (Int.ofNat i)) 6))) 6)) (AV.agg (ltake (ldrop lc (Nat.add 0 (Nat.mul (Int.toNat (Int.ofNat i)) 6))) 6))) False fun val => bcase val (bcase (inR Go.IntKind.i64 (Int.ofNat i + Int.ofNat 1)) (K XE.nrm (T.node (T.node (T.node (T.node (T.node T.leaf Option.none (T.node T.leaf (Option.some (AV.int Go.IntKind.i64 (Int.ofNat i + Int.ofNat 1))) T.leaf)) Option.none T.leaf) Option.none T.leaf) Option.none (T.node T.leaf Option.none (T.node T.leaf (Option.some (AV.slc 1 0 k k false 6)) (T.node (T.node (T.node T.leaf Option.none (T.node T.leaf (Option.some (AV.bool true)) T.leaf)) Option.none T.leaf) Option.none T.leaf)))) Option.none (T.node (T.node (T.node T.leaf Option.none (T.node T.leaf Option.none (T.node (T.node T.leaf Option.none (T.node T.leaf (Option.some (AV.bool false)) T.leaf)) Option.none T.leaf))) Option.none (T.node T.leaf Option.none (T.node T.leaf (Option.some (AV.slc 2 0 k k false 6)) T.leaf))) Option.none T.leaf)) (H.mk (T.node (T.node T.leaf Option.none (T.node T.leaf (Option.some (Blk.row lc 30 true [])) T.leaf)) (Option.some (Blk.row ASCII e false [])) (T.node T.leaf (Option.some (Blk.row lc 30 true [])) T.leaf)) 3) []) False) (K XE.ret (T.node (T.node (T.node (T.node (T.node T.leaf Option.none (T.node T.leaf (Option.some (AV.int Go.IntKind.i64 (Int.ofNat i))) T.leaf)) Option.none T.leaf) Option.none (T.node T.leaf (Option.some (AV.bool false)) T.leaf)) Option.none (T.node T.leaf Option.none (T.node T.leaf (Option.some (AV.slc 1 0 k k false 6)) (T.node (T.node (T.node T.leaf Option.none (T.node T.leaf (Option.some (AV.bool true)) T.leaf)) Option.none T.leaf) Option.none T.leaf)))) Option.none (T.node (T.node (T.node T.leaf Option.none (T.node T.leaf Option.none (T.node (T.node T.leaf Option.none (T.node T.leaf (Option.some (AV.bool true)) T.leaf)) Option.none T.leaf))) Option.none (T.node T.leaf Option.none (T.node T.leaf (Option.some (AV.slc 2 0 k k false 6)) T.leaf))) Option.none T.leaf)) (H.mk (T.node (T.node T.leaf Option.none (T.node T.leaf (Option.some (Blk.row lc 30 true [])) T.leaf)) (Option.some (Blk.row ASCII e false [])) (T.node T.leaf (Option.some (Blk.row lc 30 true [])) T.leaf)) 3) [])) False) False) False) False) (K (XE.ext 2) (T.node (T.node (T.node (T.node (T.node T.leaf Option.none (T.node T.leaf (Option.some (AV.int Go.IntKind.i64 (Int.ofNat i))) T.leaf)) Option.none T.leaf) Option.none T.leaf) Option.none (T.node T.leaf Option.none (T.node T.leaf (Option.some (AV.slc 1 0 k k false 6)) (T.node (T.node (T.node T.leaf Option.none (T.node T.leaf (Option.some (AV.bool false)) T.leaf)) Option.none T.leaf) Option.none T.leaf)))) Option.none (T.node (T.node T.leaf Option.none (T.node T.leaf Option.none (T.node T.leaf (Option.some (AV.slc 2 0 k k false 6)) T.leaf))) Option.none T.leaf)) (H.mk (T.node (T.node T.leaf Option.none (T.node T.leaf (Option.some (Blk.row lc 30 true [])) T.leaf)) (Option.some (Blk.row ASCII e false [])) (T.node T.leaf (Option.some (Blk.row lc 30 true [])) T.leaf)) 3) [])) := by kernel_rfl
theorem ta_w3 (k i e : Nat) (lc : List AV) (K : KE) : xcode CT1 Tryd.prog F 3 (loopC Tryd.prog 3 15) (CT1.mask 3) (tmpsN Tryd.prog 3) (eW2 k 3 i) (hM3 e lc lc) [] K = (bcase (ltI (Int.ofNat i) (Int.ofNat k)) (bcase (inB (Int.ofNat i) k) (bcase (Nat.beq (llen (ltake (ldrop lc (Nat.add 0 (Nat.mul (Int.toNat (Int.ofNat i)) 6))) 6)) 6) (bcase (inB (Int.ofNat i) k) (bcase (Nat.beq (llen (ltake (ldrop lc (Nat.add 0 (Nat.mul (Int.toNat (Int.ofNat i)) 6))) 6)) 6) (@ocase Bool (xeqT Tryd.prog 20 30 (AV.agg (ltake (ldrop lc (Nat.add 0 (Nat.mul (Int.toNat (Int.ofNat i)) 6))) 6)) (AV.agg (ltake (ldrop lc (Nat.add 0 (Nat.mul (Int.toNat (Int.ofNat i)) 6))) 6))) False fun val => bcase val (bcase (inR Go.IntKind.i64 (Int.ofNat i + Int.ofNat 1)) (K XE.nrm (T.node (T.node (T.node (T.node (T.node T.leaf Option.none (T.node T.leaf (Option.some (AV.int Go.IntKind.i64 (Int.ofNat i + Int.ofNat 1))) T.leaf)) Option.none T.leaf) Option.none T.leaf) Option.none (T.node T.leaf Option.none (T.node T.leaf (Option.some (AV.slc 1 0 k k false 6)) (T.node (T.node (T.node T.leaf Option.none (T.node T.leaf (Option.some (AV.bool true)) T.leaf)) Option.none T.leaf) Option.none T.leaf)))) Option.none (T.node (T.node (T.node T.leaf Option.none (T.node T.leaf Option.none (T.node (T.node T.leaf Option.none (T.node T.leaf (Option.some (AV.bool false)) T.leaf)) Option.none T.leaf))) Option.none (T.node T.leaf Option.none (T.node T.leaf (Option.some (AV.slc 3 0 k k false 6)) T.leaf))) Option.none T.leaf)) (H.mk (T.node T.leaf (Option.some (Blk.row ASCII e false [])) (T.node T.leaf (Option.some (Blk.row lc 30 true [])) (T.node T.leaf (Option.some (Blk.row lc 30 true [])) T.leaf))) 4) []) False) (K XE.ret (T.node (T.node (T.node (T.node (T.node T.leaf Option.none (T.node T.leaf (Option.some (AV.int Go.IntKind.i64 (Int.ofNat i))) T.leaf)) Option.none T.leaf) Option.none (T.node T.leaf (Option.some (AV.bool false)) T.leaf)) Option.none (T.node T.leaf Option.none (T.node T.leaf (Option.some (AV.slc 1 0 k k false 6)) (T.node (T.node (T.node T.leaf Option.none (T.node T.leaf (Option.some (AV.bool true)) T.leaf)) Option.none T.leaf) Option.none T.leaf)))) Option.none (T.node (T.node (T.node T.leaf Option.none (T.node T.leaf Option.none (T.node (T.node T.leaf Option.none (T.node T.leaf (Option.some (AV.bool true)) T.leaf)) Option.none T.leaf))) Option.none (T.node T.leaf Option.none (T.node T.leaf (Option.some (AV.slc 3 0 k k false 6)) T.leaf))) Option.none T.leaf)) (H.mk (T.node T.leaf (Option.some (Blk.row ASCII e false [])) (T.node T.leaf (Option.some (Blk.row lc 30 true [])) (T.node T.leaf (Option.some (Blk.row lc 30 true [])) T.leaf))) 4) [])) False) False) False) False) (K (XE.ext 2) (T.node (T.node (T.node (T.node (T.node T.leaf Option.none (T.node T.leaf (Option.some (AV.int Go.IntKind.i64 (Int.ofNat i))) T.leaf)) Option.none T.leaf) Option.none T.leaf) Option.none (T.node T.leaf Option.none (T.node T.leaf (Option.some (AV.slc 1 0 k k false 6)) (T.node (T.node (T.node T.leaf Option.none (T.node T.leaf (Option.some (AV.bool false)) T.leaf)) Option.none T.leaf) Option.none T.leaf)))) Option.none (T.node (T.node T.leaf Option.none (T.node T.leaf Option.none (T.node T.leaf (Option.some (AV.slc 3 0 k k false 6)) T.leaf))) Option.none T.leaf)) (H.mk (T.node T.leaf (Option.some (Blk.row ASCII e false [])) (T.node T.leaf (Option.some (Blk.row lc 30 true [])) (T.node T.leaf (Option.some (Blk.row lc 30 true [])) T.leaf))) 4) [])) := by kernel_rfl
theorem ta_res (n v n2 v2 e : Nat) (K : AV → Prop) : xfun CT2 Tryd.prog (xcode CT2 Tryd.prog F) 3 [.str n v, .str n2 v2] (hA e) [] (fun u _ _ => K u) = (bcase (ltI (Int.ofNat 70000) (Int.ofNat n)) (K (AV.bool true)) (bcase (ltI (Int.ofNat 70000) (Int.ofNat n2)) (K (AV.bool true)) (bcase (tOk n v) (bcase (tOk n2 v2) (∃ s, ((Nat.le (SM2.c s) 100000 ∧ List.length (SM2.mc s) = s.5 * 6 ∧ belL 0 s.8 = true) ∧ belL 0 s.10 = true) ∧ (Option.some (AV.str n v) = Option.some (AV.str s.1 s.2) ∧ (((True ∧ Option.some (AV.int Go.IntKind.i64 (Int.ofNat 0)) = Option.some (AV.int Go.IntKind.i64 (Int.ofNat s.4)) ∧ True ∧ True) ∧ True ∧ Option.some (AV.int Go.IntKind.i64 (Int.ofNat 0)) = Option.some (AV.int Go.IntKind.i64 (Int.ofNat s.6)) ∧ True ∧ True) ∧ True ∧ Option.some (AV.slc 1 0 (tCount n v) (tCount n v) false 6) = Option.some (AV.slc 1 0 s.9 s.9 false 6) ∧ True ∧ True) ∧ ((True ∧ Option.some (AV.slc 2 0 (tCount n2 v2) (tCount n2 v2) false 6) = Option.some (AV.slc 2 0 s.5 s.5 false 6) ∧ True ∧ True) ∧ True) ∧ True ∧ Option.some (AV.int Go.IntKind.i64 (Int.ofNat 0)) = Option.some (AV.int Go.IntKind.i64 (Int.ofNat s.3)) ∧ True ∧ True) ∧ 3 = Nat.succ (Nat.succ 1) ∧ (Option.some (Blk.row ASCII e false []) = Option.some (Blk.row ASCII s.7 false []) ∧ (True ∧ Option.some (Blk.row (tCells n2 v2) 30 true []) = Option.some (Blk.row s.8 30 true []) ∧ True ∧ True) ∧ Option.some (Blk.row (tCells n v) 30 true []) = Option.some (Blk.row s.10 30 true []) ∧ True ∧ True) ∧ bcase (tOk s.1 s.2) (bcase (eqI (Int.ofNat s.4) (Int.ofNat 0)) (bcase (eqI (Int.ofNat s.3) (Int.ofNat 0)) (bcase (eqI (Int.ofNat s.9) (Int.ofNat (tCount s.1 s.2))) (∃ s_1, (Nat.le (SW2.k s_1) 100000 ∧ belL 0 s_1.4 = true ∧ ∀ (j : Nat), j < SW2.k s_1 → tokAt (SW2.lc s_1) j) ∧ (((((True ∧ Option.some (AV.int Go.IntKind.i64 (Int.ofNat 0)) = Option.some (AV.int Go.IntKind.i64 (Int.ofNat s_1.2)) ∧ True ∧ True) ∧ True) ∧ True) ∧ True ∧ Option.some (AV.slc 1 0 s.9 s.9 false 6) = Option.some (AV.slc 1 0 s_1.1 s_1.1 false 6) ∧ True ∧ True) ∧ (True ∧ True ∧ Option.some (AV.slc 3 0 (tCount s.1 s.2) (tCount s.1 s.2) false 6) = Option.some (AV.slc 3 0 s_1.1 s_1.1 false 6) ∧ True ∧ True) ∧ True) ∧ 4 = Nat.succ 3 ∧ (Option.some (Blk.row ASCII s.7 false []) = Option.some (Blk.row ASCII s_1.3 false []) ∧ True ∧ Option.some (Blk.row s.10 30 true []) = Option.some (Blk.row s_1.4 30 true []) ∧ True ∧ Option.some (Blk.row (tCells s.1 s.2) 30 true []) = Option.some (Blk.row s_1.4 30 true []) ∧ True ∧ True) ∧ K (AV.bool true)) (K (AV.bool false))) (K (AV.bool false))) (K (AV.bool false))) (bcase (eqI (Int.ofNat s.4) (Int.ofNat (tCode s.1 s.2))) (bcase (eqI (Int.ofNat s.3) (Int.ofNat (tAt s.1 s.2))) (bcase (eqI (Int.ofNat s.9) (Int.ofNat 0)) (bcase (ltI (Int.ofNat 0) (Int.ofNat s.9)) (bcase (inB (Int.ofNat 0) s.9) (bcase (Nat.beq (llen (ltake (ldrop s.10 0) 6)) 6) False False) False) (K (AV.bool true))) (K (AV.bool false))) (K (AV.bool false))) (K (AV.bool false)))) (bcase (tOk n v) (bcase (eqI (Int.ofNat (tCount n v)) (Int.ofNat (tCount n v))) (∃ s, (Nat.le (SW2.k s) 100000 ∧ belL 0 s.4 = true ∧ ∀ (j : Nat), j < SW2.k s → tokAt (SW2.lc s) j) ∧ (((((True ∧ Option.some (AV.int Go.IntKind.i64 (Int.ofNat 0)) = Option.some (AV.int Go.IntKind.i64 (Int.ofNat s.2)) ∧ True ∧ True) ∧ True) ∧ True) ∧ True ∧ Option.some (AV.slc 1 0 (tCount n v) (tCount n v) false 6) = Option.some (AV.slc 1 0 s.1 s.1 false 6) ∧ True ∧ True) ∧ (True ∧ True ∧ Option.some (AV.slc 2 0 (tCount n v) (tCount n v) false 6) = Option.some (AV.slc 2 0 s.1 s.1 false 6) ∧ True ∧ True) ∧ True) ∧ 3 = Nat.succ (Nat.succ 1) ∧ (Option.some (Blk.row ASCII e false []) = Option.some (Blk.row ASCII s.3 false []) ∧ (True ∧ Option.some (Blk.row (tCells n v) 30 true []) = Option.some (Blk.row s.4 30 true []) ∧ True ∧ True) ∧ Option.some (Blk.row (tCells n v) 30 true []) = Option.some (Blk.row s.4 30 true []) ∧ True ∧ True) ∧ K (AV.bool true)) (K (AV.bool false))) (bcase (eqI (Int.ofNat 0) (Int.ofNat (tCode n v))) (bcase (eqI (Int.ofNat 0) (Int.ofNat (tAt n v))) (bcase (eqI (Int.ofNat (tCount n v)) (Int.ofNat 0)) (bcase (ltI (Int.ofNat 0) (Int.ofNat (tCount n v))) (bcase (inB (Int.ofNat 0) (tCount n v)) (bcase (Nat.beq (llen (ltake (ldrop (tCells n v) 0) 6)) 6) False False) False) (K (AV.bool true))) (K (AV.bool false))) (K (AV.bool false))) (K (AV.bool false))))) (bcase (tOk n2 v2) (∃ s, (Nat.le (SM1.c s) 100000 ∧ List.length (SM1.mc s) = s.5 * 6 ∧ belL 0 s.8 = true) ∧ (Option.some (AV.str n v) = Option.some (AV.str s.1 s.2) ∧ (((True ∧ Option.some (AV.int Go.IntKind.i64 (Int.ofNat (tCode n v))) = Option.some (AV.int Go.IntKind.i64 (Int.ofNat s.4)) ∧ True ∧ True) ∧ True ∧ Option.some (AV.int Go.IntKind.i64 (Int.ofNat 0)) = Option.some (AV.int Go.IntKind.i64 (Int.ofNat s.6)) ∧ True ∧ True) ∧ True ∧ Option.some AV.nils = Option.some AV.nils ∧ True ∧ True) ∧ ((True ∧ Option.some (AV.slc 1 0 (tCount n2 v2) (tCount n2 v2) false 6) = Option.some (AV.slc 1 0 s.5 s.5 false 6) ∧ True ∧ True) ∧ True) ∧ True ∧ Option.some (AV.int Go.IntKind.i64 (Int.ofNat (tAt n v))) = Option.some (AV.int Go.IntKind.i64 (Int.ofNat s.3)) ∧ True ∧ True) ∧ 2 = Nat.succ 1 ∧ (Option.some (Blk.row ASCII e false []) = Option.some (Blk.row ASCII s.7 false []) ∧ True ∧ Option.some (Blk.row (tCells n2 v2) 30 true []) = Option.some (Blk.row s.8 30 true []) ∧ True ∧ True) ∧ bcase (tOk s.1 s.2) (bcase (eqI (Int.ofNat s.4) (Int.ofNat 0)) (bcase (eqI (Int.ofNat s.3) (Int.ofNat 0)) (bcase (eqI (Int.ofNat 0) (Int.ofNat (tCount s.1 s.2))) (K (AV.bool true)) (K (AV.bool false))) (K (AV.bool false))) (K (AV.bool false))) (bcase (eqI (Int.ofNat s.4) (Int.ofNat (tCode s.1 s.2))) (bcase (eqI (Int.ofNat s.3) (Int.ofNat (tAt s.1 s.2))) (K (AV.bool true)) (K (AV.bool false))) (K (AV.bool false)))) (bcase (tOk n v) (bcase (eqI (Int.ofNat (tCode n v)) (Int.ofNat 0)) (bcase (eqI (Int.ofNat (tAt n v)) (Int.ofNat 0)) (bcase (eqI (Int.ofNat 0) (Int.ofNat (tCount n v))) (K (AV.bool true)) (K (AV.bool false))) (K (AV.bool false))) (K (AV.bool false))) (bcase (eqI (Int.ofNat (tCode n v)) (Int.ofNat (tCode n v))) (bcase (eqI (Int.ofNat (tAt n v)) (Int.ofNat (tAt n v))) (K (AV.bool true)) (K (AV.bool false))) (K (AV.bool false)))))))) := by kernel_rfl
end
end Go.Proofs.YtoeoaiipchklbaaDoor
/- LexTokens: tokens compared. -/
set_option autoImplicit false
set_option maxRecDepth 1000000
set_option maxHeartbeats 0
namespace Go.Proofs.YtoeoaiipchklbaaDoor
noncomputable section
open Go.X
theorem ta_eq (kd tn tv tk_ at_ kd' tn' tv' tk' at' : Nat) (N N' : Int) (K : Bool → Prop) : ocase (xeqT Tryd.prog 20 30 (.agg (tok kd tn tv N tk_ at_)) (.agg (tok kd' tn' tv' N' tk' at'))) False K = (K (eqI (Int.ofNat kd) (Int.ofNat kd') && (Nat.beq tn tn' && Nat.beq tv tv' && (eqI N N' && (eqI (Int.ofNat tk_) (Int.ofNat tk') && true && (eqI (Int.ofNat at_) (Int.ofNat at') && true)))))) := by kernel_rfl
end
end Go.Proofs.YtoeoaiipchklbaaDoor
/- LexTokens: the run. -/
set_option autoImplicit false
set_option linter.unusedVariables false
set_option maxRecDepth 100000
set_option maxHeartbeats 1000000
namespace Go.Proofs.YtoeoaiipchklbaaDoor
noncomputable section
open Go.X
theorem tokAt_app {cells : List AV} {k : Nat} {t : List AV} (hl : cells.length = k * 6) (hc : ∀ j, j < k → tokAt cells j) (ht : ∃ kd tn tv N tk_ at_, t = tok kd tn tv N tk_ at_) : ∀ j, j < k + 1 → tokAt (lapp cells t) j := by
  intro j hj
  obtain ⟨kd, tn, tv, N, tk_, at_, rfl⟩ := ht
  by_cases h : j < k
  · obtain ⟨a, b, c, d, e, f, q⟩ := hc j h
    refine ⟨a, b, c, d, e, f, ?_⟩
    rw [← q, ltake_eq, ldrop_eq, ltake_eq, ldrop_eq, lapp_eq]
    show ((cells ++ _).drop (j * 6)).take 6 = (cells.drop (j * 6)).take 6
    rw [List.drop_append_of_le_length (by omega), List.take_append_of_le_length (by rw [List.length_drop]; omega)]
  · have e : j = k := by omega
    subst e
    refine ⟨kd, tn, tv, N, tk_, at_, ?_⟩
    rw [ltake_eq, ldrop_eq, lapp_eq]
    show ((cells ++ _).drop (j * 6)).take 6 = _
    rw [← hl, List.drop_left]; rfl
theorem tokF_shape (n v : Nat) : ∀ (f x : Nat) (cells : List AV) (k : Nat), cells.length = k * 6 → k ≤ 20000 → (∀ j, j < k → tokAt cells j) → (tokF n v f x cells k).ok = true →
    (tokF n v f x cells k).cells.length = (tokF n v f x cells k).count * 6 ∧ (tokF n v f x cells k).count ≤ 20001 ∧ ∀ j, j < (tokF n v f x cells k).count → tokAt (tokF n v f x cells k).cells j
  | 0, x, cells, k, _, _, _, h => by cases h
  | f + 1, x, cells, k, hl, hk, hc, h => by
    rw [tokF] at h ⊢
    have hl2 : (lapp cells (nxTok n v x)).length = (k + 1) * 6 := by rw [lapp_len, hl, tok_len]; omega
    have hc2 := tokAt_app hl hc ⟨_, _, _, _, _, _, (rfl : nxTok n v x = tok _ _ _ _ _ _)⟩
    cases h1 : nxE n v x with
    | true => rw [h1] at h; cases h
    | false =>
      rw [h1] at h
      cases h2 : Nat.beq k 20000 with
      | true => rw [h2] at h; cases h
      | false =>
        rw [h2] at h
        have hk2 : k ≠ 20000 := fun e => by rw [e] at h2; cases h2
        cases h3 : Nat.beq (nxK n v x) 5 with
        | true => exact ⟨hl2, by show k + 1 ≤ 20001; omega, hc2⟩
        | false =>
          rw [h3] at h
          exact tokF_shape n v f _ _ _ hl2 (by show k + 1 ≤ 20000; omega) hc2 h
theorem tOk_ok {n v : Nat} (h : tOk n v = true) : (toks n v 0 [] 0).ok = true ∧ tAt n v = (toks n v 0 [] 0).at_ := by
  unfold tOk at h
  unfold tAt
  cases hb : Nat.ble n 65536 with
  | true => rw [hb] at h; exact ⟨h, rfl⟩
  | false => rw [hb] at h; cases h
theorem tCells_shape {n v : Nat} (h : tOk n v = true) : (tCells n v).length = tCount n v * 6 ∧ tCount n v ≤ 20001 ∧ ∀ j, j < tCount n v → tokAt (tCells n v) j :=
  tokF_shape n v _ 0 [] 0 rfl (by decide) (fun j hj => by omega) (tOk_ok h).1
theorem tCells_bel (n v : Nat) : belL 0 (tCells n v) = true := toks_bel _ _ _ _ _ rfl
theorem eqII (n : Int) : eqI n n = true := by rw [eqI_eq]; simp
theorem tok_same (kd tn tv : Nat) (N : Int) (tk_ at_ : Nat) : xeqT Tryd.prog 20 30 (.agg (tok kd tn tv N tk_ at_)) (.agg (tok kd tn tv N tk_ at_)) = some true := by
  have h := ta_eq kd tn tv tk_ at_ kd tn tv tk_ at_ N N (fun b => xeqT Tryd.prog 20 30 (.agg (tok kd tn tv N tk_ at_)) (.agg (tok kd tn tv N tk_ at_)) = some b)
  cases hx : xeqT Tryd.prog 20 30 (.agg (tok kd tn tv N tk_ at_)) (.agg (tok kd tn tv N tk_ at_)) with
  | none =>
    rw [hx] at h
    have h2 := ta_eq kd tn tv tk_ at_ kd tn tv tk_ at_ N N (fun _ => True)
    rw [hx] at h2
    exact (show False from h2.mpr trivial).elim
  | some b =>
    rw [hx] at h
    have h3 : (some b = some b) = (some b = some (eqI (Int.ofNat kd) (Int.ofNat kd) && (Nat.beq tn tn && Nat.beq tv tv && (eqI N N && (eqI (Int.ofNat tk_) (Int.ofNat tk_) && true && (eqI (Int.ofNat at_) (Int.ofNat at_) && true)))))) := h
    have h4 := h3.mp rfl
    rw [eqII, eqII, eqII, eqII, Nat.beq_refl, Nat.beq_refl] at h4
    exact h4
theorem lput_len {α : Type} {l xs : List α} {k : Nat} (h : k + xs.length ≤ l.length) : (lput l xs k).length = l.length := by
  rw [lput_eq]; simp; omega
theorem belL_take {N : Nat} : ∀ (l : List AV) (k : Nat), belL N l = true → belL N (l.take k) = true
  | [], k, h => by simp [belL]
  | a :: l, 0, h => rfl
  | a :: l, k + 1, h => by
    obtain ⟨h1, h2⟩ := and_tt (by exact h : Bool.and (bel N a) (belL N l) = true)
    show Bool.and (bel N a) (belL N (l.take k)) = true
    rw [h1, belL_take l k h2]; rfl
theorem belL_drop {N : Nat} : ∀ (l : List AV) (k : Nat), belL N l = true → belL N (l.drop k) = true
  | [], k, h => by simp [belL]
  | a :: l, 0, h => h
  | a :: l, k + 1, h => by
    obtain ⟨h1, h2⟩ := and_tt (by exact h : Bool.and (bel N a) (belL N l) = true)
    exact belL_drop l k h2
theorem belL_put {N : Nat} {l xs : List AV} {k : Nat} (h : belL N l = true) (hx : belL N xs = true) : belL N (lput l xs k) = true := by
  unfold lput
  rw [ltake_eq, ldrop_eq]
  exact belL_app (belL_take l k h) (belL_app hx (belL_drop l _ h))
/-- what is laid over a token -/
def tokQ : List AV := lput (tok 0 0 0 (.ofNat 0) 0 0) [.str 1 63] 1
theorem goodM1 : X.Good ((CT true).addLc 3 8 lM1) Tryd.prog := by
  refine (goodCT true).addE (n0 := 2) (μ := fun s : SM1 => s.c - s.i) (fuel := F) (by kernel_rfl) ?_ ?_ ?_
  · intro s hok
    obtain ⟨h1, h2, h3⟩ := hok
    refine ⟨rfl, Nat.le_refl _, ?_, ?_⟩ <;> repeat' (first | exact trivial | exact (okA (i := 0) (σ := id) rfl).1 | exact belL_mono (Nat.zero_le _) _ h3 | exact rfl | refine And.intro ?_ ?_)
  · rintro ⟨n, v, a, b, c, i, e, mc⟩ hok
    obtain ⟨h1, h2, h3⟩ := hok
    have h1 : c ≤ 100000 := h1
    have h2 : mc.length = c * 6 := h2
    have h3 : belL 0 mc = true := h3
    refine ⟨Eq.mpr (ta_m1 n v a b c i e mc _) ?_⟩
    refine bcase_mk (fun q => ?_) (fun q => ?_)
    · have q := ltT q
      have hfit : i * 6 + 6 ≤ mc.length := by omega
      refine bcase_t (inB_of q) (bcase_t ?_ (bcase_t (inR_add (by omega)) ?_))
      · rw [llen_eq mc]; exact Nat.ble_eq_true_of_le (by show 0 + i * 6 + 6 ≤ _; omega)
      · have hb2 : belL 0 (lput mc tokQ (Nat.add 0 (Nat.mul (Int.toNat (Int.ofNat i)) 6))) = true := belL_put h3 rfl
        have hl2 : (lput mc tokQ (Nat.add 0 (Nat.mul (Int.toNat (Int.ofNat i)) 6))).length = c * 6 := by
          rw [lput_len]
          · exact h2
          · show 0 + i * 6 + 6 ≤ _; omega
        refine ⟨⟨n, v, a, b, c, i + 1, e, lput mc tokQ (Nat.add 0 (Nat.mul (Int.toNat (Int.ofNat i)) 6))⟩, [], ⟨h1, hl2, hb2⟩, by dsimp only; omega, rfl, ?_⟩
        refine abs_mk rfl rfl rfl ?_ ?_ <;> repeat' (first | exact trivial | exact rfl | exact okA rfl | exact okR hb2 rfl rfl | exact ⟨_, rfl, rfl⟩ | refine And.intro ?_ ?_)
    · refine ⟨[], rfl, ?_⟩
      refine abs_mk rfl rfl rfl ?_ ?_ <;> repeat' (first | exact trivial | exact rfl | exact okA rfl | exact ⟨_, rfl, rfl⟩ | refine And.intro ?_ ?_)
  · intro g i hgi
    obtain ⟨rfl, _⟩ := glA_get hgi
    decide
theorem goodM2 : X.Good ((CT true).addLc 3 8 lM2) Tryd.prog := by
  refine (goodCT true).addE (n0 := 3) (μ := fun s : SM2 => s.c - s.i) (fuel := F) (by kernel_rfl) ?_ ?_ ?_
  · intro s hok
    obtain ⟨⟨h1, h2, h3⟩, h4⟩ := hok
    refine ⟨rfl, Nat.le_refl _, ?_, ?_⟩ <;> repeat' (first | exact trivial | exact (okA (i := 0) (σ := id) rfl).1 | exact belL_mono (Nat.zero_le _) _ h3 | exact belL_mono (Nat.zero_le _) _ h4 | exact rfl | refine And.intro ?_ ?_)
  · rintro ⟨n, v, a, b, c, i, e, mc, k, lc⟩ hok
    obtain ⟨⟨h1, h2, h3⟩, h4⟩ := hok
    have h1 : c ≤ 100000 := h1
    have h2 : mc.length = c * 6 := h2
    have h3 : belL 0 mc = true := h3
    have h4 : belL 0 lc = true := h4
    refine ⟨Eq.mpr (ta_m2 n v a b c i e k mc lc _) ?_⟩
    refine bcase_mk (fun q => ?_) (fun q => ?_)
    · have q := ltT q
      have hfit : i * 6 + 6 ≤ mc.length := by omega
      refine bcase_t (inB_of q) (bcase_t ?_ (bcase_t (inR_add (by omega)) ?_))
      · rw [llen_eq mc]; exact Nat.ble_eq_true_of_le (by show 0 + i * 6 + 6 ≤ _; omega)
      · have hb2 : belL 0 (lput mc tokQ (Nat.add 0 (Nat.mul (Int.toNat (Int.ofNat i)) 6))) = true := belL_put h3 rfl
        have hl2 : (lput mc tokQ (Nat.add 0 (Nat.mul (Int.toNat (Int.ofNat i)) 6))).length = c * 6 := by
          rw [lput_len]
          · exact h2
          · show 0 + i * 6 + 6 ≤ _; omega
        refine ⟨⟨n, v, a, b, c, i + 1, e, lput mc tokQ (Nat.add 0 (Nat.mul (Int.toNat (Int.ofNat i)) 6)), k, lc⟩, [], ⟨⟨h1, hl2, hb2⟩, h4⟩, by dsimp only; omega, rfl, ?_⟩
        refine abs_mk rfl rfl rfl ?_ ?_ <;> repeat' (first | exact trivial | exact rfl | exact okA rfl | exact okR hb2 rfl rfl | exact okR h4 rfl rfl | exact ⟨_, rfl, rfl⟩ | refine And.intro ?_ ?_)
    · refine ⟨[], rfl, ?_⟩
      refine abs_mk rfl rfl rfl ?_ ?_ <;> repeat' (first | exact trivial | exact rfl | exact okA rfl | exact okR h4 rfl rfl | exact ⟨_, rfl, rfl⟩ | refine And.intro ?_ ?_)
  · intro g i hgi
    obtain ⟨rfl, _⟩ := glA_get hgi
    decide
theorem goodCT1 : X.Good CT1 Tryd.prog := by
  refine (goodCT true).addPick (by kernel_rfl) fun env h => ?_
  unfold pickM
  split
  · rename_i q _ _ _ _ _ _
    cases Nat.beq q 1 with
    | true => exact goodM1.lc (by kernel_rfl)
    | false => exact goodM2.lc (by kernel_rfl)
  · exact once_lc (goodCT true) F 3 8
theorem ocase_yes {o : Option Bool} {K : Bool → Prop} (h : o = some true) (hk : K true) : @ocase Bool o False K := ocase_some h hk
theorem goodW2 : X.Good (CT1.addLc 3 15 lW2) Tryd.prog := by
  refine goodCT1.addE (n0 := 3) (μ := fun s : SW2 => s.k - s.i) (fuel := F) (by kernel_rfl) ?_ ?_ ?_
  · intro s hok
    obtain ⟨h1, h3, h2⟩ := hok
    refine ⟨rfl, Nat.le_refl _, ?_, ?_⟩ <;> repeat' (first | exact trivial | exact (okA (i := 0) (σ := id) rfl).1 | exact belL_mono (Nat.zero_le _) _ h3 | exact rfl | refine And.intro ?_ ?_)
  · rintro ⟨k, i, e, lc⟩ hok
    obtain ⟨h1, h3, h2⟩ := hok
    have h1 : k ≤ 100000 := h1
    have h3 : belL 0 lc = true := h3
    have h2 : ∀ j, j < k → tokAt lc j := h2
    refine ⟨Eq.mpr (ta_w2 k i e lc _) ?_⟩
    refine bcase_mk (fun q => ?_) (fun q => ?_)
    · have q := ltT q
      obtain ⟨kd, tn, tv, N, tk_, at_, hx⟩ := h2 i q
      have ex : ltake (ldrop lc (Nat.add 0 (Nat.mul (Int.toNat (Int.ofNat i)) 6))) 6 = tok kd tn tv N tk_ at_ := by
        rw [← hx]; congr 2; show 0 + i * 6 = i * 6; omega
      rw [ex]
      refine bcase_t (inB_of q) (bcase_t rfl (bcase_t (inB_of q) (bcase_t rfl (ocase_yes (tok_same _ _ _ _ _ _) (bcase_mk (fun _ => ?_) (fun h => by cases h))))))
      refine bcase_t (inR_add (by omega)) ⟨⟨k, i + 1, e, lc⟩, [], ⟨h1, h3, h2⟩, by dsimp only; omega, rfl, ?_⟩
      refine abs_mk rfl rfl rfl ?_ ?_ <;> repeat' (first | exact trivial | exact rfl | exact okA rfl | exact okR h3 rfl rfl | exact ⟨_, rfl, rfl⟩ | refine And.intro ?_ ?_)
    · refine ⟨[], rfl, ?_⟩
      refine abs_mk rfl rfl rfl ?_ ?_ <;> repeat' (first | exact trivial | exact rfl | exact okA rfl | exact ⟨_, rfl, rfl⟩ | refine And.intro ?_ ?_)
  · intro g i hgi
    obtain ⟨rfl, _⟩ := glA_get hgi
    decide
theorem goodW3 : X.Good (CT1.addLc 3 15 lW3) Tryd.prog := by
  refine goodCT1.addE (n0 := 4) (μ := fun s : SW2 => s.k - s.i) (fuel := F) (by kernel_rfl) ?_ ?_ ?_
  · intro s hok
    obtain ⟨h1, h3, h2⟩ := hok
    refine ⟨rfl, Nat.le_refl _, ?_, ?_⟩ <;> repeat' (first | exact trivial | exact (okA (i := 0) (σ := id) rfl).1 | exact belL_mono (Nat.zero_le _) _ h3 | exact rfl | refine And.intro ?_ ?_)
  · rintro ⟨k, i, e, lc⟩ hok
    obtain ⟨h1, h3, h2⟩ := hok
    have h1 : k ≤ 100000 := h1
    have h3 : belL 0 lc = true := h3
    have h2 : ∀ j, j < k → tokAt lc j := h2
    refine ⟨Eq.mpr (ta_w3 k i e lc _) ?_⟩
    refine bcase_mk (fun q => ?_) (fun q => ?_)
    · have q := ltT q
      obtain ⟨kd, tn, tv, N, tk_, at_, hx⟩ := h2 i q
      have ex : ltake (ldrop lc (Nat.add 0 (Nat.mul (Int.toNat (Int.ofNat i)) 6))) 6 = tok kd tn tv N tk_ at_ := by
        rw [← hx]; congr 2; show 0 + i * 6 = i * 6; omega
      rw [ex]
      refine bcase_t (inB_of q) (bcase_t rfl (bcase_t (inB_of q) (bcase_t rfl (ocase_yes (tok_same _ _ _ _ _ _) (bcase_mk (fun _ => ?_) (fun h => by cases h))))))
      refine bcase_t (inR_add (by omega)) ⟨⟨k, i + 1, e, lc⟩, [], ⟨h1, h3, h2⟩, by dsimp only; omega, rfl, ?_⟩
      refine abs_mk rfl rfl rfl ?_ ?_ <;> repeat' (first | exact trivial | exact rfl | exact okA rfl | exact okR h3 rfl rfl | exact ⟨_, rfl, rfl⟩ | refine And.intro ?_ ?_)
    · refine ⟨[], rfl, ?_⟩
      refine abs_mk rfl rfl rfl ?_ ?_ <;> repeat' (first | exact trivial | exact rfl | exact okA rfl | exact ⟨_, rfl, rfl⟩ | refine And.intro ?_ ?_)
  · intro g i hgi
    obtain ⟨rfl, _⟩ := glA_get hgi
    decide
theorem goodCT2 : X.Good CT2 Tryd.prog := by
  refine goodCT1.addPick (by kernel_rfl) fun env h => ?_
  unfold pickW
  split
  · split
    · rename_i q _ _ _ _ _ _
      cases Nat.beq q 2 with
      | true => exact goodW2.lc (by kernel_rfl)
      | false => exact goodW3.lc (by kernel_rfl)
    · exact once_lc goodCT1 F 3 15
  · exact once_lc goodCT1 F 3 15
theorem eqIs (n : Nat) : eqI (Int.ofNat n) (Int.ofNat n) = true := eqII _
theorem tokens_all (e : TypeId) (n v n2 v2 : Nat) : Ran (xfun CT2 Tryd.prog (xcode CT2 Tryd.prog F) 3 [.str n v, .str n2 v2] (hA e) [] (fun u _ _ => u = .bool true)) := by
  have h := ta_res n v n2 v2 e (fun u => u = .bool true)
  refine ⟨?_⟩
  rw [h]; clear h
  have z0 : eqI (Int.ofNat 0) (Int.ofNat 0) = true := rfl
  refine bcase_mk (fun _ => rfl) fun _ => bcase_mk (fun _ => rfl) fun _ => bcase_mk (fun g1 => ?_) (fun g1 => ?_)
  · obtain ⟨l1, l2, l3⟩ := tCells_shape g1
    have l4 := tCells_bel n v
    refine bcase_mk (fun g2 => ?_) (fun g2 => ?_)
    · obtain ⟨m1, m2, m3⟩ := tCells_shape g2
      refine ⟨⟨n, v, 0, 0, tCount n2 v2, 0, e, tCells n2 v2, tCount n v, tCells n v⟩, ⟨⟨by show tCount n2 v2 ≤ 100000; omega, m1, tCells_bel n2 v2⟩, l4⟩, by repeat' (first | exact trivial | exact rfl | refine And.intro ?_ ?_), rfl, by repeat' (first | exact trivial | exact rfl | refine And.intro ?_ ?_), ?_⟩
      refine bcase_mk (fun _ => bcase_mk (fun _ => bcase_mk (fun _ => bcase_mk (fun _ => ?_) (fun h => ?_)) (fun h => ?_)) (fun h => ?_)) (fun h => ?_)
      · exact ⟨⟨tCount n v, 0, e, tCells n v⟩, ⟨by show tCount n v ≤ 100000; omega, l4, l3⟩, by repeat' (first | exact trivial | exact rfl | refine And.intro ?_ ?_), rfl, by repeat' (first | exact trivial | exact rfl | refine And.intro ?_ ?_), rfl⟩
      · have := eqIs (tCount n v); rw [this] at h; cases h
      · rw [z0] at h; cases h
      · rw [z0] at h; cases h
      · rw [g1] at h; cases h
    · refine bcase_mk (fun _ => bcase_mk (fun _ => ?_) (fun h => ?_)) (fun h => ?_)
      · exact ⟨⟨tCount n v, 0, e, tCells n v⟩, ⟨by show tCount n v ≤ 100000; omega, l4, l3⟩, by repeat' (first | exact trivial | exact rfl | refine And.intro ?_ ?_), rfl, by repeat' (first | exact trivial | exact rfl | refine And.intro ?_ ?_), rfl⟩
      · have := eqIs (tCount n v); rw [this] at h; cases h
      · rw [g1] at h; cases h
  · refine bcase_mk (fun g2 => ?_) (fun g2 => ?_)
    · obtain ⟨m1, m2, m3⟩ := tCells_shape g2
      refine ⟨⟨n, v, tAt n v, tCode n v, tCount n2 v2, 0, e, tCells n2 v2⟩, ⟨by show tCount n2 v2 ≤ 100000; omega, m1, tCells_bel n2 v2⟩, by repeat' (first | exact trivial | exact rfl | refine And.intro ?_ ?_), rfl, by repeat' (first | exact trivial | exact rfl | refine And.intro ?_ ?_), ?_⟩
      refine bcase_mk (fun h => ?_) (fun _ => bcase_mk (fun _ => bcase_mk (fun _ => rfl) (fun h => ?_)) (fun h => ?_))
      · rw [g1] at h; cases h
      · have := eqIs (tAt n v); rw [this] at h; cases h
      · have := eqIs (tCode n v); rw [this] at h; cases h
    · refine bcase_mk (fun h => ?_) (fun _ => bcase_mk (fun _ => bcase_mk (fun _ => rfl) (fun h => ?_)) (fun h => ?_))
      · rw [g1] at h; cases h
      · have := eqIs (tAt n v); rw [this] at h; cases h
      · have := eqIs (tCode n v); rw [this] at h; cases h
end
end Go.Proofs.YtoeoaiipchklbaaDoor

/- LexLong: definitions. -/
import Derived.Test.YtoeoaiipchklbaaDoorV
set_option linter.unusedVariables false
set_option autoImplicit false
set_option linter.unusedVariables false
set_option maxRecDepth 100000
namespace Go.Proofs.YtoeoaiipchklbaaDoor
noncomputable section
open Go.X
/-- the text of n bytes c -/
def repT (n c : Nat) : Nat := packA (ltake (ldrop (reps n c) 0) n)
def isT (v : AV) : Prop := match v with
  | .bool b => Bool.rec False True b
  | _ => False
theorem isT_eq {v : AV} (h : isT v) : v = .bool true := by
  unfold isT at h
  split at h
  · rename_i b
    cases b with
    | true => rfl
    | false => exact h.elim
  · exact h.elim
def longR (e : TypeId) (a b c : Int) (K : AV → Prop) : Prop := xfun (C16 true) Tryd.prog (xcode (C16 true) Tryd.prog F) 6 [.int .i64 a, .int .i64 b, .int .i64 c] (hA e) [] (fun v _ _ => K v)
end
end Go.Proofs.YtoeoaiipchklbaaDoor
set_option autoImplicit false
set_option maxRecDepth 1000000
set_option maxHeartbeats 0
namespace Go.Proofs.YtoeoaiipchklbaaDoor
noncomputable section
open Go.X
theorem long_res (e : TypeId) (a b c : Nat) (K : AV → Prop) : longR e (.ofNat a) (.ofNat b) (.ofNat c) K = (bcase (ltI (Int.ofNat a) (Int.ofNat 1)) (K (AV.bool true)) (bcase (ltI (Int.ofNat 60) (Int.ofNat a)) (K (AV.bool true)) (bcase (ltI (Int.ofNat 20010) (Int.ofNat b)) (K (AV.bool true)) (bcase (ltI (Int.ofNat 65600) (Int.ofNat c)) (K (AV.bool true)) (bcase (Nat.ble a 100000000 && true) (bcase (true && (true && (Nat.beq (llen (ltake (ldrop (reps a 97) 0) a)) a && allB (ltake (ldrop (reps a 97) 0) a)))) (bcase (tOk a (packA (ltake (ldrop (reps a 97) 0) a))) (bcase (Nat.ble b 100000000 && true) (bcase (true && (true && (Nat.beq (llen (ltake (ldrop (reps b 59) 0) b)) b && allB (ltake (ldrop (reps b 59) 0) b)))) (bcase (tOk b (packA (ltake (ldrop (reps b 59) 0) b))) (bcase (Nat.ble c 100000000 && true) (bcase (true && (true && (Nat.beq (llen (ltake (ldrop (reps c 32) 0) c)) c && allB (ltake (ldrop (reps c 32) 0) c)))) (bcase (tOk c (packA (ltake (ldrop (reps c 32) 0) c))) (bcase (eqI (Int.ofNat (tCount a (packA (ltake (ldrop (reps a 97) 0) a)))) (Int.ofNat 2)) (bcase (ltI (Int.ofNat 40) (Int.ofNat a)) (bcase (ltI (Int.ofNat b) (Int.ofNat 20000)) (K (AV.bool false)) (K (AV.bool false))) (bcase (ltI (Int.ofNat b) (Int.ofNat 20000)) (bcase (ltI (Int.ofNat 65536) (Int.ofNat c)) (K (AV.bool false)) (K (AV.bool true))) (K (AV.bool false)))) (bcase (ltI (Int.ofNat b) (Int.ofNat 20000)) (K (AV.bool false)) (K (AV.bool false)))) (bcase (eqI (Int.ofNat (tCount a (packA (ltake (ldrop (reps a 97) 0) a)))) (Int.ofNat 2)) (bcase (ltI (Int.ofNat 40) (Int.ofNat a)) (bcase (ltI (Int.ofNat b) (Int.ofNat 20000)) (K (AV.bool false)) (K (AV.bool false))) (bcase (ltI (Int.ofNat b) (Int.ofNat 20000)) (bcase (eqI (Int.ofNat (tCode c (packA (ltake (ldrop (reps c 32) 0) c)))) (Int.ofNat 2)) (bcase (ltI (Int.ofNat 65536) (Int.ofNat c)) (K (AV.bool true)) (K (AV.bool false))) (bcase (ltI (Int.ofNat 65536) (Int.ofNat c)) (K (AV.bool false)) (K (AV.bool true)))) (K (AV.bool false)))) (bcase (ltI (Int.ofNat b) (Int.ofNat 20000)) (K (AV.bool false)) (K (AV.bool false))))) False) False) (bcase (Nat.ble c 100000000 && true) (bcase (true && (true && (Nat.beq (llen (ltake (ldrop (reps c 32) 0) c)) c && allB (ltake (ldrop (reps c 32) 0) c)))) (bcase (tOk c (packA (ltake (ldrop (reps c 32) 0) c))) (bcase (eqI (Int.ofNat (tCount a (packA (ltake (ldrop (reps a 97) 0) a)))) (Int.ofNat 2)) (bcase (ltI (Int.ofNat 40) (Int.ofNat a)) (bcase (eqI (Int.ofNat (tCode b (packA (ltake (ldrop (reps b 59) 0) b)))) (Int.ofNat 0)) (bcase (ltI (Int.ofNat b) (Int.ofNat 20000)) (K (AV.bool false)) (bcase (eqI (Int.ofNat (tCode b (packA (ltake (ldrop (reps b 59) 0) b)))) (Int.ofNat 2)) (bcase (ltI (Int.ofNat b) (Int.ofNat 20000)) (K (AV.bool false)) (bcase (eqI (Int.ofNat (tAt b (packA (ltake (ldrop (reps b 59) 0) b)))) (Int.ofNat 20000)) (K (AV.bool false)) (K (AV.bool false)))) (K (AV.bool false)))) (bcase (eqI (Int.ofNat (tCode b (packA (ltake (ldrop (reps b 59) 0) b)))) (Int.ofNat 2)) (bcase (ltI (Int.ofNat b) (Int.ofNat 20000)) (K (AV.bool false)) (bcase (eqI (Int.ofNat (tAt b (packA (ltake (ldrop (reps b 59) 0) b)))) (Int.ofNat 20000)) (K (AV.bool false)) (K (AV.bool false)))) (K (AV.bool false)))) (bcase (eqI (Int.ofNat (tCode b (packA (ltake (ldrop (reps b 59) 0) b)))) (Int.ofNat 0)) (bcase (ltI (Int.ofNat b) (Int.ofNat 20000)) (bcase (ltI (Int.ofNat 65536) (Int.ofNat c)) (K (AV.bool false)) (K (AV.bool true))) (bcase (eqI (Int.ofNat (tCode b (packA (ltake (ldrop (reps b 59) 0) b)))) (Int.ofNat 2)) (bcase (ltI (Int.ofNat b) (Int.ofNat 20000)) (K (AV.bool false)) (bcase (eqI (Int.ofNat (tAt b (packA (ltake (ldrop (reps b 59) 0) b)))) (Int.ofNat 20000)) (bcase (ltI (Int.ofNat 65536) (Int.ofNat c)) (K (AV.bool false)) (K (AV.bool true))) (K (AV.bool false)))) (K (AV.bool false)))) (bcase (eqI (Int.ofNat (tCode b (packA (ltake (ldrop (reps b 59) 0) b)))) (Int.ofNat 2)) (bcase (ltI (Int.ofNat b) (Int.ofNat 20000)) (K (AV.bool false)) (bcase (eqI (Int.ofNat (tAt b (packA (ltake (ldrop (reps b 59) 0) b)))) (Int.ofNat 20000)) (bcase (ltI (Int.ofNat 65536) (Int.ofNat c)) (K (AV.bool false)) (K (AV.bool true))) (K (AV.bool false)))) (K (AV.bool false))))) (bcase (eqI (Int.ofNat (tCode b (packA (ltake (ldrop (reps b 59) 0) b)))) (Int.ofNat 0)) (bcase (ltI (Int.ofNat b) (Int.ofNat 20000)) (K (AV.bool false)) (bcase (eqI (Int.ofNat (tCode b (packA (ltake (ldrop (reps b 59) 0) b)))) (Int.ofNat 2)) (bcase (ltI (Int.ofNat b) (Int.ofNat 20000)) (K (AV.bool false)) (bcase (eqI (Int.ofNat (tAt b (packA (ltake (ldrop (reps b 59) 0) b)))) (Int.ofNat 20000)) (K (AV.bool false)) (K (AV.bool false)))) (K (AV.bool false)))) (bcase (eqI (Int.ofNat (tCode b (packA (ltake (ldrop (reps b 59) 0) b)))) (Int.ofNat 2)) (bcase (ltI (Int.ofNat b) (Int.ofNat 20000)) (K (AV.bool false)) (bcase (eqI (Int.ofNat (tAt b (packA (ltake (ldrop (reps b 59) 0) b)))) (Int.ofNat 20000)) (K (AV.bool false)) (K (AV.bool false)))) (K (AV.bool false))))) (bcase (eqI (Int.ofNat (tCount a (packA (ltake (ldrop (reps a 97) 0) a)))) (Int.ofNat 2)) (bcase (ltI (Int.ofNat 40) (Int.ofNat a)) (bcase (eqI (Int.ofNat (tCode b (packA (ltake (ldrop (reps b 59) 0) b)))) (Int.ofNat 0)) (bcase (ltI (Int.ofNat b) (Int.ofNat 20000)) (K (AV.bool false)) (bcase (eqI (Int.ofNat (tCode b (packA (ltake (ldrop (reps b 59) 0) b)))) (Int.ofNat 2)) (bcase (ltI (Int.ofNat b) (Int.ofNat 20000)) (K (AV.bool false)) (bcase (eqI (Int.ofNat (tAt b (packA (ltake (ldrop (reps b 59) 0) b)))) (Int.ofNat 20000)) (K (AV.bool false)) (K (AV.bool false)))) (K (AV.bool false)))) (bcase (eqI (Int.ofNat (tCode b (packA (ltake (ldrop (reps b 59) 0) b)))) (Int.ofNat 2)) (bcase (ltI (Int.ofNat b) (Int.ofNat 20000)) (K (AV.bool false)) (bcase (eqI (Int.ofNat (tAt b (packA (ltake (ldrop (reps b 59) 0) b)))) (Int.ofNat 20000)) (K (AV.bool false)) (K (AV.bool false)))) (K (AV.bool false)))) (bcase (eqI (Int.ofNat (tCode b (packA (ltake (ldrop (reps b 59) 0) b)))) (Int.ofNat 0)) (bcase (ltI (Int.ofNat b) (Int.ofNat 20000)) (bcase (eqI (Int.ofNat (tCode c (packA (ltake (ldrop (reps c 32) 0) c)))) (Int.ofNat 2)) (bcase (ltI (Int.ofNat 65536) (Int.ofNat c)) (K (AV.bool true)) (K (AV.bool false))) (bcase (ltI (Int.ofNat 65536) (Int.ofNat c)) (K (AV.bool false)) (K (AV.bool true)))) (bcase (eqI (Int.ofNat (tCode b (packA (ltake (ldrop (reps b 59) 0) b)))) (Int.ofNat 2)) (bcase (ltI (Int.ofNat b) (Int.ofNat 20000)) (K (AV.bool false)) (bcase (eqI (Int.ofNat (tAt b (packA (ltake (ldrop (reps b 59) 0) b)))) (Int.ofNat 20000)) (bcase (eqI (Int.ofNat (tCode c (packA (ltake (ldrop (reps c 32) 0) c)))) (Int.ofNat 2)) (bcase (ltI (Int.ofNat 65536) (Int.ofNat c)) (K (AV.bool true)) (K (AV.bool false))) (bcase (ltI (Int.ofNat 65536) (Int.ofNat c)) (K (AV.bool false)) (K (AV.bool true)))) (K (AV.bool false)))) (K (AV.bool false)))) (bcase (eqI (Int.ofNat (tCode b (packA (ltake (ldrop (reps b 59) 0) b)))) (Int.ofNat 2)) (bcase (ltI (Int.ofNat b) (Int.ofNat 20000)) (K (AV.bool false)) (bcase (eqI (Int.ofNat (tAt b (packA (ltake (ldrop (reps b 59) 0) b)))) (Int.ofNat 20000)) (bcase (eqI (Int.ofNat (tCode c (packA (ltake (ldrop (reps c 32) 0) c)))) (Int.ofNat 2)) (bcase (ltI (Int.ofNat 65536) (Int.ofNat c)) (K (AV.bool true)) (K (AV.bool false))) (bcase (ltI (Int.ofNat 65536) (Int.ofNat c)) (K (AV.bool false)) (K (AV.bool true)))) (K (AV.bool false)))) (K (AV.bool false))))) (bcase (eqI (Int.ofNat (tCode b (packA (ltake (ldrop (reps b 59) 0) b)))) (Int.ofNat 0)) (bcase (ltI (Int.ofNat b) (Int.ofNat 20000)) (K (AV.bool false)) (bcase (eqI (Int.ofNat (tCode b (packA (ltake (ldrop (reps b 59) 0) b)))) (Int.ofNat 2)) (bcase (ltI (Int.ofNat b) (Int.ofNat 20000)) (K (AV.bool false)) (bcase (eqI (Int.ofNat (tAt b (packA (ltake (ldrop (reps b 59) 0) b)))) (Int.ofNat 20000)) (K (AV.bool false)) (K (AV.bool false)))) (K (AV.bool false)))) (bcase (eqI (Int.ofNat (tCode b (packA (ltake (ldrop (reps b 59) 0) b)))) (Int.ofNat 2)) (bcase (ltI (Int.ofNat b) (Int.ofNat 20000)) (K (AV.bool false)) (bcase (eqI (Int.ofNat (tAt b (packA (ltake (ldrop (reps b 59) 0) b)))) (Int.ofNat 20000)) (K (AV.bool false)) (K (AV.bool false)))) (K (AV.bool false)))))) False) False)) False) False) (bcase (Nat.ble b 100000000 && true) (bcase (true && (true && (Nat.beq (llen (ltake (ldrop (reps b 59) 0) b)) b && allB (ltake (ldrop (reps b 59) 0) b)))) (bcase (tOk b (packA (ltake (ldrop (reps b 59) 0) b))) (bcase (Nat.ble c 100000000 && true) (bcase (true && (true && (Nat.beq (llen (ltake (ldrop (reps c 32) 0) c)) c && allB (ltake (ldrop (reps c 32) 0) c)))) (bcase (tOk c (packA (ltake (ldrop (reps c 32) 0) c))) (bcase (eqI (Int.ofNat (tCode a (packA (ltake (ldrop (reps a 97) 0) a)))) (Int.ofNat 0)) (bcase (eqI (Int.ofNat (tCode a (packA (ltake (ldrop (reps a 97) 0) a)))) (Int.ofNat 2)) (bcase (ltI (Int.ofNat 40) (Int.ofNat a)) (bcase (ltI (Int.ofNat b) (Int.ofNat 20000)) (bcase (ltI (Int.ofNat 65536) (Int.ofNat c)) (K (AV.bool false)) (K (AV.bool true))) (K (AV.bool false))) (bcase (ltI (Int.ofNat b) (Int.ofNat 20000)) (K (AV.bool false)) (K (AV.bool false)))) (bcase (ltI (Int.ofNat b) (Int.ofNat 20000)) (K (AV.bool false)) (K (AV.bool false)))) (bcase (eqI (Int.ofNat (tCode a (packA (ltake (ldrop (reps a 97) 0) a)))) (Int.ofNat 2)) (bcase (ltI (Int.ofNat 40) (Int.ofNat a)) (bcase (ltI (Int.ofNat b) (Int.ofNat 20000)) (bcase (ltI (Int.ofNat 65536) (Int.ofNat c)) (K (AV.bool false)) (K (AV.bool true))) (K (AV.bool false))) (bcase (ltI (Int.ofNat b) (Int.ofNat 20000)) (K (AV.bool false)) (K (AV.bool false)))) (bcase (ltI (Int.ofNat b) (Int.ofNat 20000)) (K (AV.bool false)) (K (AV.bool false))))) (bcase (eqI (Int.ofNat (tCode a (packA (ltake (ldrop (reps a 97) 0) a)))) (Int.ofNat 0)) (bcase (eqI (Int.ofNat (tCode a (packA (ltake (ldrop (reps a 97) 0) a)))) (Int.ofNat 2)) (bcase (ltI (Int.ofNat 40) (Int.ofNat a)) (bcase (ltI (Int.ofNat b) (Int.ofNat 20000)) (bcase (eqI (Int.ofNat (tCode c (packA (ltake (ldrop (reps c 32) 0) c)))) (Int.ofNat 2)) (bcase (ltI (Int.ofNat 65536) (Int.ofNat c)) (K (AV.bool true)) (K (AV.bool false))) (bcase (ltI (Int.ofNat 65536) (Int.ofNat c)) (K (AV.bool false)) (K (AV.bool true)))) (K (AV.bool false))) (bcase (ltI (Int.ofNat b) (Int.ofNat 20000)) (K (AV.bool false)) (K (AV.bool false)))) (bcase (ltI (Int.ofNat b) (Int.ofNat 20000)) (K (AV.bool false)) (K (AV.bool false)))) (bcase (eqI (Int.ofNat (tCode a (packA (ltake (ldrop (reps a 97) 0) a)))) (Int.ofNat 2)) (bcase (ltI (Int.ofNat 40) (Int.ofNat a)) (bcase (ltI (Int.ofNat b) (Int.ofNat 20000)) (bcase (eqI (Int.ofNat (tCode c (packA (ltake (ldrop (reps c 32) 0) c)))) (Int.ofNat 2)) (bcase (ltI (Int.ofNat 65536) (Int.ofNat c)) (K (AV.bool true)) (K (AV.bool false))) (bcase (ltI (Int.ofNat 65536) (Int.ofNat c)) (K (AV.bool false)) (K (AV.bool true)))) (K (AV.bool false))) (bcase (ltI (Int.ofNat b) (Int.ofNat 20000)) (K (AV.bool false)) (K (AV.bool false)))) (bcase (ltI (Int.ofNat b) (Int.ofNat 20000)) (K (AV.bool false)) (K (AV.bool false)))))) False) False) (bcase (Nat.ble c 100000000 && true) (bcase (true && (true && (Nat.beq (llen (ltake (ldrop (reps c 32) 0) c)) c && allB (ltake (ldrop (reps c 32) 0) c)))) (bcase (tOk c (packA (ltake (ldrop (reps c 32) 0) c))) (bcase (eqI (Int.ofNat (tCode a (packA (ltake (ldrop (reps a 97) 0) a)))) (Int.ofNat 0)) (bcase (eqI (Int.ofNat (tCode a (packA (ltake (ldrop (reps a 97) 0) a)))) (Int.ofNat 2)) (bcase (ltI (Int.ofNat 40) (Int.ofNat a)) (bcase (eqI (Int.ofNat (tCode b (packA (ltake (ldrop (reps b 59) 0) b)))) (Int.ofNat 0)) (bcase (ltI (Int.ofNat b) (Int.ofNat 20000)) (bcase (ltI (Int.ofNat 65536) (Int.ofNat c)) (K (AV.bool false)) (K (AV.bool true))) (bcase (eqI (Int.ofNat (tCode b (packA (ltake (ldrop (reps b 59) 0) b)))) (Int.ofNat 2)) (bcase (ltI (Int.ofNat b) (Int.ofNat 20000)) (K (AV.bool false)) (bcase (eqI (Int.ofNat (tAt b (packA (ltake (ldrop (reps b 59) 0) b)))) (Int.ofNat 20000)) (bcase (ltI (Int.ofNat 65536) (Int.ofNat c)) (K (AV.bool false)) (K (AV.bool true))) (K (AV.bool false)))) (K (AV.bool false)))) (bcase (eqI (Int.ofNat (tCode b (packA (ltake (ldrop (reps b 59) 0) b)))) (Int.ofNat 2)) (bcase (ltI (Int.ofNat b) (Int.ofNat 20000)) (K (AV.bool false)) (bcase (eqI (Int.ofNat (tAt b (packA (ltake (ldrop (reps b 59) 0) b)))) (Int.ofNat 20000)) (bcase (ltI (Int.ofNat 65536) (Int.ofNat c)) (K (AV.bool false)) (K (AV.bool true))) (K (AV.bool false)))) (K (AV.bool false)))) (bcase (eqI (Int.ofNat (tCode b (packA (ltake (ldrop (reps b 59) 0) b)))) (Int.ofNat 0)) (bcase (ltI (Int.ofNat b) (Int.ofNat 20000)) (K (AV.bool false)) (bcase (eqI (Int.ofNat (tCode b (packA (ltake (ldrop (reps b 59) 0) b)))) (Int.ofNat 2)) (bcase (ltI (Int.ofNat b) (Int.ofNat 20000)) (K (AV.bool false)) (bcase (eqI (Int.ofNat (tAt b (packA (ltake (ldrop (reps b 59) 0) b)))) (Int.ofNat 20000)) (K (AV.bool false)) (K (AV.bool false)))) (K (AV.bool false)))) (bcase (eqI (Int.ofNat (tCode b (packA (ltake (ldrop (reps b 59) 0) b)))) (Int.ofNat 2)) (bcase (ltI (Int.ofNat b) (Int.ofNat 20000)) (K (AV.bool false)) (bcase (eqI (Int.ofNat (tAt b (packA (ltake (ldrop (reps b 59) 0) b)))) (Int.ofNat 20000)) (K (AV.bool false)) (K (AV.bool false)))) (K (AV.bool false))))) (bcase (eqI (Int.ofNat (tCode b (packA (ltake (ldrop (reps b 59) 0) b)))) (Int.ofNat 0)) (bcase (ltI (Int.ofNat b) (Int.ofNat 20000)) (K (AV.bool false)) (bcase (eqI (Int.ofNat (tCode b (packA (ltake (ldrop (reps b 59) 0) b)))) (Int.ofNat 2)) (bcase (ltI (Int.ofNat b) (Int.ofNat 20000)) (K (AV.bool false)) (bcase (eqI (Int.ofNat (tAt b (packA (ltake (ldrop (reps b 59) 0) b)))) (Int.ofNat 20000)) (K (AV.bool false)) (K (AV.bool false)))) (K (AV.bool false)))) (bcase (eqI (Int.ofNat (tCode b (packA (ltake (ldrop (reps b 59) 0) b)))) (Int.ofNat 2)) (bcase (ltI (Int.ofNat b) (Int.ofNat 20000)) (K (AV.bool false)) (bcase (eqI (Int.ofNat (tAt b (packA (ltake (ldrop (reps b 59) 0) b)))) (Int.ofNat 20000)) (K (AV.bool false)) (K (AV.bool false)))) (K (AV.bool false))))) (bcase (eqI (Int.ofNat (tCode a (packA (ltake (ldrop (reps a 97) 0) a)))) (Int.ofNat 2)) (bcase (ltI (Int.ofNat 40) (Int.ofNat a)) (bcase (eqI (Int.ofNat (tCode b (packA (ltake (ldrop (reps b 59) 0) b)))) (Int.ofNat 0)) (bcase (ltI (Int.ofNat b) (Int.ofNat 20000)) (bcase (ltI (Int.ofNat 65536) (Int.ofNat c)) (K (AV.bool false)) (K (AV.bool true))) (bcase (eqI (Int.ofNat (tCode b (packA (ltake (ldrop (reps b 59) 0) b)))) (Int.ofNat 2)) (bcase (ltI (Int.ofNat b) (Int.ofNat 20000)) (K (AV.bool false)) (bcase (eqI (Int.ofNat (tAt b (packA (ltake (ldrop (reps b 59) 0) b)))) (Int.ofNat 20000)) (bcase (ltI (Int.ofNat 65536) (Int.ofNat c)) (K (AV.bool false)) (K (AV.bool true))) (K (AV.bool false)))) (K (AV.bool false)))) (bcase (eqI (Int.ofNat (tCode b (packA (ltake (ldrop (reps b 59) 0) b)))) (Int.ofNat 2)) (bcase (ltI (Int.ofNat b) (Int.ofNat 20000)) (K (AV.bool false)) (bcase (eqI (Int.ofNat (tAt b (packA (ltake (ldrop (reps b 59) 0) b)))) (Int.ofNat 20000)) (bcase (ltI (Int.ofNat 65536) (Int.ofNat c)) (K (AV.bool false)) (K (AV.bool true))) (K (AV.bool false)))) (K (AV.bool false)))) (bcase (eqI (Int.ofNat (tCode b (packA (ltake (ldrop (reps b 59) 0) b)))) (Int.ofNat 0)) (bcase (ltI (Int.ofNat b) (Int.ofNat 20000)) (K (AV.bool false)) (bcase (eqI (Int.ofNat (tCode b (packA (ltake (ldrop (reps b 59) 0) b)))) (Int.ofNat 2)) (bcase (ltI (Int.ofNat b) (Int.ofNat 20000)) (K (AV.bool false)) (bcase (eqI (Int.ofNat (tAt b (packA (ltake (ldrop (reps b 59) 0) b)))) (Int.ofNat 20000)) (K (AV.bool false)) (K (AV.bool false)))) (K (AV.bool false)))) (bcase (eqI (Int.ofNat (tCode b (packA (ltake (ldrop (reps b 59) 0) b)))) (Int.ofNat 2)) (bcase (ltI (Int.ofNat b) (Int.ofNat 20000)) (K (AV.bool false)) (bcase (eqI (Int.ofNat (tAt b (packA (ltake (ldrop (reps b 59) 0) b)))) (Int.ofNat 20000)) (K (AV.bool false)) (K (AV.bool false)))) (K (AV.bool false))))) (bcase (eqI (Int.ofNat (tCode b (packA (ltake (ldrop (reps b 59) 0) b)))) (Int.ofNat 0)) (bcase (ltI (Int.ofNat b) (Int.ofNat 20000)) (K (AV.bool false)) (bcase (eqI (Int.ofNat (tCode b (packA (ltake (ldrop (reps b 59) 0) b)))) (Int.ofNat 2)) (bcase (ltI (Int.ofNat b) (Int.ofNat 20000)) (K (AV.bool false)) (bcase (eqI (Int.ofNat (tAt b (packA (ltake (ldrop (reps b 59) 0) b)))) (Int.ofNat 20000)) (K (AV.bool false)) (K (AV.bool false)))) (K (AV.bool false)))) (bcase (eqI (Int.ofNat (tCode b (packA (ltake (ldrop (reps b 59) 0) b)))) (Int.ofNat 2)) (bcase (ltI (Int.ofNat b) (Int.ofNat 20000)) (K (AV.bool false)) (bcase (eqI (Int.ofNat (tAt b (packA (ltake (ldrop (reps b 59) 0) b)))) (Int.ofNat 20000)) (K (AV.bool false)) (K (AV.bool false)))) (K (AV.bool false)))))) (bcase (eqI (Int.ofNat (tCode a (packA (ltake (ldrop (reps a 97) 0) a)))) (Int.ofNat 0)) (bcase (eqI (Int.ofNat (tCode a (packA (ltake (ldrop (reps a 97) 0) a)))) (Int.ofNat 2)) (bcase (ltI (Int.ofNat 40) (Int.ofNat a)) (bcase (eqI (Int.ofNat (tCode b (packA (ltake (ldrop (reps b 59) 0) b)))) (Int.ofNat 0)) (bcase (ltI (Int.ofNat b) (Int.ofNat 20000)) (bcase (eqI (Int.ofNat (tCode c (packA (ltake (ldrop (reps c 32) 0) c)))) (Int.ofNat 2)) (bcase (ltI (Int.ofNat 65536) (Int.ofNat c)) (K (AV.bool true)) (K (AV.bool false))) (bcase (ltI (Int.ofNat 65536) (Int.ofNat c)) (K (AV.bool false)) (K (AV.bool true)))) (bcase (eqI (Int.ofNat (tCode b (packA (ltake (ldrop (reps b 59) 0) b)))) (Int.ofNat 2)) (bcase (ltI (Int.ofNat b) (Int.ofNat 20000)) (K (AV.bool false)) (bcase (eqI (Int.ofNat (tAt b (packA (ltake (ldrop (reps b 59) 0) b)))) (Int.ofNat 20000)) (bcase (eqI (Int.ofNat (tCode c (packA (ltake (ldrop (reps c 32) 0) c)))) (Int.ofNat 2)) (bcase (ltI (Int.ofNat 65536) (Int.ofNat c)) (K (AV.bool true)) (K (AV.bool false))) (bcase (ltI (Int.ofNat 65536) (Int.ofNat c)) (K (AV.bool false)) (K (AV.bool true)))) (K (AV.bool false)))) (K (AV.bool false)))) (bcase (eqI (Int.ofNat (tCode b (packA (ltake (ldrop (reps b 59) 0) b)))) (Int.ofNat 2)) (bcase (ltI (Int.ofNat b) (Int.ofNat 20000)) (K (AV.bool false)) (bcase (eqI (Int.ofNat (tAt b (packA (ltake (ldrop (reps b 59) 0) b)))) (Int.ofNat 20000)) (bcase (eqI (Int.ofNat (tCode c (packA (ltake (ldrop (reps c 32) 0) c)))) (Int.ofNat 2)) (bcase (ltI (Int.ofNat 65536) (Int.ofNat c)) (K (AV.bool true)) (K (AV.bool false))) (bcase (ltI (Int.ofNat 65536) (Int.ofNat c)) (K (AV.bool false)) (K (AV.bool true)))) (K (AV.bool false)))) (K (AV.bool false)))) (bcase (eqI (Int.ofNat (tCode b (packA (ltake (ldrop (reps b 59) 0) b)))) (Int.ofNat 0)) (bcase (ltI (Int.ofNat b) (Int.ofNat 20000)) (K (AV.bool false)) (bcase (eqI (Int.ofNat (tCode b (packA (ltake (ldrop (reps b 59) 0) b)))) (Int.ofNat 2)) (bcase (ltI (Int.ofNat b) (Int.ofNat 20000)) (K (AV.bool false)) (bcase (eqI (Int.ofNat (tAt b (packA (ltake (ldrop (reps b 59) 0) b)))) (Int.ofNat 20000)) (K (AV.bool false)) (K (AV.bool false)))) (K (AV.bool false)))) (bcase (eqI (Int.ofNat (tCode b (packA (ltake (ldrop (reps b 59) 0) b)))) (Int.ofNat 2)) (bcase (ltI (Int.ofNat b) (Int.ofNat 20000)) (K (AV.bool false)) (bcase (eqI (Int.ofNat (tAt b (packA (ltake (ldrop (reps b 59) 0) b)))) (Int.ofNat 20000)) (K (AV.bool false)) (K (AV.bool false)))) (K (AV.bool false))))) (bcase (eqI (Int.ofNat (tCode b (packA (ltake (ldrop (reps b 59) 0) b)))) (Int.ofNat 0)) (bcase (ltI (Int.ofNat b) (Int.ofNat 20000)) (K (AV.bool false)) (bcase (eqI (Int.ofNat (tCode b (packA (ltake (ldrop (reps b 59) 0) b)))) (Int.ofNat 2)) (bcase (ltI (Int.ofNat b) (Int.ofNat 20000)) (K (AV.bool false)) (bcase (eqI (Int.ofNat (tAt b (packA (ltake (ldrop (reps b 59) 0) b)))) (Int.ofNat 20000)) (K (AV.bool false)) (K (AV.bool false)))) (K (AV.bool false)))) (bcase (eqI (Int.ofNat (tCode b (packA (ltake (ldrop (reps b 59) 0) b)))) (Int.ofNat 2)) (bcase (ltI (Int.ofNat b) (Int.ofNat 20000)) (K (AV.bool false)) (bcase (eqI (Int.ofNat (tAt b (packA (ltake (ldrop (reps b 59) 0) b)))) (Int.ofNat 20000)) (K (AV.bool false)) (K (AV.bool false)))) (K (AV.bool false))))) (bcase (eqI (Int.ofNat (tCode a (packA (ltake (ldrop (reps a 97) 0) a)))) (Int.ofNat 2)) (bcase (ltI (Int.ofNat 40) (Int.ofNat a)) (bcase (eqI (Int.ofNat (tCode b (packA (ltake (ldrop (reps b 59) 0) b)))) (Int.ofNat 0)) (bcase (ltI (Int.ofNat b) (Int.ofNat 20000)) (bcase (eqI (Int.ofNat (tCode c (packA (ltake (ldrop (reps c 32) 0) c)))) (Int.ofNat 2)) (bcase (ltI (Int.ofNat 65536) (Int.ofNat c)) (K (AV.bool true)) (K (AV.bool false))) (bcase (ltI (Int.ofNat 65536) (Int.ofNat c)) (K (AV.bool false)) (K (AV.bool true)))) (bcase (eqI (Int.ofNat (tCode b (packA (ltake (ldrop (reps b 59) 0) b)))) (Int.ofNat 2)) (bcase (ltI (Int.ofNat b) (Int.ofNat 20000)) (K (AV.bool false)) (bcase (eqI (Int.ofNat (tAt b (packA (ltake (ldrop (reps b 59) 0) b)))) (Int.ofNat 20000)) (bcase (eqI (Int.ofNat (tCode c (packA (ltake (ldrop (reps c 32) 0) c)))) (Int.ofNat 2)) (bcase (ltI (Int.ofNat 65536) (Int.ofNat c)) (K (AV.bool true)) (K (AV.bool false))) (bcase (ltI (Int.ofNat 65536) (Int.ofNat c)) (K (AV.bool false)) (K (AV.bool true)))) (K (AV.bool false)))) (K (AV.bool false)))) (bcase (eqI (Int.ofNat (tCode b (packA (ltake (ldrop (reps b 59) 0) b)))) (Int.ofNat 2)) (bcase (ltI (Int.ofNat b) (Int.ofNat 20000)) (K (AV.bool false)) (bcase (eqI (Int.ofNat (tAt b (packA (ltake (ldrop (reps b 59) 0) b)))) (Int.ofNat 20000)) (bcase (eqI (Int.ofNat (tCode c (packA (ltake (ldrop (reps c 32) 0) c)))) (Int.ofNat 2)) (bcase (ltI (Int.ofNat 65536) (Int.ofNat c)) (K (AV.bool true)) (K (AV.bool false))) (bcase (ltI (Int.ofNat 65536) (Int.ofNat c)) (K (AV.bool false)) (K (AV.bool true)))) (K (AV.bool false)))) (K (AV.bool false)))) (bcase (eqI (Int.ofNat (tCode b (packA (ltake (ldrop (reps b 59) 0) b)))) (Int.ofNat 0)) (bcase (ltI (Int.ofNat b) (Int.ofNat 20000)) (K (AV.bool false)) (bcase (eqI (Int.ofNat (tCode b (packA (ltake (ldrop (reps b 59) 0) b)))) (Int.ofNat 2)) (bcase (ltI (Int.ofNat b) (Int.ofNat 20000)) (K (AV.bool false)) (bcase (eqI (Int.ofNat (tAt b (packA (ltake (ldrop (reps b 59) 0) b)))) (Int.ofNat 20000)) (K (AV.bool false)) (K (AV.bool false)))) (K (AV.bool false)))) (bcase (eqI (Int.ofNat (tCode b (packA (ltake (ldrop (reps b 59) 0) b)))) (Int.ofNat 2)) (bcase (ltI (Int.ofNat b) (Int.ofNat 20000)) (K (AV.bool false)) (bcase (eqI (Int.ofNat (tAt b (packA (ltake (ldrop (reps b 59) 0) b)))) (Int.ofNat 20000)) (K (AV.bool false)) (K (AV.bool false)))) (K (AV.bool false))))) (bcase (eqI (Int.ofNat (tCode b (packA (ltake (ldrop (reps b 59) 0) b)))) (Int.ofNat 0)) (bcase (ltI (Int.ofNat b) (Int.ofNat 20000)) (K (AV.bool false)) (bcase (eqI (Int.ofNat (tCode b (packA (ltake (ldrop (reps b 59) 0) b)))) (Int.ofNat 2)) (bcase (ltI (Int.ofNat b) (Int.ofNat 20000)) (K (AV.bool false)) (bcase (eqI (Int.ofNat (tAt b (packA (ltake (ldrop (reps b 59) 0) b)))) (Int.ofNat 20000)) (K (AV.bool false)) (K (AV.bool false)))) (K (AV.bool false)))) (bcase (eqI (Int.ofNat (tCode b (packA (ltake (ldrop (reps b 59) 0) b)))) (Int.ofNat 2)) (bcase (ltI (Int.ofNat b) (Int.ofNat 20000)) (K (AV.bool false)) (bcase (eqI (Int.ofNat (tAt b (packA (ltake (ldrop (reps b 59) 0) b)))) (Int.ofNat 20000)) (K (AV.bool false)) (K (AV.bool false)))) (K (AV.bool false))))))) False) False)) False) False)) False) False))))) := by kernel_rfl
theorem long_n1 (e : TypeId) (a : Nat) (b c : Int) (K : AV → Prop) : longR e (.negSucc a) b c K = (K (AV.bool true)) := by kernel_rfl
theorem long_n2 (e : TypeId) (a b : Nat) (c : Int) (K : AV → Prop) : longR e (.ofNat a) (.negSucc b) c K = (bcase (ltI (Int.ofNat a) (Int.ofNat 1)) (K (AV.bool true)) (bcase (ltI (Int.ofNat 60) (Int.ofNat a)) (K (AV.bool true)) (K (AV.bool true)))) := by kernel_rfl
theorem long_n3 (e : TypeId) (a b c : Nat) (K : AV → Prop) : longR e (.ofNat a) (.ofNat b) (.negSucc c) K = (bcase (ltI (Int.ofNat a) (Int.ofNat 1)) (K (AV.bool true)) (bcase (ltI (Int.ofNat 60) (Int.ofNat a)) (K (AV.bool true)) (bcase (ltI (Int.ofNat 20010) (Int.ofNat b)) (K (AV.bool true)) (K (AV.bool true))))) := by kernel_rfl
end
end Go.Proofs.YtoeoaiipchklbaaDoor
/- Texts of one byte: their tokens. -/
set_option autoImplicit false
set_option linter.unusedVariables false
set_option maxRecDepth 100000
namespace Go.Proofs.YtoeoaiipchklbaaDoor
noncomputable section
open Go.X
def rT (n c : Nat) : Nat := packA (reps n c)
theorem cut_reps (n c : Nat) : ltake (ldrop (reps n c) 0) n = reps n c := by
  rw [ltake_eq, ldrop_eq, List.drop_zero]
  exact List.take_of_length_le (Nat.le_of_eq List.length_replicate)
theorem llen_reps (n c : Nat) : llen (reps n c) = n := by rw [llen_eq]; exact List.length_replicate
theorem allB_reps {c : Nat} (hc : c ≤ 255) : ∀ n, allB (reps n c) = true
  | 0 => rfl
  | n + 1 => by
    show Bool.and (Nat.ble c 255) (allB (reps n c)) = true
    rw [allB_reps hc n, Nat.ble_eq_true_of_le hc]; rfl
theorem rT_byte {c : Nat} (hc : c ≤ 255) : ∀ {n j : Nat}, j < n → byteAt (rT n c) j = c
  | n + 1, 0, _ => by
    have e : rT (n + 1) c = c + 256 * rT n c := rfl
    rw [byteAt_def, e]; omega
  | n + 1, j + 1, h => by
    have e : rT (n + 1) c = c + 256 * rT n c := rfl
    have ih := rT_byte hc (n := n) (j := j) (by omega)
    rw [byteAt_def] at ih
    have h2 : (c + 256 * rT n c) / 256 = rT n c := by omega
    rw [byteAt_def, e, Nat.pow_succ, Nat.mul_comm (256 ^ j) 256, ← Nat.div_div_eq_div_mul, h2, ih]
theorem scan_full {p : Nat → Bool} {v n : Nat} : ∀ (d i : Nat), n - i = d → i ≤ n → (∀ j, i ≤ j → j < n → p (byteAt v j) = true) → scan p v (n - i) i = n
  | 0, i, hd, hi, _ => by rw [hd]; show i = n; omega
  | d + 1, i, hd, hi, h => by
    rw [scan_yes (by omega) (h i (Nat.le_refl _) (by omega))]
    exact scan_full d (i + 1) (by omega) (by omega) fun j h1 h2 => h j (by omega) h2
/-- the next token behind the text -/
theorem nx_out {n v x : Nat} (h : bl v n x = n) : nx n v x = (false, 0, 5, 0, .ofNat 0, 0) := by
  have hb : Nat.ble (Nat.succ n) n = false := by rw [bleD, decide_eq_false_iff_not]; omega
  unfold nx; rw [h, hb]; rfl
theorem toks_out {n v x k : Nat} {cells : List AV} (hx : x ≤ n) (h : bl v n x = n) (hk : k ≠ 20000) : toks n v x cells k = ⟨true, 0, 0, lapp cells (nxTok n v x), k + 1⟩ := by
  have hn := nx_out h
  exact toks_end hx (by unfold nxE; rw [hn]) hk (by unfold nxK; rw [hn])
theorem bl_n (v n : Nat) : bl v n n = n := bl_end (Nat.lt_irrefl _)
/-- blanks -/
theorem bl_blanks {n : Nat} : ∀ (d x : Nat), n - x = d → x ≤ n → bl (rT n 32) n x = n
  | 0, x, hd, hx => by
    have : x = n := by omega
    subst this; exact bl_n _ _
  | d + 1, x, hd, hx => by
    have hb := rT_byte (c := 32) (by omega) (n := n) (j := x) (by omega)
    rw [bl_sp (by omega) (by rw [hb]; rfl)]
    exact bl_blanks d (x + 1) (by omega) (by omega)
theorem long_c {n : Nat} : (n ≤ 65536 → tOk n (rT n 32) = true) ∧ (65536 < n → tOk n (rT n 32) = false ∧ tCode n (rT n 32) = 2) := by
  refine ⟨fun h => ?_, fun h => ?_⟩
  · unfold tOk; rw [Nat.ble_eq_true_of_le h, toks_out (Nat.zero_le _) (bl_blanks _ 0 rfl (Nat.zero_le _)) (by decide)]; rfl
  · have hb : Nat.ble n 65536 = false := by rw [bleD, decide_eq_false_iff_not]; omega
    unfold tOk tCode; rw [hb]; exact ⟨rfl, rfl⟩
/-- letters -/
theorem long_a {n : Nat} (h1 : 1 ≤ n) (h2 : n ≤ 60) : (n ≤ 40 → tOk n (rT n 97) = true ∧ tCount n (rT n 97) = 2) ∧ (40 < n → tOk n (rT n 97) = false ∧ tCode n (rT n 97) = 2) := by
  have hb : ∀ j, j < n → byteAt (rT n 97) j = 97 := fun j hj => rT_byte (by omega) hj
  have h0 := hb 0 h1
  have e0 : bl (rT n 97) n 0 = 0 := bl_stop (by rw [h0]; rfl) (by unfold dash; rw [h0]; rfl)
  have ew : wordN n (rT n 97) 0 = n := by
    unfold wordN
    rw [scan_full _ 0 rfl (Nat.zero_le _) fun j _ hj => by rw [hb j hj]; rfl]
    exact Nat.sub_zero _
  have hn : Nat.ble (Nat.succ 0) n = true := Nat.ble_eq_true_of_le h1
  have h65 : Nat.ble n 65536 = true := Nat.ble_eq_true_of_le (by omega)
  have d1 : isD 97 = false := rfl
  have d2 : isL 97 = true := rfl
  have base : nx n (rT n 97) 0 = cond (Nat.ble n 40) (false, 0, cond (isKey n (subV (rT n 97) 0 (0 + n))) 3 1, n, .ofNat 0, 0) (true, 2, 0, 0, .ofNat 0, 0) := by
    unfold nx; rw [e0, hn, h0, d1, d2, ew]; rfl
  refine ⟨fun h => ?_, fun h => ?_⟩
  · rw [Nat.ble_eq_true_of_le h] at base
    have q1 : nxE n (rT n 97) 0 = false := by unfold nxE; rw [base]; rfl
    have q2 : nxK n (rT n 97) 0 ≠ 5 := by
      unfold nxK; rw [base]
      show cond (isKey n (subV (rT n 97) 0 (0 + n))) 3 1 ≠ 5
      cases isKey n (subV (rT n 97) 0 (0 + n)) <;> decide
    have q3 : nxX n (rT n 97) 0 = n := by
      unfold nxX nxL; rw [base, e0]; exact Nat.zero_add _
    have r1 := toks_next (k := 0) (cells := []) (Nat.zero_le _) q1 (by decide) q2
    rw [q3] at r1
    have r := r1.trans (toks_out (Nat.le_refl n) (bl_n _ _) (by decide))
    unfold tOk tCount; rw [h65, r]; exact ⟨rfl, rfl⟩
  · have hb : Nat.ble n 40 = false := by rw [bleD, decide_eq_false_iff_not]; omega
    rw [hb] at base
    have q1 : nxE n (rT n 97) 0 = true := by unfold nxE; rw [base]; rfl
    have q2 : nxC n (rT n 97) 0 = 2 := by unfold nxC; rw [base]; rfl
    have r : toks n (rT n 97) 0 [] 0 = _ := toks_err (Nat.zero_le _) q1
    unfold tOk tCode; rw [h65, r, q2]; exact ⟨rfl, rfl⟩
/-- signs -/
theorem semi_sLen {n x : Nat} (hx : x < n) : sLen n (rT n 59) x = 1 := by
  have h0 := rT_byte (c := 59) (by omega) hx
  have d1 : isOne 59 = true := by kernel_rfl
  unfold sLen
  rw [h0, d1]
  cases h : Nat.ble (x + 2) n with
  | false => rfl
  | true =>
    have h := bleT h
    have e : subV (rT n 59) x (x + 2) = 15163 := by
      refine (subV_eq_of ?_).2 fun i hi => ?_
      · rw [show x + 2 - x = 2 by omega]; decide
      · rw [rT_byte (by omega) (by omega)]
        match i with
        | 0 => rfl
        | 1 => rfl
        | i + 2 => omega
    rw [e]; rfl
theorem semi_nx {n x : Nat} (hx : x < n) : bl (rT n 59) n x = x ∧ nx n (rT n 59) x = (false, 0, 4, 1, .ofNat 0, 0) := by
  have h0 := rT_byte (c := 59) (by omega) hx
  have e0 : bl (rT n 59) n x = x := bl_stop (by rw [h0]; rfl) (by unfold dash; rw [h0]; rfl)
  have hn : Nat.ble (Nat.succ x) n = true := Nat.ble_eq_true_of_le hx
  have d1 : isD 59 = false := rfl
  have d2 : isL 59 = false := rfl
  refine ⟨e0, ?_⟩
  unfold nx; rw [e0, hn, h0, d1, d2, semi_sLen hx]; rfl
theorem semi_toks {n : Nat} : ∀ (d x : Nat) (cells : List AV), n - x = d → x ≤ n → x ≤ 20000 →
    (n < 20000 → (toks n (rT n 59) x cells x).ok = true) ∧ (20000 ≤ n → (toks n (rT n 59) x cells x).ok = false ∧ (toks n (rT n 59) x cells x).at_ = 20000 ∧ (toks n (rT n 59) x cells x).code = 2)
  | 0, x, cells, hd, hx, h2 => by
    have : x = n := by omega
    subst this
    by_cases hk : x = 20000
    · have q1 : nxE x (rT x 59) x = false := by unfold nxE; rw [nx_out (bl_n _ _)]
      rw [toks_many (Nat.le_refl _) q1 hk, bl_n]
      exact ⟨fun h => by omega, fun _ => ⟨rfl, hk, rfl⟩⟩
    · rw [toks_out (Nat.le_refl _) (bl_n _ _) hk]
      exact ⟨fun _ => rfl, fun h => by omega⟩
  | d + 1, x, cells, hd, hx, h2 => by
    obtain ⟨e1, e2⟩ := semi_nx (n := n) (x := x) (by omega)
    have q1 : nxE n (rT n 59) x = false := by unfold nxE; rw [e2]
    by_cases hk : x = 20000
    · rw [toks_many hx q1 hk, e1]
      exact ⟨fun h => by omega, fun _ => ⟨rfl, hk, rfl⟩⟩
    · have q2 : nxK n (rT n 59) x ≠ 5 := by unfold nxK; rw [e2]; decide
      have q3 : nxX n (rT n 59) x = x + 1 := by unfold nxX nxL; rw [e1, e2]
      rw [toks_next hx q1 hk q2, q3]
      exact semi_toks d (x + 1) _ (by omega) (by omega) (by omega)
theorem long_b {n : Nat} (h : n ≤ 20010) : (n < 20000 → tOk n (rT n 59) = true) ∧ (20000 ≤ n → tOk n (rT n 59) = false ∧ tAt n (rT n 59) = 20000 ∧ tCode n (rT n 59) = 2) := by
  have h65 : Nat.ble n 65536 = true := Nat.ble_eq_true_of_le (by omega)
  have := semi_toks (n := n) _ 0 [] rfl (Nat.zero_le _) (Nat.zero_le _)
  unfold tOk tAt tCode; rw [h65]; exact this
end
end Go.Proofs.YtoeoaiipchklbaaDoor
/- LexLong: the run. -/
set_option autoImplicit false
set_option linter.unusedVariables false
set_option maxRecDepth 100000
set_option maxHeartbeats 1000000
namespace Go.Proofs.YtoeoaiipchklbaaDoor
noncomputable section
open Go.X
theorem ltNT {a b : Nat} (h : a < b) : ltI (Int.ofNat a) (Int.ofNat b) = true := by rw [ltN, decide_eq_true_iff]; exact h
theorem ltNF {a b : Nat} (h : b ≤ a) : ltI (Int.ofNat a) (Int.ofNat b) = false := by rw [ltN, decide_eq_false_iff_not]; omega
theorem eqNT {a b : Nat} (h : a = b) : eqI (Int.ofNat a) (Int.ofNat b) = true := by rw [eqN, decide_eq_true_iff]; exact h
theorem eqNF {a b : Nat} (h : a ≠ b) : eqI (Int.ofNat a) (Int.ofNat b) = false := by rw [eqN, decide_eq_false_iff_not]; exact h
theorem bcase_T (t f : Prop) : bcase true t f = t := rfl
theorem bcase_F (t f : Prop) : bcase false t f = f := rfl
theorem long_all (e : TypeId) (a b c : Int) : Ran (longR e a b c (fun v => v = .bool true)) := by
  cases a with
  | negSucc a => exact ⟨Eq.mpr (long_n1 e a b c _) rfl⟩
  | ofNat a =>
    cases b with
    | negSucc b => exact ⟨Eq.mpr (long_n2 e a b c _) (bcase_mk (fun _ => rfl) fun _ => bcase_mk (fun _ => rfl) fun _ => rfl)⟩
    | ofNat b =>
      cases c with
      | negSucc c => exact ⟨Eq.mpr (long_n3 e a b c _) (bcase_mk (fun _ => rfl) fun _ => bcase_mk (fun _ => rfl) fun _ => bcase_mk (fun _ => rfl) fun _ => rfl)⟩
      | ofNat c =>
        refine ⟨Eq.mpr (long_res e a b c _) ?_⟩
        refine bcase_mk (fun _ => rfl) fun h1 => bcase_mk (fun _ => rfl) fun h2 => bcase_mk (fun _ => rfl) fun h3 => bcase_mk (fun _ => rfl) fun h4 => ?_
        have h1 := ltF h1
        have h2 := ltF h2
        have h3 := ltF h3
        have h4 := ltF h4
        obtain ⟨A1, A2⟩ := long_a (n := a) (by omega) (by omega)
        obtain ⟨B1, B2⟩ := long_b (n := b) (by omega)
        obtain ⟨C1, C2⟩ := long_c (n := c)
        have ba : Nat.ble a 100000000 = true := Nat.ble_eq_true_of_le (by omega)
        have bb : Nat.ble b 100000000 = true := Nat.ble_eq_true_of_le (by omega)
        have bc : Nat.ble c 100000000 = true := Nat.ble_eq_true_of_le (by omega)
        have qn : ∀ n, Nat.beq n n = true := fun n => by rw [beqD]; simp
        unfold rT at A1 A2 B1 B2 C1 C2
        simp only [cut_reps, llen_reps, allB_reps (show 97 ≤ 255 by omega), allB_reps (show 59 ≤ 255 by omega), allB_reps (show 32 ≤ 255 by omega), qn, ba, bb, bc, Bool.and_self, bcase_T]
        have z22 : eqI (Int.ofNat 2) (Int.ofNat 2) = true := eqNT rfl
        have z20 : eqI (Int.ofNat 2) (Int.ofNat 0) = false := eqNF (by omega)
        have zkk : eqI (Int.ofNat 20000) (Int.ofNat 20000) = true := eqNT rfl
        by_cases ka : a ≤ 40
        · obtain ⟨a1, a2⟩ := A1 ka
          have ka' := ltNF ka
          by_cases kb : b < 20000
          · have b1 := B1 kb
            have kb' := ltNT kb
            by_cases kc : c ≤ 65536
            · have c1 := C1 kc
              have kc' := ltNF kc
              simp only [a1, a2, b1, c1, ka', kb', kc', z22, bcase_T, bcase_F]
            · obtain ⟨c1, c2⟩ := C2 (by omega)
              have kc' := ltNT (show 65536 < c by omega)
              simp only [a1, a2, b1, c1, c2, ka', kb', kc', z22, bcase_T, bcase_F]
          · obtain ⟨b1, b2, b3⟩ := B2 (by omega)
            have kb' := ltNF (show 20000 ≤ b by omega)
            by_cases kc : c ≤ 65536
            · have c1 := C1 kc
              have kc' := ltNF kc
              simp only [a1, a2, b1, b2, b3, c1, ka', kb', kc', z22, z20, zkk, bcase_T, bcase_F]
            · obtain ⟨c1, c2⟩ := C2 (by omega)
              have kc' := ltNT (show 65536 < c by omega)
              simp only [a1, a2, b1, b2, b3, c1, c2, ka', kb', kc', z22, z20, zkk, bcase_T, bcase_F]
        · obtain ⟨a1, a2⟩ := A2 (by omega)
          have ka' := ltNT (show 40 < a by omega)
          by_cases kb : b < 20000
          · have b1 := B1 kb
            have kb' := ltNT kb
            by_cases kc : c ≤ 65536
            · have c1 := C1 kc
              have kc' := ltNF kc
              simp only [a1, a2, b1, c1, ka', kb', kc', z22, z20, bcase_T, bcase_F]
            · obtain ⟨c1, c2⟩ := C2 (by omega)
              have kc' := ltNT (show 65536 < c by omega)
              simp only [a1, a2, b1, c1, c2, ka', kb', kc', z22, z20, bcase_T, bcase_F]
          · obtain ⟨b1, b2, b3⟩ := B2 (by omega)
            have kb' := ltNF (show 20000 ≤ b by omega)
            by_cases kc : c ≤ 65536
            · have c1 := C1 kc
              have kc' := ltNF kc
              simp only [a1, a2, b1, b2, b3, c1, ka', kb', kc', z22, z20, zkk, bcase_T, bcase_F]
            · obtain ⟨c1, c2⟩ := C2 (by omega)
              have kc' := ltNT (show 65536 < c by omega)
              simp only [a1, a2, b1, b2, b3, c1, c2, ka', kb', kc', z22, z20, zkk, bcase_T, bcase_F]
end
end Go.Proofs.YtoeoaiipchklbaaDoor

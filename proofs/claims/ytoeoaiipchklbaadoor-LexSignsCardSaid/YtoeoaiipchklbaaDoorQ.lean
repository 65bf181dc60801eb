/- LexSigns: the runs. -/
import Derived.Test.YtoeoaiipchklbaaDoorL5
set_option linter.unusedVariables false
set_option autoImplicit false
set_option linter.unusedVariables false
set_option maxRecDepth 1000000
set_option maxHeartbeats 1000000
namespace Go.Proofs.YtoeoaiipchklbaaDoor
noncomputable section
open Go.X
def isT (v : AV) : Prop := match v with
  | .bool b => Bool.rec False True b
  | _ => False
theorem isT_eq {v : AV} (h : isT v) : v = .bool true := by
  unfold isT at h
  split at h
  · rename_i b
    cases b with
    | true => rfl
    | false => exact h.elim
  · exact h.elim
/-- the law answers true -/
def signs (e : TypeId) (i j : Int) : Prop := xfun (C15 true) Tryd.prog (xcode (C15 true) Tryd.prog F) 8 [.int .i64 i, .int .i64 j] (hA e) [] (fun v _ _ => isT v)
theorem each23 {p : Int → Prop} (hN : ∀ k, p (.negSucc k)) (hB : ∀ k, p (.ofNat (k + 23))) (h0 : p (.ofNat 0)) (h1 : p (.ofNat 1)) (h2 : p (.ofNat 2)) (h3 : p (.ofNat 3)) (h4 : p (.ofNat 4)) (h5 : p (.ofNat 5)) (h6 : p (.ofNat 6)) (h7 : p (.ofNat 7)) (h8 : p (.ofNat 8)) (h9 : p (.ofNat 9)) (h10 : p (.ofNat 10)) (h11 : p (.ofNat 11)) (h12 : p (.ofNat 12)) (h13 : p (.ofNat 13)) (h14 : p (.ofNat 14)) (h15 : p (.ofNat 15)) (h16 : p (.ofNat 16)) (h17 : p (.ofNat 17)) (h18 : p (.ofNat 18)) (h19 : p (.ofNat 19)) (h20 : p (.ofNat 20)) (h21 : p (.ofNat 21)) (h22 : p (.ofNat 22)) (a : Int) : p a := by
  match a with
  | .negSucc k => exact hN k
  | .ofNat 0 => exact h0
  | .ofNat 1 => exact h1
  | .ofNat 2 => exact h2
  | .ofNat 3 => exact h3
  | .ofNat 4 => exact h4
  | .ofNat 5 => exact h5
  | .ofNat 6 => exact h6
  | .ofNat 7 => exact h7
  | .ofNat 8 => exact h8
  | .ofNat 9 => exact h9
  | .ofNat 10 => exact h10
  | .ofNat 11 => exact h11
  | .ofNat 12 => exact h12
  | .ofNat 13 => exact h13
  | .ofNat 14 => exact h14
  | .ofNat 15 => exact h15
  | .ofNat 16 => exact h16
  | .ofNat 17 => exact h17
  | .ofNat 18 => exact h18
  | .ofNat 19 => exact h19
  | .ofNat 20 => exact h20
  | .ofNat 21 => exact h21
  | .ofNat 22 => exact h22
  | .ofNat (k + 23) => exact hB k
theorem signsN (e : TypeId) (k : Nat) (j : Int) : signs e (.negSucc k) j = True := by kernel_rfl
theorem signsB (e : TypeId) (k : Nat) (j : Int) : signs e (.ofNat (k + 23)) j = True := by kernel_rfl
end
end Go.Proofs.YtoeoaiipchklbaaDoor

/- LexSigns: the runs. -/
import Derived.Test.YtoeoaiipchklbaaDoorQ
set_option linter.unusedVariables false
set_option autoImplicit false
set_option linter.unusedVariables false
set_option maxRecDepth 1000000
set_option maxHeartbeats 1000000
namespace Go.Proofs.YtoeoaiipchklbaaDoor
noncomputable section
open Go.X
theorem signsN4 (e : TypeId) (k : Nat) : signs e (.ofNat 4) (.negSucc k) = True := by kernel_rfl
theorem signsB4 (e : TypeId) (k : Nat) : signs e (.ofNat 4) (.ofNat (k + 23)) = True := by kernel_rfl
theorem signs4x0 (e : TypeId) : signs e (.ofNat 4) (.ofNat 0) = True := by kernel_rfl
theorem signs4x1 (e : TypeId) : signs e (.ofNat 4) (.ofNat 1) = True := by kernel_rfl
theorem signs4x2 (e : TypeId) : signs e (.ofNat 4) (.ofNat 2) = True := by kernel_rfl
theorem signs4x3 (e : TypeId) : signs e (.ofNat 4) (.ofNat 3) = True := by kernel_rfl
theorem signs4x4 (e : TypeId) : signs e (.ofNat 4) (.ofNat 4) = True := by kernel_rfl
theorem signs4x5 (e : TypeId) : signs e (.ofNat 4) (.ofNat 5) = True := by kernel_rfl
theorem signs4x6 (e : TypeId) : signs e (.ofNat 4) (.ofNat 6) = True := by kernel_rfl
theorem signs4x7 (e : TypeId) : signs e (.ofNat 4) (.ofNat 7) = True := by kernel_rfl
theorem signs4x8 (e : TypeId) : signs e (.ofNat 4) (.ofNat 8) = True := by kernel_rfl
theorem signs4x9 (e : TypeId) : signs e (.ofNat 4) (.ofNat 9) = True := by kernel_rfl
theorem signs4x10 (e : TypeId) : signs e (.ofNat 4) (.ofNat 10) = True := by kernel_rfl
theorem signs4x11 (e : TypeId) : signs e (.ofNat 4) (.ofNat 11) = True := by kernel_rfl
theorem signs4x12 (e : TypeId) : signs e (.ofNat 4) (.ofNat 12) = True := by kernel_rfl
theorem signs4x13 (e : TypeId) : signs e (.ofNat 4) (.ofNat 13) = True := by kernel_rfl
theorem signs4x14 (e : TypeId) : signs e (.ofNat 4) (.ofNat 14) = True := by kernel_rfl
theorem signs4x15 (e : TypeId) : signs e (.ofNat 4) (.ofNat 15) = True := by kernel_rfl
theorem signs4x16 (e : TypeId) : signs e (.ofNat 4) (.ofNat 16) = True := by kernel_rfl
theorem signs4x17 (e : TypeId) : signs e (.ofNat 4) (.ofNat 17) = True := by kernel_rfl
theorem signs4x18 (e : TypeId) : signs e (.ofNat 4) (.ofNat 18) = True := by kernel_rfl
theorem signs4x19 (e : TypeId) : signs e (.ofNat 4) (.ofNat 19) = True := by kernel_rfl
theorem signs4x20 (e : TypeId) : signs e (.ofNat 4) (.ofNat 20) = True := by kernel_rfl
theorem signs4x21 (e : TypeId) : signs e (.ofNat 4) (.ofNat 21) = True := by kernel_rfl
theorem signs4x22 (e : TypeId) : signs e (.ofNat 4) (.ofNat 22) = True := by kernel_rfl
theorem signs4 (e : TypeId) (j : Int) : Ran (signs e (.ofNat 4) j) :=
  each23 (p := fun j => Ran (signs e (.ofNat 4) j)) (fun k => ran_of (signsN4 e k)) (fun k => ran_of (signsB4 e k)) (ran_of (signs4x0 e)) (ran_of (signs4x1 e)) (ran_of (signs4x2 e)) (ran_of (signs4x3 e)) (ran_of (signs4x4 e)) (ran_of (signs4x5 e)) (ran_of (signs4x6 e)) (ran_of (signs4x7 e)) (ran_of (signs4x8 e)) (ran_of (signs4x9 e)) (ran_of (signs4x10 e)) (ran_of (signs4x11 e)) (ran_of (signs4x12 e)) (ran_of (signs4x13 e)) (ran_of (signs4x14 e)) (ran_of (signs4x15 e)) (ran_of (signs4x16 e)) (ran_of (signs4x17 e)) (ran_of (signs4x18 e)) (ran_of (signs4x19 e)) (ran_of (signs4x20 e)) (ran_of (signs4x21 e)) (ran_of (signs4x22 e)) j
theorem signsN5 (e : TypeId) (k : Nat) : signs e (.ofNat 5) (.negSucc k) = True := by kernel_rfl
theorem signsB5 (e : TypeId) (k : Nat) : signs e (.ofNat 5) (.ofNat (k + 23)) = True := by kernel_rfl
theorem signs5x0 (e : TypeId) : signs e (.ofNat 5) (.ofNat 0) = True := by kernel_rfl
theorem signs5x1 (e : TypeId) : signs e (.ofNat 5) (.ofNat 1) = True := by kernel_rfl
theorem signs5x2 (e : TypeId) : signs e (.ofNat 5) (.ofNat 2) = True := by kernel_rfl
theorem signs5x3 (e : TypeId) : signs e (.ofNat 5) (.ofNat 3) = True := by kernel_rfl
theorem signs5x4 (e : TypeId) : signs e (.ofNat 5) (.ofNat 4) = True := by kernel_rfl
theorem signs5x5 (e : TypeId) : signs e (.ofNat 5) (.ofNat 5) = True := by kernel_rfl
theorem signs5x6 (e : TypeId) : signs e (.ofNat 5) (.ofNat 6) = True := by kernel_rfl
theorem signs5x7 (e : TypeId) : signs e (.ofNat 5) (.ofNat 7) = True := by kernel_rfl
theorem signs5x8 (e : TypeId) : signs e (.ofNat 5) (.ofNat 8) = True := by kernel_rfl
theorem signs5x9 (e : TypeId) : signs e (.ofNat 5) (.ofNat 9) = True := by kernel_rfl
theorem signs5x10 (e : TypeId) : signs e (.ofNat 5) (.ofNat 10) = True := by kernel_rfl
theorem signs5x11 (e : TypeId) : signs e (.ofNat 5) (.ofNat 11) = True := by kernel_rfl
theorem signs5x12 (e : TypeId) : signs e (.ofNat 5) (.ofNat 12) = True := by kernel_rfl
theorem signs5x13 (e : TypeId) : signs e (.ofNat 5) (.ofNat 13) = True := by kernel_rfl
theorem signs5x14 (e : TypeId) : signs e (.ofNat 5) (.ofNat 14) = True := by kernel_rfl
theorem signs5x15 (e : TypeId) : signs e (.ofNat 5) (.ofNat 15) = True := by kernel_rfl
theorem signs5x16 (e : TypeId) : signs e (.ofNat 5) (.ofNat 16) = True := by kernel_rfl
theorem signs5x17 (e : TypeId) : signs e (.ofNat 5) (.ofNat 17) = True := by kernel_rfl
theorem signs5x18 (e : TypeId) : signs e (.ofNat 5) (.ofNat 18) = True := by kernel_rfl
theorem signs5x19 (e : TypeId) : signs e (.ofNat 5) (.ofNat 19) = True := by kernel_rfl
theorem signs5x20 (e : TypeId) : signs e (.ofNat 5) (.ofNat 20) = True := by kernel_rfl
theorem signs5x21 (e : TypeId) : signs e (.ofNat 5) (.ofNat 21) = True := by kernel_rfl
theorem signs5x22 (e : TypeId) : signs e (.ofNat 5) (.ofNat 22) = True := by kernel_rfl
theorem signs5 (e : TypeId) (j : Int) : Ran (signs e (.ofNat 5) j) :=
  each23 (p := fun j => Ran (signs e (.ofNat 5) j)) (fun k => ran_of (signsN5 e k)) (fun k => ran_of (signsB5 e k)) (ran_of (signs5x0 e)) (ran_of (signs5x1 e)) (ran_of (signs5x2 e)) (ran_of (signs5x3 e)) (ran_of (signs5x4 e)) (ran_of (signs5x5 e)) (ran_of (signs5x6 e)) (ran_of (signs5x7 e)) (ran_of (signs5x8 e)) (ran_of (signs5x9 e)) (ran_of (signs5x10 e)) (ran_of (signs5x11 e)) (ran_of (signs5x12 e)) (ran_of (signs5x13 e)) (ran_of (signs5x14 e)) (ran_of (signs5x15 e)) (ran_of (signs5x16 e)) (ran_of (signs5x17 e)) (ran_of (signs5x18 e)) (ran_of (signs5x19 e)) (ran_of (signs5x20 e)) (ran_of (signs5x21 e)) (ran_of (signs5x22 e)) j
theorem signsN6 (e : TypeId) (k : Nat) : signs e (.ofNat 6) (.negSucc k) = True := by kernel_rfl
theorem signsB6 (e : TypeId) (k : Nat) : signs e (.ofNat 6) (.ofNat (k + 23)) = True := by kernel_rfl
theorem signs6x0 (e : TypeId) : signs e (.ofNat 6) (.ofNat 0) = True := by kernel_rfl
theorem signs6x1 (e : TypeId) : signs e (.ofNat 6) (.ofNat 1) = True := by kernel_rfl
theorem signs6x2 (e : TypeId) : signs e (.ofNat 6) (.ofNat 2) = True := by kernel_rfl
theorem signs6x3 (e : TypeId) : signs e (.ofNat 6) (.ofNat 3) = True := by kernel_rfl
theorem signs6x4 (e : TypeId) : signs e (.ofNat 6) (.ofNat 4) = True := by kernel_rfl
theorem signs6x5 (e : TypeId) : signs e (.ofNat 6) (.ofNat 5) = True := by kernel_rfl
theorem signs6x6 (e : TypeId) : signs e (.ofNat 6) (.ofNat 6) = True := by kernel_rfl
theorem signs6x7 (e : TypeId) : signs e (.ofNat 6) (.ofNat 7) = True := by kernel_rfl
theorem signs6x8 (e : TypeId) : signs e (.ofNat 6) (.ofNat 8) = True := by kernel_rfl
theorem signs6x9 (e : TypeId) : signs e (.ofNat 6) (.ofNat 9) = True := by kernel_rfl
theorem signs6x10 (e : TypeId) : signs e (.ofNat 6) (.ofNat 10) = True := by kernel_rfl
theorem signs6x11 (e : TypeId) : signs e (.ofNat 6) (.ofNat 11) = True := by kernel_rfl
theorem signs6x12 (e : TypeId) : signs e (.ofNat 6) (.ofNat 12) = True := by kernel_rfl
theorem signs6x13 (e : TypeId) : signs e (.ofNat 6) (.ofNat 13) = True := by kernel_rfl
theorem signs6x14 (e : TypeId) : signs e (.ofNat 6) (.ofNat 14) = True := by kernel_rfl
theorem signs6x15 (e : TypeId) : signs e (.ofNat 6) (.ofNat 15) = True := by kernel_rfl
theorem signs6x16 (e : TypeId) : signs e (.ofNat 6) (.ofNat 16) = True := by kernel_rfl
theorem signs6x17 (e : TypeId) : signs e (.ofNat 6) (.ofNat 17) = True := by kernel_rfl
theorem signs6x18 (e : TypeId) : signs e (.ofNat 6) (.ofNat 18) = True := by kernel_rfl
theorem signs6x19 (e : TypeId) : signs e (.ofNat 6) (.ofNat 19) = True := by kernel_rfl
theorem signs6x20 (e : TypeId) : signs e (.ofNat 6) (.ofNat 20) = True := by kernel_rfl
theorem signs6x21 (e : TypeId) : signs e (.ofNat 6) (.ofNat 21) = True := by kernel_rfl
theorem signs6x22 (e : TypeId) : signs e (.ofNat 6) (.ofNat 22) = True := by kernel_rfl
theorem signs6 (e : TypeId) (j : Int) : Ran (signs e (.ofNat 6) j) :=
  each23 (p := fun j => Ran (signs e (.ofNat 6) j)) (fun k => ran_of (signsN6 e k)) (fun k => ran_of (signsB6 e k)) (ran_of (signs6x0 e)) (ran_of (signs6x1 e)) (ran_of (signs6x2 e)) (ran_of (signs6x3 e)) (ran_of (signs6x4 e)) (ran_of (signs6x5 e)) (ran_of (signs6x6 e)) (ran_of (signs6x7 e)) (ran_of (signs6x8 e)) (ran_of (signs6x9 e)) (ran_of (signs6x10 e)) (ran_of (signs6x11 e)) (ran_of (signs6x12 e)) (ran_of (signs6x13 e)) (ran_of (signs6x14 e)) (ran_of (signs6x15 e)) (ran_of (signs6x16 e)) (ran_of (signs6x17 e)) (ran_of (signs6x18 e)) (ran_of (signs6x19 e)) (ran_of (signs6x20 e)) (ran_of (signs6x21 e)) (ran_of (signs6x22 e)) j
theorem signsN7 (e : TypeId) (k : Nat) : signs e (.ofNat 7) (.negSucc k) = True := by kernel_rfl
theorem signsB7 (e : TypeId) (k : Nat) : signs e (.ofNat 7) (.ofNat (k + 23)) = True := by kernel_rfl
theorem signs7x0 (e : TypeId) : signs e (.ofNat 7) (.ofNat 0) = True := by kernel_rfl
theorem signs7x1 (e : TypeId) : signs e (.ofNat 7) (.ofNat 1) = True := by kernel_rfl
theorem signs7x2 (e : TypeId) : signs e (.ofNat 7) (.ofNat 2) = True := by kernel_rfl
theorem signs7x3 (e : TypeId) : signs e (.ofNat 7) (.ofNat 3) = True := by kernel_rfl
theorem signs7x4 (e : TypeId) : signs e (.ofNat 7) (.ofNat 4) = True := by kernel_rfl
theorem signs7x5 (e : TypeId) : signs e (.ofNat 7) (.ofNat 5) = True := by kernel_rfl
theorem signs7x6 (e : TypeId) : signs e (.ofNat 7) (.ofNat 6) = True := by kernel_rfl
theorem signs7x7 (e : TypeId) : signs e (.ofNat 7) (.ofNat 7) = True := by kernel_rfl
theorem signs7x8 (e : TypeId) : signs e (.ofNat 7) (.ofNat 8) = True := by kernel_rfl
theorem signs7x9 (e : TypeId) : signs e (.ofNat 7) (.ofNat 9) = True := by kernel_rfl
theorem signs7x10 (e : TypeId) : signs e (.ofNat 7) (.ofNat 10) = True := by kernel_rfl
theorem signs7x11 (e : TypeId) : signs e (.ofNat 7) (.ofNat 11) = True := by kernel_rfl
theorem signs7x12 (e : TypeId) : signs e (.ofNat 7) (.ofNat 12) = True := by kernel_rfl
theorem signs7x13 (e : TypeId) : signs e (.ofNat 7) (.ofNat 13) = True := by kernel_rfl
theorem signs7x14 (e : TypeId) : signs e (.ofNat 7) (.ofNat 14) = True := by kernel_rfl
theorem signs7x15 (e : TypeId) : signs e (.ofNat 7) (.ofNat 15) = True := by kernel_rfl
theorem signs7x16 (e : TypeId) : signs e (.ofNat 7) (.ofNat 16) = True := by kernel_rfl
theorem signs7x17 (e : TypeId) : signs e (.ofNat 7) (.ofNat 17) = True := by kernel_rfl
theorem signs7x18 (e : TypeId) : signs e (.ofNat 7) (.ofNat 18) = True := by kernel_rfl
theorem signs7x19 (e : TypeId) : signs e (.ofNat 7) (.ofNat 19) = True := by kernel_rfl
theorem signs7x20 (e : TypeId) : signs e (.ofNat 7) (.ofNat 20) = True := by kernel_rfl
theorem signs7x21 (e : TypeId) : signs e (.ofNat 7) (.ofNat 21) = True := by kernel_rfl
theorem signs7x22 (e : TypeId) : signs e (.ofNat 7) (.ofNat 22) = True := by kernel_rfl
theorem signs7 (e : TypeId) (j : Int) : Ran (signs e (.ofNat 7) j) :=
  each23 (p := fun j => Ran (signs e (.ofNat 7) j)) (fun k => ran_of (signsN7 e k)) (fun k => ran_of (signsB7 e k)) (ran_of (signs7x0 e)) (ran_of (signs7x1 e)) (ran_of (signs7x2 e)) (ran_of (signs7x3 e)) (ran_of (signs7x4 e)) (ran_of (signs7x5 e)) (ran_of (signs7x6 e)) (ran_of (signs7x7 e)) (ran_of (signs7x8 e)) (ran_of (signs7x9 e)) (ran_of (signs7x10 e)) (ran_of (signs7x11 e)) (ran_of (signs7x12 e)) (ran_of (signs7x13 e)) (ran_of (signs7x14 e)) (ran_of (signs7x15 e)) (ran_of (signs7x16 e)) (ran_of (signs7x17 e)) (ran_of (signs7x18 e)) (ran_of (signs7x19 e)) (ran_of (signs7x20 e)) (ran_of (signs7x21 e)) (ran_of (signs7x22 e)) j
end
end Go.Proofs.YtoeoaiipchklbaaDoor

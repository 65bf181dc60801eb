/- LexSigns: the runs. -/
import Derived.Test.YtoeoaiipchklbaaDoorQ
set_option linter.unusedVariables false
set_option autoImplicit false
set_option linter.unusedVariables false
set_option maxRecDepth 1000000
set_option maxHeartbeats 1000000
namespace Go.Proofs.YtoeoaiipchklbaaDoor
noncomputable section
open Go.X
theorem signsN0 (e : TypeId) (k : Nat) : signs e (.ofNat 0) (.negSucc k) = True := by kernel_rfl
theorem signsB0 (e : TypeId) (k : Nat) : signs e (.ofNat 0) (.ofNat (k + 23)) = True := by kernel_rfl
theorem signs0x0 (e : TypeId) : signs e (.ofNat 0) (.ofNat 0) = True := by kernel_rfl
theorem signs0x1 (e : TypeId) : signs e (.ofNat 0) (.ofNat 1) = True := by kernel_rfl
theorem signs0x2 (e : TypeId) : signs e (.ofNat 0) (.ofNat 2) = True := by kernel_rfl
theorem signs0x3 (e : TypeId) : signs e (.ofNat 0) (.ofNat 3) = True := by kernel_rfl
theorem signs0x4 (e : TypeId) : signs e (.ofNat 0) (.ofNat 4) = True := by kernel_rfl
theorem signs0x5 (e : TypeId) : signs e (.ofNat 0) (.ofNat 5) = True := by kernel_rfl
theorem signs0x6 (e : TypeId) : signs e (.ofNat 0) (.ofNat 6) = True := by kernel_rfl
theorem signs0x7 (e : TypeId) : signs e (.ofNat 0) (.ofNat 7) = True := by kernel_rfl
theorem signs0x8 (e : TypeId) : signs e (.ofNat 0) (.ofNat 8) = True := by kernel_rfl
theorem signs0x9 (e : TypeId) : signs e (.ofNat 0) (.ofNat 9) = True := by kernel_rfl
theorem signs0x10 (e : TypeId) : signs e (.ofNat 0) (.ofNat 10) = True := by kernel_rfl
theorem signs0x11 (e : TypeId) : signs e (.ofNat 0) (.ofNat 11) = True := by kernel_rfl
theorem signs0x12 (e : TypeId) : signs e (.ofNat 0) (.ofNat 12) = True := by kernel_rfl
theorem signs0x13 (e : TypeId) : signs e (.ofNat 0) (.ofNat 13) = True := by kernel_rfl
theorem signs0x14 (e : TypeId) : signs e (.ofNat 0) (.ofNat 14) = True := by kernel_rfl
theorem signs0x15 (e : TypeId) : signs e (.ofNat 0) (.ofNat 15) = True := by kernel_rfl
theorem signs0x16 (e : TypeId) : signs e (.ofNat 0) (.ofNat 16) = True := by kernel_rfl
theorem signs0x17 (e : TypeId) : signs e (.ofNat 0) (.ofNat 17) = True := by kernel_rfl
theorem signs0x18 (e : TypeId) : signs e (.ofNat 0) (.ofNat 18) = True := by kernel_rfl
theorem signs0x19 (e : TypeId) : signs e (.ofNat 0) (.ofNat 19) = True := by kernel_rfl
theorem signs0x20 (e : TypeId) : signs e (.ofNat 0) (.ofNat 20) = True := by kernel_rfl
theorem signs0x21 (e : TypeId) : signs e (.ofNat 0) (.ofNat 21) = True := by kernel_rfl
theorem signs0x22 (e : TypeId) : signs e (.ofNat 0) (.ofNat 22) = True := by kernel_rfl
theorem signs0 (e : TypeId) (j : Int) : Ran (signs e (.ofNat 0) j) :=
  each23 (p := fun j => Ran (signs e (.ofNat 0) j)) (fun k => ran_of (signsN0 e k)) (fun k => ran_of (signsB0 e k)) (ran_of (signs0x0 e)) (ran_of (signs0x1 e)) (ran_of (signs0x2 e)) (ran_of (signs0x3 e)) (ran_of (signs0x4 e)) (ran_of (signs0x5 e)) (ran_of (signs0x6 e)) (ran_of (signs0x7 e)) (ran_of (signs0x8 e)) (ran_of (signs0x9 e)) (ran_of (signs0x10 e)) (ran_of (signs0x11 e)) (ran_of (signs0x12 e)) (ran_of (signs0x13 e)) (ran_of (signs0x14 e)) (ran_of (signs0x15 e)) (ran_of (signs0x16 e)) (ran_of (signs0x17 e)) (ran_of (signs0x18 e)) (ran_of (signs0x19 e)) (ran_of (signs0x20 e)) (ran_of (signs0x21 e)) (ran_of (signs0x22 e)) j
theorem signsN1 (e : TypeId) (k : Nat) : signs e (.ofNat 1) (.negSucc k) = True := by kernel_rfl
theorem signsB1 (e : TypeId) (k : Nat) : signs e (.ofNat 1) (.ofNat (k + 23)) = True := by kernel_rfl
theorem signs1x0 (e : TypeId) : signs e (.ofNat 1) (.ofNat 0) = True := by kernel_rfl
theorem signs1x1 (e : TypeId) : signs e (.ofNat 1) (.ofNat 1) = True := by kernel_rfl
theorem signs1x2 (e : TypeId) : signs e (.ofNat 1) (.ofNat 2) = True := by kernel_rfl
theorem signs1x3 (e : TypeId) : signs e (.ofNat 1) (.ofNat 3) = True := by kernel_rfl
theorem signs1x4 (e : TypeId) : signs e (.ofNat 1) (.ofNat 4) = True := by kernel_rfl
theorem signs1x5 (e : TypeId) : signs e (.ofNat 1) (.ofNat 5) = True := by kernel_rfl
theorem signs1x6 (e : TypeId) : signs e (.ofNat 1) (.ofNat 6) = True := by kernel_rfl
theorem signs1x7 (e : TypeId) : signs e (.ofNat 1) (.ofNat 7) = True := by kernel_rfl
theorem signs1x8 (e : TypeId) : signs e (.ofNat 1) (.ofNat 8) = True := by kernel_rfl
theorem signs1x9 (e : TypeId) : signs e (.ofNat 1) (.ofNat 9) = True := by kernel_rfl
theorem signs1x10 (e : TypeId) : signs e (.ofNat 1) (.ofNat 10) = True := by kernel_rfl
theorem signs1x11 (e : TypeId) : signs e (.ofNat 1) (.ofNat 11) = True := by kernel_rfl
theorem signs1x12 (e : TypeId) : signs e (.ofNat 1) (.ofNat 12) = True := by kernel_rfl
theorem signs1x13 (e : TypeId) : signs e (.ofNat 1) (.ofNat 13) = True := by kernel_rfl
theorem signs1x14 (e : TypeId) : signs e (.ofNat 1) (.ofNat 14) = True := by kernel_rfl
theorem signs1x15 (e : TypeId) : signs e (.ofNat 1) (.ofNat 15) = True := by kernel_rfl
theorem signs1x16 (e : TypeId) : signs e (.ofNat 1) (.ofNat 16) = True := by kernel_rfl
theorem signs1x17 (e : TypeId) : signs e (.ofNat 1) (.ofNat 17) = True := by kernel_rfl
theorem signs1x18 (e : TypeId) : signs e (.ofNat 1) (.ofNat 18) = True := by kernel_rfl
theorem signs1x19 (e : TypeId) : signs e (.ofNat 1) (.ofNat 19) = True := by kernel_rfl
theorem signs1x20 (e : TypeId) : signs e (.ofNat 1) (.ofNat 20) = True := by kernel_rfl
theorem signs1x21 (e : TypeId) : signs e (.ofNat 1) (.ofNat 21) = True := by kernel_rfl
theorem signs1x22 (e : TypeId) : signs e (.ofNat 1) (.ofNat 22) = True := by kernel_rfl
theorem signs1 (e : TypeId) (j : Int) : Ran (signs e (.ofNat 1) j) :=
  each23 (p := fun j => Ran (signs e (.ofNat 1) j)) (fun k => ran_of (signsN1 e k)) (fun k => ran_of (signsB1 e k)) (ran_of (signs1x0 e)) (ran_of (signs1x1 e)) (ran_of (signs1x2 e)) (ran_of (signs1x3 e)) (ran_of (signs1x4 e)) (ran_of (signs1x5 e)) (ran_of (signs1x6 e)) (ran_of (signs1x7 e)) (ran_of (signs1x8 e)) (ran_of (signs1x9 e)) (ran_of (signs1x10 e)) (ran_of (signs1x11 e)) (ran_of (signs1x12 e)) (ran_of (signs1x13 e)) (ran_of (signs1x14 e)) (ran_of (signs1x15 e)) (ran_of (signs1x16 e)) (ran_of (signs1x17 e)) (ran_of (signs1x18 e)) (ran_of (signs1x19 e)) (ran_of (signs1x20 e)) (ran_of (signs1x21 e)) (ran_of (signs1x22 e)) j
theorem signsN2 (e : TypeId) (k : Nat) : signs e (.ofNat 2) (.negSucc k) = True := by kernel_rfl
theorem signsB2 (e : TypeId) (k : Nat) : signs e (.ofNat 2) (.ofNat (k + 23)) = True := by kernel_rfl
theorem signs2x0 (e : TypeId) : signs e (.ofNat 2) (.ofNat 0) = True := by kernel_rfl
theorem signs2x1 (e : TypeId) : signs e (.ofNat 2) (.ofNat 1) = True := by kernel_rfl
theorem signs2x2 (e : TypeId) : signs e (.ofNat 2) (.ofNat 2) = True := by kernel_rfl
theorem signs2x3 (e : TypeId) : signs e (.ofNat 2) (.ofNat 3) = True := by kernel_rfl
theorem signs2x4 (e : TypeId) : signs e (.ofNat 2) (.ofNat 4) = True := by kernel_rfl
theorem signs2x5 (e : TypeId) : signs e (.ofNat 2) (.ofNat 5) = True := by kernel_rfl
theorem signs2x6 (e : TypeId) : signs e (.ofNat 2) (.ofNat 6) = True := by kernel_rfl
theorem signs2x7 (e : TypeId) : signs e (.ofNat 2) (.ofNat 7) = True := by kernel_rfl
theorem signs2x8 (e : TypeId) : signs e (.ofNat 2) (.ofNat 8) = True := by kernel_rfl
theorem signs2x9 (e : TypeId) : signs e (.ofNat 2) (.ofNat 9) = True := by kernel_rfl
theorem signs2x10 (e : TypeId) : signs e (.ofNat 2) (.ofNat 10) = True := by kernel_rfl
theorem signs2x11 (e : TypeId) : signs e (.ofNat 2) (.ofNat 11) = True := by kernel_rfl
theorem signs2x12 (e : TypeId) : signs e (.ofNat 2) (.ofNat 12) = True := by kernel_rfl
theorem signs2x13 (e : TypeId) : signs e (.ofNat 2) (.ofNat 13) = True := by kernel_rfl
theorem signs2x14 (e : TypeId) : signs e (.ofNat 2) (.ofNat 14) = True := by kernel_rfl
theorem signs2x15 (e : TypeId) : signs e (.ofNat 2) (.ofNat 15) = True := by kernel_rfl
theorem signs2x16 (e : TypeId) : signs e (.ofNat 2) (.ofNat 16) = True := by kernel_rfl
theorem signs2x17 (e : TypeId) : signs e (.ofNat 2) (.ofNat 17) = True := by kernel_rfl
theorem signs2x18 (e : TypeId) : signs e (.ofNat 2) (.ofNat 18) = True := by kernel_rfl
theorem signs2x19 (e : TypeId) : signs e (.ofNat 2) (.ofNat 19) = True := by kernel_rfl
theorem signs2x20 (e : TypeId) : signs e (.ofNat 2) (.ofNat 20) = True := by kernel_rfl
theorem signs2x21 (e : TypeId) : signs e (.ofNat 2) (.ofNat 21) = True := by kernel_rfl
theorem signs2x22 (e : TypeId) : signs e (.ofNat 2) (.ofNat 22) = True := by kernel_rfl
theorem signs2 (e : TypeId) (j : Int) : Ran (signs e (.ofNat 2) j) :=
  each23 (p := fun j => Ran (signs e (.ofNat 2) j)) (fun k => ran_of (signsN2 e k)) (fun k => ran_of (signsB2 e k)) (ran_of (signs2x0 e)) (ran_of (signs2x1 e)) (ran_of (signs2x2 e)) (ran_of (signs2x3 e)) (ran_of (signs2x4 e)) (ran_of (signs2x5 e)) (ran_of (signs2x6 e)) (ran_of (signs2x7 e)) (ran_of (signs2x8 e)) (ran_of (signs2x9 e)) (ran_of (signs2x10 e)) (ran_of (signs2x11 e)) (ran_of (signs2x12 e)) (ran_of (signs2x13 e)) (ran_of (signs2x14 e)) (ran_of (signs2x15 e)) (ran_of (signs2x16 e)) (ran_of (signs2x17 e)) (ran_of (signs2x18 e)) (ran_of (signs2x19 e)) (ran_of (signs2x20 e)) (ran_of (signs2x21 e)) (ran_of (signs2x22 e)) j
theorem signsN3 (e : TypeId) (k : Nat) : signs e (.ofNat 3) (.negSucc k) = True := by kernel_rfl
theorem signsB3 (e : TypeId) (k : Nat) : signs e (.ofNat 3) (.ofNat (k + 23)) = True := by kernel_rfl
theorem signs3x0 (e : TypeId) : signs e (.ofNat 3) (.ofNat 0) = True := by kernel_rfl
theorem signs3x1 (e : TypeId) : signs e (.ofNat 3) (.ofNat 1) = True := by kernel_rfl
theorem signs3x2 (e : TypeId) : signs e (.ofNat 3) (.ofNat 2) = True := by kernel_rfl
theorem signs3x3 (e : TypeId) : signs e (.ofNat 3) (.ofNat 3) = True := by kernel_rfl
theorem signs3x4 (e : TypeId) : signs e (.ofNat 3) (.ofNat 4) = True := by kernel_rfl
theorem signs3x5 (e : TypeId) : signs e (.ofNat 3) (.ofNat 5) = True := by kernel_rfl
theorem signs3x6 (e : TypeId) : signs e (.ofNat 3) (.ofNat 6) = True := by kernel_rfl
theorem signs3x7 (e : TypeId) : signs e (.ofNat 3) (.ofNat 7) = True := by kernel_rfl
theorem signs3x8 (e : TypeId) : signs e (.ofNat 3) (.ofNat 8) = True := by kernel_rfl
theorem signs3x9 (e : TypeId) : signs e (.ofNat 3) (.ofNat 9) = True := by kernel_rfl
theorem signs3x10 (e : TypeId) : signs e (.ofNat 3) (.ofNat 10) = True := by kernel_rfl
theorem signs3x11 (e : TypeId) : signs e (.ofNat 3) (.ofNat 11) = True := by kernel_rfl
theorem signs3x12 (e : TypeId) : signs e (.ofNat 3) (.ofNat 12) = True := by kernel_rfl
theorem signs3x13 (e : TypeId) : signs e (.ofNat 3) (.ofNat 13) = True := by kernel_rfl
theorem signs3x14 (e : TypeId) : signs e (.ofNat 3) (.ofNat 14) = True := by kernel_rfl
theorem signs3x15 (e : TypeId) : signs e (.ofNat 3) (.ofNat 15) = True := by kernel_rfl
theorem signs3x16 (e : TypeId) : signs e (.ofNat 3) (.ofNat 16) = True := by kernel_rfl
theorem signs3x17 (e : TypeId) : signs e (.ofNat 3) (.ofNat 17) = True := by kernel_rfl
theorem signs3x18 (e : TypeId) : signs e (.ofNat 3) (.ofNat 18) = True := by kernel_rfl
theorem signs3x19 (e : TypeId) : signs e (.ofNat 3) (.ofNat 19) = True := by kernel_rfl
theorem signs3x20 (e : TypeId) : signs e (.ofNat 3) (.ofNat 20) = True := by kernel_rfl
theorem signs3x21 (e : TypeId) : signs e (.ofNat 3) (.ofNat 21) = True := by kernel_rfl
theorem signs3x22 (e : TypeId) : signs e (.ofNat 3) (.ofNat 22) = True := by kernel_rfl
theorem signs3 (e : TypeId) (j : Int) : Ran (signs e (.ofNat 3) j) :=
  each23 (p := fun j => Ran (signs e (.ofNat 3) j)) (fun k => ran_of (signsN3 e k)) (fun k => ran_of (signsB3 e k)) (ran_of (signs3x0 e)) (ran_of (signs3x1 e)) (ran_of (signs3x2 e)) (ran_of (signs3x3 e)) (ran_of (signs3x4 e)) (ran_of (signs3x5 e)) (ran_of (signs3x6 e)) (ran_of (signs3x7 e)) (ran_of (signs3x8 e)) (ran_of (signs3x9 e)) (ran_of (signs3x10 e)) (ran_of (signs3x11 e)) (ran_of (signs3x12 e)) (ran_of (signs3x13 e)) (ran_of (signs3x14 e)) (ran_of (signs3x15 e)) (ran_of (signs3x16 e)) (ran_of (signs3x17 e)) (ran_of (signs3x18 e)) (ran_of (signs3x19 e)) (ran_of (signs3x20 e)) (ran_of (signs3x21 e)) (ran_of (signs3x22 e)) j
end
end Go.Proofs.YtoeoaiipchklbaaDoor

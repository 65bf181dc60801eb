/- LexSigns: the runs. -/
import Derived.Test.YtoeoaiipchklbaaDoorQ
set_option linter.unusedVariables false
set_option autoImplicit false
set_option linter.unusedVariables false
set_option maxRecDepth 1000000
set_option maxHeartbeats 1000000
namespace Go.Proofs.YtoeoaiipchklbaaDoor
noncomputable section
open Go.X
theorem signsN16 (e : TypeId) (k : Nat) : signs e (.ofNat 16) (.negSucc k) = True := by kernel_rfl
theorem signsB16 (e : TypeId) (k : Nat) : signs e (.ofNat 16) (.ofNat (k + 23)) = True := by kernel_rfl
theorem signs16x0 (e : TypeId) : signs e (.ofNat 16) (.ofNat 0) = True := by kernel_rfl
theorem signs16x1 (e : TypeId) : signs e (.ofNat 16) (.ofNat 1) = True := by kernel_rfl
theorem signs16x2 (e : TypeId) : signs e (.ofNat 16) (.ofNat 2) = True := by kernel_rfl
theorem signs16x3 (e : TypeId) : signs e (.ofNat 16) (.ofNat 3) = True := by kernel_rfl
theorem signs16x4 (e : TypeId) : signs e (.ofNat 16) (.ofNat 4) = True := by kernel_rfl
theorem signs16x5 (e : TypeId) : signs e (.ofNat 16) (.ofNat 5) = True := by kernel_rfl
theorem signs16x6 (e : TypeId) : signs e (.ofNat 16) (.ofNat 6) = True := by kernel_rfl
theorem signs16x7 (e : TypeId) : signs e (.ofNat 16) (.ofNat 7) = True := by kernel_rfl
theorem signs16x8 (e : TypeId) : signs e (.ofNat 16) (.ofNat 8) = True := by kernel_rfl
theorem signs16x9 (e : TypeId) : signs e (.ofNat 16) (.ofNat 9) = True := by kernel_rfl
theorem signs16x10 (e : TypeId) : signs e (.ofNat 16) (.ofNat 10) = True := by kernel_rfl
theorem signs16x11 (e : TypeId) : signs e (.ofNat 16) (.ofNat 11) = True := by kernel_rfl
theorem signs16x12 (e : TypeId) : signs e (.ofNat 16) (.ofNat 12) = True := by kernel_rfl
theorem signs16x13 (e : TypeId) : signs e (.ofNat 16) (.ofNat 13) = True := by kernel_rfl
theorem signs16x14 (e : TypeId) : signs e (.ofNat 16) (.ofNat 14) = True := by kernel_rfl
theorem signs16x15 (e : TypeId) : signs e (.ofNat 16) (.ofNat 15) = True := by kernel_rfl
theorem signs16x16 (e : TypeId) : signs e (.ofNat 16) (.ofNat 16) = True := by kernel_rfl
theorem signs16x17 (e : TypeId) : signs e (.ofNat 16) (.ofNat 17) = True := by kernel_rfl
theorem signs16x18 (e : TypeId) : signs e (.ofNat 16) (.ofNat 18) = True := by kernel_rfl
theorem signs16x19 (e : TypeId) : signs e (.ofNat 16) (.ofNat 19) = True := by kernel_rfl
theorem signs16x20 (e : TypeId) : signs e (.ofNat 16) (.ofNat 20) = True := by kernel_rfl
theorem signs16x21 (e : TypeId) : signs e (.ofNat 16) (.ofNat 21) = True := by kernel_rfl
theorem signs16x22 (e : TypeId) : signs e (.ofNat 16) (.ofNat 22) = True := by kernel_rfl
theorem signs16 (e : TypeId) (j : Int) : Ran (signs e (.ofNat 16) j) :=
  each23 (p := fun j => Ran (signs e (.ofNat 16) j)) (fun k => ran_of (signsN16 e k)) (fun k => ran_of (signsB16 e k)) (ran_of (signs16x0 e)) (ran_of (signs16x1 e)) (ran_of (signs16x2 e)) (ran_of (signs16x3 e)) (ran_of (signs16x4 e)) (ran_of (signs16x5 e)) (ran_of (signs16x6 e)) (ran_of (signs16x7 e)) (ran_of (signs16x8 e)) (ran_of (signs16x9 e)) (ran_of (signs16x10 e)) (ran_of (signs16x11 e)) (ran_of (signs16x12 e)) (ran_of (signs16x13 e)) (ran_of (signs16x14 e)) (ran_of (signs16x15 e)) (ran_of (signs16x16 e)) (ran_of (signs16x17 e)) (ran_of (signs16x18 e)) (ran_of (signs16x19 e)) (ran_of (signs16x20 e)) (ran_of (signs16x21 e)) (ran_of (signs16x22 e)) j
theorem signsN17 (e : TypeId) (k : Nat) : signs e (.ofNat 17) (.negSucc k) = True := by kernel_rfl
theorem signsB17 (e : TypeId) (k : Nat) : signs e (.ofNat 17) (.ofNat (k + 23)) = True := by kernel_rfl
theorem signs17x0 (e : TypeId) : signs e (.ofNat 17) (.ofNat 0) = True := by kernel_rfl
theorem signs17x1 (e : TypeId) : signs e (.ofNat 17) (.ofNat 1) = True := by kernel_rfl
theorem signs17x2 (e : TypeId) : signs e (.ofNat 17) (.ofNat 2) = True := by kernel_rfl
theorem signs17x3 (e : TypeId) : signs e (.ofNat 17) (.ofNat 3) = True := by kernel_rfl
theorem signs17x4 (e : TypeId) : signs e (.ofNat 17) (.ofNat 4) = True := by kernel_rfl
theorem signs17x5 (e : TypeId) : signs e (.ofNat 17) (.ofNat 5) = True := by kernel_rfl
theorem signs17x6 (e : TypeId) : signs e (.ofNat 17) (.ofNat 6) = True := by kernel_rfl
theorem signs17x7 (e : TypeId) : signs e (.ofNat 17) (.ofNat 7) = True := by kernel_rfl
theorem signs17x8 (e : TypeId) : signs e (.ofNat 17) (.ofNat 8) = True := by kernel_rfl
theorem signs17x9 (e : TypeId) : signs e (.ofNat 17) (.ofNat 9) = True := by kernel_rfl
theorem signs17x10 (e : TypeId) : signs e (.ofNat 17) (.ofNat 10) = True := by kernel_rfl
theorem signs17x11 (e : TypeId) : signs e (.ofNat 17) (.ofNat 11) = True := by kernel_rfl
theorem signs17x12 (e : TypeId) : signs e (.ofNat 17) (.ofNat 12) = True := by kernel_rfl
theorem signs17x13 (e : TypeId) : signs e (.ofNat 17) (.ofNat 13) = True := by kernel_rfl
theorem signs17x14 (e : TypeId) : signs e (.ofNat 17) (.ofNat 14) = True := by kernel_rfl
theorem signs17x15 (e : TypeId) : signs e (.ofNat 17) (.ofNat 15) = True := by kernel_rfl
theorem signs17x16 (e : TypeId) : signs e (.ofNat 17) (.ofNat 16) = True := by kernel_rfl
theorem signs17x17 (e : TypeId) : signs e (.ofNat 17) (.ofNat 17) = True := by kernel_rfl
theorem signs17x18 (e : TypeId) : signs e (.ofNat 17) (.ofNat 18) = True := by kernel_rfl
theorem signs17x19 (e : TypeId) : signs e (.ofNat 17) (.ofNat 19) = True := by kernel_rfl
theorem signs17x20 (e : TypeId) : signs e (.ofNat 17) (.ofNat 20) = True := by kernel_rfl
theorem signs17x21 (e : TypeId) : signs e (.ofNat 17) (.ofNat 21) = True := by kernel_rfl
theorem signs17x22 (e : TypeId) : signs e (.ofNat 17) (.ofNat 22) = True := by kernel_rfl
theorem signs17 (e : TypeId) (j : Int) : Ran (signs e (.ofNat 17) j) :=
  each23 (p := fun j => Ran (signs e (.ofNat 17) j)) (fun k => ran_of (signsN17 e k)) (fun k => ran_of (signsB17 e k)) (ran_of (signs17x0 e)) (ran_of (signs17x1 e)) (ran_of (signs17x2 e)) (ran_of (signs17x3 e)) (ran_of (signs17x4 e)) (ran_of (signs17x5 e)) (ran_of (signs17x6 e)) (ran_of (signs17x7 e)) (ran_of (signs17x8 e)) (ran_of (signs17x9 e)) (ran_of (signs17x10 e)) (ran_of (signs17x11 e)) (ran_of (signs17x12 e)) (ran_of (signs17x13 e)) (ran_of (signs17x14 e)) (ran_of (signs17x15 e)) (ran_of (signs17x16 e)) (ran_of (signs17x17 e)) (ran_of (signs17x18 e)) (ran_of (signs17x19 e)) (ran_of (signs17x20 e)) (ran_of (signs17x21 e)) (ran_of (signs17x22 e)) j
theorem signsN18 (e : TypeId) (k : Nat) : signs e (.ofNat 18) (.negSucc k) = True := by kernel_rfl
theorem signsB18 (e : TypeId) (k : Nat) : signs e (.ofNat 18) (.ofNat (k + 23)) = True := by kernel_rfl
theorem signs18x0 (e : TypeId) : signs e (.ofNat 18) (.ofNat 0) = True := by kernel_rfl
theorem signs18x1 (e : TypeId) : signs e (.ofNat 18) (.ofNat 1) = True := by kernel_rfl
theorem signs18x2 (e : TypeId) : signs e (.ofNat 18) (.ofNat 2) = True := by kernel_rfl
theorem signs18x3 (e : TypeId) : signs e (.ofNat 18) (.ofNat 3) = True := by kernel_rfl
theorem signs18x4 (e : TypeId) : signs e (.ofNat 18) (.ofNat 4) = True := by kernel_rfl
theorem signs18x5 (e : TypeId) : signs e (.ofNat 18) (.ofNat 5) = True := by kernel_rfl
theorem signs18x6 (e : TypeId) : signs e (.ofNat 18) (.ofNat 6) = True := by kernel_rfl
theorem signs18x7 (e : TypeId) : signs e (.ofNat 18) (.ofNat 7) = True := by kernel_rfl
theorem signs18x8 (e : TypeId) : signs e (.ofNat 18) (.ofNat 8) = True := by kernel_rfl
theorem signs18x9 (e : TypeId) : signs e (.ofNat 18) (.ofNat 9) = True := by kernel_rfl
theorem signs18x10 (e : TypeId) : signs e (.ofNat 18) (.ofNat 10) = True := by kernel_rfl
theorem signs18x11 (e : TypeId) : signs e (.ofNat 18) (.ofNat 11) = True := by kernel_rfl
theorem signs18x12 (e : TypeId) : signs e (.ofNat 18) (.ofNat 12) = True := by kernel_rfl
theorem signs18x13 (e : TypeId) : signs e (.ofNat 18) (.ofNat 13) = True := by kernel_rfl
theorem signs18x14 (e : TypeId) : signs e (.ofNat 18) (.ofNat 14) = True := by kernel_rfl
theorem signs18x15 (e : TypeId) : signs e (.ofNat 18) (.ofNat 15) = True := by kernel_rfl
theorem signs18x16 (e : TypeId) : signs e (.ofNat 18) (.ofNat 16) = True := by kernel_rfl
theorem signs18x17 (e : TypeId) : signs e (.ofNat 18) (.ofNat 17) = True := by kernel_rfl
theorem signs18x18 (e : TypeId) : signs e (.ofNat 18) (.ofNat 18) = True := by kernel_rfl
theorem signs18x19 (e : TypeId) : signs e (.ofNat 18) (.ofNat 19) = True := by kernel_rfl
theorem signs18x20 (e : TypeId) : signs e (.ofNat 18) (.ofNat 20) = True := by kernel_rfl
theorem signs18x21 (e : TypeId) : signs e (.ofNat 18) (.ofNat 21) = True := by kernel_rfl
theorem signs18x22 (e : TypeId) : signs e (.ofNat 18) (.ofNat 22) = True := by kernel_rfl
theorem signs18 (e : TypeId) (j : Int) : Ran (signs e (.ofNat 18) j) :=
  each23 (p := fun j => Ran (signs e (.ofNat 18) j)) (fun k => ran_of (signsN18 e k)) (fun k => ran_of (signsB18 e k)) (ran_of (signs18x0 e)) (ran_of (signs18x1 e)) (ran_of (signs18x2 e)) (ran_of (signs18x3 e)) (ran_of (signs18x4 e)) (ran_of (signs18x5 e)) (ran_of (signs18x6 e)) (ran_of (signs18x7 e)) (ran_of (signs18x8 e)) (ran_of (signs18x9 e)) (ran_of (signs18x10 e)) (ran_of (signs18x11 e)) (ran_of (signs18x12 e)) (ran_of (signs18x13 e)) (ran_of (signs18x14 e)) (ran_of (signs18x15 e)) (ran_of (signs18x16 e)) (ran_of (signs18x17 e)) (ran_of (signs18x18 e)) (ran_of (signs18x19 e)) (ran_of (signs18x20 e)) (ran_of (signs18x21 e)) (ran_of (signs18x22 e)) j
theorem signsN19 (e : TypeId) (k : Nat) : signs e (.ofNat 19) (.negSucc k) = True := by kernel_rfl
theorem signsB19 (e : TypeId) (k : Nat) : signs e (.ofNat 19) (.ofNat (k + 23)) = True := by kernel_rfl
theorem signs19x0 (e : TypeId) : signs e (.ofNat 19) (.ofNat 0) = True := by kernel_rfl
theorem signs19x1 (e : TypeId) : signs e (.ofNat 19) (.ofNat 1) = True := by kernel_rfl
theorem signs19x2 (e : TypeId) : signs e (.ofNat 19) (.ofNat 2) = True := by kernel_rfl
theorem signs19x3 (e : TypeId) : signs e (.ofNat 19) (.ofNat 3) = True := by kernel_rfl
theorem signs19x4 (e : TypeId) : signs e (.ofNat 19) (.ofNat 4) = True := by kernel_rfl
theorem signs19x5 (e : TypeId) : signs e (.ofNat 19) (.ofNat 5) = True := by kernel_rfl
theorem signs19x6 (e : TypeId) : signs e (.ofNat 19) (.ofNat 6) = True := by kernel_rfl
theorem signs19x7 (e : TypeId) : signs e (.ofNat 19) (.ofNat 7) = True := by kernel_rfl
theorem signs19x8 (e : TypeId) : signs e (.ofNat 19) (.ofNat 8) = True := by kernel_rfl
theorem signs19x9 (e : TypeId) : signs e (.ofNat 19) (.ofNat 9) = True := by kernel_rfl
theorem signs19x10 (e : TypeId) : signs e (.ofNat 19) (.ofNat 10) = True := by kernel_rfl
theorem signs19x11 (e : TypeId) : signs e (.ofNat 19) (.ofNat 11) = True := by kernel_rfl
theorem signs19x12 (e : TypeId) : signs e (.ofNat 19) (.ofNat 12) = True := by kernel_rfl
theorem signs19x13 (e : TypeId) : signs e (.ofNat 19) (.ofNat 13) = True := by kernel_rfl
theorem signs19x14 (e : TypeId) : signs e (.ofNat 19) (.ofNat 14) = True := by kernel_rfl
theorem signs19x15 (e : TypeId) : signs e (.ofNat 19) (.ofNat 15) = True := by kernel_rfl
theorem signs19x16 (e : TypeId) : signs e (.ofNat 19) (.ofNat 16) = True := by kernel_rfl
theorem signs19x17 (e : TypeId) : signs e (.ofNat 19) (.ofNat 17) = True := by kernel_rfl
theorem signs19x18 (e : TypeId) : signs e (.ofNat 19) (.ofNat 18) = True := by kernel_rfl
theorem signs19x19 (e : TypeId) : signs e (.ofNat 19) (.ofNat 19) = True := by kernel_rfl
theorem signs19x20 (e : TypeId) : signs e (.ofNat 19) (.ofNat 20) = True := by kernel_rfl
theorem signs19x21 (e : TypeId) : signs e (.ofNat 19) (.ofNat 21) = True := by kernel_rfl
theorem signs19x22 (e : TypeId) : signs e (.ofNat 19) (.ofNat 22) = True := by kernel_rfl
theorem signs19 (e : TypeId) (j : Int) : Ran (signs e (.ofNat 19) j) :=
  each23 (p := fun j => Ran (signs e (.ofNat 19) j)) (fun k => ran_of (signsN19 e k)) (fun k => ran_of (signsB19 e k)) (ran_of (signs19x0 e)) (ran_of (signs19x1 e)) (ran_of (signs19x2 e)) (ran_of (signs19x3 e)) (ran_of (signs19x4 e)) (ran_of (signs19x5 e)) (ran_of (signs19x6 e)) (ran_of (signs19x7 e)) (ran_of (signs19x8 e)) (ran_of (signs19x9 e)) (ran_of (signs19x10 e)) (ran_of (signs19x11 e)) (ran_of (signs19x12 e)) (ran_of (signs19x13 e)) (ran_of (signs19x14 e)) (ran_of (signs19x15 e)) (ran_of (signs19x16 e)) (ran_of (signs19x17 e)) (ran_of (signs19x18 e)) (ran_of (signs19x19 e)) (ran_of (signs19x20 e)) (ran_of (signs19x21 e)) (ran_of (signs19x22 e)) j
end
end Go.Proofs.YtoeoaiipchklbaaDoor

/- LexSigns: the runs. -/
import Derived.Test.YtoeoaiipchklbaaDoorQ
set_option linter.unusedVariables false
set_option autoImplicit false
set_option linter.unusedVariables false
set_option maxRecDepth 1000000
set_option maxHeartbeats 1000000
namespace Go.Proofs.YtoeoaiipchklbaaDoor
noncomputable section
open Go.X
theorem signsN20 (e : TypeId) (k : Nat) : signs e (.ofNat 20) (.negSucc k) = True := by kernel_rfl
theorem signsB20 (e : TypeId) (k : Nat) : signs e (.ofNat 20) (.ofNat (k + 23)) = True := by kernel_rfl
theorem signs20x0 (e : TypeId) : signs e (.ofNat 20) (.ofNat 0) = True := by kernel_rfl
theorem signs20x1 (e : TypeId) : signs e (.ofNat 20) (.ofNat 1) = True := by kernel_rfl
theorem signs20x2 (e : TypeId) : signs e (.ofNat 20) (.ofNat 2) = True := by kernel_rfl
theorem signs20x3 (e : TypeId) : signs e (.ofNat 20) (.ofNat 3) = True := by kernel_rfl
theorem signs20x4 (e : TypeId) : signs e (.ofNat 20) (.ofNat 4) = True := by kernel_rfl
theorem signs20x5 (e : TypeId) : signs e (.ofNat 20) (.ofNat 5) = True := by kernel_rfl
theorem signs20x6 (e : TypeId) : signs e (.ofNat 20) (.ofNat 6) = True := by kernel_rfl
theorem signs20x7 (e : TypeId) : signs e (.ofNat 20) (.ofNat 7) = True := by kernel_rfl
theorem signs20x8 (e : TypeId) : signs e (.ofNat 20) (.ofNat 8) = True := by kernel_rfl
theorem signs20x9 (e : TypeId) : signs e (.ofNat 20) (.ofNat 9) = True := by kernel_rfl
theorem signs20x10 (e : TypeId) : signs e (.ofNat 20) (.ofNat 10) = True := by kernel_rfl
theorem signs20x11 (e : TypeId) : signs e (.ofNat 20) (.ofNat 11) = True := by kernel_rfl
theorem signs20x12 (e : TypeId) : signs e (.ofNat 20) (.ofNat 12) = True := by kernel_rfl
theorem signs20x13 (e : TypeId) : signs e (.ofNat 20) (.ofNat 13) = True := by kernel_rfl
theorem signs20x14 (e : TypeId) : signs e (.ofNat 20) (.ofNat 14) = True := by kernel_rfl
theorem signs20x15 (e : TypeId) : signs e (.ofNat 20) (.ofNat 15) = True := by kernel_rfl
theorem signs20x16 (e : TypeId) : signs e (.ofNat 20) (.ofNat 16) = True := by kernel_rfl
theorem signs20x17 (e : TypeId) : signs e (.ofNat 20) (.ofNat 17) = True := by kernel_rfl
theorem signs20x18 (e : TypeId) : signs e (.ofNat 20) (.ofNat 18) = True := by kernel_rfl
theorem signs20x19 (e : TypeId) : signs e (.ofNat 20) (.ofNat 19) = True := by kernel_rfl
theorem signs20x20 (e : TypeId) : signs e (.ofNat 20) (.ofNat 20) = True := by kernel_rfl
theorem signs20x21 (e : TypeId) : signs e (.ofNat 20) (.ofNat 21) = True := by kernel_rfl
theorem signs20x22 (e : TypeId) : signs e (.ofNat 20) (.ofNat 22) = True := by kernel_rfl
theorem signs20 (e : TypeId) (j : Int) : Ran (signs e (.ofNat 20) j) :=
  each23 (p := fun j => Ran (signs e (.ofNat 20) j)) (fun k => ran_of (signsN20 e k)) (fun k => ran_of (signsB20 e k)) (ran_of (signs20x0 e)) (ran_of (signs20x1 e)) (ran_of (signs20x2 e)) (ran_of (signs20x3 e)) (ran_of (signs20x4 e)) (ran_of (signs20x5 e)) (ran_of (signs20x6 e)) (ran_of (signs20x7 e)) (ran_of (signs20x8 e)) (ran_of (signs20x9 e)) (ran_of (signs20x10 e)) (ran_of (signs20x11 e)) (ran_of (signs20x12 e)) (ran_of (signs20x13 e)) (ran_of (signs20x14 e)) (ran_of (signs20x15 e)) (ran_of (signs20x16 e)) (ran_of (signs20x17 e)) (ran_of (signs20x18 e)) (ran_of (signs20x19 e)) (ran_of (signs20x20 e)) (ran_of (signs20x21 e)) (ran_of (signs20x22 e)) j
theorem signsN21 (e : TypeId) (k : Nat) : signs e (.ofNat 21) (.negSucc k) = True := by kernel_rfl
theorem signsB21 (e : TypeId) (k : Nat) : signs e (.ofNat 21) (.ofNat (k + 23)) = True := by kernel_rfl
theorem signs21x0 (e : TypeId) : signs e (.ofNat 21) (.ofNat 0) = True := by kernel_rfl
theorem signs21x1 (e : TypeId) : signs e (.ofNat 21) (.ofNat 1) = True := by kernel_rfl
theorem signs21x2 (e : TypeId) : signs e (.ofNat 21) (.ofNat 2) = True := by kernel_rfl
theorem signs21x3 (e : TypeId) : signs e (.ofNat 21) (.ofNat 3) = True := by kernel_rfl
theorem signs21x4 (e : TypeId) : signs e (.ofNat 21) (.ofNat 4) = True := by kernel_rfl
theorem signs21x5 (e : TypeId) : signs e (.ofNat 21) (.ofNat 5) = True := by kernel_rfl
theorem signs21x6 (e : TypeId) : signs e (.ofNat 21) (.ofNat 6) = True := by kernel_rfl
theorem signs21x7 (e : TypeId) : signs e (.ofNat 21) (.ofNat 7) = True := by kernel_rfl
theorem signs21x8 (e : TypeId) : signs e (.ofNat 21) (.ofNat 8) = True := by kernel_rfl
theorem signs21x9 (e : TypeId) : signs e (.ofNat 21) (.ofNat 9) = True := by kernel_rfl
theorem signs21x10 (e : TypeId) : signs e (.ofNat 21) (.ofNat 10) = True := by kernel_rfl
theorem signs21x11 (e : TypeId) : signs e (.ofNat 21) (.ofNat 11) = True := by kernel_rfl
theorem signs21x12 (e : TypeId) : signs e (.ofNat 21) (.ofNat 12) = True := by kernel_rfl
theorem signs21x13 (e : TypeId) : signs e (.ofNat 21) (.ofNat 13) = True := by kernel_rfl
theorem signs21x14 (e : TypeId) : signs e (.ofNat 21) (.ofNat 14) = True := by kernel_rfl
theorem signs21x15 (e : TypeId) : signs e (.ofNat 21) (.ofNat 15) = True := by kernel_rfl
theorem signs21x16 (e : TypeId) : signs e (.ofNat 21) (.ofNat 16) = True := by kernel_rfl
theorem signs21x17 (e : TypeId) : signs e (.ofNat 21) (.ofNat 17) = True := by kernel_rfl
theorem signs21x18 (e : TypeId) : signs e (.ofNat 21) (.ofNat 18) = True := by kernel_rfl
theorem signs21x19 (e : TypeId) : signs e (.ofNat 21) (.ofNat 19) = True := by kernel_rfl
theorem signs21x20 (e : TypeId) : signs e (.ofNat 21) (.ofNat 20) = True := by kernel_rfl
theorem signs21x21 (e : TypeId) : signs e (.ofNat 21) (.ofNat 21) = True := by kernel_rfl
theorem signs21x22 (e : TypeId) : signs e (.ofNat 21) (.ofNat 22) = True := by kernel_rfl
theorem signs21 (e : TypeId) (j : Int) : Ran (signs e (.ofNat 21) j) :=
  each23 (p := fun j => Ran (signs e (.ofNat 21) j)) (fun k => ran_of (signsN21 e k)) (fun k => ran_of (signsB21 e k)) (ran_of (signs21x0 e)) (ran_of (signs21x1 e)) (ran_of (signs21x2 e)) (ran_of (signs21x3 e)) (ran_of (signs21x4 e)) (ran_of (signs21x5 e)) (ran_of (signs21x6 e)) (ran_of (signs21x7 e)) (ran_of (signs21x8 e)) (ran_of (signs21x9 e)) (ran_of (signs21x10 e)) (ran_of (signs21x11 e)) (ran_of (signs21x12 e)) (ran_of (signs21x13 e)) (ran_of (signs21x14 e)) (ran_of (signs21x15 e)) (ran_of (signs21x16 e)) (ran_of (signs21x17 e)) (ran_of (signs21x18 e)) (ran_of (signs21x19 e)) (ran_of (signs21x20 e)) (ran_of (signs21x21 e)) (ran_of (signs21x22 e)) j
theorem signsN22 (e : TypeId) (k : Nat) : signs e (.ofNat 22) (.negSucc k) = True := by kernel_rfl
theorem signsB22 (e : TypeId) (k : Nat) : signs e (.ofNat 22) (.ofNat (k + 23)) = True := by kernel_rfl
theorem signs22x0 (e : TypeId) : signs e (.ofNat 22) (.ofNat 0) = True := by kernel_rfl
theorem signs22x1 (e : TypeId) : signs e (.ofNat 22) (.ofNat 1) = True := by kernel_rfl
theorem signs22x2 (e : TypeId) : signs e (.ofNat 22) (.ofNat 2) = True := by kernel_rfl
theorem signs22x3 (e : TypeId) : signs e (.ofNat 22) (.ofNat 3) = True := by kernel_rfl
theorem signs22x4 (e : TypeId) : signs e (.ofNat 22) (.ofNat 4) = True := by kernel_rfl
theorem signs22x5 (e : TypeId) : signs e (.ofNat 22) (.ofNat 5) = True := by kernel_rfl
theorem signs22x6 (e : TypeId) : signs e (.ofNat 22) (.ofNat 6) = True := by kernel_rfl
theorem signs22x7 (e : TypeId) : signs e (.ofNat 22) (.ofNat 7) = True := by kernel_rfl
theorem signs22x8 (e : TypeId) : signs e (.ofNat 22) (.ofNat 8) = True := by kernel_rfl
theorem signs22x9 (e : TypeId) : signs e (.ofNat 22) (.ofNat 9) = True := by kernel_rfl
theorem signs22x10 (e : TypeId) : signs e (.ofNat 22) (.ofNat 10) = True := by kernel_rfl
theorem signs22x11 (e : TypeId) : signs e (.ofNat 22) (.ofNat 11) = True := by kernel_rfl
theorem signs22x12 (e : TypeId) : signs e (.ofNat 22) (.ofNat 12) = True := by kernel_rfl
theorem signs22x13 (e : TypeId) : signs e (.ofNat 22) (.ofNat 13) = True := by kernel_rfl
theorem signs22x14 (e : TypeId) : signs e (.ofNat 22) (.ofNat 14) = True := by kernel_rfl
theorem signs22x15 (e : TypeId) : signs e (.ofNat 22) (.ofNat 15) = True := by kernel_rfl
theorem signs22x16 (e : TypeId) : signs e (.ofNat 22) (.ofNat 16) = True := by kernel_rfl
theorem signs22x17 (e : TypeId) : signs e (.ofNat 22) (.ofNat 17) = True := by kernel_rfl
theorem signs22x18 (e : TypeId) : signs e (.ofNat 22) (.ofNat 18) = True := by kernel_rfl
theorem signs22x19 (e : TypeId) : signs e (.ofNat 22) (.ofNat 19) = True := by kernel_rfl
theorem signs22x20 (e : TypeId) : signs e (.ofNat 22) (.ofNat 20) = True := by kernel_rfl
theorem signs22x21 (e : TypeId) : signs e (.ofNat 22) (.ofNat 21) = True := by kernel_rfl
theorem signs22x22 (e : TypeId) : signs e (.ofNat 22) (.ofNat 22) = True := by kernel_rfl
theorem signs22 (e : TypeId) (j : Int) : Ran (signs e (.ofNat 22) j) :=
  each23 (p := fun j => Ran (signs e (.ofNat 22) j)) (fun k => ran_of (signsN22 e k)) (fun k => ran_of (signsB22 e k)) (ran_of (signs22x0 e)) (ran_of (signs22x1 e)) (ran_of (signs22x2 e)) (ran_of (signs22x3 e)) (ran_of (signs22x4 e)) (ran_of (signs22x5 e)) (ran_of (signs22x6 e)) (ran_of (signs22x7 e)) (ran_of (signs22x8 e)) (ran_of (signs22x9 e)) (ran_of (signs22x10 e)) (ran_of (signs22x11 e)) (ran_of (signs22x12 e)) (ran_of (signs22x13 e)) (ran_of (signs22x14 e)) (ran_of (signs22x15 e)) (ran_of (signs22x16 e)) (ran_of (signs22x17 e)) (ran_of (signs22x18 e)) (ran_of (signs22x19 e)) (ran_of (signs22x20 e)) (ran_of (signs22x21 e)) (ran_of (signs22x22 e)) j
end
end Go.Proofs.YtoeoaiipchklbaaDoor

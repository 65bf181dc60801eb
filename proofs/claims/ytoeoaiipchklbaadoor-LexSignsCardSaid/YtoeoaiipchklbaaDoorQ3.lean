/- LexSigns: the runs. -/
import Derived.Test.YtoeoaiipchklbaaDoorQ
set_option linter.unusedVariables false
set_option autoImplicit false
set_option linter.unusedVariables false
set_option maxRecDepth 1000000
set_option maxHeartbeats 1000000
namespace Go.Proofs.YtoeoaiipchklbaaDoor
noncomputable section
open Go.X
theorem signsN12 (e : TypeId) (k : Nat) : signs e (.ofNat 12) (.negSucc k) = True := by kernel_rfl
theorem signsB12 (e : TypeId) (k : Nat) : signs e (.ofNat 12) (.ofNat (k + 23)) = True := by kernel_rfl
theorem signs12x0 (e : TypeId) : signs e (.ofNat 12) (.ofNat 0) = True := by kernel_rfl
theorem signs12x1 (e : TypeId) : signs e (.ofNat 12) (.ofNat 1) = True := by kernel_rfl
theorem signs12x2 (e : TypeId) : signs e (.ofNat 12) (.ofNat 2) = True := by kernel_rfl
theorem signs12x3 (e : TypeId) : signs e (.ofNat 12) (.ofNat 3) = True := by kernel_rfl
theorem signs12x4 (e : TypeId) : signs e (.ofNat 12) (.ofNat 4) = True := by kernel_rfl
theorem signs12x5 (e : TypeId) : signs e (.ofNat 12) (.ofNat 5) = True := by kernel_rfl
theorem signs12x6 (e : TypeId) : signs e (.ofNat 12) (.ofNat 6) = True := by kernel_rfl
theorem signs12x7 (e : TypeId) : signs e (.ofNat 12) (.ofNat 7) = True := by kernel_rfl
theorem signs12x8 (e : TypeId) : signs e (.ofNat 12) (.ofNat 8) = True := by kernel_rfl
theorem signs12x9 (e : TypeId) : signs e (.ofNat 12) (.ofNat 9) = True := by kernel_rfl
theorem signs12x10 (e : TypeId) : signs e (.ofNat 12) (.ofNat 10) = True := by kernel_rfl
theorem signs12x11 (e : TypeId) : signs e (.ofNat 12) (.ofNat 11) = True := by kernel_rfl
theorem signs12x12 (e : TypeId) : signs e (.ofNat 12) (.ofNat 12) = True := by kernel_rfl
theorem signs12x13 (e : TypeId) : signs e (.ofNat 12) (.ofNat 13) = True := by kernel_rfl
theorem signs12x14 (e : TypeId) : signs e (.ofNat 12) (.ofNat 14) = True := by kernel_rfl
theorem signs12x15 (e : TypeId) : signs e (.ofNat 12) (.ofNat 15) = True := by kernel_rfl
theorem signs12x16 (e : TypeId) : signs e (.ofNat 12) (.ofNat 16) = True := by kernel_rfl
theorem signs12x17 (e : TypeId) : signs e (.ofNat 12) (.ofNat 17) = True := by kernel_rfl
theorem signs12x18 (e : TypeId) : signs e (.ofNat 12) (.ofNat 18) = True := by kernel_rfl
theorem signs12x19 (e : TypeId) : signs e (.ofNat 12) (.ofNat 19) = True := by kernel_rfl
theorem signs12x20 (e : TypeId) : signs e (.ofNat 12) (.ofNat 20) = True := by kernel_rfl
theorem signs12x21 (e : TypeId) : signs e (.ofNat 12) (.ofNat 21) = True := by kernel_rfl
theorem signs12x22 (e : TypeId) : signs e (.ofNat 12) (.ofNat 22) = True := by kernel_rfl
theorem signs12 (e : TypeId) (j : Int) : Ran (signs e (.ofNat 12) j) :=
  each23 (p := fun j => Ran (signs e (.ofNat 12) j)) (fun k => ran_of (signsN12 e k)) (fun k => ran_of (signsB12 e k)) (ran_of (signs12x0 e)) (ran_of (signs12x1 e)) (ran_of (signs12x2 e)) (ran_of (signs12x3 e)) (ran_of (signs12x4 e)) (ran_of (signs12x5 e)) (ran_of (signs12x6 e)) (ran_of (signs12x7 e)) (ran_of (signs12x8 e)) (ran_of (signs12x9 e)) (ran_of (signs12x10 e)) (ran_of (signs12x11 e)) (ran_of (signs12x12 e)) (ran_of (signs12x13 e)) (ran_of (signs12x14 e)) (ran_of (signs12x15 e)) (ran_of (signs12x16 e)) (ran_of (signs12x17 e)) (ran_of (signs12x18 e)) (ran_of (signs12x19 e)) (ran_of (signs12x20 e)) (ran_of (signs12x21 e)) (ran_of (signs12x22 e)) j
theorem signsN13 (e : TypeId) (k : Nat) : signs e (.ofNat 13) (.negSucc k) = True := by kernel_rfl
theorem signsB13 (e : TypeId) (k : Nat) : signs e (.ofNat 13) (.ofNat (k + 23)) = True := by kernel_rfl
theorem signs13x0 (e : TypeId) : signs e (.ofNat 13) (.ofNat 0) = True := by kernel_rfl
theorem signs13x1 (e : TypeId) : signs e (.ofNat 13) (.ofNat 1) = True := by kernel_rfl
theorem signs13x2 (e : TypeId) : signs e (.ofNat 13) (.ofNat 2) = True := by kernel_rfl
theorem signs13x3 (e : TypeId) : signs e (.ofNat 13) (.ofNat 3) = True := by kernel_rfl
theorem signs13x4 (e : TypeId) : signs e (.ofNat 13) (.ofNat 4) = True := by kernel_rfl
theorem signs13x5 (e : TypeId) : signs e (.ofNat 13) (.ofNat 5) = True := by kernel_rfl
theorem signs13x6 (e : TypeId) : signs e (.ofNat 13) (.ofNat 6) = True := by kernel_rfl
theorem signs13x7 (e : TypeId) : signs e (.ofNat 13) (.ofNat 7) = True := by kernel_rfl
theorem signs13x8 (e : TypeId) : signs e (.ofNat 13) (.ofNat 8) = True := by kernel_rfl
theorem signs13x9 (e : TypeId) : signs e (.ofNat 13) (.ofNat 9) = True := by kernel_rfl
theorem signs13x10 (e : TypeId) : signs e (.ofNat 13) (.ofNat 10) = True := by kernel_rfl
theorem signs13x11 (e : TypeId) : signs e (.ofNat 13) (.ofNat 11) = True := by kernel_rfl
theorem signs13x12 (e : TypeId) : signs e (.ofNat 13) (.ofNat 12) = True := by kernel_rfl
theorem signs13x13 (e : TypeId) : signs e (.ofNat 13) (.ofNat 13) = True := by kernel_rfl
theorem signs13x14 (e : TypeId) : signs e (.ofNat 13) (.ofNat 14) = True := by kernel_rfl
theorem signs13x15 (e : TypeId) : signs e (.ofNat 13) (.ofNat 15) = True := by kernel_rfl
theorem signs13x16 (e : TypeId) : signs e (.ofNat 13) (.ofNat 16) = True := by kernel_rfl
theorem signs13x17 (e : TypeId) : signs e (.ofNat 13) (.ofNat 17) = True := by kernel_rfl
theorem signs13x18 (e : TypeId) : signs e (.ofNat 13) (.ofNat 18) = True := by kernel_rfl
theorem signs13x19 (e : TypeId) : signs e (.ofNat 13) (.ofNat 19) = True := by kernel_rfl
theorem signs13x20 (e : TypeId) : signs e (.ofNat 13) (.ofNat 20) = True := by kernel_rfl
theorem signs13x21 (e : TypeId) : signs e (.ofNat 13) (.ofNat 21) = True := by kernel_rfl
theorem signs13x22 (e : TypeId) : signs e (.ofNat 13) (.ofNat 22) = True := by kernel_rfl
theorem signs13 (e : TypeId) (j : Int) : Ran (signs e (.ofNat 13) j) :=
  each23 (p := fun j => Ran (signs e (.ofNat 13) j)) (fun k => ran_of (signsN13 e k)) (fun k => ran_of (signsB13 e k)) (ran_of (signs13x0 e)) (ran_of (signs13x1 e)) (ran_of (signs13x2 e)) (ran_of (signs13x3 e)) (ran_of (signs13x4 e)) (ran_of (signs13x5 e)) (ran_of (signs13x6 e)) (ran_of (signs13x7 e)) (ran_of (signs13x8 e)) (ran_of (signs13x9 e)) (ran_of (signs13x10 e)) (ran_of (signs13x11 e)) (ran_of (signs13x12 e)) (ran_of (signs13x13 e)) (ran_of (signs13x14 e)) (ran_of (signs13x15 e)) (ran_of (signs13x16 e)) (ran_of (signs13x17 e)) (ran_of (signs13x18 e)) (ran_of (signs13x19 e)) (ran_of (signs13x20 e)) (ran_of (signs13x21 e)) (ran_of (signs13x22 e)) j
theorem signsN14 (e : TypeId) (k : Nat) : signs e (.ofNat 14) (.negSucc k) = True := by kernel_rfl
theorem signsB14 (e : TypeId) (k : Nat) : signs e (.ofNat 14) (.ofNat (k + 23)) = True := by kernel_rfl
theorem signs14x0 (e : TypeId) : signs e (.ofNat 14) (.ofNat 0) = True := by kernel_rfl
theorem signs14x1 (e : TypeId) : signs e (.ofNat 14) (.ofNat 1) = True := by kernel_rfl
theorem signs14x2 (e : TypeId) : signs e (.ofNat 14) (.ofNat 2) = True := by kernel_rfl
theorem signs14x3 (e : TypeId) : signs e (.ofNat 14) (.ofNat 3) = True := by kernel_rfl
theorem signs14x4 (e : TypeId) : signs e (.ofNat 14) (.ofNat 4) = True := by kernel_rfl
theorem signs14x5 (e : TypeId) : signs e (.ofNat 14) (.ofNat 5) = True := by kernel_rfl
theorem signs14x6 (e : TypeId) : signs e (.ofNat 14) (.ofNat 6) = True := by kernel_rfl
theorem signs14x7 (e : TypeId) : signs e (.ofNat 14) (.ofNat 7) = True := by kernel_rfl
theorem signs14x8 (e : TypeId) : signs e (.ofNat 14) (.ofNat 8) = True := by kernel_rfl
theorem signs14x9 (e : TypeId) : signs e (.ofNat 14) (.ofNat 9) = True := by kernel_rfl
theorem signs14x10 (e : TypeId) : signs e (.ofNat 14) (.ofNat 10) = True := by kernel_rfl
theorem signs14x11 (e : TypeId) : signs e (.ofNat 14) (.ofNat 11) = True := by kernel_rfl
theorem signs14x12 (e : TypeId) : signs e (.ofNat 14) (.ofNat 12) = True := by kernel_rfl
theorem signs14x13 (e : TypeId) : signs e (.ofNat 14) (.ofNat 13) = True := by kernel_rfl
theorem signs14x14 (e : TypeId) : signs e (.ofNat 14) (.ofNat 14) = True := by kernel_rfl
theorem signs14x15 (e : TypeId) : signs e (.ofNat 14) (.ofNat 15) = True := by kernel_rfl
theorem signs14x16 (e : TypeId) : signs e (.ofNat 14) (.ofNat 16) = True := by kernel_rfl
theorem signs14x17 (e : TypeId) : signs e (.ofNat 14) (.ofNat 17) = True := by kernel_rfl
theorem signs14x18 (e : TypeId) : signs e (.ofNat 14) (.ofNat 18) = True := by kernel_rfl
theorem signs14x19 (e : TypeId) : signs e (.ofNat 14) (.ofNat 19) = True := by kernel_rfl
theorem signs14x20 (e : TypeId) : signs e (.ofNat 14) (.ofNat 20) = True := by kernel_rfl
theorem signs14x21 (e : TypeId) : signs e (.ofNat 14) (.ofNat 21) = True := by kernel_rfl
theorem signs14x22 (e : TypeId) : signs e (.ofNat 14) (.ofNat 22) = True := by kernel_rfl
theorem signs14 (e : TypeId) (j : Int) : Ran (signs e (.ofNat 14) j) :=
  each23 (p := fun j => Ran (signs e (.ofNat 14) j)) (fun k => ran_of (signsN14 e k)) (fun k => ran_of (signsB14 e k)) (ran_of (signs14x0 e)) (ran_of (signs14x1 e)) (ran_of (signs14x2 e)) (ran_of (signs14x3 e)) (ran_of (signs14x4 e)) (ran_of (signs14x5 e)) (ran_of (signs14x6 e)) (ran_of (signs14x7 e)) (ran_of (signs14x8 e)) (ran_of (signs14x9 e)) (ran_of (signs14x10 e)) (ran_of (signs14x11 e)) (ran_of (signs14x12 e)) (ran_of (signs14x13 e)) (ran_of (signs14x14 e)) (ran_of (signs14x15 e)) (ran_of (signs14x16 e)) (ran_of (signs14x17 e)) (ran_of (signs14x18 e)) (ran_of (signs14x19 e)) (ran_of (signs14x20 e)) (ran_of (signs14x21 e)) (ran_of (signs14x22 e)) j
theorem signsN15 (e : TypeId) (k : Nat) : signs e (.ofNat 15) (.negSucc k) = True := by kernel_rfl
theorem signsB15 (e : TypeId) (k : Nat) : signs e (.ofNat 15) (.ofNat (k + 23)) = True := by kernel_rfl
theorem signs15x0 (e : TypeId) : signs e (.ofNat 15) (.ofNat 0) = True := by kernel_rfl
theorem signs15x1 (e : TypeId) : signs e (.ofNat 15) (.ofNat 1) = True := by kernel_rfl
theorem signs15x2 (e : TypeId) : signs e (.ofNat 15) (.ofNat 2) = True := by kernel_rfl
theorem signs15x3 (e : TypeId) : signs e (.ofNat 15) (.ofNat 3) = True := by kernel_rfl
theorem signs15x4 (e : TypeId) : signs e (.ofNat 15) (.ofNat 4) = True := by kernel_rfl
theorem signs15x5 (e : TypeId) : signs e (.ofNat 15) (.ofNat 5) = True := by kernel_rfl
theorem signs15x6 (e : TypeId) : signs e (.ofNat 15) (.ofNat 6) = True := by kernel_rfl
theorem signs15x7 (e : TypeId) : signs e (.ofNat 15) (.ofNat 7) = True := by kernel_rfl
theorem signs15x8 (e : TypeId) : signs e (.ofNat 15) (.ofNat 8) = True := by kernel_rfl
theorem signs15x9 (e : TypeId) : signs e (.ofNat 15) (.ofNat 9) = True := by kernel_rfl
theorem signs15x10 (e : TypeId) : signs e (.ofNat 15) (.ofNat 10) = True := by kernel_rfl
theorem signs15x11 (e : TypeId) : signs e (.ofNat 15) (.ofNat 11) = True := by kernel_rfl
theorem signs15x12 (e : TypeId) : signs e (.ofNat 15) (.ofNat 12) = True := by kernel_rfl
theorem signs15x13 (e : TypeId) : signs e (.ofNat 15) (.ofNat 13) = True := by kernel_rfl
theorem signs15x14 (e : TypeId) : signs e (.ofNat 15) (.ofNat 14) = True := by kernel_rfl
theorem signs15x15 (e : TypeId) : signs e (.ofNat 15) (.ofNat 15) = True := by kernel_rfl
theorem signs15x16 (e : TypeId) : signs e (.ofNat 15) (.ofNat 16) = True := by kernel_rfl
theorem signs15x17 (e : TypeId) : signs e (.ofNat 15) (.ofNat 17) = True := by kernel_rfl
theorem signs15x18 (e : TypeId) : signs e (.ofNat 15) (.ofNat 18) = True := by kernel_rfl
theorem signs15x19 (e : TypeId) : signs e (.ofNat 15) (.ofNat 19) = True := by kernel_rfl
theorem signs15x20 (e : TypeId) : signs e (.ofNat 15) (.ofNat 20) = True := by kernel_rfl
theorem signs15x21 (e : TypeId) : signs e (.ofNat 15) (.ofNat 21) = True := by kernel_rfl
theorem signs15x22 (e : TypeId) : signs e (.ofNat 15) (.ofNat 22) = True := by kernel_rfl
theorem signs15 (e : TypeId) (j : Int) : Ran (signs e (.ofNat 15) j) :=
  each23 (p := fun j => Ran (signs e (.ofNat 15) j)) (fun k => ran_of (signsN15 e k)) (fun k => ran_of (signsB15 e k)) (ran_of (signs15x0 e)) (ran_of (signs15x1 e)) (ran_of (signs15x2 e)) (ran_of (signs15x3 e)) (ran_of (signs15x4 e)) (ran_of (signs15x5 e)) (ran_of (signs15x6 e)) (ran_of (signs15x7 e)) (ran_of (signs15x8 e)) (ran_of (signs15x9 e)) (ran_of (signs15x10 e)) (ran_of (signs15x11 e)) (ran_of (signs15x12 e)) (ran_of (signs15x13 e)) (ran_of (signs15x14 e)) (ran_of (signs15x15 e)) (ran_of (signs15x16 e)) (ran_of (signs15x17 e)) (ran_of (signs15x18 e)) (ran_of (signs15x19 e)) (ran_of (signs15x20 e)) (ran_of (signs15x21 e)) (ran_of (signs15x22 e)) j
end
end Go.Proofs.YtoeoaiipchklbaaDoor

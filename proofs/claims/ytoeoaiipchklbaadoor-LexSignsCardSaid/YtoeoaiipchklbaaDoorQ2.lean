/- LexSigns: the runs. -/
import Derived.Test.YtoeoaiipchklbaaDoorQ
set_option linter.unusedVariables false
set_option autoImplicit false
set_option linter.unusedVariables false
set_option maxRecDepth 1000000
set_option maxHeartbeats 1000000
namespace Go.Proofs.YtoeoaiipchklbaaDoor
noncomputable section
open Go.X
theorem signsN8 (e : TypeId) (k : Nat) : signs e (.ofNat 8) (.negSucc k) = True := by kernel_rfl
theorem signsB8 (e : TypeId) (k : Nat) : signs e (.ofNat 8) (.ofNat (k + 23)) = True := by kernel_rfl
theorem signs8x0 (e : TypeId) : signs e (.ofNat 8) (.ofNat 0) = True := by kernel_rfl
theorem signs8x1 (e : TypeId) : signs e (.ofNat 8) (.ofNat 1) = True := by kernel_rfl
theorem signs8x2 (e : TypeId) : signs e (.ofNat 8) (.ofNat 2) = True := by kernel_rfl
theorem signs8x3 (e : TypeId) : signs e (.ofNat 8) (.ofNat 3) = True := by kernel_rfl
theorem signs8x4 (e : TypeId) : signs e (.ofNat 8) (.ofNat 4) = True := by kernel_rfl
theorem signs8x5 (e : TypeId) : signs e (.ofNat 8) (.ofNat 5) = True := by kernel_rfl
theorem signs8x6 (e : TypeId) : signs e (.ofNat 8) (.ofNat 6) = True := by kernel_rfl
theorem signs8x7 (e : TypeId) : signs e (.ofNat 8) (.ofNat 7) = True := by kernel_rfl
theorem signs8x8 (e : TypeId) : signs e (.ofNat 8) (.ofNat 8) = True := by kernel_rfl
theorem signs8x9 (e : TypeId) : signs e (.ofNat 8) (.ofNat 9) = True := by kernel_rfl
theorem signs8x10 (e : TypeId) : signs e (.ofNat 8) (.ofNat 10) = True := by kernel_rfl
theorem signs8x11 (e : TypeId) : signs e (.ofNat 8) (.ofNat 11) = True := by kernel_rfl
theorem signs8x12 (e : TypeId) : signs e (.ofNat 8) (.ofNat 12) = True := by kernel_rfl
theorem signs8x13 (e : TypeId) : signs e (.ofNat 8) (.ofNat 13) = True := by kernel_rfl
theorem signs8x14 (e : TypeId) : signs e (.ofNat 8) (.ofNat 14) = True := by kernel_rfl
theorem signs8x15 (e : TypeId) : signs e (.ofNat 8) (.ofNat 15) = True := by kernel_rfl
theorem signs8x16 (e : TypeId) : signs e (.ofNat 8) (.ofNat 16) = True := by kernel_rfl
theorem signs8x17 (e : TypeId) : signs e (.ofNat 8) (.ofNat 17) = True := by kernel_rfl
theorem signs8x18 (e : TypeId) : signs e (.ofNat 8) (.ofNat 18) = True := by kernel_rfl
theorem signs8x19 (e : TypeId) : signs e (.ofNat 8) (.ofNat 19) = True := by kernel_rfl
theorem signs8x20 (e : TypeId) : signs e (.ofNat 8) (.ofNat 20) = True := by kernel_rfl
theorem signs8x21 (e : TypeId) : signs e (.ofNat 8) (.ofNat 21) = True := by kernel_rfl
theorem signs8x22 (e : TypeId) : signs e (.ofNat 8) (.ofNat 22) = True := by kernel_rfl
theorem signs8 (e : TypeId) (j : Int) : Ran (signs e (.ofNat 8) j) :=
  each23 (p := fun j => Ran (signs e (.ofNat 8) j)) (fun k => ran_of (signsN8 e k)) (fun k => ran_of (signsB8 e k)) (ran_of (signs8x0 e)) (ran_of (signs8x1 e)) (ran_of (signs8x2 e)) (ran_of (signs8x3 e)) (ran_of (signs8x4 e)) (ran_of (signs8x5 e)) (ran_of (signs8x6 e)) (ran_of (signs8x7 e)) (ran_of (signs8x8 e)) (ran_of (signs8x9 e)) (ran_of (signs8x10 e)) (ran_of (signs8x11 e)) (ran_of (signs8x12 e)) (ran_of (signs8x13 e)) (ran_of (signs8x14 e)) (ran_of (signs8x15 e)) (ran_of (signs8x16 e)) (ran_of (signs8x17 e)) (ran_of (signs8x18 e)) (ran_of (signs8x19 e)) (ran_of (signs8x20 e)) (ran_of (signs8x21 e)) (ran_of (signs8x22 e)) j
theorem signsN9 (e : TypeId) (k : Nat) : signs e (.ofNat 9) (.negSucc k) = True := by kernel_rfl
theorem signsB9 (e : TypeId) (k : Nat) : signs e (.ofNat 9) (.ofNat (k + 23)) = True := by kernel_rfl
theorem signs9x0 (e : TypeId) : signs e (.ofNat 9) (.ofNat 0) = True := by kernel_rfl
theorem signs9x1 (e : TypeId) : signs e (.ofNat 9) (.ofNat 1) = True := by kernel_rfl
theorem signs9x2 (e : TypeId) : signs e (.ofNat 9) (.ofNat 2) = True := by kernel_rfl
theorem signs9x3 (e : TypeId) : signs e (.ofNat 9) (.ofNat 3) = True := by kernel_rfl
theorem signs9x4 (e : TypeId) : signs e (.ofNat 9) (.ofNat 4) = True := by kernel_rfl
theorem signs9x5 (e : TypeId) : signs e (.ofNat 9) (.ofNat 5) = True := by kernel_rfl
theorem signs9x6 (e : TypeId) : signs e (.ofNat 9) (.ofNat 6) = True := by kernel_rfl
theorem signs9x7 (e : TypeId) : signs e (.ofNat 9) (.ofNat 7) = True := by kernel_rfl
theorem signs9x8 (e : TypeId) : signs e (.ofNat 9) (.ofNat 8) = True := by kernel_rfl
theorem signs9x9 (e : TypeId) : signs e (.ofNat 9) (.ofNat 9) = True := by kernel_rfl
theorem signs9x10 (e : TypeId) : signs e (.ofNat 9) (.ofNat 10) = True := by kernel_rfl
theorem signs9x11 (e : TypeId) : signs e (.ofNat 9) (.ofNat 11) = True := by kernel_rfl
theorem signs9x12 (e : TypeId) : signs e (.ofNat 9) (.ofNat 12) = True := by kernel_rfl
theorem signs9x13 (e : TypeId) : signs e (.ofNat 9) (.ofNat 13) = True := by kernel_rfl
theorem signs9x14 (e : TypeId) : signs e (.ofNat 9) (.ofNat 14) = True := by kernel_rfl
theorem signs9x15 (e : TypeId) : signs e (.ofNat 9) (.ofNat 15) = True := by kernel_rfl
theorem signs9x16 (e : TypeId) : signs e (.ofNat 9) (.ofNat 16) = True := by kernel_rfl
theorem signs9x17 (e : TypeId) : signs e (.ofNat 9) (.ofNat 17) = True := by kernel_rfl
theorem signs9x18 (e : TypeId) : signs e (.ofNat 9) (.ofNat 18) = True := by kernel_rfl
theorem signs9x19 (e : TypeId) : signs e (.ofNat 9) (.ofNat 19) = True := by kernel_rfl
theorem signs9x20 (e : TypeId) : signs e (.ofNat 9) (.ofNat 20) = True := by kernel_rfl
theorem signs9x21 (e : TypeId) : signs e (.ofNat 9) (.ofNat 21) = True := by kernel_rfl
theorem signs9x22 (e : TypeId) : signs e (.ofNat 9) (.ofNat 22) = True := by kernel_rfl
theorem signs9 (e : TypeId) (j : Int) : Ran (signs e (.ofNat 9) j) :=
  each23 (p := fun j => Ran (signs e (.ofNat 9) j)) (fun k => ran_of (signsN9 e k)) (fun k => ran_of (signsB9 e k)) (ran_of (signs9x0 e)) (ran_of (signs9x1 e)) (ran_of (signs9x2 e)) (ran_of (signs9x3 e)) (ran_of (signs9x4 e)) (ran_of (signs9x5 e)) (ran_of (signs9x6 e)) (ran_of (signs9x7 e)) (ran_of (signs9x8 e)) (ran_of (signs9x9 e)) (ran_of (signs9x10 e)) (ran_of (signs9x11 e)) (ran_of (signs9x12 e)) (ran_of (signs9x13 e)) (ran_of (signs9x14 e)) (ran_of (signs9x15 e)) (ran_of (signs9x16 e)) (ran_of (signs9x17 e)) (ran_of (signs9x18 e)) (ran_of (signs9x19 e)) (ran_of (signs9x20 e)) (ran_of (signs9x21 e)) (ran_of (signs9x22 e)) j
theorem signsN10 (e : TypeId) (k : Nat) : signs e (.ofNat 10) (.negSucc k) = True := by kernel_rfl
theorem signsB10 (e : TypeId) (k : Nat) : signs e (.ofNat 10) (.ofNat (k + 23)) = True := by kernel_rfl
theorem signs10x0 (e : TypeId) : signs e (.ofNat 10) (.ofNat 0) = True := by kernel_rfl
theorem signs10x1 (e : TypeId) : signs e (.ofNat 10) (.ofNat 1) = True := by kernel_rfl
theorem signs10x2 (e : TypeId) : signs e (.ofNat 10) (.ofNat 2) = True := by kernel_rfl
theorem signs10x3 (e : TypeId) : signs e (.ofNat 10) (.ofNat 3) = True := by kernel_rfl
theorem signs10x4 (e : TypeId) : signs e (.ofNat 10) (.ofNat 4) = True := by kernel_rfl
theorem signs10x5 (e : TypeId) : signs e (.ofNat 10) (.ofNat 5) = True := by kernel_rfl
theorem signs10x6 (e : TypeId) : signs e (.ofNat 10) (.ofNat 6) = True := by kernel_rfl
theorem signs10x7 (e : TypeId) : signs e (.ofNat 10) (.ofNat 7) = True := by kernel_rfl
theorem signs10x8 (e : TypeId) : signs e (.ofNat 10) (.ofNat 8) = True := by kernel_rfl
theorem signs10x9 (e : TypeId) : signs e (.ofNat 10) (.ofNat 9) = True := by kernel_rfl
theorem signs10x10 (e : TypeId) : signs e (.ofNat 10) (.ofNat 10) = True := by kernel_rfl
theorem signs10x11 (e : TypeId) : signs e (.ofNat 10) (.ofNat 11) = True := by kernel_rfl
theorem signs10x12 (e : TypeId) : signs e (.ofNat 10) (.ofNat 12) = True := by kernel_rfl
theorem signs10x13 (e : TypeId) : signs e (.ofNat 10) (.ofNat 13) = True := by kernel_rfl
theorem signs10x14 (e : TypeId) : signs e (.ofNat 10) (.ofNat 14) = True := by kernel_rfl
theorem signs10x15 (e : TypeId) : signs e (.ofNat 10) (.ofNat 15) = True := by kernel_rfl
theorem signs10x16 (e : TypeId) : signs e (.ofNat 10) (.ofNat 16) = True := by kernel_rfl
theorem signs10x17 (e : TypeId) : signs e (.ofNat 10) (.ofNat 17) = True := by kernel_rfl
theorem signs10x18 (e : TypeId) : signs e (.ofNat 10) (.ofNat 18) = True := by kernel_rfl
theorem signs10x19 (e : TypeId) : signs e (.ofNat 10) (.ofNat 19) = True := by kernel_rfl
theorem signs10x20 (e : TypeId) : signs e (.ofNat 10) (.ofNat 20) = True := by kernel_rfl
theorem signs10x21 (e : TypeId) : signs e (.ofNat 10) (.ofNat 21) = True := by kernel_rfl
theorem signs10x22 (e : TypeId) : signs e (.ofNat 10) (.ofNat 22) = True := by kernel_rfl
theorem signs10 (e : TypeId) (j : Int) : Ran (signs e (.ofNat 10) j) :=
  each23 (p := fun j => Ran (signs e (.ofNat 10) j)) (fun k => ran_of (signsN10 e k)) (fun k => ran_of (signsB10 e k)) (ran_of (signs10x0 e)) (ran_of (signs10x1 e)) (ran_of (signs10x2 e)) (ran_of (signs10x3 e)) (ran_of (signs10x4 e)) (ran_of (signs10x5 e)) (ran_of (signs10x6 e)) (ran_of (signs10x7 e)) (ran_of (signs10x8 e)) (ran_of (signs10x9 e)) (ran_of (signs10x10 e)) (ran_of (signs10x11 e)) (ran_of (signs10x12 e)) (ran_of (signs10x13 e)) (ran_of (signs10x14 e)) (ran_of (signs10x15 e)) (ran_of (signs10x16 e)) (ran_of (signs10x17 e)) (ran_of (signs10x18 e)) (ran_of (signs10x19 e)) (ran_of (signs10x20 e)) (ran_of (signs10x21 e)) (ran_of (signs10x22 e)) j
theorem signsN11 (e : TypeId) (k : Nat) : signs e (.ofNat 11) (.negSucc k) = True := by kernel_rfl
theorem signsB11 (e : TypeId) (k : Nat) : signs e (.ofNat 11) (.ofNat (k + 23)) = True := by kernel_rfl
theorem signs11x0 (e : TypeId) : signs e (.ofNat 11) (.ofNat 0) = True := by kernel_rfl
theorem signs11x1 (e : TypeId) : signs e (.ofNat 11) (.ofNat 1) = True := by kernel_rfl
theorem signs11x2 (e : TypeId) : signs e (.ofNat 11) (.ofNat 2) = True := by kernel_rfl
theorem signs11x3 (e : TypeId) : signs e (.ofNat 11) (.ofNat 3) = True := by kernel_rfl
theorem signs11x4 (e : TypeId) : signs e (.ofNat 11) (.ofNat 4) = True := by kernel_rfl
theorem signs11x5 (e : TypeId) : signs e (.ofNat 11) (.ofNat 5) = True := by kernel_rfl
theorem signs11x6 (e : TypeId) : signs e (.ofNat 11) (.ofNat 6) = True := by kernel_rfl
theorem signs11x7 (e : TypeId) : signs e (.ofNat 11) (.ofNat 7) = True := by kernel_rfl
theorem signs11x8 (e : TypeId) : signs e (.ofNat 11) (.ofNat 8) = True := by kernel_rfl
theorem signs11x9 (e : TypeId) : signs e (.ofNat 11) (.ofNat 9) = True := by kernel_rfl
theorem signs11x10 (e : TypeId) : signs e (.ofNat 11) (.ofNat 10) = True := by kernel_rfl
theorem signs11x11 (e : TypeId) : signs e (.ofNat 11) (.ofNat 11) = True := by kernel_rfl
theorem signs11x12 (e : TypeId) : signs e (.ofNat 11) (.ofNat 12) = True := by kernel_rfl
theorem signs11x13 (e : TypeId) : signs e (.ofNat 11) (.ofNat 13) = True := by kernel_rfl
theorem signs11x14 (e : TypeId) : signs e (.ofNat 11) (.ofNat 14) = True := by kernel_rfl
theorem signs11x15 (e : TypeId) : signs e (.ofNat 11) (.ofNat 15) = True := by kernel_rfl
theorem signs11x16 (e : TypeId) : signs e (.ofNat 11) (.ofNat 16) = True := by kernel_rfl
theorem signs11x17 (e : TypeId) : signs e (.ofNat 11) (.ofNat 17) = True := by kernel_rfl
theorem signs11x18 (e : TypeId) : signs e (.ofNat 11) (.ofNat 18) = True := by kernel_rfl
theorem signs11x19 (e : TypeId) : signs e (.ofNat 11) (.ofNat 19) = True := by kernel_rfl
theorem signs11x20 (e : TypeId) : signs e (.ofNat 11) (.ofNat 20) = True := by kernel_rfl
theorem signs11x21 (e : TypeId) : signs e (.ofNat 11) (.ofNat 21) = True := by kernel_rfl
theorem signs11x22 (e : TypeId) : signs e (.ofNat 11) (.ofNat 22) = True := by kernel_rfl
theorem signs11 (e : TypeId) (j : Int) : Ran (signs e (.ofNat 11) j) :=
  each23 (p := fun j => Ran (signs e (.ofNat 11) j)) (fun k => ran_of (signsN11 e k)) (fun k => ran_of (signsB11 e k)) (ran_of (signs11x0 e)) (ran_of (signs11x1 e)) (ran_of (signs11x2 e)) (ran_of (signs11x3 e)) (ran_of (signs11x4 e)) (ran_of (signs11x5 e)) (ran_of (signs11x6 e)) (ran_of (signs11x7 e)) (ran_of (signs11x8 e)) (ran_of (signs11x9 e)) (ran_of (signs11x10 e)) (ran_of (signs11x11 e)) (ran_of (signs11x12 e)) (ran_of (signs11x13 e)) (ran_of (signs11x14 e)) (ran_of (signs11x15 e)) (ran_of (signs11x16 e)) (ran_of (signs11x17 e)) (ran_of (signs11x18 e)) (ran_of (signs11x19 e)) (ran_of (signs11x20 e)) (ran_of (signs11x21 e)) (ran_of (signs11x22 e)) j
end
end Go.Proofs.YtoeoaiipchklbaaDoor

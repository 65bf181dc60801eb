/- Drat: the checker's small functions. -/
import Derived.Test.YtagfnjpjmmleiaaDoorPE
set_option linter.unusedVariables false
set_option linter.unusedSimpArgs false
set_option autoImplicit false
set_option linter.unusedVariables false
set_option linter.unusedSimpArgs false
namespace Go.Proofs.YtagfnjpjmmleiaaDoor
open Go.Shelf Go.RowKit
set_option maxHeartbeats 4000000 in
set_option maxRecDepth 1000000 in
theorem num_walk (x : Int) (w : World) : Calls Tryd.prog 14 #[.int .i64 x] w fun e w' => e = .returned (.int .i64 x) ∧ w' = w := by
  go_enter Tryd.func14, Tryd.ntmps14
  go_wp2
  go_ret
  simp
/-- a literal's place -/
def codeZ (x : Int) : Nat := if x < 0 then 2 * x.natAbs + 1 else 2 * x.natAbs
set_option maxHeartbeats 4000000 in
set_option maxRecDepth 1000000 in
theorem code_walk (x : Int) (h0 : -1000000000 ≤ x) (h1 : x ≤ 1000000000) (w : World) :
    Calls Tryd.prog 38 #[.int .i64 x] w fun e w' => e = .returned (.int .i64 (codeZ x : Int)) ∧ w' = w := by
  go_enter Tryd.func38, Tryd.ntmps38
  by_cases h : x < 0
  · have hc : ((codeZ x : Nat) : Int) = -2 * x + 1 := by unfold codeZ; rw [if_pos h]; omega
    go_wp2
    go_ret
    exact ⟨by first | rfl | (simp [hc]; done) | (rw [hc]; rfl), by trivial⟩
  · have hc : ((codeZ x : Nat) : Int) = 2 * x := by unfold codeZ; rw [if_neg h]; omega
    go_wp2
    go_ret
    exact ⟨by first | rfl | (simp [hc]; done) | (rw [hc]; rfl), by trivial⟩
set_option maxHeartbeats 4000000 in
set_option maxRecDepth 1000000 in
theorem literal_walk (vars x : Int) (v : Value) (w : World) (h0 : -1000000000 ≤ vars) (h1 : vars ≤ 1000000000) :
    Calls Tryd.prog 25 #[.agg #[.int .i64 vars, v], .int .i64 x] w fun e w' => e = .returned (.bool (fair1 vars x)) ∧ Below w.heap.size w w' := by
  have hb0 := (Below.refl w.heap.size w).alloc (Nat.le_refl _) (.cells #[Value.int .i64 vars, v] 24)
  have hc0 : (w.alloc (.cells #[Value.int .i64 vars, v] 24)).cell? ⟨w.heap.size, 0, none⟩ = some (.int .i64 vars) := (cell_new ..).trans rfl
  go_enter Tryd.func25, Tryd.ntmps25
  by_cases hx : x = 0
  · have hF : fair1 vars x = false := by simp [fair1, hx]
    subst hx
    go_wp2
    go_ret
    exact ⟨by first | rfl | (simp [hF]; done) | (rw [hF]; rfl), hb0⟩
  · have hxb : (x != 0) = true := by simp [hx]
    by_cases hv : x ≤ vars
    · by_cases hn : -vars ≤ x
      · have hF : fair1 vars x = true := by simp [fair1, hx]; omega
        go_wp2
        go_ret
        exact ⟨by first | rfl | (simp [hF]; done) | (rw [hF]; rfl), hb0⟩
      · have hF : fair1 vars x = false := by simp [fair1, hx]; omega
        go_wp2
        go_ret
        exact ⟨by first | rfl | (simp [hF]; done) | (rw [hF]; rfl), hb0⟩
    · have hF : fair1 vars x = false := by simp [fair1, hx]; omega
      go_wp2
      go_ret
      exact ⟨by first | rfl | (simp [hF]; done) | (rw [hF]; rfl), hb0⟩
end Go.Proofs.YtagfnjpjmmleiaaDoor

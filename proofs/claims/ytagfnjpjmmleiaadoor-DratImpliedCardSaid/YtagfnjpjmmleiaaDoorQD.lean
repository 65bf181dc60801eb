/- Drat: the checker's values. -/
import Derived.Test.YtagfnjpjmmleiaaDoorQA
import Derived.Test.YtagfnjpjmmleiaaDoorPF
set_option linter.unusedVariables false
set_option linter.unusedSimpArgs false
set_option autoImplicit false
set_option linter.unusedVariables false
set_option linter.unusedSimpArgs false
namespace Go.Proofs.YtagfnjpjmmleiaaDoor
open Go.Shelf Go.RowKit
/-- the values of the checker in block xb: a row of its own, block vb -/
structure HasVals (w : World) (xb vb n cv : Nat) (vs : List Int) : Prop where
  fld : w.cell? ⟨xb, 7, none⟩ = some (.slice (some ⟨vb, 0, none⟩) n cv)
  lt : vb < w.heap.size
  cell : ∀ m, m < n → w.cell? ⟨vb, m, none⟩ = some (.int .i8 (vs.getD m 0)) ∧ w.frozen? ⟨vb, m, none⟩ = false
  fine : Fine n vs
set_option maxHeartbeats 4000000 in
set_option maxRecDepth 1000000 in
theorem value_walk (xb vb n cv : Nat) (vs : List Int) (x : Int) (w : World) (h : HasVals w xb vb n cv vs) (hx : x.natAbs < n) (hn : n ≤ 1000000000) :
    Calls Tryd.prog 55 #[.pointer (some ⟨xb, 0, none⟩), .int .i64 x] w fun e w' => e = .returned (.int .i8 (litV vs x)) ∧ w' = w := by
  obtain ⟨m, hm⟩ : ∃ m, x.natAbs = m := ⟨_, rfl⟩
  rw [hm] at hx
  obtain ⟨hc, _⟩ := h.cell m hx
  have hb := h.fine.get m
  have hf := h.fld
  obtain ⟨y, hy⟩ : ∃ y, vs.getD m 0 = y := ⟨_, rfl⟩
  rw [hy] at hc hb
  have hmn : (m : Int) < n := by omega
  rcases (show (x < 0 ∧ x = -(m : Int)) ∨ (¬ x < 0 ∧ x = (m : Int)) by omega) with ⟨h0, rfl⟩ | ⟨h0, rfl⟩
  · have hL : litV vs (-(m : Int)) = -y := by unfold litV; rw [hm, hy]; exact if_pos h0
    go_enter Tryd.func55, Tryd.ntmps55
    go_wp2
    go_ret
    exact ⟨by first | rfl | (simp [hL]; done) | (rw [hL]; rfl), by trivial⟩
  · have hL : litV vs (m : Int) = y := by unfold litV; rw [hm, hy]; exact if_neg h0
    go_enter Tryd.func55, Tryd.ntmps55
    go_wp2
    go_ret
    exact ⟨by first | rfl | (simp [hL]; done) | (rw [hL]; rfl), by trivial⟩
end Go.Proofs.YtagfnjpjmmleiaaDoor

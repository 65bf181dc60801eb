/- Drat: formulas as they stand in a world; how big one is. -/
import Derived.Test.YtagfnjpjmmleiaaDoorRA
set_option linter.unusedVariables false
set_option linter.unusedSimpArgs false
set_option autoImplicit false
set_option linter.unusedVariables false
namespace Go.Proofs.YtagfnjpjmmleiaaDoor
open Go.Shelf Go.RowKit
theorem cell_new (w : World) (cs : Array Value) (t : TypeId) (fz : Nat × Nat) (k : Nat) : (w.alloc (.cells cs t fz)).cell? ⟨w.heap.size, k, none⟩ = cs[k]? := by
  have h : (w.alloc (.cells cs t fz)).heap[w.heap.size]? = some (.cells cs t fz) := by
    show (w.heap.push (.cells cs t fz))[w.heap.size]? = _
    simp
  unfold World.cell?
  rw [h]
  rfl
/-- a clause, where it lies -/
structure Cl where
  a : Option Addr
  c : Nat
  zs : List Int
  deriving Inhabited
/-- a slice of clauses, as it stands in a world -/
def Rows' (w : World) (a : Option Addr) (cs : List Cl) : Prop := ∀ j, j < cs.length → ∃ b off, a = some ⟨b, off, none⟩ ∧ b < w.heap.size ∧ w.cell? ⟨b, off + j, none⟩ = some (.slice (cs.getD j default).a (cs.getD j default).zs.length (cs.getD j default).c) ∧ Ints w (cs.getD j default).a (cs.getD j default).zs
theorem Ints.below {w wr : World} {a : Option Addr} {zs : List Int} (h : Ints w a zs) (hb : Below w.heap.size w wr) : Ints wr a zs := fun j hj => by
  obtain ⟨b, off, e1, e2, e3⟩ := h j hj
  exact ⟨b, off, e1, Nat.lt_of_lt_of_le e2 hb.size, (hb.cell (by exact e2)).trans e3⟩
theorem Rows'.below {w wr : World} {a : Option Addr} {cs : List Cl} (h : Rows' w a cs) (hb : Below w.heap.size w wr) : Rows' wr a cs := fun j hj => by
  obtain ⟨b, off, e1, e2, e3, e4⟩ := h j hj
  exact ⟨b, off, e1, Nat.lt_of_lt_of_le e2 hb.size, (hb.cell (by exact e2)).trans e3, e4.below hb⟩
/-- how many literals and clauses there are in the first k clauses -/
def total (cs : List Cl) : Nat → Nat
  | 0 => 0
  | k + 1 => total cs k + 1 + (cs.getD k default).zs.length
theorem total_mono (cs : List Cl) : ∀ {k m : Nat}, k ≤ m → total cs k ≤ total cs m
  | k, 0, h => by rw [Nat.le_zero.1 h]; exact Nat.le_refl _
  | k, m + 1, h => by
    rcases Nat.lt_or_ge k (m + 1) with h1 | h1
    · have := total_mono cs (k := k) (m := m) (by omega)
      show _ ≤ total cs m + 1 + _
      omega
    · rw [Nat.le_antisymm h h1]; exact Nat.le_refl _
def bigZ (vars : Int) (cs : List Cl) : Bool := decide (6000 < total cs cs.length) || decide (3000 < vars)
set_option maxHeartbeats 4000000 in
set_option maxRecDepth 1000000 in
theorem big_walk (a : Option Addr) (n c : Nat) (cs : List Cl) (vars : Int) (w : World) (hn : cs.length = n) (hlen : n ≤ 4611686018427387904) (hl : ∀ j, j < n → (cs.getD j default).zs.length ≤ 4611686018427387904) (hz : Rows' w a cs) :
    Calls Tryd.prog 9 #[.agg #[.int .i64 vars, .slice a n c]] w fun e w' => e = .returned (.bool (bigZ vars cs)) ∧ Below w.heap.size w w' := by
  go_enter Tryd.func9, Tryd.ntmps9
  go_wp2
  go_loopw [3, 4] (fun m i wr => ∃ k : Nat, k ≤ n ∧ i = .int .i64 k ∧ m = .int .i64 (total cs k) ∧ (∀ j, j < k → total cs j ≤ 6000) ∧ Below w.heap.size w wr ∧ wr.cell? ⟨w.heap.size, 0, none⟩ = some (.int .i64 vars) ∧ wr.cell? ⟨w.heap.size, 0 + 1, none⟩ = some (.slice a n c)) (fun _ i _ => n - (intOf i).toNat)
  case atStart =>
    refine ⟨0, Nat.zero_le _, rfl, rfl, (fun j h => by omega), (Below.refl _ w).alloc (Nat.le_refl _) _, (cell_new ..).trans rfl, (cell_new ..).trans rfl⟩
  case round =>
    obtain ⟨k, hk, rfl, rfl, hm, hbw, hc0, hc1⟩ := hrel
    by_cases hlt : k < n
    · by_cases hbig : total cs k ≤ 6000
      · obtain ⟨b, off, rfl, hb, hc, hi⟩ := hz k (by omega)
        have hc := (hbw.cell (by exact hb)).trans hc
        have hll := hl k hlt
        have ht : total cs (k + 1) = total cs k + 1 + (cs.getD k default).zs.length := rfl
        obtain ⟨x, hx⟩ : ∃ x, cs.getD k default = x := ⟨_, rfl⟩
        rw [hx] at hc hll ht
        obtain ⟨t, ht0⟩ : ∃ t, total cs k = t := ⟨_, rfl⟩
        rw [ht0] at hbig ht
        simp only [ht0]
        go_wp2
        go_roundw
        case rel =>
          refine ⟨k + 1, hlt, by simp, by rw [ht]; simp, fun j hj => ?_, hbw, hc0, hc1⟩
          rcases Nat.lt_or_ge j k with h | h
          · exact hm j h
          · rw [show j = k by omega, ht0]; exact hbig
        case measure => simp [intOf]; omega
      · have hmono := total_mono cs (k := k) (m := n) hk
        have hB : bigZ vars cs = true := by unfold bigZ; rw [hn]; simp; omega
        obtain ⟨t, ht0⟩ : ∃ t, total cs k = t := ⟨_, rfl⟩
        rw [ht0] at hbig
        have hb1 : ¬ ((t : Int) ≤ 6000) := by omega
        have hb2 : (6000 : Int) < t := by omega
        simp only [ht0]
        go_wp2
        go_ret
        exact ⟨by first | rfl | (rw [hB]; rfl) | (simp [hB]; done) | (simp [hB]; omega) | (simp; omega), hbw⟩
    · have e0 : k = n := by omega
      subst e0
      obtain ⟨t, ht0⟩ : ∃ t, total cs k = t := ⟨_, rfl⟩
      have hB : bigZ vars cs = (decide (6000 < t) || decide (3000 < vars)) := by unfold bigZ; rw [hn, ht0]
      simp only [ht0]
      by_cases hbig : (t : Int) ≤ 6000
      · have hb2 : ¬ ((6000 : Int) < t) := by omega
        by_cases h3 : 3000 < vars
        · go_wp2
          go_ret
          exact ⟨by first | rfl | (rw [hB]; rfl) | (simp [hB]; done) | (simp [hB]; omega) | (simp; omega), hbw⟩
        · go_wp2
          go_ret
          exact ⟨by first | rfl | (rw [hB]; rfl) | (simp [hB]; done) | (simp [hB]; omega) | (simp; omega), hbw⟩
      · have hb2 : (6000 : Int) < t := by omega
        go_wp2
        go_ret
        exact ⟨by first | rfl | (rw [hB]; rfl) | (simp [hB]; done) | (simp [hB]; omega) | (simp; omega), hbw⟩
end Go.Proofs.YtagfnjpjmmleiaaDoor

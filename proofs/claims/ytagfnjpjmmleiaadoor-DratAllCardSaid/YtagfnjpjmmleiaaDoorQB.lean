/- Drat: a proof's lines as they stand in a world; is a proof too long? -/
import Derived.Test.YtagfnjpjmmleiaaDoorQA
set_option linter.unusedVariables false
set_option linter.unusedSimpArgs false
set_option autoImplicit false
set_option linter.unusedVariables false
set_option linter.unusedSimpArgs false
namespace Go.Proofs.YtagfnjpjmmleiaaDoor
open Go.Shelf Go.RowKit
/-- a line, where its clause lies -/
structure Ln where
  gone : Bool
  cl : Cl
  deriving Inhabited
def Lines (w : World) (a : Option Addr) (ls : List Ln) : Prop := ∀ j, j < ls.length → ∃ b off, a = some ⟨b, off, none⟩ ∧ b < w.heap.size ∧ w.cell? ⟨b, off + j * 2, none⟩ = some (.bool (ls.getD j default).gone) ∧ w.cell? ⟨b, off + j * 2 + 1, none⟩ = some (.slice (ls.getD j default).cl.a (ls.getD j default).cl.zs.length (ls.getD j default).cl.c) ∧ Ints w (ls.getD j default).cl.a (ls.getD j default).cl.zs
theorem Lines.below {w wr : World} {a : Option Addr} {ls : List Ln} (h : Lines w a ls) (hb : Below w.heap.size w wr) : Lines wr a ls := fun j hj => by
  obtain ⟨b, off, e1, e2, e3, e4, e5⟩ := h j hj
  exact ⟨b, off, e1, Nat.lt_of_lt_of_le e2 hb.size, (hb.cell (by exact e2)).trans e3, (hb.cell (by exact e2)).trans e4, e5.below hb⟩
def longZ (ls : List Ln) : Bool := decide (3000 < total (ls.map Ln.cl) ls.length)
set_option maxHeartbeats 4000000 in
set_option maxRecDepth 1000000 in
theorem long_walk (a : Option Addr) (n c : Nat) (ls : List Ln) (w : World) (hn : ls.length = n) (hlen : n ≤ 1152921504606846976) (hl : ∀ j, j < n → (ls.getD j default).cl.zs.length ≤ 4611686018427387904) (hz : Lines w a ls) :
    Calls Tryd.prog 10 #[.slice a n c] w fun e w' => e = .returned (.bool (longZ ls)) ∧ w' = w := by
  have htot : ∀ k, k < n → total (ls.map Ln.cl) (k + 1) = total (ls.map Ln.cl) k + 1 + (ls.getD k default).cl.zs.length := fun k hk => by
    show _ + 1 + ((ls.map Ln.cl).getD k default).zs.length = _
    rw [List.getD_eq_getElem?_getD, List.getElem?_map, List.getD_eq_getElem?_getD, List.getElem?_eq_getElem (by omega)]; rfl
  go_enter Tryd.func10, Tryd.ntmps10
  go_wp2
  go_loopw [3, 4] (fun m i wr => ∃ k : Nat, k ≤ n ∧ i = .int .i64 k ∧ m = .int .i64 (total (ls.map Ln.cl) k) ∧ wr = w) (fun _ i _ => n - (intOf i).toNat)
  case atStart => exact ⟨0, Nat.zero_le _, rfl, rfl, rfl⟩
  case round =>
    obtain ⟨k, hk, rfl, rfl, rfl⟩ := hrel
    obtain ⟨t, ht0⟩ : ∃ t, total (ls.map Ln.cl) k = t := ⟨_, rfl⟩
    by_cases hlt : k < n
    · by_cases hbig : (t : Int) ≤ 3000
      · obtain ⟨b, off, rfl, hb, hg, hc, hi⟩ := hz k (by omega)
        have hll := hl k hlt
        have ht := htot k hlt
        obtain ⟨x, hx⟩ : ∃ x, ls.getD k default = x := ⟨_, rfl⟩
        rw [hx] at hc hll ht
        obtain ⟨xa, hxa⟩ : ∃ t, x.cl.a = t := ⟨_, rfl⟩
        obtain ⟨xn, hxn⟩ : ∃ t, x.cl.zs.length = t := ⟨_, rfl⟩
        rw [hxa, hxn] at hc
        rw [hxn] at hll ht
        rw [ht0] at ht
        simp only [ht0]
        go_wp2
        go_roundw
        case rel => exact ⟨k + 1, hlt, (by simp), (by rw [ht]; simp), (by trivial)⟩
        case measure => simp [intOf]; omega
      · have hmono := total_mono (ls.map Ln.cl) (k := k) (m := n) hk
        have hb2 : (3000 : Int) < t := by omega
        have hB : longZ ls = true := by unfold longZ; rw [hn]; simp; omega
        simp only [ht0]
        go_wp2
        go_ret
        exact ⟨by first | rfl | (simp [hB]; done) | (rw [hB]; rfl), by trivial⟩
    · have e0 : k = n := by omega
      subst e0
      have hB : longZ ls = decide (3000 < t) := by unfold longZ; rw [hn, ht0]
      simp only [ht0]
      by_cases hbig : (t : Int) ≤ 3000
      · have hb2 : ¬ (3000 : Int) < t := by omega
        go_wp2
        go_ret
        exact ⟨by first | rfl | (simp [hB]; omega) | (rw [hB]; simp; omega), by trivial⟩
      · have hb2 : (3000 : Int) < t := by omega
        go_wp2
        go_ret
        exact ⟨by first | rfl | (simp [hB]; omega) | (rw [hB]; simp; omega), by trivial⟩
end Go.Proofs.YtagfnjpjmmleiaaDoor

/- Drat: the document's own answer: small functions that read. -/
import Derived.Test.YtagfnjpjmmleiaaDoorShelf
import Derived.Test.YtagfnjpjmmleiaaDoorChecked
import Derived.WalkKit
import Derived.Deep.QuietTactic
import Derived.BigQuiet
set_option linter.unusedVariables false
set_option linter.unusedSimpArgs false
set_option autoImplicit false
set_option linter.unusedVariables false
namespace Go.Proofs.YtagfnjpjmmleiaaDoor
open Go.Shelf Go.RowKit
/-- a slice of numbers, as it stands in a world -/
def Ints (w : World) (a : Option Addr) (zs : List Int) : Prop := ∀ j, j < zs.length → ∃ b off, a = some ⟨b, off, none⟩ ∧ b < w.heap.size ∧ w.cell? ⟨b, off + j, none⟩ = some (.int .i64 (zs.getD j 0))
/-- does a literal belong to so many variables? -/
def fair1 (vars z : Int) : Bool := !(decide (z = 0) || decide (vars < z) || decide (z < -vars))
def fairZ (vars : Int) (zs : List Int) : Bool := zs.all (fair1 vars)
theorem fairZ_snoc {vars x : Int} {zs : List Int} : fairZ vars (zs ++ [x]) = (fairZ vars zs && fair1 vars x) := by simp [fairZ]
theorem take_snoc {zs : List Int} {k : Nat} (h : k < zs.length) : zs.take (k + 1) = zs.take k ++ [zs.getD k 0] := by
  rw [List.take_add_one, List.getD_eq_getElem?_getD, List.getElem?_eq_getElem h]; rfl
theorem fairZ_take {vars : Int} {zs : List Int} {k : Nat} (hk : k < zs.length) (h : fair1 vars (zs.getD k 0) = false) : fairZ vars zs = false := by
  unfold fairZ
  rw [List.all_eq_false]
  rw [List.getD_eq_getElem?_getD, List.getElem?_eq_getElem hk] at h
  exact ⟨_, List.getElem_mem hk, by simpa using h⟩
set_option maxHeartbeats 4000000 in
set_option maxRecDepth 1000000 in
theorem abs_walk (x : Int) (h0 : -1000000000 ≤ x) (h1 : x ≤ 1000000000) (w : World) :
    Calls Tryd.prog 32 #[.int .i64 x] w fun e w' => e = .returned (.int .i64 (if x < 0 then -x else x)) ∧ w' = w := by
  go_enter Tryd.func32, Tryd.ntmps32
  by_cases h : x < 0
  · go_wp2
    go_ret
    simp
  · go_wp2
    go_ret
    simp
set_option maxHeartbeats 4000000 in
set_option maxRecDepth 1000000 in
theorem fair_walk (a : Option Addr) (n c : Nat) (zs : List Int) (vars : Int) (w : World) (hn : zs.length = n) (hlen : n ≤ 1000000000) (hv : -1000000000 ≤ vars) (hv1 : vars ≤ 1000000000) (hz : Ints w a zs) :
    Calls Tryd.prog 16 #[.slice a n c, .int .i64 vars] w fun e w' => e = .returned (.bool (fairZ vars zs)) ∧ w' = w := by
  go_enter Tryd.func16, Tryd.ntmps16
  go_wp2
  go_loopw [5] (fun i wr => ∃ k : Nat, k ≤ n ∧ i = .int .i64 k ∧ fairZ vars (zs.take k) = true ∧ wr = w) (fun i _ => n - (intOf i).toNat)
  case atStart => exact ⟨0, Nat.zero_le _, rfl, rfl, rfl⟩
  case round =>
    obtain ⟨k, hk, rfl, hf, rfl⟩ := hrel
    by_cases hlt : k < n
    · obtain ⟨b, off, rfl, hb, hc⟩ := hz k (by omega)
      have hs := take_snoc (zs := zs) (k := k) (by omega)
      have ht := fun h => fairZ_take (vars := vars) (zs := zs) (k := k) (by omega) h
      obtain ⟨x, hx⟩ : ∃ x, zs.getD k 0 = x := ⟨_, rfl⟩
      rw [hx] at hc hs ht
      by_cases hfair : fair1 vars x = true
      · have h3 : x ≠ 0 ∧ ¬ vars < x ∧ ¬ x < -vars := by simpa [fair1, and_assoc] using hfair
        obtain ⟨h3, h4, h5⟩ := h3
        go_wp2
        go_roundw
        case rel => exact ⟨k + 1, hlt, by simp, (by rw [hs, fairZ_snoc, hf, hfair]; rfl), (by trivial)⟩
        case measure => simp [intOf]; omega
      · have hfair : fair1 vars x = false := by simpa using hfair
        have hF := ht hfair
        have h3 : x = 0 ∨ vars < x ∨ x < -vars := by
          have : ¬ (x ≠ 0 ∧ ¬ vars < x ∧ ¬ x < -vars) := by
            intro h
            have : fair1 vars x = true := by simp [fair1, h.1]; omega
            rw [this] at hfair; cases hfair
          omega
        rcases h3 with rfl | h3 | h3
        · go_wp2
          go_ret
          simp [hF]
        · by_cases h0 : x = 0
          · subst h0
            go_wp2
            go_ret
            simp [hF]
          · go_wp2
            go_ret
            simp [hF]
        · by_cases h0 : x = 0
          · subst h0
            go_wp2
            go_ret
            simp [hF]
          · by_cases h4 : vars < x
            · go_wp2
              go_ret
              simp [hF]
            · go_wp2
              go_ret
              simp [hF]
    · have e0 : k = n := by omega
      subst e0
      rw [← hn, List.take_length] at hf
      go_wp2
      go_ret
      simp [hf]
end Go.Proofs.YtagfnjpjmmleiaaDoor
/- Drat: formulas as they stand in a world; how big one is. -/
set_option autoImplicit false
set_option linter.unusedVariables false
namespace Go.Proofs.YtagfnjpjmmleiaaDoor
open Go.Shelf Go.RowKit
theorem cell_new (w : World) (cs : Array Value) (t : TypeId) (fz : Nat × Nat) (k : Nat) : (w.alloc (.cells cs t fz)).cell? ⟨w.heap.size, k, none⟩ = cs[k]? := by
  have h : (w.alloc (.cells cs t fz)).heap[w.heap.size]? = some (.cells cs t fz) := by
    show (w.heap.push (.cells cs t fz))[w.heap.size]? = _
    simp
  unfold World.cell?
  rw [h]
  rfl
/-- a clause, where it lies -/
structure Cl where
  a : Option Addr
  c : Nat
  zs : List Int
  deriving Inhabited
/-- a slice of clauses, as it stands in a world -/
def Rows' (w : World) (a : Option Addr) (cs : List Cl) : Prop := ∀ j, j < cs.length → ∃ b off, a = some ⟨b, off, none⟩ ∧ b < w.heap.size ∧ w.cell? ⟨b, off + j, none⟩ = some (.slice (cs.getD j default).a (cs.getD j default).zs.length (cs.getD j default).c) ∧ Ints w (cs.getD j default).a (cs.getD j default).zs
theorem Ints.below {w wr : World} {a : Option Addr} {zs : List Int} (h : Ints w a zs) (hb : Below w.heap.size w wr) : Ints wr a zs := fun j hj => by
  obtain ⟨b, off, e1, e2, e3⟩ := h j hj
  exact ⟨b, off, e1, Nat.lt_of_lt_of_le e2 hb.size, (hb.cell (by exact e2)).trans e3⟩
theorem Rows'.below {w wr : World} {a : Option Addr} {cs : List Cl} (h : Rows' w a cs) (hb : Below w.heap.size w wr) : Rows' wr a cs := fun j hj => by
  obtain ⟨b, off, e1, e2, e3, e4⟩ := h j hj
  exact ⟨b, off, e1, Nat.lt_of_lt_of_le e2 hb.size, (hb.cell (by exact e2)).trans e3, e4.below hb⟩
/-- how many literals and clauses there are in the first k clauses -/
def total (cs : List Cl) : Nat → Nat
  | 0 => 0
  | k + 1 => total cs k + 1 + (cs.getD k default).zs.length
theorem total_mono (cs : List Cl) : ∀ {k m : Nat}, k ≤ m → total cs k ≤ total cs m
  | k, 0, h => by rw [Nat.le_zero.1 h]; exact Nat.le_refl _
  | k, m + 1, h => by
    rcases Nat.lt_or_ge k (m + 1) with h1 | h1
    · have := total_mono cs (k := k) (m := m) (by omega)
      show _ ≤ total cs m + 1 + _
      omega
    · rw [Nat.le_antisymm h h1]; exact Nat.le_refl _
def bigZ (vars : Int) (cs : List Cl) : Bool := decide (6000 < total cs cs.length) || decide (3000 < vars)
set_option maxHeartbeats 4000000 in
set_option maxRecDepth 1000000 in
theorem big_walk (a : Option Addr) (n c : Nat) (cs : List Cl) (vars : Int) (w : World) (hn : cs.length = n) (hlen : n ≤ 4611686018427387904) (hl : ∀ j, j < n → (cs.getD j default).zs.length ≤ 4611686018427387904) (hz : Rows' w a cs) :
    Calls Tryd.prog 9 #[.agg #[.int .i64 vars, .slice a n c]] w fun e w' => e = .returned (.bool (bigZ vars cs)) ∧ Below w.heap.size w w' := by
  go_enter Tryd.func9, Tryd.ntmps9
  go_wp2
  go_loopw [3, 4] (fun m i wr => ∃ k : Nat, k ≤ n ∧ i = .int .i64 k ∧ m = .int .i64 (total cs k) ∧ (∀ j, j < k → total cs j ≤ 6000) ∧ Below w.heap.size w wr ∧ wr.cell? ⟨w.heap.size, 0, none⟩ = some (.int .i64 vars) ∧ wr.cell? ⟨w.heap.size, 0 + 1, none⟩ = some (.slice a n c)) (fun _ i _ => n - (intOf i).toNat)
  case atStart =>
    refine ⟨0, Nat.zero_le _, rfl, rfl, (fun j h => by omega), (Below.refl _ w).alloc (Nat.le_refl _) _, (cell_new ..).trans rfl, (cell_new ..).trans rfl⟩
  case round =>
    obtain ⟨k, hk, rfl, rfl, hm, hbw, hc0, hc1⟩ := hrel
    by_cases hlt : k < n
    · by_cases hbig : total cs k ≤ 6000
      · obtain ⟨b, off, rfl, hb, hc, hi⟩ := hz k (by omega)
        have hc := (hbw.cell (by exact hb)).trans hc
        have hll := hl k hlt
        have ht : total cs (k + 1) = total cs k + 1 + (cs.getD k default).zs.length := rfl
        obtain ⟨x, hx⟩ : ∃ x, cs.getD k default = x := ⟨_, rfl⟩
        rw [hx] at hc hll ht
        obtain ⟨t, ht0⟩ : ∃ t, total cs k = t := ⟨_, rfl⟩
        rw [ht0] at hbig ht
        simp only [ht0]
        go_wp2
        go_roundw
        case rel =>
          refine ⟨k + 1, hlt, by simp, by rw [ht]; simp, fun j hj => ?_, hbw, hc0, hc1⟩
          rcases Nat.lt_or_ge j k with h | h
          · exact hm j h
          · rw [show j = k by omega, ht0]; exact hbig
        case measure => simp [intOf]; omega
      · have hmono := total_mono cs (k := k) (m := n) hk
        have hB : bigZ vars cs = true := by unfold bigZ; rw [hn]; simp; omega
        obtain ⟨t, ht0⟩ : ∃ t, total cs k = t := ⟨_, rfl⟩
        rw [ht0] at hbig
        have hb1 : ¬ ((t : Int) ≤ 6000) := by omega
        have hb2 : (6000 : Int) < t := by omega
        simp only [ht0]
        go_wp2
        go_ret
        exact ⟨by first | rfl | (rw [hB]; rfl) | (simp [hB]; done) | (simp [hB]; omega) | (simp; omega), hbw⟩
    · have e0 : k = n := by omega
      subst e0
      obtain ⟨t, ht0⟩ : ∃ t, total cs k = t := ⟨_, rfl⟩
      have hB : bigZ vars cs = (decide (6000 < t) || decide (3000 < vars)) := by unfold bigZ; rw [hn, ht0]
      simp only [ht0]
      by_cases hbig : (t : Int) ≤ 6000
      · have hb2 : ¬ ((6000 : Int) < t) := by omega
        by_cases h3 : 3000 < vars
        · go_wp2
          go_ret
          exact ⟨by first | rfl | (rw [hB]; rfl) | (simp [hB]; done) | (simp [hB]; omega) | (simp; omega), hbw⟩
        · go_wp2
          go_ret
          exact ⟨by first | rfl | (rw [hB]; rfl) | (simp [hB]; done) | (simp [hB]; omega) | (simp; omega), hbw⟩
      · have hb2 : (6000 : Int) < t := by omega
        go_wp2
        go_ret
        exact ⟨by first | rfl | (rw [hB]; rfl) | (simp [hB]; done) | (simp [hB]; omega) | (simp; omega), hbw⟩
end Go.Proofs.YtagfnjpjmmleiaaDoor
/- Drat: the document's own answer: is it a formula? -/
set_option autoImplicit false
set_option linter.unusedVariables false
namespace Go.Proofs.YtagfnjpjmmleiaaDoor
open Go.Shelf Go.RowKit
theorem below_drewN {B : Nat} {w wr : World} (h : Below B w wr) (q : Nat) : Below B w (wr.drewN q) := ⟨h.os, h.tape, h.output, h.size, h.block⟩
def fairs (vars : Int) (cs : List Cl) : Bool := cs.all fun c => fairZ vars c.zs
def checkZ (vars : Int) (cs : List Cl) : Int := if 200000 < vars ∨ 200000 < total cs cs.length then 2 else if vars < 0 then 40 else if fairs vars cs = true then 0 else 40
theorem ctake_snoc {cs : List Cl} {k : Nat} (h : k < cs.length) : cs.take (k + 1) = cs.take k ++ [cs.getD k default] := by
  rw [List.take_add_one, List.getD_eq_getElem?_getD, List.getElem?_eq_getElem h]; rfl
theorem fairs_snoc {vars : Int} {cs : List Cl} {c : Cl} : fairs vars (cs ++ [c]) = (fairs vars cs && fairZ vars c.zs) := by simp [fairs]
theorem fairs_not {vars : Int} {cs : List Cl} {k : Nat} (hk : k < cs.length) (h : fairZ vars (cs.getD k default).zs = false) : fairs vars cs = false := by
  unfold fairs
  rw [List.all_eq_false]
  rw [List.getD_eq_getElem?_getD, List.getElem?_eq_getElem hk] at h
  exact ⟨_, List.getElem_mem hk, by simpa using h⟩
set_option maxHeartbeats 4000000 in
set_option maxRecDepth 1000000 in
theorem check_walk (a : Option Addr) (n c : Nat) (cs : List Cl) (vars : Int) (w : World) (hn : cs.length = n) (hlen : n ≤ 4611686018427387904) (hl : ∀ j, j < n → (cs.getD j default).zs.length ≤ 1000000000) (hz : Rows' w a cs) :
    Calls Tryd.prog 15 #[.agg #[.int .i64 vars, .slice a n c]] w fun e w' => e = .returned (.int .i64 (checkZ vars cs)) ∧ Below w.heap.size w w' := by
  go_enter Tryd.func15, Tryd.ntmps15
  go_wp2
  go_loopw [3, 4] (fun m i wr => ∃ k : Nat, k ≤ n ∧ i = .int .i64 k ∧ m = .int .i64 (total cs k) ∧ total cs k ≤ 200000 ∧ Below w.heap.size w wr ∧ wr.cell? ⟨w.heap.size, 0, none⟩ = some (.int .i64 vars) ∧ wr.cell? ⟨w.heap.size, 0 + 1, none⟩ = some (.slice a n c)) (fun _ i _ => n - (intOf i).toNat)
  case atStart =>
    exact ⟨0, Nat.zero_le _, rfl, rfl, Nat.zero_le _, (Below.refl _ w).alloc (Nat.le_refl _) _, (cell_new ..).trans rfl, (cell_new ..).trans rfl⟩
  case round =>
    obtain ⟨k, hk, rfl, rfl, hm, hbw, hc0, hc1⟩ := hrel
    obtain ⟨t, ht0⟩ : ∃ t, total cs k = t := ⟨_, rfl⟩
    by_cases hlt : k < n
    · obtain ⟨b, off, rfl, hb, hc, hi⟩ := hz k (by omega)
      have hc := (hbw.cell (by exact hb)).trans hc
      have hll := hl k hlt
      have ht : total cs (k + 1) = total cs k + 1 + (cs.getD k default).zs.length := rfl
      obtain ⟨x, hx⟩ : ∃ x, cs.getD k default = x := ⟨_, rfl⟩
      rw [hx] at hc hll ht
      rw [ht0] at hm ht
      simp only [ht0]
      by_cases hbig : (200000 : Int) < t + 1 + x.zs.length
      · have hmono := total_mono cs (k := k + 1) (m := n) (by omega)
        have hB : checkZ vars cs = 2 := by unfold checkZ; rw [hn, if_pos (.inr (by omega))]
        by_cases hv : (200000 : Int) < vars
        · go_wp2
          go_ret
          exact ⟨by first | rfl | (rw [hB]; rfl) | (simp [hB]; done), hbw⟩
        · go_wp2
          go_ret
          exact ⟨by first | rfl | (rw [hB]; rfl) | (simp [hB]; done), hbw⟩
      · go_wp2
        go_roundw
        case rel => exact ⟨k + 1, hlt, by simp, by rw [ht]; simp, by rw [ht]; omega, hbw, hc0, hc1⟩
        case measure => simp [intOf]; omega
    · have e0 : k = n := by omega
      subst e0
      rw [ht0] at hm
      simp only [ht0]
      by_cases hv : (200000 : Int) < vars
      · have hB : checkZ vars cs = 2 := by unfold checkZ; rw [if_pos (.inl hv)]
        go_wp2
        go_ret
        exact ⟨by first | rfl | (rw [hB]; rfl) | (simp [hB]; done), hbw⟩
      · have hm' : ¬ (200000 : Int) < t := by omega
        by_cases hv0 : vars < 0
        · have hB : checkZ vars cs = 40 := by unfold checkZ; rw [hn, ht0, if_neg (by omega), if_pos hv0]
          go_wp2
          go_ret
          exact ⟨by first | rfl | (rw [hB]; rfl) | (simp [hB]; done), hbw⟩
        · have hB : checkZ vars cs = if fairs vars cs = true then 0 else 40 := by unfold checkZ; rw [hn, ht0, if_neg (by omega), if_neg hv0]
          go_wp2
          go_loopw [5, 6] (fun i _ wr => ∃ j : Nat, j ≤ k ∧ i = .int .i64 j ∧ fairs vars (cs.take j) = true ∧ Below w.heap.size w wr ∧ wr.cell? ⟨w.heap.size, 0, none⟩ = some (.int .i64 vars) ∧ wr.cell? ⟨w.heap.size, 0 + 1, none⟩ = some (.slice a k c)) (fun i _ _ => k - (intOf i).toNat)
          case atStart => exact ⟨0, Nat.zero_le _, rfl, rfl, hbw, hc0, hc1⟩
          case round =>
            obtain ⟨j, hj, rfl, hf, hbw, hc0, hc1⟩ := hrel
            by_cases hlt : j < k
            · obtain ⟨b, off, rfl, hb, hc, hi⟩ := hz j (by omega)
              have hc := (hbw.cell (by exact hb)).trans hc
              have hll := hl j hlt
              have hs := ctake_snoc (cs := cs) (k := j) (by omega)
              have ht := fun h => fairs_not (vars := vars) (cs := cs) (k := j) (by omega) h
              obtain ⟨x, hx⟩ : ∃ x, cs.getD j default = x := ⟨_, rfl⟩
              rw [hx] at hc hll hs ht hi
              have hi' := hi.below hbw
              go_wp2
              go_quiet (first | (go_at_call 16; refine Calls.quiet_of_same (fair_walk x.a x.zs.length x.c x.zs vars _ rfl (by omega) (by omega) (by omega) hi')))
              by_cases hfair : fairZ vars x.zs = true
              · simp only [hfair]
                go_wp2
                go_roundw
                case rel => exact ⟨j + 1, hlt, by simp, (by rw [hs, fairs_snoc, hf, hfair]; rfl), below_drewN hbw _, hc0, hc1⟩
                case measure => simp [intOf]; omega
              · have hfair : fairZ vars x.zs = false := by simpa using hfair
                rw [ht hfair] at hB
                go_wp2
                go_ret
                exact ⟨by first | rfl | (rw [hB]; rfl) | (simp [hB]; done), below_drewN hbw _⟩
            · have e0 : j = k := by omega
              subst e0
              rw [← hn, List.take_length] at hf
              rw [hf] at hB
              go_wp2
              go_ret
              exact ⟨by first | rfl | (rw [hB]; rfl) | (simp [hB]; done), hbw⟩
end Go.Proofs.YtagfnjpjmmleiaaDoor

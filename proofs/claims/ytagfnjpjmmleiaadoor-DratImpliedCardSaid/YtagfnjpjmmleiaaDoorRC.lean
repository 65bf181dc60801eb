/- Drat: the document's own answer: is it a formula? -/
import Derived.Test.YtagfnjpjmmleiaaDoorRB
import Derived.Deep.QuietTactic
import Derived.BigQuiet
set_option linter.unusedVariables false
set_option linter.unusedSimpArgs false
set_option autoImplicit false
set_option linter.unusedVariables false
namespace Go.Proofs.YtagfnjpjmmleiaaDoor
open Go.Shelf Go.RowKit
theorem below_drewN {B : Nat} {w wr : World} (h : Below B w wr) (q : Nat) : Below B w (wr.drewN q) := ⟨h.os, h.tape, h.output, h.size, h.block⟩
def fairs (vars : Int) (cs : List Cl) : Bool := cs.all fun c => fairZ vars c.zs
def checkZ (vars : Int) (cs : List Cl) : Int := if 200000 < vars ∨ 200000 < total cs cs.length then 2 else if vars < 0 then 40 else if fairs vars cs = true then 0 else 40
theorem ctake_snoc {cs : List Cl} {k : Nat} (h : k < cs.length) : cs.take (k + 1) = cs.take k ++ [cs.getD k default] := by
  rw [List.take_add_one, List.getD_eq_getElem?_getD, List.getElem?_eq_getElem h]; rfl
theorem fairs_snoc {vars : Int} {cs : List Cl} {c : Cl} : fairs vars (cs ++ [c]) = (fairs vars cs && fairZ vars c.zs) := by simp [fairs]
theorem fairs_not {vars : Int} {cs : List Cl} {k : Nat} (hk : k < cs.length) (h : fairZ vars (cs.getD k default).zs = false) : fairs vars cs = false := by
  unfold fairs
  rw [List.all_eq_false]
  rw [List.getD_eq_getElem?_getD, List.getElem?_eq_getElem hk] at h
  exact ⟨_, List.getElem_mem hk, by simpa using h⟩
set_option maxHeartbeats 4000000 in
set_option maxRecDepth 1000000 in
theorem check_walk (a : Option Addr) (n c : Nat) (cs : List Cl) (vars : Int) (w : World) (hn : cs.length = n) (hlen : n ≤ 4611686018427387904) (hl : ∀ j, j < n → (cs.getD j default).zs.length ≤ 1000000000) (hz : Rows' w a cs) :
    Calls Tryd.prog 15 #[.agg #[.int .i64 vars, .slice a n c]] w fun e w' => e = .returned (.int .i64 (checkZ vars cs)) ∧ Below w.heap.size w w' := by
  go_enter Tryd.func15, Tryd.ntmps15
  go_wp2
  go_loopw [3, 4] (fun m i wr => ∃ k : Nat, k ≤ n ∧ i = .int .i64 k ∧ m = .int .i64 (total cs k) ∧ total cs k ≤ 200000 ∧ Below w.heap.size w wr ∧ wr.cell? ⟨w.heap.size, 0, none⟩ = some (.int .i64 vars) ∧ wr.cell? ⟨w.heap.size, 0 + 1, none⟩ = some (.slice a n c)) (fun _ i _ => n - (intOf i).toNat)
  case atStart =>
    exact ⟨0, Nat.zero_le _, rfl, rfl, Nat.zero_le _, (Below.refl _ w).alloc (Nat.le_refl _) _, (cell_new ..).trans rfl, (cell_new ..).trans rfl⟩
  case round =>
    obtain ⟨k, hk, rfl, rfl, hm, hbw, hc0, hc1⟩ := hrel
    obtain ⟨t, ht0⟩ : ∃ t, total cs k = t := ⟨_, rfl⟩
    by_cases hlt : k < n
    · obtain ⟨b, off, rfl, hb, hc, hi⟩ := hz k (by omega)
      have hc := (hbw.cell (by exact hb)).trans hc
      have hll := hl k hlt
      have ht : total cs (k + 1) = total cs k + 1 + (cs.getD k default).zs.length := rfl
      obtain ⟨x, hx⟩ : ∃ x, cs.getD k default = x := ⟨_, rfl⟩
      rw [hx] at hc hll ht
      rw [ht0] at hm ht
      simp only [ht0]
      by_cases hbig : (200000 : Int) < t + 1 + x.zs.length
      · have hmono := total_mono cs (k := k + 1) (m := n) (by omega)
        have hB : checkZ vars cs = 2 := by unfold checkZ; rw [hn, if_pos (.inr (by omega))]
        by_cases hv : (200000 : Int) < vars
        · go_wp2
          go_ret
          exact ⟨by first | rfl | (rw [hB]; rfl) | (simp [hB]; done), hbw⟩
        · go_wp2
          go_ret
          exact ⟨by first | rfl | (rw [hB]; rfl) | (simp [hB]; done), hbw⟩
      · go_wp2
        go_roundw
        case rel => exact ⟨k + 1, hlt, by simp, by rw [ht]; simp, by rw [ht]; omega, hbw, hc0, hc1⟩
        case measure => simp [intOf]; omega
    · have e0 : k = n := by omega
      subst e0
      rw [ht0] at hm
      simp only [ht0]
      by_cases hv : (200000 : Int) < vars
      · have hB : checkZ vars cs = 2 := by unfold checkZ; rw [if_pos (.inl hv)]
        go_wp2
        go_ret
        exact ⟨by first | rfl | (rw [hB]; rfl) | (simp [hB]; done), hbw⟩
      · have hm' : ¬ (200000 : Int) < t := by omega
        by_cases hv0 : vars < 0
        · have hB : checkZ vars cs = 40 := by unfold checkZ; rw [hn, ht0, if_neg (by omega), if_pos hv0]
          go_wp2
          go_ret
          exact ⟨by first | rfl | (rw [hB]; rfl) | (simp [hB]; done), hbw⟩
        · have hB : checkZ vars cs = if fairs vars cs = true then 0 else 40 := by unfold checkZ; rw [hn, ht0, if_neg (by omega), if_neg hv0]
          go_wp2
          go_loopw [5, 6] (fun i _ wr => ∃ j : Nat, j ≤ k ∧ i = .int .i64 j ∧ fairs vars (cs.take j) = true ∧ Below w.heap.size w wr ∧ wr.cell? ⟨w.heap.size, 0, none⟩ = some (.int .i64 vars) ∧ wr.cell? ⟨w.heap.size, 0 + 1, none⟩ = some (.slice a k c)) (fun i _ _ => k - (intOf i).toNat)
          case atStart => exact ⟨0, Nat.zero_le _, rfl, rfl, hbw, hc0, hc1⟩
          case round =>
            obtain ⟨j, hj, rfl, hf, hbw, hc0, hc1⟩ := hrel
            by_cases hlt : j < k
            · obtain ⟨b, off, rfl, hb, hc, hi⟩ := hz j (by omega)
              have hc := (hbw.cell (by exact hb)).trans hc
              have hll := hl j hlt
              have hs := ctake_snoc (cs := cs) (k := j) (by omega)
              have ht := fun h => fairs_not (vars := vars) (cs := cs) (k := j) (by omega) h
              obtain ⟨x, hx⟩ : ∃ x, cs.getD j default = x := ⟨_, rfl⟩
              rw [hx] at hc hll hs ht hi
              have hi' := hi.below hbw
              go_wp2
              go_quiet (first | (go_at_call 16; refine Calls.quiet_of_same (fair_walk x.a x.zs.length x.c x.zs vars _ rfl (by omega) (by omega) (by omega) hi')))
              by_cases hfair : fairZ vars x.zs = true
              · simp only [hfair]
                go_wp2
                go_roundw
                case rel => exact ⟨j + 1, hlt, by simp, (by rw [hs, fairs_snoc, hf, hfair]; rfl), below_drewN hbw _, hc0, hc1⟩
                case measure => simp [intOf]; omega
              · have hfair : fairZ vars x.zs = false := by simpa using hfair
                rw [ht hfair] at hB
                go_wp2
                go_ret
                exact ⟨by first | rfl | (rw [hB]; rfl) | (simp [hB]; done), below_drewN hbw _⟩
            · have e0 : j = k := by omega
              subst e0
              rw [← hn, List.take_length] at hf
              rw [hf] at hB
              go_wp2
              go_ret
              exact ⟨by first | rfl | (rw [hB]; rfl) | (simp [hB]; done), hbw⟩
end Go.Proofs.YtagfnjpjmmleiaaDoor

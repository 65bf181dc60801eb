/- Drat: the document's own answer: small functions that read. -/
import Derived.Test.YtagfnjpjmmleiaaDoorShelf
import Derived.Test.YtagfnjpjmmleiaaDoorChecked
import Derived.WalkKit
set_option linter.unusedVariables false
set_option linter.unusedSimpArgs false
set_option autoImplicit false
set_option linter.unusedVariables false
namespace Go.Proofs.YtagfnjpjmmleiaaDoor
open Go.Shelf Go.RowKit
/-- a slice of numbers, as it stands in a world -/
def Ints (w : World) (a : Option Addr) (zs : List Int) : Prop := ∀ j, j < zs.length → ∃ b off, a = some ⟨b, off, none⟩ ∧ b < w.heap.size ∧ w.cell? ⟨b, off + j, none⟩ = some (.int .i64 (zs.getD j 0))
/-- does a literal belong to so many variables? -/
def fair1 (vars z : Int) : Bool := !(decide (z = 0) || decide (vars < z) || decide (z < -vars))
def fairZ (vars : Int) (zs : List Int) : Bool := zs.all (fair1 vars)
theorem fairZ_snoc {vars x : Int} {zs : List Int} : fairZ vars (zs ++ [x]) = (fairZ vars zs && fair1 vars x) := by simp [fairZ]
theorem take_snoc {zs : List Int} {k : Nat} (h : k < zs.length) : zs.take (k + 1) = zs.take k ++ [zs.getD k 0] := by
  rw [List.take_add_one, List.getD_eq_getElem?_getD, List.getElem?_eq_getElem h]; rfl
theorem fairZ_take {vars : Int} {zs : List Int} {k : Nat} (hk : k < zs.length) (h : fair1 vars (zs.getD k 0) = false) : fairZ vars zs = false := by
  unfold fairZ
  rw [List.all_eq_false]
  rw [List.getD_eq_getElem?_getD, List.getElem?_eq_getElem hk] at h
  exact ⟨_, List.getElem_mem hk, by simpa using h⟩
set_option maxHeartbeats 4000000 in
set_option maxRecDepth 1000000 in
theorem abs_walk (x : Int) (h0 : -1000000000 ≤ x) (h1 : x ≤ 1000000000) (w : World) :
    Calls Tryd.prog 32 #[.int .i64 x] w fun e w' => e = .returned (.int .i64 (if x < 0 then -x else x)) ∧ w' = w := by
  go_enter Tryd.func32, Tryd.ntmps32
  by_cases h : x < 0
  · go_wp2
    go_ret
    simp
  · go_wp2
    go_ret
    simp
set_option maxHeartbeats 4000000 in
set_option maxRecDepth 1000000 in
theorem fair_walk (a : Option Addr) (n c : Nat) (zs : List Int) (vars : Int) (w : World) (hn : zs.length = n) (hlen : n ≤ 1000000000) (hv : -1000000000 ≤ vars) (hv1 : vars ≤ 1000000000) (hz : Ints w a zs) :
    Calls Tryd.prog 16 #[.slice a n c, .int .i64 vars] w fun e w' => e = .returned (.bool (fairZ vars zs)) ∧ w' = w := by
  go_enter Tryd.func16, Tryd.ntmps16
  go_wp2
  go_loopw [5] (fun i wr => ∃ k : Nat, k ≤ n ∧ i = .int .i64 k ∧ fairZ vars (zs.take k) = true ∧ wr = w) (fun i _ => n - (intOf i).toNat)
  case atStart => exact ⟨0, Nat.zero_le _, rfl, rfl, rfl⟩
  case round =>
    obtain ⟨k, hk, rfl, hf, rfl⟩ := hrel
    by_cases hlt : k < n
    · obtain ⟨b, off, rfl, hb, hc⟩ := hz k (by omega)
      have hs := take_snoc (zs := zs) (k := k) (by omega)
      have ht := fun h => fairZ_take (vars := vars) (zs := zs) (k := k) (by omega) h
      obtain ⟨x, hx⟩ : ∃ x, zs.getD k 0 = x := ⟨_, rfl⟩
      rw [hx] at hc hs ht
      by_cases hfair : fair1 vars x = true
      · have h3 : x ≠ 0 ∧ ¬ vars < x ∧ ¬ x < -vars := by simpa [fair1, and_assoc] using hfair
        obtain ⟨h3, h4, h5⟩ := h3
        go_wp2
        go_roundw
        case rel => exact ⟨k + 1, hlt, by simp, (by rw [hs, fairZ_snoc, hf, hfair]; rfl), (by trivial)⟩
        case measure => simp [intOf]; omega
      · have hfair : fair1 vars x = false := by simpa using hfair
        have hF := ht hfair
        have h3 : x = 0 ∨ vars < x ∨ x < -vars := by
          have : ¬ (x ≠ 0 ∧ ¬ vars < x ∧ ¬ x < -vars) := by
            intro h
            have : fair1 vars x = true := by simp [fair1, h.1]; omega
            rw [this] at hfair; cases hfair
          omega
        rcases h3 with rfl | h3 | h3
        · go_wp2
          go_ret
          simp [hF]
        · by_cases h0 : x = 0
          · subst h0
            go_wp2
            go_ret
            simp [hF]
          · go_wp2
            go_ret
            simp [hF]
        · by_cases h0 : x = 0
          · subst h0
            go_wp2
            go_ret
            simp [hF]
          · by_cases h4 : vars < x
            · go_wp2
              go_ret
              simp [hF]
            · go_wp2
              go_ret
              simp [hF]
    · have e0 : k = n := by omega
      subst e0
      rw [← hn, List.take_length] at hf
      go_wp2
      go_ret
      simp [hf]
end Go.Proofs.YtagfnjpjmmleiaaDoor

/- Kind: nets and systems: checks, walked. -/
import Derived.Test.YtdgnafjllokioaaGreatDoorKA
import Derived.Deep.QuietTactic
set_option linter.unusedVariables false
set_option linter.unusedSimpArgs false
set_option autoImplicit false
set_option linter.unusedVariables false
set_option linter.unusedSimpArgs false
namespace Go.Proofs.YtdgnafjllokioaaGreatDoor
open Go.Proofs Go
open Go.RowKit Kb
/-- it is told whether a net may be one: nought just where it may -/
def NetR (w : World) (gs : GL) (e : Ending) (w' : World) : Prop := ∃ v : Int, e = .returned (.int .i64 v) ∧ (v = 0 ↔ netOK gs) ∧ Below w.heap.size w w'
theorem gate_box (w : World) (o a b : Int) : (w.alloc (.cells #[.int .i64 o, .int .i64 a, .int .i64 b] 51)).cell? ⟨w.heap.size, 0, none⟩ = some (.int .i64 o) ∧ (w.alloc (.cells #[.int .i64 o, .int .i64 a, .int .i64 b] 51)).cell? ⟨w.heap.size, 1, none⟩ = some (.int .i64 a) ∧ (w.alloc (.cells #[.int .i64 o, .int .i64 a, .int .i64 b] 51)).cell? ⟨w.heap.size, 2, none⟩ = some (.int .i64 b) :=
  ⟨(cell_new ..).trans rfl, (cell_new ..).trans rfl, (cell_new ..).trans rfl⟩
theorem net_bad {gs : GL} {k : Nat} (hk : k < gs.length) (h : ¬ gOK gs k) (v : Int) (hv : v ≠ 0) : (v = 0 ↔ netOK gs) := ⟨fun e => absurd e hv, fun hn => absurd (hn k hk) h⟩
set_option maxHeartbeats 4000000 in
set_option maxRecDepth 1000000 in
theorem checkNet_walk (a : Option Addr) (n c : Nat) (gs : GL) (w : World) (hn : gs.length = n) (hlen : n ≤ 1000) (hz : Gates w a gs) :
    Calls Tryz.prog 13 #[.agg #[.slice a n c]] w (NetR w gs) := by
  have hb0 := (Below.refl w.heap.size w).alloc (Nat.le_refl _) (.cells #[.slice a n c] 24)
  have c0 : (w.alloc (.cells #[.slice a n c] 24)).cell? ⟨w.heap.size, 0, none⟩ = some (.slice a n c) := (cell_new ..).trans rfl
  go_enter Tryz.func13, Tryz.ntmps13
  go_wp2
  go_loopw [3] (fun i wr => ∃ k : Nat, k ≤ n ∧ i = .int .i64 k ∧ (∀ j, j < k → gOK gs j) ∧ Below w.heap.size w wr ∧ wr.cell? ⟨w.heap.size, 0, none⟩ = some (.slice a n c)) (fun i _ => n - (intOf i).toNat)
  case atStart => exact ⟨0, Nat.zero_le _, rfl, fun j hj => absurd hj (Nat.not_lt_zero _), hb0, c0⟩
  case round =>
    clear c0 hb0
    obtain ⟨k, hk, rfl, hok, hb, c0⟩ := hrel
    by_cases hlt : k < n
    · have hltI : (k : Int) < n := by omega
      obtain ⟨gb, go, rfl, hgb, g0, g1, g2⟩ := hz k (by omega)
      have hbad := fun h => net_bad (gs := gs) (k := k) (by omega) h 40 (by decide)
      have hdef : gOK gs k ↔ ((opZ gs k = 1 ∨ opZ gs k = 2) ∧ aZ gs k = 0 ∧ bZ gs k = 0) ∨ (opZ gs k = 3 ∧ 0 ≤ aZ gs k ∧ 0 ≤ bZ gs k ∧ aZ gs k < 2 * k ∧ bZ gs k < 2 * k) := Iff.rfl
      obtain ⟨o, ho⟩ : ∃ o, opZ gs k = o := ⟨_, rfl⟩
      obtain ⟨x, hx⟩ : ∃ o, aZ gs k = o := ⟨_, rfl⟩
      obtain ⟨y, hy⟩ : ∃ o, bZ gs k = o := ⟨_, rfl⟩
      rw [ho, hx, hy] at hdef
      rw [ho] at g0
      rw [hx] at g1
      rw [hy] at g2
      have g0 := (hb.cell (by exact hgb)).trans g0
      have g1 := (hb.cell (by exact hgb)).trans g1
      have g2 := (hb.cell (by exact hgb)).trans g2
      obtain ⟨q0, q1, q2⟩ := gate_box wr o x y
      have hb2 := hb.alloc hb.size (.cells #[.int .i64 o, .int .i64 x, .int .i64 y] 51)
      have c2 : (wr.alloc (.cells #[.int .i64 o, .int .i64 x, .int .i64 y] 51)).cell? ⟨w.heap.size, 0, none⟩ = some (.slice (some ⟨gb, go, none⟩) n c) := ((Below.refl wr.heap.size wr).alloc (Nat.le_refl _) _).cell (p := ⟨w.heap.size, 0, none⟩) (cellLt c0) |>.trans c0
      have hgood : gOK gs k → ∀ j, j < k + 1 → gOK gs j := fun h j hj => by
        rcases Nat.lt_or_ge j k with e | e
        · exact hok j e
        · have : j = k := by omega
          rw [this]; exact h
      have hA : Aside ((gOK gs k → ∀ j, j < k + 1 → gOK gs j) ∧ (¬ gOK gs k → ((40 : Int) = 0 ↔ netOK gs))) := ⟨hgood, hbad⟩
      clear hgood hbad hok hb ho hx hy
      by_cases o12 : o = 1 ∨ o = 2
      · by_cases x0 : x = 0
        · by_cases y0 : y = 0
          · have hg : gOK gs k := hdef.2 (.inl ⟨o12, x0, y0⟩)
            have hok2 := hA.out.1 hg
            subst x0 y0
            clear hdef hA hg
            have hok2 : Aside (∀ j, j < k + 1 → gOK gs j) := hok2
            rcases o12 with rfl | rfl
            · go_wp2
              go_roundw
              case rel => exact ⟨k + 1, hlt, by go_num, hok2.out, hb2, c2⟩
              case measure => simp [intOf]; omega
            · go_wp2
              go_roundw
              case rel => exact ⟨k + 1, hlt, by go_num, hok2.out, hb2, c2⟩
              case measure => simp [intOf]; omega
          · have hg : ¬ gOK gs k := fun h => by rcases hdef.1 h with h | h <;> omega
            have e1 : (y != 0) = true := by simpa using y0
            have hR : Aside ((40 : Int) = 0 ↔ netOK gs) := hA.out.2 hg
            subst x0
            clear hdef hA hg y0
            rcases o12 with rfl | rfl
            · go_wp2
              go_ret
              exact ⟨40, rfl, hR.out, hb2⟩
            · go_wp2
              go_ret
              exact ⟨40, rfl, hR.out, hb2⟩
        · have hg : ¬ gOK gs k := fun h => by rcases hdef.1 h with h | h <;> omega
          have e1 : (x != 0) = true := by simpa using x0
          have hR : Aside ((40 : Int) = 0 ↔ netOK gs) := hA.out.2 hg
          clear hdef hA hg x0
          rcases o12 with rfl | rfl
          · go_wp2
            go_ret
            exact ⟨40, rfl, hR.out, hb2⟩
          · go_wp2
            go_ret
            exact ⟨40, rfl, hR.out, hb2⟩
      · have o1 : (o == 1) = false := beq_false_of_ne fun e => o12 (.inl e)
        have o2 : (o == 2) = false := beq_false_of_ne fun e => o12 (.inr e)
        by_cases o3 : o = 3
        · subst o3
          have hbadR : (x < 0 ∨ y < 0 ∨ 2 * (k : Int) ≤ x ∨ 2 * (k : Int) ≤ y) → Aside ((40 : Int) = 0 ↔ netOK gs) := fun h => hA.out.2 fun hg => by rcases hdef.1 hg with h | h <;> omega
          by_cases x0 : x < 0
          · have hR := hbadR (.inl x0)
            clear hdef hA hbadR o12 o1 o2
            go_wp2
            go_ret
            exact ⟨40, rfl, hR.out, hb2⟩
          · by_cases y0 : y < 0
            · have hR := hbadR (.inr (.inl y0))
              clear hdef hA hbadR o12 o1 o2
              go_wp2
              go_ret
              exact ⟨40, rfl, hR.out, hb2⟩
            · by_cases x1 : 2 * (k : Int) ≤ x
              · have hR := hbadR (.inr (.inr (.inl x1)))
                clear hdef hA hbadR o12 o1 o2
                go_wp2
                go_ret
                exact ⟨40, rfl, hR.out, hb2⟩
              · by_cases y1 : 2 * (k : Int) ≤ y
                · have hR := hbadR (.inr (.inr (.inr y1)))
                  clear hdef hA hbadR o12 o1 o2
                  go_wp2
                  go_ret
                  exact ⟨40, rfl, hR.out, hb2⟩
                · have hok2 : Aside (∀ j, j < k + 1 → gOK gs j) := hA.out.1 (hdef.2 (.inr ⟨rfl, by omega, by omega, by omega, by omega⟩))
                  clear hdef hA hbadR o12 o1 o2
                  go_wp2
                  go_roundw
                  case rel => exact ⟨k + 1, hlt, by go_num, hok2.out, hb2, c2⟩
                  case measure => simp [intOf]; omega
        · have e3 : (o == 3) = false := beq_false_of_ne o3
          have hR : Aside ((40 : Int) = 0 ↔ netOK gs) := hA.out.2 fun hg => by rcases hdef.1 hg with h | h <;> omega
          clear hdef hA o12 o3
          go_wp2
          go_ret
          exact ⟨40, rfl, hR.out, hb2⟩
    · have hkn : k = n := by omega
      subst hkn
      have hlt' : ¬ (k : Int) < k := by omega
      have hR : Aside (∀ j, j < k → gOK gs j) := hok
      clear hok
      go_wp2
      go_ret
      exact ⟨0, rfl, ⟨fun _ j hj => hR.out j (by omega), fun _ => rfl⟩, hb⟩
set_option maxHeartbeats 4000000 in
set_option maxRecDepth 1000000 in
theorem gatesCheck_walk (a : Option Addr) (n c : Nat) (gs : GL) (w : World) (hn : gs.length = n) (hlen : n ≤ 1000) (hz : Gates w a gs) :
    Calls Tryz.prog 34 #[.agg #[.slice a n c]] w (NetR w gs) := by
  have hb0 := (Below.refl w.heap.size w).alloc (Nat.le_refl _) (.cells #[.slice a n c] 24)
  have c0 : (w.alloc (.cells #[.slice a n c] 24)).cell? ⟨w.heap.size, 0, none⟩ = some (.slice a n c) := (cell_new ..).trans rfl
  go_enter Tryz.func34, Tryz.ntmps34
  go_wp2
  go_loopw [12] (fun i wr => ∃ k : Nat, k ≤ n ∧ i = .int .i64 k ∧ (∀ j, j < k → gOK gs j) ∧ Below w.heap.size w wr ∧ wr.cell? ⟨w.heap.size, 0, none⟩ = some (.slice a n c)) (fun i _ => n - (intOf i).toNat)
  case atStart => exact ⟨0, Nat.zero_le _, rfl, fun j hj => absurd hj (Nat.not_lt_zero _), hb0, c0⟩
  case round =>
    clear c0 hb0
    obtain ⟨k, hk, rfl, hok, hb, c0⟩ := hrel
    by_cases hlt : k < n
    · have hltI : (k : Int) < n := by omega
      obtain ⟨gb, go, rfl, hgb, g0, g1, g2⟩ := hz k (by omega)
      have hbad := fun h => net_bad (gs := gs) (k := k) (by omega) h 40 (by decide)
      have hdef : gOK gs k ↔ ((opZ gs k = 1 ∨ opZ gs k = 2) ∧ aZ gs k = 0 ∧ bZ gs k = 0) ∨ (opZ gs k = 3 ∧ 0 ≤ aZ gs k ∧ 0 ≤ bZ gs k ∧ aZ gs k < 2 * k ∧ bZ gs k < 2 * k) := Iff.rfl
      obtain ⟨o, ho⟩ : ∃ o, opZ gs k = o := ⟨_, rfl⟩
      obtain ⟨x, hx⟩ : ∃ o, aZ gs k = o := ⟨_, rfl⟩
      obtain ⟨y, hy⟩ : ∃ o, bZ gs k = o := ⟨_, rfl⟩
      rw [ho, hx, hy] at hdef
      rw [ho] at g0
      rw [hx] at g1
      rw [hy] at g2
      have g0 := (hb.cell (by exact hgb)).trans g0
      have g1 := (hb.cell (by exact hgb)).trans g1
      have g2 := (hb.cell (by exact hgb)).trans g2
      obtain ⟨q0, q1, q2⟩ := gate_box wr o x y
      have hb2 := hb.alloc hb.size (.cells #[.int .i64 o, .int .i64 x, .int .i64 y] 51)
      have c2 : (wr.alloc (.cells #[.int .i64 o, .int .i64 x, .int .i64 y] 51)).cell? ⟨w.heap.size, 0, none⟩ = some (.slice (some ⟨gb, go, none⟩) n c) := ((Below.refl wr.heap.size wr).alloc (Nat.le_refl _) _).cell (p := ⟨w.heap.size, 0, none⟩) (cellLt c0) |>.trans c0
      have hgood : gOK gs k → ∀ j, j < k + 1 → gOK gs j := fun h j hj => by
        rcases Nat.lt_or_ge j k with e | e
        · exact hok j e
        · have : j = k := by omega
          rw [this]; exact h
      have hA : Aside ((gOK gs k → ∀ j, j < k + 1 → gOK gs j) ∧ (¬ gOK gs k → ((40 : Int) = 0 ↔ netOK gs))) := ⟨hgood, hbad⟩
      clear hgood hbad hok hb ho hx hy
      by_cases o12 : o = 1 ∨ o = 2
      · by_cases x0 : x = 0
        · by_cases y0 : y = 0
          · have hg : gOK gs k := hdef.2 (.inl ⟨o12, x0, y0⟩)
            have hok2 := hA.out.1 hg
            subst x0 y0
            clear hdef hA hg
            have hok2 : Aside (∀ j, j < k + 1 → gOK gs j) := hok2
            rcases o12 with rfl | rfl
            · go_wp2
              go_roundw
              case rel => exact ⟨k + 1, hlt, by go_num, hok2.out, hb2, c2⟩
              case measure => simp [intOf]; omega
            · go_wp2
              go_roundw
              case rel => exact ⟨k + 1, hlt, by go_num, hok2.out, hb2, c2⟩
              case measure => simp [intOf]; omega
          · have hg : ¬ gOK gs k := fun h => by rcases hdef.1 h with h | h <;> omega
            have e1 : (y != 0) = true := by simpa using y0
            have hR : Aside ((40 : Int) = 0 ↔ netOK gs) := hA.out.2 hg
            subst x0
            clear hdef hA hg y0
            rcases o12 with rfl | rfl
            · go_wp2
              go_ret
              exact ⟨40, rfl, hR.out, hb2⟩
            · go_wp2
              go_ret
              exact ⟨40, rfl, hR.out, hb2⟩
        · have hg : ¬ gOK gs k := fun h => by rcases hdef.1 h with h | h <;> omega
          have e1 : (x != 0) = true := by simpa using x0
          have hR : Aside ((40 : Int) = 0 ↔ netOK gs) := hA.out.2 hg
          clear hdef hA hg x0
          rcases o12 with rfl | rfl
          · go_wp2
            go_ret
            exact ⟨40, rfl, hR.out, hb2⟩
          · go_wp2
            go_ret
            exact ⟨40, rfl, hR.out, hb2⟩
      · have o1 : (o == 1) = false := beq_false_of_ne fun e => o12 (.inl e)
        have o2 : (o == 2) = false := beq_false_of_ne fun e => o12 (.inr e)
        by_cases o3 : o = 3
        · subst o3
          have hbadR : (x < 0 ∨ y < 0 ∨ 2 * (k : Int) ≤ x ∨ 2 * (k : Int) ≤ y) → Aside ((40 : Int) = 0 ↔ netOK gs) := fun h => hA.out.2 fun hg => by rcases hdef.1 hg with h | h <;> omega
          by_cases x0 : x < 0
          · have hR := hbadR (.inl x0)
            clear hdef hA hbadR o12 o1 o2
            go_wp2
            go_ret
            exact ⟨40, rfl, hR.out, hb2⟩
          · by_cases y0 : y < 0
            · have hR := hbadR (.inr (.inl y0))
              clear hdef hA hbadR o12 o1 o2
              go_wp2
              go_ret
              exact ⟨40, rfl, hR.out, hb2⟩
            · by_cases x1 : 2 * (k : Int) ≤ x
              · have hR := hbadR (.inr (.inr (.inl x1)))
                clear hdef hA hbadR o12 o1 o2
                go_wp2
                go_ret
                exact ⟨40, rfl, hR.out, hb2⟩
              · by_cases y1 : 2 * (k : Int) ≤ y
                · have hR := hbadR (.inr (.inr (.inr y1)))
                  clear hdef hA hbadR o12 o1 o2
                  go_wp2
                  go_ret
                  exact ⟨40, rfl, hR.out, hb2⟩
                · have hok2 : Aside (∀ j, j < k + 1 → gOK gs j) := hA.out.1 (hdef.2 (.inr ⟨rfl, by omega, by omega, by omega, by omega⟩))
                  clear hdef hA hbadR o12 o1 o2
                  go_wp2
                  go_roundw
                  case rel => exact ⟨k + 1, hlt, by go_num, hok2.out, hb2, c2⟩
                  case measure => simp [intOf]; omega
        · have e3 : (o == 3) = false := beq_false_of_ne o3
          have hR : Aside ((40 : Int) = 0 ↔ netOK gs) := hA.out.2 fun hg => by rcases hdef.1 hg with h | h <;> omega
          clear hdef hA o12 o3
          go_wp2
          go_ret
          exact ⟨40, rfl, hR.out, hb2⟩
    · have hkn : k = n := by omega
      subst hkn
      have hlt' : ¬ (k : Int) < k := by omega
      have hR : Aside (∀ j, j < k → gOK gs j) := hok
      clear hok
      go_wp2
      go_ret
      exact ⟨0, rfl, ⟨fun _ j hj => hR.out j (by omega), fun _ => rfl⟩, hb⟩
end Go.Proofs.YtdgnafjllokioaaGreatDoor

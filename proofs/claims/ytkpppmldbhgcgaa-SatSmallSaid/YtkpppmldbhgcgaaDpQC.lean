/- Drat: does a model make a formula hold? -/
import Derived.Test.YtkpppmldbhgcgaaDpPDtoDpQA
set_option linter.unusedVariables false
set_option linter.unusedSimpArgs false
set_option autoImplicit false
set_option linter.unusedVariables false
set_option linter.unusedSimpArgs false
namespace Go.Proofs.Ytkpppmldbhgcgaa.D
open Go.Proofs Go
open Go.Shelf Go.RowKit
/-- a slice of truth values, as it stands in a world -/
def Bools (w : World) (a : Option Addr) (ms : List Bool) : Prop := ∀ j, j < ms.length → ∃ b off, a = some ⟨b, off, none⟩ ∧ b < w.heap.size ∧ w.cell? ⟨b, off + j, none⟩ = some (.bool (ms.getD j false))
theorem Bools.below {w wr : World} {a : Option Addr} {ms : List Bool} (h : Bools w a ms) (hb : Below w.heap.size w wr) : Bools wr a ms := fun j hj => by
  obtain ⟨b, off, e1, e2, e3⟩ := h j hj
  exact ⟨b, off, e1, Nat.lt_of_lt_of_le e2 hb.size, (hb.cell (by exact e2)).trans e3⟩
/-- does a literal hold? -/
def sat (ms : List Bool) (x : Int) : Bool := (decide (0 < x) && ms.getD x.natAbs false) || (decide (x < 0) && !ms.getD x.natAbs false)
def satC (ms : List Bool) (zs : List Int) : Bool := zs.any (sat ms)
theorem satC_snoc {ms : List Bool} {zs : List Int} {x : Int} : satC ms (zs ++ [x]) = (satC ms zs || sat ms x) := by simp [satC]
def holdsZ (vars : Int) (cs : List Cl) (ms : List Bool) : Bool := decide (checkZ vars cs = 0) && (decide ((ms.length : Int) = vars + 1) && cs.all fun c => satC ms c.zs)
def sats (ms : List Bool) (cs : List Cl) : Bool := cs.all fun c => satC ms c.zs
theorem sats_snoc {ms : List Bool} {cs : List Cl} {c : Cl} : sats ms (cs ++ [c]) = (sats ms cs && satC ms c.zs) := by simp [sats]
theorem sats_not {ms : List Bool} {cs : List Cl} {k : Nat} (hk : k < cs.length) (h : satC ms (cs.getD k default).zs = false) : sats ms cs = false := by
  unfold sats
  rw [List.all_eq_false]
  rw [List.getD_eq_getElem?_getD, List.getElem?_eq_getElem hk] at h
  exact ⟨_, List.getElem_mem hk, by simpa using h⟩
theorem check_zero {vars : Int} {cs : List Cl} (h : checkZ vars cs = 0) : 0 ≤ vars ∧ vars ≤ 200000 ∧ fairs vars cs = true := by
  unfold checkZ at h
  split at h
  · omega
  · split at h
    · omega
    · split at h
      · rename_i h1 h2 h3
        exact ⟨by omega, by omega, h3⟩
      · omega
theorem fairs_get {vars : Int} {cs : List Cl} (h : fairs vars cs = true) {k q : Nat} (hk : k < cs.length) (hq : q < (cs.getD k default).zs.length) : fair1 vars ((cs.getD k default).zs.getD q 0) = true := by
  unfold fairs at h
  rw [List.all_eq_true] at h
  have h1 := h (cs.getD k default) (by rw [List.getD_eq_getElem?_getD, List.getElem?_eq_getElem hk]; exact List.getElem_mem hk)
  unfold fairZ at h1
  rw [List.all_eq_true] at h1
  refine h1 _ ?_
  rw [List.getD_eq_getElem?_getD (l := (cs.getD k default).zs), List.getElem?_eq_getElem hq]
  exact List.getElem_mem hq
set_option maxHeartbeats 8000000 in
set_option maxRecDepth 1000000 in
theorem holds_walk (a am : Option Addr) (n c nm cm : Nat) (cs : List Cl) (ms : List Bool) (vars : Int) (w : World) (hn : cs.length = n) (hlen : n ≤ 4611686018427387904) (hl : ∀ j, j < n → (cs.getD j default).zs.length ≤ 1000000000) (hz : Rows' w a cs)
    (hnm : ms.length = nm) (hnl : nm ≤ 4611686018427387904) (hms : Bools w am ms) :
    Calls Try.prog 20 #[.agg #[.int .i64 vars, .slice a n c], .slice am nm cm] w fun e w' => e = .returned (.bool (holdsZ vars cs ms)) ∧ Below w.heap.size w w' := by
  have hb0 := (Below.refl w.heap.size w).alloc (Nat.le_refl _) (.cells #[Value.int .i64 vars, Value.slice a n c] 24)
  have hz0 := hz.below hb0
  have c0 : (w.alloc (.cells #[Value.int .i64 vars, Value.slice a n c] 24)).cell? ⟨w.heap.size, 0, none⟩ = some (.int .i64 vars) := (cell_new ..).trans rfl
  have c1 : (w.alloc (.cells #[Value.int .i64 vars, Value.slice a n c] 24)).cell? ⟨w.heap.size, 0 + 1, none⟩ = some (.slice a n c) := (cell_new ..).trans rfl
  have hsz : w.heap.size < (w.alloc (.cells #[Value.int .i64 vars, Value.slice a n c] 24)).heap.size := by simp
  have hH : holdsZ vars cs ms = (decide (checkZ vars cs = 0) && (decide ((nm : Int) = vars + 1) && sats ms cs)) := by unfold holdsZ sats; rw [hnm]
  go_enter Try.func20, Try.ntmps20
  go_wp2_with (go_at_call 11; refine (check_walk a n c cs vars _ hn hlen hl hz0).mono ?_)
  rintro e w1 ⟨rfl, hb1⟩
  have hbw := hb0.trans (hb1.mono (Nat.le_of_lt hsz))
  have hc0 := (hb1.cell (p := ⟨w.heap.size, 0, none⟩) (by exact hsz)).trans c0
  have hc1 := (hb1.cell (p := ⟨w.heap.size, 0 + 1, none⟩) (by exact hsz)).trans c1
  clear c0 c1 hz0 hb1 hb0
  obtain ⟨ck, hck⟩ : ∃ ck, checkZ vars cs = ck := ⟨_, rfl⟩
  rw [hck] at hH
  simp only [hck]
  by_cases hk0 : ck = 0
  · subst hk0
    obtain ⟨v0, v1, hfair⟩ := check_zero hck
    by_cases hnv : (nm : Int) = vars + 1
    · rw [decide_eq_true hnv] at hH
      have hH : holdsZ vars cs ms = sats ms cs := by rw [hH]; simp
      obtain ⟨v, rfl⟩ : ∃ v : Nat, vars = v := ⟨vars.toNat, by omega⟩
      have hnv' : nm = v + 1 := by omega
      subst hnv'
      go_wp2
      go_loopw [5] (fun i wr => ∃ k : Nat, k ≤ n ∧ i = .int .i64 k ∧ sats ms (cs.take k) = true ∧ wr = w1) (fun i _ => n - (intOf i).toNat)
      case atStart => exact ⟨0, Nat.zero_le _, rfl, rfl, rfl⟩
      case round =>
        obtain ⟨k, hk, rfl, hf, rfl⟩ := hrel
        by_cases hlt : k < n
        · obtain ⟨rb, ro, rfl, hrb, hrc, hri⟩ := hz k (by omega)
          have hll := hl k hlt
          have hfq := fun q => fairs_get hfair (k := k) (q := q) (by omega)
          have hsn := ctake_snoc (cs := cs) (k := k) (by omega)
          have hnt := fun h => sats_not (ms := ms) (cs := cs) (k := k) (by omega) h
          have hsn' : sats ms (cs.take (k + 1)) = (sats ms (cs.take k) && satC ms (cs.getD k default).zs) := by rw [hsn, sats_snoc]
          clear hsn
          obtain ⟨xa, hxa⟩ : ∃ x, (cs.getD k default).a = x := ⟨_, rfl⟩
          obtain ⟨xc, hxc⟩ : ∃ x, (cs.getD k default).c = x := ⟨_, rfl⟩
          obtain ⟨xz, hxz⟩ : ∃ x, (cs.getD k default).zs = x := ⟨_, rfl⟩
          rw [hxz] at hll hfq hsn' hnt
          rw [hxa, hxz, hxc] at hrc
          rw [hxa, hxz] at hri
          clear hxa hxc hxz
          have hrc := (hbw.cell (by exact hrb)).trans hrc
          have hri := hri.below hbw
          have hms' := hms.below hbw
          go_wp2
          go_loopw [6, 7] (fun s j wr' => ∃ q : Nat, q ≤ xz.length ∧ j = .int .i64 q ∧ s = .bool (satC ms (xz.take q)) ∧ wr' = wr) (fun _ j _ => xz.length - (intOf j).toNat)
          case atStart => exact ⟨0, Nat.zero_le _, rfl, rfl, rfl⟩
          case round =>
            obtain ⟨q, hq, rfl, rfl, rfl⟩ := hrel
            by_cases hql : q < xz.length
            · obtain ⟨ib, io, rfl, hib, hic⟩ := hri q hql
              have hsq := take_snoc (zs := xz) (k := q) hql
              have hfy := hfq q hql
              obtain ⟨y, hy⟩ : ∃ y, xz.getD q 0 = y := ⟨_, rfl⟩
              rw [hy] at hic hsq hfy
              have hsc : satC ms (xz.take (q + 1)) = (satC ms (xz.take q) || sat ms y) := by rw [hsq, satC_snoc]
              clear hsq
              obtain ⟨s, hs0⟩ : ∃ s, satC ms (xz.take q) = s := ⟨_, rfl⟩
              rw [hs0] at hsc
              simp only [hs0]
              have hy3 : y ≠ 0 ∧ ¬ (v : Int) < y ∧ ¬ y < -(v : Int) := by simpa [fair1, and_assoc] using hfy
              obtain ⟨m, hm⟩ : ∃ m, y.natAbs = m := ⟨_, rfl⟩
              have hm0 : 0 < m := by omega
              have hmv : m < v + 1 := by omega
              obtain ⟨mb, mo, rfl, hmb, hmc⟩ := hms' m (by omega)
              obtain ⟨u, hu⟩ : ∃ u, ms.getD m false = u := ⟨_, rfl⟩
              rw [hu] at hmc
              rcases (show (0 < y ∧ y = (m : Int)) ∨ (y < 0 ∧ y = -(m : Int)) by omega) with ⟨hp, rfl⟩ | ⟨hp, rfl⟩
              · have hst : sat ms (m : Int) = u := by unfold sat; rw [hm, hu, decide_eq_true hp, decide_eq_false (by omega)]; simp
                rw [hst] at hsc
                clear hfy hfq
                cases u with
                | true =>
                  go_wp2
                  go_roundw
                  case rel => exact ⟨q + 1, hql, (by simp), (by rw [hsc]; simp), (by trivial)⟩
                  case measure => simp [intOf]; omega
                | false =>
                  go_wp2
                  go_roundw
                  case rel => exact ⟨q + 1, hql, (by simp), (by rw [hsc]; simp), (by trivial)⟩
                  case measure => simp [intOf]; omega
              · have hst : sat ms (-(m : Int)) = !u := by unfold sat; rw [hm, hu, decide_eq_true hp, decide_eq_false (by omega)]; simp
                rw [hst] at hsc
                clear hfy hfq
                cases u with
                | true =>
                  go_wp2
                  go_roundw
                  case rel => exact ⟨q + 1, hql, (by simp), (by rw [hsc]; simp), (by trivial)⟩
                  case measure => simp [intOf]; omega
                | false =>
                  go_wp2
                  go_roundw
                  case rel => exact ⟨q + 1, hql, (by simp), (by rw [hsc]; simp), (by trivial)⟩
                  case measure => simp [intOf]; omega
            · have e0 : q = xz.length := by omega
              have hfull : xz.take q = xz := List.take_of_length_le (by omega)
              subst e0
              simp only [hfull]
              obtain ⟨s, hs0⟩ : ∃ s, satC ms xz = s := ⟨_, rfl⟩
              rw [hs0] at hsn' hnt
              simp only [hs0]
              clear hfq
              cases s with
              | true =>
                go_wp2
                go_roundw
                case rel => exact ⟨k + 1, hlt, (by simp), (by rw [hsn', hf]; rfl), (by trivial)⟩
                case measure => simp [intOf]; omega
              | false =>
                have hF := hnt rfl
                rw [hF] at hH
                go_wp2
                go_ret
                exact ⟨by first | rfl | (simp [hH]; done) | (rw [hH]; rfl), hbw⟩
        · have e0 : k = n := by omega
          subst e0
          rw [List.take_of_length_le (by omega)] at hf
          rw [hf] at hH
          go_wp2
          go_ret
          exact ⟨by first | rfl | (simp [hH]; done) | (rw [hH]; rfl), hbw⟩
    · have hH : holdsZ vars cs ms = false := by rw [hH]; simp [hnv]
      go_wp2
      go_ret
      exact ⟨by first | rfl | (simp [hH]; done) | (rw [hH]; rfl), hbw⟩
  · have hH : holdsZ vars cs ms = false := by rw [hH]; simp [hk0]
    go_wp2
    go_ret
    exact ⟨by first | rfl | (simp [hH]; done) | (rw [hH]; rfl), hbw⟩
end Go.Proofs.Ytkpppmldbhgcgaa.D

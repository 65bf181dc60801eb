/- Drat: a clause's literals, each once, rising. -/
import Derived.Test.YtagfnjpjmmleiaaDoorTH
import Derived.Lib.OwnBridge
import Derived.Sort.OwnSortedInts
import Derived.Sort.Grow
set_option linter.unusedVariables false
set_option linter.unusedSimpArgs false
set_option autoImplicit false
set_option linter.unusedVariables false
set_option linter.unusedSimpArgs false
namespace Go.Proofs.YtagfnjpjmmleiaaDoor
open Go.Shelf Go.RowKit Go.Sort
def sortZ (zs : List Int) : List Int := zs.mergeSort fun x y => decide (x ≤ y)
/-- each once, rising -/
def setZ (zs : List Int) : List Int := Lib.compact (sortZ zs)
theorem compact_nil : Lib.compact ([] : List Int) = [] := rfl
theorem setZ_nil : setZ [] = [] := by simp [setZ, sortZ, compact_nil]
theorem sortZ_len (zs : List Int) : (sortZ zs).length = zs.length := List.length_mergeSort zs
theorem sortZ_mem (zs : List Int) (x : Int) : x ∈ sortZ zs ↔ x ∈ zs := (List.mergeSort_perm zs _).mem_iff
theorem sortZ_le (zs : List Int) : (sortZ zs).Pairwise (· ≤ ·) := by
  have := List.pairwise_mergeSort (le := fun x y : Int => decide (x ≤ y)) (fun a b c => by simp; omega) (fun a b => by simp; omega) zs
  exact this.imp fun {a b} h => by simpa using h
theorem setZ_len (zs : List Int) : (setZ zs).length ≤ zs.length := Nat.le_trans (Lib.compact_length_le _) (Nat.le_of_eq (sortZ_len zs))
/-- of a rising list's runs the first of each -/
theorem compact_spec (zs : List Int) (h : zs.Pairwise (· ≤ ·)) : Rise (Lib.compact zs) ∧ SameM (Lib.compact zs) zs := by
  have hle : ∀ i j, i ≤ j → j < zs.length → zs.toArray[i]! ≤ zs.toArray[j]! := fun i j hij hj => by
    rcases Nat.lt_or_ge i j with h1 | h1
    · have := List.pairwise_iff_getElem.1 h i j (by omega) hj h1
      simpa [getElem!_pos, show i < zs.length by omega, hj] using this
    · rw [Nat.le_antisymm hij h1]; exact Int.le_refl _
  have key : ∀ m, m ≤ zs.length → Rise (Lib.compactUpTo zs.toArray m) ∧ (∀ x, x ∈ Lib.compactUpTo zs.toArray m ↔ ∃ j, j < m ∧ zs.toArray[j]! = x) ∧ ∀ x ∈ Lib.compactUpTo zs.toArray m, 0 < m ∧ x ≤ zs.toArray[m - 1]! := by
    intro m
    induction m with
    | zero => intro _; exact ⟨List.Pairwise.nil, fun x => ⟨fun e => (by cases e), fun ⟨j, e, _⟩ => by omega⟩, fun x hx => (by cases hx)⟩
    | succ m ih =>
      intro hm
      obtain ⟨i1, i2, i3⟩ := ih (by omega)
      rw [Lib.compactUpTo_succ]
      by_cases hk : Lib.keeps zs.toArray m = true
      · rw [if_pos hk]
        refine ⟨List.pairwise_append.2 ⟨i1, List.pairwise_singleton _ _, fun x hx y hy => ?_⟩, fun x => ?_, fun x hx => ⟨by omega, ?_⟩⟩
        · rw [List.mem_singleton.1 hy]
          obtain ⟨h0, hx⟩ := i3 x hx
          have h1 := hle (m - 1) m (by omega) (by omega)
          have hne : zs.toArray[m]! ≠ zs.toArray[m - 1]! := by
            intro e
            rw [Lib.keeps_neg h0 e] at hk; cases hk
          omega
        · rw [List.mem_append, List.mem_singleton, i2]
          constructor
          · rintro (⟨j, a, b⟩ | e)
            · exact ⟨j, by omega, b⟩
            · exact ⟨m, by omega, e.symm⟩
          · rintro ⟨j, a, b⟩
            rcases Nat.lt_or_ge j m with h1 | h1
            · exact .inl ⟨j, h1, b⟩
            · rw [show j = m by omega] at b; exact .inr b.symm
        · rw [show m + 1 - 1 = m by omega]
          rcases List.mem_append.1 hx with e | e
          · obtain ⟨h0, hx⟩ := i3 x e
            exact Int.le_trans hx (hle (m - 1) m (by omega) (by omega))
          · rw [List.mem_singleton.1 e]; exact Int.le_refl _
      · have hk : Lib.keeps zs.toArray m = false := by simpa using hk
        have h0 : 0 < m := by
          rcases Nat.eq_zero_or_pos m with e | e
          · subst e; rw [Lib.keeps_lt_one _ 0 (by omega)] at hk; cases hk
          · exact e
        have he : zs.toArray[m]! = zs.toArray[m - 1]! := by
          by_cases e : zs.toArray[m]! = zs.toArray[m - 1]!
          · exact e
          · rw [Lib.keeps_pos e] at hk; cases hk
        rw [hk, if_neg (by decide), List.append_nil]
        refine ⟨i1, fun x => ?_, fun x hx => ⟨by omega, ?_⟩⟩
        · rw [i2]
          constructor
          · rintro ⟨j, a, b⟩
            exact ⟨j, by omega, b⟩
          · rintro ⟨j, a, b⟩
            rcases Nat.lt_or_ge j m with h1 | h1
            · exact ⟨j, h1, b⟩
            · rw [show j = m by omega, he] at b; exact ⟨m - 1, by omega, b⟩
        · obtain ⟨_, hx⟩ := i3 x hx
          rw [show m + 1 - 1 = m by omega, he]; exact hx
  obtain ⟨k1, k2, _⟩ := key zs.length (Nat.le_refl _)
  refine ⟨k1, fun x => ?_⟩
  show x ∈ Lib.compactUpTo zs.toArray zs.length ↔ _
  rw [k2]
  constructor
  · rintro ⟨j, a, b⟩
    have : zs.toArray[j]! = zs[j] := by simp [getElem!_pos, a]
    rw [← b, this]; exact List.getElem_mem _
  · intro hx
    obtain ⟨j, a, b⟩ := List.mem_iff_getElem.1 hx
    refine ⟨j, a, ?_⟩
    have : zs.toArray[j]! = zs[j] := by simp [getElem!_pos, a]
    rw [this]; exact b
theorem setZ_spec (zs : List Int) : Rise (setZ zs) ∧ SameM (setZ zs) zs := by
  obtain ⟨h1, h2⟩ := compact_spec (sortZ zs) (sortZ_le zs)
  exact ⟨h1, fun x => (h2 x).trans (sortZ_mem zs x)⟩
/-- what set leaves: a row of its own -/
def SetOut (zs : List Int) (w : World) (e : Ending) (w' : World) : Prop :=
  ∃ v, e = .returned v ∧ w'.ownsRow w.heap.size 3 1 v (setZ zs).length (intC (setZ zs)) ∧ Below w.heap.size w w'
/-- the end of a walk over a copy -/
theorem set_end {w w1 : World} {g cap n nn q : Nat} {os : Array Obj} {ss : List Int} (hown : w1.ownsRow w.heap.size 3 1 (.slice (some ⟨g, 0, none⟩) n cap) n (ss.map (Value.int .i64))) (hbel : Below w.heap.size w w1) (hbg : w.heap.size ≤ g) (hlen : ss.length = n) :
    SetOut ss w (.returned (.slice (some ⟨g, 0, none⟩) (Lib.compact (ss.mergeSort fun x y => decide (x ≤ y))).length cap))
      (putRow (Value.int .i64) (Sort.ahead (grow (putRow (Value.int .i64) (Sort.ahead w1 nn) g 0 (ss.mergeSort fun x y => decide (x ≤ y)).toArray) os) q) g 0 (Lib.compact (ss.mergeSort fun x y => decide (x ≤ y)) ++ List.replicate (n - (Lib.compact (ss.mergeSort fun x y => decide (x ≤ y))).length) 0).toArray) := by
  have hl2 : (ss.mergeSort fun x y => decide (x ≤ y)).length = ss.length := List.length_mergeSort ss
  have hle := Lib.compact_length_le (ss.mergeSort fun x y => decide (x ≤ y))
  subst hlen
  rcases hown.2 with ⟨h0, _⟩ | ⟨g', cap', cur, hv, hbase, hb, h1, h2, h3, h4⟩
  · cases h0
  cases hv
  have hs := ownsRow_sortedI (n := nn) (os := os) (ts := ss.mergeSort fun x y => decide (x ≤ y)) hl2 hbase hb h1 h2 h3
  have hc := Lib.ownsRow_putRow (q := q) (k := (Lib.compact (ss.mergeSort fun x y => decide (x ≤ y))).length) (ys := Lib.compact (ss.mergeSort fun x y => decide (x ≤ y)) ++ List.replicate (ss.length - (Lib.compact (ss.mergeSort fun x y => decide (x ≤ y))).length) 0) hs (by simp; omega) (by omega)
  rw [List.take_left] at hc
  exact ⟨_, rfl, hc, Lib.below_putRow (hbel.grown (grownBy_sortedI _) hbel.size (fun j hj => by cases hj; exact hbase)) hbg⟩
set_option maxHeartbeats 2000000 in
set_option maxRecDepth 100000 in
theorem set_tail (n : Nat) (arg : Value) (ss : List Int) (w : World) (hn : n ≤ 1000000000)
    (hclone : Calls Tryd.prog 41 #[arg] w fun e w' => ∃ v', e = .returned v' ∧ w'.ownsRow w.heap.size 3 1 v' n (ss.map (Value.int .i64)) ∧ v' ≠ .slice none 0 0 ∧ Below w.heap.size w w') :
    Calls Tryd.prog 35 #[arg] w (SetOut ss w) := by
  go_enter Tryd.func35, Tryd.ntmps35
  go_wp2_with (go_at_call 41; refine hclone.mono ?_)
  rintro e w1 ⟨v1, rfl, hown, hnn, hbel⟩
  obtain ⟨g, cap, rfl, hbg, hgl, hncap, hcm, hlen, hH⟩ := Lib.holds_of_ownsRow hown hnn
  have hsort := Tryd.slices_Sort_int g 0 cap ss w1 hH hgl (by omega)
  rw [hlen] at hsort
  go_wp2_with (go_at_call 42; refine hsort.mono ?_)
  rintro e w2 ⟨rfl, nn, os, rfl⟩
  have hl2 : (ss.mergeSort fun x y => decide (x ≤ y)).length = n := by rw [List.length_mergeSort]; exact hlen
  have hH2 : Holds (Value.int .i64) (grow (putRow (Value.int .i64) (Sort.ahead w1 nn) g 0 (ss.mergeSort fun x y => decide (x ≤ y)).toArray) os) g 0 (ss.mergeSort fun x y => decide (x ≤ y)).toArray :=
    holds_grow _ _ os g 0 _ (by simpa [putRow, mapBlock, Sort.ahead] using hgl) (holds_putRow _ _ g 0 _ _ (holds_ahead _ w1 nn g 0 _ hH) (by simp))
  have hcomp := Tryd.slices_Compact_int g 0 cap (ss.mergeSort fun x y => decide (x ≤ y)) _ hH2 (by omega) (by omega)
  rw [hl2] at hcomp
  have hE := fun q => set_end (nn := nn) (os := os) (q := q) hown hbel hbg hlen
  clear hH2 hsort hown hnn hH
  generalize (grow (putRow (Value.int .i64) (Sort.ahead w1 nn) g 0 (ss.mergeSort fun x y => decide (x ≤ y)).toArray) os) = w3 at hcomp hE ⊢
  go_wp2_with (go_at_call 43; refine hcomp.mono ?_)
  rintro e w4 ⟨rfl, q, rfl⟩
  have hE := hE q
  generalize (putRow (Value.int .i64) (Sort.ahead w3 q) g 0 (Lib.compact (ss.mergeSort fun x y => decide (x ≤ y)) ++ List.replicate (n - (Lib.compact (ss.mergeSort fun x y => decide (x ≤ y))).length) 0).toArray) = w5 at hE ⊢
  go_wp2
  go_ret
  exact hE
set_option maxHeartbeats 2000000 in
set_option maxRecDepth 100000 in
theorem ins_nil (w : World) : Calls Tryd.prog 57 #[.slice none 0 0, .int .i64 0, .int .i64 0] w fun e w' => e = .returned (.tuple #[]) ∧ w' = w := by
  go_enter Tryd.func57, Tryd.ntmps57
  go_wp2
  go_loopw [6] (fun iv wr => iv = .int .i64 1 ∧ wr = w) (fun _ _ => 0)
  case atStart => exact ⟨rfl, rfl⟩
  case round =>
    obtain ⟨rfl, rfl⟩ := hrel
    go_wp2
    go_end0
    exact ⟨rfl, rfl⟩
set_option maxHeartbeats 2000000 in
set_option maxRecDepth 100000 in
theorem pdq_nil (l : Int) (w : World) : Calls Tryd.prog 51 #[.slice none 0 0, .int .i64 0, .int .i64 0, .int .i64 l] w fun e w' => e = .returned (.tuple #[]) ∧ w' = w := by
  go_enter Tryd.func51, Tryd.ntmps51
  go_wp2
  go_loopw [1, 2, 8] (fun a b iv wr => a = .int .i64 0 ∧ b = .int .i64 0 ∧ iv = .bool true ∧ wr = w) (fun _ _ _ _ => 0)
  case atStart => exact ⟨rfl, rfl, rfl, rfl⟩
  case round =>
    obtain ⟨rfl, rfl, rfl, rfl⟩ := hrel
    go_wp2_with (go_at_call 57; refine (ins_nil _).mono ?_; rintro e w1 ⟨p1, p2⟩; rw [p1, p2]; clear p1 p2)
    first | go_end0 | refine bodyPost_ret (results_none rfl _ _ _) rfl ?_
    exact ⟨rfl, rfl⟩
set_option maxHeartbeats 2000000 in
set_option maxRecDepth 100000 in
theorem len_zero (w : World) : Calls Tryd.prog 52 #[.int .u64 0] w fun e w' => e = .returned (.int .i64 0) ∧ w' = w := by
  go_enter Tryd.func52, Tryd.ntmps52
  go_wp2
  go_ret
  simp
  first | rfl | decide | kernel_rfl
set_option maxHeartbeats 2000000 in
set_option maxRecDepth 100000 in
theorem sort_nil (w : World) : Calls Tryd.prog 42 #[.slice none 0 0] w fun e w' => e = .returned (.tuple #[]) ∧ w' = w := by
  go_enter Tryd.func42, Tryd.ntmps42
  go_wp2_with (first | (go_at_call 52; refine (len_zero _).mono ?_; rintro e w1 ⟨p1, p2⟩; rw [p1, p2]; clear p1 p2) | (go_at_call 51; refine (pdq_nil _ _).mono ?_; rintro e w1 ⟨p1, p2⟩; rw [p1, p2]; clear p1 p2))
  go_end0
  exact ⟨rfl, rfl⟩
set_option maxHeartbeats 2000000 in
set_option maxRecDepth 100000 in
theorem set_nil (n c : Nat) (w : World) : Calls Tryd.prog 35 #[.slice none n c] w (SetOut [] w) := by
  have hE : SetOut [] w (.returned (.slice none 0 0)) w := ⟨_, rfl, by rw [setZ_nil]; exact World.ownsRow_nil _ _ _ _, Below.refl _ _⟩
  go_enter Tryd.func35, Tryd.ntmps35
  go_wp2_with (first | (go_at_call 41; refine (Tryd.slices_Clone_int_nil n c _).mono ?_; rintro e w1 ⟨p1, p2⟩; rw [p1, p2]; clear p1 p2) | (go_at_call 42; refine (sort_nil _).mono ?_; rintro e w1 ⟨p1, p2⟩; rw [p1, p2]; clear p1 p2) | (go_at_call 43; refine (Tryd.slices_Compact_int_empty none 0 _).mono ?_; rintro e w1 ⟨p1, p2⟩; rw [p1, p2]; clear p1 p2))
  go_ret
  exact hE
/-- set, of whatever slice -/
theorem set_walk (a : Option Addr) (n c : Nat) (zs : List Int) (w : World) (hn : zs.length = n) (hn9 : n ≤ 1000000000) (hi : Ints w a zs) : Calls Tryd.prog 35 #[.slice a n c] w (SetOut zs w) := by
  rcases Nat.eq_zero_or_pos n with rfl | h0
  · have hz : zs = [] := List.eq_nil_of_length_eq_zero hn
    subst hz
    cases a with
    | none => exact set_nil 0 c w
    | some ad => exact set_tail 0 _ [] w (by omega) (Tryd.slices_Clone_int_zero ad c w)
  · obtain ⟨b, off, rfl, hb, hc⟩ := hi 0 (by omega)
    have hcl := Tryd.slices_Clone_int b off n c zs w (by omega) (by omega) fun j hj => by
      obtain ⟨b', off', e, _, hc⟩ := hi j hj
      cases e; exact hc
    rw [List.take_of_length_le (by omega)] at hcl
    exact set_tail n _ zs w hn9 hcl
end Go.Proofs.YtagfnjpjmmleiaaDoor

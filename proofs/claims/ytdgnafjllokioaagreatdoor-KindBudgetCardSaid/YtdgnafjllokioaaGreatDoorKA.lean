/- Kind: memory: what all walks use. -/
import Derived.Test.YtdgnafjllokioaaGreatDoorProg
import Derived.Test.YtdgnafjllokioaaGreatDoorKb
import Derived.Test.YtdgnafjllokioaaGreatDoorChecked
import Derived.WalkKit
import Derived.Below
import Derived.OwnWalk
import Derived.Laws.OwnMore
import Derived.Laws.AppendOwnNone
import Derived.Deep.OwnRows
import Derived.Deep.LoopGhost
import Derived.Deep.Cut
import Derived.RowKit3
set_option linter.unusedVariables false
set_option linter.unusedSimpArgs false
set_option autoImplicit false
set_option linter.unusedVariables false
set_option linter.unusedSimpArgs false
namespace Go.Proofs.YtdgnafjllokioaaGreatDoor
open Go.Proofs Go
open Go.RowKit
def Ints (w : World) (a : Option Addr) (zs : List Int) : Prop := ∀ j, j < zs.length → ∃ b off, a = some ⟨b, off, none⟩ ∧ b < w.heap.size ∧ w.cell? ⟨b, off + j, none⟩ = some (.int .i64 (zs.getD j 0))
theorem cell_new (w : World) (cs : Array Value) (t : TypeId) (fz : Nat × Nat) (k : Nat) : (w.alloc (.cells cs t fz)).cell? ⟨w.heap.size, k, none⟩ = cs[k]? := by
  have h : (w.alloc (.cells cs t fz)).heap[w.heap.size]? = some (.cells cs t fz) := by
    show (w.heap.push (.cells cs t fz))[w.heap.size]? = _
    simp
  unfold World.cell?
  rw [h]
  rfl
theorem Ints.below {w wr : World} {a : Option Addr} {zs : List Int} (h : Ints w a zs) (hb : Below w.heap.size w wr) : Ints wr a zs := fun j hj => by
  obtain ⟨b, off, e1, e2, e3⟩ := h j hj
  exact ⟨b, off, e1, Nat.lt_of_lt_of_le e2 hb.size, (hb.cell (by exact e2)).trans e3⟩
def Bools (w : World) (a : Option Addr) (ms : List Bool) : Prop := ∀ j, j < ms.length → ∃ b off, a = some ⟨b, off, none⟩ ∧ b < w.heap.size ∧ w.cell? ⟨b, off + j, none⟩ = some (.bool (ms.getD j false))
theorem Bools.below {w wr : World} {a : Option Addr} {ms : List Bool} (h : Bools w a ms) (hb : Below w.heap.size w wr) : Bools wr a ms := fun j hj => by
  obtain ⟨b, off, e1, e2, e3⟩ := h j hj
  exact ⟨b, off, e1, Nat.lt_of_lt_of_le e2 hb.size, (hb.cell (by exact e2)).trans e3⟩
theorem add_plain (b o j : Nat) : (⟨b, o, none⟩ : Addr).add j = ⟨b, o + j, none⟩ := by
  unfold Addr.add
  split <;> simp_all
theorem info_parts' {P : Program} {t : TypeId} {z : Option Value} {s b : Nat} (h : (P.info? t).map (fun i => (i.zero, i.size, i.bytes)) = some (z, s, b)) : ∃ i, P.info? t = some i ∧ i.zero = z ∧ i.size = s ∧ i.bytes = b := by
  cases e : P.info? t with
  | none => rw [e] at h; cases h
  | some i =>
    rw [e] at h
    simp at h
    exact ⟨i, rfl, h.1, h.2.1, h.2.2⟩
theorem owns_keep {w w' : World} {base : Nat} {v : Value} {e : TypeId} {size k : Nat} {xs : List Value} (h : w.ownsRow base e size v k xs) (hb : ∀ g, v.ownBlock = some g → w'.heap[g]? = w.heap[g]?) : w'.ownsRow base e size v k xs := by
  obtain ⟨h1, h2⟩ := h
  refine ⟨h1, h2.imp id ?_⟩
  rintro ⟨g, cap, cur, rfl, hb1, hg, r⟩
  exact ⟨g, cap, cur, rfl, hb1, (hb g rfl).trans hg, r⟩
theorem heap_old {w : World} {o o' : Obj} {g : Nat} (h : w.heap[g]? = some o) : (w.alloc o').heap[g]? = some o ∧ g < w.heap.size := by
  have hb : g < w.heap.size := (Array.getElem?_eq_some_iff.1 h).1
  exact ⟨(Below.heap_alloc _ _ _ hb).trans h, hb⟩
theorem heap_new (w : World) (o : Obj) : (w.alloc o).heap[w.heap.size]? = some o := by
  show (w.heap.push _)[w.heap.size]? = _
  simp
theorem block_cell {w : World} {b : Nat} {cs : Array Value} {e : TypeId} (h : w.heap[b]? = some (.cells cs e)) (m : Nat) : w.cell? ⟨b, m, none⟩ = cs[m]? ∧ w.frozen? ⟨b, m, none⟩ = false := by
  refine ⟨?_, by unfold World.frozen?; rw [h]; simp⟩
  unfold World.cell?
  rw [h]
  simp
theorem made_row {w : World} {lo g n : Nat} {z : Value} {e : TypeId} (h : w.heap[g]? = some (.cells (madeCells #[z] n) e)) (hl : lo ≤ g) (hn : n ≤ maxLen) : w.ownsRow lo e 1 (.slice (some ⟨g, 0, none⟩) n n) n (List.replicate n z) := by
  refine ⟨by rw [List.length_replicate, Nat.mul_one], .inr ⟨g, n, _, rfl, hl, h, Nat.le_refl _, hn, by simp [madeCells], ?_⟩⟩
  apply List.ext_getElem?
  intro k
  rw [Nat.mul_one, List.getElem?_take, List.getElem?_replicate]
  by_cases hk : k < n
  · rw [if_pos hk, if_pos hk]
    simp [madeCells, hk, Nat.mod_one]
  · rw [if_neg hk, if_neg hk]
theorem owns_base {lo l0 : Nat} {e : TypeId} {sz n : Nat} {w : World} {v : Value} {xs : List Value} (h : w.ownsRow lo e sz v n xs) (hl : l0 ≤ lo) : w.ownsRow l0 e sz v n xs :=
  ⟨h.1, h.2.imp id fun ⟨g, cap, cur, a1, a2, a3⟩ => ⟨g, cap, cur, a1, Nat.le_trans hl a2, a3⟩⟩
theorem below2 (w : World) (o o' : Obj) : Below w.heap.size w ((w.alloc o).alloc o') := by
  have h := (Below.refl w.heap.size w).alloc (Nat.le_refl _) o
  exact h.alloc h.size o'
theorem bools_of {lo k : Nat} {w : World} {mv : Value} {ms : List Bool} (h : w.ownsRow lo 4 1 mv k (ms.map Value.bool)) (hk : ms.length = k) : ∃ am cm, mv = .slice am k cm ∧ k ≤ cm ∧ Bools w am ms ∧ (0 < k → ∃ g, am = some ⟨g, 0, none⟩ ∧ lo ≤ g) := by
  rcases h.2 with ⟨e1, e2⟩ | ⟨g, cap, cur, e1, hb, hg, hc, _⟩
  · exact ⟨none, 0, by rw [e1, e2], by omega, fun j hj => by omega, fun h => by omega⟩
  · rw [e1] at h
    refine ⟨_, cap, e1, hc, fun j hj => ⟨g, 0, rfl, (Array.getElem?_eq_some_iff.1 hg).1, ?_⟩, fun _ => ⟨g, rfl, hb⟩⟩
    rw [Nat.zero_add, h.cellAt j (by omega), List.getElem?_map, List.getD_eq_getElem?_getD, List.getElem?_eq_getElem hj]
    rfl
def adOf : Value → Option Addr
  | .slice a _ _ => a
  | _ => none
def cpOf : Value → Nat
  | .slice _ _ c => c
  | _ => 0
theorem ints_own {lo k : Nat} {w : World} {v : Value} {zs : List Int} (h : w.ownsRow lo 3 1 v k (zs.map (Value.int .i64))) (hk : zs.length = k) : v = .slice (adOf v) k (cpOf v) ∧ Ints w (adOf v) zs := by
  rcases h.2 with ⟨e1, e2⟩ | ⟨g, cap, cur, e1, hb, hg, hc, _⟩
  · rw [e1, e2]
    exact ⟨rfl, fun j hj => by omega⟩
  · rw [e1] at h ⊢
    refine ⟨rfl, fun j hj => ⟨g, 0, rfl, (Array.getElem?_eq_some_iff.1 hg).1, ?_⟩⟩
    rw [Nat.zero_add, h.cellAt j (by omega), List.getElem?_map, List.getD_eq_getElem?_getD, List.getElem?_eq_getElem hj]
    rfl
theorem own_grown {w w' : World} {base base' e e' size size' n n' : Nat} {v v' : Value} {xs xs' : List Value} (h : w.ownsRow base e size v n xs) (hv : w.ownsRow base' e' size' v' n' xs') (hne : e ≠ e') (hg : w.grownBy w' v'.ownBlock) : w'.ownsRow base e size v n xs := by
  refine owns_keep h fun g hgv => hg.block g (h.lt g hgv).2 fun e2 => ?_
  rcases h.2 with ⟨e4, _⟩ | ⟨g1, cap1, cur1, e4, _, e5, _⟩
  · rw [e4] at hgv; cases hgv
  · rw [e4] at hgv
    cases hgv
    rcases hv.2 with ⟨e6, _⟩ | ⟨g2, cap2, cur2, e6, _, e7, _⟩
    · rw [e6] at e2; cases e2
    · rw [e6] at e2
      cases e2
      rw [e5] at e7
      cases e7
      exact hne rfl
theorem own_below' {w w' : World} {base e size n : Nat} {v : Value} {xs : List Value} (h : w.ownsRow base e size v n xs) (hb : Below w.heap.size w w') : w'.ownsRow base e size v n xs := owns_keep h fun g hg => hb.block g (h.lt g hg).2
theorem cellLt {W : World} {b off : Nat} {v : Value} (h : W.cell? ⟨b, off, none⟩ = some v) : b < W.heap.size := by
  by_cases e : b < W.heap.size
  · exact e
  · unfold World.cell? at h
    rw [Array.getElem?_eq_none (by simpa using e)] at h
    cases h
theorem cell_b {w w' : World} {b m : Nat} {u : Value} (hb : Below w.heap.size w w') (h : w.cell? ⟨b, m, none⟩ = some u) : w'.cell? ⟨b, m, none⟩ = some u := (hb.cell (p := ⟨b, m, none⟩) (cellLt h)).trans h
theorem below_drew {n : Nat} {w w' : World} (h : Below n w w') : Below n w w'.drew := ⟨h.os, h.tape, h.output, h.size, h.block⟩
end Go.Proofs.YtdgnafjllokioaaGreatDoor
/- Kind: what a system is in memory; the small functions. -/
set_option autoImplicit false
set_option linter.unusedVariables false
set_option linter.unusedSimpArgs false
namespace Go.Proofs.YtdgnafjllokioaaGreatDoor
open Go.Proofs Go
open Go.RowKit Kb
abbrev GL := List (Int × Int × Int)
/-- a slice of gates, as it stands in a world -/
def Gates (w : World) (a : Option Addr) (gs : GL) : Prop := ∀ j, j < gs.length → ∃ b off, a = some ⟨b, off, none⟩ ∧ b < w.heap.size ∧ w.cell? ⟨b, off + j * 3, none⟩ = some (.int .i64 (opZ gs j)) ∧ w.cell? ⟨b, off + j * 3 + 1, none⟩ = some (.int .i64 (aZ gs j)) ∧ w.cell? ⟨b, off + j * 3 + 2, none⟩ = some (.int .i64 (bZ gs j))
theorem Gates.below {w wr : World} {a : Option Addr} {gs : GL} (h : Gates w a gs) (hb : Below w.heap.size w wr) : Gates wr a gs := fun j hj => by
  obtain ⟨b, off, e1, e2, e3, e4, e5⟩ := h j hj
  exact ⟨b, off, e1, Nat.lt_of_lt_of_le e2 hb.size, (hb.cell (by exact e2)).trans e3, (hb.cell (by exact e2)).trans e4, (hb.cell (by exact e2)).trans e5⟩
theorem ints_get {w : World} {a : Option Addr} {zs : List Int} (h : Ints w a zs) {j : Nat} {x : Int} (hj : zs[j]? = some x) : ∃ b off, a = some ⟨b, off, none⟩ ∧ b < w.heap.size ∧ w.cell? ⟨b, off + j, none⟩ = some (.int .i64 x) := by
  obtain ⟨h1, h2⟩ := List.getElem?_eq_some_iff.1 hj
  obtain ⟨b, off, e1, e2, e3⟩ := h j h1
  refine ⟨b, off, e1, e2, ?_⟩
  rw [e3, List.getD_eq_getElem?_getD, hj]
  rfl
theorem bools_get {w : World} {a : Option Addr} {ms : List Bool} (h : Bools w a ms) {j : Nat} (hj : j < ms.length) : ∃ b off, a = some ⟨b, off, none⟩ ∧ b < w.heap.size ∧ w.cell? ⟨b, off + j, none⟩ = some (.bool (ms.getD j false)) := h j hj
set_option maxHeartbeats 4000000 in
set_option maxRecDepth 1000000 in
theorem num_walk (x : Int) (w : World) : Calls Tryz.prog 9 #[.int .i64 x] w fun e w' => e = .returned (.int .i64 x) ∧ w' = w := by
  go_enter Tryz.func9, Tryz.ntmps9
  go_wp2
  go_ret
  simp
/-- halves and rests of wires -/
theorem wire_div {n : Nat} {x : Int} (h : wOK n x) : ∃ m : Nat, m < n ∧ (x = 2 * (m : Int) ∨ x = 2 * (m : Int) + 1) ∧ (x / 2).toNat = m := by
  obtain ⟨h1, h2⟩ := h
  exact ⟨(x / 2).toNat, by omega, by omega, rfl⟩
set_option maxHeartbeats 4000000 in
set_option maxRecDepth 1000000 in
theorem wire_walk (a : Option Addr) (n c : Nat) (vs : List Bool) (x : Int) (w : World) (hn : vs.length = n) (hlen : n ≤ 1000000) (hx : wOK n x) (hz : Bools w a vs) :
    Calls Tryz.prog 45 #[.slice a n c, .int .i64 x] w fun e w' => e = .returned (.bool (atZ vs x)) ∧ w' = w := by
  obtain ⟨m, hm, hxm, hd⟩ := wire_div hx
  obtain ⟨b, off, rfl, hb, hc⟩ := hz m (by omega)
  have hat : atZ vs x = (vs.getD m false != (x % 2 == 1)) := by unfold atZ; rw [hd]
  obtain ⟨u, hu⟩ : ∃ u, vs.getD m false = u := ⟨_, rfl⟩
  rw [hu] at hc hat
  go_enter Tryz.func45, Tryz.ntmps45
  rcases hxm with rfl | rfl
  · have e1 : (2 * (m : Int)).tdiv 2 = m := by rw [Int.tdiv_eq_ediv_of_nonneg (by omega)]; omega
    have e2 : (2 * (m : Int)).tmod 2 = 0 := by rw [Int.tmod_eq_emod_of_nonneg (by omega)]; omega
    have e3 : (2 * (m : Int)) % 2 = 0 := by omega
    rw [e3] at hat
    go_wp2
    go_ret
    rw [hat]
    cases u <;> exact ⟨rfl, rfl⟩
  · have e1 : (2 * (m : Int) + 1).tdiv 2 = m := by rw [Int.tdiv_eq_ediv_of_nonneg (by omega)]; omega
    have e2 : (2 * (m : Int) + 1).tmod 2 = 1 := by rw [Int.tmod_eq_emod_of_nonneg (by omega)]; omega
    have e3 : (2 * (m : Int) + 1) % 2 = 1 := by omega
    rw [e3] at hat
    go_wp2
    go_ret
    rw [hat]
    cases u <;> exact ⟨rfl, rfl⟩
end Go.Proofs.YtdgnafjllokioaaGreatDoor

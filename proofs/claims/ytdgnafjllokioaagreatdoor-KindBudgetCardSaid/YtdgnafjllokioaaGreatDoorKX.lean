/- Kind: Check, walked. -/
import Derived.Test.YtdgnafjllokioaaGreatDoorKT
set_option linter.unusedVariables false
set_option linter.unusedSimpArgs false
set_option autoImplicit false
set_option linter.unusedVariables false
set_option linter.unusedSimpArgs false
namespace Go.Proofs.YtdgnafjllokioaaGreatDoor
open Go.Proofs Go
open Go.RowKit Kb
/-- what Check tells -/
def CheckOut (y : Sy) (k : Nat) (w : World) (e : Ending) (w' : World) : Prop := Below w.heap.size w w' ∧ ∃ (q K : Int) (ta : Option Addr) (tn tc : Nat), e = .returned (.tuple #[.agg #[.int .i64 q, .int .i64 K, .slice ta tn tc], .int .i64 0]) ∧ Verd y k q K (.slice ta tn tc) w.heap.size w'
theorem sb_box {w : World} (d : SA) (gn nn im : Nat) (ok asm B : Int) : SB w.heap.size d gn nn im ok asm (w.alloc (.cells #[.slice d.ga gn d.gc, .slice d.na nn d.nc, .slice d.xa nn d.xc, .slice d.ia im d.ic, .slice d.ba nn d.bc, .int .i64 ok, .int .i64 asm, .int .i64 B] 55)) := by
  have hlt : w.heap.size < (w.alloc (.cells #[.slice d.ga gn d.gc, .slice d.na nn d.nc, .slice d.xa nn d.xc, .slice d.ia im d.ic, .slice d.ba nn d.bc, .int .i64 ok, .int .i64 asm, .int .i64 B] 55)).heap.size := by
    show _ < (w.heap.push _).size
    simp
  exact ⟨(cell_new ..).trans rfl, (cell_new ..).trans rfl, (cell_new ..).trans rfl, (cell_new ..).trans rfl, (cell_new ..).trans rfl, (cell_new ..).trans rfl, (cell_new ..).trans rfl, hlt⟩
theorem bel_boxs {lo : Nat} {w wr : World} (h : Below lo w wr) (x z u : Value) : Below lo w (((wr.setCell ⟨lo + 1, 0, none⟩ x).setCell ⟨lo + 1, 1, none⟩ z).setCell ⟨lo + 1, 2, none⟩ u) := ((h.setCell (p := ⟨lo + 1, 0, none⟩) (Nat.le_succ _) x).setCell (p := ⟨lo + 1, 1, none⟩) (Nat.le_succ _) z).setCell (p := ⟨lo + 1, 2, none⟩) (Nat.le_succ _) u
set_option maxHeartbeats 8000000 in
set_option maxRecDepth 1000000 in
theorem check_walk (d : SA) (y : Sy) (gn nn im k : Nat) (budget : Int) (w : World) (hy : Kb.Good y) (hgn : y.gates.length = gn) (hnn : y.now.length = nn) (him : y.ins.length = im) (hg9 : gn ≤ 400) (hn9 : nn ≤ 8) (hi9 : im ≤ 3) (hk9 : k ≤ 20) (hsys : SysAt w d y) (hba : d.ba = none → nn = 0 ∧ d.bc = 0) :
    Calls Tryz.prog 7 #[.agg (sysC d gn nn im y.ok y.asm), .int .i64 (k : Int), .int .i64 budget] w (CheckOut y k w) := by
  obtain ⟨s, hs⟩ : ∃ s, w.heap.size = s := ⟨_, rfl⟩
  obtain ⟨W1, hW1⟩ : ∃ W, w.alloc (.cells (sysC d gn nn im y.ok y.asm) 28) = W := ⟨_, rfl⟩
  have hb1 : Below s w W1 := by rw [← hW1, ← hs]; exact (Below.refl w.heap.size w).alloc (Nat.le_refl _) _
  have hsb1 : SB s d gn nn im y.ok y.asm W1 := by rw [← hW1, ← hs]; exact sb_new ..
  have hs1 : W1.heap.size = s + 1 := by rw [← hW1, ← hs]; show (w.heap.push _).size = _; simp
  obtain ⟨W2, hW2⟩ : ∃ W, W1.alloc (.cells #[.int .i64 0, .int .i64 0, .slice none 0 0] 33) = W := ⟨_, rfl⟩
  have hb12 : Below (s + 1) W1 W2 := by rw [← hW2, ← hs1]; exact (Below.refl _ _).alloc (Nat.le_refl _) _
  have hbox2 : W2.heap[s + 1]? = some (.cells #[.int .i64 0, .int .i64 0, .slice none 0 0] 33) := by rw [← hW2, ← hs1]; exact heap_new W1 _
  have hb2 : Below s w W2 := hb1.trans (hb12.mono (Nat.le_succ _))
  have hsb2 : SB s d gn nn im y.ok y.asm W2 := hsb1.below hsb1.lt (hs1.symm ▸ hb12)
  have hs2 : W2.heap.size = s + 2 := by rw [← hW2]; show (W1.heap.push _).size = _; simp [hs1]
  have hfits := fits_walk d y gn nn im W2 hy hgn hnn him (by omega) (by omega) (by omega) (hsys.below (hs ▸ hb2))
  have hW : ∀ w3, Below W2.heap.size W2 w3 → Below s w w3 ∧ SB s d gn nn im y.ok y.asm w3 ∧ w3.heap[s + 1]? = some (.cells #[.int .i64 0, .int .i64 0, .slice none 0 0] 33) ∧ s + 2 ≤ w3.heap.size := fun w3 h => ⟨hb2.trans (h.mono (by omega)), hsb2.below hsb2.lt h, below_of_block h hbox2, hs2 ▸ h.size⟩
  have hsy : Aside (∀ w3, Below s w w3 → SysAt w3 d y) := fun w3 h => hsys.below (hs ▸ h)
  obtain ⟨ok, hok⟩ : ∃ x, y.ok = x := ⟨_, rfl⟩
  obtain ⟨asm, hasm⟩ : ∃ x, y.asm = x := ⟨_, rfl⟩
  have hwd : Aside (∀ (cb : Nat) (w4 : World), SB cb d gn nn im ok asm w4 → SysAt w4 d y → Calls Tryz.prog 17 #[.pointer (some ⟨cb, 0, none⟩), .int .i64 (k : Int)] w4 (WideOut y k w4)) := by
    rw [← hok, ← hasm]
    exact fun cb w4 h1 h2 => wide_walk cb d y gn nn im k w4 h1 hy hgn hnn him hg9 hn9 hi9 hk9 h2 hba
  rw [hok, hasm] at hW1 hfits ⊢
  have hW : ∀ w3, Below W2.heap.size W2 w3 → Below s w w3 ∧ SB s d gn nn im ok asm w3 ∧ w3.heap[s + 1]? = some (.cells #[.int .i64 0, .int .i64 0, .slice none 0 0] 33) ∧ s + 2 ≤ w3.heap.size := by rw [← hok, ← hasm]; exact hW
  obtain ⟨B, hB⟩ : ∃ B, (if (0 : Int) < budget then budget else 0) = B := ⟨_, rfl⟩
  have hk0 : ¬ (k : Int) < 0 := by omega
  have hk20 : ¬ (20 : Int) < (k : Int) := by omega
  unfold sysC at hW1 hfits ⊢
  have hs' : Aside (w.heap.size = s) := hs
  have hW := (show Aside _ from hW)
  rw [hok, hasm] at hsb2
  obtain ⟨c0, c1, c2, c3, c4, c5, c6, hslt⟩ := hsb2
  clear hsb1 hb1 hb2 hb12 hbox2 hs2 hsys hy hgn hnn him hba hok hasm
  go_enter Tryz.func7, Tryz.ntmps7
  go_upto_region 3 with (first | (go_at_call 15; refine hfits.mono ?_; rintro e w3 ⟨p1, hb3⟩; rw [p1]; clear p1))
  clear hfits c0 c1 c2 c3 c4 c5 c6 hslt
  obtain ⟨hB3, hsb3, hbox3, hle3⟩ := hW.out w3 hb3
  obtain ⟨c0, c1, c2, c3, c4, c5, c6, hslt⟩ := hsb3
  go_upto_region 6 with fail
  obtain ⟨W4, hW4⟩ : ∃ W, w3.alloc (.cells #[.slice d.ga gn d.gc, .slice d.na nn d.nc, .slice d.xa nn d.xc, .slice d.ia im d.ic, .slice d.ba nn d.bc, .int .i64 ok, .int .i64 asm, .int .i64 B] 55) = W := ⟨_, rfl⟩
  rw [hW4]
  obtain ⟨cb, hcb⟩ : ∃ n, w3.heap.size = n := ⟨_, rfl⟩
  have hsb4 : SB cb d gn nn im ok asm W4 := by rw [← hW4, ← hcb]; exact sb_box d gn nn im ok asm B
  have hb34 : Below w3.heap.size w3 W4 := by rw [← hW4]; exact (Below.refl _ _).alloc (Nat.le_refl _) _
  have hB4 : Below s w W4 := hB3.trans (hb34.mono (by omega))
  have hsm := small_walk cb d gn nn im ok asm W4 hsb4 hg9 hn9 hi9
  have hw := hwd.out cb W4 hsb4 (hsy.out W4 hB4)
  have hbox4 := below_of_block hb34 hbox3
  rw [hcb]
  have h5 : Aside (∀ w5, Below W4.heap.size W4 w5 → w5.heap[s + 1]? = some (.cells #[.int .i64 0, .int .i64 0, .slice none 0 0] 33) ∧ Below s w w5) := fun w5 h => ⟨below_of_block h hbox4, hB4.trans (h.mono (by have := hb34.size; omega))⟩
  have h6 : Aside (s + 2 ≤ W4.heap.size) := by have := hb34.size; show _ ≤ _; omega
  unfold WideOut at hw
  clear hW4 hcb hsb4 hb34 hB4 hbox4 hB3 hbox3 c0 c1 c2 c3 c4 c5 c6 hslt hB hwd hsy hW hb3
  go_wp2_with (first | (go_at_call 16; refine hsm.mono ?_; rintro e w6 ⟨p1, p2⟩; rw [p1, p2]; clear p1 p2) | (go_at_call 17; refine hw.mono ?_; rintro e w5 ⟨hb5, q, K, ta, tn, tc, p1, hv⟩; rw [p1]; clear p1; obtain ⟨hbox5, hB5⟩ := h5.out w5 hb5; obtain ⟨q0, f0, q1, q2, g1, g2, r0, r1, r2⟩ := box_f hbox5))
  refine bodyPost_ret (v := .tuple #[.agg #[.int .i64 q, .int .i64 K, .slice ta tn tc], .int .i64 0]) (by simp [results, Tryz.f7, go_sem, r0, r1, r2]) rfl ?_
  have hs' := hs'.out
  have hv2 := hv.keep (fun g hg => box_heap (lo := s + 1) (g := g) w5 (by have := h6.out; omega) (.int .i64 q) (.int .i64 K) (.slice ta tn tc))
  exact ⟨hs'.symm ▸ (bel_boxs hB5 _ _ _), q, K, ta, tn, tc, rfl, hv2.base (by have := h6.out; omega)⟩
end Go.Proofs.YtdgnafjllokioaaGreatDoor

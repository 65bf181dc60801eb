/- Drat: Implied. -/
import Derived.Test.YtagfnjpjmmleiaaDoorTQ
import Derived.Test.YtagfnjpjmmleiaaDoorTM
set_option linter.unusedVariables false
set_option linter.unusedSimpArgs false
set_option autoImplicit false
set_option linter.unusedVariables false
set_option linter.unusedSimpArgs false
namespace Go.Proofs.YtagfnjpjmmleiaaDoor
open Go.Shelf Go.RowKit
theorem Tab.grow {w w' : World} (h : Tab w.heap.size w) (hb : Below w.heap.size w w') : Tab w'.heap.size w' := fun v hv => h v (hb.trans (hv.mono hb.size))
theorem ints_lt {w : World} {a : Option Addr} {zs : List Int} (h : Ints w a zs) {ad : Addr} (e : a = some ad) (hne : zs ≠ []) : ad.block < w.heap.size := by
  obtain ⟨b, off, h1, h2, _⟩ := h 0 (List.length_pos_iff.2 hne)
  rw [e] at h1
  cases h1
  exact h2
theorem add_law : AddLaw := fun cx own rv S w la ln lc zl h hp hln hl9 hi hll hV hN hm ht => add_walk cx own rv S w la ln lc zl h hp hln hl9 hi hll hV hN hm ht
def ImpR (vars : Int) (cs : List Cl) (zl : List Int) (w : World) (e : Ending) (w' : World) : Prop :=
  (∃ b, e = .returned (.bool b) ∧ (b = true ↔ checkZ vars cs = 0 ∧ fairZ vars zl = true ∧ Fol (cs.map Cl.zs) zl)) ∧ Below w.heap.size w w'
set_option maxHeartbeats 8000000 in
set_option maxRecDepth 1000000 in
theorem implied_walk (a : Option Addr) (n c : Nat) (cs : List Cl) (vars : Int) (la : Option Addr) (ln lc : Nat) (zl : List Int) (w : World) (hn : cs.length = n) (hlen : n ≤ 1000000000) (hl : ∀ j, j < n → (cs.getD j default).zs.length ≤ 1000000000) (hz : Rows' w a cs)
    (hln : zl.length = ln) (hl9 : ln ≤ 1000000000) (hli : Ints w la zl) (ht : Tab w.heap.size w) :
    Calls Tryd.prog 18 #[.agg #[.int .i64 vars, .slice a n c], .slice la ln lc] w (ImpR vars cs zl w) := by
  have hb0 := (Below.refl w.heap.size w).alloc (Nat.le_refl _) (.cells #[Value.int .i64 vars, .slice a n c] 24)
  have k0 : (w.alloc (.cells #[Value.int .i64 vars, .slice a n c] 24)).cell? ⟨w.heap.size, 0, none⟩ = some (.int .i64 vars) := (cell_new ..).trans rfl
  have k1 : (w.alloc (.cells #[Value.int .i64 vars, .slice a n c] 24)).cell? ⟨w.heap.size, 1, none⟩ = some (.slice a n c) := (cell_new ..).trans rfl
  have hck := cnf_walk a n c cs vars _ hn hlen hl (hz.below hb0)
  obtain ⟨q, hq⟩ : ∃ q, checkZ vars cs = q := ⟨_, rfl⟩
  rw [hq] at hck
  go_enter Tryd.func18, Tryd.ntmps18
  by_cases hq0 : q = 0
  · subst hq0
    obtain ⟨hv0, hv1⟩ : (-1000000000 ≤ vars) ∧ (vars ≤ 1000000000) := by obtain ⟨V, e, _⟩ := check_ok hq; omega
    go_wp2_with (go_at_call 23; refine hck.mono ?_; rintro e w1 ⟨p1, hb1⟩; rw [p1]; clear p1)
    have hbw1 := hb0.trans (hb1.mono hb0.size)
    have c0 := (hb1.cell (p := ⟨w.heap.size, 0, none⟩) (cellLt k0)).trans k0
    have c1 := (hb1.cell (p := ⟨w.heap.size, 1, none⟩) (cellLt k1)).trans k1
    clear k0 k1
    go_loopw [12] (fun i wr => ∃ k : Nat, k ≤ ln ∧ i = .int .i64 k ∧ fairZ vars (zl.take k) = true ∧ Below w.heap.size w wr ∧ wr.cell? ⟨w.heap.size, 0, none⟩ = some (.int .i64 vars) ∧ wr.cell? ⟨w.heap.size, 1, none⟩ = some (.slice a n c)) (fun i _ => ln - (intOf i).toNat)
    case atStart => exact ⟨0, Nat.zero_le _, rfl, by simp [fairZ], hbw1, c0, c1⟩
    case round =>
      clear c0 c1
      obtain ⟨k, hk, rfl, hf, hbw, c0, c1⟩ := hrel
      by_cases hlt : k < ln
      · have hltI : (k : Int) < (ln : Int) := by omega
        obtain ⟨ib, io, rfl, hib, hic⟩ := (hli.below hbw) k (by omega)
        have hsq := take_snoc (zs := zl) (k := k) (by omega)
        obtain ⟨y, hy⟩ : ∃ y, zl.getD k 0 = y := ⟨_, rfl⟩
        rw [hy] at hic hsq
        have hlit := fun u => literal_walk vars y (.slice a n c) u hv0 hv1
        by_cases hfy : fair1 vars y = true
        · go_wp2_with (go_at_call 25; refine (hlit _).mono ?_; rintro e w2 ⟨p1, hb2⟩; rw [p1, hfy]; clear p1)
          go_roundw
          case rel => exact ⟨k + 1, hlt, by simp, by rw [hsq, fairZ_snoc, hf, hfy]; rfl, hbw.trans (hb2.mono hbw.size), (hb2.cell (p := ⟨w.heap.size, 0, none⟩) (cellLt c0)).trans c0, (hb2.cell (p := ⟨w.heap.size, 1, none⟩) (cellLt c1)).trans c1⟩
          case measure => simp [intOf]; omega
        · have hfy' : fair1 vars y = false := by simpa using hfy
          have hF : fairZ vars zl = false := by
            unfold fairZ
            rw [List.all_eq_false]
            exact ⟨y, by rw [← hy, List.getD_eq_getElem?_getD, List.getElem?_eq_getElem (by omega)]; exact List.getElem_mem _, by simpa using hfy'⟩
          go_wp2_with (go_at_call 25; refine (hlit _).mono ?_; rintro e w2 ⟨p1, hb2⟩; rw [p1, hfy']; clear p1)
          go_ret
          exact ⟨⟨false, rfl, ⟨fun e => (by cases e), fun e => by rw [hF] at e; cases e.2.1⟩⟩, hbw.trans (hb2.mono hbw.size)⟩
      · obtain rfl : k = ln := by omega
        have hT : fairZ vars zl = true := by rw [← hf, List.take_of_length_le (by omega)]
        obtain ⟨V, rfl, g1, g2, g3, g4⟩ := check_ok hq
        have hmk := made_walk add_law a n c cs V wr hn (by omega) (fun j hj => by have := g3 j (by omega); omega) (hz.below hbw) (by omega) (fun j hj => g4 j (by omega)) (ht.grow hbw)
        go_wp2_with (go_at_call 24; refine hmk.mono ?_)
        rintro e w2 ⟨cx, own, rv, S, rfl, hR, hS, hcl, rfl, hlo, hb2, hSn, hSm⟩
        have hbw2 := hbw.trans (hb2.mono hbw.size)
        have hsz := hbw.size
        have hpl := plain_walk cx own rv S w2 la k lc zl hR hS (by simp at hSn; omega) (fun i hi => by
            obtain ⟨zs, h1, h2⟩ := made_lits hcl hSn hi
            obtain ⟨cl, h3, rfl⟩ := List.mem_map.1 h1
            obtain ⟨j, hj, rfl⟩ := List.getElem_of_mem h3
            have h4 := g3 j hj
            rw [List.getD_eq_getElem?_getD, List.getElem?_eq_getElem hj] at h4
            rw [h2]
            exact Nat.le_trans (setZ_len _) (by simpa using Nat.le_trans h4 (by decide))) (by omega) hln (by omega) (hli.below hbw2) (fun ad e hne => by
            cases ho : own ad.block with
            | none => rfl
            | some t =>
              have h1 := (hR.dom _ t ho).1
              have h2 := ints_lt hli e hne
              omega) (fair_lits hT)
        go_wp2_with (go_at_call 27; refine hpl.mono ?_)
        rintro e w3 ⟨b, S', own', rv', rfl, h1, h2, h3, h4, hk, h5⟩
        go_wp2
        go_ret
        have hb3 := h2.toBelow hR
        refine ⟨⟨b, rfl, ?_⟩, hbw2.trans (hb3.mono (by omega))⟩
        rw [h5, hcl, made_fol]
        exact ⟨fun h => ⟨hq, hT, h⟩, fun h => h.2.2⟩
  · go_wp2_with (go_at_call 23; refine hck.mono ?_; rintro e w1 ⟨p1, hb1⟩; rw [p1]; clear p1)
    go_ret
    exact ⟨⟨false, rfl, ⟨fun e => (by cases e), fun e => absurd (hq.symm.trans e.1) hq0⟩⟩, hb0.trans (hb1.mono hb0.size)⟩
end Go.Proofs.YtagfnjpjmmleiaaDoor

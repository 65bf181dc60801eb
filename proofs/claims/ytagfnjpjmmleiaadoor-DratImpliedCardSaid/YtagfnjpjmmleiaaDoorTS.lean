/- Drat: the law of DratImplied, walked. -/
import Derived.Test.YtagfnjpjmmleiaaDoorTR
set_option linter.unusedVariables false
set_option linter.unusedSimpArgs false
set_option autoImplicit false
set_option linter.unusedVariables false
set_option linter.unusedSimpArgs false
namespace Go.Proofs.YtagfnjpjmmleiaaDoor
open Go.Shelf Go.RowKit
theorem total_sum (cs : List Cl) : cs.length ≤ total cs cs.length ∧ ∀ j, j < cs.length → (cs.getD j default).zs.length ≤ total cs cs.length := total_len cs cs.length
theorem fairs_of_check {vars : Int} {cs : List Cl} (h : checkZ vars cs = 0) : ∃ V : Nat, vars = V ∧ V ≤ 200000 ∧ ∀ d ∈ cs.map Cl.zs, Lits (V + 1) d := by
  obtain ⟨V, h1, h2, _, _, h5⟩ := check_ok h
  refine ⟨V, h1, h2, fun d hd => ?_⟩
  obtain ⟨cl, h3, rfl⟩ := List.mem_map.1 hd
  obtain ⟨j, hj, rfl⟩ := List.getElem_of_mem h3
  have := h5 j hj
  rwa [List.getD_eq_getElem?_getD, List.getElem?_eq_getElem hj] at this
set_option maxHeartbeats 8000000 in
set_option maxRecDepth 1000000 in
theorem law4_walk (a : Option Addr) (n c : Nat) (cs : List Cl) (vars : Int) (la : Option Addr) (ln lc : Nat) (zl : List Int) (w : World) (hn : cs.length = n) (hlen : n ≤ 4611686018427387904) (hl : ∀ j, j < n → (cs.getD j default).zs.length ≤ 4611686018427387904) (hz : Rows' w a cs)
    (hln : zl.length = ln) (hl9 : ln ≤ 4611686018427387904) (hli : Ints w la zl) (ht : Tab w.heap.size w)
    (hal : ∀ W, Below w.heap.size w W → Calls Tryd.prog 8 #[] W fun e w' => e = .returned (.bool true) ∧ Below W.heap.size W w') :
    Calls Tryd.prog 4 #[.agg #[.int .i64 vars, .slice a n c], .slice la ln lc] w fun e w' => e = .returned (.bool true) ∧ Below w.heap.size w w' := by
  have hb0 := (Below.refl w.heap.size w).alloc (Nat.le_refl _) (.cells #[Value.int .i64 vars, .slice a n c] 24)
  have k0 : (w.alloc (.cells #[Value.int .i64 vars, .slice a n c] 24)).cell? ⟨w.heap.size, 0, none⟩ = some (.int .i64 vars) := (cell_new ..).trans rfl
  have k1 : (w.alloc (.cells #[Value.int .i64 vars, .slice a n c] 24)).cell? ⟨w.heap.size, 1, none⟩ = some (.slice a n c) := (cell_new ..).trans rfl
  have hal0 := hal _ hb0
  go_enter Tryd.func4, Tryd.ntmps4
  go_wp2_with (go_at_call 8; refine hal0.mono ?_; rintro e w1 ⟨p1, hb1⟩; rw [p1]; clear p1; have c0 := (hb1.cell (p := ⟨w.heap.size, 0, none⟩) (cellLt k0)).trans k0; have c1 := (hb1.cell (p := ⟨w.heap.size, 1, none⟩) (cellLt k1)).trans k1)
  have hbw1 := hb0.trans (hb1.mono hb0.size)
  clear k0 k1 hal0
  have hbg := big_walk a n c cs vars w1 hn hlen hl (hz.below hbw1)
  obtain ⟨B, hB⟩ : ∃ B, bigZ vars cs = B := ⟨_, rfl⟩
  rw [hB] at hbg
  cases B with
  | true =>
    go_wp2_with (go_at_call 9; refine hbg.mono ?_; rintro e w2 ⟨p1, hb2⟩; rw [p1]; clear p1)
    go_ret
    exact ⟨rfl, hbw1.trans (hb2.mono hbw1.size)⟩
  | false =>
    by_cases h3 : (300 : Int) < ln
    · go_wp2_with (go_at_call 9; refine hbg.mono ?_; rintro e w2 ⟨p1, hb2⟩; rw [p1]; clear p1)
      go_ret
      exact ⟨rfl, hbw1.trans (hb2.mono hbw1.size)⟩
    · have hB' : ¬ (6000 < total cs cs.length) ∧ ¬ ((3000 : Int) < vars) := by
        unfold bigZ at hB
        simp only [Bool.or_eq_false_iff, decide_eq_false_iff_not] at hB
        exact hB
      obtain ⟨t1, t2⟩ := total_sum cs
      have hl' : ∀ j, j < n → (cs.getD j default).zs.length ≤ 1000000000 := fun j hj => by have := t2 j (by omega); omega
      go_wp2_with (go_at_call 9; refine hbg.mono ?_; rintro e w2 ⟨p1, hb2⟩; rw [p1]; clear p1; have c0 := (hb2.cell (p := ⟨w.heap.size, 0, none⟩) (cellLt c0)).trans c0; have c1 := (hb2.cell (p := ⟨w.heap.size, 1, none⟩) (cellLt c1)).trans c1)
      have hbw2 := hbw1.trans (hb2.mono hbw1.size)
      have hck := check_walk a n c cs vars w2 hn hlen hl' (hz.below hbw2)
      obtain ⟨q, hq⟩ : ∃ q, checkZ vars cs = q := ⟨_, rfl⟩
      rw [hq] at hck
      have himp := fun W (hW : Below w.heap.size w W) => implied_walk a n c cs vars la ln lc zl W hn (by omega) hl' (hz.below hW) hln (by omega) (hli.below hW) (ht.grow hW)
      by_cases hq0 : q = 0
      · subst hq0
        obtain ⟨V, rfl, g1, g2⟩ := fairs_of_check hq
        go_wp2_with (go_at_call 15; refine hck.mono ?_; rintro e w3 ⟨p1, hb3⟩; rw [p1]; clear p1; have c0 := (hb3.cell (p := ⟨w.heap.size, 0, none⟩) (cellLt c0)).trans c0; have c1 := (hb3.cell (p := ⟨w.heap.size, 1, none⟩) (cellLt c1)).trans c1)
        have hbw3 := hbw2.trans (hb3.mono hbw2.size)
        have hfw := fair_walk la ln lc zl (V : Int) w3 hln (by omega) (by omega) (by omega) (hli.below hbw3)
        obtain ⟨fz, hfz⟩ : ∃ b, fairZ (V : Int) zl = b := ⟨_, rfl⟩
        rw [hfz] at hfw
        cases fz with
        | false =>
          go_wp2_with (go_at_call 16; refine hfw.mono ?_; rintro e w4 ⟨p1, p2⟩; rw [p1, p2]; clear p1 p2)
          go_wp2_with (go_at_call 18; refine (himp _ hbw3).mono ?_)
          rintro e w5 ⟨⟨b, rfl, hbi⟩, hb5⟩
          have hbf : b = false := by
            cases b with
            | false => rfl
            | true => have := (hbi.1 rfl).2.1; rw [hfz] at this; cases this
          subst hbf
          go_wp2
          go_ret
          exact ⟨rfl, hbw3.trans (hb5.mono hbw3.size)⟩
        | true =>
          have hfl := follows_walk a n c cs la ln lc zl V w3 w3 hn hlen hl' (hz.below hbw3) (Below.refl _ _) hln (by omega) (hli.below hbw3) (fair_lits hfz) (fun j hj => g2 _ (by rw [List.getD_eq_getElem?_getD, List.getElem?_eq_getElem (by omega)]; exact List.mem_map_of_mem (List.getElem_mem _))) (by omega)
          go_wp2_with (go_at_call 16; refine hfw.mono ?_; rintro e w4 ⟨p1, p2⟩; rw [p1, p2]; clear p1 p2)
          go_wp2_with (go_at_call 17; refine hfl.mono ?_)
          rintro e w4 ⟨b0, hF, rfl, hb4⟩
          have hb0' := fol_iff' g2 (fair_lits hfz) hF
          have hbw4 := hbw3.trans (hb4.mono hbw3.size)
          have c0 := (hb4.cell (p := ⟨w.heap.size, 0, none⟩) (cellLt c0)).trans c0
          have c1 := (hb4.cell (p := ⟨w.heap.size, 1, none⟩) (cellLt c1)).trans c1
          go_wp2_with (go_at_call 18; refine (himp _ hbw4).mono ?_)
          rintro e w5 ⟨⟨b, rfl, hbi⟩, hb5⟩
          have hbb : b = b0 := by
            have h : b = true ↔ b0 = true := by
              rw [hbi, hb0']
              exact ⟨fun h => h.2.2, fun h => ⟨hq, hfz, h⟩⟩
            cases b <;> cases b0 <;> simp_all
          subst hbb
          have hbe : (b == b) = true := by cases b <;> rfl
          go_wp2
          go_ret
          exact ⟨by first | rfl | (rw [hbe]; done) | (simp; done), hbw4.trans (hb5.mono hbw4.size)⟩
      · go_wp2_with (go_at_call 15; refine hck.mono ?_; rintro e w3 ⟨p1, hb3⟩; rw [p1]; clear p1; have c0 := (hb3.cell (p := ⟨w.heap.size, 0, none⟩) (cellLt c0)).trans c0; have c1 := (hb3.cell (p := ⟨w.heap.size, 1, none⟩) (cellLt c1)).trans c1)
        have hbw3 := hbw2.trans (hb3.mono hbw2.size)
        go_wp2_with (go_at_call 18; refine (himp _ hbw3).mono ?_)
        rintro e w5 ⟨⟨b, rfl, hbi⟩, hb5⟩
        have hbf : b = false := by
          cases b with
          | false => rfl
          | true => exact absurd (hq.symm.trans (hbi.1 rfl).1) hq0
        subst hbf
        go_wp2
        go_ret
        exact ⟨rfl, hbw3.trans (hb5.mono hbw3.size)⟩
end Go.Proofs.YtagfnjpjmmleiaaDoor

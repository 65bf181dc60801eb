/- Drat: the law of DratSound, walked. -/
import Derived.Test.YtagfnjpjmmleiaaDoorUE
import Derived.Test.YtagfnjpjmmleiaaDoorUF
import Derived.Test.YtagfnjpjmmleiaaDoorR
import Derived.Test.YtagfnjpjmmleiaaDoorTR
set_option linter.unusedVariables false
set_option linter.unusedSimpArgs false
set_option autoImplicit false
set_option linter.unusedVariables false
set_option linter.unusedSimpArgs false
namespace Go.Proofs.YtagfnjpjmmleiaaDoor
open Go.Shelf Go.RowKit
theorem total_sum2 (cs : List Cl) : cs.length ≤ total cs cs.length ∧ ∀ j, j < cs.length → (cs.getD j default).zs.length ≤ total cs cs.length := total_len cs cs.length
theorem long_sum {ls : List Ln} (h : longZ ls = false) : ls.length ≤ 3000 ∧ ∀ j, j < ls.length → (ls.getD j default).cl.zs.length ≤ 3000 := by
  unfold longZ at h
  have h := of_decide_eq_false h
  obtain ⟨h1, h2⟩ := total_len (ls.map Ln.cl) ls.length
  refine ⟨by omega, fun j hj => ?_⟩
  have := h2 j hj
  rw [List.getD_eq_getElem?_getD, List.getElem?_map] at this
  rw [List.getD_eq_getElem?_getD]
  cases e : ls[j]? with
  | none => rw [List.getElem?_eq_getElem hj] at e; cases e
  | some v => rw [e] at this; exact Nat.le_trans this (by omega)
set_option maxHeartbeats 16000000 in
set_option maxRecDepth 1000000 in
theorem law5_walk (a : Option Addr) (n c : Nat) (cs : List Cl) (vars : Int) (am : Option Addr) (nm cm : Nat) (ms : List Bool) (pa : Option Addr) (pn pc : Nat) (ls : List Ln) (w : World) (hn : cs.length = n) (hlen : n ≤ 4611686018427387904) (hl : ∀ j, j < n → (cs.getD j default).zs.length ≤ 4611686018427387904) (hz : Rows' w a cs)
    (hnm : ms.length = nm) (hnl : nm ≤ 4611686018427387904) (hms : Bools w am ms)
    (hpn : ls.length = pn) (hp9 : pn ≤ 1152921504606846976) (hpl : ∀ j, j < pn → (ls.getD j default).cl.zs.length ≤ 4611686018427387904) (hpz : Lines w pa ls) (ht : Tab w.heap.size w)
    (hal : ∀ W, Below w.heap.size w W → Calls Tryd.prog 8 #[] W fun e w' => e = .returned (.bool true) ∧ Below W.heap.size W w') :
    Calls Tryd.prog 5 #[.agg #[.int .i64 vars, .slice a n c], .slice am nm cm, .slice pa pn pc] w fun e w' => e = .returned (.bool true) ∧ Below w.heap.size w w' := by
  have hb0 := (Below.refl w.heap.size w).alloc (Nat.le_refl _) (.cells #[Value.int .i64 vars, .slice a n c] 24)
  have k0 : (w.alloc (.cells #[Value.int .i64 vars, .slice a n c] 24)).cell? ⟨w.heap.size, 0, none⟩ = some (.int .i64 vars) := (cell_new ..).trans rfl
  have k1 : (w.alloc (.cells #[Value.int .i64 vars, .slice a n c] 24)).cell? ⟨w.heap.size, 1, none⟩ = some (.slice a n c) := (cell_new ..).trans rfl
  have hal0 := hal _ hb0
  go_enter Tryd.func5, Tryd.ntmps5
  go_wp2_with (go_at_call 8; refine hal0.mono ?_; rintro e w1 ⟨p1, hb1⟩; rw [p1]; clear p1; have c0 := (hb1.cell (p := ⟨w.heap.size, 0, none⟩) (cellLt k0)).trans k0; have c1 := (hb1.cell (p := ⟨w.heap.size, 1, none⟩) (cellLt k1)).trans k1)
  have hbw1 := hb0.trans (hb1.mono hb0.size)
  clear k0 k1 hal0
  have hbg := big_walk a n c cs vars w1 hn hlen hl (hz.below hbw1)
  obtain ⟨B, hB⟩ : ∃ B, bigZ vars cs = B := ⟨_, rfl⟩
  rw [hB] at hbg
  cases B with
  | true =>
    go_wp2_with (go_at_call 9; refine hbg.mono ?_; rintro e w2 ⟨p1, hb2⟩; rw [p1]; clear p1)
    go_ret
    exact ⟨rfl, hbw1.trans (hb2.mono hbw1.size)⟩
  | false =>
    have hlg := fun W (hW : Below w.heap.size w W) => long_walk pa pn pc ls W hpn hp9 hpl (hpz.below hW)
    obtain ⟨L, hL⟩ : ∃ L, longZ ls = L := ⟨_, rfl⟩
    rw [hL] at hlg
    cases L with
    | true =>
      go_wp2_with (first | (go_at_call 9; refine hbg.mono ?_; rintro e w2 ⟨p1, hb2⟩; rw [p1]; clear p1; have hbw2 := hbw1.trans (hb2.mono hbw1.size)) | (go_at_call 10; refine (hlg _ hbw2).mono ?_; rintro e w3 ⟨p1, p2⟩; rw [p1, p2]; clear p1 p2))
      go_ret
      exact ⟨rfl, hbw2⟩
    | false =>
      obtain ⟨l1, l2⟩ := long_sum hL
      by_cases h3 : (300 : Int) < n
      · go_wp2_with (first | (go_at_call 9; refine hbg.mono ?_; rintro e w2 ⟨p1, hb2⟩; rw [p1]; clear p1; have hbw2 := hbw1.trans (hb2.mono hbw1.size); have c0 := (hb2.cell (p := ⟨w.heap.size, 0, none⟩) (cellLt c0)).trans c0; have c1 := (hb2.cell (p := ⟨w.heap.size, 1, none⟩) (cellLt c1)).trans c1) | (go_at_call 10; refine (hlg _ hbw2).mono ?_; rintro e w3 ⟨p1, p2⟩; rw [p1, p2]; clear p1 p2))
        go_ret
        exact ⟨rfl, hbw2⟩
      · have hB' : ¬ (6000 < total cs cs.length) ∧ ¬ ((3000 : Int) < vars) := by
          unfold bigZ at hB
          simp only [Bool.or_eq_false_iff, decide_eq_false_iff_not] at hB
          exact hB
        obtain ⟨t1, t2⟩ := total_sum2 cs
        have hl' : ∀ j, j < n → (cs.getD j default).zs.length ≤ 1000000000 := fun j hj => by have := t2 j (by omega); omega
        have hho := fun W (hW : Below w.heap.size w W) => holds_walk a am n c nm cm cs ms vars W hn hlen hl' (hz.below hW) hnm hnl (hms.below hW)
        obtain ⟨H, hH⟩ : ∃ H, holdsZ vars cs ms = H := ⟨_, rfl⟩
        rw [hH] at hho
        cases H with
        | false =>
          go_wp2_with (first | (go_at_call 9; refine hbg.mono ?_; rintro e w2 ⟨p1, hb2⟩; rw [p1]; clear p1; have hbw2 := hbw1.trans (hb2.mono hbw1.size); have c0 := (hb2.cell (p := ⟨w.heap.size, 0, none⟩) (cellLt c0)).trans c0; have c1 := (hb2.cell (p := ⟨w.heap.size, 1, none⟩) (cellLt c1)).trans c1) | (go_at_call 10; refine (hlg _ hbw2).mono ?_; rintro e w3 ⟨p1, p2⟩; rw [p1, p2]; clear p1 p2) | (go_at_call 19; refine (hho _ hbw2).mono ?_; rintro e w4 ⟨p1, hb4⟩; rw [p1]; clear p1))
          go_ret
          exact ⟨rfl, hbw2.trans (hb4.mono hbw2.size)⟩
        | true =>
          have hS := answer_sound hH (ls.map lnz)
          obtain ⟨A, hAe⟩ : ∃ A, answerZ vars (cs.map Cl.zs) (checkZ vars cs) (ls.map lnz) = A := ⟨_, rfl⟩
          have hck := fun W (hW : Below w.heap.size w W) => checkC_walk add_law a n c cs vars pa pn pc ls W hn (by omega) hl' (hz.below hW) hpn (by omega) (fun j hj => Nat.le_trans (l2 j (by omega)) (by omega)) (hpz.below hW) (fun v hv => ht v (hW.trans (hv.mono hW.size)))
          rw [hAe] at hS hck
          obtain ⟨at', er⟩ := A
          have hS : er ≠ 0 := hS
          have hSb : (er != 0) = true := by simpa using hS
          go_wp2_with (first | (go_at_call 9; refine hbg.mono ?_; rintro e w2 ⟨p1, hb2⟩; rw [p1]; clear p1; have hbw2 := hbw1.trans (hb2.mono hbw1.size); have c0 := (hb2.cell (p := ⟨w.heap.size, 0, none⟩) (cellLt c0)).trans c0; have c1 := (hb2.cell (p := ⟨w.heap.size, 1, none⟩) (cellLt c1)).trans c1) | (go_at_call 10; refine (hlg _ hbw2).mono ?_; rintro e w3 ⟨p1, p2⟩; rw [p1, p2]; clear p1 p2) | (go_at_call 19; refine (hho _ hbw2).mono ?_; rintro e w4 ⟨p1, hb4⟩; rw [p1]; clear p1; have hbw4 := hbw2.trans (hb4.mono hbw2.size); have c0 := (hb4.cell (p := ⟨w.heap.size, 0, none⟩) (cellLt c0)).trans c0; have c1 := (hb4.cell (p := ⟨w.heap.size, 1, none⟩) (cellLt c1)).trans c1) | (go_at_call 12; refine (hck _ hbw4).mono ?_; rintro e w5 ⟨p1, hb5⟩; rw [p1]; clear p1) | (go_at_call 14; refine (num_walk er _).mono ?_; rintro e w6 ⟨p1, p2⟩; rw [p1, p2]; clear p1 p2))
          go_ret
          exact ⟨by first | rfl | (show Ending.returned (Value.bool (er != 0)) = _; rw [hSb]), hbw4.trans (hb5.mono hbw4.size)⟩
end Go.Proofs.YtagfnjpjmmleiaaDoor

/- Sat: the law that Solve answers right (SatSolves), walked. -/
import Derived.Test.YtkpppmldbhgcgaaScKtoScZ
import Derived.Test.YtkpppmldbhgcgaaScN
import Derived.Test.YtkpppmldbhgcgaaPlTtoPlU
import Derived.Deep.RegionHeld3
set_option linter.unusedVariables false
set_option linter.unusedSimpArgs false
set_option autoImplicit false
set_option linter.unusedVariables false
set_option linter.unusedSimpArgs false
namespace Go.Proofs.Ytkpppmldbhgcgaa
open Go Go.Shelf Go.RowKit
/-- what the law asks for and what solving gives -/
theorem law_facts {V : Nat} {cs : List D.Cl} {budget : Int} (hck : D.checkZ (V : Int) cs = 0) (hV : V ≤ 60) (hn : cs.length ≤ 150) (hb : budget ≤ 200) : ∃ f ans, solveK f V (cs.map D.Cl.zs) budget = some ans ∧ RightZ (V : Int) (cs.map D.Cl.zs) ans ∧ ans.model.length ≤ 1000000 ∧ ans.proof.length ≤ 1000000 ∧ ∀ p ∈ ans.proof, p.2.length ≤ 1000000 := by
  have hfair : ∀ c ∈ cs.map D.Cl.zs, D.fairZ (V : Int) c = true := by
    rw [checkZ_eq] at hck
    unfold checkL at hck
    split at hck
    · cases hck
    · split at hck
      · cases hck
      · split at hck
        · rename_i h
          exact List.all_eq_true.1 h
        · cases hck
  obtain ⟨b, hbn⟩ : ∃ b : Nat, max 0 budget = (b : Int) := ⟨(max 0 budget).toNat, by omega⟩
  obtain ⟨ans, h1, h2, h3, h4, h5⟩ := solveK_ok (V := V) (b := b) (budget := budget) (by omega) hbn (by omega) (cs := cs.map D.Cl.zs) (by rw [List.length_map]; omega) hfair (Nat.le_refl _)
  exact ⟨_, ans, h1, h2, by omega, by omega, fun p hp => by have := h5 p hp; omega⟩
theorem cell_b {w w' : World} {b m : Nat} {u : Value} (hb : Below w.heap.size w w') (h : w.cell? ⟨b, m, none⟩ = some u) : w'.cell? ⟨b, m, none⟩ = some u := (hb.cell (p := ⟨b, m, none⟩) (D.cellLt h)).trans h
/-- what Solve gave, as rows -/
theorem solve_out {w w' : World} {ans : Ans} {e : Ending} (h : SolveOut w ans e w') : ∃ (am : Option Addr) (cm : Nat) (pa : Option Addr) (pc : Nat) (lns : List D.Ln), e = .returned (.tuple #[.agg #[.int .i64 ans.what, .slice am ans.model.length cm, .slice pa ans.proof.length pc], .int .i64 0]) ∧ Below w.heap.size w w' ∧ D.Bools w' am ans.model ∧ lns.map D.lnz = ans.proof ∧ D.Lines w' pa lns := by
  obtain ⟨mv, pv, p1, p2, p3, p4⟩ := h
  obtain ⟨am, cm, e1, _, hB, _⟩ := bools_of p3 rfl
  obtain ⟨pa, pc, lns, e2, _, hlz, hL⟩ := lines_of p4
  subst e1 e2
  exact ⟨am, cm, pa, pc, lns, p1, p2, hB, hlz, hL⟩
theorem below_drew {n : Nat} {w w' : World} (h : Below n w w') : Below n w w'.drew := ⟨h.os, h.tape, h.output, h.size, h.block⟩
/-- right, of an answer that Solve gave -/
theorem right_of {V N : Nat} {av : Option Addr} {cvp : Nat} {cs : List D.Cl} {w w5 : World} {ans : Ans} (hN : cs.length = N) (hN2 : N ≤ 1000000) (hl : ∀ j, j < N → (cs.getD j default).zs.length ≤ 1000000) (hck : D.checkZ (V : Int) cs = 0)
    (ha3 : ans.model.length ≤ 1000000) (ha4 : ans.proof.length ≤ 1000000) (ha5 : ∀ p ∈ ans.proof, p.2.length ≤ 1000000) (ha2 : RightZ (V : Int) (cs.map D.Cl.zs) ans)
    {am : Option Addr} {cm : Nat} {pa : Option Addr} {pc : Nat} {lns : List D.Ln} (h1 : Below w.heap.size w w5) (h2 : D.Bools w5 am ans.model) (h3 : lns.map D.lnz = ans.proof) (h4 : D.Lines w5 pa lns) (h5 : D.Rows' w5 av cs) :
    Calls Try.prog 13 #[.agg #[.int .i64 (V : Int), .slice av N cvp], .agg #[.int .i64 ans.what, .slice am ans.model.length cm, .slice pa ans.proof.length pc]] w5 (AlOut w) := by
  have hll : lns.length = ans.proof.length := by rw [← h3, List.length_map]
  have := right_walk av N cvp cs (V : Int) w5 hN hN2 hl h5 hck ans am ans.model.length cm rfl ha3 h2 pa ans.proof.length pc lns h3 hll ha4 h4 (fun j hj => by
    have hm : (lns.getD j default).cl.zs ∈ ans.proof.map (fun p => p.2) := by
      rw [← h3, List.map_map, List.getD_eq_getElem?_getD, List.getElem?_eq_getElem (by omega)]
      exact List.mem_map_of_mem (f := (fun p : Bool × List Int => p.2) ∘ D.lnz) (List.getElem_mem _)
    obtain ⟨p, hp, e⟩ := List.mem_map.1 hm
    rw [← e]
    exact ha5 p hp) ha2
  refine this.mono ?_
  rintro e w6 ⟨p1, p2⟩
  exact ⟨p1, h1.trans (p2.mono h1.size)⟩
set_option maxHeartbeats 16000000 in
set_option maxRecDepth 1000000 in
theorem solves_walk (a : Option Addr) (n c : Nat) (cs : List D.Cl) (vars budget : Int) (w : World) (hn : cs.length = n) (hlen : n ≤ 4611686018427387904) (hl : ∀ j, j < n → (cs.getD j default).zs.length ≤ 4611686018427387904) (hz : D.Rows' w a cs) :
    Calls Try.prog 3 #[.agg #[.int .i64 vars, .slice a n c], .int .i64 budget] w (AlOut w) := by
  have hb0 := (Below.refl w.heap.size w).alloc (Nat.le_refl _) (.cells #[Value.int .i64 vars, .slice a n c] 24)
  have k0 : (w.alloc (.cells #[Value.int .i64 vars, .slice a n c] 24)).cell? ⟨w.heap.size, 0, none⟩ = some (.int .i64 vars) := (cell_new ..).trans rfl
  have k1 : (w.alloc (.cells #[Value.int .i64 vars, .slice a n c] 24)).cell? ⟨w.heap.size, 1, none⟩ = some (.slice a n c) := (cell_new ..).trans rfl
  have hal0 := alive_walk (w.alloc (.cells #[Value.int .i64 vars, .slice a n c] 24))
  go_enter Try.func3, Try.ntmps3
  go_wp2_with (go_at_call 8; refine hal0.mono ?_; rintro e w1 ⟨p1, hb1⟩; rw [p1]; clear p1; have c0 := cell_b hb1 k0; have c1 := cell_b hb1 k1)
  have hbw1 := hb0.trans (hb1.mono hb0.size)
  clear k0 k1 hal0
  have hbg := D.big_walk a n c cs vars w1 hn hlen hl (hz.below hbw1)
  obtain ⟨B, hB⟩ : ∃ B, D.bigZ vars cs = B := ⟨_, rfl⟩
  rw [hB] at hbg
  have hbg2 := hbg.mono (R' := fun e w2 => e = .returned (.bool B) ∧ Below w.heap.size w w2 ∧ w2.cell? ⟨w.heap.size, 0, none⟩ = some (.int .i64 vars) ∧ w2.cell? ⟨w.heap.size, 1, none⟩ = some (.slice a n c) ∧ D.Rows' w2 a cs) (by
    rintro e w2 ⟨p1, hb2⟩
    have h2 := hbw1.trans (hb2.mono hbw1.size)
    exact ⟨p1, h2, cell_b hb2 c0, cell_b hb2 c1, hz.below h2⟩)
  clear hbg c0 c1 hz hl hlen hb0 hbw1 hb1
  cases B with
  | true =>
    go_wp2_with (go_at_call 9; refine hbg2.mono ?_; rintro e w2 ⟨p1, hb2, c0, c1, hz2⟩; rw [p1]; clear p1)
    go_ret
    exact ⟨rfl, hb2⟩
  | false =>
  by_cases h150 : (150 : Int) < n
  · go_wp2_with (go_at_call 9; refine hbg2.mono ?_; rintro e w2 ⟨p1, hb2, c0, c1, hz2⟩; rw [p1]; clear p1)
    go_ret
    exact ⟨rfl, hb2⟩
  by_cases h60 : 60 < vars
  · go_wp2_with (go_at_call 9; refine hbg2.mono ?_; rintro e w2 ⟨p1, hb2, c0, c1, hz2⟩; rw [p1]; clear p1)
    go_ret
    exact ⟨rfl, hb2⟩
  by_cases h200 : 200 < budget
  · go_wp2_with (go_at_call 9; refine hbg2.mono ?_; rintro e w2 ⟨p1, hb2, c0, c1, hz2⟩; rw [p1]; clear p1)
    go_ret
    exact ⟨rfl, hb2⟩
  have hB' : ¬ (6000 < D.total cs cs.length) := by
    unfold D.bigZ at hB
    simp only [Bool.or_eq_false_iff, decide_eq_false_iff_not] at hB
    exact hB.1
  have hlj : ∀ j, j < n → (cs.getD j default).zs.length ≤ 6000 := fun j hj => by
    have := (D.total_len cs cs.length).2 j (by omega)
    omega
  have hnum := fun x w => D.num_walk x w
  have hchk := fun (W : World) (hW : D.Rows' W a cs) => D.check_walk a n c cs vars W hn (by omega) (fun j hj => by have := hlj j hj; omega) hW
  obtain ⟨q, hq⟩ : ∃ q, D.checkZ vars cs = q := ⟨_, rfl⟩
  by_cases h0 : q = 0
  · subst h0
    obtain ⟨V, rfl, hV1, _, _, hV4⟩ := D.check_ok hq
    obtain ⟨f, ans, hsol, ha2, ha3, ha4, ha5⟩ := law_facts (budget := budget) hq (by omega) (by omega) (by omega)
    have hsw := fun (W : World) (hW : D.Rows' W a cs) => (solve_walk a n c cs V budget W hn (by omega) (fun j hj => by have := hlj j hj; omega) (fun j hj x hx => by have := hV4 j (by omega) x hx; omega) hW hq (by omega) hsol).mono (R' := fun e w' => ∃ (am : Option Addr) (cm : Nat) (pa : Option Addr) (pc : Nat) (lns : List D.Ln), e = .returned (.tuple #[.agg #[.int .i64 ans.what, .slice am ans.model.length cm, .slice pa ans.proof.length pc], .int .i64 0]) ∧ Below W.heap.size W w' ∧ D.Bools w' am ans.model ∧ lns.map D.lnz = ans.proof ∧ D.Lines w' pa lns) (fun e w' h => solve_out h)
    have hri := fun {w5 : World} {am : Option Addr} {cm : Nat} {pa : Option Addr} {pc : Nat} {lns : List D.Ln} (h1 : Below w.heap.size w w5) (h2 : D.Bools w5 am ans.model) (h3 : lns.map D.lnz = ans.proof) (h4 : D.Lines w5 pa lns) (h5 : D.Rows' w5 a cs) => right_of (V := V) (cvp := c) (cm := cm) (pc := pc) hn (by omega) (fun j hj => by have := hlj j hj; omega) hq ha3 ha4 ha5 ha2 h1 h2 h3 h4 h5
    rw [hq] at hchk
    clear hlj hB' hB hq hV4 hsol ha2 ha5
    obtain ⟨what, hwhat⟩ : ∃ x, ans.what = x := ⟨_, rfl⟩
    obtain ⟨ml, hml⟩ : ∃ x, ans.model.length = x := ⟨_, rfl⟩
    obtain ⟨pl, hpl⟩ : ∃ x, ans.proof.length = x := ⟨_, rfl⟩
    rw [hwhat, hml, hpl] at hsw hri
    go_wp2_with (first | (go_at_call 9; refine hbg2.mono ?_; rintro e w2 ⟨p1, hb2, c0, c1, hz2⟩; rw [p1]; clear p1) | (go_at_call 10; refine (hsw _ hz2).mono ?_; rintro e w3 ⟨am, cm, pa, pc, lns, p1, hb3, hB3, hlz, hL3⟩; rw [p1]; clear p1; replace c0 := cell_b hb3 c0; replace c1 := cell_b hb3 c1; replace hz2 := hz2.below hb3; replace hb3 := hb2.trans (hb3.mono hb2.size); have s3 := D.cellLt c0; have hbx := (Below.refl w3.heap.size w3).alloc (Nat.le_refl _) (.cells #[.int .i64 what, .slice am ml cm, .slice pa pl pc] 30); have g0 := cell_b hbx c0; have g1 := cell_b hbx c1; replace hz2 := hz2.below hbx; replace hB3 := hB3.below hbx; replace hL3 := hL3.below hbx; replace hbx := hb3.trans (hbx.mono hb3.size)) | (go_at_call 12; refine (hnum _ _).mono ?_; rintro e w6 ⟨p1, p2⟩; rw [p1, p2]; clear p1 p2) | (go_at_call 11; refine (hchk _ hz2).mono ?_; rintro e w4 ⟨p1, hb4⟩; rw [p1]; clear p1; replace g0 := cell_b hb4 g0; replace g1 := cell_b hb4 g1; have x0 := cell_b hb4 ((cell_new ..).trans rfl : (w3.alloc (.cells #[.int .i64 what, .slice am ml cm, .slice pa pl pc] 30)).cell? ⟨w3.heap.size, 0, none⟩ = some (.int .i64 what)); have x1 := cell_b hb4 ((cell_new ..).trans rfl : (w3.alloc (.cells #[.int .i64 what, .slice am ml cm, .slice pa pl pc] 30)).cell? ⟨w3.heap.size, 1, none⟩ = some (.slice am ml cm)); have x2 := cell_b hb4 ((cell_new ..).trans rfl : (w3.alloc (.cells #[.int .i64 what, .slice am ml cm, .slice pa pl pc] 30)).cell? ⟨w3.heap.size, 2, none⟩ = some (.slice pa pl pc)); replace hz2 := hz2.below hb4; replace hB3 := hB3.below hb4; replace hL3 := hL3.below hb4; replace hbx := hbx.trans (hb4.mono hbx.size)) | (go_at_call 13; refine (hri hbx hB3 hlz hL3 hz2).mono ?_; rintro e w7 ⟨p1, p2⟩; rw [p1]; clear p1))
    go_ret
    exact ⟨rfl, p2⟩
  · have hsb := fun (W : World) (hW : D.Rows' W a cs) => solve_bad a n c cs vars budget W hn (by omega) (fun j hj => by have := hlj j hj; omega) hW (by rw [hq]; exact h0)
    rw [hq] at hsb hchk
    have hq0 : (q != 0) = true := by simpa using h0
    clear hlj hB' hB hq
    go_wp2_with (first | (go_at_call 9; refine hbg2.mono ?_; rintro e w2 ⟨p1, hb2, c0, c1, hz2⟩; rw [p1]; clear p1) | (go_at_call 10; refine (hsb _ hz2).mono ?_; rintro e w3 ⟨p1, hb3⟩; rw [p1]; clear p1; replace c0 := cell_b hb3 c0; replace c1 := cell_b hb3 c1; replace hz2 := hz2.below hb3; replace hb3 := hb2.trans (hb3.mono hb2.size); have s3 := D.cellLt c0; have hbx := (Below.refl w3.heap.size w3).alloc (Nat.le_refl _) (.cells #[.int .i64 0, .slice none 0 0, .slice none 0 0] 30); have g0 := cell_b hbx c0; have g1 := cell_b hbx c1; replace hz2 := hz2.below hbx; replace hbx := hb3.trans (hbx.mono hb3.size)) | (go_at_call 12; refine (hnum _ _).mono ?_; rintro e w6 ⟨p1, p2⟩; rw [p1, p2]; clear p1 p2) | (go_at_call 11; refine (hchk _ hz2).mono ?_; rintro e w4 ⟨p1, hb4⟩; rw [p1]; clear p1; replace g0 := cell_b hb4 g0; replace g1 := cell_b hb4 g1; have g2 := cell_b hb4 ((cell_new ..).trans rfl : (w3.alloc (.cells #[.int .i64 0, .slice none 0 0, .slice none 0 0] 30)).cell? ⟨w3.heap.size, 0, none⟩ = some (.int .i64 0)); replace hz2 := hz2.below hb4; replace hbx := hbx.trans (hb4.mono hbx.size)))
    go_region_held3 (fun w' => w'.cell? ⟨w.heap.size, 0, none⟩ = some (.int .i64 vars) ∧ w'.cell? ⟨w.heap.size, 1, none⟩ = some (.slice a n c) ∧ w'.cell? ⟨w3.heap.size, 0, none⟩ = some (.int .i64 0)) (first | exact ⟨j0, j1, j2⟩ | exact hHeld | exact ⟨g0, g1, g2⟩) (first | (go_at_call 12; refine (hnum _ _).mono ?_; rintro e w6 ⟨p1, p2⟩; rw [p1, p2]; clear p1 p2) | (go_at_call 11; refine (hchk w4.drew hz2).mono ?_; rintro e w7 ⟨p1, hb7⟩; rw [p1]; clear p1; have j0 := cell_b hb7 g0; have j1 := cell_b hb7 g1; have j2 := cell_b hb7 g2; replace hbx := (below_drew hbx).trans (hb7.mono hbx.size)))
    go_wp2
    go_ret
    exact ⟨rfl, hbx⟩
end Go.Proofs.Ytkpppmldbhgcgaa

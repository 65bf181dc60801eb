/- Sat: the law that Solve answers right (SatSolves), walked. -/
import Derived.Test.YtkpppmldbhgcgaaScKtoScZ
import Derived.Test.YtkpppmldbhgcgaaScN
import Derived.Test.YtkpppmldbhgcgaaPlTtoPlU
import Derived.Deep.RegionHeld3
import Derived.WideKeyArgs
import Derived.Deep.Matrix
import Derived.Deep.SlicePairs
import Derived.Deep.Grids
set_option linter.unusedVariables false
set_option linter.unusedSimpArgs false
set_option autoImplicit false
set_option linter.unusedVariables false
set_option linter.unusedSimpArgs false
namespace Go.Proofs.Ytkpppmldbhgcgaa
open Go Go.Shelf Go.RowKit
/-- what the law asks for and what solving gives -/
theorem law_facts {V : Nat} {cs : List D.Cl} {budget : Int} (hck : D.checkZ (V : Int) cs = 0) (hV : V ≤ 60) (hn : cs.length ≤ 150) (hb : budget ≤ 200) : ∃ f ans, solveK f V (cs.map D.Cl.zs) budget = some ans ∧ RightZ (V : Int) (cs.map D.Cl.zs) ans ∧ ans.model.length ≤ 1000000 ∧ ans.proof.length ≤ 1000000 ∧ ∀ p ∈ ans.proof, p.2.length ≤ 1000000 := by
  have hfair : ∀ c ∈ cs.map D.Cl.zs, D.fairZ (V : Int) c = true := by
    rw [checkZ_eq] at hck
    unfold checkL at hck
    split at hck
    · cases hck
    · split at hck
      · cases hck
      · split at hck
        · rename_i h
          exact List.all_eq_true.1 h
        · cases hck
  obtain ⟨b, hbn⟩ : ∃ b : Nat, max 0 budget = (b : Int) := ⟨(max 0 budget).toNat, by omega⟩
  obtain ⟨ans, h1, h2, h3, h4, h5⟩ := solveK_ok (V := V) (b := b) (budget := budget) (by omega) hbn (by omega) (cs := cs.map D.Cl.zs) (by rw [List.length_map]; omega) hfair (Nat.le_refl _)
  exact ⟨_, ans, h1, h2, by omega, by omega, fun p hp => by have := h5 p hp; omega⟩
theorem cell_b {w w' : World} {b m : Nat} {u : Value} (hb : Below w.heap.size w w') (h : w.cell? ⟨b, m, none⟩ = some u) : w'.cell? ⟨b, m, none⟩ = some u := (hb.cell (p := ⟨b, m, none⟩) (D.cellLt h)).trans h
/-- what Solve gave, as rows -/
theorem solve_out {w w' : World} {ans : Ans} {e : Ending} (h : SolveOut w ans e w') : ∃ (am : Option Addr) (cm : Nat) (pa : Option Addr) (pc : Nat) (lns : List D.Ln), e = .returned (.tuple #[.agg #[.int .i64 ans.what, .slice am ans.model.length cm, .slice pa ans.proof.length pc], .int .i64 0]) ∧ Below w.heap.size w w' ∧ D.Bools w' am ans.model ∧ lns.map D.lnz = ans.proof ∧ D.Lines w' pa lns := by
  obtain ⟨mv, pv, p1, p2, p3, p4⟩ := h
  obtain ⟨am, cm, e1, _, hB, _⟩ := bools_of p3 rfl
  obtain ⟨pa, pc, lns, e2, _, hlz, hL⟩ := lines_of p4
  subst e1 e2
  exact ⟨am, cm, pa, pc, lns, p1, p2, hB, hlz, hL⟩
theorem below_drew {n : Nat} {w w' : World} (h : Below n w w') : Below n w w'.drew := ⟨h.os, h.tape, h.output, h.size, h.block⟩
/-- right, of an answer that Solve gave -/
theorem right_of {V N : Nat} {av : Option Addr} {cvp : Nat} {cs : List D.Cl} {w w5 : World} {ans : Ans} (hN : cs.length = N) (hN2 : N ≤ 1000000) (hl : ∀ j, j < N → (cs.getD j default).zs.length ≤ 1000000) (hck : D.checkZ (V : Int) cs = 0)
    (ha3 : ans.model.length ≤ 1000000) (ha4 : ans.proof.length ≤ 1000000) (ha5 : ∀ p ∈ ans.proof, p.2.length ≤ 1000000) (ha2 : RightZ (V : Int) (cs.map D.Cl.zs) ans)
    {am : Option Addr} {cm : Nat} {pa : Option Addr} {pc : Nat} {lns : List D.Ln} (h1 : Below w.heap.size w w5) (h2 : D.Bools w5 am ans.model) (h3 : lns.map D.lnz = ans.proof) (h4 : D.Lines w5 pa lns) (h5 : D.Rows' w5 av cs) :
    Calls Try.prog 13 #[.agg #[.int .i64 (V : Int), .slice av N cvp], .agg #[.int .i64 ans.what, .slice am ans.model.length cm, .slice pa ans.proof.length pc]] w5 (AlOut w) := by
  have hll : lns.length = ans.proof.length := by rw [← h3, List.length_map]
  have := right_walk av N cvp cs (V : Int) w5 hN hN2 hl h5 hck ans am ans.model.length cm rfl ha3 h2 pa ans.proof.length pc lns h3 hll ha4 h4 (fun j hj => by
    have hm : (lns.getD j default).cl.zs ∈ ans.proof.map (fun p => p.2) := by
      rw [← h3, List.map_map, List.getD_eq_getElem?_getD, List.getElem?_eq_getElem (by omega)]
      exact List.mem_map_of_mem (f := (fun p : Bool × List Int => p.2) ∘ D.lnz) (List.getElem_mem _)
    obtain ⟨p, hp, e⟩ := List.mem_map.1 hm
    rw [← e]
    exact ha5 p hp) ha2
  refine this.mono ?_
  rintro e w6 ⟨p1, p2⟩
  exact ⟨p1, h1.trans (p2.mono h1.size)⟩
set_option maxHeartbeats 16000000 in
set_option maxRecDepth 1000000 in
theorem solves_walk (a : Option Addr) (n c : Nat) (cs : List D.Cl) (vars budget : Int) (w : World) (hn : cs.length = n) (hlen : n ≤ 4611686018427387904) (hl : ∀ j, j < n → (cs.getD j default).zs.length ≤ 4611686018427387904) (hz : D.Rows' w a cs) :
    Calls Try.prog 3 #[.agg #[.int .i64 vars, .slice a n c], .int .i64 budget] w (AlOut w) := by
  have hb0 := (Below.refl w.heap.size w).alloc (Nat.le_refl _) (.cells #[Value.int .i64 vars, .slice a n c] 24)
  have k0 : (w.alloc (.cells #[Value.int .i64 vars, .slice a n c] 24)).cell? ⟨w.heap.size, 0, none⟩ = some (.int .i64 vars) := (cell_new ..).trans rfl
  have k1 : (w.alloc (.cells #[Value.int .i64 vars, .slice a n c] 24)).cell? ⟨w.heap.size, 1, none⟩ = some (.slice a n c) := (cell_new ..).trans rfl
  have hal0 := alive_walk (w.alloc (.cells #[Value.int .i64 vars, .slice a n c] 24))
  go_enter Try.func3, Try.ntmps3
  go_wp2_with (go_at_call 8; refine hal0.mono ?_; rintro e w1 ⟨p1, hb1⟩; rw [p1]; clear p1; have c0 := cell_b hb1 k0; have c1 := cell_b hb1 k1)
  have hbw1 := hb0.trans (hb1.mono hb0.size)
  clear k0 k1 hal0
  have hbg := D.big_walk a n c cs vars w1 hn hlen hl (hz.below hbw1)
  obtain ⟨B, hB⟩ : ∃ B, D.bigZ vars cs = B := ⟨_, rfl⟩
  rw [hB] at hbg
  have hbg2 := hbg.mono (R' := fun e w2 => e = .returned (.bool B) ∧ Below w.heap.size w w2 ∧ w2.cell? ⟨w.heap.size, 0, none⟩ = some (.int .i64 vars) ∧ w2.cell? ⟨w.heap.size, 1, none⟩ = some (.slice a n c) ∧ D.Rows' w2 a cs) (by
    rintro e w2 ⟨p1, hb2⟩
    have h2 := hbw1.trans (hb2.mono hbw1.size)
    exact ⟨p1, h2, cell_b hb2 c0, cell_b hb2 c1, hz.below h2⟩)
  clear hbg c0 c1 hz hl hlen hb0 hbw1 hb1
  cases B with
  | true =>
    go_wp2_with (go_at_call 9; refine hbg2.mono ?_; rintro e w2 ⟨p1, hb2, c0, c1, hz2⟩; rw [p1]; clear p1)
    go_ret
    exact ⟨rfl, hb2⟩
  | false =>
  by_cases h150 : (150 : Int) < n
  · go_wp2_with (go_at_call 9; refine hbg2.mono ?_; rintro e w2 ⟨p1, hb2, c0, c1, hz2⟩; rw [p1]; clear p1)
    go_ret
    exact ⟨rfl, hb2⟩
  by_cases h60 : 60 < vars
  · go_wp2_with (go_at_call 9; refine hbg2.mono ?_; rintro e w2 ⟨p1, hb2, c0, c1, hz2⟩; rw [p1]; clear p1)
    go_ret
    exact ⟨rfl, hb2⟩
  by_cases h200 : 200 < budget
  · go_wp2_with (go_at_call 9; refine hbg2.mono ?_; rintro e w2 ⟨p1, hb2, c0, c1, hz2⟩; rw [p1]; clear p1)
    go_ret
    exact ⟨rfl, hb2⟩
  have hB' : ¬ (6000 < D.total cs cs.length) := by
    unfold D.bigZ at hB
    simp only [Bool.or_eq_false_iff, decide_eq_false_iff_not] at hB
    exact hB.1
  have hlj : ∀ j, j < n → (cs.getD j default).zs.length ≤ 6000 := fun j hj => by
    have := (D.total_len cs cs.length).2 j (by omega)
    omega
  have hnum := fun x w => D.num_walk x w
  have hchk := fun (W : World) (hW : D.Rows' W a cs) => D.check_walk a n c cs vars W hn (by omega) (fun j hj => by have := hlj j hj; omega) hW
  obtain ⟨q, hq⟩ : ∃ q, D.checkZ vars cs = q := ⟨_, rfl⟩
  by_cases h0 : q = 0
  · subst h0
    obtain ⟨V, rfl, hV1, _, _, hV4⟩ := D.check_ok hq
    obtain ⟨f, ans, hsol, ha2, ha3, ha4, ha5⟩ := law_facts (budget := budget) hq (by omega) (by omega) (by omega)
    have hsw := fun (W : World) (hW : D.Rows' W a cs) => (solve_walk a n c cs V budget W hn (by omega) (fun j hj => by have := hlj j hj; omega) (fun j hj x hx => by have := hV4 j (by omega) x hx; omega) hW hq (by omega) hsol).mono (R' := fun e w' => ∃ (am : Option Addr) (cm : Nat) (pa : Option Addr) (pc : Nat) (lns : List D.Ln), e = .returned (.tuple #[.agg #[.int .i64 ans.what, .slice am ans.model.length cm, .slice pa ans.proof.length pc], .int .i64 0]) ∧ Below W.heap.size W w' ∧ D.Bools w' am ans.model ∧ lns.map D.lnz = ans.proof ∧ D.Lines w' pa lns) (fun e w' h => solve_out h)
    have hri := fun {w5 : World} {am : Option Addr} {cm : Nat} {pa : Option Addr} {pc : Nat} {lns : List D.Ln} (h1 : Below w.heap.size w w5) (h2 : D.Bools w5 am ans.model) (h3 : lns.map D.lnz = ans.proof) (h4 : D.Lines w5 pa lns) (h5 : D.Rows' w5 a cs) => right_of (V := V) (cvp := c) (cm := cm) (pc := pc) hn (by omega) (fun j hj => by have := hlj j hj; omega) hq ha3 ha4 ha5 ha2 h1 h2 h3 h4 h5
    rw [hq] at hchk
    clear hlj hB' hB hq hV4 hsol ha2 ha5
    obtain ⟨what, hwhat⟩ : ∃ x, ans.what = x := ⟨_, rfl⟩
    obtain ⟨ml, hml⟩ : ∃ x, ans.model.length = x := ⟨_, rfl⟩
    obtain ⟨pl, hpl⟩ : ∃ x, ans.proof.length = x := ⟨_, rfl⟩
    rw [hwhat, hml, hpl] at hsw hri
    go_wp2_with (first | (go_at_call 9; refine hbg2.mono ?_; rintro e w2 ⟨p1, hb2, c0, c1, hz2⟩; rw [p1]; clear p1) | (go_at_call 10; refine (hsw _ hz2).mono ?_; rintro e w3 ⟨am, cm, pa, pc, lns, p1, hb3, hB3, hlz, hL3⟩; rw [p1]; clear p1; replace c0 := cell_b hb3 c0; replace c1 := cell_b hb3 c1; replace hz2 := hz2.below hb3; replace hb3 := hb2.trans (hb3.mono hb2.size); have s3 := D.cellLt c0; have hbx := (Below.refl w3.heap.size w3).alloc (Nat.le_refl _) (.cells #[.int .i64 what, .slice am ml cm, .slice pa pl pc] 30); have g0 := cell_b hbx c0; have g1 := cell_b hbx c1; replace hz2 := hz2.below hbx; replace hB3 := hB3.below hbx; replace hL3 := hL3.below hbx; replace hbx := hb3.trans (hbx.mono hb3.size)) | (go_at_call 12; refine (hnum _ _).mono ?_; rintro e w6 ⟨p1, p2⟩; rw [p1, p2]; clear p1 p2) | (go_at_call 11; refine (hchk _ hz2).mono ?_; rintro e w4 ⟨p1, hb4⟩; rw [p1]; clear p1; replace g0 := cell_b hb4 g0; replace g1 := cell_b hb4 g1; have x0 := cell_b hb4 ((cell_new ..).trans rfl : (w3.alloc (.cells #[.int .i64 what, .slice am ml cm, .slice pa pl pc] 30)).cell? ⟨w3.heap.size, 0, none⟩ = some (.int .i64 what)); have x1 := cell_b hb4 ((cell_new ..).trans rfl : (w3.alloc (.cells #[.int .i64 what, .slice am ml cm, .slice pa pl pc] 30)).cell? ⟨w3.heap.size, 1, none⟩ = some (.slice am ml cm)); have x2 := cell_b hb4 ((cell_new ..).trans rfl : (w3.alloc (.cells #[.int .i64 what, .slice am ml cm, .slice pa pl pc] 30)).cell? ⟨w3.heap.size, 2, none⟩ = some (.slice pa pl pc)); replace hz2 := hz2.below hb4; replace hB3 := hB3.below hb4; replace hL3 := hL3.below hb4; replace hbx := hbx.trans (hb4.mono hbx.size)) | (go_at_call 13; refine (hri hbx hB3 hlz hL3 hz2).mono ?_; rintro e w7 ⟨p1, p2⟩; rw [p1]; clear p1))
    go_ret
    exact ⟨rfl, p2⟩
  · have hsb := fun (W : World) (hW : D.Rows' W a cs) => solve_bad a n c cs vars budget W hn (by omega) (fun j hj => by have := hlj j hj; omega) hW (by rw [hq]; exact h0)
    rw [hq] at hsb hchk
    have hq0 : (q != 0) = true := by simpa using h0
    clear hlj hB' hB hq
    go_wp2_with (first | (go_at_call 9; refine hbg2.mono ?_; rintro e w2 ⟨p1, hb2, c0, c1, hz2⟩; rw [p1]; clear p1) | (go_at_call 10; refine (hsb _ hz2).mono ?_; rintro e w3 ⟨p1, hb3⟩; rw [p1]; clear p1; replace c0 := cell_b hb3 c0; replace c1 := cell_b hb3 c1; replace hz2 := hz2.below hb3; replace hb3 := hb2.trans (hb3.mono hb2.size); have s3 := D.cellLt c0; have hbx := (Below.refl w3.heap.size w3).alloc (Nat.le_refl _) (.cells #[.int .i64 0, .slice none 0 0, .slice none 0 0] 30); have g0 := cell_b hbx c0; have g1 := cell_b hbx c1; replace hz2 := hz2.below hbx; replace hbx := hb3.trans (hbx.mono hb3.size)) | (go_at_call 12; refine (hnum _ _).mono ?_; rintro e w6 ⟨p1, p2⟩; rw [p1, p2]; clear p1 p2) | (go_at_call 11; refine (hchk _ hz2).mono ?_; rintro e w4 ⟨p1, hb4⟩; rw [p1]; clear p1; replace g0 := cell_b hb4 g0; replace g1 := cell_b hb4 g1; have g2 := cell_b hb4 ((cell_new ..).trans rfl : (w3.alloc (.cells #[.int .i64 0, .slice none 0 0, .slice none 0 0] 30)).cell? ⟨w3.heap.size, 0, none⟩ = some (.int .i64 0)); replace hz2 := hz2.below hb4; replace hbx := hbx.trans (hb4.mono hbx.size)))
    go_region_held3 (fun w' => w'.cell? ⟨w.heap.size, 0, none⟩ = some (.int .i64 vars) ∧ w'.cell? ⟨w.heap.size, 1, none⟩ = some (.slice a n c) ∧ w'.cell? ⟨w3.heap.size, 0, none⟩ = some (.int .i64 0)) (first | exact ⟨j0, j1, j2⟩ | exact hHeld | exact ⟨g0, g1, g2⟩) (first | (go_at_call 12; refine (hnum _ _).mono ?_; rintro e w6 ⟨p1, p2⟩; rw [p1, p2]; clear p1 p2) | (go_at_call 11; refine (hchk w4.drew hz2).mono ?_; rintro e w7 ⟨p1, hb7⟩; rw [p1]; clear p1; have j0 := cell_b hb7 g0; have j1 := cell_b hb7 g1; have j2 := cell_b hb7 g2; replace hbx := (below_drew hbx).trans (hb7.mono hbx.size)))
    go_wp2
    go_ret
    exact ⟨rfl, hbx⟩
end Go.Proofs.Ytkpppmldbhgcgaa
/- Sat: a formula as data that comes in. -/
set_option autoImplicit false
namespace Go.Proofs.Ytkpppmldbhgcgaa
open Go.ChangeShapes Go.WideShapes Go.ChangeAt Go.RowKit Go.Deep
set_option maxRecDepth 100000
set_option linter.unusedVariables false
set_option linter.unusedSimpArgs false
/-- what a clause is in a world -/
theorem clause_of {W : World} {A : Option Addr} {L C : Nat} {zs : List Int} (hl : L ≤ C) (hz : zs.length = C) (hn : A = none → C = 0) (hc : ∀ a', A = some a' → ∀ c, c < C → W.cell? (a'.add c) = some (.int .i64 (zs.getD c 0))) : D.Ints W A (zs.take L) := fun j hj => by
  rw [List.length_take] at hj
  cases A with
  | none => have := hn rfl; omega
  | some a' =>
    have h := hc a' rfl j (by omega)
    have h00 := hc a' rfl 0 (by omega)
    obtain ⟨b, off, spot⟩ := a'
    have hs : spot = none := by simpa [Addr.add] using World.cell?_spot h00
    subst hs
    rw [D.add_plain] at h
    refine ⟨b, off, rfl, D.cellLt h, ?_⟩
    rw [h]
    simp [List.getD_eq_getElem?_getD, List.getElem?_take]
    rw [if_pos (by omega)]
theorem c40 : Try.prog.cellsOf 40 = 1 := by kernel_rfl
theorem c3 : Try.prog.cellsOf 3 = 1 := by kernel_rfl
theorem c22 : Try.prog.cellsOf 22 = 1 := by kernel_rfl
theorem c24 : Try.prog.cellsOf 24 = 2 := by kernel_rfl
theorem clause_open {H : Type} {enc : TypeId × Value → H} {W : World} {v : Value} {d : DataW H} {p : List MemPlace} {held : Bool} {r : Reach} {b0 : Nat} (hval : Value.okWide Try.prog W r b0 40 v) (h : DataW.Trod enc Try.prog W 0 (fun _ => true) held 40 v d p) (hs : ∀ n ∈ d.weights Try.prog 40, n ≤ reachBytes) : ∃ la ln lc zl, v = .slice la ln lc ∧ zl.length = ln ∧ ln ≤ 4611686018427387904 ∧ D.Ints W la zl := by
  obtain ⟨la, ln, lc, rfl⟩ := okWide_slice Try.underlying40 hval
  obtain ⟨fu, hf⟩ := h
  rcases open_ints Try.underlying40 Try.underlying3 c3 hf with ⟨e, _⟩ | ⟨a, len, cap, zs, e, _, h1, h2, h3, hd, h4, _⟩
  · simp [Value.cells] at e
    obtain ⟨rfl, rfl, rfl⟩ := e
    exact ⟨none, 0, 0, [], rfl, rfl, by omega, fun j hj => absurd hj (Nat.not_lt_zero _)⟩
  · simp only [if_true] at h3
    simp [Value.cells] at e
    obtain ⟨rfl, rfl, rfl⟩ := e
    simp only [Prod.mk.injEq] at hd
    have hw := hs ((zs.take ln).length * 8 + (zs.drop ln).length * 8) (by
      rw [hd.1]
      simp only [DataW.weights, Try.underlying40, List.mem_cons]
      left
      rw [show Try.prog.bytesOf 3 = 8 by kernel_rfl]
      simp [lits]
      omega)
    have hr : reachBytes = 140737488351232 := rfl
    rw [List.length_take, List.length_drop, hr] at hw
    exact ⟨some a, ln, lc, zs.take ln, rfl, by rw [List.length_take]; omega, by omega, clause_of h1 h3 (fun e => by cases e) (fun a' e c hc => by cases e; exact h4 c (by omega))⟩
theorem int_row_w {H : Type} {A : Option Addr} {L C : Nat} {zs : List Int} (hz : zs.length = C) (hl : L ≤ C) (hA : A = none → C = 0) (h : ∀ n ∈ (intRow (H := H) .i64 A L zs).weights Try.prog 40, n ≤ reachBytes) : L ≤ 4611686018427387904 := by
  cases A with
  | none => have := hA rfl; omega
  | some a =>
    have hw := h ((zs.take L).length * 8 + (zs.drop L).length * 8) (by
      simp only [intRow, DataW.weights, Try.underlying40, List.mem_cons]
      left
      rw [show Try.prog.bytesOf 3 = 8 by kernel_rfl]
      simp [lits]
      omega)
    have hr : reachBytes = 140737488351232 := rfl
    rw [List.length_take, List.length_drop, hr] at hw
    omega
theorem weightsAll_mem {H : Type} {P : Program} {e : TypeId} : ∀ {l : List (DataW H)} {d : DataW H}, d ∈ l → ∀ n ∈ d.weights P e, n ∈ DataW.weightsAll P e l
  | d' :: r, d, hd, n, hn => by
    simp only [DataW.weightsAll, List.mem_append]
    rcases List.mem_cons.1 hd with rfl | h
    · exact Or.inl hn
    · exact Or.inr (weightsAll_mem h n hn)
theorem form_open {H : Type} {enc : TypeId × Value → H} {W : World} {v : Value} {d : DataW H} {p : List MemPlace} {held : Bool} {r : Reach} {b0 : Nat} (hval : Value.okWide Try.prog W r b0 24 v) (h : DataW.Trod enc Try.prog W 0 (fun _ => true) held 24 v d p) (hs : ∀ n ∈ d.weights Try.prog 24, n ≤ reachBytes) :
    ∃ vars a n c cs, v = .agg #[.int .i64 vars, .slice a n c] ∧ cs.length = n ∧ n ≤ 4611686018427387904 ∧ (∀ j, j < n → (cs.getD j default).zs.length ≤ 4611686018427387904) ∧ D.Rows' W a cs := by
  obtain ⟨xs, rfl, hsz⟩ := okWide_struct Try.underlying24 hval
  rw [c24] at hsz
  obtain ⟨x0, x1, rfl⟩ : ∃ x0 x1, xs = #[x0, x1] := by
    obtain ⟨l⟩ := xs
    match l, hsz with
    | [x0, x1], _ => exact ⟨x0, x1, rfl⟩
  obtain ⟨fu, hf⟩ := h
  obtain ⟨y0, y1, n, hd, hl, g0, g1⟩ := trod_struct2 Try.underlying24 hf
  simp only [Prod.mk.injEq] at hd
  rw [hd.1] at hs
  rw [c3] at g0
  rw [c22] at g1
  obtain ⟨vars, e0, _, _⟩ := DataW.trod_int Try.underlying3 g0
  have e0' : x0 = .int .i64 vars := by simpa [Value.cells] using e0
  subst e0'
  have hs1 : ∀ n ∈ y1.1.weights Try.prog 22, n ≤ reachBytes := fun n hn => hs n (by
    simp only [DataW.weights, Try.underlying24]
    simp [DataW.weightsEach, hn])
  rcases open_int_rows Try.underlying22 Try.underlying40 Try.underlying3 c40 c3 g1 with ⟨e, hx⟩ | ⟨a, len, cap, A, L, C, Z, e, _, h1, h2, hx, h3⟩
  · have e1 : x1 = .slice none 0 0 := by simpa [Value.cells] using e
    subst e1
    exact ⟨vars, none, 0, 0, [], rfl, rfl, by omega, fun j hj => absurd hj (Nat.not_lt_zero _), fun j hj => absurd hj (Nat.not_lt_zero _)⟩
  · have e1 : x1 = .slice (some a) len cap := by simpa [Value.cells] using e
    subst e1
    have hy : y1.1 = .slice ((List.range len).map fun r => intRow .i64 (A r) (L r) (Z r)) ((List.range (cap - len)).map fun j => intRow .i64 (A (len + j)) (L (len + j)) (Z (len + j))) := by rw [hx]
    rw [hy] at hs1
    have hr : reachBytes = 140737488351232 := rfl
    have hn9 : len ≤ 4611686018427387904 := by
      have hw := hs1 ((len + (cap - len)) * 24) (by
        simp only [DataW.weights, Try.underlying22, List.mem_cons]
        left
        rw [show Try.prog.bytesOf 40 = 24 by kernel_rfl]
        simp)
      rw [hr] at hw
      omega
    have hL9 : ∀ j, j < len → L j ≤ 4611686018427387904 := fun j hj => by
      obtain ⟨_, q1, q2, q3, _, q4, _⟩ := h3 j (by omega)
      refine int_row_w (H := H) q3 q1 q4 (fun n hn => hs1 n ?_)
      simp only [DataW.weights, Try.underlying22, List.mem_cons, List.mem_append]
      exact .inr (.inl (weightsAll_mem (List.mem_map.2 ⟨j, List.mem_range.2 hj, rfl⟩) n hn))
    obtain ⟨cs, hcs⟩ : ∃ cs : List D.Cl, cs = (List.range len).map fun r => ⟨A r, C r, (Z r).take (L r)⟩ := ⟨_, rfl⟩
    have hlen : cs.length = len := by rw [hcs]; simp
    have hget : ∀ j, j < len → cs.getD j default = ⟨A j, C j, (Z j).take (L j)⟩ := fun j hj => by
      rw [hcs, List.getD_eq_getElem?_getD]
      simp [hj]
    have hzl : ∀ j, j < len → ((Z j).take (L j)).length = L j := fun j hj => by
      obtain ⟨_, q1, q2, q3, _⟩ := h3 j (by omega)
      rw [List.length_take]; omega
    refine ⟨vars, some a, len, cap, cs, rfl, hlen, hn9, fun j hj => ?_, fun j hj => ?_⟩
    · rw [hget j hj]
      show ((Z j).take (L j)).length ≤ _
      rw [hzl j hj]; exact hL9 j hj
    · rw [hlen] at hj
      obtain ⟨q0, q1, q2, q3, _, q4, q5⟩ := h3 j (by omega)
      obtain ⟨q00, _⟩ := h3 0 (by omega)
      rw [hget j hj]
      show ∃ b off, some a = some ⟨b, off, none⟩ ∧ b < W.heap.size ∧ W.cell? ⟨b, off + j, none⟩ = some (.slice (A j) ((Z j).take (L j)).length (C j)) ∧ D.Ints W (A j) ((Z j).take (L j))
      rw [hzl j hj]
      obtain ⟨b, off, spot⟩ := a
      have hsp : spot = none := by simpa [Addr.add] using World.cell?_spot q00
      subst hsp
      rw [D.add_plain] at q0
      exact ⟨b, off, rfl, D.cellLt q0, q0, clause_of q1 q3 q4 (fun a' e c hc => (q5 a' e).2 c hc)⟩
theorem same_below {W W' : World} (hb : Below W.heap.size W W') {p : MemPlace} (h : p.block < W.heap.size) : W.sameAt W' p := by
  cases p with
  | cell b off => exact hb.cell (p := ⟨b, off, none⟩) h
  | map b => exact hb.block b h
theorem laidOut_ : laidOutB Try.prog = true := by kernel_rfl
end Go.Proofs.Ytkpppmldbhgcgaa

/- Sat: the law that Solve answers right (SatSolves), walked. -/
import Derived.Test.YtkpppmldbhgcgaaScKtoScZ
import Derived.Test.YtkpppmldbhgcgaaScN
import Derived.Test.YtkpppmldbhgcgaaPlTtoPlU
import Derived.Deep.RegionHeld3
import Derived.Test.YtkpppmldbhgcgaaPlRtoPlS
set_option linter.unusedVariables false
set_option linter.unusedSimpArgs false
set_option autoImplicit false
set_option linter.unusedVariables false
set_option linter.unusedSimpArgs false
namespace Go.Proofs.Ytkpppmldbhgcgaa
open Go Go.Shelf Go.RowKit
/-- what the law asks for and what solving gives -/
theorem law_facts {V : Nat} {cs : List D.Cl} {budget : Int} (hck : D.checkZ (V : Int) cs = 0) (hV : V ≤ 60) (hn : cs.length ≤ 150) (hb : budget ≤ 200) : ∃ f ans, solveK f V (cs.map D.Cl.zs) budget = some ans ∧ RightZ (V : Int) (cs.map D.Cl.zs) ans ∧ ans.model.length ≤ 1000000 ∧ ans.proof.length ≤ 1000000 ∧ ∀ p ∈ ans.proof, p.2.length ≤ 1000000 := by
  have hfair : ∀ c ∈ cs.map D.Cl.zs, D.fairZ (V : Int) c = true := by
    rw [checkZ_eq] at hck
    unfold checkL at hck
    split at hck
    · cases hck
    · split at hck
      · cases hck
      · split at hck
        · rename_i h
          exact List.all_eq_true.1 h
        · cases hck
  obtain ⟨b, hbn⟩ : ∃ b : Nat, max 0 budget = (b : Int) := ⟨(max 0 budget).toNat, by omega⟩
  obtain ⟨ans, h1, h2, h3, h4, h5⟩ := solveK_ok (V := V) (b := b) (budget := budget) (by omega) hbn (by omega) (cs := cs.map D.Cl.zs) (by rw [List.length_map]; omega) hfair (Nat.le_refl _)
  exact ⟨_, ans, h1, h2, by omega, by omega, fun p hp => by have := h5 p hp; omega⟩
theorem cell_b {w w' : World} {b m : Nat} {u : Value} (hb : Below w.heap.size w w') (h : w.cell? ⟨b, m, none⟩ = some u) : w'.cell? ⟨b, m, none⟩ = some u := (hb.cell (p := ⟨b, m, none⟩) (D.cellLt h)).trans h
/-- what Solve gave, as rows -/
theorem solve_out {w w' : World} {ans : Ans} {e : Ending} (h : SolveOut w ans e w') : ∃ (am : Option Addr) (cm : Nat) (pa : Option Addr) (pc : Nat) (lns : List D.Ln), e = .returned (.tuple #[.agg #[.int .i64 ans.what, .slice am ans.model.length cm, .slice pa ans.proof.length pc], .int .i64 0]) ∧ Below w.heap.size w w' ∧ D.Bools w' am ans.model ∧ lns.map D.lnz = ans.proof ∧ D.Lines w' pa lns := by
  obtain ⟨mv, pv, p1, p2, p3, p4⟩ := h
  obtain ⟨am, cm, e1, _, hB, _⟩ := bools_of p3 rfl
  obtain ⟨pa, pc, lns, e2, _, hlz, hL⟩ := lines_of p4
  subst e1 e2
  exact ⟨am, cm, pa, pc, lns, p1, p2, hB, hlz, hL⟩
theorem below_drew {n : Nat} {w w' : World} (h : Below n w w') : Below n w w'.drew := ⟨h.os, h.tape, h.output, h.size, h.block⟩
/-- right, of an answer that Solve gave -/
theorem right_of {V N : Nat} {av : Option Addr} {cvp : Nat} {cs : List D.Cl} {w w5 : World} {ans : Ans} (hN : cs.length = N) (hN2 : N ≤ 1000000) (hl : ∀ j, j < N → (cs.getD j default).zs.length ≤ 1000000) (hck : D.checkZ (V : Int) cs = 0)
    (ha3 : ans.model.length ≤ 1000000) (ha4 : ans.proof.length ≤ 1000000) (ha5 : ∀ p ∈ ans.proof, p.2.length ≤ 1000000) (ha2 : RightZ (V : Int) (cs.map D.Cl.zs) ans)
    {am : Option Addr} {cm : Nat} {pa : Option Addr} {pc : Nat} {lns : List D.Ln} (h1 : Below w.heap.size w w5) (h2 : D.Bools w5 am ans.model) (h3 : lns.map D.lnz = ans.proof) (h4 : D.Lines w5 pa lns) (h5 : D.Rows' w5 av cs) :
    Calls Try.prog 13 #[.agg #[.int .i64 (V : Int), .slice av N cvp], .agg #[.int .i64 ans.what, .slice am ans.model.length cm, .slice pa ans.proof.length pc]] w5 (AlOut w) := by
  have hll : lns.length = ans.proof.length := by rw [← h3, List.length_map]
  have := right_walk av N cvp cs (V : Int) w5 hN hN2 hl h5 hck ans am ans.model.length cm rfl ha3 h2 pa ans.proof.length pc lns h3 hll ha4 h4 (fun j hj => by
    have hm : (lns.getD j default).cl.zs ∈ ans.proof.map (fun p => p.2) := by
      rw [← h3, List.map_map, List.getD_eq_getElem?_getD, List.getElem?_eq_getElem (by omega)]
      exact List.mem_map_of_mem (f := (fun p : Bool × List Int => p.2) ∘ D.lnz) (List.getElem_mem _)
    obtain ⟨p, hp, e⟩ := List.mem_map.1 hm
    rw [← e]
    exact ha5 p hp) ha2
  refine this.mono ?_
  rintro e w6 ⟨p1, p2⟩
  exact ⟨p1, h1.trans (p2.mono h1.size)⟩
set_option maxHeartbeats 16000000 in
set_option maxRecDepth 1000000 in
theorem solves_walk (a : Option Addr) (n c : Nat) (cs : List D.Cl) (vars budget : Int) (w : World) (hn : cs.length = n) (hlen : n ≤ 4611686018427387904) (hl : ∀ j, j < n → (cs.getD j default).zs.length ≤ 4611686018427387904) (hz : D.Rows' w a cs) :
    Calls Try.prog 3 #[.agg #[.int .i64 vars, .slice a n c], .int .i64 budget] w (AlOut w) := by
  have hb0 := (Below.refl w.heap.size w).alloc (Nat.le_refl _) (.cells #[Value.int .i64 vars, .slice a n c] 24)
  have k0 : (w.alloc (.cells #[Value.int .i64 vars, .slice a n c] 24)).cell? ⟨w.heap.size, 0, none⟩ = some (.int .i64 vars) := (cell_new ..).trans rfl
  have k1 : (w.alloc (.cells #[Value.int .i64 vars, .slice a n c] 24)).cell? ⟨w.heap.size, 1, none⟩ = some (.slice a n c) := (cell_new ..).trans rfl
  have hal0 := alive_walk (w.alloc (.cells #[Value.int .i64 vars, .slice a n c] 24))
  go_enter Try.func3, Try.ntmps3
  go_wp2_with (go_at_call 8; refine hal0.mono ?_; rintro e w1 ⟨p1, hb1⟩; rw [p1]; clear p1; have c0 := cell_b hb1 k0; have c1 := cell_b hb1 k1)
  have hbw1 := hb0.trans (hb1.mono hb0.size)
  clear k0 k1 hal0
  have hbg := D.big_walk a n c cs vars w1 hn hlen hl (hz.below hbw1)
  obtain ⟨B, hB⟩ : ∃ B, D.bigZ vars cs = B := ⟨_, rfl⟩
  rw [hB] at hbg
  have hbg2 := hbg.mono (R' := fun e w2 => e = .returned (.bool B) ∧ Below w.heap.size w w2 ∧ w2.cell? ⟨w.heap.size, 0, none⟩ = some (.int .i64 vars) ∧ w2.cell? ⟨w.heap.size, 1, none⟩ = some (.slice a n c) ∧ D.Rows' w2 a cs) (by
    rintro e w2 ⟨p1, hb2⟩
    have h2 := hbw1.trans (hb2.mono hbw1.size)
    exact ⟨p1, h2, cell_b hb2 c0, cell_b hb2 c1, hz.below h2⟩)
  clear hbg c0 c1 hz hl hlen hb0 hbw1 hb1
  cases B with
  | true =>
    go_wp2_with (go_at_call 9; refine hbg2.mono ?_; rintro e w2 ⟨p1, hb2, c0, c1, hz2⟩; rw [p1]; clear p1)
    go_ret
    exact ⟨rfl, hb2⟩
  | false =>
  by_cases h150 : (150 : Int) < n
  · go_wp2_with (go_at_call 9; refine hbg2.mono ?_; rintro e w2 ⟨p1, hb2, c0, c1, hz2⟩; rw [p1]; clear p1)
    go_ret
    exact ⟨rfl, hb2⟩
  by_cases h60 : 60 < vars
  · go_wp2_with (go_at_call 9; refine hbg2.mono ?_; rintro e w2 ⟨p1, hb2, c0, c1, hz2⟩; rw [p1]; clear p1)
    go_ret
    exact ⟨rfl, hb2⟩
  by_cases h200 : 200 < budget
  · go_wp2_with (go_at_call 9; refine hbg2.mono ?_; rintro e w2 ⟨p1, hb2, c0, c1, hz2⟩; rw [p1]; clear p1)
    go_ret
    exact ⟨rfl, hb2⟩
  have hB' : ¬ (6000 < D.total cs cs.length) := by
    unfold D.bigZ at hB
    simp only [Bool.or_eq_false_iff, decide_eq_false_iff_not] at hB
    exact hB.1
  have hlj : ∀ j, j < n → (cs.getD j default).zs.length ≤ 6000 := fun j hj => by
    have := (D.total_len cs cs.length).2 j (by omega)
    omega
  have hnum := fun x w => D.num_walk x w
  have hchk := fun (W : World) (hW : D.Rows' W a cs) => D.check_walk a n c cs vars W hn (by omega) (fun j hj => by have := hlj j hj; omega) hW
  obtain ⟨q, hq⟩ : ∃ q, D.checkZ vars cs = q := ⟨_, rfl⟩
  by_cases h0 : q = 0
  · subst h0
    obtain ⟨V, rfl, hV1, _, _, hV4⟩ := D.check_ok hq
    obtain ⟨f, ans, hsol, ha2, ha3, ha4, ha5⟩ := law_facts (budget := budget) hq (by omega) (by omega) (by omega)
    have hsw := fun (W : World) (hW : D.Rows' W a cs) => (solve_walk a n c cs V budget W hn (by omega) (fun j hj => by have := hlj j hj; omega) (fun j hj x hx => by have := hV4 j (by omega) x hx; omega) hW hq (by omega) hsol).mono (R' := fun e w' => ∃ (am : Option Addr) (cm : Nat) (pa : Option Addr) (pc : Nat) (lns : List D.Ln), e = .returned (.tuple #[.agg #[.int .i64 ans.what, .slice am ans.model.length cm, .slice pa ans.proof.length pc], .int .i64 0]) ∧ Below W.heap.size W w' ∧ D.Bools w' am ans.model ∧ lns.map D.lnz = ans.proof ∧ D.Lines w' pa lns) (fun e w' h => solve_out h)
    have hri := fun {w5 : World} {am : Option Addr} {cm : Nat} {pa : Option Addr} {pc : Nat} {lns : List D.Ln} (h1 : Below w.heap.size w w5) (h2 : D.Bools w5 am ans.model) (h3 : lns.map D.lnz = ans.proof) (h4 : D.Lines w5 pa lns) (h5 : D.Rows' w5 a cs) => right_of (V := V) (cvp := c) (cm := cm) (pc := pc) hn (by omega) (fun j hj => by have := hlj j hj; omega) hq ha3 ha4 ha5 ha2 h1 h2 h3 h4 h5
    rw [hq] at hchk
    clear hlj hB' hB hq hV4 hsol ha2 ha5
    obtain ⟨what, hwhat⟩ : ∃ x, ans.what = x := ⟨_, rfl⟩
    obtain ⟨ml, hml⟩ : ∃ x, ans.model.length = x := ⟨_, rfl⟩
    obtain ⟨pl, hpl⟩ : ∃ x, ans.proof.length = x := ⟨_, rfl⟩
    rw [hwhat, hml, hpl] at hsw hri
    go_wp2_with (first | (go_at_call 9; refine hbg2.mono ?_; rintro e w2 ⟨p1, hb2, c0, c1, hz2⟩; rw [p1]; clear p1) | (go_at_call 10; refine (hsw _ hz2).mono ?_; rintro e w3 ⟨am, cm, pa, pc, lns, p1, hb3, hB3, hlz, hL3⟩; rw [p1]; clear p1; replace c0 := cell_b hb3 c0; replace c1 := cell_b hb3 c1; replace hz2 := hz2.below hb3; replace hb3 := hb2.trans (hb3.mono hb2.size); have s3 := D.cellLt c0; have hbx := (Below.refl w3.heap.size w3).alloc (Nat.le_refl _) (.cells #[.int .i64 what, .slice am ml cm, .slice pa pl pc] 30); have g0 := cell_b hbx c0; have g1 := cell_b hbx c1; replace hz2 := hz2.below hbx; replace hB3 := hB3.below hbx; replace hL3 := hL3.below hbx; replace hbx := hb3.trans (hbx.mono hb3.size)) | (go_at_call 12; refine (hnum _ _).mono ?_; rintro e w6 ⟨p1, p2⟩; rw [p1, p2]; clear p1 p2) | (go_at_call 11; refine (hchk _ hz2).mono ?_; rintro e w4 ⟨p1, hb4⟩; rw [p1]; clear p1; replace g0 := cell_b hb4 g0; replace g1 := cell_b hb4 g1; have x0 := cell_b hb4 ((cell_new ..).trans rfl : (w3.alloc (.cells #[.int .i64 what, .slice am ml cm, .slice pa pl pc] 30)).cell? ⟨w3.heap.size, 0, none⟩ = some (.int .i64 what)); have x1 := cell_b hb4 ((cell_new ..).trans rfl : (w3.alloc (.cells #[.int .i64 what, .slice am ml cm, .slice pa pl pc] 30)).cell? ⟨w3.heap.size, 1, none⟩ = some (.slice am ml cm)); have x2 := cell_b hb4 ((cell_new ..).trans rfl : (w3.alloc (.cells #[.int .i64 what, .slice am ml cm, .slice pa pl pc] 30)).cell? ⟨w3.heap.size, 2, none⟩ = some (.slice pa pl pc)); replace hz2 := hz2.below hb4; replace hB3 := hB3.below hb4; replace hL3 := hL3.below hb4; replace hbx := hbx.trans (hb4.mono hbx.size)) | (go_at_call 13; refine (hri hbx hB3 hlz hL3 hz2).mono ?_; rintro e w7 ⟨p1, p2⟩; rw [p1]; clear p1))
    go_ret
    exact ⟨rfl, p2⟩
  · have hsb := fun (W : World) (hW : D.Rows' W a cs) => solve_bad a n c cs vars budget W hn (by omega) (fun j hj => by have := hlj j hj; omega) hW (by rw [hq]; exact h0)
    rw [hq] at hsb hchk
    have hq0 : (q != 0) = true := by simpa using h0
    clear hlj hB' hB hq
    go_wp2_with (first | (go_at_call 9; refine hbg2.mono ?_; rintro e w2 ⟨p1, hb2, c0, c1, hz2⟩; rw [p1]; clear p1) | (go_at_call 10; refine (hsb _ hz2).mono ?_; rintro e w3 ⟨p1, hb3⟩; rw [p1]; clear p1; replace c0 := cell_b hb3 c0; replace c1 := cell_b hb3 c1; replace hz2 := hz2.below hb3; replace hb3 := hb2.trans (hb3.mono hb2.size); have s3 := D.cellLt c0; have hbx := (Below.refl w3.heap.size w3).alloc (Nat.le_refl _) (.cells #[.int .i64 0, .slice none 0 0, .slice none 0 0] 30); have g0 := cell_b hbx c0; have g1 := cell_b hbx c1; replace hz2 := hz2.below hbx; replace hbx := hb3.trans (hbx.mono hb3.size)) | (go_at_call 12; refine (hnum _ _).mono ?_; rintro e w6 ⟨p1, p2⟩; rw [p1, p2]; clear p1 p2) | (go_at_call 11; refine (hchk _ hz2).mono ?_; rintro e w4 ⟨p1, hb4⟩; rw [p1]; clear p1; replace g0 := cell_b hb4 g0; replace g1 := cell_b hb4 g1; have g2 := cell_b hb4 ((cell_new ..).trans rfl : (w3.alloc (.cells #[.int .i64 0, .slice none 0 0, .slice none 0 0] 30)).cell? ⟨w3.heap.size, 0, none⟩ = some (.int .i64 0)); replace hz2 := hz2.below hb4; replace hbx := hbx.trans (hb4.mono hbx.size)))
    go_region_held3 (fun w' => w'.cell? ⟨w.heap.size, 0, none⟩ = some (.int .i64 vars) ∧ w'.cell? ⟨w.heap.size, 1, none⟩ = some (.slice a n c) ∧ w'.cell? ⟨w3.heap.size, 0, none⟩ = some (.int .i64 0)) (first | exact ⟨j0, j1, j2⟩ | exact hHeld | exact ⟨g0, g1, g2⟩) (first | (go_at_call 12; refine (hnum _ _).mono ?_; rintro e w6 ⟨p1, p2⟩; rw [p1, p2]; clear p1 p2) | (go_at_call 11; refine (hchk w4.drew hz2).mono ?_; rintro e w7 ⟨p1, hb7⟩; rw [p1]; clear p1; have j0 := cell_b hb7 g0; have j1 := cell_b hb7 g1; have j2 := cell_b hb7 g2; replace hbx := (below_drew hbx).trans (hb7.mono hbx.size)))
    go_wp2
    go_ret
    exact ⟨rfl, hbx⟩
end Go.Proofs.Ytkpppmldbhgcgaa
/- Sat, plain: the search with something that is kept besides, by which the conflicts are fewer than the budget. -/
set_option autoImplicit false
set_option linter.unusedVariables false
set_option linter.unusedSimpArgs false
namespace Go.Proofs.Ytkpppmldbhgcgaa
open Go
/-- what is kept besides, at most b conflicts -/
structure Keep (n b : Nat) (J : Nat → Sz → Int → Int → Prop) : Prop where
  spr : ∀ {m : Nat} {S S' : Sz} {lim left : Int}, J m S lim left → S'.st = S.st → S.tr <+: S'.tr → SameP S S' → S'.cls.length = S.cls.length → J m S' lim left
  cfl : ∀ {m : Nat} {S : Sz} {lim left : Int} {N : List (List Int)} {U : Int} {B c : Nat}, J m S lim left → Mid n N U S B noE S.watch → (∀ k : Nat, k < S.st.length → S.st.getD k 0 ≤ (B : Int)) → Cfl S c → 0 < S.st.length → m + 1 ≤ b ∧ ∀ (T : Sz) (one : Bool), TurnedC n S c T one → J (m + 1) T lim (left - 1)
  res : ∀ {m : Nat} {S S' : Sz} {lim left : Int}, J m S lim left → left ≤ 0 → S.tr.length < n → (S.st.length = 0 → S' = S) → (0 < S.st.length → ∃ fr : Nat, S.st.getD 0 0 = (fr : Int) ∧ fr ≤ S.tr.length ∧ S'.tr = S.tr.take fr ∧ S'.st = []) → S'.cls = S.cls → J m S' (lim + lim / 4) (lim + lim / 4)
  dec : ∀ {m : Nat} {S S' : Sz} {lim left : Int}, J m S lim left → ¬ left ≤ 0 → (∃ l, S'.tr = S.tr ++ [l]) → S'.st = S.st ++ [(S.tr.length : Int)] → S'.tr.length < n → S'.st.length ≤ n → S'.cls = S.cls → J m S' lim left
/-- what the search tells, if it is not given up -/
def OutT (V : Int) (cs : List (List Int)) (K : Nat) (r : Int × Sz) : Prop :=
  (r.1 = 1 ∧ ∀ c ∈ cs, ∃ x ∈ c, litV r.2.vals x = 1) ∨ (r.1 = 2 ∧ Lns V cs r.2.prf ∧ D.Fol (cs ++ r.2.prf.map Prod.snd) [] ∧ r.2.nl = (sizeP r.2.prf : Int) ∧ sizeP r.2.prf ≤ K)
section
variable {n : Nat} {V : Int} {cs : List (List Int)} {m : Nat} {S : Sz} {A : Nat} {N : List (List Int)} {U : Int}
theorem seek_gen (hV : V + 1 = n) {b : Nat} {bud : Int} (hb : b ≤ 2000) (hbud : (b : Int) ≤ bud) (hpr : b * (n + 1) + n + 2 ≤ 200000) {J : Nat → Sz → Int → Int → Prop} (hJ : Keep n b J) (hcl : cs.length + b < 1000000) (hcs : ∀ c ∈ cs, ∀ x ∈ c, 1 ≤ x.natAbs ∧ x.natAbs < n) : ∀ (f : Nat) {m : Nat} {S : Sz} {A : Nat} {conf limit left : Int}, Sk n V cs m S A → J m S limit left → sizeP S.prf ≤ m * (n + 1) → conf = (m : Int) → m ≤ b → 1 ≤ limit → left ≤ limit → limit ≤ 100 + m - (limit - left) →
    (b - m) * (2 * n + 4) + (if left ≤ 0 then n + 2 else 0) + (n - S.tr.length) < f → ∃ r, seekF f S bud conf limit left = some r ∧ OutT V cs (b * (n + 1)) r
  | 0, m, S, A, conf, limit, left, _, _, _, _, _, _, _, _, hf => by omega
  | f + 1, m, S, A, conf, limit, left, h, hj, hsz, hconf, hm, hl1, hl2, hl3, hf => by
    have hn2 := h.mid.n2
    have hn1 := h.mid.n1
    subst hconf
    unfold seekF
    rw [if_pos ⟨by omega, by omega, by omega, by omega, by omega, by omega⟩]
    obtain ⟨r, e1, hA, hprf, hst, hpl, hT, hnone, hsome, hpre, hsp, hcls⟩ := h.spread
    rw [e1, Option.bind_some]
    have hlens : r.2.tr.length < n ∧ r.2.st.length ≤ n := by
      cases hr : r.1 with
      | none =>
        have k := (hnone hr).mid
        have := k.trl.short k.n1
        have := k.trl.cover
        omega
      | some c =>
        obtain ⟨_, B, _, k⟩ := hsome c hr
        have := k.trl.short k.n1
        have := k.trl.cover
        omega
    have hj1 := hJ.spr hj hst hpre hsp hcls
    have hsz1 : sizeP r.2.prf ≤ m * (n + 1) := by rw [hprf]; exact hsz
    have hmb : m * (n + 1) ≤ b * (n + 1) := Nat.mul_le_mul_right _ hm
    rw [if_pos ⟨by unfold roomy; exact decide_eq_true (by omega), by unfold roomy; exact decide_eq_true (by omega)⟩]
    cases hr : r.1 with
    | some c =>
      dsimp only
      obtain ⟨c1, B, c2, c3⟩ := hsome c hr
      by_cases h0 : r.2.st.length = 0
      · rw [if_pos h0]
        exact ⟨_, rfl, .inr ⟨rfl, hA.prf, fol_nil c3 c1 h0, hA.nl, by dsimp only; omega⟩⟩
      rw [if_neg h0]
      obtain ⟨hmb1, hnext⟩ := hJ.cfl hj1 c3 c2 c1 (by omega)
      have hbn : ¬ bud < (m : Int) + 1 := by omega
      rw [if_neg hbn]
      have ht0 : ¬ r.2.tr.length = 0 := by
        have := hT 0 (by omega)
        have := (c3.trl.stn 0 (by omega)).1
        omega
      rw [if_neg ht0]
      have hmul : n * m ≤ 100000 * 2000 := Nat.mul_le_mul hn2 (by omega)
      have hmulI : ((n * m : Nat) : Int) = (n : Int) * m := Int.natCast_mul n m
      obtain ⟨q, q1, p, q2, q2b, q3⟩ := conflict_ok hA c3 c2 hT c1 (by omega) hV (by omega) (by omega)
      rw [q1, Option.bind_some, q2, Option.bind_some]
      have hp : p.1 = true := q2b (by omega)
      rw [if_pos hp]
      obtain ⟨s1, s2, s3, S4, a, s4, s5, s6, s7⟩ := q3 hp
      rw [if_neg s1, if_pos ⟨s2, s3⟩, s4, Option.bind_some, s5, Option.bind_some]
      have hsub : (b - m) * (2 * n + 4) = (b - (m + 1)) * (2 * n + 4) + (2 * n + 4) := by
        rw [show b - m = (b - (m + 1)) + 1 by omega, Nat.add_mul, Nat.one_mul]
      have go : ∀ (T : Sz) (A' : Nat) (one : Bool), TurnedC n r.2 c T one → Sk n V cs (m + 1) T A' → ∃ r, seekF f T bud ((m : Int) + 1) limit (left - 1) = some r ∧ OutT V cs (b * (n + 1)) r := fun T A' one hTu hS => by
        refine seek_gen hV hb hbud hpr hJ hcl hcs f hS (hnext T one hTu) ?_ (by omega) (by omega) hl1 (by omega) (by omega) ?_
        · obtain ⟨L, hL1, hL2⟩ := hTu.prf
          rw [hL1, sizeP_snoc, Nat.add_mul, Nat.one_mul]
          dsimp only
          omega
        · split <;> split at hf <;> omega
      by_cases h1 : q.2.1.length = 1
      · rw [if_pos h1]
        obtain ⟨t, t1, tu, A', t2⟩ := s6 h1
        rw [t1, Option.bind_some]
        exact go _ _ _ tu t2
      · rw [if_neg h1]
        obtain ⟨u1, S6, u2, u3, t, t1, tu, A', t2⟩ := s7 h1
        rw [if_pos u1, u2, Option.bind_some, if_pos u3, t1, Option.bind_some]
        exact go _ _ _ tu t2
    | none =>
      dsimp only
      have hS := hnone hr
      by_cases hle : left ≤ 0
      · rw [if_pos hle]
        obtain ⟨S4, a1, ⟨A', a2⟩, a3, a4, a5, a6⟩ := hS.restart
        rw [a1, Option.bind_some]
        have := a2.aux.lrn
        rw [if_pos (by omega)]
        rw [if_pos hle] at hf
        refine seek_gen hV hb hbud hpr hJ hcl hcs f a2 (hJ.res hj1 hle hlens.1 a3 a4 a5) (by rw [a6]; exact hsz1) rfl hm (by omega) (Int.le_refl _) (by omega) ?_
        rw [if_neg (by omega)]
        omega
      · rw [if_neg hle]
        obtain ⟨q, a1, a2⟩ := hS.decide_
        rw [a1, Option.bind_some]
        rcases a2 with ⟨b1, b2, b3⟩ | ⟨b1, sv, S', b2, b3, b4, b5, b6, b7, b8, b9⟩
        · rw [if_pos b1]
          refine ⟨_, rfl, .inl ⟨rfl, ?_⟩⟩
          dsimp only
          rw [b2]
          exact all_true hS b3 hcs
        · rw [if_neg b1, b2, Option.bind_some, b3, Option.bind_some]
          rw [if_neg hle] at hf
          have k := b4.mid
          have ks := k.trl.short k.n1
          have kc := k.trl.cover
          have ks2 : S'.tr.length < n := by omega
          have kc2 : S'.st.length ≤ n := by omega
          refine seek_gen hV hb hbud hpr hJ hcl hcs f b4 (hJ.dec hj1 hle b6 b7 ks2 kc2 b8) (by rw [b9]; exact hsz1) rfl hm hl1 hl2 hl3 ?_
          rw [if_neg hle]
          dsimp only
          omega
end
end Go.Proofs.Ytkpppmldbhgcgaa

/- Sat: the law that answers are alike and two (SatAlike), walked. -/
import Derived.Test.YtkpppmldbhgcgaaScT
set_option linter.unusedVariables false
set_option linter.unusedSimpArgs false
set_option autoImplicit false
set_option linter.unusedVariables false
set_option linter.unusedSimpArgs false
namespace Go.Proofs.Ytkpppmldbhgcgaa
open Go Go.Shelf Go.RowKit
theorem any_out {W w' : World} {q : Int} {ans : Ans} {e : Ending} (h : SolveAny W q ans e w') : ∃ (am : Option Addr) (cm : Nat) (pa : Option Addr) (pc : Nat) (lns : List D.Ln) (f : Nat → Value), e = .returned (.tuple #[.agg #[.int .i64 ans.what, .slice am ans.model.length cm, .slice pa ans.proof.length pc], .int .i64 q]) ∧ Below W.heap.size W w' ∧ D.Bools w' am ans.model ∧ lns.map D.lnz = ans.proof ∧ D.Lines w' pa lns ∧
    w'.ownsRow W.heap.size 4 1 (.slice am ans.model.length cm) ans.model.length (ans.model.map Value.bool) ∧ PA W.heap.size w'.heap.size (.slice pa ans.proof.length pc) ans.proof f 0 w' ∧ Dist W.heap.size w'.heap.size (.slice pa ans.proof.length pc) ans.proof f ∧ ∀ g, (Value.slice am ans.model.length cm).ownBlock = some g → W.heap.size ≤ g ∧ g < w'.heap.size := by
  obtain ⟨mv, pv, p1, p2, p3, p4⟩ := h
  obtain ⟨am, cm, e1, _, hB, _⟩ := bools_of p3 rfl
  obtain ⟨pa, pc, lns, e2, _, hlz, hL⟩ := lines_of p4
  subst e1 e2
  obtain ⟨f, r1, r2, r3⟩ := p4
  refine ⟨am, cm, pa, pc, lns, f, p1, p2, hB, hlz, hL, p3, ⟨r1, fun i p _ hp => r2 i p hp⟩, ⟨fun g hg => r1.lt g hg, fun k hk g hg => ?_⟩, fun g hg => p3.lt g hg⟩
  have hp : ans.proof[k]? = some ans.proof[k] := List.getElem?_eq_getElem hk
  have := (r2 k _ hp).lt g hg
  exact ⟨this.1, this.2, r3 k hk g hg⟩
set_option maxHeartbeats 16000000 in
set_option maxRecDepth 1000000 in
theorem alike_walk (a : Option Addr) (n c : Nat) (cs : List D.Cl) (vars budget : Int) (w : World) (hn : cs.length = n) (hlen : n ≤ 4611686018427387904) (hl : ∀ j, j < n → (cs.getD j default).zs.length ≤ 4611686018427387904) (hz : D.Rows' w a cs) :
    Calls Try.prog 7 #[.agg #[.int .i64 vars, .slice a n c], .int .i64 budget] w (AlOut w) := by
  have hb0 := (Below.refl w.heap.size w).alloc (Nat.le_refl _) (.cells #[Value.int .i64 vars, .slice a n c] 24)
  have k0 : (w.alloc (.cells #[Value.int .i64 vars, .slice a n c] 24)).cell? ⟨w.heap.size, 0, none⟩ = some (.int .i64 vars) := (cell_new ..).trans rfl
  have k1 : (w.alloc (.cells #[Value.int .i64 vars, .slice a n c] 24)).cell? ⟨w.heap.size, 1, none⟩ = some (.slice a n c) := (cell_new ..).trans rfl
  have hal0 := alive_walk (w.alloc (.cells #[Value.int .i64 vars, .slice a n c] 24))
  go_enter Try.func7, Try.ntmps7
  go_wp2_with (go_at_call 8; refine hal0.mono ?_; rintro e w1 ⟨p1, hb1⟩; rw [p1]; clear p1; have c0 := cell_b hb1 k0; have c1 := cell_b hb1 k1)
  have hbw1 := hb0.trans (hb1.mono hb0.size)
  clear k0 k1 hal0
  have hbg := D.big_walk a n c cs vars w1 hn hlen hl (hz.below hbw1)
  obtain ⟨B, hB⟩ : ∃ B, D.bigZ vars cs = B := ⟨_, rfl⟩
  rw [hB] at hbg
  have hbg2 := hbg.mono (R' := fun e w2 => e = .returned (.bool B) ∧ Below w.heap.size w w2 ∧ w2.cell? ⟨w.heap.size, 0, none⟩ = some (.int .i64 vars) ∧ w2.cell? ⟨w.heap.size, 1, none⟩ = some (.slice a n c) ∧ D.Rows' w2 a cs) (by
    rintro e w2 ⟨p1, hb2⟩
    have h2 := hbw1.trans (hb2.mono hbw1.size)
    exact ⟨p1, h2, cell_b hb2 c0, cell_b hb2 c1, hz.below h2⟩)
  clear hbg c0 c1 hz hl hlen hb0 hbw1 hb1
  cases B with
  | true =>
    go_wp2_with (go_at_call 9; refine hbg2.mono ?_; rintro e w2 ⟨p1, hb2, c0, c1, hz2⟩; rw [p1]; clear p1)
    go_ret
    exact ⟨rfl, hb2⟩
  | false =>
  by_cases h150 : (100 : Int) < n
  · go_wp2_with (go_at_call 9; refine hbg2.mono ?_; rintro e w2 ⟨p1, hb2, c0, c1, hz2⟩; rw [p1]; clear p1)
    go_ret
    exact ⟨rfl, hb2⟩
  by_cases h60 : 40 < vars
  · go_wp2_with (go_at_call 9; refine hbg2.mono ?_; rintro e w2 ⟨p1, hb2, c0, c1, hz2⟩; rw [p1]; clear p1)
    go_ret
    exact ⟨rfl, hb2⟩
  by_cases h200 : 100 < budget
  · go_wp2_with (go_at_call 9; refine hbg2.mono ?_; rintro e w2 ⟨p1, hb2, c0, c1, hz2⟩; rw [p1]; clear p1)
    go_ret
    exact ⟨rfl, hb2⟩
  have hB' : ¬ (6000 < D.total cs cs.length) := by
    unfold D.bigZ at hB
    simp only [Bool.or_eq_false_iff, decide_eq_false_iff_not] at hB
    exact hB.1
  have hlj : ∀ j, j < n → (cs.getD j default).zs.length ≤ 6000 := fun j hj => by
    have := (D.total_len cs cs.length).2 j (by omega)
    omega
  have hnum := fun x w => D.num_walk x w
  obtain ⟨q, hq⟩ : ∃ q, D.checkZ vars cs = q := ⟨_, rfl⟩
  obtain ⟨ans, hone, hml9, hpl9, hp9, hsv0, hri⟩ := solve_any (c := c) (a := a) (vars := vars) (budget := budget) hn (by omega) (by omega) (by omega) hlj
  have hsv := fun (W : World) (hW : D.Rows' W a cs) => (hsv0 W hW).mono (fun e w' h => any_out h)
  rw [hq] at hsv hri
  clear hsv0 hlj hB' hB hq
  obtain ⟨what, hwhat⟩ : ∃ x, ans.what = x := ⟨_, rfl⟩
  obtain ⟨ms, hms⟩ : ∃ x, ans.model = x := ⟨_, rfl⟩
  obtain ⟨ls, hls⟩ : ∃ x, ans.proof = x := ⟨_, rfl⟩
  rw [hms, hls] at hone
  rw [hms] at hml9
  rw [hls] at hpl9
  simp only [hwhat, hms, hls] at hsv hri
  rw [hls] at hp9
  clear hwhat hms hls
  obtain ⟨ml, hml⟩ : ∃ x, ms.length = x := ⟨_, rfl⟩
  obtain ⟨pl, hpl⟩ : ∃ x, ls.length = x := ⟨_, rfl⟩
  simp only [hml, hpl] at hsv hri hml9 hpl9
  go_upto_region 6 with (first | (go_at_call 9; refine hbg2.mono ?_; rintro e w2 ⟨p1, hb2, c0, c1, hz2⟩; rw [p1]; clear p1) | (go_at_call 10; refine (hsv _ hz2).mono ?_; rintro e w3 ⟨am, cm, pa, pc, lns, f0, p1, hb3, hB3, hlz, hL3, _, _, _, _⟩; rw [p1]; clear p1; replace c0 := cell_b hb3 c0; replace c1 := cell_b hb3 c1; replace hz2 := hz2.below hb3; replace hb3 := hb2.trans (hb3.mono hb2.size)))
  have hbx := (Below.refl w3.heap.size w3).alloc (Nat.le_refl _) (.cells #[.int .i64 what, .slice am ml cm, .slice pa pl pc] 30)
  have g0 := cell_b hbx c0
  have g1 := cell_b hbx c1
  have x0 : (w3.alloc (.cells #[.int .i64 what, .slice am ml cm, .slice pa pl pc] 30)).cell? ⟨w3.heap.size, 0, none⟩ = some (.int .i64 what) := (cell_new ..).trans rfl
  have x1 : (w3.alloc (.cells #[.int .i64 what, .slice am ml cm, .slice pa pl pc] 30)).cell? ⟨w3.heap.size, 1, none⟩ = some (.slice am ml cm) := (cell_new ..).trans rfl
  have x2 : (w3.alloc (.cells #[.int .i64 what, .slice am ml cm, .slice pa pl pc] 30)).cell? ⟨w3.heap.size, 2, none⟩ = some (.slice pa pl pc) := (cell_new ..).trans rfl
  replace hz2 := hz2.below hbx
  replace hB3 := hB3.below hbx
  replace hL3 := hL3.below hbx
  replace hbx := hb3.trans (hbx.mono hb3.size)
  obtain ⟨ga, hga⟩ : ∃ x, w3.heap.size = x := ⟨_, rfl⟩
  clear c0 c1 hb3 hb2 hbg2
  generalize hW2 : w3.alloc (.cells #[.int .i64 what, .slice am ml cm, .slice pa pl pc] 30) = W2 at *
  rw [hga] at *
  clear hW2 hga
  have hga2 := D.cellLt x0
  go_upto_region 7 with (go_at_call 10; refine (hsv _ hz2).mono ?_; rintro e w5 ⟨am2, cm2, pb, pc2, lns2, f, p1, hb5, _, _, _, hO, hP, hD, hM⟩; rw [p1]; clear p1)
  have hbx5 := (Below.refl w5.heap.size w5).alloc (Nat.le_refl _) (.cells #[.int .i64 what, .slice am2 ml cm2, .slice pb pl pc2] 30)
  have J0 : AJ W2.heap.size W2 w5.heap.size what (.slice am2 ml cm2) (.slice pb pl pc2) (w5.alloc (.cells #[.int .i64 what, .slice am2 ml cm2, .slice pb pl pc2] 30)) := ⟨hb5.trans (hbx5.mono hb5.size), (cell_new ..).trans rfl, (cell_new ..).trans rfl, (cell_new ..).trans rfl⟩
  have X0 := cell_b hb5 x0
  have X1 := cell_b hb5 x1
  have X2 := cell_b hb5 x2
  replace X0 := cell_b hbx5 X0
  replace X1 := cell_b hbx5 X1
  replace X2 := cell_b hbx5 X2
  have yy0 := J0.y0
  have yy1 := J0.y1
  have yy2 := J0.y2
  have hs5 : W2.heap.size ≤ w5.heap.size := hb5.size
  have hO0 : (w5.alloc (.cells #[.int .i64 what, .slice am2 ml cm2, .slice pb pl pc2] 30)).ownsRow W2.heap.size 4 1 (.slice am2 ml cm2) ml ((flipB ms 0).map Value.bool) := by
    rw [flipB_zero]
    exact owns_keep hO fun g hg => hbx5.block g (hO.lt g hg).2
  have hP0 : PA W2.heap.size w5.heap.size (.slice pb pl pc2) ls f 0 (w5.alloc (.cells #[.int .i64 what, .slice am2 ml cm2, .slice pb pl pc2] 30)) :=
    ⟨owns_keep hP.row fun g hg => hbx5.block g (hP.row.lt g hg).2, fun i p hi hp => owns_keep (hP.rows i p hi hp) fun g hg => hbx5.block g ((hP.rows i p hi hp).lt g hg).2⟩
  obtain ⟨gb, hgb⟩ : ∃ x, w5.heap.size = x := ⟨_, rfl⟩
  clear hO hP hb5 hbx5 hsv
  rw [hgb] at J0 hP0 hD hM yy0 yy1 yy2 hs5
  generalize hW3 : w5.alloc (.cells #[.int .i64 what, .slice am2 ml cm2, .slice pb pl pc2] 30) = W3 at *
  rw [hgb]
  clear hW3 hgb
  obtain ⟨s2, hs2⟩ : ∃ x, W2.heap.size = x := ⟨_, rfl⟩
  rw [hs2] at J0 hO0 hP0 hD hM hs5 hga2
  have hKp := Hid'.mk (And.intro J0 (And.intro hO0 (And.intro hP0 (And.intro hD (And.intro hM (And.intro hB3 (And.intro hL3 hlz)))))))
  clear J0 hO0 hP0 hD hM hB3 hL3 hlz
  go_wp2_with (first | (go_at_call 12; refine (hnum _ _).mono ?_; rintro e w6 ⟨p1, p2⟩; rw [p1, p2]; clear p1 p2))
  obtain ⟨J0, hO0, hP0, hD, hM, hB3, hL3, hlz⟩ := hKp.h
  clear hKp X0 X1 X2 yy0 yy1 yy2
  have hP0' : ls = [] ∨ PA s2 gb (.slice pb pl pc2) ls f 0 W3 := .inr hP0
  go_loopw [11] (fun i wx => ∃ k : Nat, k ≤ ml ∧ i = .int .i64 k ∧ AJ s2 W2 gb what (.slice am2 ml cm2) (.slice pb pl pc2) wx ∧ wx.ownsRow s2 4 1 (.slice am2 ml cm2) ml ((flipB ms k).map Value.bool) ∧ (ls = [] ∨ PA s2 gb (.slice pb pl pc2) ls f 0 wx)) (fun i _ => ml - (intOf i).toNat)
  case atStart => exact ⟨0, Nat.zero_le _, rfl, J0, hO0, hP0'⟩
  case round =>
    clear J0 hO0 hP0 hP0'
    obtain ⟨k, hk, rfl, J, hO, hP⟩ := hrel
    have hJ2 := J.bel
    rw [← hs2] at hJ2
    have X1 := cell_b hJ2 x1
    have Y1 := J.y1
    by_cases hkm : k < ml
    · as_aux_lemma =>
      have hlsn : ls = [] := by
        rcases hone with e | e
        · rw [e] at hml; simp at hml; omega
        · exact e
      obtain ⟨b, off, e1, e2, e3⟩ := hB3 k (by omega)
      have Z1 := cell_b hJ2 e3
      subst e1
      obtain ⟨g, rfl⟩ : ∃ g, am2 = some ⟨g, 0, none⟩ := by
        rcases hO.2 with ⟨_, e⟩ | ⟨g, _, _, e, _⟩
        · omega
        · exact ⟨g, by injection e⟩
      obtain ⟨hg1, hg2⟩ := hM g rfl
      have Z2 := hO.cellAt k (by omega)
      rw [List.getElem?_map, flipB_get (by omega)] at Z2
      replace Z2 : wr.cell? ⟨g, k, none⟩ = some (.bool (ms.getD k false)) := Z2
      have F2 := hO.frozenAt k
      obtain ⟨v, hv⟩ : ∃ v, ms.getD k false = v := ⟨_, rfl⟩
      rw [hv] at Z1 Z2
      have hOd : wr.drew.drew.ownsRow s2 4 1 (.slice (some ⟨g, 0, none⟩) ml cm2) ml ((flipB ms k).map Value.bool) := owns_keep hO fun _ _ => rfl
      have hst := (hOd.stored k (.bool (!v))).1
      have hfs := flipB_succ (ms := ms) (k := k) (by omega)
      rw [hv] at hfs
      rw [← List.map_set, ← hfs] at hst
      have J2 := J.drew.drew.set (m := k) hg1 hg2 (.bool (!v))
      have hkI : (k : Int) < ml := by omega
      have hG := Hid'.mk (And.intro J2 hst)
      clear J J2 hst hfs hO hOd hP hJ2 e2 e3
      go_wp2
      go_region_held3 (fun w' => w'.cell? ⟨ga, 1, none⟩ = some (.slice (some ⟨b, off, none⟩) ml cm) ∧ w'.cell? ⟨b, off + k, none⟩ = some (.bool v) ∧ w'.cell? ⟨gb, 1, none⟩ = some (.slice (some ⟨g, 0, none⟩) ml cm2) ∧ w'.cell? ⟨g, k, none⟩ = some (.bool v)) (first | exact ⟨X1, Z1, Y1, Z2⟩ | exact hHeld) (first | fail)
      go_wp2
      refine wp_region_noPanic ?_
      refine wp_region_held_drew (S := (fun w' => w'.cell? ⟨gb, 1, none⟩ = some (.slice (some ⟨g, 0, none⟩) ml cm2))) (by kernel_rfl) ?_ (fun hHeld => ?_)
      · exact Y1
      refine wpAnyH_take (i := 0) (oi := { dst := some 98, op := Op.fieldAddr 30 (Operand.tmp 9) 1, type := 0, pos := "law.go:127", after := #[], guard := none }) (v := ?_) rfl (by kernel_rfl) (by kernel_rfl) (by kernel_rfl) (fun _ _ _ h => h) (Or.inl ⟨by rfl, ?_⟩) (by assumption) ?_
      rotate_left
      · intro w hSw; (try dsimp only at hSw); go_simp; all_goals with_reducible rfl
      try simp only [Act.put, List.setIfInBounds_toArray, List.set_cons_zero, List.set_cons_succ]
      refine wpAnyH_take (i := 1) (oi := { dst := some 99, op := Op.load 27 (Operand.tmp 98), type := 27, pos := "law.go:127", after := #[{ on := 0, ground := Ground.data }], guard := none }) (v := ?_) rfl (by kernel_rfl) (by kernel_rfl) (by kernel_rfl) (fun _ _ _ h => h) (Or.inl ⟨by rfl, ?_⟩) (by assumption) ?_
      rotate_left
      · intro w hSw; (try dsimp only at hSw); go_simp; all_goals with_reducible rfl
      try simp only [Act.put, List.setIfInBounds_toArray, List.set_cons_zero, List.set_cons_succ]
      refine wpAnyH_take (i := 2) (oi := { dst := some 100, op := Op.move (Operand.tmp 11), type := 3, pos := "law.go:127", after := #[], guard := none }) (v := ?_) rfl (by kernel_rfl) (by kernel_rfl) (by kernel_rfl) (fun _ _ _ h => h) (Or.inl ⟨by rfl, ?_⟩) (by assumption) ?_
      rotate_left
      · intro w hSw; (try dsimp only at hSw); go_simp; all_goals with_reducible rfl
      try simp only [Act.put, List.setIfInBounds_toArray, List.set_cons_zero, List.set_cons_succ]
      refine wpAnyH_take (i := 3) (oi := { dst := some 101, op := Op.fieldAddr 30 (Operand.tmp 9) 1, type := 0, pos := "law.go:127", after := #[], guard := none }) (v := ?_) rfl (by kernel_rfl) (by kernel_rfl) (by kernel_rfl) (fun _ _ _ h => h) (Or.inl ⟨by rfl, ?_⟩) (by assumption) ?_
      rotate_left
      · intro w hSw; (try dsimp only at hSw); go_simp; all_goals with_reducible rfl
      try simp only [Act.put, List.setIfInBounds_toArray, List.set_cons_zero, List.set_cons_succ]
      refine wpAnyH_take (i := 4) (oi := { dst := some 102, op := Op.load 27 (Operand.tmp 101), type := 27, pos := "law.go:127", after := #[{ on := 3, ground := Ground.data }], guard := none }) (v := ?_) rfl (by kernel_rfl) (by kernel_rfl) (by kernel_rfl) (fun _ _ _ h => h) (Or.inl ⟨by rfl, ?_⟩) (by assumption) ?_
      rotate_left
      · intro w hSw; (try dsimp only at hSw); go_simp; all_goals with_reducible rfl
      try simp only [Act.put, List.setIfInBounds_toArray, List.set_cons_zero, List.set_cons_succ]
      refine wpAnyH_take (i := 5) (oi := { dst := some 103, op := Op.move (Operand.tmp 11), type := 3, pos := "law.go:127", after := #[], guard := none }) (v := ?_) rfl (by kernel_rfl) (by kernel_rfl) (by kernel_rfl) (fun _ _ _ h => h) (Or.inl ⟨by rfl, ?_⟩) (by assumption) ?_
      rotate_left
      · intro w hSw; (try dsimp only at hSw); go_simp; all_goals with_reducible rfl
      try simp only [Act.put, List.setIfInBounds_toArray, List.set_cons_zero, List.set_cons_succ]
      refine wpAnyH_take (i := 6) (oi := { dst := some 104, op := Op.indexAddr 27 (Operand.tmp 102) (Operand.tmp 103), type := 0, pos := "law.go:127", after := #[{ on := 4, ground := Ground.data }, { on := 5, ground := Ground.data }], guard := none }) (v := ?_) rfl (by kernel_rfl) (by kernel_rfl) (by kernel_rfl) (fun _ _ _ h => h) (Or.inl ⟨by rfl, ?_⟩) (by assumption) ?_
      rotate_left
      · intro w hSw; (try dsimp only at hSw); go_simp; all_goals with_reducible rfl
      try simp only [Act.put, List.setIfInBounds_toArray, List.set_cons_zero, List.set_cons_succ]
      refine wpAnyH_ready (rs := [7]) (by kernel_rfl) (by simp) ?_
      refine AllReadyH.cons (o := { dst := some 105, op := Op.load 4 (Operand.tmp 104), type := 4, pos := "law.go:127", after := #[{ on := 6, ground := Ground.data }], guard := none }) rfl (fun K hK => ?_) ?_
      · go_simp
        refine hK.out _ _ ?_ (fun hHeld2 => ?_)
        · exact Y1
        clear hK K hHeld
        have hHeld := hHeld2
        clear hHeld2
        try simp only [Act.put, List.setIfInBounds_toArray, List.set_cons_zero, List.set_cons_succ]
        refine wpAnyH_take (i := 8) (oi := { dst := some 106, op := Op.unOp UnOp.not 4 (Operand.tmp 105), type := 4, pos := "law.go:127", after := #[{ on := 7, ground := Ground.data }], guard := none }) (v := ?_) rfl (by kernel_rfl) (by kernel_rfl) (by kernel_rfl) (fun _ _ _ h => h) (Or.inl ⟨by rfl, ?_⟩) (by assumption) ?_
        rotate_left
        · intro w hSw; (try dsimp only at hSw); go_simp; all_goals with_reducible rfl
        try simp only [Act.put, List.setIfInBounds_toArray, List.set_cons_zero, List.set_cons_succ]
        refine wpAnyH_take (i := 9) (oi := { dst := some 107, op := Op.indexAddr 27 (Operand.tmp 99) (Operand.tmp 100), type := 0, pos := "law.go:127", after := #[{ on := 1, ground := Ground.data }, { on := 2, ground := Ground.data }, { on := 0, ground := Ground.phase }, { on := 1, ground := Ground.phase }, { on := 2, ground := Ground.phase }, { on := 3, ground := Ground.phase }, { on := 4, ground := Ground.phase }, { on := 5, ground := Ground.phase }, { on := 6, ground := Ground.phase }, { on := 7, ground := Ground.phase }, { on := 8, ground := Ground.phase }], guard := none }) (v := ?_) rfl (by kernel_rfl) (by kernel_rfl) (by kernel_rfl) (fun _ _ _ h => h) (Or.inl ⟨by rfl, ?_⟩) (by assumption) ?_
        rotate_left
        · intro w hSw; (try dsimp only at hSw); go_simp; all_goals with_reducible rfl
        try simp only [Act.put, List.setIfInBounds_toArray, List.set_cons_zero, List.set_cons_succ]
        refine wpAnyH_ready (rs := [10]) (by kernel_rfl) (by simp) ?_
        refine AllReadyH.cons (o := { dst := none, op := Op.store 4 (Operand.tmp 107) (Operand.tmp 106), type := 0, pos := "law.go:127", after := #[{ on := 9, ground := Ground.data }, { on := 8, ground := Ground.data }, { on := 0, ground := Ground.phase }, { on := 1, ground := Ground.phase }, { on := 2, ground := Ground.phase }, { on := 3, ground := Ground.phase }, { on := 4, ground := Ground.phase }, { on := 5, ground := Ground.phase }, { on := 6, ground := Ground.phase }, { on := 7, ground := Ground.phase }, { on := 8, ground := Ground.phase }], guard := none }) rfl (fun K hK => ?_) ?_
        · go_simp
          refine hK.out _ _ ?_ (fun hHeld2 => ?_)
          · exact hG.h.1.y1
          clear hK K hHeld
          have hHeld := hHeld2
          clear hHeld2
          try simp only [Act.put, List.setIfInBounds_toArray, List.set_cons_zero, List.set_cons_succ]
          refine wpAnyH_done (by kernel_rfl) ?_ _
          refine NoPanic.normal ?_
          go_wp2
          obtain ⟨q1, q2⟩ := hG.h
          exact ⟨⟨k + 1, hkm, by go_num, q1, q2, .inl hlsn⟩, by simp only [intOf]; omega⟩
        exact AllReadyH.nil
      exact AllReadyH.nil
    · have hkm2 : k = ml := by omega
      subst hkm2
      have hlt' : ¬ ((k : Int) < k) := by omega
      have hgoals := Hid'.mk (And.intro J hP)
      clear J hO hP hJ2
      go_wp2
      clear X1 Y1
      obtain ⟨J, hP⟩ := hgoals.h
      clear hgoals
      have hPs : 0 < pl → PA s2 gb (.slice pb pl pc2) ls f 0 wr := fun h => hP.resolve_left (by rintro rfl; simp at hpl; omega)
      clear hP
      have hln : lns.length = pl := by rw [← hpl, ← hlz, List.length_map]
      go_loopw [12] (fun i wy => ∃ j : Nat, j ≤ pl ∧ i = .int .i64 j ∧ AJ s2 W2 gb what (.slice am2 k cm2) (.slice pb pl pc2) wy ∧ (j < pl → PA s2 gb (.slice pb pl pc2) ls f j wy)) (fun i _ => pl - (intOf i).toNat)
      case atStart => exact ⟨0, Nat.zero_le _, rfl, J, hPs⟩
      case round =>
        clear J hPs
        obtain ⟨j, hj, rfl, J, hP⟩ := hrel
        have hJ2 := J.bel
        rw [← hs2] at hJ2
        have X2 := cell_b hJ2 x2
        have Y2 := J.y2
        by_cases hjp : j < pl
        · as_aux_lemma =>
          have P := hP hjp
          clear hP
          obtain ⟨⟨gone, zs⟩, hp⟩ : ∃ p, ls[j]? = some p := ⟨_, List.getElem?_eq_getElem (by omega)⟩
          obtain ⟨b, off, e1, e2, e3, e4, e5⟩ := hL3 j (by omega)
          have hlj : D.lnz (lns.getD j default) = (gone, zs) := by
            have := hp
            rw [← hlz, List.getElem?_map, List.getElem?_eq_getElem (by omega)] at this
            rw [List.getD_eq_getElem?_getD, List.getElem?_eq_getElem (by omega)]
            exact Option.some.inj this
          have hgo : (lns.getD j default).gone = gone := congrArg Prod.fst hlj
          have hzs : (lns.getD j default).cl.zs = zs := congrArg Prod.snd hlj
          obtain ⟨la, hla⟩ : ∃ x, (lns.getD j default).cl.a = x := ⟨_, rfl⟩
          obtain ⟨lc, hlc⟩ : ∃ x, (lns.getD j default).cl.c = x := ⟨_, rfl⟩
          obtain ⟨ll, hll⟩ : ∃ x, zs.length = x := ⟨_, rfl⟩
          have hll9 : ll ≤ 1000000 := by rw [← hll]; exact hp9 _ (List.mem_of_getElem? hp)
          rw [hgo] at e3
          rw [hzs, hla, hlc, hll] at e4
          rw [hzs, hla] at e5
          have Z1 := cell_b hJ2 e3
          have Z2 := cell_b hJ2 e4
          subst e1
          obtain ⟨gp, rfl⟩ : ∃ g, pb = some ⟨g, 0, none⟩ := by
            rcases P.row.2 with ⟨_, e⟩ | ⟨g, _, _, e, _⟩
            · omega
            · exact ⟨g, by injection e⟩
          obtain ⟨u1, u2⟩ := pcv_get f ls 0 j _ hp
          rw [Nat.zero_add] at u2
          have R := P.rows j _ (Nat.le_refl _) hp
          have hfj := (ints_own R rfl).1
          obtain ⟨la2, hla2⟩ : ∃ x, adOf (f j) = x := ⟨_, rfl⟩
          obtain ⟨lc2, hlc2⟩ : ∃ x, cpOf (f j) = x := ⟨_, rfl⟩
          have hfj2 : f j = .slice la2 ll lc2 := by rw [hla2, hlc2] at hfj; rw [← hll]; exact hfj
          have Prow : wr.ownsRow s2 44 2 (.slice (some ⟨gp, 0, none⟩) pl pc2) pl (pcv f 0 ls) := by have := P.row; rw [hpl] at this; exact this
          have U1 : wr.cell? ⟨gp, j * 2, none⟩ = some (.bool gone) := (Prow.cellAt (j * 2) (by omega)).trans u1
          have U2 : wr.cell? ⟨gp, j * 2 + 1, none⟩ = some (.slice la2 ll lc2) := (Prow.cellAt (j * 2 + 1) (by omega)).trans (u2.trans (by rw [hfj2]))
          clear Prow
          have R2 : wr.drew.ownsRow s2 3 1 (.slice la2 ll lc2) ll ((zeroZ zs 0).map (Value.int .i64)) := by
            rw [zeroZ_zero, ← hfj2, ← hll]
            exact owns_keep R fun _ _ => rfl
          have P2 : PA s2 gb (.slice (some ⟨gp, 0, none⟩) pl pc2) ls f (j + 1) wr.drew := ⟨owns_keep P.row fun _ _ => rfl, fun i p hi hp => owns_keep (P.rows i p (by omega) hp) fun _ _ => rfl⟩
          have hjI : (j : Int) < pl := by omega
          have hG := Hid'.mk (And.intro J.drew (And.intro P2 (And.intro R2 (And.intro u2 (And.intro e5 e4)))))
          clear J P P2 R R2 u1 u2 e2 e3 e4 e5 hJ2 hfj
          go_wp2
          go_region_held3 (fun w' => w'.cell? ⟨ga, 2, none⟩ = some (.slice (some ⟨b, off, none⟩) pl pc) ∧ w'.cell? ⟨b, off + j * 2, none⟩ = some (.bool gone) ∧ w'.cell? ⟨b, off + j * 2 + 1, none⟩ = some (.slice la ll lc) ∧ w'.cell? ⟨gb, 2, none⟩ = some (.slice (some ⟨gp, 0, none⟩) pl pc2) ∧ w'.cell? ⟨gp, j * 2, none⟩ = some (.bool gone) ∧ w'.cell? ⟨gp, j * 2 + 1, none⟩ = some (.slice la2 ll lc2)) (first | exact ⟨X2, Z1, Z2, Y2, U1, U2⟩ | exact hHeld) (first | fail)
          go_wp2
          obtain ⟨J, P, R, u2, e5, e4⟩ := hG.h
          clear hG X2 Z1 Z2 Y2 U1 U2
          go_loopw [13] (fun i wz => ∃ m : Nat, m ≤ ll ∧ i = .int .i64 m ∧ AJ s2 W2 gb what (.slice am2 k cm2) (.slice (some ⟨gp, 0, none⟩) pl pc2) wz ∧ PA s2 gb (.slice (some ⟨gp, 0, none⟩) pl pc2) ls f (j + 1) wz ∧ wz.ownsRow s2 3 1 (.slice la2 ll lc2) ll ((zeroZ zs m).map (Value.int .i64))) (fun i _ => ll - (intOf i).toNat)
          case atStart => exact ⟨0, Nat.zero_le _, rfl, J, P, R⟩
          case round =>
            clear J P R
            obtain ⟨m, hm, rfl, J, P, R⟩ := hrel
            have hJ2 := J.bel
            rw [← hs2] at hJ2
            have X2 := cell_b hJ2 x2
            have Y2 := J.y2
            have Z2 := cell_b hJ2 e4
            have Prow : wr.ownsRow s2 44 2 (.slice (some ⟨gp, 0, none⟩) pl pc2) pl (pcv f 0 ls) := by have := P.row; rw [hpl] at this; exact this
            have U2 : wr.cell? ⟨gp, j * 2 + 1, none⟩ = some (.slice la2 ll lc2) := (Prow.cellAt (j * 2 + 1) (by omega)).trans (u2.trans (by rw [hfj2]))
            clear Prow
            by_cases hml2 : m < ll
            · as_aux_lemma =>
              obtain ⟨b3, off3, v1, v2, v3⟩ := e5 m (by omega)
              have Z3 := cell_b hJ2 v3
              subst v1
              obtain ⟨g3, rfl⟩ : ∃ g, la2 = some ⟨g, 0, none⟩ := by
                rcases R.2 with ⟨_, e⟩ | ⟨g, _, _, e, _⟩
                · omega
                · exact ⟨g, by injection e⟩
              have hob : (f j).ownBlock = some g3 := by rw [hfj2]; rfl
              obtain ⟨d1, d2, _, _⟩ := hD.fs j (by omega) g3 hob
              have U3 := R.cellAt m (by omega)
              rw [List.getElem?_map, zeroZ_get (by omega)] at U3
              replace U3 : wr.cell? ⟨g3, m, none⟩ = some (.int .i64 (zs.getD m 0)) := U3
              have F3 := R.frozenAt m
              obtain ⟨v, hv⟩ : ∃ v, zs.getD m 0 = v := ⟨_, rfl⟩
              rw [hv] at Z3 U3
              have hOd : wr.drew.ownsRow s2 3 1 (.slice (some ⟨g3, 0, none⟩) ll lc2) ll ((zeroZ zs m).map (Value.int .i64)) := owns_keep R fun _ _ => rfl
              have hst := (hOd.stored m (.int .i64 0)).1
              have hfs := zeroZ_succ (zs := zs) (k := m) (by omega)
              rw [← List.map_set, ← hfs] at hst
              have J2 := J.drew.set (m := m) d1 d2 (.int .i64 0)
              have P1 : PA s2 gb (.slice (some ⟨gp, 0, none⟩) pl pc2) ls f (j + 1) wr.drew := ⟨owns_keep P.row fun _ _ => rfl, fun i p hi hp => owns_keep (P.rows i p hi hp) fun _ _ => rfl⟩
              have P2 := P1.set hD (k := j) (by omega) (Nat.lt_succ_self j) (m := m) hob (.int .i64 0)
              have hmI : (m : Int) < ll := by omega
              have hG := Hid'.mk (And.intro J2 (And.intro P2 hst))
              clear J J2 P P1 P2 R hOd hst hfs hJ2 v2 v3
              have F3' : wr.drew.frozen? ⟨g3, m, none⟩ = false := F3
              have X2' : wr.drew.cell? ⟨ga, 2, none⟩ = _ := X2
              have Y2' : wr.drew.cell? ⟨gb, 2, none⟩ = _ := Y2
              have U2' : wr.drew.cell? ⟨gp, j * 2 + 1, none⟩ = _ := U2
              have U3' : wr.drew.cell? ⟨g3, m, none⟩ = _ := U3
              go_wp2
              go_region_held3 (fun w' => w'.cell? ⟨ga, 2, none⟩ = some (.slice (some ⟨b, off, none⟩) pl pc) ∧ w'.cell? ⟨b, off + j * 2 + 1, none⟩ = some (.slice (some ⟨b3, off3, none⟩) ll lc) ∧ w'.cell? ⟨b3, off3 + m, none⟩ = some (.int .i64 v) ∧ w'.cell? ⟨gb, 2, none⟩ = some (.slice (some ⟨gp, 0, none⟩) pl pc2) ∧ w'.cell? ⟨gp, j * 2 + 1, none⟩ = some (.slice (some ⟨g3, 0, none⟩) ll lc2) ∧ w'.cell? ⟨g3, m, none⟩ = some (.int .i64 v)) (first | exact ⟨X2, Z2, Z3, Y2, U2, U3⟩ | exact hHeld) (first | fail)
              go_wp2
              obtain ⟨q1, q2, q3⟩ := hG.h
              exact ⟨⟨m + 1, hml2, by go_num, q1, q2, q3⟩, by simp only [intOf]; omega⟩
            · as_aux_lemma =>
              have hml3 : m = ll := by omega
              have hlt2 : ¬ ((m : Int) < ll) := by omega
              have hG := Hid'.mk (And.intro J P)
              clear J P R hJ2
              go_wp2
              obtain ⟨q1, q2⟩ := hG.h
              exact ⟨⟨j + 1, hjp, by go_num, q1, fun _ => q2⟩, by simp only [intOf]; omega⟩
        · as_aux_lemma =>
          have hjp2 : j = pl := by omega
          have hlt2 : ¬ ((j : Int) < pl) := by omega
          have X0 := cell_b hJ2 x0
          have X1 := cell_b hJ2 x1
          have G0 := cell_b hJ2 g0
          have G1 := cell_b hJ2 g1
          have hbw := hbx.trans (J.bel.mono (by have := hbx.size; omega))
          have hBw := hB3.below hJ2
          have hLw := hL3.below hJ2
          have hzw := hz2.below hJ2
          clear J hP
          by_cases hq0 : q = 0
          · have hrw : Calls Try.prog 13 #[.agg #[.int .i64 vars, .slice a n c], .agg #[.int .i64 what, .slice am k cm, .slice pa pl pc]] wr (AlOut w) := hri hq0 hbw hBw hlz hLw hzw
            subst hq0
            clear hri hBw hLw hzw hJ2 hB3 hL3
            go_wp2_with (first | (go_at_call 12; refine (hnum _ _).mono ?_; rintro e w6 ⟨p1, p2⟩; rw [p1, p2]; clear p1 p2) | (go_at_call 13; refine hrw.mono ?_; rintro e w7 ⟨p1, p2⟩; rw [p1]; clear p1))
            go_ret
            exact ⟨rfl, p2⟩
          · have hqb : (q != 0) = true := by simpa using hq0
            clear hri hBw hLw hzw hJ2 hB3 hL3
            go_wp2_with (first | (go_at_call 12; refine (hnum _ _).mono ?_; rintro e w6 ⟨p1, p2⟩; rw [p1, p2]; clear p1 p2))
            go_ret
            exact ⟨rfl, hbw⟩
end Go.Proofs.Ytkpppmldbhgcgaa

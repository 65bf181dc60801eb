/- Kind: a tick as the program tells it (Step), walked. -/
import Derived.Test.YtdgnafjllokioaaGreatDoorKG
set_option linter.unusedVariables false
set_option linter.unusedSimpArgs false
set_option autoImplicit false
set_option linter.unusedVariables false
set_option linter.unusedSimpArgs false
namespace Go.Proofs.YtdgnafjllokioaaGreatDoor
open Go.Proofs Go
open Go.RowKit Kb
set_option maxHeartbeats 4000000 in
set_option maxRecDepth 1000000 in
theorem at_walk (vb : Nat) (a : Option Addr) (n c : Nat) (vs : List Bool) (x : Int) (w : World) (hn : vs.length = n) (hlen : n ≤ 1000000) (hx : wOK n x) (hz : Bools w a vs) (hv : w.cell? ⟨vb, 0, none⟩ = some (.slice a n c)) :
    Calls Tryz.prog 60 #[.int .i64 x, .pointer (some ⟨vb, 0, none⟩)] w fun e w' => e = .returned (.bool (atZ vs x)) ∧ w' = w := by
  obtain ⟨m, hm, hxm, hd⟩ := wire_div hx
  obtain ⟨b, off, rfl, hb, hc⟩ := hz m (by omega)
  have hat : atZ vs x = (vs.getD m false != (x % 2 == 1)) := by unfold atZ; rw [hd]
  obtain ⟨u, hu⟩ : ∃ u, vs.getD m false = u := ⟨_, rfl⟩
  rw [hu] at hc hat
  go_enter Tryz.func60, Tryz.ntmps60
  rcases hxm with rfl | rfl
  · have e1 : (2 * (m : Int)).tdiv 2 = m := by rw [Int.tdiv_eq_ediv_of_nonneg (by omega)]; omega
    have e2 : (2 * (m : Int)).tmod 2 = 0 := by rw [Int.tmod_eq_emod_of_nonneg (by omega)]; omega
    have e3 : (2 * (m : Int)) % 2 = 0 := by omega
    rw [e3] at hat
    go_wp2
    go_ret
    rw [hat]
    cases u <;> exact ⟨rfl, rfl⟩
  · have e1 : (2 * (m : Int) + 1).tdiv 2 = m := by rw [Int.tdiv_eq_ediv_of_nonneg (by omega)]; omega
    have e2 : (2 * (m : Int) + 1).tmod 2 = 1 := by rw [Int.tmod_eq_emod_of_nonneg (by omega)]; omega
    have e3 : (2 * (m : Int) + 1) % 2 = 1 := by omega
    rw [e3] at hat
    go_wp2
    go_ret
    rw [hat]
    cases u <;> exact ⟨rfl, rfl⟩
theorem bools_at {w w' : World} {g lo : Nat} {vs : List Bool} (h : Bools w (some ⟨g, 0, none⟩) vs) (hg : g < lo) (hb : Below lo w w') : Bools w' (some ⟨g, 0, none⟩) vs := fun j hj => by
  obtain ⟨b, off, e1, e2, e3⟩ := h j hj
  injection e1 with e1
  injection e1 with e4 e5
  subst e4 e5
  exact ⟨_, _, rfl, Nat.lt_of_lt_of_le e2 hb.size, (hb.cell (by exact hg)).trans e3⟩
/-- the values' row, and the variable that holds it -/
structure WV (g vb n : Nat) (vs : List Bool) (w wr : World) : Prop where
  r : WR 0 g n vs w wr
  vc : wr.cell? ⟨vb, 0, none⟩ = some (.slice (some ⟨g, 0, none⟩) n n)
  gv : g < vb
theorem WV.set {g vb n : Nat} {vs vs' : List Bool} {w wr : World} (h : WV g vb n vs w wr) (k : Nat) (x : Bool) (e : vs.set k x = vs') : WV g vb n vs' w (wr.setCell ⟨g, k, none⟩ (.bool x)) := by
  have h1 := h.gv
  exact ⟨h.r.set k x e, by rw [World.cell?_setCell_other _ ⟨g, k, none⟩ ⟨vb, 0, none⟩ _ (by intro e; injection e; omega)]; exact h.vc, h1⟩
theorem WV.drew {g vb n : Nat} {vs : List Bool} {w wr : World} (h : WV g vb n vs w wr) : WV g vb n vs w wr.drew := ⟨h.r.drew, h.vc, h.gv⟩
theorem WV.alloc {g vb n : Nat} {vs : List Bool} {w wr : World} (h : WV g vb n vs w wr) (o : Obj) : WV g vb n vs w (wr.alloc o) := by
  have hb := (Below.refl wr.heap.size wr).alloc (Nat.le_refl _) o
  have hs := h.r.size
  exact ⟨⟨own_below' h.r.row hb, h.r.bel.trans (hb.mono (Nat.le_of_lt hs)), Nat.lt_of_lt_of_le hs hb.size, h.r.len⟩, cell_b hb h.vc, h.gv⟩
set_option maxHeartbeats 8000000 in
set_option maxRecDepth 1000000 in
theorem step_walk (d : SA) (y : Sy) (gn nn im : Nat) (sa : Option Addr) (sc : Nat) (st : List Bool) (ia : Option Addr) (ic : Nat) (inp : List Bool) (w : World) (hy : Kb.Good y) (hgn : y.gates.length = gn) (hnn : y.now.length = nn) (him : y.ins.length = im) (hg9 : gn ≤ 1000) (hn9 : nn ≤ 100) (hi9 : im ≤ 100)
    (hsys : SysAt w d y) (hst : st.length = nn) (hsz : Bools w sa st) (hin : inp.length = im) (hiz : Bools w ia inp) :
    Calls Tryz.prog 38 #[.agg (sysC d gn nn im y.ok y.asm), .slice sa nn sc, .slice ia im ic] w (StepOut w y st inp) := by
  obtain ⟨ga, na, xa, ya, ba, gc, nc, xc, yc, bc⟩ := d
  obtain ⟨s, hs⟩ : ∃ s, w.heap.size = s := ⟨_, rfl⟩
  obtain ⟨W1, hW1⟩ : ∃ W, w.alloc (.cells (sysC ⟨ga, na, xa, ya, ba, gc, nc, xc, yc, bc⟩ gn nn im y.ok y.asm) 28) = W := ⟨_, rfl⟩
  have hb0 : Below s w W1 := by rw [← hW1, ← hs]; exact (Below.refl w.heap.size w).alloc (Nat.le_refl _) _
  have hsb : SB s ⟨ga, na, xa, ya, ba, gc, nc, xc, yc, bc⟩ gn nn im y.ok y.asm W1 := by rw [← hW1, ← hs]; exact sb_new ..
  have hmk26 := fun w => run_make_row' (P := Tryz.prog) 26 4 (.bool false) 1 Tryz.underlying26 info4 rfl .i64 .i64 gn (by omega) (by omega) w
  have hall : ∀ W, Below s w W → SysAt W ⟨ga, na, xa, ya, ba, gc, nc, xc, yc, bc⟩ y ∧ Bools W sa st ∧ Bools W ia inp := fun W hb => ⟨hsys.below (hs ▸ hb), hsz.below (hs ▸ hb), hiz.below (hs ▸ hb)⟩
  obtain ⟨ok, hok⟩ : ∃ x, y.ok = x := ⟨_, rfl⟩
  obtain ⟨asm, hasm⟩ : ∃ x, y.asm = x := ⟨_, rfl⟩
  rw [hok, hasm] at hW1 hsb ⊢
  have hx9 : y.next.length = nn := by rw [hy.nx, hnn]
  unfold StepOut
  rw [hs, hnn]
  clear hsys hsz hiz
  unfold sysC at hW1 ⊢
  dsimp only at hW1 ⊢
  go_enter Tryz.func38, Tryz.ntmps38
  go_upto_region 1 with fail
  clear hs hW1
  have c0 := hsb.c0
  dsimp only at c0
  obtain ⟨g, hg⟩ : ∃ g, W1.heap.size = g := ⟨_, rfl⟩
  obtain ⟨W2, hW2⟩ : ∃ W, (W1.alloc (.cells (madeCells #[.bool false] gn) 4)).alloc (.cells #[.slice (some ⟨g, 0, none⟩) gn gn] 26) = W := ⟨_, rfl⟩
  obtain ⟨vb, hvb⟩ : ∃ b, (W1.alloc (.cells (madeCells #[.bool false] gn) 4)).heap.size = b := ⟨_, rfl⟩
  have hWR : WV g vb gn (setAll (List.replicate gn false) (y.now.take 0) (st.take 0)) W1 W2 := by
    rw [← hW2, ← hvb, ← hg, List.take_zero, List.take_zero]
    simp only [setAll]
    have h1 := wr_new W1 gn (by omega)
    have hb := (Below.refl (W1.alloc (.cells (madeCells #[.bool false] gn) 4)).heap.size _).alloc (Nat.le_refl _) (.cells #[.slice (some ⟨W1.heap.size, 0, none⟩) gn gn] 26)
    exact ⟨⟨own_below' h1.row hb, h1.bel.trans (hb.mono (Nat.le_of_lt h1.size)), Nat.lt_of_lt_of_le h1.size hb.size, h1.len⟩, (cell_new ..).trans rfl, h1.size⟩
  have hsg : s < g := by rw [← hg]; exact hsb.lt
  go_upto_region 2 with fail
  clear hg hW2 hvb c0 hmk26
  have c1 := (hsb.below hsg hWR.r.bel).c1
  dsimp only at c1
  go_wp2
  go_loopw [28] (fun iv wr => ∃ k : Nat, k ≤ nn ∧ iv = .int .i64 k ∧ WV g vb gn (setAll (List.replicate gn false) (y.now.take k) (st.take k)) W1 wr) (fun iv _ => nn - (intOf iv).toNat)
  case atStart => exact ⟨0, Nat.zero_le _, rfl, hWR⟩
  case round =>
    clear hWR c1
    obtain ⟨k, hk, rfl, hR⟩ := hrel
    have hSB := hsb.below hsg hR.r.bel
    have hbw := hb0.trans (hR.r.bel.mono (Nat.le_of_lt hsg))
    by_cases hlt : k < nn
    · have hltI : (k : Int) < nn := by omega
      obtain ⟨h1, h2, _⟩ := hall wr hbw
      obtain ⟨nb, no, hna, hnb, n0⟩ := h1.n k (by omega)
      dsimp only at hna
      subst hna
      obtain ⟨tb, to, rfl, htb, t0⟩ := h2 k (by omega)
      have hse := setAll_take (ws := y.now) (bs := st) (v := List.replicate gn false) (k := k) (by omega) (by omega)
      obtain ⟨x, hx⟩ : ∃ x, y.now.getD k 0 = x := ⟨_, rfl⟩
      have hxw : wOK gn x := by
        have hm : x ∈ y.now ++ y.ins := by rw [← hx, getD_lt (by omega)]; exact List.mem_append_left _ (List.getElem_mem _)
        have := (hy.inw x hm).1
        rwa [hgn] at this
      obtain ⟨m, hm, hxm, hd⟩ := wire_div hxw
      obtain ⟨u, hu⟩ : ∃ u, st.getD k false = u := ⟨_, rfl⟩
      rw [hx] at n0 hse
      rw [hu] at t0 hse
      rw [hd] at hse
      have hR2 := hR.drew.set m u hse.symm
      obtain ⟨r1, r2⟩ := hR.r.cell hm
      have vc := hR.vc
      have hdiv : x.tdiv 2 = m := by
        have : 0 ≤ x := hxw.1
        rw [Int.tdiv_eq_ediv_of_nonneg this]; omega
      have hA : Aside (WV g vb gn (setAll (List.replicate gn false) (y.now.take (k + 1)) (st.take (k + 1))) W1 (wr.drew.setCell ⟨g, m, none⟩ (.bool u))) := hR2
      clear hR hSB hbw hall h1 h2 hse hx hxw hxm hd hu hR2
      go_wp2
      go_still_tail 7, (by kernel_rfl)
      change wpList _ _ _ _ _ wr.drew
      replace r1 : wr.drew.cell? ⟨g, m, none⟩ = _ := r1
      replace r2 : wr.drew.frozen? ⟨g, m, none⟩ = false := r2
      generalize wr.drew = wd at hA r1 r2 ⊢
      go_wp2
      go_roundw
      case rel => exact ⟨k + 1, hlt, by go_num, hA.out⟩
      case measure => simp [intOf]; omega
    · have hkn : k = nn := by omega
      subst hkn
      have hlt' : ¬ (k : Int) < k := by omega
      rw [List.take_of_length_le (by omega), List.take_of_length_le (by omega)] at hR
      obtain ⟨v1, hv1⟩ : ∃ v, setAll (List.replicate gn false) y.now st = v := ⟨_, rfl⟩
      rw [hv1] at hR
      have hWR : WV g vb gn (setAll v1 (y.ins.take 0) (inp.take 0)) W1 wr := by
        rw [List.take_zero, List.take_zero]; simp only [setAll]; exact hR
      have c3 := hSB.c3
      dsimp only at c3
      clear hR hSB hbw
      go_wp2
      go_loopw [45] (fun iv wr => ∃ q : Nat, q ≤ im ∧ iv = .int .i64 q ∧ WV g vb gn (setAll v1 (y.ins.take q) (inp.take q)) W1 wr) (fun iv _ => im - (intOf iv).toNat)
      case atStart => exact ⟨0, Nat.zero_le _, rfl, hWR⟩
      case round =>
        clear hWR c3
        obtain ⟨q, hq, rfl, hR⟩ := hrel
        have hSB := hsb.below hsg hR.r.bel
        have hbw := hb0.trans (hR.r.bel.mono (Nat.le_of_lt hsg))
        by_cases hlt : q < im
        · have hltI : (q : Int) < im := by omega
          obtain ⟨h1, _, h2⟩ := hall wr hbw
          obtain ⟨nb, no, hna, hnb, n0⟩ := h1.i q (by omega)
          dsimp only at hna
          subst hna
          obtain ⟨tb, to, rfl, htb, t0⟩ := h2 q (by omega)
          have hse := setAll_take (ws := y.ins) (bs := inp) (v := v1) (k := q) (by omega) (by omega)
          obtain ⟨x, hx⟩ : ∃ x, y.ins.getD q 0 = x := ⟨_, rfl⟩
          have hxw : wOK gn x := by
            have hm : x ∈ y.now ++ y.ins := by rw [← hx, getD_lt (by omega)]; exact List.mem_append_right _ (List.getElem_mem _)
            have := (hy.inw x hm).1
            rwa [hgn] at this
          obtain ⟨m, hm, hxm, hd⟩ := wire_div hxw
          obtain ⟨u, hu⟩ : ∃ u, inp.getD q false = u := ⟨_, rfl⟩
          rw [hx] at n0 hse
          rw [hu] at t0 hse
          rw [hd] at hse
          have hR2 := hR.drew.set m u hse.symm
          obtain ⟨r1, r2⟩ := hR.r.cell hm
          have vc := hR.vc
          have hdiv : x.tdiv 2 = m := by
            have : 0 ≤ x := hxw.1
            rw [Int.tdiv_eq_ediv_of_nonneg this]; omega
          have hA : Aside (WV g vb gn (setAll v1 (y.ins.take (q + 1)) (inp.take (q + 1))) W1 (wr.drew.setCell ⟨g, m, none⟩ (.bool u))) := hR2
          clear hR hSB hbw hall h1 h2 hse hx hxw hxm hd hu hR2
          go_wp2
          go_still_tail 7, (by kernel_rfl)
          change wpList _ _ _ _ _ wr.drew
          replace r1 : wr.drew.cell? ⟨g, m, none⟩ = _ := r1
          replace r2 : wr.drew.frozen? ⟨g, m, none⟩ = false := r2
          generalize wr.drew = wd at hA r1 r2 ⊢
          go_wp2
          go_roundw
          case rel => exact ⟨q + 1, hlt, by go_num, hA.out⟩
          case measure => simp [intOf]; omega
        · -- [C
          have hqn : q = im := by omega
          subst hqn
          have hlt' : ¬ (q : Int) < q := by omega
          rw [List.take_of_length_le (by omega), List.take_of_length_le (by omega)] at hR
          obtain ⟨v0, hv0⟩ : ∃ v, setAll v1 y.ins inp = v := ⟨_, rfl⟩
          rw [hv0] at hR
          have hl0 : v0.length = gn := hR.r.len
          have hbase : baseZ y st inp = v0 := by rw [← hv0, ← hv1, ← hgn]; rfl
          have hvals : valsZ y st inp = valZ y.gates v0 gn := by unfold valsZ; rw [hbase, hgn]
          have hWV : WV g vb gn (curZ y.gates v0 0) W1 wr := by rw [curZ_zero]; exact hR
          have hmf : ∀ (fn : Fn) (first cap : Array Value) (w : World), (Instr.makeFunc fn first cap).run Tryz.prog w = .ok (.func fn first cap) w := fun _ _ _ _ => rfl
          have c0 := hSB.c0
          dsimp only at c0
          clear hR hv1 hv0 hbase hbw hSB
          go_wp2
          go_loopw [64] (fun iv wr => ∃ i : Nat, i ≤ gn ∧ iv = .int .i64 i ∧ WV g vb gn (curZ y.gates v0 i) W1 wr) (fun iv _ => gn - (intOf iv).toNat)
          case atStart => exact ⟨0, Nat.zero_le _, rfl, hWV⟩
          case round =>
            clear hWV c0
            obtain ⟨i, hi, rfl, hR⟩ := hrel
            have hSB := hsb.below hsg hR.r.bel
            have hbw := hb0.trans (hR.r.bel.mono (Nat.le_of_lt hsg))
            by_cases hlt : i < gn
            · have hltI : (i : Int) < gn := by omega
              obtain ⟨h1, _, _⟩ := hall wr hbw
              obtain ⟨gb, go, hga, hgb, g0, g1, g2⟩ := h1.g i (by omega)
              dsimp only at hga
              subst hga
              have hok := hy.net i (by omega)
              unfold gOK at hok
              obtain ⟨o, ho⟩ : ∃ o, opZ y.gates i = o := ⟨_, rfl⟩
              obtain ⟨x, hx⟩ : ∃ o, aZ y.gates i = o := ⟨_, rfl⟩
              obtain ⟨z, hz⟩ : ∃ o, bZ y.gates i = o := ⟨_, rfl⟩
              rw [ho, hx, hz] at hok
              rw [ho] at g0
              rw [hx] at g1
              rw [hz] at g2
              obtain ⟨q0, q1, q2⟩ := gate_box wr o x z
              have hR2 := hR.alloc (.cells #[.int .i64 o, .int .i64 x, .int .i64 z] 51)
              by_cases o3 : o = 3
              · subst o3
                have hb4 : 0 ≤ x ∧ x < 2 * i ∧ 0 ≤ z ∧ z < 2 * i := by omega
                obtain ⟨x1, x2, z1, z2⟩ := hb4
                have hset := hR2.drew.set (vs' := curZ y.gates v0 (i + 1)) i (atZ (curZ y.gates v0 i) x && atZ (curZ y.gates v0 i) z) (by rw [curZ_and (by omega : i < v0.length) ho (by omega) (by omega) (by omega) (by omega), hx, hz])
                have hcl := curZ_len (gs := y.gates) (v0 := v0) (k := i) (by omega)
                have hwx := at_walk vb (some ⟨g, 0, none⟩) gn gn (curZ y.gates v0 i) x _ (by omega) (by omega) ⟨by omega, by omega⟩ hR2.drew.r.bools hR2.drew.vc
                have hwz := at_walk vb (some ⟨g, 0, none⟩) gn gn (curZ y.gates v0 i) z _ (by omega) (by omega) ⟨by omega, by omega⟩ hR2.drew.r.bools hR2.drew.vc
                obtain ⟨r1, r2⟩ := hR2.r.cell hlt
                have vc := hR2.vc
                have hA : Aside (WV g vb gn (curZ y.gates v0 (i + 1)) W1 ((wr.alloc (.cells #[.int .i64 3, .int .i64 x, .int .i64 z] 51)).drew.setCell ⟨g, i, none⟩ (.bool (atZ (curZ y.gates v0 i) x && atZ (curZ y.gates v0 i) z)))) := hset
                obtain ⟨ux, hux⟩ : ∃ u, atZ (curZ y.gates v0 i) x = u := ⟨_, rfl⟩
                obtain ⟨uz, huz⟩ : ∃ u, atZ (curZ y.gates v0 i) z = u := ⟨_, rfl⟩
                rw [hux] at hwx hA
                rw [huz] at hwz hA
                clear hR hR2 hset hSB hbw hall h1 ho hx hz hok hvals hux huz hcl
                obtain ⟨Wg, hWg⟩ : ∃ W, wr.alloc (.cells #[.int .i64 3, .int .i64 x, .int .i64 z] 51) = W := ⟨_, rfl⟩
                rw [hWg] at q0 q1 q2 hwx hwz r1 r2 vc hA
                go_upto_region 17 with fail
                clear hWg
                cases ux
                · go_still_tail 12, (by kernel_rfl)
                  still_call hwx
                  repeat still_step
                  refine wpStill_nil ?_
                  change wpList _ _ _ _ _ Wg.drew
                  replace r1 : Wg.drew.cell? ⟨g, i, none⟩ = _ := r1
                  replace r2 : Wg.drew.frozen? ⟨g, i, none⟩ = false := r2
                  clear q0 q1 q2 hwx hwz vc
                  generalize Wg.drew = wd at hA r1 r2 ⊢
                  go_wp2
                  go_roundw
                  case rel => exact ⟨i + 1, hlt, by go_num, by simpa using hA.out⟩
                  case measure => simp [intOf]; omega
                · go_still_tail 12, (by kernel_rfl)
                  still_call hwx
                  repeat still_step
                  still_call hwz
                  repeat still_step
                  refine wpStill_nil ?_
                  change wpList _ _ _ _ _ Wg.drew
                  replace r1 : Wg.drew.cell? ⟨g, i, none⟩ = _ := r1
                  replace r2 : Wg.drew.frozen? ⟨g, i, none⟩ = false := r2
                  clear q0 q1 q2 hwx hwz vc
                  generalize Wg.drew = wd at hA r1 r2 ⊢
                  go_wp2
                  go_roundw
                  case rel => exact ⟨i + 1, hlt, by go_num, by simpa using hA.out⟩
                  case measure => simp [intOf]; omega
              · have hne : (o == 3) = false := beq_false_of_ne o3
                have hA : Aside (WV g vb gn (curZ y.gates v0 (i + 1)) W1 (wr.alloc (.cells #[.int .i64 o, .int .i64 x, .int .i64 z] 51))) := by
                  unfold Aside
                  rw [curZ_other (by omega) (by rw [ho]; exact o3)]
                  exact hR2
                clear hR hR2 hSB hbw hall h1 ho hx hz hok o3 hvals
                go_wp2
                go_roundw
                case rel => exact ⟨i + 1, hlt, by go_num, hA.out⟩
                case measure => simp [intOf]; omega
            · -- [D
              have hin2 : i = gn := by omega
              subst hin2
              have hlt' : ¬ (i : Int) < i := by omega
              have hce : curZ y.gates v0 i = valsZ y st inp := by
                have := curZ_end y.gates v0
                rw [hl0] at this
                rw [this, hvals]
              rw [hce] at hR
              obtain ⟨vs, hvs⟩ : ∃ l, valsZ y st inp = l := ⟨_, rfl⟩
              rw [hvs] at hR
              have hvl : vs.length = i := hR.r.len
              have hB0 := hR.r.bools
              have vc0 := hR.vc
              have hgvb := hR.gv
              obtain ⟨i0, hi0, hj0, hj1, hj2⟩ := info_parts' info4
              obtain ⟨lo, hlo⟩ : ∃ n, wr.heap.size = n := ⟨_, rfl⟩
              have hslo : s < lo := by rw [← hlo]; exact hSB.lt
              have hsz0 : s < wr.heap.size := hSB.lt
              have hwir : ∀ x, x ∈ y.next ++ [y.ok, y.asm] → wOK i x := fun x hx => by
                have := hy.wires x hx
                rwa [hgn] at this
              have c2 := hSB.c2
              dsimp only at c2
              have hvlt : vb < wr.heap.size := cellLt vc0
              clear hR hce hvals hl0 hsb
              go_upto_region 20 with (at_make; refine wpList_make_own _ rfl _ _ 26 rfl lo 4 i0 (.bool false) 1 Tryz.underlying26 hi0 hj0 hj1 .i64 .i64 _ k rfl rfl rfl (by rw [hj2]; omega) (by unfold maxLen; omega) (by omega) ?_; intro w4 hown4 hgrow4)
              have hb4 : Below lo wr w4 := by
                have := (Below.refl lo wr).grown hgrow4 (by omega) (fun g hg => by cases hg)
                exact this
              have hbl4 : Below wr.heap.size wr w4 := by rw [hlo]; exact hb4
              have hB4 := hB0.below hbl4
              have vc4 := cell_b hbl4 vc0
              have hSB4 := hSB.below hslo hb4
              have hbw4 := hbw.trans (hb4.mono (Nat.le_of_lt hslo))
              have hsz4 : lo ≤ w4.heap.size := by rw [← hlo]; exact hb4.size
              have hvlt4 : vb < lo := by omega
              rw [hlo] at hown4
              clear hgrow4 hb4 hbl4 hB0 vc0 hSB hbw c2 hlo hvlt hsz0
              have hown4 : w4.ownsRow lo 4 1 (.slice (some ⟨lo, 0, none⟩) 0 k) 0 (nxB vs y.next 0) := hown4
              have hgv : g < lo := by omega
              have c2 := hSB4.c2
              dsimp only at c2
              have hrefl : Below lo w4 w4 := Below.refl _ _
              go_wp2
              go_loopw [17, 93] (fun lv jv wr => ∃ r : Nat, r ≤ k ∧ jv = .int .i64 r ∧ wr.ownsRow lo 4 1 lv r (nxB vs y.next r) ∧ Below lo w4 wr) (fun _ jv _ => k - (intOf jv).toNat)
              case atStart => exact ⟨0, Nat.zero_le _, rfl, hown4, hrefl⟩
              case round =>
                clear hown4 hrefl c2
                obtain ⟨r, hr, rfl, hrow, hb⟩ := hrel
                have hsz : lo ≤ wr.heap.size := Nat.le_trans hsz4 hb.size
                have hbw6 := hbw4.trans (hb.mono (Nat.le_of_lt hslo))
                have hSB6 := hSB4.below hslo hb
                have hB6 := bools_at hB4 hgv hb
                have vc6 := (hb.cell (p := ⟨vb, 0, none⟩) hvlt4).trans vc4
                by_cases hlt : r < k
                · have hltI : (r : Int) < k := by omega
                  obtain ⟨h1, _, _⟩ := hall wr hbw6
                  obtain ⟨xb, xo, hxa, hxb, x0⟩ := h1.x r (by omega)
                  dsimp only at hxa
                  subst hxa
                  obtain ⟨x, hx⟩ : ∃ x, y.next[r]? = some x := ⟨_, List.getElem?_eq_getElem (by omega)⟩
                  have hxg : y.next.getD r 0 = x := by rw [List.getD_eq_getElem?_getD, hx]; rfl
                  rw [hxg] at x0
                  have hwx := at_walk vb (some ⟨g, 0, none⟩) i i vs x wr hvl (by omega) (hwir x (List.mem_append_left _ (List.mem_of_getElem? hx))) hB6 vc6
                  have hnb := nxB_succ (vs := vs) hx
                  obtain ⟨u, hu⟩ : ∃ u, atZ vs x = u := ⟨_, rfl⟩
                  rw [hu] at hwx hnb
                  obtain ⟨hrow2, hsz2, hgr⟩ := row_push (ob := .cells #[.bool u] 4) hrow hsz rfl
                  have hK : Aside ((∀ (i : Nat) (x : Value), [Value.bool u][i]? = some x → (wr.alloc (.cells #[.bool u] 4)).cell? ((⟨wr.heap.size, 0, none⟩ : Addr).add i) = some x) ∧ (∀ x ∈ [Value.bool u], x.oneCell' = true) ∧ r + 1 ≤ maxLen ∧ (r + 1) * 1 ≤ 140737488355328) :=
                    ⟨one_new wr _ 4, fun x hx => by rw [List.mem_singleton.1 hx]; rfl, by unfold maxLen; omega, by omega⟩
                  have hsu : Aside (nxB vs y.next (r + 1) = nxB vs y.next r ++ [.bool u]) := hnb
                  obtain ⟨vv, hvv⟩ : ∃ v, v = u17 := ⟨_, rfl⟩
                  subst hvv
                  have hbA : Aside (Below lo w4 wr ∧ ∀ w3, (wr.alloc (.cells #[.bool u] 4)).grownBy w3 vv.ownBlock → Below lo wr w3) := ⟨hb, hgr⟩
                  clear hnb hx hxg hu hall hB4 hB6 hSB4 hSB6 hbw4 hbw6 hb hgr hrow hwir h1 vc4 vc6
                  go_wp2_with (first | (go_at_call 60; refine hwx.mono ?_; rintro e w6 ⟨p1, p2⟩; rw [p1, p2]; clear p1 p2) | (at_builtin; refine wpList_append_own _ rfl _ _ 26 rfl lo 4 i0 (.bool false) 1 1 Tryz.underlying26 hi0 hj0 hj1 hj2 rfl (by decide) _ _ _ rfl hrow2 ⟨wr.heap.size, 0, none⟩ 1 1 [.bool u] rfl rfl hK.out.1 hK.out.2.1 hK.out.2.2.1 hK.out.2.2.2 hsz2 ?_))
                  intro v' w3 hown hgrow hnn2
                  have hG : Aside (w3.ownsRow lo 4 1 v' (r + 1) (nxB vs y.next (r + 1)) ∧ Below lo w4 w3) := by
                    refine ⟨?_, hbA.out.1.trans (hbA.out.2 w3 hgrow)⟩
                    rw [hsu.out]
                    exact hown
                  clear hown hgrow hnn2 hbA hrow2 hK hsz2 hsu
                  go_wp2
                  go_roundw
                  case rel => exact ⟨r + 1, hlt, by go_num, hG.out.1, hG.out.2⟩
                  case measure => simp [intOf]; omega
                · -- [E
                  have hrn : r = k := by omega
                  subst hrn
                  have hlt' : ¬ (r : Int) < r := by omega
                  have c5 := hSB6.c5
                  have c6 := hSB6.c6
                  have hww := fun x (hx : wOK i x) (q : Nat) => at_walk vb (some ⟨g, 0, none⟩) i i vs x (wr.drewN q) hvl (by omega) hx hB6 vc6
                  have hoo : wOK i ok := hwir ok (by rw [hok]; simp)
                  have haa : wOK i asm := hwir asm (by rw [hasm]; simp)
                  have hA : Aside (wr.ownsRow lo 4 1 u17 r (nxB vs y.next r) ∧ Below s w wr) := ⟨hrow, hbw6⟩
                  have hok2 : okZ y st inp = atZ vs ok := by unfold okZ; rw [hvs, hok]
                  have hasm2 : asmZ y st inp = atZ vs asm := by unfold asmZ; rw [hvs, hasm]
                  have hnx2 : (nextZ y st inp).map Value.bool = nxB vs y.next r := by unfold nextZ; rw [hvs]; exact (nxB_end hx9).symm
                  have hE : Aside (okZ y st inp = atZ vs ok ∧ asmZ y st inp = atZ vs asm ∧ (nextZ y st inp).map Value.bool = nxB vs y.next r) := ⟨hok2, hasm2, hnx2⟩
                  clear hok2 hasm2 hnx2 hvs hwir hall hB4 hSB4 hSB6 hbw4 hbw6 hb hrow
                  go_wp2
                  go_quiet (first | (go_at_call 60; refine Calls.quiet_of_same (hww _ (by first | exact hoo | exact haa) _)))
                  go_wp2
                  refine bodyPost_ret (v := .tuple #[u17, .bool (atZ vs ok), .bool (atZ vs asm)]) (by simp [results, Tryz.f38, go_sem]) rfl ?_
                  obtain ⟨e1, e2, e3⟩ := hE.out
                  refine ⟨u17, by rw [e1, e2], ?_, ?_⟩
                  · rw [e3]
                    exact owns_base (own_below' hA.out.1 (below_drewN (Below.refl _ _) _)) (Nat.le_of_lt hslo)
                  · exact below_drewN hA.out.2 _
                  -- E]
              -- D]
          -- C]
end Go.Proofs.YtdgnafjllokioaaGreatDoor

/- Kind: all states, one behind the other (wide), walked: -/
import Derived.Test.YtdgnafjllokioaaGreatDoorKS
set_option linter.unusedVariables false
set_option linter.unusedSimpArgs false
set_option autoImplicit false
set_option linter.unusedVariables false
set_option linter.unusedSimpArgs false
namespace Go.Proofs.YtdgnafjllokioaaGreatDoor
open Go.Proofs Go
open Go.RowKit Kb
set_option maxHeartbeats 8000000 in
set_option maxRecDepth 1000000 in
theorem wide_walk (cb : Nat) (d : SA) (y : Sy) (gn nn im k : Nat) (w : World) (hsb : SB cb d gn nn im y.ok y.asm w) (hy : Kb.Good y) (hgn : y.gates.length = gn) (hnn : y.now.length = nn) (him : y.ins.length = im) (hg9 : gn ≤ 400) (hn9 : nn ≤ 8) (hi9 : im ≤ 3) (hk9 : k ≤ 20) (hsys : SysAt w d y) (hba : d.ba = none → nn = 0 ∧ d.bc = 0) :
    Calls Tryz.prog 17 #[.pointer (some ⟨cb, 0, none⟩), .int .i64 (k : Int)] w (WideOut y k w) := by
  obtain ⟨lo, hlo⟩ : ∃ n, w.heap.size = n := ⟨_, rfl⟩
  have hcb : cb < lo := hlo ▸ hsb.lt
  have hbn : y.init.length = nn := by rw [hy.it, hnn]
  have hall : ∀ W, Below lo w W → SB cb d gn nn im y.ok y.asm W ∧ SysAt W d y := fun W hb => ⟨hsb.below hcb hb, hsys.below (hlo ▸ hb)⟩
  obtain ⟨W1, hW1⟩ : ∃ W, w.alloc (.cells #[.int .i64 0, .int .i64 0, .slice none 0 0] 33) = W := ⟨_, rfl⟩
  have hb1 : Below lo w W1 := by rw [← hW1, ← hlo]; exact (Below.refl _ _).alloc (Nat.le_refl _) _
  have hbox1 : W1.heap[lo]? = some (.cells #[.int .i64 0, .int .i64 0, .slice none 0 0] 33) := by rw [← hW1, ← hlo]; exact heap_new w _
  have hst := start_walk d y gn nn im W1 hbn (by omega) (hall W1 hb1).2.b hba
  have hmm := @run_makeMap Tryz.prog
  obtain ⟨ok, hok⟩ : ∃ x, y.ok = x := ⟨_, rfl⟩
  obtain ⟨asm, hasm⟩ : ∃ x, y.asm = x := ⟨_, rfl⟩
  rw [hok, hasm] at hst
  have hstep := fun (sa : Option Addr) (sc : Nat) (st : List Bool) (ia : Option Addr) (ic : Nat) (inp : List Bool) (W : World) (hb : Below lo w W) (h1 : st.length = nn) (h2 : Bools W sa st) (h3 : inp.length = im) (h4 : Bools W ia inp) => step_walk d y gn nn im sa sc st ia ic inp W hy hgn hnn him (by omega) (by omega) (by omega) (hall W hb).2 h1 h2 h3 h4
  have hstep : ∀ (sa : Option Addr) (sc : Nat) (st : List Bool) (ia : Option Addr) (ic : Nat) (inp : List Bool) (W : World), Below lo w W → st.length = nn → Bools W sa st → inp.length = im → Bools W ia inp → Calls Tryz.prog 38 #[.agg (sysC d gn nn im ok asm), .slice sa nn sc, .slice ia im ic] W (StepOut W y st inp) := by rw [← hok, ← hasm]; exact hstep
  have hstep : Aside _ := hstep
  have hall : ∀ W, Below lo w W → SB cb d gn nn im ok asm W ∧ SysAt W d y := by rw [← hok, ← hasm]; exact hall
  obtain ⟨c0, c1, c2, c3, c4, c5, c6, _⟩ := (hall W1 hb1).1
  have hlt1 : lo < W1.heap.size := (Array.getElem?_eq_some_iff.1 hbox1).1
  clear hsb hsys
  unfold sysC at hst
  go_enter Tryz.func17, Tryz.ntmps17
  go_upto_region 2 with (first | (go_at_call 35; refine hst.mono ?_; rintro e w2 ⟨v, p1, hrow2, hb2⟩; rw [p1]; clear p1; obtain ⟨sa, sc, rfl, _, hbz, _⟩ := bools_of hrow2 hbn))
  obtain ⟨b2, hb2e⟩ : ∃ n, w2.heap.size = n := ⟨_, rfl⟩
  obtain ⟨w3, hw3⟩ : ∃ W, w2.alloc (.cells #[.slice sa nn sc, .int .i64 (-1), .int .i64 0, .int .i64 0] 99) = W := ⟨_, rfl⟩
  have hlt2 : lo < b2 := by rw [← hb2e]; exact Nat.lt_of_lt_of_le hlt1 hb2.size
  have hsz3 : w3.heap.size = b2 + 1 := by rw [← hw3, ← hb2e]; show (w2.heap.push _).size = _; simp
  have hb3 : Below b2 w2 w3 := by rw [← hw3, ← hb2e]; exact (Below.refl _ _).alloc (Nat.le_refl _) _
  have hb02 : Below lo w w2 := hb1.trans (hb2.mono (Nat.le_of_lt hlt1))
  have hb03 : Below lo w w3 := hb02.trans (hb3.mono (Nat.le_of_lt hlt2))
  have hst3 : w3.ownsRow (lo + 1) 4 1 (.slice sa nn sc) nn (bvs y.init) := own_below' (owns_base hrow2 hlt1) (hb2e.symm ▸ hb3)
  have hvis3 : VisR (lo + 1) nn (.slice (some ⟨b2, 0, none⟩) 1 1) (Kb.start y) [.slice sa nn sc] w3 := by
    refine ⟨?_, rfl, fun j v hj => ?_⟩
    · rw [← hw3, ← hb2e]
      exact row_one (lo := lo + 1) (.slice sa nn sc) ⟨y.init, -1, 0, 0⟩ (by omega)
    · match j, hj with
      | 0, hj =>
        have hj : (⟨y.init, -1, 0, 0⟩ : Vi) = v := Option.some.inj hj
        subst hj
        exact ⟨_, rfl, hbn, hst3⟩
  have hbox3 : w3.heap[lo]? = some (.cells #[.int .i64 0, .int .i64 0, .slice none 0 0] 33) := (hb3.block lo hlt2).trans ((hb2.block lo hlt1).trans hbox1)
  obtain ⟨w4, hw4⟩ : ∃ W, w3.alloc (.map #[] 0) = W := ⟨_, rfl⟩
  have hb4 : Below (b2 + 1) w3 w4 := by rw [← hw4, ← hsz3]; exact (Below.refl _ _).alloc (Nat.le_refl _) _
  have hms4 : MapS (b2 + 1) 0 [] w4 := by rw [← hw4, ← hsz3]; exact MapS.new w3
  have hvis4 := hvis3.below (hsz3.symm ▸ hb4)
  have hst4 : w4.ownsRow (lo + 1) 4 1 (.slice sa nn sc) nn (bvs y.init) := own_below' hst3 (hsz3.symm ▸ hb4)
  have hbox4 := (hb4.block lo (by omega)).trans hbox3
  have hk1 := keyZ_lt y.init
  rw [hbn] at hk1
  have hk2 : 2 ^ nn ≤ 256 := Nat.le_trans (Nat.pow_le_pow_right (by decide) hn9) (by decide)
  obtain ⟨w5, hput, hms5, hg5⟩ := hms4.put (by unfold maxLen; omega) (x := (keyZ y.init : Int)) (by omega) (by omega)
  have hkey := key_walk sa sc nn y.init w4 hbn (by omega) (by
    obtain ⟨sa', sc', e, _, hz, _⟩ := bools_of hst4 hbn
    cases e
    exact hz)
  have hWd : Wd y lo (b2 + 1) nn (.slice (some ⟨b2, 0, none⟩) 1 1) (Kb.start y) [.slice sa nn sc] 0 w w5 :=
    ⟨inv_start y hy, hvis4.put hms4 hg5, hms5, (hb03.trans (hb4.mono (by omega))).trans (below_of_grown hg5 (by omega) (by have := hb4.size; omega)), (hg5.block lo (by have := hb4.size; omega) (by intro e; injection e; omega)).trans hbox4, by omega⟩
  have cst : w4.cell? ⟨b2, 0, none⟩ = some (.slice sa nn sc) := by
    have h := hvis4.row
    have := h.cellAt 0 (by show 0 < 1 * 4; omega)
    exact this
  have hA : Aside (Wd y lo (b2 + 1) nn (.slice (some ⟨b2, 0, none⟩) 1 1) (Kb.start y) [.slice sa nn sc] 0 w w5) := hWd
  clear hWd hms5 hg5 hms4 hvis4 hst4 hbox4 hvis3 hbox3 hst3 hb03 hb02 hb3 hb4 hrow2 hbox1 hbz c0 c1 c2 c3 c4 c5 c6 hst hW1 hb2 hb1 hlt1
  go_wp2_with (first | (go_at_call 36; refine hkey.mono ?_; rintro e w6 ⟨p1, p2⟩; rw [p1, p2]; clear p1 p2))
  obtain ⟨⟨L, R⟩, F0, hrun0⟩ : ∃ r, ∃ F, run F y (Kb.start y) 0 0 = some r := by
    obtain ⟨r, h⟩ := run_ends hy _ (inv_start y hy) (Nat.zero_le _) (Nat.lt_succ_self _)
    exact ⟨r, _, h⟩
  have hrun' : Aside (run F0 y (Kb.start y) 0 0 = some (L, R)) := hrun0
  have hshl := shl_small ⟨im, by omega⟩
  dsimp only at hshl
  clear hrun0 hkey hput cst hw3 hw4 hb2e hsz3 hmm
  go_loopw [5, 7] (fun lv av wr => ∃ (l : List Vi) (svs : List Value) (a F : Nat), av = .int .i64 (a : Int) ∧ Wd y lo (b2 + 1) nn lv l svs a w wr ∧ run F y l a 0 = some (L, R)) (fun _ av _ => 300 - (intOf av).toNat)
  case atStart => exact ⟨Kb.start y, [.slice sa nn sc], 0, F0, rfl, hA.out, hrun'.out⟩
  case round =>
    clear hA
    obtain ⟨l, svs, a, F, rfl, hW, hrun⟩ := hrel
    have hll : l.length ≤ 256 := Nat.le_trans hW.inv.short (by rw [hnn]; exact hk2)
    obtain ⟨la, lc, rfl, hvis⟩ := hW.vis.vis
    have hW' : Aside _ := hW
    by_cases hal : a < l.length
    · have halI : (a : Int) < l.length := by omega
      obtain ⟨v, hv⟩ : ∃ v, l[a]? = some v := ⟨_, List.getElem?_eq_getElem hal⟩
      obtain ⟨b, lc', sa2, sc2, e1, hb, v0, v1, v2, v3, hown, hvl⟩ := hW.vis.own hv
      cases e1
      have hI0 : Aside _ := WdI.mk' hW hv hown
      have hrn : Aside (run F y l a 0 = some (L, R) ∧ v.st.length = nn) := ⟨hrun, hvl⟩
      obtain ⟨fr, hfr⟩ : ∃ t, v.fr = t := ⟨_, rfl⟩
      obtain ⟨inp, hinp⟩ : ∃ t, v.inp = t := ⟨_, rfl⟩
      obtain ⟨tk, htk⟩ : ∃ t, v.tick = t := ⟨_, rfl⟩
      rw [hfr] at v1
      rw [hinp] at v2
      rw [htk] at v3
      rw [hfr, hinp, htk] at hI0
      have hbel := hW.bel
      have hlow : lo < wr.heap.size := (Array.getElem?_eq_some_iff.1 hW.box).1
      have c3 : ∀ o, (wr.alloc o).cell? ⟨cb, 3, none⟩ = some (.slice d.ia im d.ic) := fun o => (hall _ (hbel.alloc (Nat.le_of_lt hlow) o)).1.c3
      obtain ⟨ln, hln⟩ : ∃ t, l.length = t := ⟨_, rfl⟩
      rw [hln] at halI ⊢
      have htk' : Aside (v.tick = tk) := htk
      clear hW hrun hvis hv hfr hinp hown hvl hW' htk
      go_wp2
      rw [hshl]
      obtain ⟨tb, htb⟩ : ∃ n, wr.heap.size = n := ⟨_, rfl⟩
      rw [htb] at hI0 ⊢
      generalize wr.alloc (.cells #[.slice sa2 nn sc2, .int .i64 fr, .int .i64 inp, .int .i64 (tk : Int)] 99) = W0 at *
      obtain ⟨M, hM⟩ : ∃ M, 2 ^ im = M := ⟨_, rfl⟩
      have hM8 : M ≤ 8 := by rw [← hM]; exact Nat.le_trans (Nat.pow_le_pow_right (by decide) hi9) (by decide)
      rw [hM]
      have hI0 : Aside (l.length = ln ∧ WdI y lo (b2 + 1) nn tb (.slice sa2 nn sc2) v (.slice (some ⟨b, 0, none⟩) l.length lc) l svs a (keysL l) w W0) := ⟨hln, hI0.out⟩
      have ha9 : a < 256 := by omega
      clear c3 hlow hbel v0 v1 v2 v3 hb htb hln hll hshl
      go_loopw [5, 46] (fun lv nv wq => ∃ (l : List Vi) (svs : List Value) (n F : Nat), nv = .int .i64 (n : Int) ∧ n ≤ M ∧ WdI y lo (b2 + 1) nn tb (.slice sa2 nn sc2) v lv l svs a (keysL l) w wq ∧ run F y l a n = some (L, R)) (fun _ nv _ => M - (intOf nv).toNat)
      case atStart =>
        obtain ⟨e, h⟩ := hI0.out
        rw [e] at h
        exact ⟨l, svs, 0, F, rfl, Nat.zero_le _, h, hrn.out.1⟩
      case round =>
        obtain ⟨l2, svs2, n, F2, rfl, hn2, hI, hrun2⟩ := hrel
        clear hI0
        by_cases hlt : n < M
        · have hltI : (n : Int) < (M : Int) := by omega
          have hsb1 := (hall _ hI.bel).1
          have hin := input_walk cb d gn nn im n ok asm wr hsb1 hi9 (by omega)
          unfold InputOut at hin
          rw [bitsZ_len] at hin
          have hI : Aside _ := hI
          have hrun2 : Aside _ := hrun2
          clear hsb1
          go_wp2_with (first | (go_at_call 37; refine hin.mono ?_; rintro e w2 ⟨lv2, tv2, p1, hr1, hr2, hb2'⟩; rw [p1]; clear p1 hr2; obtain ⟨ia, ic, rfl, _, hiz, _⟩ := bools_of hr1 (bitsZ_len im n)))
          have hI2 := hI.out.below hb2'
          have hs2 := hall _ hI2.bel
          have hvl := hrn.out.2
          obtain ⟨_, _, e, _, hz2, _⟩ := bools_of hI2.own hvl
          cases e
          have hsw := hstep.out sa2 sc2 v.st ia ic (bitsZ im n) w2.drew (below_drew hI2.bel) hvl hz2 (bitsZ_len im n) hiz
          obtain ⟨okb, hokb⟩ : ∃ r, okZ y v.st (bitsZ im n) = r := ⟨_, rfl⟩
          obtain ⟨asb, hasb⟩ : ∃ r, asmZ y v.st (bitsZ im n) = r := ⟨_, rfl⟩
          obtain ⟨nx, hnx⟩ : ∃ r, nextZ y v.st (bitsZ im n) = r := ⟨_, rfl⟩
          have hnl : nx.length = nn := by rw [← hnx, nextZ_len hy, hnn]
          unfold StepOut sysC at hsw
          rw [hokb, hasb, hnx, hnn] at hsw
          have hSall : ∀ W, Below w2.heap.size w2 W → W.cell? ⟨cb, 0, none⟩ = some (.slice d.ga gn d.gc) ∧ W.cell? ⟨cb, 1, none⟩ = some (.slice d.na nn d.nc) ∧ W.cell? ⟨cb, 2, none⟩ = some (.slice d.xa nn d.xc) ∧ W.cell? ⟨cb, 3, none⟩ = some (.slice d.ia im d.ic) ∧ W.cell? ⟨cb, 4, none⟩ = some (.slice d.ba nn d.bc) ∧ W.cell? ⟨cb, 5, none⟩ = some (.int .i64 ok) ∧ W.cell? ⟨cb, 6, none⟩ = some (.int .i64 asm) ∧ W.cell? ⟨tb, 0, none⟩ = some (.slice sa2 nn sc2) := fun W hb => by
            have h1 := hs2.1.below hs2.1.lt hb
            exact ⟨h1.c0, h1.c1, h1.c2, h1.c3, h1.c4, h1.c5, h1.c6, (block_cell (hI2.below hb).st 0).1⟩
          have hS0 := hSall w2 (Below.refl _ _)
          obtain ⟨c0, c1, c2, c3, c4, c5, c6, x0⟩ := hSall w2 (Below.refl _ _)
          have hIall : Aside (∀ W, Below w2.heap.size w2 W → WdI y lo (b2 + 1) nn tb (.slice sa2 nn sc2) v u5 l2 svs2 a (keysL l2) w W) := fun W hb => hI2.below hb
          have hlo2 : Aside (lo + 1 ≤ w2.heap.size) := (Array.getElem?_eq_some_iff.1 hI2.box).1
          clear hin hI hb2' hr1 hI2 hs2 hz2 hiz
          go_region_held3 (fun W => W.cell? ⟨cb, 0, none⟩ = some (.slice d.ga gn d.gc) ∧ W.cell? ⟨cb, 1, none⟩ = some (.slice d.na nn d.nc) ∧ W.cell? ⟨cb, 2, none⟩ = some (.slice d.xa nn d.xc) ∧ W.cell? ⟨cb, 3, none⟩ = some (.slice d.ia im d.ic) ∧ W.cell? ⟨cb, 4, none⟩ = some (.slice d.ba nn d.bc) ∧ W.cell? ⟨cb, 5, none⟩ = some (.int .i64 ok) ∧ W.cell? ⟨cb, 6, none⟩ = some (.int .i64 asm) ∧ W.cell? ⟨tb, 0, none⟩ = some (.slice sa2 nn sc2)) (first | exact hHeld | exact hS1 | exact hS0) (first | (go_at_call 38; refine hsw.mono ?_; rintro e w3 ⟨v3, p1, hrow3, hb3⟩; rw [p1]; clear p1; obtain ⟨xa, xc, rfl, _, hxz, _⟩ := bools_of hrow3 hnl; have hb3' := (below_drew (Below.refl w2.heap.size w2)).trans hb3; have hS1 := hSall w3 hb3'))
          have hI3 := hIall.out w3 hb3'
          have hrow3 := owns_base hrow3 hlo2.out
          clear hb3 hb3' hS1 hSall hS0 c0 c1 c2 c3 c4 c5 c6 x0 hsw hIall
          cases asb with
          | false =>
            have hgz : growZ y l2 a n v = l2 := by unfold growZ; rw [him, hasb]; rfl
            obtain ⟨F', hF'⟩ := (run_row hrun2.out hI3.at_).2.2 (by rw [him, hM]; exact hlt) (by unfold badZ; rw [him, hasb]; rfl)
            rw [hgz] at hF'
            have hC : Aside (WdI y lo (b2 + 1) nn tb (.slice sa2 nn sc2) v u5 l2 svs2 a (keysL l2) w w3 ∧ run F' y l2 a (n + 1) = some (L, R)) := ⟨hI3, hF'⟩
            clear hI3 hF' hrun2 hrow3 hxz hgz hasb hokb hnx
            go_wp2
            go_roundw
            case rel => exact ⟨l2, svs2, n + 1, F', by go_num, hlt, hC.out.1, hC.out.2⟩
            case measure => simp only [intOf]; omega
          | true =>
            have htick := htk'.out
            cases okb with
            | false =>
              have hb1 := (run_row hrun2.out hI3.at_).2.1 (by rw [him, hM]; exact hlt) (by unfold badZ; rw [him, hasb, hokb]; rfl)
              have hF : Aside (run F0 y (Kb.start y) 0 0 = some (l2, some (a, n)) ∧ l2[a]? = some v) := ⟨by rw [← hb1]; exact hrun'.out, hI3.at_⟩
              obtain ⟨q0, f0, q1, q2, g1, g2, r0, r1, r2⟩ := box_f hI3.box
              have hbf : Aside _ := bel_box hI3.bel
              have x3 : w3.cell? ⟨tb, 3, none⟩ = some (.int .i64 (tk : Int)) := by rw [← htick]; exact (block_cell hI3.st 3).1
              by_cases hkt : k < tk
              · have hktI : (k : Int) < tk := by omega
                clear hI3 hb1 hrun2 hrow3 hxz hasb hokb hnx
                go_wp2
                refine bodyPost_ret (v := .agg #[.int .i64 3, .int .i64 (k : Int), .slice none 0 0]) (by simp [results, Tryz.f17, go_sem, r0, r1, r2]) rfl ?_
                exact ⟨hlo ▸ hbf.out _ _ _, 3, _, none, 0, 0, rfl, F0, l2, some (a, n), hF.out.1, .inr ⟨a, n, v, rfl, hF.out.2, .inl ⟨rfl, rfl, rfl⟩⟩⟩
              · have hktI : ¬ (k : Int) < tk := by omega
                obtain ⟨la2, lc2, rfl, hvis2⟩ := hI3.vis.vis
                have hbd : Below w3.heap.size w3 w3.drew := below_drew (Below.refl _ _)
                have htr := trace_walk cb d y gn nn im ok asm la2 l2.length lc2 l2 a a n w3.drew (hall _ (hI3.below hbd).bel).1 him hi9 hI3.inv rfl (by have := hI3.inv.short; rw [hnn] at this; omega) (List.getElem?_eq_some_iff.1 hI3.at_).1 (by rw [hM]; exact hlt) (hvis2.below hbd)
                obtain ⟨ln2, hln2⟩ : ∃ t, l2.length = t := ⟨_, rfl⟩
                obtain ⟨T, hT⟩ : ∃ t, traceZ y l2 a n = t := ⟨_, rfl⟩
                rw [hln2, hT] at htr
                rw [hln2] at hI3 ⊢
                have hIall : Aside (∀ W, Below w3.heap.size w3 W → WdI y lo (b2 + 1) nn tb (.slice sa2 nn sc2) v (.slice la2 ln2 lc2) l2 svs2 a (keysL l2) w W) := fun W hb => hI3.below hb
                have hT' : Aside (traceZ y l2 a n = T) := hT
                have hlo3 : Aside (lo + 1 ≤ w3.heap.size) := (Array.getElem?_eq_some_iff.1 hI3.box).1
                clear hI3 hb1 hrun2 hrow3 hxz hasb hokb hnx hvis2 hln2 hbf q0 f0 q1 q2 g1 g2 r0 r1 r2 hT
                go_wp2
                go_region_held3 (fun W => W.cell? ⟨tb, 3, none⟩ = some (.int .i64 (tk : Int))) (first | exact hHeld | exact xT | exact x3 | exact xU _ _ _) (first | (go_at_call 39; refine htr.mono ?_; rintro e w4 ⟨ov, p1, hov, hb4⟩; rw [p1]; clear p1; obtain ⟨ta, tc, rfl, _⟩ := hov.bits; have hb4' := hbd.trans hb4; have hI4 := hIall.out _ hb4'; have xT : w4.cell? ⟨tb, 3, none⟩ = some (.int .i64 (tk : Int)) := ((block_cell hI4.st 3).1.trans (htick ▸ rfl)); have xU := fun x z u => (box_far w4 (Nat.ne_of_lt hI4.ltt) 3 x z u).trans xT; obtain ⟨q0, f0, q1, q2, g1, g2, r0, r1, r2⟩ := box_f hI4.box))
                go_wp2
                refine bodyPost_ret (v := .agg #[.int .i64 2, .int .i64 (tk : Int), .slice ta T.length tc]) (by simp [results, Tryz.f17, go_sem, r0, r1, r2]) rfl ?_
                have hov2 := (hov.base hlo3.out).keep (fun g hg => box_heap (lo := lo) (g := g) w4 (by omega) (.int .i64 2) (.int .i64 (tk : Int)) (.slice ta T.length tc))
                exact ⟨hlo ▸ bel_box hI4.bel _ _ _, 2, _, ta, T.length, tc, rfl, F0, l2, some (a, n), hF.out.1, .inr ⟨a, n, v, rfl, hF.out.2, .inr ⟨rfl, by rw [htick], by omega, by rw [hT'.out, him, hlo]; exact hov2.base (Nat.le_succ _)⟩⟩⟩
            | true =>
              have hkey2 := key_walk xa xc nn nx w3 hnl (by omega) hxz
              obtain ⟨x, hx⟩ : ∃ x : Int, (keyZ nx : Int) = x := ⟨_, rfl⟩
              have hx9 : 0 ≤ x ∧ x ≤ 1000000 := by
                have := keyZ_lt nx
                rw [hnl] at this
                omega
              rw [hx] at hkey2
              have hlook := hI3.map.look hx9.1 hx9.2
              have hsk := seen_key hy hI3.inv (st := nx) (by rw [hnl, hnn])
              rw [hx] at hsk
              by_cases hmem : x ∈ keysL l2
              · rw [if_pos hmem] at hlook
                have hgz : growZ y l2 a n v = l2 := by unfold growZ; rw [him, hasb, hnx, hsk, decide_eq_true hmem]; rfl
                obtain ⟨F', hF'⟩ := (run_row hrun2.out hI3.at_).2.2 (by rw [him, hM]; exact hlt) (by unfold badZ; rw [him, hasb, hokb]; rfl)
                rw [hgz] at hF'
                have hC : Aside (WdI y lo (b2 + 1) nn tb (.slice sa2 nn sc2) v u5 l2 svs2 a (keysL l2) w w3 ∧ run F' y l2 a (n + 1) = some (L, R)) := ⟨hI3, hF'⟩
                clear hI3 hF' hrun2 hrow3 hxz hgz hasb hokb hnx hsk hmem hx
                go_wp2_with (first | (go_at_call 36; refine hkey2.mono ?_; rintro e w6 ⟨p1, p2⟩; rw [p1, p2]; clear p1 p2))
                go_roundw
                case rel => exact ⟨l2, svs2, n + 1, F', by go_num, hlt, hC.out.1, hC.out.2⟩
                case measure => simp only [intOf]; omega
              · rw [if_neg hmem] at hlook
                have hl256 : l2.length ≤ 256 := by have := hI3.inv.short; rw [hnn] at this; omega
                obtain ⟨w4, hput, hms, hg4⟩ := hI3.map.put (by rw [keysL_len]; unfold maxLen; omega) hx9.1 hx9.2
                have hks : keysL (l2 ++ [⟨nx, a, n, tk + 1⟩]) = keysL l2 ++ [x] := by unfold keysL; rw [List.map_append, ← hx]; rfl
                have hms : MapS (b2 + 1) (keysL l2 ++ [x]).length (keysL l2 ++ [x]) w4 := by rw [List.length_append]; exact hms
                have hI4 := hI3.put hg4 hms
                have hrow4 := own_map hrow3 hI3.map hg4
                have hba : Below w4.heap.size w4 (w4.alloc (.cells #[.slice xa nn xc, .int .i64 (a : Int), .int .i64 (n : Int), .int .i64 ((tk : Int) + 1)] 99)) := (Below.refl _ _).alloc (Nat.le_refl _) _
                have hI5 := hI4.below hba
                have hrow5 := own_below' hrow4 hba
                have hgz : growZ y l2 a n v = l2 ++ [⟨nx, a, n, tk + 1⟩] := by unfold growZ; rw [him, hasb, hnx, hsk, decide_eq_false hmem, htick]; rfl
                obtain ⟨F', hF'⟩ := (run_row hrun2.out hI3.at_).2.2 (by rw [him, hM]; exact hlt) (by unfold badZ; rw [him, hasb, hokb]; rfl)
                rw [hgz] at hF'
                have hr5 := hI5.vis.row
                have htk9 : tk ≤ 256 := by
                  have := tick_le hI3.inv a v hI3.at_
                  omega
                have x3 : w4.cell? ⟨tb, 3, none⟩ = some (.int .i64 (tk : Int)) := by rw [← htick]; exact (block_cell hI4.st 3).1
                have hC : Aside ((∀ (lv' : Value) (w6 : World), w6.ownsRow (lo + 1) 99 4 lv' (l2.length + 1) (visL svs2 l2 ++ [.slice xa nn xc, .int .i64 (a : Int), .int .i64 (n : Int), .int .i64 ((tk : Int) + 1)]) → (w4.alloc (.cells #[.slice xa nn xc, .int .i64 (a : Int), .int .i64 (n : Int), .int .i64 ((tk : Int) + 1)] 99)).grownBy w6 u5.ownBlock → (∃ g, lv'.ownBlock = some g ∧ (u5.ownBlock = some g ∨ (w4.alloc (.cells #[.slice xa nn xc, .int .i64 (a : Int), .int .i64 (n : Int), .int .i64 ((tk : Int) + 1)] 99)).heap.size ≤ g)) → WdI y lo (b2 + 1) nn tb (.slice sa2 nn sc2) v lv' (l2 ++ [⟨nx, a, n, tk + 1⟩]) (svs2 ++ [.slice xa nn xc]) a (keysL (l2 ++ [⟨nx, a, n, tk + 1⟩])) w w6) ∧ run F' y (l2 ++ [⟨nx, a, n, tk + 1⟩]) a (n + 1) = some (L, R)) :=
                  ⟨fun lv' w6 h1 h2 h3 => hks ▸ hI5.snoc hy (by rw [him, hM]; exact hlt) hgz h2 h1 hrow5 hnl h3, hF'⟩
                have hK : Aside ((∀ (j : Nat) (x : Value), [Value.slice xa nn xc, .int .i64 (a : Int), .int .i64 (n : Int), .int .i64 ((tk : Int) + 1)][j]? = some x → (w4.alloc (.cells #[.slice xa nn xc, .int .i64 (a : Int), .int .i64 (n : Int), .int .i64 ((tk : Int) + 1)] 99)).cell? ((⟨w4.heap.size, 0, none⟩ : Addr).add j) = some x) ∧ (∀ x ∈ [Value.slice xa nn xc, .int .i64 (a : Int), .int .i64 (n : Int), .int .i64 ((tk : Int) + 1)], x.oneCell' = true) ∧ l2.length + 1 ≤ maxLen ∧ (l2.length + 1) * 48 ≤ 140737488355328 ∧ lo + 1 ≤ (w4.alloc (.cells #[.slice xa nn xc, .int .i64 (a : Int), .int .i64 (n : Int), .int .i64 ((tk : Int) + 1)] 99)).heap.size) :=
                  ⟨all_new w4 _ 99, fun x hx => by simp only [List.mem_cons, List.not_mem_nil, or_false] at hx; rcases hx with rfl | rfl | rfl | rfl <;> rfl, by unfold maxLen; omega, by omega, (Array.getElem?_eq_some_iff.1 hI5.box).1⟩
                obtain ⟨i9, hi9', hz90, hz91, hz92⟩ := info_parts' info99
                clear hI3 hI4 hI5 hF' hrun2 hrow3 hrow4 hrow5 hxz hgz hasb hokb hnx hsk hmem hx hks hms hg4 hba hl256
                go_wp2_with (first | (go_at_call 36; refine hkey2.mono ?_; rintro e w6 ⟨p1, p2⟩; rw [p1, p2]; clear p1 p2) | (at_builtin; refine append_told _ rfl _ _ 100 rfl (lo + 1) 99 i9 _ 4 48 Tryz.underlying100 hi9' hz90 hz91 hz92 rfl (by decide) _ _ _ rfl hr5 ⟨w4.heap.size, 0, none⟩ 1 1 [Value.slice xa nn xc, .int .i64 (a : Int), .int .i64 (n : Int), .int .i64 ((tk : Int) + 1)] rfl rfl hK.out.1 hK.out.2.1 (by decide) hK.out.2.2.1 hK.out.2.2.2.1 hK.out.2.2.2.2 ?_))
                intro v' w6 ho hg g e1 e2
                have hW6 := hC.out.1 v' w6 ho hg ⟨g, e1, by simpa using e2⟩
                have hC : Aside _ := hC.out.2
                have hW6 : Aside _ := hW6
                clear ho hg e1 e2 hK hr5 x3
                go_wp2
                go_roundw
                case rel => exact ⟨_, _, n + 1, F', by go_num, hlt, hW6.out, hC.out⟩
                case measure => simp only [intOf]; omega
        · have hnM : n = M := by omega
          subst hnM
          have hlt' : ¬ (n : Int) < (n : Int) := by omega
          obtain ⟨F', hF'⟩ := (run_row hrun2 hI.at_).1 (by rw [him, hM]; exact hlt)
          have hC : Aside (Wd y lo (b2 + 1) nn u5 l2 svs2 (a + 1) w wr ∧ run F' y l2 (a + 1) 0 = some (L, R) ∧ a < l2.length ∧ l2.length ≤ 256) := ⟨hI.wd, hF', (List.getElem?_eq_some_iff.1 hI.at_).1, Nat.le_trans hI.inv.short (by rw [hnn]; exact hk2)⟩
          clear hI hrun2 hF'
          go_wp2
          go_roundw
          case rel => exact ⟨l2, svs2, a + 1, F', by go_num, hC.out.1, hC.out.2.1⟩
          case measure =>
            have := hC.out.2.2
            simp only [intOf]; omega
    · have halI : ¬ (a : Int) < l.length := by omega
      have hRn := run_over hrun (by omega)
      have hl0 : 0 < l.length := (List.getElem?_eq_some_iff.1 hW.inv.root).1
      obtain ⟨v, hv⟩ : ∃ v, l[l.length - 1]? = some v := ⟨_, List.getElem?_eq_getElem (by omega)⟩
      obtain ⟨b, off, sa2, sc2, rfl, hb, _, _, _, _, c3⟩ := hvis _ v hv
      obtain ⟨N, hN⟩ : ∃ N, l.length - 1 = N := ⟨_, rfl⟩
      have hN1 : l.length = N + 1 := by omega
      have hbox := hW.box
      have hbel := hW.bel
      have hC : Aside (l[l.length - 1]? = some v ∧ run F0 y (Kb.start y) 0 0 = some (l, none)) := ⟨hv, by rw [← hRn]; exact hrun'.out⟩
      rw [hN] at c3
      rw [hN1]
      have halI : ¬ (a : Int) < (N : Int) + 1 := by omega
      have hN9 : N < 256 := by omega
      clear hW hrun hvis hW' hrun' hall hv hl0 hll hRn
      have hth := box_there hbox
      obtain ⟨tk, htk⟩ : ∃ t, v.tick = t := ⟨_, rfl⟩
      rw [htk] at c3
      have hmin : min (k : Int) (tk : Int) = ((min k tk : Nat) : Int) := by omega
      obtain ⟨p0, f0⟩ := block_cell hbox 0
      obtain ⟨p1, f1⟩ := block_cell hbox 1
      obtain ⟨p2, f2⟩ := block_cell hbox 2
      have q0 : wr.cell? ⟨lo, 0, none⟩ = some (.int .i64 0) := p0
      have q1 : ∀ x, (wr.setCell ⟨lo, 0, none⟩ x).cell? ⟨lo, 1, none⟩ = some (.int .i64 0) := fun x => by
        rw [World.cell?_setCell_other _ ⟨lo, 0, none⟩ ⟨lo, 1, none⟩ _ (by intro e; injection e; omega)]; exact p1
      have q2 : ∀ x z, ((wr.setCell ⟨lo, 0, none⟩ x).setCell ⟨lo, 1, none⟩ z).cell? ⟨lo, 2, none⟩ = some (.slice none 0 0) := fun x z => by
        rw [World.cell?_setCell_other _ ⟨lo, 1, none⟩ ⟨lo, 2, none⟩ _ (by intro e; injection e; omega), World.cell?_setCell_other _ ⟨lo, 0, none⟩ ⟨lo, 2, none⟩ _ (by intro e; injection e; omega)]; exact p2
      have g1 : ∀ x, (wr.setCell ⟨lo, 0, none⟩ x).frozen? ⟨lo, 1, none⟩ = false := fun x => by simp [f1]
      have g2 : ∀ x z, ((wr.setCell ⟨lo, 0, none⟩ x).setCell ⟨lo, 1, none⟩ z).frozen? ⟨lo, 2, none⟩ = false := fun x z => by simp [f2]
      clear p0 p1 p2
      have r0 : ∀ x z u, (((wr.setCell ⟨lo, 0, none⟩ x).setCell ⟨lo, 1, none⟩ z).setCell ⟨lo, 2, none⟩ u).cell? ⟨lo, 0, none⟩ = some x := fun x z u => by
        rw [World.cell?_setCell_other _ ⟨lo, 2, none⟩ ⟨lo, 0, none⟩ _ (by intro e; injection e; omega), World.cell?_setCell_other _ ⟨lo, 1, none⟩ ⟨lo, 0, none⟩ _ (by intro e; injection e; omega)]; exact World.cell?_setCell_same _ _ _ q0
      have r1 : ∀ x z u, (((wr.setCell ⟨lo, 0, none⟩ x).setCell ⟨lo, 1, none⟩ z).setCell ⟨lo, 2, none⟩ u).cell? ⟨lo, 1, none⟩ = some z := fun x z u => by
        rw [World.cell?_setCell_other _ ⟨lo, 2, none⟩ ⟨lo, 1, none⟩ _ (by intro e; injection e; omega)]; exact World.cell?_setCell_same _ _ _ (q1 x)
      have r2 : ∀ x z u, (((wr.setCell ⟨lo, 0, none⟩ x).setCell ⟨lo, 1, none⟩ z).setCell ⟨lo, 2, none⟩ u).cell? ⟨lo, 2, none⟩ = some u := fun x z u => World.cell?_setCell_same _ _ _ (q2 x z)
      have hbf : Aside (∀ x z u, Below lo w (((wr.setCell ⟨lo, 0, none⟩ x).setCell ⟨lo, 1, none⟩ z).setCell ⟨lo, 2, none⟩ u)) := fun x z u => ((hbel.setCell (p := ⟨lo, 0, none⟩) (Nat.le_refl _) x).setCell (p := ⟨lo, 1, none⟩) (Nat.le_refl _) z).setCell (p := ⟨lo, 2, none⟩) (Nat.le_refl _) u
      clear hmin hth hbox hbel
      by_cases hkt : k ≤ tk
      · have hktI : (k : Int) ≤ tk := by omega
        have hmin : min (k : Int) (tk : Int) = k := by omega
        have hm2 : Aside (min k tk = k) := Nat.min_eq_left hkt
        go_wp2
        refine bodyPost_ret (v := .agg #[.int .i64 1, .int .i64 (k : Int), .slice none 0 0]) (by simp [results, Tryz.f17, go_sem, r0, r1, r2]) rfl ?_
        exact ⟨hlo ▸ hbf.out _ _ _, 1, _, none, 0, 0, rfl, F0, l, none, hC.out.2, .inl ⟨rfl, rfl⟩⟩
      · have hktI : ¬ (k : Int) ≤ tk := by omega
        have hktJ : (tk : Int) < k := by omega
        have hmin : min (k : Int) (tk : Int) = tk := by omega
        have hm2 : Aside (min k tk = tk) := Nat.min_eq_right (by omega)
        go_wp2
        refine bodyPost_ret (v := .agg #[.int .i64 1, .int .i64 (tk : Int), .slice none 0 0]) (by simp [results, Tryz.f17, go_sem, r0, r1, r2]) rfl ?_
        exact ⟨hlo ▸ hbf.out _ _ _, 1, _, none, 0, 0, rfl, F0, l, none, hC.out.2, .inl ⟨rfl, rfl⟩⟩
end Go.Proofs.YtdgnafjllokioaaGreatDoor

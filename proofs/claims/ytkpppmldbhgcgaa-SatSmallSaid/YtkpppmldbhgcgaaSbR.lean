/- Sat: propagating (spread): the walk's facts. -/
import Derived.Test.YtkpppmldbhgcgaaSbMtoSbI
import Derived.Deep.Cut
import Derived.Deep.CutRange
import Derived.StillTailTactics
set_option linter.unusedVariables false
set_option linter.unusedSimpArgs false
set_option autoImplicit false
set_option linter.unusedVariables false
set_option linter.unusedSimpArgs false
namespace Go.Proofs.Ytkpppmldbhgcgaa
open Go Go.RowKit
variable {lo n : Nat} {w : World} {own : Nat → Option Tg} {rv : Tg → Value} {S : Sz}
theorem Rep.clFacts (h : Sol lo w own rv S) {c : Nat} {z : Cz} (hz : S.cls[c]? = some z) : ∃ cb, rv (.cl c) = .pointer (some ⟨cb, 0, none⟩) ∧ w.cell? ⟨cb, 2, none⟩ = some (.bool z.gone) ∧ (∀ a, z.lits[0]? = some a → ∃ gl cl, rv (.lits c) = .slice (some ⟨gl, 0, none⟩) z.lits.length cl ∧ z.lits.length ≤ cl ∧ w.cell? ⟨cb, 0, none⟩ = some (.slice (some ⟨gl, 0, none⟩) z.lits.length cl) ∧
    ∀ (k : Nat) (x : Int), z.lits[k]? = some x → w.cell? ⟨gl, k, none⟩ = some (.int .i64 x) ∧ w.frozen? ⟨gl, k, none⟩ = false) := by
  obtain ⟨cb, hcb, hlc, _, _⟩ := h.clb hz
  refine ⟨cb, hcb, ?_, fun a ha => ?_⟩
  · obtain ⟨b', e, _, _, _, q, _⟩ := h.cell (t := .cl c) (m := 2) (u := vb z.gone) (by rw [mem_cls hz]; rfl)
    rw [hcb] at e; cases e
    exact q
  · have hml := mem_lits hz
    obtain ⟨al, cl, HL⟩ := h.headAt (T := .lits c) (p := .cl c) (b := cb) (m := 0) (k := z.lits.length) rfl (by rw [hcb]; rfl) (by rw [mem_cls hz]; rfl) (by intro e; cases e) (by rw [hml]; show (z.lits.map vi).length = _; rw [List.length_map])
    obtain ⟨gl, rfl, _⟩ := HL.at_ (by have := len_of ha; omega)
    exact ⟨gl, cl, HL.val, HL.le, HL.cell, fun k x hk => h.hcell HL.val (u := vi x) (by rw [hml]; exact map_get hk)⟩
theorem row_eq {f : Nat} {l : Int} {k j : Nat} {ws : List Nat} {r : Option Nat × Sz} (hw : S.watch[codeZ l]? = some ws) (h : rowF f S l k j = some r) : (ws.length ≤ k → r = (none, { S with watch := S.watch.set (codeZ l) (ws.take j) })) ∧ (k < ws.length → ∃ f' c q, f = f' + 1 ∧ ws[k]? = some c ∧ visitO S l c = some q ∧
    (q.1 = none → rowF f' q.2 l (k + 1) j = some r) ∧ (∀ a, q.1 = some a → ∃ t, letO (setW q.2 (codeZ l) j c) a (some c) = some t ∧ (t.1 = true → rowF f' t.2 l (k + 1) (j + 1) = some r) ∧
      (t.1 = false → (∀ i ∈ (t.2.watch.getD (codeZ l) []).drop (k + 1), i < t.2.cls.length) ∧ r = (some c, { t.2 with watch := t.2.watch.set (codeZ l) ((t.2.watch.getD (codeZ l) []).take (j + 1) ++ (t.2.watch.getD (codeZ l) []).drop (k + 1)) })))) := by
  have hg : S.watch.getD (codeZ l) [] = ws := by rw [List.getD_eq_getElem?_getD, hw]; rfl
  cases f with
  | zero => cases h
  | succ f =>
    unfold rowF at h
    rw [hg] at h
    refine ⟨fun hk => ?_, fun hk => ?_⟩
    · rw [if_neg (by omega)] at h
      exact (Option.some.inj h).symm
    · rw [if_pos hk] at h
      obtain ⟨c, hc, h⟩ := Option.bind_eq_some_iff.1 h
      obtain ⟨q, hq, h⟩ := Option.bind_eq_some_iff.1 h
      refine ⟨f, c, q, rfl, hc, hq, fun h1 => ?_, fun a h1 => ?_⟩
      · rw [h1] at h
        exact h
      · rw [h1] at h
        obtain ⟨t, ht, h⟩ := Option.bind_eq_some_iff.1 h
        refine ⟨t, ht, fun h2 => ?_, fun h2 => ?_⟩
        · rw [if_pos h2] at h; exact h
        · rw [if_neg (by rw [h2]; decide)] at h
          split at h
          · rename_i hall
            exact ⟨fun i hi => of_decide_eq_true (List.all_eq_true.1 hall i hi), (Option.some.inj h).symm⟩
          · cases h
theorem spread_eq {f : Nat} {r : Option Nat × Sz} (h : spreadF f S = some r) : ∃ f', f = f' + 1 ∧ (¬ S.at' < S.tr.length → r = (none, S)) ∧ (S.at' < S.tr.length → ∃ (A : Nat) (x : Int) (ws : List Nat) (q : Option Nat × Sz), S.at' = A ∧ S.tr[A]? = some x ∧ x.natAbs ≤ 1000000 ∧ S.watch[codeZ (-x)]? = some ws ∧ ws.length < 100000000 ∧ S.tr.length < 100000000 ∧
    rowF (ws.length + 1) { S with at' := S.at' + 1 } (-x) 0 0 = some q ∧ (∀ c, q.1 = some c → r = (some c, q.2)) ∧ (q.1 = none → spreadF f' q.2 = some r)) := by
  cases f with
  | zero => cases h
  | succ f =>
    refine ⟨f, rfl, ?_⟩
    unfold spreadF at h
    refine ⟨fun h0 => ?_, fun h0 => ?_⟩
    · rw [if_neg h0] at h
      exact (Option.some.inj h).symm
    · rw [if_pos h0] at h
      split at h
      · cases h
      · rename_i hA
        obtain ⟨x, hx, h⟩ := Option.bind_eq_some_iff.1 h
        obtain ⟨ws, hws, h⟩ := Option.bind_eq_some_iff.1 h
        split at h
        · rename_i hb
          obtain ⟨q, hq, h⟩ := Option.bind_eq_some_iff.1 h
          refine ⟨S.at'.toNat, x, ws, q, by omega, hx, hb.1, hws, by have := hb.2.1; unfold roomy at this; exact of_decide_eq_true this, by have := hb.2.2; unfold roomy at this; exact of_decide_eq_true this, hq, fun c hc => ?_, fun hc => ?_⟩
          · rw [hc] at h
            exact (Option.some.inj h).symm
          · rw [hc] at h
            exact h
        · cases h
theorem watchAt_wf (wf : WF n S) (x : Int) : WF n { S with at' := x } :=
  ⟨⟨wf.ord.big, wf.ord.sc, wf.ord.pl, wf.ord.ov, wf.ord.ovl⟩, wf.vals, wf.lev, wf.rea, wf.sav, wf.seen, wf.watch, wf.bump, wf.scp⟩
theorem bad_facts {ow6 : Nat → Option Tg} {rv6 : Tg → Value} {w6 : World} {own0 : Nat → Option Tg} {w0 : World} (hs6 : Sol lo w6 ow6 rv6 S) (hF : Frm own0 ow6 w0 w6) {b gt W ct gw N cw p j k : Nat} {ws3 : List Nat} (hb6 : rv6 .x = .pointer (some ⟨b, 0, none⟩)) (hgtt : rv6 .wt = .slice (some ⟨gt, 0, none⟩) W ct) (hvw6 : rv6 (.wr p) = .slice (some ⟨gw, 0, none⟩) N cw)
    (hws5 : S.watch[p]? = some ws3) (hl3 : ws3.length = N) (hjk : j ≤ k) (hk : k < N) (hall : ∀ i ∈ ws3.drop (k + 1), i < S.cls.length) :
    ∃ xs news : List Value, w6.ownsRow lo 76 1 (.slice (some ⟨gw, 0, none⟩) (j + 1) cw) (j + 1) xs ∧ news.length = N - (k + 1) ∧ (∀ (i : Nat) (u : Value), news[i]? = some u → w6.cell? ⟨gw, k + 1 + i, none⟩ = some u ∧ u.oneCell' = true) ∧
      ∀ w7, w7.ownsRow lo 76 1 (.slice (some ⟨gw, 0, none⟩) (j + 1 + (N - (k + 1))) cw) (j + 1 + (N - (k + 1))) (xs ++ news) → w6.grownBy w7 (some gw) →
        (w7.cell? ⟨b, 5, none⟩ = some (.slice (some ⟨gt, 0, none⟩) W ct) ∧ (∃ X, w7.cell? ⟨gt, p, none⟩ = some X) ∧ w7.frozen? ⟨gt, p, none⟩ = false) ∧
        ∃ own' rv', Sol lo (w7.setCell ⟨gt, p, none⟩ (.slice (some ⟨gw, 0, none⟩) (j + 1 + (N - (k + 1))) cw)).drew own' rv' { S with watch := S.watch.set p (ws3.take (j + 1) ++ ws3.drop (k + 1)) } ∧ Frm own0 own' w0 (w7.setCell ⟨gt, p, none⟩ (.slice (some ⟨gw, 0, none⟩) (j + 1 + (N - (k + 1))) cw)).drew ∧ ∀ t, isS t = false → rv' t = rv6 t := by
  have hrow6 := ((hs6.part (.wr p)).1 rfl)
  have hm6 := mem_wr hws5
  rw [hm6, hvw6] at hrow6
  have ho6 : w6.ownsRow lo 76 1 (.slice (some ⟨gw, 0, none⟩) N cw) N (concs rv6 (ws3.map pr)) := by
    have := hrow6.row
    have e : (row (ws3.map pr)).n = N := by show (ws3.map pr).length = N; rw [List.length_map]; exact hl3
    rw [e] at this
    exact this
  have hc6 := own_cut ho6 (k := j + 1) (by omega)
  rw [Nat.mul_one] at hc6
  have hcut6 : (concs rv6 (ws3.map pr)).take (j + 1) ++ (concs rv6 (ws3.map pr)).drop (k + 1) = concs rv6 ((ws3.take (j + 1) ++ ws3.drop (k + 1)).map pr) := by
    unfold concs
    rw [List.map_append, List.map_append, List.map_take, List.map_take, List.map_drop, List.map_drop]
  refine ⟨_, (concs rv6 (ws3.map pr)).drop (k + 1), hc6, ?_, fun i u hu => ?_, fun w7 q1 q2 => ?_⟩
  · unfold concs
    rw [List.length_drop, List.length_map, List.length_map, hl3]
  · rw [List.getElem?_drop] at hu
    have hlt7 := len_of hu
    unfold concs at hlt7
    rw [List.length_map, List.length_map] at hlt7
    obtain ⟨ci, hci⟩ : ∃ ci, ws3[k + 1 + i]? = some ci := ⟨_, List.getElem?_eq_getElem hlt7⟩
    have hcc := hs6.rcell hvw6 (m := k + 1 + i) (u := pr ci) (by rw [hm6]; exact map_get hci)
    have hu' : u = rv6 (.cl ci) := by
      have := concs_get (rv := rv6) (map_get (f := pr) hci)
      rw [this] at hu
      exact (Option.some.inj hu).symm
    rw [hu']
    have hlt8 := hall ci (by
      apply List.mem_of_getElem? (i := i)
      rw [List.getElem?_drop]; exact hci)
    obtain ⟨z, hz⟩ : ∃ z, S.cls[ci]? = some z := ⟨_, List.getElem?_eq_getElem hlt8⟩
    obtain ⟨cb, hcb, _⟩ := hs6.clb hz
    exact ⟨hcc.1, by rw [hcb]; rfl⟩
  · rw [hcut6] at q1
    have hgt6 : ow6 gt = some .wt := ((hs6.part .wt).1 rfl).lab gt (by rw [hgtt]; rfl)
    have hn7 : (ws3.take (j + 1) ++ ws3.drop (k + 1)).length = j + 1 + (N - (k + 1)) := by
      rw [List.length_append, List.length_take, List.length_drop, hl3]; omega
    obtain ⟨⟨n1, n2⟩, n3, n4⟩ := hs6.newW hF hws5 hgtt hgt6 hvw6 q1 q2 hn7
    have hlg6 : ow6 gw = some (.wr p) := ((hs6.part (.wr p)).1 rfl).lab gw (by rw [hvw6]; rfl)
    obtain ⟨bx, ex, hbx, _, hbw6⟩ := hs6.xb
    rw [hb6] at ex; cases ex
    have hbne : b ≠ gw := apart hbx hlg6 (by intro e; cases e)
    have g5 := (hs6.fld hb6 (m := 5) rfl).1
    rw [show conc rv6 (AC.ref Tg.wt) = _ from hgtt] at g5
    obtain ⟨b', e', _, _, _, gp1, _⟩ := hs6.cell (wt_ref S (p := p) (len_of hws5))
    rw [hgtt] at e'; cases e'
    exact ⟨⟨(World.cell?_of_block (a := ⟨b, 5, none⟩) (q2.block b hbw6 (by intro e; exact hbne (Option.some.inj e)))).trans g5, ⟨_, n1.trans gp1⟩, n2⟩, ow6, _, n3.drew, n4.drew, fun t ht => upd_other _ _ (by rintro rfl; cases ht)⟩
set_option maxHeartbeats 16000000 in
set_option maxRecDepth 1000000 in
theorem spread_walk (h : Sol lo w own rv S) (wf : WF n S) {r : Option Nat × Sz} (hf : spreadO S = some r) :
    Calls Try.prog 31 #[rv .x] w fun e w' => (∃ pa, e = .returned (.pointer pa) ∧ conc rv (pro r.1) = .pointer pa) ∧ ∃ own' rv', Sol lo w' own' rv' r.2 ∧ Frm own own' w w' ∧ ∀ t, isS t = false → rv' t = rv t := by
  obtain ⟨i0, hi0, hz0, hz1, hz2⟩ := info_parts' info76
  obtain ⟨b, hb, hlx, hlob, hbw⟩ := h.xb
  have hbig := wf.ord.big
  unfold spreadO at hf
  have hself := Hid'.mk (And.intro h (And.intro wf hf))
  rw [hb]
  clear h wf hlx hf
  go_enter Try.func31, Try.ntmps31
  go_wp2
  go_loopg [] (S.vals.length + 1) (fun k wr => ∃ (ow : Nat → Option Tg) (rv1 : Tg → Value) (S1 : Sz), Sol lo wr ow rv1 S1 ∧ Frm own ow w wr ∧ WF n S1 ∧ (∀ t, isS t = false → rv1 t = rv t) ∧ S1.cls.length = S.cls.length ∧ spreadF k S1 = some r)
  case atStart => exact ⟨own, rv, S, hself.h.1, Frm.refl _ _, hself.h.2.1, fun _ _ => rfl, rfl, hself.h.2.2⟩
  case round =>
    obtain ⟨ow, rv1, S1, hs, hF, wf, hr, hcl, hsp⟩ := hrel
    obtain ⟨f', hgk, hE1, hE2⟩ := spread_eq hsp
    have hb1 : rv1 .x = .pointer (some ⟨b, 0, none⟩) := (hr .x rfl).trans hb
    obtain ⟨T, hT⟩ : ∃ T, S1.tr.length = T := ⟨_, rfl⟩
    obtain ⟨A, hA⟩ : ∃ A, S1.at' = A := ⟨_, rfl⟩
    obtain ⟨a10, c10, H10⟩ := hs.headX (T := .tr) (m := 10) (k := T) hb1 rfl rfl (by show (S1.tr.map _).length = T; rw [List.length_map]; exact hT)
    have f10 := H10.cell
    have f12 := (hs.fld hb1 (m := 12) rfl).1
    replace f12 : wr.cell? ⟨b, 12, none⟩ = some (.int .i64 A) := by rw [← hA]; exact f12
    rw [hT, hA] at hE1 hE2
    by_cases hlt : A < T
    · obtain ⟨A', x, ws, q, rfl, hx, hxb, hws, hwl, hTl, hrow, hq1, hq2⟩ := hE2 hlt
      clear hE1 hE2
      obtain ⟨g10, rfl, _⟩ := H10.at_ (by omega)
      have k10 := (hs.hcell H10.val (u := vi x) (map_get hx)).1
      replace k10 : wr.cell? ⟨g10, A', none⟩ = some (.int .i64 x) := k10
      obtain ⟨N, hN⟩ : ∃ N, ws.length = N := ⟨_, rfl⟩
      obtain ⟨W, hW⟩ : ∃ W, S1.watch.length = W := ⟨_, rfl⟩
      obtain ⟨p, hp⟩ : ∃ p, codeZ (-x) = p := ⟨_, rfl⟩
      rw [hN] at hrow hwl
      rw [hp] at hws
      obtain ⟨gt, ct, aw, cw, H5, HW, hgt⟩ := hs.wrHead hb1 hws hW hN
      have hcode := fun W1 => code_walk (-x) (by omega) (by omega) W1
      rw [hp] at hcode
      have hstore : ∀ q, Sol lo ((wr.drewN q).setCell ⟨b, 12, none⟩ (.int .i64 ((A' : Int) + 1))) ow rv1 { S1 with at' := (A' : Int) + 1 } ∧ Frm own ow w ((wr.drewN q).setCell ⟨b, 12, none⟩ (.int .i64 ((A' : Int) + 1))) := fun q => (hs.drewN q).putX (hF.drewN q) hb1 (by decide) (vi ((A' : Int) + 1)) (by rw [mem_at_])
      have f12' := (hs.fld hb1 (m := 12) rfl).2
      have hTc := H10.le
      have hltT : (A' : Int) < T := by omega
      have hltc : (A' : Int) < c10 := by omega
      have hpW : (p : Int) < W := by have := len_of hws; omega
      have hWc := H5.le
      have hH := Hid'.mk (And.intro hstore (And.intro H5 (And.intro HW (And.intro hgt (And.intro wf (And.intro hr (And.intro hcl (And.intro hrow (And.intro hq1 (And.intro hq2 (And.intro hgk (And.intro hws (And.intro hW (And.intro hA hp))))))))))))))
      clear hs hF wf hr hcl hsp H10 hself hstore H5 HW hgt hrow hq1 hq2 hgk hws hW hx hA hp
      go_wp2_with fail
      go_quiet (fail)
      go_wp2_with fail
      go_quiet (fail)
      go_upto_region 4 with (fail)
      rename_i nqa _ _
      obtain ⟨hstore, H5, HW, hgt, wf, hr, hcl, hrow, hq1, hq2, hgk, hws, hW, hA, hp⟩ := hH.h
      have hS2 := hstore (nqa + nq)
      generalize hw2 : (wr.drewN (nqa + nq)).setCell ⟨b, 12, none⟩ (.int .i64 ((A' : Int) + 1)) = w2 at hS2 ⊢
      clear hH hstore f10 f12 f12' k10 hw2
      have g5 := (hS2.1.fld hb1 (m := 5) rfl).1
      rw [show conc rv1 (AC.ref Tg.wt) = _ from H5.val] at g5
      have gp : w2.cell? ⟨gt, p, none⟩ = some (.slice aw N cw) := by
        obtain ⟨b', e, _, _, _, e2, _⟩ := hS2.1.cell (wt_ref { S1 with at' := (A' : Int) + 1 } (p := p) (len_of hws))
        rw [H5.val] at e; cases e
        rw [e2]
        exact congrArg some HW.val
      have hvt := H5.val
      have hvw := HW.val
      have hNc := HW.le
      have haw := HW.at_
      have wf2 := watchAt_wf wf ((A' : Int) + 1)
      have hws2 : ({ S1 with at' := (A' : Int) + 1 } : Sz).watch[codeZ (-x)]? = some ws := by rw [hp]; exact hws
      have hH := Hid'.mk (And.intro hS2.1 (And.intro hS2.2 (And.intro hr (And.intro hcl (And.intro hrow (And.intro hq1 (And.intro hq2 (And.intro hgk (And.intro hws2 (And.intro wf2 (And.intro hgt (And.intro hvt (And.intro hvw (And.intro haw (And.intro hN hp)))))))))))))))
      clear hS2 hr hcl hrow hq1 hq2 hgk hws hws2 wf wf2 hgt hvt hvw haw hp hN hW hA H5 HW
      go_quiet (first | (go_at_call 48; refine Calls.quiet_of_same (hcode _)))
      go_wp2
      obtain ⟨hS2, hF2, hr, hcl, hrow, hq1, hq2, hgk, hws2, wf2, hgt, hvt, hvw, haw, hN, hp⟩ := hH.h
      have hvtr : rv .wt = .slice (some ⟨gt, 0, none⟩) W ct := (hr .wt rfl).symm.trans hvt
      have hH := Hid'.mk (And.intro hq1 (And.intro hq2 (And.intro hgk (And.intro hvtr (And.intro haw (And.intro hN hp))))))
      have hHs := Hid'.mk (And.intro (hS2.drewN nq) (And.intro (hF2.drewN nq) (And.intro wf2 (And.intro hr (And.intro hvw (And.intro hws2 (And.intro hN (And.intro hcl hrow))))))))
      clear hS2 hF2 hr hcl hrow hq1 hq2 hgk hws2 wf2 hgt hvt hvw haw hN hp g5 gp hvtr
      go_loopw [5, 48] (fun kv iv wy => ∃ (k j f : Nat) (ow2 : Nat → Option Tg) (rv2 : Tg → Value) (S2 : Sz) (ws2 : List Nat), kv = .slice aw j cw ∧ iv = .int .i64 k ∧ j ≤ k ∧ k ≤ N ∧ Sol lo wy ow2 rv2 S2 ∧ Frm own ow2 w wy ∧ WF n S2 ∧ (∀ t, isS t = false → rv2 t = rv t) ∧ rv2 (.wr p) = .slice aw N cw ∧ S2.watch[codeZ (-x)]? = some ws2 ∧ ws2.length = N ∧ S2.cls.length = S.cls.length ∧ rowF f S2 (-x) k j = some q) (fun _ iv _ => N - (intOf iv).toNat)
      case atStart => exact ⟨0, 0, _, ow, rv1, _, ws, rfl, rfl, by omega, by omega, hHs.h.1, hHs.h.2.1, hHs.h.2.2.1, hHs.h.2.2.2.1, hHs.h.2.2.2.2.1, hHs.h.2.2.2.2.2.1, hHs.h.2.2.2.2.2.2.1, hHs.h.2.2.2.2.2.2.2.1, hHs.h.2.2.2.2.2.2.2.2⟩
      case round =>
        obtain ⟨k, j, f, ow2, rv2, S2, ws2, rfl, rfl, hjk, hkN, hs, hF, wf, hr, hvw, hws, hN2, hcl, hrow⟩ := hrel
        obtain ⟨hq1, hq2, hgk, hvtr, haw, hN, hp⟩ := hH.h
        obtain ⟨hrA, hrB⟩ := row_eq hws hrow
        rw [hN2] at hrA hrB
        rw [hp] at hws hrA hrB
        have hb2 : rv2 .x = .pointer (some ⟨b, 0, none⟩) := (hr .x rfl).trans hb
        have hvt2 : rv2 .wt = .slice (some ⟨gt, 0, none⟩) W ct := (hr .wt rfl).trans hvtr
        have hgt2 : ow2 gt = some .wt := ((hs.part .wt).1 rfl).lab gt (by rw [hvt2]; rfl)
        by_cases hlt : k < N
        · obtain ⟨f1, c, qv, rfl, hc, hvis, hA1, hA2⟩ := hrB hlt
          clear hrA hrB hrow
          obtain ⟨gw, haweq, _⟩ := haw (by omega)
          subst haweq
          have hck := (hs.hcell hvw (u := pr c) (by rw [mem_wr hws]; exact map_get hc)).1
          obtain ⟨z, hz, hg1, hg2⟩ := visit_eq wf hvis
          obtain ⟨v1, v2, v3, v4, v5⟩ := visit_facts wf hvis
          rw [hp] at hg2 v4
          obtain ⟨cb, hcb, hcg, hcl0⟩ := hs.clFacts hz
          replace hck : wr.cell? ⟨gw, k, none⟩ = some (.pointer (some ⟨cb, 0, none⟩)) := by rw [hck]; exact congrArg some hcb
          have hkI : (k : Int) < N := by omega
          have hNc : N ≤ cw := by
            obtain ⟨_, _, a', c', _, HW, _⟩ := hs.wrHead hb2 hws rfl hN2
            have e := HW.val
            rw [hvw] at e
            cases e
            exact HW.le
          have hkc : (k : Int) < cw := by omega
          cases hg : z.gone
          · obtain ⟨a, b', a1, v, z1, ha, hb', ha1, wf1, hz1, hz2, hv, h3, h4⟩ := hg2 hg
            obtain ⟨gl, cl, hvl, hlc, c0, hcells⟩ := hcl0 a ha
            obtain ⟨ca, fa⟩ := hcells 0 a ha
            obtain ⟨cb', fb'⟩ := hcells 1 b' hb'
            have hL2 : (1 : Int) < (z.lits.length : Int) := by have := len_of hb'; omega
            obtain ⟨L, hLL⟩ : ∃ L, z.lits.length = L := ⟨_, rfl⟩
            rw [hLL] at c0 hvl hlc hL2
            have hL0 : (0 : Int) < (L : Int) := by omega
            have hsw : a = -x → Sol lo ((wr.setCell ⟨gl, 0, none⟩ (.int .i64 b')).setCell ⟨gl, 1, none⟩ (.int .i64 a)).drew ow2 rv2 (turned S2 (-x) c z a) ∧ Frm own ow2 w ((wr.setCell ⟨gl, 0, none⟩ (.int .i64 b')).setCell ⟨gl, 1, none⟩ (.int .i64 a)).drew := fun e => by
              have := hs.swapLits hz hvl ha hb' hF
              unfold turned
              rw [if_pos e]
              exact this
            have hnsw : a ≠ -x → Sol lo wr ow2 rv2 (turned S2 (-x) c z a) ∧ Frm own ow2 w wr := fun e => by
              unfold turned
              rw [if_neg e]
              exact ⟨hs, hF⟩
            have y1 : (wr.setCell ⟨gl, 0, none⟩ (.int .i64 b')).cell? ⟨gl, 1, none⟩ = some (.int .i64 b') := by rw [World.cell?_setCell_other _ ⟨gl, 0, none⟩ ⟨gl, 1, none⟩ _ (by intro e; injection e; omega)]; exact cb'
            have y2 : (wr.setCell ⟨gl, 0, none⟩ (.int .i64 b')).frozen? ⟨gl, 1, none⟩ = false := by rw [World.frozen?_setCell]; exact fb'
            rw [hg] at hcg
            have hK := Hid'.mk (And.intro hA1 (And.intro hA2 (And.intro wf1 (And.intro hr (And.intro hvw (And.intro hws (And.intro hN2 (And.intro hcl (And.intro hp (And.intro hz1 (And.intro hz2 (And.intro hv (And.intro h3 (And.intro h4 (And.intro v1 (And.intro v2 (And.intro v3 (And.intro v4 (And.intro hq1 hvt2)))))))))))))))))))
            have hSW := Hid'.mk (And.intro hsw hnsw)
            clear hA1 hA2 wf1 hr hvw hws hN2 hcl hp hz1 hz2 hv h3 h4 v1 v2 v3 v4 v5 hq1 hq2 hgk hsw hnsw hs hF wf hvtr haw hcl0 hcells hvis hg1 hg2 hvt2 hgt2 hz hc hb' ha hLL hH ha1
            go_upto_if 65 with fail
            go_cut [] from 50 to 138 (fun wx => Sol lo wx ow2 rv2 (turned S2 (-x) c z a) ∧ Frm own ow2 w wx)
            case first =>
              -- [D
              by_cases hax : a = -x
              · subst hax
                have hE := Hid'.mk (hSW.h.1 rfl)
                clear hK hSW
                go_wp2_with fail
                go_region
                go_wp2_with fail
                go_meet
                case rel => exact hE.h
              · have hE := Hid'.mk (hSW.h.2 hax)
                clear hK hSW
                go_wp2
                go_meet
                case rel => exact hE.h
              -- D]
            case rest =>
              clear hSW c0 ca fa cb' fb' y1 y2 hck hcg
              obtain ⟨hA1, hA2, wf1, hr, hvw, hws, hN2, hcl, hp, hz1, hz2, hv, h3, h4, v1, v2, v3, v4, hq1, hvt2⟩ := hK.h
              obtain ⟨hs3, hF3⟩ := hcut
              clear hK
              obtain ⟨cb2, e2, _, hcl3⟩ := hs3.clFacts hz1
              rw [hcb] at e2
              cases e2
              obtain ⟨gl3, cl3, hvl3, hlc3, c3, hcells3⟩ := hcl3 a1 hz2
              obtain ⟨cz, _⟩ := hcells3 0 a1 hz2
              have hval := litO_walk hs3 wf1 hv
              rw [hb2] at hval
              have hL3 : (0 : Int) < (z1.lits.length : Int) := by have := len_of hz2; omega
              obtain ⟨L3, hLL3⟩ : ∃ L, z1.lits.length = L := ⟨_, rfl⟩
              rw [hLL3] at c3 hlc3 hL3
              have hmv : ∀ q9, v ≠ 1 → movesO (turned S2 (-x) c z a) c p = some q9 → Calls Try.prog 49 #[.pointer (some ⟨b, 0, none⟩), .pointer (some ⟨cb, 0, none⟩)] wc fun e w' => e = .returned (.bool q9.1) ∧ ∃ own' rv', Sol lo w' own' rv' q9.2 ∧ Frm own own' w w' ∧ (∀ t, isS t = false → rv' t = rv t) ∧ rv' (.wr p) = .slice (some ⟨gw, 0, none⟩) N cw := by
                intro q9 _ hq9
                have := moves_walk hs3 wf1 hq9
                rw [hb2, hcb] at this
                refine this.mono ?_
                rintro e w' ⟨p1, own', rv', p2, p3, p4, p5⟩
                exact ⟨p1, own', rv', p2, hF3.trans p3, fun t ht => (p5 t (isW_of_isS ht)).trans (hr t ht), p4.trans hvw⟩
              have hK := Hid'.mk (And.intro hA1 (And.intro hA2 (And.intro wf1 (And.intro hr (And.intro hvw (And.intro hws (And.intro hN2 (And.intro hcl (And.intro hp (And.intro hz1 (And.intro hz2 (And.intro h3 (And.intro h4 (And.intro v1 (And.intro v2 (And.intro v3 (And.intro v4 (And.intro hq1 (And.intro hvt2 (And.intro hs3 (And.intro hF3 (And.intro hmv (And.intro hvl3 (And.intro hcells3 hLL3))))))))))))))))))))))))
              clear hA1 hA2 wf1 hr hvw hws hN2 hcl hp hz1 hz2 hv h3 h4 v1 v2 v3 v4 hq1 hvt2 hs3 hF3 hmv hvl3 hcells3 hcl3 hLL3
              go_upto_region 12 with fail
              go_cut [107] from 92 to 138 (fun tv wx => ∃ (ow3 : Nat → Option Tg) (rv3 : Tg → Value), tv = .bool qv.1.isSome ∧ Sol lo wx ow3 rv3 qv.2 ∧ Frm own ow3 w wx ∧ (∀ t, isS t = false → rv3 t = rv t) ∧ rv3 (.wr p) = .slice (some ⟨gw, 0, none⟩) N cw)
              case first =>
                -- [E
                obtain ⟨_, _, _, hr, hvw, _, _, _, _, _, _, h3, h4, _, _, _, _, _, _, hs3, hF3, hmv, _⟩ := hK.h
                clear hK
                by_cases hv1 : v = 1
                ·
                  -- [G
                  have e1 := h3 hv1
                  subst hv1
                  have hE := Hid'.mk (And.intro e1 (And.intro hs3 (And.intro hF3 (And.intro hr hvw))))
                  clear e1 hs3 hF3 hr hvw h3 h4 hmv
                  go_wp2_with (go_at_call 45; refine hval.mono ?_; rintro e w2 ⟨p1, p2⟩; rw [p1, p2]; clear p1 p2)
                  go_meet
                  case rel =>
                    obtain ⟨e1, k1, k2, k3, k4⟩ := hE.h
                    exact ⟨ow2, rv2, by rw [e1]; rfl, by rw [e1]; exact k1, k2, k3, k4⟩
                  -- G]
                ·
                  -- [F
                  obtain ⟨q9, hq9, h5, h6⟩ := h4 hv1
                  have hm9 := hmv q9 hv1 hq9
                  have hE := Hid'.mk (And.intro h5 h6)
                  clear hs3 hF3 hr hvw h3 h4 hmv h5 h6
                  cases hq91 : q9.1
                  · rw [hq91] at hm9
                    go_wp2_with (first | (go_at_call 45; refine hval.mono ?_; rintro e w2 ⟨p1, p2⟩; rw [p1, p2]; clear p1 p2) | (go_at_call 49; refine hm9.mono ?_; rintro e w2 ⟨p1, ow3, rv3, p2, p3, p4, p5⟩; rw [p1]; clear p1))
                    go_meet
                    case rel =>
                      obtain ⟨e1, e2⟩ := hE.h.2 hq91
                      rw [e2] at p2
                      exact ⟨ow3, rv3, by rw [e1]; rfl, by rw [e1]; exact p2, p3, p4, p5⟩
                  · rw [hq91] at hm9
                    go_wp2_with (first | (go_at_call 45; refine hval.mono ?_; rintro e w2 ⟨p1, p2⟩; rw [p1, p2]; clear p1 p2) | (go_at_call 49; refine hm9.mono ?_; rintro e w2 ⟨p1, ow3, rv3, p2, p3, p4, p5⟩; rw [p1]; clear p1))
                    go_meet
                    case rel =>
                      have e1 := hE.h.1 hq91
                      exact ⟨ow3, rv3, by rw [e1]; first | rfl | (show Value.bool (v == 1) = Value.bool false; rw [beq_false_of_ne hv1]), by rw [e1]; exact p2, p3, p4, p5⟩
                  -- F]
                -- E]
              case rest =>
                obtain ⟨hA1, hA2, wf1, hr, hvw, hws, hN2, hcl, hp, hz1, hz2, h3, h4, v1, v2, v3, v4, hq1, hvt2, hs3, hF3, hmv, hvl3, hcells3, hLL3⟩ := hK.h
                clear hK hs3 hF3 hmv hvw cz c3 hval
                obtain ⟨ow3, rv3, htv, hs4, hF4, hr4, hvw4⟩ := hcut
                subst htv
                have hb4 : rv3 .x = .pointer (some ⟨b, 0, none⟩) := (hr4 .x rfl).trans hb
                have hws4 : qv.2.watch[p]? = some ws2 := v4.trans hws
                have hcl4 : qv.2.cls.length = S.cls.length := v2.trans hcl
                cases hra : qv.1 with
                | none =>
                  have hrow := hA1 hra
                  have hE := Hid'.mk (And.intro hs4 (And.intro hF4 (And.intro v1 (And.intro hr4 (And.intro hvw4 (And.intro hws4 (And.intro hN2 (And.intro hcl4 (And.intro hrow hp)))))))))
                  clear hA1 hA2 wf1 hws hcl hp hz1 hz2 h3 h4 v1 v2 v3 v4 hq1 hvt2 hvl3 hcells3 hs4 hF4 hr4 hvw4 hws4 hcl4 hrow
                  go_wp2
                  obtain ⟨k2, k3, k4, k5, k6, k7, k8, k9, k1, k10⟩ := hE.h
                  go_roundw
                  case rel => exact ⟨k + 1, j, f1, ow3, rv3, qv.2, ws2, rfl, by simp, by omega, by omega, k2, k3, k4, k5, k6, by rw [k10]; exact k7, k8, k9, k1⟩
                  case measure => simp [intOf]; omega
                | some a2 =>
                  obtain ⟨t, ht, ht1, ht2⟩ := hA2 a2 hra
                  -- the clause, as it stands now
                  have hcq : ∃ z2 : Cz, qv.2.cls[c]? = some z2 ∧ z2.lits[0]? = some a2 := by
                    by_cases hv1 : v = 1
                    · rw [h3 hv1] at hra ⊢
                      cases hra
                      exact ⟨z1, hz1, hz2⟩
                    · obtain ⟨q9, _, h5, h6⟩ := h4 hv1
                      cases hq9 : q9.1 with
                      | true => rw [h5 hq9] at hra; cases hra
                      | false =>
                        rw [(h6 hq9).1] at hra ⊢
                        cases hra
                        exact ⟨z1, hz1, hz2⟩
                  obtain ⟨z2, hz2', hza⟩ := hcq
                  have hjN : j < ws2.length := by omega
                  have hcb4 : rv3 (.cl c) = .pointer (some ⟨cb, 0, none⟩) := (hr4 (.cl c) rfl).trans ((hr (.cl c) rfl).symm.trans hcb)
                  have hs5 := hs4.keepW hF4 hws4 hvw4 hjN hcb4 (.cells #[.pointer (some ⟨cb, 0, none⟩)] 76)
                  have cn := cell_new wc #[.pointer (some ⟨cb, 0, none⟩)] 76 (0, 0) 0
                  have hthere : ∀ i, i < 1 → ((wc.alloc (.cells #[.pointer (some ⟨cb, 0, none⟩)] 76)).cell? ⟨gw, j + i, none⟩).isSome = true ∧ (wc.alloc (.cells #[.pointer (some ⟨cb, 0, none⟩)] 76)).frozen? ⟨gw, j + i, none⟩ = false := by
                    intro i hi
                    obtain rfl : i = 0 := by omega
                    have := (hs4.alloc (.cells #[.pointer (some ⟨cb, 0, none⟩)] 76)).rcell hvw4 (m := j) (u := pr (ws2[j]'hjN)) (by rw [mem_wr hws4]; exact map_get (List.getElem?_eq_getElem hjN))
                    rw [Nat.add_zero]
                    exact ⟨by rw [this.1]; rfl, this.2⟩
                  have hjc : j + 1 ≤ cw := by omega
                  have hnews1 : ∀ (j0 : Nat) (u : Value), [Value.pointer (some ⟨cb, 0, none⟩)][j0]? = some u → (wc.alloc (.cells #[.pointer (some ⟨cb, 0, none⟩)] 76)).cell? ((⟨wc.heap.size, 0, none⟩ : Addr).add j0) = some u := by
                    intro j0 u hj
                    match j0, hj with
                    | 0, hj =>
                      simp at hj
                      subst hj
                      rw [add_plain]
                      exact cn
                  have hone1 : ∀ u ∈ [Value.pointer (some (⟨cb, 0, none⟩ : Addr))], u.oneCell' = true := by intro u hu; simp at hu; subst hu; rfl
                  have hcl5 : (setW qv.2 p j c).cls[c]? = some z2 := hz2'
                  obtain ⟨cb5, e5, _, hcl5f⟩ := hs5.1.clFacts hcl5
                  rw [hcb4] at e5
                  cases e5
                  obtain ⟨gl5, cl5, hvl5, hlc5, c5, hcells5⟩ := hcl5f a2 hza
                  obtain ⟨cz5, _⟩ := hcells5 0 a2 hza
                  have wf5 := setW_wf v1 p j c
                  have hlet := let_walk hs5.1 wf5 (pa := some ⟨cb, 0, none⟩) (by show rv3 (.cl c) = _; exact hcb4) ht
                  rw [hb4] at hlet
                  obtain ⟨lf1, lf2, lf3, lf4, lf5, lf6⟩ := letO_facts wf5 ht
                  obtain ⟨W5, hW5⟩ : ∃ x, x = (wc.alloc (.cells #[.pointer (some ⟨cb, 0, none⟩)] 76)).setCell ⟨gw, j, none⟩ (.pointer (some ⟨cb, 0, none⟩)) := ⟨_, rfl⟩
                  rw [← hW5] at hs5 hlet c5 cz5
                  have hL5 : (0 : Int) < (z2.lits.length : Int) := by have := len_of hza; omega
                  obtain ⟨L5, hLL5⟩ : ∃ L, z2.lits.length = L := ⟨_, rfl⟩
                  rw [hLL5] at c5 hlc5 hL5
                  have hws5 : t.2.watch[codeZ (-x)]? = some (ws2.set j c) := by
                    rw [hp, lf3]
                    show (qv.2.watch.set p _)[p]? = _
                    rw [List.getElem?_set_self (len_of hws4), List.getD_eq_getElem?_getD, hws4]
                    rfl
                  have hvt2' := Hid'.mk (And.intro hr hvt2)
                  have hE := Hid'.mk (And.intro hW5 (And.intro hs5 (And.intro hr4 (And.intro hvw4 (And.intro hws5 (And.intro hN2 (And.intro (show t.2.cls.length = S.cls.length by rw [lf2]; exact hcl4) (And.intro lf1 (And.intro ht1 (And.intro ht2 (And.intro hp (And.intro hq1 (And.intro hcb4 (And.intro lf6 hb4))))))))))))))
                  clear hA1 hA2 wf1 hws hcl hp hz1 hz2 h3 h4 v1 v2 v3 v4 hq1 hvt2 hvl3 hcells3 hs4 hF4 hr4 hvw4 hws4 hcl4 ht ht1 ht2 hs5 hcl5 hcl5f hvl5 hcells5 wf5 lf1 lf2 lf3 lf4 lf5 lf6 hW5 hLL5 hza hz2' hcb4 hr hws5 hra hLL3
                  go_upto_region 14 with (at_builtin; refine wpList_append_cells _ rfl _ _ 54 rfl 76 i0 Try.underlying54 hi0 hz1 gw j cw rfl ⟨wc.heap.size, 0, none⟩ 1 1 [.pointer (some ⟨cb, 0, none⟩)] rfl rfl hnews1 hone1 hjc hthere ?_)
                  obtain ⟨hW5, hs5, hr4, hvw4, hws5, hN2, hcl5, lf1, ht1, ht2, hp, hq1, hcb4, lf6, hb4⟩ := hE.h
                  rw [show (wc.alloc (.cells #[.pointer (some ⟨cb, 0, none⟩)] 76)).setCells gw j [.pointer (some ⟨cb, 0, none⟩)] = W5 from hW5.symm]
                  clear hE hthere cn hW5 hnews1 hone1
                  cases ht0 : t.1
                  · have hbad := ht2 ht0
                    have he := lf6 ht0
                    rw [ht0] at hlet
                    obtain ⟨hr, hvt2⟩ := hvt2'.h
                    obtain ⟨hall, hbad⟩ := hbad
                    have hgetD : t.2.watch.getD p [] = ws2.set j c := by rw [hp] at hws5; rw [List.getD_eq_getElem?_getD, hws5]; rfl
                    rw [hgetD] at hbad hall
                    have hl3 : (ws2.set j c).length = N := by rw [List.length_set]; exact hN2
                    have hvt4 : rv3 .wt = .slice (some ⟨gt, 0, none⟩) W ct := (hr4 .wt rfl).trans ((hr .wt rfl).symm.trans hvt2)
                    rw [hp] at hws5
                    have hafter := fun w6 ow6 v6 (h6 : Sol lo w6 ow6 (upd rv3 .tr v6) t.2) (hF6 : Frm ow3 ow6 W5 w6) => bad_facts (rv6 := upd rv3 .tr v6) h6 (hs5.2.trans hF6) ((upd_other _ _ (by intro e; cases e)).trans hb4) ((upd_other _ _ (by intro e; cases e)).trans hvt4) ((upd_other _ _ (by intro e; cases e)).trans hvw4) hws5 hl3 hjk hlt hall
                    have hr2 : r = (some c, { t.2 with watch := t.2.watch.set p ((ws2.set j c).take (j + 1) ++ (ws2.set j c).drop (k + 1)) }) := by
                      rw [hq1 c (by rw [hbad]), hbad]
                    have hrc : rv (.cl c) = .pointer (some ⟨cb, 0, none⟩) := (hr4 (.cl c) rfl).symm.trans hcb4
                    have hE := Hid'.mk (And.intro hr2 (And.intro hrc hr4))
                    have hA := Hid'.mk hafter
                    have hk1 : (k : Int) + 1 ≤ N := by omega
                    have hk2 : (k : Int) + 1 ≤ cw := by omega
                    have hNcI : (N : Int) ≤ cw := by omega
                    have hd4 : j + 1 + (N - (k + 1)) ≤ cw := by omega
                    clear ht1 ht2 hs5 hr4 hvw4 hws5 hN2 hcl5 lf1 lf6 hq1 hp hr2 hrc hafter hall hbad hgetD hl3 hvt4 hr hvt2 hvt2' he hb4 hcb4
                    go_upto_region 15 with (go_at_call 29; refine hlet.mono ?_; rintro e w6 ⟨p1, ow6, v6, p2, p3⟩; rw [p1]; clear p1)
                    obtain ⟨xs, news, o6, nl, hn, hE6⟩ := hA.h w6 ow6 v6 p2 p3
                    have hE6 := Hid'.mk hE6
                    have hH6 := Hid'.mk (And.intro nl hn)
                    clear p2 p3 hA hlet c5 cz5 nl hn
                    go_upto_region 16 with (at_builtin; refine wpList_append_fits_any _ rfl _ _ 54 rfl lo 76 i0 1 Try.underlying54 hi0 hz1 gw (j + 1) cw xs rfl o6 _ (N - (k + 1)) _ news rfl ?d0 ?d1 ?d2 ?d3 hd4 ?_)
                    case d0 => rw [hH6.h.1, Nat.mul_one]
                    case d2.inl =>
                      intro j0 u hu
                      have := len_of hu
                      rw [hH6.h.1] at this
                      omega
                    case d2.inr =>
                      intro j0 u hu
                      exact (hH6.h.2 j0 u hu).1
                    case d3 =>
                      intro u hu
                      obtain ⟨i, hi, rfl⟩ := List.getElem_of_mem hu
                      exact (hH6.h.2 i _ (List.getElem?_eq_getElem hi)).2
                    case inl =>
                      have hcw : cw = k + 1 := by assumption
                      subst hcw
                      intro w7 q1 q2
                      obtain ⟨⟨g1, ⟨X, g2⟩, g3⟩, hF⟩ := hE6.h w7 q1 q2
                      have hF := Hid'.mk hF
                      clear hE6 hH6 q1 q2 o6
                      go_wp2_with fail
                      go_still_tail 7, (by kernel_rfl)
                      still_call (hcode _)
                      repeat still_step
                      refine wpStill_nil ?_
                      go_wp2_with fail
                      go_ret
                      obtain ⟨hr2, hrc, hr4⟩ := hE.h
                      obtain ⟨own', rv', f1, f2, f3⟩ := hF.h
                      have hz : N - (k + 1) = 0 := by omega
                      rw [hz, Nat.add_zero] at f1 f2
                      rw [hr2]
                      exact ⟨⟨_, rfl, hrc⟩, own', rv', f1, f2, fun t ht => (f3 t ht).trans ((upd_other _ _ (by rintro rfl; cases ht)).trans (hr4 t ht))⟩
                    case inr =>
                      intro w7 q1 q2
                      obtain ⟨⟨g1, ⟨X, g2⟩, g3⟩, hF⟩ := hE6.h w7 q1 q2
                      have hF := Hid'.mk hF
                      clear hE6 hH6 q1 q2 o6
                      go_wp2_with fail
                      go_still_tail 7, (by kernel_rfl)
                      still_call (hcode _)
                      repeat still_step
                      refine wpStill_nil ?_
                      go_wp2_with fail
                      go_ret
                      obtain ⟨hr2, hrc, hr4⟩ := hE.h
                      obtain ⟨own', rv', f1, f2, f3⟩ := hF.h
                      rw [hr2]
                      exact ⟨⟨_, rfl, hrc⟩, own', rv', f1, f2, fun t ht => (f3 t ht).trans ((upd_other _ _ (by rintro rfl; cases ht)).trans (hr4 t ht))⟩
                  · have hrow := ht1 ht0
                    rw [ht0] at hlet
                    have hE := Hid'.mk (And.intro hs5 (And.intro hr4 (And.intro hvw4 (And.intro hws5 (And.intro hN2 (And.intro hcl5 (And.intro lf1 hrow)))))))
                    clear ht1 ht2 hrow hs5 hr4 hvw4 hws5 hN2 hcl5 lf1 lf6 hq1 hp
                    go_wp2_with (go_at_call 29; refine hlet.mono ?_; rintro e w6 ⟨p1, ow6, v6, p2, p3⟩; rw [p1]; clear p1)
                    obtain ⟨hs5, hr4, hvw4, hws5, hN2, hcl5, lf1, hrow⟩ := hE.h
                    go_roundw
                    case rel => exact ⟨k + 1, j + 1, f1, ow6, _, t.2, ws2.set j c, by first | rfl | trivial, by simp, by omega, by omega, p2, hs5.2.trans p3, lf1, fun t ht => (upd_other _ _ (by rintro rfl; cases ht)).trans (hr4 t ht), (upd_other _ _ (by intro e; cases e)).trans hvw4, hws5, by rw [List.length_set]; exact hN2, hcl5, hrow⟩
                    case measure => simp [intOf]; omega
          ·
            -- [C
            have e1 := hg1 hg
            have hK := Hid'.mk (And.intro (hA1 (by rw [e1])) (And.intro e1 (And.intro hs (And.intro hF (And.intro wf (And.intro hr (And.intro hvw (And.intro hws (And.intro hN2 (And.intro hcl hp))))))))))
            rw [hg] at hcg
            clear hA1 hA2 e1 hs hF wf hr hvw hws hcl hH hq1 hq2 hgk haw hvtr hg1 hg2 v1 v2 v3 v4 v5 hcl0 hvis hc hz hcb hvt2 hgt2
            go_wp2
            obtain ⟨k1, e1, k2, k3, k4, k5, k6, k7, k8, k9, k10⟩ := hK.h
            rw [e1] at k1
            go_roundw
            case rel => exact ⟨k + 1, j, f1, ow2, rv2, S2, ws2, rfl, by simp, by omega, by omega, k2, k3, k4, k5, k6, by rw [k10]; exact k7, k8, k9, k1⟩
            case measure => simp [intOf]; omega
            -- C]
        ·
          -- [B
          have e1 := hrA (by omega)
          have hcut := fun q : Nat => (hs.drewN q).cutW (hF.drewN q) hws hN2 hvt2 hgt2 hvw (Nat.le_trans hjk hkN)
          have hltI : ¬ (k : Int) < N := by omega
          have g5 := (hs.fld hb2 (m := 5) rfl).1
          rw [show conc rv2 (AC.ref Tg.wt) = _ from hvt2] at g5
          obtain ⟨b', e, _, _, _, gp1, gp2⟩ := hs.cell (wt_ref S2 (p := p) (len_of hws))
          rw [hvt2] at e
          cases e
          rw [show conc rv2 (AC.ref (Tg.wr p)) = _ from hvw] at gp1
          have hK := Hid'.mk (And.intro hcut (And.intro (hq2 (by rw [e1])) (And.intro e1 (And.intro hgk (And.intro (watch_wf wf p (ws2.take j)) (And.intro hr hcl))))))
          clear hcut hq1 hq2 e1 hgk wf hr hcl hs hF hH hrA hrB hrow haw hvtr hb2 hvt2 hgt2 hvw hws
          go_wp2_with fail
          go_still_tail 7, (by kernel_rfl)
          still_call (hcode _)
          repeat still_step
          refine wpStill_nil ?_
          have hcut := Hid'.mk (hK.h.1 1)
          go_wp2_with fail
          obtain ⟨_, hq2, e1, hgk, wf3, hr, hcl⟩ := hK.h
          rw [e1] at hq2
          go_roundg f'
          case measure => omega
          case rel => exact ⟨ow2, _, _, hcut.h.1, hcut.h.2, wf3, fun t ht => (upd_other _ _ (by rintro rfl; cases ht)).trans (hr t ht), hcl, hq2⟩
          -- B]
    · have hE := Hid'.mk (And.intro (hE1 hlt) (And.intro hs (And.intro hF hr)))
      have hlt' : ¬ (A < (T : Int)) := hlt
      clear hE1 hE2 hs hF wf hr hcl hsp H10 hself
      go_wp2_with fail
      go_quiet (fail)
      go_wp2
      go_ret
      obtain ⟨q1, q2, q3, q4⟩ := hE.h
      rw [q1]
      exact ⟨⟨none, rfl, rfl⟩, ow, rv1, q2.drewN _, q3.drewN _, q4⟩
end Go.Proofs.Ytkpppmldbhgcgaa

/- Sat: the search, walked. -/
import Derived.Test.YtkpppmldbhgcgaaSbW
import Derived.Test.YtkpppmldbhgcgaaSbV
import Derived.Test.YtkpppmldbhgcgaaSbR
import Derived.Test.YtkpppmldbhgcgaaSbOtoSbK
import Derived.Test.YtkpppmldbhgcgaaSbL
import Derived.Test.YtkpppmldbhgcgaaSbFtoSbG
import Derived.Test.YtkpppmldbhgcgaaSbMtoSbI
import Derived.ScopeJumps
import Derived.Laws.Small
import Derived.Deep.RegionLaw
set_option linter.unusedVariables false
set_option linter.unusedSimpArgs false
set_option autoImplicit false
set_option linter.unusedVariables false
set_option linter.unusedSimpArgs false
namespace Go.Proofs.Ytkpppmldbhgcgaa
open Go Go.RowKit
/-- a scope in which the run jumps back to one label; the measure is a number of one's own -/
theorem wp_scope_ghost {P : Program} {a : Act} {w : World} {Q : Exit → Act → World → Prop} {c X : Code} (l : Nat) (J : Nat → Act → World → Prop) (hf : findLabel c l = some (Code.skip.seq X))
    (first : Hid' (∀ a w, (∃ k, J k a w) → X.wp P (Exit.jump l (fun a w => ∃ k, J k a w) Q) a w) → c.wp P (Exit.jump l (fun a w => ∃ k, J k a w) Q) a w) (pass : ∀ k a w, J k a w → X.wp P (Exit.jump l (fun a' w' => ∃ m, m < k ∧ J m a' w') Q) a w) : (Code.scope c).wp P Q a w := by
  have least : ∀ a w, (∃ k, J k a w) → ∃ k, J k a w ∧ ∀ m, J m a w → k ≤ m := by
    intro a w h
    obtain ⟨k, hk⟩ := h
    induction k using Nat.strongRecOn with
    | _ k ih =>
      by_cases hx : ∃ m, m < k ∧ J m a w
      · obtain ⟨m, hm, hJ⟩ := hx
        exact ih m hm hJ
      · exact ⟨k, hk, fun m hm => Nat.le_of_not_lt fun hlt => hx ⟨m, hlt, hm⟩⟩
  have first := first ⟨fun a w hJ => by
    obtain ⟨k, hk⟩ := hJ
    refine wp_mono (pass k a w hk) ?_
    intro e a' w' hq
    cases e with
    | goto l' =>
      obtain ⟨h1, m, _, hJ'⟩ := hq
      exact ⟨h1, m, hJ'⟩
    | normal => exact hq
    | exit id => exact hq
    | ret => exact hq
    | panic ch => exact hq
    | outgrown => exact hq⟩
  classical
  refine wp_scope_jumps l (fun a w => ∃ k, J k a w) (fun a w => if h : ∃ k, J k a w then Classical.choose (least a w h) else 0) hf first fun a w hJ => ?_
  have hsp := Classical.choose_spec (least a w hJ)
  refine wp_mono (wp_seq (wp_skip (show Exit.then _ _ .normal a w from pass _ a w hsp.1))) ?_
  intro e a' w' hq
  cases e with
  | goto l' =>
    obtain ⟨h1, m, hm, hJ'⟩ := hq
    refine ⟨h1, ⟨m, hJ'⟩, ?_⟩
    rw [dif_pos hJ, dif_pos ⟨m, hJ'⟩]
    have h2 := Classical.choose_spec (least a' w' ⟨m, hJ'⟩)
    exact Nat.lt_of_le_of_lt (h2.2 m hJ') hm
  | normal => exact hq
  | exit id => exact hq
  | ret => exact hq
  | panic ch => exact hq
  | outgrown => exact hq
theorem split10 {us : List Value} {k : Nat} (h : us.length = k + 10) : ∃ a b c d e f g i j l r, us = a :: b :: c :: d :: e :: f :: g :: i :: j :: l :: r ∧ r.length = k := by
  match us, h with
  | a :: b :: c :: d :: e :: f :: g :: i :: j :: l :: r, h => exact ⟨a, b, c, d, e, f, g, i, j, l, r, rfl, by simpa using h⟩
theorem split8 {us : List Value} (h : us.length = 8) : ∃ a b c d e f g i, us = [a, b, c, d, e, f, g, i] := by
  match us, h with
  | [a, b, c, d, e, f, g, i], _ => exact ⟨a, b, c, d, e, f, g, i, rfl⟩
theorem Out.frm3 {lo B : Nat} {w w' : World} {own own' : Nat → Option Tg} {ov : Value} {out : List Int} (h : Out lo B w own ov out) (hF : Frm own own' w w') : Out lo B w' own' ov out :=
  ⟨owns_keep h.row fun k hk => hF.keep k (h.row.lt k hk).2 (h.fre k hk), fun k hk => (hF.lab k (h.row.lt k hk).2).trans (h.fre k hk), h.new⟩
theorem frozen_new (w : World) (cs : Array Value) (t : TypeId) (k : Nat) (hk : k < cs.size) : (w.alloc (.cells cs t)).frozen? ⟨w.heap.size, k, none⟩ = false := by
  have h : (w.alloc (.cells cs t)).heap[w.heap.size]? = some (.cells cs t (0, 0)) := by
    show (w.heap.push (.cells cs t))[w.heap.size]? = _
    simp
  unfold World.frozen?
  rw [h]
  simp
/-- a clause more, of the call's own row -/
theorem Rep.newClause {lo : Nat} {w : World} {own : Nat → Option Tg} {rv : Tg → Value} {S : Sz} (h : Sol lo w own rv S) (hf : fresh S = true) {own0 : Nat → Option Tg} {w0 : World} (hF : Frm own0 own w0 w) {B : Nat} {ov : Value} {out : List Int} (hO : Out lo B w own ov out) (hB : w0.heap.size ≤ B) (hlo : lo ≤ w.heap.size) :
    ∃ own' rv', Sol lo (w.alloc (.cells #[ov, .bool true, .bool false, .int .i64 1] 80)) own' rv' { S with cls := S.cls ++ [⟨out, true, false, 1⟩] } ∧ Frm own0 own' w0 (w.alloc (.cells #[ov, .bool true, .bool false, .int .i64 1] 80)) ∧ rv' .x = rv .x ∧ rv' (.cl S.cls.length) = .pointer (some ⟨w.heap.size, 0, none⟩) ∧ rv' (.lits S.cls.length) = ov := by
  obtain ⟨o, ho⟩ : ∃ o, o = Obj.cells #[ov, .bool true, .bool false, .int .i64 1] 80 := ⟨_, rfl⟩
  obtain ⟨id, hid⟩ : ∃ id, S.cls.length = id := ⟨_, rfl⟩
  have hno : ∀ q (k : Nat), (mem S q).cs[k]? ≠ some (AC.ref (.lits id)) := fun q k hk => by
    have e := ref_home S rfl hk
    simp only [home, Prod.mk.injEq] at e
    obtain ⟨rfl, rfl⟩ := e
    have hk : (match S.cls[id]? with | some c => ccs id c | none => [])[0]? = some (AC.ref (.lits id)) := hk
    rw [show S.cls[id]? = none from List.getElem?_eq_none (by rw [hid]; exact Nat.le_refl _)] at hk
    cases hk
  obtain ⟨own6, hS6, hF6, k1, k2⟩ := (h.alloc o).linkRow (t := .lits id) rfl hno (v := ov) (n := out.length) (cs := out.map vi) (fun k hk => map_val hk) (by
    have e : concs rv (out.map vi) = out.map (Value.int .i64) := by unfold concs; rw [List.map_map]; rfl
    rw [e]
    exact (hO.alloc o).row) hO.fre (hF.alloc o) (fun g hg => Nat.le_trans hB (hO.new g hg))
  have hoN : own6 w.heap.size = none := by
    rw [k2 _ (fun e => by have := (hO.row.lt _ e).2; omega)]
    cases e : own w.heap.size with
    | none => rfl
    | some t => exact absurd (h.dom _ t e).2 (Nat.lt_irrefl _)
  have hsz : w.heap.size < (w.alloc o).heap.size := by simp
  have hS7 := hS6.link (t := .cl id) (v := .pointer (some ⟨w.heap.size, 0, none⟩)) (n := 4) (cs := ccs id ⟨out, true, false, 1⟩) (g := w.heap.size) (fun q k hk => by
    by_cases e : q = .lits id
    · subst e
      rw [upd_same] at hk
      exact (map_val hk).elim
    · rw [upd_other _ _ e] at hk
      have := ref_cl S hf hk
      omega) rfl hoN ⟨hlo, hsz⟩ ⟨fun k => (by cases k), fun _ _ => ⟨w.heap.size, rfl, lab_same .., fun m u hu => by
    have hu : [ov, Value.bool true, .bool false, .int .i64 1][m]? = some u := by
      have e : concs (upd (upd rv (.lits id) ov) (.cl id) (.pointer (some ⟨w.heap.size, 0, none⟩))) (ccs id ⟨out, true, false, 1⟩) = [ov, .bool true, .bool false, .int .i64 1] := by
        show [upd (upd rv (.lits id) ov) (.cl id) (.pointer (some ⟨w.heap.size, 0, none⟩)) (.lits id), Value.bool true, .bool false, .int .i64 1] = _
        rw [upd_other _ _ (by intro e; cases e), upd_same]
      rw [e] at hu
      exact hu
    have hm : m < 4 := len_of hu
    refine ⟨?_, ?_⟩
    · rw [ho, cell_new]
      rw [← hu]
      simp
    · rw [ho]; exact frozen_new w _ _ m hm⟩⟩
  rw [← ho, hid]
  refine ⟨lab own6 w.heap.size (.cl id), upd (upd rv (.lits id) ov) (.cl id) (.pointer (some ⟨w.heap.size, 0, none⟩)), ?_, ⟨hF6.os, hF6.tape, hF6.output, hF6.size, fun k hk => ?_, hF6.keep⟩, ?_, upd_same .., by rw [upd_other _ _ (by intro e; cases e), upd_same]⟩
  · rw [Sol, mem_new_, hid]
    have e1 : (⟨out.length, out.map vi⟩ : Ob Tg) = Ytkpppmldbhgcgaa.row (out.map vi) := by unfold Ytkpppmldbhgcgaa.row; rw [List.length_map]
    rw [← e1]
    exact hS7
  · have := hF.size
    show Ytkpppmldbhgcgaa.lab own6 w.heap.size (.cl id) k = own0 k
    rw [lab_other _ _ (by omega)]
    exact hF6.lab k hk
  · rw [upd_other _ _ (by intro e; cases e), upd_other _ _ (by intro e; cases e)]
/-- the frame of a search at its label -/
def Fr (budget conf limit left : Int) (b : Nat) (a : Act) : Prop := a.defers = [] ∧ a.tmps.size = 127 ∧ ∃ a2 a3, a.tmps.toList.take 9 = [.pointer (some ⟨b, 0, none⟩), .int .i64 budget, a2, a3, .int .i64 0, .int .i64 conf, .int .i64 limit, .int .i64 2000, .int .i64 left]
theorem Fr.open {budget conf limit left : Int} {b : Nat} {a : Act} (h : Fr budget conf limit left b a) : ∃ a2 a3, ∃ us : List Value, us.length = 118 ∧ a = { tmps := (.pointer (some ⟨b, 0, none⟩) :: .int .i64 budget :: a2 :: a3 :: .int .i64 0 :: .int .i64 conf :: .int .i64 limit :: .int .i64 2000 :: .int .i64 left :: us).toArray, defers := [] } := by
  obtain ⟨h1, h2, a2, a3, h3⟩ := h
  refine ⟨a2, a3, a.tmps.toList.drop 9, by rw [List.length_drop, Array.length_toList, h2], ?_⟩
  have e : a.tmps.toList = a.tmps.toList.take 9 ++ a.tmps.toList.drop 9 := (List.take_append_drop 9 _).symm
  rw [h3] at e
  cases a with
  | mk t d =>
    dsimp only at h1 e ⊢
    subst h1
    congr 1
    apply Array.toList_inj.1
    exact e
variable {lo n : Nat} {w : World} {own : Nat → Option Tg} {rv : Tg → Value} {S : Sz}
set_option maxHeartbeats 16000000 in
set_option maxRecDepth 1000000 in
theorem seek_walk (h : Sol lo w own rv S) (wf : WF n S) (hn : 0 < n) {budget : Int} {f : Nat} {r : Int × Sz} (hf : seekF f S budget 0 100 100 = some r) :
    Calls Try.prog 17 #[rv .x, .int .i64 budget] w fun e w' => e = .returned (.int .i64 r.1) ∧ ∃ own' rv', Sol lo w' own' rv' r.2 ∧ Frm own own' w w' ∧ rv' .x = rv .x := by
  obtain ⟨b, hb, hlx, hlob, hbw⟩ := h.xb
  have hself := Hid'.mk (And.intro h (And.intro wf hf))
  clear h wf hf
  rw [hb]
  go_enter Try.func17, Try.ntmps17
  go_wp2
  refine wp_scope_ghost 0 (fun k a' w' => ∃ (ow : Nat → Option Tg) (rv1 : Tg → Value) (S1 : Sz) (conf limit left : Int), Fr budget conf limit left b a' ∧ Sol lo w' ow rv1 S1 ∧ Frm own ow w w' ∧ WF n S1 ∧ rv1 .x = .pointer (some ⟨b, 0, none⟩) ∧ seekF k S1 budget conf limit left = some r) rfl ?first ?pass
  case first =>
    intro hrest
    go_wp2_with fail
    go_step3
    rename_i K hK
    refine hK _ _ ?_
    refine hrest.h _ _ ?_
    exact ⟨f, own, rv, S, 0, 100, 100, ⟨rfl, rfl, _, _, rfl⟩, hself.h.1, Frm.refl _ _, hself.h.2.1, hb, hself.h.2.2⟩
  case pass =>
    rintro k a' w' ⟨ow, rv1, S1, conf, limit, left, hfr, hs, hF, wf, hx, hk⟩
    obtain ⟨a2, a3, us, hus, rfl⟩ := hfr.open
    clear hfr
    obtain ⟨u9, u10, u11, u12, u13, u14, u15, u16, u17, u18, us1, rfl, hus1⟩ := split10 (k := 108) hus
    obtain ⟨u19, u20, u21, u22, u23, u24, u25, u26, u27, u28, us2, rfl, hus2⟩ := split10 (k := 98) hus1
    obtain ⟨u29, u30, u31, u32, u33, u34, u35, u36, u37, u38, us3, rfl, hus3⟩ := split10 (k := 88) hus2
    obtain ⟨u39, u40, u41, u42, u43, u44, u45, u46, u47, u48, us4, rfl, hus4⟩ := split10 (k := 78) hus3
    obtain ⟨u49, u50, u51, u52, u53, u54, u55, u56, u57, u58, us5, rfl, hus5⟩ := split10 (k := 68) hus4
    obtain ⟨u59, u60, u61, u62, u63, u64, u65, u66, u67, u68, us6, rfl, hus6⟩ := split10 (k := 58) hus5
    obtain ⟨u69, u70, u71, u72, u73, u74, u75, u76, u77, u78, us7, rfl, hus7⟩ := split10 (k := 48) hus6
    obtain ⟨u79, u80, u81, u82, u83, u84, u85, u86, u87, u88, us8, rfl, hus8⟩ := split10 (k := 38) hus7
    obtain ⟨u89, u90, u91, u92, u93, u94, u95, u96, u97, u98, us9, rfl, hus9⟩ := split10 (k := 28) hus8
    obtain ⟨u99, u100, u101, u102, u103, u104, u105, u106, u107, u108, us10, rfl, hus10⟩ := split10 (k := 18) hus9
    obtain ⟨u109, u110, u111, u112, u113, u114, u115, u116, u117, u118, us11, rfl, hus11⟩ := split10 (k := 8) hus10
    obtain ⟨u119, u120, u121, u122, u123, u124, u125, u126, rfl⟩ := split8 hus11
    clear hus hus1 hus2 hus3 hus4 hus5 hus6 hus7 hus8 hus9 hus10 hus11
    obtain ⟨k', r1, rfl, hbd, hsp, htr, hst, hA, hB⟩ := seek_eq hk
    obtain ⟨l1, l2, l3, l4, l5, l6⟩ := hbd
    have hsw := spread_walk hs wf hsp
    rw [hx] at hsw
    obtain ⟨wf1, hcl1⟩ := spread_wf wf hsp
    cases hr1 : r1.1 with
    | none =>
      have hsw1 : Calls Try.prog 31 #[.pointer (some ⟨b, 0, none⟩)] w' fun e w1 => e = .returned (.pointer none) ∧ ∃ ow1 rv2, Sol lo w1 ow1 rv2 r1.2 ∧ Frm own ow1 w w1 ∧ rv2 .x = .pointer (some ⟨b, 0, none⟩) := by
        refine hsw.mono ?_
        rintro e w1 ⟨⟨pa, p1, hpa⟩, ow1, rv2, p2, p3, p4⟩
        rw [hr1] at hpa
        cases hpa
        exact ⟨p1, ow1, rv2, p2, hF.trans p3, (p4 .x rfl).trans hx⟩
      obtain ⟨hB1, hB2⟩ := hB hr1
      clear hA hB hsw hsp hk hs hF wf
      by_cases hleft : left ≤ 0
      · obtain ⟨S4, h4, h5, h6⟩ := hB1 hleft
        have hbk : ∀ w1 ow1 rv2, Sol lo w1 ow1 rv2 r1.2 → rv2 .x = .pointer (some ⟨b, 0, none⟩) → Frm own ow1 w w1 → Calls Try.prog 33 #[.pointer (some ⟨b, 0, none⟩), .int .i64 0] w1 fun e w' => e = .returned (.tuple #[]) ∧ w'.cell? ⟨b, 17, none⟩ = some (.int .i64 S4.learned) ∧ ∃ ow3 rv3, Sol lo w' ow3 rv3 S4 ∧ Frm own ow3 w w' ∧ rv3 .x = .pointer (some ⟨b, 0, none⟩) := by
          intro w1 ow1 rv2 q1 q2 q3
          have := back_walk q1 wf1 h4 ⟨hst, htr⟩
          rw [q2] at this
          refine this.mono ?_
          rintro e w' ⟨p1, ow3, rv3, p2, p3, p4⟩
          have hx3 : rv3 .x = .pointer (some ⟨b, 0, none⟩) := (p4 .x rfl).trans q2
          exact ⟨p1, (p2.fld hx3 (m := 17) rfl).1, ow3, rv3, p2, q3.trans p3, hx3⟩
        have wf4 := (back_wf wf1 h4).1
        have hE := Hid'.mk (And.intro wf4 h6)
        have hq : limit.tdiv 4 = limit / 4 := Int.tdiv_eq_ediv_of_nonneg l5
        have hq2 : limit / 4 ≤ 1000000000 := by omega
        have hq3 : 0 ≤ limit / 4 := by omega
        have h5' : ¬ (2000 < S4.learned) := by omega
        clear hB1 hB2 h4 h6 wf4 wf1
        go_wp2_with (first | (go_at_call 31; refine hsw1.mono ?_; rintro e w1 ⟨p1, ow1, rv2, p2, p3, p4⟩; rw [p1]; clear p1) | (go_at_call 33; refine (hbk _ _ _ p2 p4 p3).mono ?_; rintro e w3 ⟨p1, k17, ow3, rv3, p5, p6, p7⟩; rw [p1]; clear p1))
        go_step3
        refine ⟨rfl, k', by omega, ow3, rv3, S4, conf, limit + limit / 4, limit + limit / 4, ⟨rfl, rfl, _, _, rfl⟩, p5, p6, hE.h.1, p7, hE.h.2⟩
      · obtain ⟨q, hq, hq1, hq2⟩ := hB2 hleft
        obtain ⟨wf2, hso, hq0, hqn⟩ := decide_wf wf1 hq
        have hdec : ∀ w1 ow1 rv2, Sol lo w1 ow1 rv2 r1.2 → rv2 .x = .pointer (some ⟨b, 0, none⟩) → Frm own ow1 w w1 → Calls Try.prog 35 #[.pointer (some ⟨b, 0, none⟩)] w1 fun e w' => e = .returned (.int .i64 q.1) ∧ ∃ rv3, Sol lo w' ow1 rv3 q.2 ∧ Frm own ow1 w w' ∧ rv3 .x = .pointer (some ⟨b, 0, none⟩) := by
          intro w1 ow1 rv2 q1 q2 q3
          have := decide_walk q1 wf1 hq
          rw [q2] at this
          refine this.mono ?_
          rintro e w' ⟨p1, ⟨v', p2⟩, p3⟩
          exact ⟨p1, _, p2, q3.trans p3, (upd_other _ _ (by intro e; cases e)).trans q2⟩
        clear hB1 hB2
        obtain ⟨v, hv⟩ : ∃ v : Int, q.1 = v := ⟨_, rfl⟩
        rw [hv] at hdec hq1 hq2 hq0 hqn
        by_cases hv0 : v = 0
        · have hE := Hid'.mk (hq1 hv0)
          subst hv0
          clear hq1 hq2 wf1 wf2 hso
          go_wp2_with (first | (go_at_call 31; refine hsw1.mono ?_; rintro e w1 ⟨p1, ow1, rv2, p2, p3, p4⟩; rw [p1]; clear p1) | (go_at_call 35; refine (hdec _ _ _ p2 p4 p3).mono ?_; rintro e w3 ⟨p1, rv3, p5, p6, p7⟩; rw [p1]; clear p1))
          simp only [Exit.jump]
          go_ret
          rw [hE.h]
          exact ⟨rfl, ow1, rv3, p5, p6, by first | exact p7 | exact p7.trans hb.symm⟩
        · obtain ⟨sv, t, hsv, ht, hk2⟩ := hq2 hv0
          clear hq1 hq2
          have hvb : (v == 0) = false := beq_false_of_ne hv0
          obtain ⟨v', rfl⟩ : ∃ v' : Nat, v = v' := ⟨v.toNat, by omega⟩
          rw [Int.toNat_natCast] at hsv
          have htl : q.2.tr.length < 100000000 := by
            have e : q.2 = { r1.2 with ov := q.2.ov, pl := q.2.pl } := hso
            rw [e]; exact htr
          have hstl : q.2.st.length < 100000000 := by
            have e : q.2 = { r1.2 with ov := q.2.ov, pl := q.2.pl } := hso
            rw [e]; exact hst
          have hE := Hid'.mk (And.intro wf2 (And.intro hsv (And.intro ht (And.intro hk2 (And.intro htl hstl)))))
          clear wf1 wf2 hso hsv ht hk2 hq htl hstl
          go_upto_region 32 with (first | (go_at_call 31; refine hsw1.mono ?_; rintro e w1 ⟨p1, ow1, rv2, p2, p3, p4⟩; rw [p1]; clear p1) | (go_at_call 35; refine (hdec _ _ _ p2 p4 p3).mono ?_; rintro e w3 ⟨p1, rv3, p5, p6, p7⟩; rw [p1]; clear p1))
          clear hsw1 hdec p2 p3 p4
          obtain ⟨wf2, hsv, ht, hk2, htl, hstl⟩ := hE.h
          obtain ⟨T, hT⟩ : ∃ T, q.2.tr.length = T := ⟨_, rfl⟩
          obtain ⟨D, hD⟩ : ∃ T, q.2.st.length = T := ⟨_, rfl⟩
          obtain ⟨a10, c10, H10⟩ := p5.headX (T := .tr) (m := 10) (k := T) p7 rfl rfl (by show (q.2.tr.map _).length = T; rw [List.length_map]; exact hT)
          obtain ⟨a11, c11, H11⟩ := p5.headX (T := .st) (m := 11) (k := D) p7 rfl rfl (by show (q.2.st.map _).length = D; rw [List.length_map]; exact hD)
          have P := p5.pushX p6 (T := .st) (m := 11) p7 rfl rfl rfl rfl H11 (by show (q.2.st.map _).length = D; rw [List.length_map]; exact hD) (vi (T : Int)) (by intro e; cases e) (S' := { q.2 with st := q.2.st ++ [(T : Int)] }) (by
            rw [mem_st_, List.map_append, List.map_singleton, ← row_snoc]
            rw [← hD]
            show upd _ _ (⟨(q.2.st.map vi).length + 1, _⟩ : Ob Tg) = _
            rw [List.length_map]
            rfl) (.cells #[.int .i64 (T : Int)] 3)
          obtain ⟨own2, hlo2, hend⟩ := P
          have f10 := H10.cell
          have f11 := H11.cell
          have k11 : (w3.alloc (.cells #[.int .i64 (T : Int)] 3)).cell? ⟨b, 11, none⟩ = some (.slice a11 D c11) := (World.cell?_of_block (w := w3) (a := ⟨b, 11, none⟩) (Below.heap_alloc w3 _ b (by have := p6.size; omega))).trans f11
          have k10 : (w3.alloc (.cells #[.int .i64 (T : Int)] 3)).cell? ⟨b, 10, none⟩ = some (.slice a10 T c10) := (World.cell?_of_block (w := w3) (a := ⟨b, 10, none⟩) (Below.heap_alloc w3 _ b (by have := p6.size; omega))).trans f10
          have hnews1 : ∀ (j0 : Nat) (u : Value), [Value.int .i64 (T : Int)][j0]? = some u → (w3.alloc (.cells #[.int .i64 (T : Int)] 3)).cell? ((⟨w3.heap.size, 0, none⟩ : Addr).add j0) = some u := by
            intro j0 u hj
            match j0, hj with
            | 0, hj =>
              simp at hj
              subst hj
              rw [add_plain]
              exact cell_new _ _ _ _ 0
          have hone1 : ∀ u ∈ [Value.int .i64 (T : Int)], u.oneCell' = true := by intro u hu; simp at hu; subst hu; rfl
          rw [hT] at htl ht
          rw [hD] at hstl
          have hm63 : D + 1 ≤ maxLen := by unfold maxLen; omega
          have hmb : (D + 1) * 8 ≤ 140737488355328 := by omega
          have hendH := Hid'.mk hend
          have hE := Hid'.mk (And.intro wf2 (And.intro hsv (And.intro ht hk2)))
          obtain ⟨i0, hi0, hz0, hz1, hz2⟩ := info_parts' info3
          clear hend H10 H11 p5 p6 wf2 hsv ht hk2 hT hD
          go_region_law (first | (refine step_append_lies _ (by rfl) _ _ _ (by rfl) lo 3 i0 (.int .i64 0) 1 8 Try.underlying40 hi0 hz0 hz1 hz2 rfl (by decide) (.slice a11 D c11) D _ (by rfl) own2 ⟨w3.heap.size, 0, none⟩ 1 1 [.int .i64 (T : Int)] (by rfl) (by rfl) hnews1 hone1 (by decide) hm63 hmb hlo2 _ rfl ?_; intro g7 cap7 w7 r1 r2 r3 r4; obtain ⟨⟨e1, e2⟩, hE7⟩ := hendH.h _ _ r1 ⟨r2.os, r2.tape, r2.output, r2.size, r2.block⟩ ⟨g7, rfl, r3.imp id (fun e => Nat.le_of_eq e.symm)⟩; clear r1 r2 r3 r4))
          all_goals
            obtain ⟨wf2, hsv, ht, hk2⟩ := hE.h
            obtain ⟨ow4, m1, m2⟩ := hE7
            generalize w7.setCell ⟨b, 11, none⟩ (.slice (some ⟨g7, 0, none⟩) (D + 1) cap7) = W8 at m1 m2 ⊢
            have hx4 : upd rv3 .st (.slice (some ⟨g7, 0, none⟩) (D + 1) cap7) .x = .pointer (some ⟨b, 0, none⟩) := (upd_other _ _ (by intro e; cases e)).trans p7
            have wf4 : WF n { q.2 with st := q.2.st ++ [(T : Int)] } := ⟨⟨wf2.ord.big, wf2.ord.sc, wf2.ord.pl, wf2.ord.ov, wf2.ord.ovl⟩, wf2.vals, wf2.lev, wf2.rea, wf2.sav, wf2.seen, wf2.watch, wf2.bump, wf2.scp⟩
            obtain ⟨gs, cs, H9, _⟩ := m1.headN (T := .sav) (m := 9) (n := n) hx4 rfl rfl (by show (q.2.sav.map _).length = n; rw [List.length_map]; exact wf2.sav) hn
            have c9 := (m1.hcell H9.val (u := vb sv) (map_get hsv)).1
            replace c9 : W8.cell? ⟨gs, v', none⟩ = some (.bool sv) := c9
            have f9 := H9.cell
            have hcs := H9.le
            have hvI : (v' : Int) < n := by have := len_of hsv; rw [wf2.sav] at this; omega
            have hlet := let_walk m1 wf4 (rn := none) (pa := none) rfl ht
            rw [hx4] at hlet
            have wf3 := (letO_facts wf4 ht).1
            have hbig := wf2.ord.big
            have hG := Hid'.mk (And.intro hk2 (And.intro wf3 (And.intro hx4 m2)))
            clear hk2 wf3 wf4 wf2 hx4 m1 m2 H9 hsv ht hE f10 f11 k10 k11 e1 e2 own2 hlo2 hnews1 hone1 hendH p7
            cases sv
            · rw [show (if false = true then ((v' : Nat) : Int) else -((v' : Nat) : Int)) = -((v' : Nat) : Int) from rfl] at hlet
              go_wp2_with (go_at_call 29; refine hlet.mono ?_; rintro e w9 ⟨p1, own9, v9, p2, p3⟩; rw [p1]; clear p1)
              go_step3
              obtain ⟨hk2, wf3, hx4, m2⟩ := hG.h
              exact ⟨rfl, k', by omega, own9, _, t.2, conf, limit, left, ⟨rfl, rfl, _, _, rfl⟩, p2, m2.trans p3, wf3, (upd_other _ _ (by intro e; cases e)).trans hx4, hk2⟩
            · rw [show (if true = true then ((v' : Nat) : Int) else -((v' : Nat) : Int)) = ((v' : Nat) : Int) from rfl] at hlet
              go_wp2_with (go_at_call 29; refine hlet.mono ?_; rintro e w9 ⟨p1, own9, v9, p2, p3⟩; rw [p1]; clear p1)
              go_step3
              obtain ⟨hk2, wf3, hx4, m2⟩ := hG.h
              exact ⟨rfl, k', by omega, own9, _, t.2, conf, limit, left, ⟨rfl, rfl, _, _, rfl⟩, p2, m2.trans p3, wf3, (upd_other _ _ (by intro e; cases e)).trans hx4, hk2⟩
    | some c =>
      obtain ⟨z, hz⟩ : ∃ z, S1.cls[c]? = some z := ⟨_, List.getElem?_eq_getElem (spread_id wf hsp hr1)⟩
      obtain ⟨cb, hcb, _⟩ := hs.clb hz
      obtain ⟨D, hD⟩ : ∃ D, r1.2.st.length = D := ⟨_, rfl⟩
      have hsw1 : Calls Try.prog 31 #[.pointer (some ⟨b, 0, none⟩)] w' fun e w1 => e = .returned (.pointer (some ⟨cb, 0, none⟩)) ∧ (∃ a11 c11, w1.cell? ⟨b, 11, none⟩ = some (.slice a11 D c11)) ∧ ∃ ow1 rv2, Sol lo w1 ow1 rv2 r1.2 ∧ Frm own ow1 w w1 ∧ rv2 .x = .pointer (some ⟨b, 0, none⟩) ∧ rv2 (.cl c) = .pointer (some ⟨cb, 0, none⟩) := by
        refine hsw.mono ?_
        rintro e w1 ⟨⟨pa, p1, hpa⟩, ow1, rv2, p2, p3, p4⟩
        rw [hr1] at hpa
        have hpa : rv1 (.cl c) = .pointer pa := hpa
        rw [hcb] at hpa
        cases hpa
        have hx2 := (p4 .x rfl).trans hx
        obtain ⟨a11, c11, H11⟩ := p2.headX (T := .st) (m := 11) (k := D) hx2 rfl rfl (by show (r1.2.st.map _).length = D; rw [List.length_map]; exact hD)
        exact ⟨p1, ⟨a11, c11, H11.cell⟩, ow1, rv2, p2, hF.trans p3, hx2, (p4 (.cl c) rfl).trans hcb⟩
      obtain ⟨hA1, hA2⟩ := hA c hr1
      rw [hD] at hA1 hA2 hst
      clear hA hB hsw hsp hk hs hF wf hz hcb
      by_cases hD0 : D = 0
      · have hE := Hid'.mk (hA1 hD0)
        subst hD0
        clear hA1 hA2 wf1
        go_wp2_with (go_at_call 31; refine hsw1.mono ?_; rintro e w1 ⟨p1, ⟨a11, c11, k11⟩, ow1, rv2, p2, p3, p4, p5⟩; rw [p1]; clear p1)
        simp only [Exit.jump]
        go_ret
        rw [hE.h]
        exact ⟨rfl, ow1, rv2, p2, p3, by first | exact p4 | exact p4.trans hb.symm⟩
      · obtain ⟨hA3, hA4⟩ := hA2 hD0
        have hD0' : ((D : Int) == 0) = false := beq_false_of_ne (by omega)
        clear hA1 hA2
        by_cases hbg : budget < conf + 1
        · have hE := Hid'.mk (hA3 hbg)
          clear hA3 hA4 wf1
          go_wp2_with (go_at_call 31; refine hsw1.mono ?_; rintro e w1 ⟨p1, ⟨a11, c11, k11⟩, ow1, rv2, p2, p3, p4, p5⟩; rw [p1]; clear p1)
          simp only [Exit.jump]
          go_ret
          rw [hE.h]
          exact ⟨rfl, ow1, rv2, p2, p3, by first | exact p4 | exact p4.trans hb.symm⟩
        · obtain ⟨htl0, q, p, hlq, hlp, hp1, hp2⟩ := hA4 hbg
          obtain ⟨hqn, hql⟩ := learn_len hlq
          obtain ⟨L, hL⟩ : ∃ L, q.2.1.length = L := ⟨_, rfl⟩
          obtain ⟨wfq, hclq⟩ := learn_wf wf1 hlq
          obtain ⟨wfp, hclp, _, _⟩ := log_wf wfq hlp
          have hlearn : ∀ w1 ow1 rv2, Sol lo w1 ow1 rv2 r1.2 → Frm own ow1 w w1 → rv2 .x = .pointer (some ⟨b, 0, none⟩) → rv2 (.cl c) = .pointer (some ⟨cb, 0, none⟩) → Calls Try.prog 32 #[.pointer (some ⟨b, 0, none⟩), .pointer (some ⟨cb, 0, none⟩)] w1 fun e w2 => ∃ go co, e = .returned (.tuple #[.slice (some ⟨go, 0, none⟩) L co, .int .i64 q.2.2]) ∧ L ≤ co ∧ Sol lo w2 ow1 rv2 q.1 ∧ Frm own ow1 w w2 ∧ Out lo w1.heap.size w2 ow1 (.slice (some ⟨go, 0, none⟩) L co) q.2.1 ∧ CloneOK w2 b (.slice (some ⟨go, 0, none⟩) L co) q.2.1 := by
            intro w1 ow1 rv2 q1 q2 q3 q4
            have := learn_walk q1 wf1 hlq htr htl0 hn
            rw [q3, q4] at this
            refine this.mono ?_
            rintro e w2 ⟨ov, p1, p2, p3, p4⟩
            obtain ⟨go, co, e9, h9, hgs, hgn, hgB, hcc⟩ := p4.form (by intro e; rw [e] at hqn; simp at hqn)
            subst e9
            obtain ⟨b', eb, hbx, _⟩ := p2.xb
            rw [q3] at eb
            cases eb
            have hcl := cloneOK_row (w := w2) (bx := b) (g := go) (c := co) (l := q.2.1) (by rintro rfl; rw [hgn] at hbx; cases hbx) hgs hql (fun j x hx => (hcc j x hx).1)
            rw [hL] at p1 p4 h9 hcl
            exact ⟨go, co, p1, h9, p2, q2.trans p3, p4, hcl⟩
          have hlog : ∀ w2 ow1 rv2 ov, Sol lo w2 ow1 rv2 q.1 → Frm own ow1 w w2 → rv2 .x = .pointer (some ⟨b, 0, none⟩) → CloneOK w2 b ov q.2.1 → Calls Try.prog 18 #[.pointer (some ⟨b, 0, none⟩), ov, .bool false] w2 fun e w3 => e = .returned (.bool p.1) ∧ ∃ ow3 rv3, Sol lo w3 ow3 rv3 p.2 ∧ Frm own ow3 w w3 ∧ Frm ow1 ow3 w2 w3 ∧ rv3 .x = .pointer (some ⟨b, 0, none⟩) := by
            intro w2 ow1 rv2 ov q1 q2 q3 q4
            have := log_walk q1 q3 q4 hlp
            rw [q3] at this
            refine this.mono ?_
            rintro e w3 ⟨p1, ow3, rv3, p2, p3, p4⟩
            exact ⟨p1, ow3, rv3, p2, q2.trans p3, p3, (p4 .x (by intro e; cases e) (by intro k e; cases e)).trans q3⟩
          clear hA3 hA4 hlq hlp wf1 wfq hclp hclq
          cases hp9 : p.1
          · have hE := Hid'.mk (hp1 hp9)
            rw [hp9] at hlog
            clear hp1 hp2 wfp
            go_wp2_with (first | (go_at_call 31; refine hsw1.mono ?_; rintro e w1 ⟨p1, ⟨a11, c11, k11⟩, ow1, rv2, p2, p3, p4, p5⟩; rw [p1]; clear p1) | (go_at_call 32; refine (hlearn _ _ _ p2 p3 p4 p5).mono ?_; rintro e w2 ⟨go, co, p1, hco, m1, m2, m3, m4⟩; rw [p1]; clear p1) | (go_at_call 18; refine (hlog _ _ _ _ m1 m2 p4 m4).mono ?_; rintro e w3 ⟨p1, ow3, rv3, m5, m6, _, m7⟩; rw [p1]; clear p1))
            simp only [Exit.jump]
            go_ret
            rw [hE.h]
            exact ⟨rfl, ow3, rv3, m5, m6, by first | exact m7 | exact m7.trans hb.symm⟩
          · obtain ⟨h9, ⟨hst9, htr9⟩, S4, a, hbk, ha, hl1, hl2⟩ := hp2 hp9
            obtain ⟨wf4, hcl4⟩ := back_wf wfp hbk
            rw [hp9] at hlog
            have hback : ∀ w3 ow3 rv3, Sol lo w3 ow3 rv3 p.2 → Frm own ow3 w w3 → rv3 .x = .pointer (some ⟨b, 0, none⟩) → Calls Try.prog 33 #[.pointer (some ⟨b, 0, none⟩), .int .i64 q.2.2] w3 fun e w4 => e = .returned (.tuple #[]) ∧ ∃ ow4 rv4, Sol lo w4 ow4 rv4 S4 ∧ Frm own ow4 w w4 ∧ Frm ow3 ow4 w3 w4 ∧ rv4 .x = .pointer (some ⟨b, 0, none⟩) := by
              intro w3 ow3 rv3 q1 q2 q3
              have := back_walk q1 wfp hbk ⟨hst9, htr9⟩
              rw [q3, Int.toNat_of_nonneg h9] at this
              refine this.mono ?_
              rintro e w4 ⟨p1, ow4, rv4, p2, p3, p4⟩
              exact ⟨p1, ow4, rv4, p2, q2.trans p3, p3, (p4 .x rfl).trans q3⟩
            have hc0 : ∀ w4 ow4 B go co, Out lo B w4 ow4 (.slice (some ⟨go, 0, none⟩) L co) q.2.1 → w4.cell? ⟨go, 0, none⟩ = some (.int .i64 a) := by
              intro w4 ow4 B go co ho
              obtain ⟨g9, c9, e9, _, _, _, _, hcc⟩ := ho.form (by intro e; rw [e] at hqn; simp at hqn)
              have eg : g9 = go := by injection e9 with e9 _; cases e9; rfl
              rw [← eg]
              exact (hcc 0 a ha).1
            have hLpos : (0 : Int) < L := by omega
            clear hp1 hp2 hbk wfp
            by_cases hL1 : L = 1
            · obtain ⟨t, ht, hk2⟩ := hl1 (by rw [hL]; exact hL1)
              subst hL1
              have hlet : ∀ w4 ow4 rv4, Sol lo w4 ow4 rv4 S4 → Frm own ow4 w w4 → rv4 .x = .pointer (some ⟨b, 0, none⟩) → Calls Try.prog 29 #[.pointer (some ⟨b, 0, none⟩), .int .i64 a, .pointer none] w4 fun e w5 => e = .returned (.bool t.1) ∧ ∃ ow5 rv5, Sol lo w5 ow5 rv5 t.2 ∧ Frm own ow5 w w5 ∧ rv5 .x = .pointer (some ⟨b, 0, none⟩) := by
                intro w4 ow4 rv4 q1 q2 q3
                have := let_walk q1 wf4 (rn := none) (pa := none) rfl ht
                rw [q3] at this
                refine this.mono ?_
                rintro e w5 ⟨p1, ow5, v5, p2, p3⟩
                exact ⟨p1, ow5, _, p2, q2.trans p3, (upd_other _ _ (by intro e; cases e)).trans q3⟩
              have hG := Hid'.mk (And.intro hk2 (letO_facts wf4 ht).1)
              clear hl1 hl2 hk2 ht wf4 hcl4 ha
              go_wp2_with (first | (go_at_call 31; refine hsw1.mono ?_; rintro e w1 ⟨p1, ⟨a11, c11, k11⟩, ow1, rv2, p2, p3, p4, p5⟩; rw [p1]; clear p1) | (go_at_call 32; refine (hlearn _ _ _ p2 p3 p4 p5).mono ?_; rintro e w2 ⟨go, co, p1, hco, m1, m2, m3, m4⟩; rw [p1]; clear p1) | (go_at_call 18; refine (hlog _ _ _ _ m1 m2 p4 m4).mono ?_; rintro e w3 ⟨p1, ow3, rv3, m5, m6, m8, m7⟩; rw [p1]; clear p1) | (go_at_call 33; refine (hback _ _ _ m5 m6 m7).mono ?_; rintro e w4 ⟨p1, ow4, rv4, n1, n2, n3, n4⟩; rw [p1]; clear p1; have n5 := hc0 _ _ _ _ _ ((m3.frm3 m8).frm3 n3)) | (go_at_call 29; refine (hlet _ _ _ n1 n2 n4).mono ?_; rintro e w5 ⟨p1, ow5, rv5, n6, n7, n8⟩; rw [p1]; clear p1))
              go_step3
              exact ⟨rfl, k', by omega, ow5, rv5, t.2, conf + 1, limit, left - 1, ⟨rfl, rfl, _, _, rfl⟩, n6, n7, hG.h.2, n8, hG.h.1⟩
            · obtain ⟨hfr, S6, t, hput, hlr1, hlr2, ht, hk2⟩ := hl2 (by rw [hL]; exact hL1)
              have hL1' : ((L : Int) == 1) = false := beq_false_of_ne (by omega)
              clear hl1 hl2
              go_upto_region 18 with (first | (go_at_call 31; refine hsw1.mono ?_; rintro e w1 ⟨p1, ⟨a11, c11, k11⟩, ow1, rv2, p2, p3, p4, p5⟩; rw [p1]; clear p1) | (go_at_call 32; refine (hlearn _ _ _ p2 p3 p4 p5).mono ?_; rintro e w2 ⟨go, co, p1, hco, m1, m2, m3, m4⟩; rw [p1]; clear p1) | (go_at_call 18; refine (hlog _ _ _ _ m1 m2 p4 m4).mono ?_; rintro e w3 ⟨p1, ow3, rv3, m5, m6, m8, m7⟩; rw [p1]; clear p1) | (go_at_call 33; refine (hback _ _ _ m5 m6 m7).mono ?_; rintro e w4 ⟨p1, ow4, rv4, n1, n2, n3, n4⟩; rw [p1]; clear p1; have n5 := ((m3.frm3 m8).frm3 n3)))
              have hnc := n1.newClause hfr n2 n5 p3.size (by have := n2.size; omega)
              have hi4 : (S4.cls ++ [(⟨q.2.1, true, false, 1⟩ : Cz)])[S4.cls.length]? = some ⟨q.2.1, true, false, 1⟩ := by rw [List.getElem?_append_right (Nat.le_refl _), Nat.sub_self]; rfl
              have wf4' : WF n { S4 with cls := S4.cls ++ [⟨q.2.1, true, false, 1⟩] } := ⟨⟨wf4.ord.big, wf4.ord.sc, wf4.ord.pl, wf4.ord.ov, wf4.ord.ovl⟩, wf4.vals, wf4.lev, wf4.rea, wf4.sav, wf4.seen, wf4.watch, wf4.bump, wf4.scp⟩
              obtain ⟨wf6, hcl6⟩ := put_wf wf4' hput
              obtain ⟨N, hN⟩ : ∃ N, w4.heap.size = N := ⟨_, rfl⟩
              rw [hN] at hnc
              obtain ⟨own5, rv5, r5, r6, r7, r8, r9⟩ := hnc
              have hput5 := put_walk r5 wf4' hput
              have hx5 : rv5 .x = .pointer (some ⟨b, 0, none⟩) := r7.trans n4
              rw [hx5, r8] at hput5
              -- the slice's block is not the solver's own, so its first number stands
              obtain ⟨g9, c9, e9, _, hgs9, hgn9, _, hcc9⟩ := n5.form (by intro e; rw [e] at hqn; simp at hqn)
              have eg : g9 = go := by injection e9 with e9 _; cases e9; rfl
              subst eg
              clear e9
              have hlast : ∀ w6 own6 rv6, Sol lo w6 own6 rv6 S6 → Frm own own6 w w6 → (∀ t, isW t = false → rv6 t = rv5 t) → (w6.cell? ⟨b, 17, none⟩ = some (.int .i64 S6.learned) ∧ w6.frozen? ⟨b, 17, none⟩ = false) ∧ (w6.setCell ⟨b, 17, none⟩ (.int .i64 (S6.learned + 1))).cell? ⟨g9, 0, none⟩ = some (.int .i64 a) ∧ Calls Try.prog 29 #[.pointer (some ⟨b, 0, none⟩), .int .i64 a, .pointer (some ⟨N, 0, none⟩)] (w6.setCell ⟨b, 17, none⟩ (.int .i64 (S6.learned + 1))) fun e w8 => e = .returned (.bool t.1) ∧ ∃ ow8 rv8, Sol lo w8 ow8 rv8 t.2 ∧ Frm own ow8 w w8 ∧ rv8 .x = .pointer (some ⟨b, 0, none⟩) := by
                intro w6 own6 rv6 q1 q2 q3
                have hx6 : rv6 .x = .pointer (some ⟨b, 0, none⟩) := (q3 .x rfl).trans hx5
                have c17 := q1.fld hx6 (m := 17) rfl
                have hp := q1.putX q2 (m := 17) hx6 (by decide) (vi (S6.learned + 1)) (S' := { S6 with learned := S6.learned + 1 }) (by rw [mem_learned_])
                have hz6 : S6.cls[S4.cls.length]? = some ⟨q.2.1, true, false, 1⟩ := by rw [hcl6]; exact hi4
                have hz6' : ({ S6 with learned := S6.learned + 1 } : Sz).cls[S4.cls.length]? = some ⟨q.2.1, true, false, 1⟩ := hz6
                have hvl : rv6 (.lits S4.cls.length) = .slice (some ⟨g9, 0, none⟩) L co := (q3 (.lits _) rfl).trans r9
                have wf7 : WF n { S6 with learned := S6.learned + 1 } := ⟨⟨wf6.ord.big, wf6.ord.sc, wf6.ord.pl, wf6.ord.ov, wf6.ord.ovl⟩, wf6.vals, wf6.lev, wf6.rea, wf6.sav, wf6.seen, wf6.watch, wf6.bump, wf6.scp⟩
                refine ⟨⟨c17.1, c17.2⟩, (hp.1.hcell hvl (u := vi a) (by rw [mem_lits hz6']; exact map_get ha)).1, ?_⟩
                have hlet := let_walk hp.1 wf7 (rn := some S4.cls.length) (pa := some ⟨N, 0, none⟩) (by show rv6 (.cl _) = _; rw [q3 (.cl _) rfl]; exact r8) ht
                rw [hx6] at hlet
                refine hlet.mono ?_
                rintro e w8 ⟨p1, ow8, v8, p2, p3⟩
                exact ⟨p1, ow8, _, p2, hp.2.trans p3, (upd_other _ _ (by intro e; cases e)).trans hx6⟩
              have wf7' : WF n { S6 with learned := S6.learned + 1 } := ⟨⟨wf6.ord.big, wf6.ord.sc, wf6.ord.pl, wf6.ord.ov, wf6.ord.ovl⟩, wf6.vals, wf6.lev, wf6.rea, wf6.sav, wf6.seen, wf6.watch, wf6.bump, wf6.scp⟩
              have hG := Hid'.mk (And.intro (letO_facts wf7' ht).1 hk2)
              have hLH := Hid'.mk hlast
              have hcoI : (L : Int) ≤ co := by omega
              have hR6 := Hid'.mk r6
              clear hlast hsw1 hlearn hlog hback hc0 ht hk2 hput hfr ha n1 n2 n3 n5 m1 m2 m3 m4 m5 m6 m8 p2 p3 wf4 wf4' wf6 wf7' r5 r6 r9 hcc9 hgn9 hgs9 hi4
              go_upto_region 19 with (go_at_call 30; refine hput5.mono ?_; rintro e w6 ⟨p1, own6, rv6, s1, s2, s3⟩; rw [p1]; clear p1)
              obtain ⟨⟨z1, z2⟩, z3, z4⟩ := hLH.h w6 own6 rv6 s1 (hR6.h.trans s2) s3
              clear s1 s2 s3 hLH hput5
              go_wp2_with (go_at_call 29; refine z4.mono ?_; rintro e w8 ⟨p1, ow8, rv8, y1, y2, y3⟩; rw [p1]; clear p1)
              go_step3
              exact ⟨rfl, k', by omega, ow8, rv8, t.2, conf + 1, limit, left - 1, ⟨rfl, rfl, _, _, rfl⟩, y1, y2, hG.h.1, y3, hG.h.2⟩
end Go.Proofs.Ytkpppmldbhgcgaa

/- Sat: what is kept as long as it must be (WF) by spreading, learning, going back, deciding, putting. -/
import Derived.Test.YtkpppmldbhgcgaaSbMtoSbI
import Derived.Test.YtkpppmldbhgcgaaSbStoSbN
import Derived.Test.YtkpppmldbhgcgaaSbPtoSbJ
set_option linter.unusedVariables false
set_option linter.unusedSimpArgs false
set_option autoImplicit false
set_option linter.unusedVariables false
set_option linter.unusedSimpArgs false
namespace Go.Proofs.Ytkpppmldbhgcgaa
open Go Go.RowKit
variable {n : Nat} {S : Sz}
theorem rowF_wf : ∀ (f : Nat) {S : Sz} {l : Int} {k j : Nat} {r : Option Nat × Sz}, WF n S → rowF f S l k j = some r → WF n r.2 ∧ r.2.cls.length = S.cls.length
  | 0, _, _, _, _, _, _, h => by cases h
  | f + 1, S, l, k, j, r, wf, h => by
    unfold rowF at h
    split at h
    · obtain ⟨c, hc, h⟩ := Option.bind_eq_some_iff.1 h
      obtain ⟨q, hq, h⟩ := Option.bind_eq_some_iff.1 h
      obtain ⟨v1, v2, _⟩ := visit_facts wf hq
      cases hq1 : q.1 with
      | none =>
        rw [hq1] at h
        have := rowF_wf f v1 h
        exact ⟨this.1, this.2.trans v2⟩
      | some a =>
        rw [hq1] at h
        obtain ⟨t, ht, h⟩ := Option.bind_eq_some_iff.1 h
        obtain ⟨l1, l2, _⟩ := letO_facts (setW_wf v1 (codeZ l) j c) ht
        have l2' : t.2.cls.length = S.cls.length := by rw [l2]; exact v2
        split at h
        · have := rowF_wf f l1 h
          exact ⟨this.1, this.2.trans l2'⟩
        · split at h
          · cases h
            exact ⟨watch_wf l1 _ _, l2'⟩
          · cases h
    · cases h
      exact ⟨watch_wf wf _ _, rfl⟩
theorem atWF (wf : WF n S) (x : Int) : WF n { S with at' := x } :=
  ⟨⟨wf.ord.big, wf.ord.sc, wf.ord.pl, wf.ord.ov, wf.ord.ovl⟩, wf.vals, wf.lev, wf.rea, wf.sav, wf.seen, wf.watch, wf.bump, wf.scp⟩
theorem spreadF_wf : ∀ (f : Nat) {S : Sz} {r : Option Nat × Sz}, WF n S → spreadF f S = some r → WF n r.2 ∧ r.2.cls.length = S.cls.length
  | 0, _, _, _, h => by cases h
  | f + 1, S, r, wf, h => by
    unfold spreadF at h
    split at h
    · split at h
      · cases h
      · obtain ⟨x, hx, h⟩ := Option.bind_eq_some_iff.1 h
        obtain ⟨ws, hws, h⟩ := Option.bind_eq_some_iff.1 h
        split at h
        · obtain ⟨q, hq, h⟩ := Option.bind_eq_some_iff.1 h
          obtain ⟨w1, w2⟩ := rowF_wf _ (atWF wf (S.at' + 1)) hq
          cases hq1 : q.1 with
          | some c => rw [hq1] at h; cases h; exact ⟨w1, w2⟩
          | none =>
            rw [hq1] at h
            have := spreadF_wf f w1 h
            exact ⟨this.1, this.2.trans w2⟩
        · cases h
    · cases h; exact ⟨wf, rfl⟩
theorem spread_wf (wf : WF n S) {r : Option Nat × Sz} (h : spreadO S = some r) : WF n r.2 ∧ r.2.cls.length = S.cls.length := spreadF_wf _ wf h
theorem learnF_wf : ∀ (f : Nat) {S : Sz} {c e : Nat} {first op : Int} {out : List Int} {res : Sz × List Int × Int}, WF n S → learnF f S c first out op e = some res → WF n res.1 ∧ res.1.cls.length = S.cls.length
  | 0, _, _, _, _, _, _, _, _, h => by cases h
  | f + 1, S, c, e, first, op, out, res, wf, h => by
    obtain ⟨f', z, r, q, ef, hz, _, _, _, hr, _, hq, h1, h2⟩ := learnF_eq h
    cases ef
    obtain ⟨sl, wf1⟩ := learnL_same _ (use_wf wf c { z with use := z.use + 1 }) hr
    have hl : r.1.cls.length = S.cls.length := by rw [sl.cls]; show (S.cls.set _ _).length = _; rw [List.length_set]
    have wf2 := seen_wf wf1 q.2.natAbs false
    by_cases h0 : r.2.2 = 1
    · rw [h1 h0]; exact ⟨wf2, hl⟩
    · obtain ⟨c1, _, h3⟩ := h2 h0
      have := learnF_wf f wf2 h3
      exact ⟨this.1, this.2.trans hl⟩
theorem levL_wf : ∀ (ls : List Int) {S : Sz} {i sec : Nat} {lv : Int} {q : Sz × Int × Nat}, WF n S → levL ls S i lv sec = some q → WF n q.1 ∧ q.1.cls.length = S.cls.length
  | [], S, i, sec, lv, q, wf, h => by cases h; exact ⟨wf, rfl⟩
  | l :: ls, S, i, sec, lv, q, wf, h => by
    obtain ⟨s, d, _, _, h1, h2⟩ := lev_eq h
    have wf1 := seen_wf wf l.natAbs false
    by_cases h0 : lv < d
    · have := levL_wf ls wf1 (h1 h0)
      exact this
    · have := levL_wf ls wf1 (h2 h0)
      exact this
theorem learn_wf (wf : WF n S) {c : Nat} {r : Sz × List Int × Int} (h : learnO S c = some r) : WF n r.1 ∧ r.1.cls.length = S.cls.length := by
  unfold learnO at h
  obtain ⟨res, hr, h⟩ := Option.bind_eq_some_iff.1 h
  split at h
  · obtain ⟨q, hq, h⟩ := Option.bind_eq_some_iff.1 h
    obtain ⟨w1, e1⟩ := learnF_wf _ wf hr
    obtain ⟨w2, e2⟩ := levL_wf _ w1 hq
    cases h
    exact ⟨⟨⟨w2.ord.big, w2.ord.sc, w2.ord.pl, w2.ord.ov, w2.ord.ovl⟩, w2.vals, w2.lev, w2.rea, w2.sav, w2.seen, w2.watch, (fDiv_95 w2.bump).2, w2.scp⟩, e2.trans e1⟩
  · cases h
theorem log_wf (wf : WF n S) {l : List Int} {g : Bool} {r : Bool × Sz} (h : logO S l g = some r) : WF n r.2 ∧ r.2.cls = S.cls ∧ r.2.st = S.st ∧ r.2.tr = S.tr := by
  unfold logO at h
  split at h
  · split at h
    · cases h; exact ⟨⟨⟨wf.ord.big, wf.ord.sc, wf.ord.pl, wf.ord.ov, wf.ord.ovl⟩, wf.vals, wf.lev, wf.rea, wf.sav, wf.seen, wf.watch, wf.bump, wf.scp⟩, rfl, rfl, rfl⟩
    · cases h; exact ⟨⟨⟨wf.ord.big, wf.ord.sc, wf.ord.pl, wf.ord.ov, wf.ord.ovl⟩, wf.vals, wf.lev, wf.rea, wf.sav, wf.seen, wf.watch, wf.bump, wf.scp⟩, rfl, rfl, rfl⟩
  · cases h
theorem back_wf (wf : WF n S) {level : Nat} {S' : Sz} (h : backO S level = some S') : WF n S' ∧ S'.cls = S.cls := by
  unfold backO at h
  split at h
  · cases h; exact ⟨wf, rfl⟩
  · obtain ⟨fr, hfr, h⟩ := Option.bind_eq_some_iff.1 h
    split at h
    · obtain ⟨S1, h1, h⟩ := Option.bind_eq_some_iff.1 h
      obtain ⟨_, _, e3, w⟩ := backL_tr _ wf h1
      cases h
      exact ⟨⟨⟨w.ord.big, w.ord.sc, w.ord.pl, w.ord.ov, w.ord.ovl⟩, w.vals, w.lev, w.rea, w.sav, w.seen, w.watch, w.bump, w.scp⟩, e3⟩
    · cases h
theorem put_wf (wf : WF n S) {c : Nat} {S' : Sz} (h : putO S c = some S') : WF n S' ∧ S'.cls = S.cls := by
  unfold putO at h
  obtain ⟨z, hz, h⟩ := Option.bind_eq_some_iff.1 h
  obtain ⟨a, ha, h⟩ := Option.bind_eq_some_iff.1 h
  obtain ⟨b, hb, h⟩ := Option.bind_eq_some_iff.1 h
  split at h
  · obtain ⟨S1, h1, h2⟩ := Option.bind_eq_some_iff.1 h
    have wf0 : WF n { S with all := S.all ++ [c] } := ⟨⟨wf.ord.big, wf.ord.sc, wf.ord.pl, wf.ord.ov, wf.ord.ovl⟩, wf.vals, wf.lev, wf.rea, wf.sav, wf.seen, wf.watch, wf.bump, wf.scp⟩
    have wf1 := addO_wf wf0 h1
    exact ⟨addO_wf wf1 h2, (addO_len h2).1.trans (addO_len h1).1⟩
  · cases h
theorem decideF_wf : ∀ (f : Nat) {S : Sz} {r : Int × Sz}, WF n S → decideF f S = some r → WF n r.2 ∧ SameO S r.2 ∧ 0 ≤ r.1 ∧ r.1 ≤ n
  | 0, _, _, _, h => by cases h
  | f + 1, S, r, wf, h => by
    unfold decideF at h
    split at h
    · cases h; exact ⟨wf, SameO.refl _, Int.le_refl _, by omega⟩
    · obtain ⟨q, hq, h⟩ := Option.bind_eq_some_iff.1 h
      obtain ⟨v, hv, h⟩ := Option.bind_eq_some_iff.1 h
      obtain ⟨w1, s1, _, p1, p2⟩ := hpopO_wf wf hq
      split at h
      · cases h; exact ⟨w1, s1, p1, by show q.1 ≤ n; omega⟩
      · obtain ⟨w2, s2, p3⟩ := decideF_wf f w1 h
        exact ⟨w2, s1.trans s2, p3⟩
theorem decide_wf (wf : WF n S) {r : Int × Sz} (h : decideO S = some r) : WF n r.2 ∧ SameO S r.2 ∧ 0 ≤ r.1 ∧ r.1 ≤ n := decideF_wf _ wf h
/-- no clause is named that there is not -/
def fresh (S : Sz) : Bool := S.all.all (fun i => decide (i < S.cls.length)) && S.watch.all (fun ws => ws.all fun i => decide (i < S.cls.length)) && S.rea.all (fun o => match o with | none => true | some i => decide (i < S.cls.length))
theorem ref_cl (S : Sz) (hf : fresh S = true) {q : Tg} {k i : Nat} (h : (mem S q).cs[k]? = some (AC.ref (.cl i))) : i < S.cls.length := by
  unfold fresh at hf
  simp only [Bool.and_eq_true, List.all_eq_true] at hf
  obtain ⟨⟨f1, f2⟩, f3⟩ := hf
  cases q with
  | x =>
    have h : (xcs S)[k]? = some (AC.ref (.cl i)) := h
    unfold xcs at h
    match k, h with
    | 0, h => cases h
    | 1, h => cases h
    | 2, h => cases h
    | 3, h => cases h
    | 4, h => cases h
    | 5, h => cases h
    | 6, h => cases h
    | 7, h => cases h
    | 8, h => cases h
    | 9, h => cases h
    | 10, h => cases h
    | 11, h => cases h
    | 12, h => cases h
    | 13, h => cases h
    | 14, h => cases h
    | 15, h => cases h
    | 16, h => cases h
    | 17, h => cases h
    | k + 18, h => simp at h
  | cl j =>
    have h : (match S.cls[j]? with | some c => ccs j c | none => [])[k]? = some (AC.ref (.cl i)) := h
    cases e : S.cls[j]? with
    | none => rw [e] at h; simp at h
    | some c =>
      rw [e] at h
      have h : (ccs j c)[k]? = some (AC.ref (.cl i)) := h
      unfold ccs at h
      match k, h with
      | 0, h => cases h
      | 1, h => cases h
      | 2, h => cases h
      | 3, h => cases h
      | k + 4, h => simp at h
  | lits j =>
    have h : (match S.cls[j]? with | some c => c.lits.map vi | none => [])[k]? = some (AC.ref (.cl i)) := h
    cases e : S.cls[j]? with
    | none => rw [e] at h; simp at h
    | some c => rw [e] at h; exact (map_val h).elim
  | pc j =>
    have h : (match S.prf[j]? with | some p => p.2.map vi | none => [])[k]? = some (AC.ref (.cl i)) := h
    cases e : S.prf[j]? with
    | none => rw [e] at h; simp at h
    | some c => rw [e] at h; exact (map_val h).elim
  | ov => exact (map_val h).elim
  | pl => exact (map_val h).elim
  | sc => exact (map_val h).elim
  | vals => exact (map_val h).elim
  | lev => exact (map_val h).elim
  | sav => exact (map_val h).elim
  | tr => exact (map_val h).elim
  | st => exact (map_val h).elim
  | seen => exact (map_val h).elim
  | all =>
    have h : (S.all.map pr)[k]? = some (AC.ref (.cl i)) := h
    rw [List.getElem?_map] at h
    cases e : S.all[k]? with
    | none => rw [e] at h; cases h
    | some a => rw [e] at h; cases h; exact of_decide_eq_true (f1 _ (List.mem_of_getElem? e))
  | wr c =>
    have h : ((S.watch.getD c []).map pr)[k]? = some (AC.ref (.cl i)) := h
    rw [List.getElem?_map] at h
    cases e2 : S.watch[c]? with
    | none => rw [List.getD_eq_getElem?_getD, e2] at h; simp at h
    | some ws =>
      rw [List.getD_eq_getElem?_getD, e2] at h
      have h : (ws[k]?.map pr) = some (AC.ref (.cl i)) := h
      cases e : ws[k]? with
      | none => rw [e] at h; cases h
      | some a => rw [e] at h; cases h; exact of_decide_eq_true (f2 _ (List.mem_of_getElem? e2) _ (List.mem_of_getElem? e))
  | rea =>
    have h : (S.rea.map pro)[k]? = some (AC.ref (.cl i)) := h
    rw [List.getElem?_map] at h
    cases e : S.rea[k]? with
    | none => rw [e] at h; cases h
    | some a =>
      rw [e] at h
      cases a with
      | none => cases h
      | some a => cases h; exact of_decide_eq_true (f3 _ (List.mem_of_getElem? e))
  | wt =>
    have h : ((List.range S.watch.length).map fun c => (AC.ref (Tg.wr c) : AC Tg))[k]? = some (AC.ref (.cl i)) := h
    rw [List.getElem?_map] at h
    by_cases hk : k < S.watch.length
    · rw [List.getElem?_range hk] at h
      cases h
    · rw [List.getElem?_eq_none (by rw [List.length_range]; omega)] at h
      cases h
  | prf =>
    obtain ⟨q, e1, e2⟩ := pcs_ref S.prf 0 k _ h
    cases e1
/-- the search: 1 found, 2 none, 3 given up; none: a bound of mine is passed, or clauses would be cleaned away -/
def seekF : Nat → Sz → Int → Int → Int → Int → Option (Int × Sz)
  | 0, _, _, _, _, _ => none
  | f + 1, S, budget, conf, limit, left =>
    if 0 ≤ conf ∧ conf ≤ 1000000000 ∧ -1000000000 ≤ left ∧ left ≤ 1000000000 ∧ 0 ≤ limit ∧ limit ≤ 1000000000 then
    (spreadO S).bind fun r =>
      if roomy r.2.tr.length ∧ roomy r.2.st.length then
      match r.1 with
      | some c =>
        if r.2.st.length = 0 then some (2, r.2) else
        if budget < conf + 1 then some (3, r.2) else
        if r.2.tr.length = 0 then none else
        (learnO r.2 c).bind fun q => (logO q.1 q.2.1 false).bind fun p =>
          if p.1 then
            if q.2.2 < 0 then none else
            if roomy p.2.tr.length ∧ roomy p.2.st.length then
            (backO p.2 q.2.2.toNat).bind fun S4 => (q.2.1[0]?).bind fun a =>
              if q.2.1.length = 1 then (letO S4 a none).bind fun t => seekF f t.2 budget (conf + 1) limit (left - 1)
              else if fresh S4 then (putO { S4 with cls := S4.cls ++ [⟨q.2.1, true, false, 1⟩] } S4.cls.length).bind fun S6 =>
                if -1000000000 ≤ S6.learned ∧ S6.learned ≤ 1000000000 then
                (letO { S6 with learned := S6.learned + 1 } a (some S4.cls.length)).bind fun t => seekF f t.2 budget (conf + 1) limit (left - 1)
                else none
              else none
            else none
          else some (3, p.2)
      | none =>
        if left ≤ 0 then
          (backO r.2 0).bind fun S4 => if S4.learned ≤ 2000 then seekF f S4 budget conf (limit + limit / 4) (limit + limit / 4) else none
        else
          (decideO r.2).bind fun q =>
            if q.1 = 0 then some (1, q.2) else
            (q.2.sav[q.1.toNat]?).bind fun sv =>
              (letO { q.2 with st := q.2.st ++ [(q.2.tr.length : Int)] } (if sv then q.1 else -q.1) none).bind fun t => seekF f t.2 budget conf limit left
      else none
    else none
/-- what a round of the search is -/
theorem seek_eq {k : Nat} {budget conf limit left : Int} {r : Int × Sz} (h : seekF k S budget conf limit left = some r) : ∃ k' r1, k = k' + 1 ∧ (0 ≤ conf ∧ conf ≤ 1000000000 ∧ -1000000000 ≤ left ∧ left ≤ 1000000000 ∧ 0 ≤ limit ∧ limit ≤ 1000000000) ∧ spreadO S = some r1 ∧ r1.2.tr.length < 100000000 ∧ r1.2.st.length < 100000000 ∧
    (∀ c, r1.1 = some c → (r1.2.st.length = 0 → r = (2, r1.2)) ∧ (r1.2.st.length ≠ 0 → (budget < conf + 1 → r = (3, r1.2)) ∧ (¬ budget < conf + 1 → 0 < r1.2.tr.length ∧ ∃ q p, learnO r1.2 c = some q ∧ logO q.1 q.2.1 false = some p ∧ (p.1 = false → r = (3, p.2)) ∧ (p.1 = true → 0 ≤ q.2.2 ∧ (p.2.st.length < 100000000 ∧ p.2.tr.length < 100000000) ∧ ∃ S4 a, backO p.2 q.2.2.toNat = some S4 ∧ q.2.1[0]? = some a ∧
      (q.2.1.length = 1 → ∃ t, letO S4 a none = some t ∧ seekF k' t.2 budget (conf + 1) limit (left - 1) = some r) ∧
      (q.2.1.length ≠ 1 → fresh S4 = true ∧ ∃ S6 t, putO { S4 with cls := S4.cls ++ [⟨q.2.1, true, false, 1⟩] } S4.cls.length = some S6 ∧ -1000000000 ≤ S6.learned ∧ S6.learned ≤ 1000000000 ∧ letO { S6 with learned := S6.learned + 1 } a (some S4.cls.length) = some t ∧ seekF k' t.2 budget (conf + 1) limit (left - 1) = some r))))) ∧
    (r1.1 = none → (left ≤ 0 → ∃ S4, backO r1.2 0 = some S4 ∧ S4.learned ≤ 2000 ∧ seekF k' S4 budget conf (limit + limit / 4) (limit + limit / 4) = some r) ∧ (¬ left ≤ 0 → ∃ q, decideO r1.2 = some q ∧ (q.1 = 0 → r = (1, q.2)) ∧
      (q.1 ≠ 0 → ∃ sv t, q.2.sav[q.1.toNat]? = some sv ∧ letO { q.2 with st := q.2.st ++ [(q.2.tr.length : Int)] } (if sv then q.1 else -q.1) none = some t ∧ seekF k' t.2 budget conf limit left = some r))) := by
  cases k with
  | zero => cases h
  | succ k =>
    unfold seekF at h
    by_cases hb : 0 ≤ conf ∧ conf ≤ 1000000000 ∧ -1000000000 ≤ left ∧ left ≤ 1000000000 ∧ 0 ≤ limit ∧ limit ≤ 1000000000
    case neg => rw [if_neg hb] at h; cases h
    rw [if_pos hb] at h
    obtain ⟨r1, h1, h⟩ := Option.bind_eq_some_iff.1 h
    by_cases hr : roomy r1.2.tr.length ∧ roomy r1.2.st.length
    case neg => rw [if_neg hr] at h; cases h
    rw [if_pos hr] at h
    obtain ⟨hr1, hr2⟩ := hr
    unfold roomy at hr1 hr2
    refine ⟨k, r1, rfl, hb, h1, of_decide_eq_true hr1, of_decide_eq_true hr2, fun c hc => ?_, fun hc => ?_⟩
    · rw [hc] at h
      dsimp only at h
      refine ⟨fun h0 => ?_, fun h0 => ⟨fun h2 => ?_, fun h2 => ?_⟩⟩
      · rw [if_pos h0] at h; exact (Option.some.inj h).symm
      · rw [if_neg h0, if_pos h2] at h; exact (Option.some.inj h).symm
      · rw [if_neg h0, if_neg h2] at h
        by_cases h3 : r1.2.tr.length = 0
        · rw [if_pos h3] at h; cases h
        · rw [if_neg h3] at h
          obtain ⟨q, hq, h⟩ := Option.bind_eq_some_iff.1 h
          obtain ⟨p, hp, h⟩ := Option.bind_eq_some_iff.1 h
          refine ⟨by omega, q, p, hq, hp, fun h4 => ?_, fun h4 => ?_⟩
          · rw [if_neg (by rw [h4]; decide)] at h; exact (Option.some.inj h).symm
          · rw [if_pos h4] at h
            by_cases h5 : q.2.2 < 0
            · rw [if_pos h5] at h; cases h
            · rw [if_neg h5] at h
              by_cases h6 : roomy p.2.tr.length ∧ roomy p.2.st.length
              · rw [if_pos h6] at h
                unfold roomy at h6
                obtain ⟨S4, h7, h⟩ := Option.bind_eq_some_iff.1 h
                obtain ⟨a, h8, h⟩ := Option.bind_eq_some_iff.1 h
                refine ⟨by omega, ⟨of_decide_eq_true h6.2, of_decide_eq_true h6.1⟩, S4, a, h7, h8, fun h9 => ?_, fun h9 => ?_⟩
                · rw [if_pos h9] at h
                  exact Option.bind_eq_some_iff.1 h
                · rw [if_neg h9] at h
                  by_cases h13 : fresh S4 = true
                  case neg => rw [if_neg h13] at h; cases h
                  rw [if_pos h13] at h
                  refine ⟨h13, ?_⟩
                  obtain ⟨S6, h10, h⟩ := Option.bind_eq_some_iff.1 h
                  by_cases h11 : -1000000000 ≤ S6.learned ∧ S6.learned ≤ 1000000000
                  · rw [if_pos h11] at h
                    obtain ⟨t, h12, h⟩ := Option.bind_eq_some_iff.1 h
                    exact ⟨S6, t, h10, h11.1, h11.2, h12, h⟩
                  · rw [if_neg h11] at h; cases h
              · rw [if_neg h6] at h; cases h
    · rw [hc] at h
      dsimp only at h
      refine ⟨fun h0 => ?_, fun h0 => ?_⟩
      · rw [if_pos h0] at h
        obtain ⟨S4, h2, h⟩ := Option.bind_eq_some_iff.1 h
        by_cases h3 : S4.learned ≤ 2000
        · rw [if_pos h3] at h; exact ⟨S4, h2, h3, h⟩
        · rw [if_neg h3] at h; cases h
      · rw [if_neg h0] at h
        obtain ⟨q, hq, h⟩ := Option.bind_eq_some_iff.1 h
        refine ⟨q, hq, fun h2 => ?_, fun h2 => ?_⟩
        · rw [if_pos h2] at h; exact (Option.some.inj h).symm
        · rw [if_neg h2] at h
          obtain ⟨sv, h3, h⟩ := Option.bind_eq_some_iff.1 h
          obtain ⟨t, h4, h⟩ := Option.bind_eq_some_iff.1 h
          exact ⟨sv, t, h3, h4, h⟩
theorem rowF_id : ∀ (f : Nat) {S : Sz} {l : Int} {k j : Nat} {r : Option Nat × Sz} {c : Nat}, WF n S → rowF f S l k j = some r → r.1 = some c → c < S.cls.length
  | 0, _, _, _, _, _, _, _, h, _ => by cases h
  | f + 1, S, l, k, j, r, c, wf, h, hc => by
    unfold rowF at h
    split at h
    · obtain ⟨c1, hc1, h⟩ := Option.bind_eq_some_iff.1 h
      obtain ⟨q, hq, h⟩ := Option.bind_eq_some_iff.1 h
      obtain ⟨v1, v2, _⟩ := visit_facts wf hq
      obtain ⟨z, hz, _⟩ := visit_eq wf hq
      cases hq1 : q.1 with
      | none =>
        rw [hq1] at h
        have := rowF_id f v1 h hc
        omega
      | some a =>
        rw [hq1] at h
        obtain ⟨t, ht, h⟩ := Option.bind_eq_some_iff.1 h
        obtain ⟨l1, l2, _⟩ := letO_facts (setW_wf v1 (codeZ l) j c1) ht
        have l2' : t.2.cls.length = S.cls.length := by rw [l2]; exact v2
        split at h
        · have := rowF_id f l1 h hc
          omega
        · split at h
          · cases h
            cases hc
            exact len_of hz
          · cases h
    · cases h
      cases hc
theorem spreadF_id : ∀ (f : Nat) {S : Sz} {r : Option Nat × Sz} {c : Nat}, WF n S → spreadF f S = some r → r.1 = some c → c < S.cls.length
  | 0, _, _, _, _, h, _ => by cases h
  | f + 1, S, r, c, wf, h, hc => by
    unfold spreadF at h
    split at h
    · split at h
      · cases h
      · obtain ⟨x, hx, h⟩ := Option.bind_eq_some_iff.1 h
        obtain ⟨ws, hws, h⟩ := Option.bind_eq_some_iff.1 h
        split at h
        · obtain ⟨q, hq, h⟩ := Option.bind_eq_some_iff.1 h
          obtain ⟨w1, w2⟩ := rowF_wf _ (atWF wf (S.at' + 1)) hq
          have w2' : q.2.cls.length = S.cls.length := w2
          cases hq1 : q.1 with
          | some c1 =>
            rw [hq1] at h
            cases h
            cases hc
            have := rowF_id _ (atWF wf (S.at' + 1)) hq hq1
            exact this
          | none =>
            rw [hq1] at h
            have := spreadF_id f w1 h hc
            omega
        · cases h
    · cases h
      cases hc
theorem spread_id (wf : WF n S) {r : Option Nat × Sz} {c : Nat} (h : spreadO S = some r) (hc : r.1 = some c) : c < S.cls.length := spreadF_id _ wf h hc
theorem learnL_len : ∀ (ls : List Int) {S : Sz} {first op : Int} {out : List Int} {res : Sz × List Int × Int}, learnL ls S first out op = some res → out.length ≤ res.2.1.length
  | [], S, first, op, out, res, h => by cases h; exact Nat.le_refl _
  | l :: ls, S, first, op, out, res, h => by
    obtain ⟨h1, h2⟩ := learnL_eq h
    by_cases h0 : l = first
    · exact learnL_len ls (h1 h0)
    · obtain ⟨s, d, hs, hd, t1, t2, t3⟩ := h2 h0
      cases s with
      | true => exact learnL_len ls (t1 rfl)
      | false =>
        by_cases hd0 : d = 0
        · exact learnL_len ls (t2 rfl hd0)
        · obtain ⟨S1, hS1, u1, u2⟩ := t3 rfl hd0
          by_cases hl : d = S.st.length
          · exact learnL_len ls (u1 hl).2
          · have := learnL_len ls (u2 hl).2
            rw [List.length_append] at this
            omega
theorem learnF_len : ∀ (f : Nat) {S : Sz} {c e : Nat} {first op : Int} {out : List Int} {res : Sz × List Int × Int}, learnF f S c first out op e = some res → out.length ≤ res.2.1.length
  | 0, _, _, _, _, _, _, _, h => by cases h
  | f + 1, S, c, e, first, op, out, res, h => by
    obtain ⟨f', z, r, q, ef, hz, _, _, _, hr, _, hq, h1, h2⟩ := learnF_eq h
    cases ef
    have hl := learnL_len _ hr
    by_cases h0 : r.2.2 = 1
    · rw [h1 h0]; exact hl
    · obtain ⟨c1, _, h3⟩ := h2 h0
      exact Nat.le_trans hl (learnF_len f h3)
theorem learn_len {c : Nat} {r : Sz × List Int × Int} (h : learnO S c = some r) : 0 < r.2.1.length ∧ r.2.1.length < 100000000 := by
  unfold learnO at h
  obtain ⟨res, hr, h⟩ := Option.bind_eq_some_iff.1 h
  have hl := learnF_len _ hr
  split at h
  · rename_i hro
    unfold roomy at hro
    have hro := of_decide_eq_true hro
    obtain ⟨q, hq, h⟩ := Option.bind_eq_some_iff.1 h
    cases h
    have e : (if 0 < q.2.2 then swapV (res.2.1.set 0 (-res.2.2)) 1 q.2.2 else res.2.1.set 0 (-res.2.2)).length = res.2.1.length := by
      split
      · unfold swapV; simp only [List.length_set]
      · rw [List.length_set]
    show 0 < (if 0 < q.2.2 then swapV (res.2.1.set 0 (-res.2.2)) 1 q.2.2 else res.2.1.set 0 (-res.2.2)).length ∧ (if 0 < q.2.2 then swapV (res.2.1.set 0 (-res.2.2)) 1 q.2.2 else res.2.1.set 0 (-res.2.2)).length < 100000000
    rw [e]
    exact ⟨Nat.lt_of_lt_of_le (by decide) hl, hro⟩
  · cases h
end Go.Proofs.Ytkpppmldbhgcgaa

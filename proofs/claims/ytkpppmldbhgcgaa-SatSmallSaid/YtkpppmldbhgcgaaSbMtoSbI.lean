/- Sat: back to a level (back), walked. -/
import Derived.Test.YtkpppmldbhgcgaaSbPtoSbJ
import Derived.BigRegion
import Derived.StillTailTactics
set_option linter.unusedVariables false
set_option linter.unusedSimpArgs false
set_option autoImplicit false
set_option linter.unusedVariables false
set_option linter.unusedSimpArgs false
namespace Go.Proofs.Ytkpppmldbhgcgaa
open Go Go.RowKit
variable {lo n : Nat} {w : World} {own : Nat → Option Tg} {rv : Tg → Value} {S : Sz}
/-- a row of the solver's own is cut short -/
theorem Rep.cutX (h : Sol lo w own rv S) {own0 : Nat → Option Tg} {w0 : World} (hF : Frm own0 own w0 w) {T : Tg} {b m g k k' c : Nat} (hb : rv .x = .pointer (some ⟨b, 0, none⟩)) (hT : kd.row T = true) (hsz : kd.esz T = 1) (hm : (xcs S)[m]? = some (AC.ref T)) (hh : home T = (.x, m))
    (hv : rv T = .slice (some ⟨g, 0, none⟩) k c) (hk : (mem S T).n = k) (hk' : k' ≤ k) {S' : Sz} (hS : mem S' = upd (mem S) T ⟨k', (mem S T).cs.take k'⟩) :
    Sol lo (w.setCell ⟨b, m, none⟩ (.slice (some ⟨g, 0, none⟩) k' c)) own (upd rv T (.slice (some ⟨g, 0, none⟩) k' c)) S' ∧ Frm own0 own w0 (w.setCell ⟨b, m, none⟩ (.slice (some ⟨g, 0, none⟩) k' c)) := by
  obtain ⟨b', hb', hlx, hlob, hbw⟩ := h.xb
  rw [hb] at hb'
  cases hb'
  have := h.cut (T := T) (p := .x) (b := b) (m := m) (g := g) (cap := c) (k := k') hT (by rw [hk]; exact hv) (by rw [hk]; exact hk') (by rintro rfl; cases hT) (by rw [hb]; rfl) hm (ref_uniq S hT hh)
  rw [hsz, Nat.mul_one, ← hS] at this
  exact ⟨this, hF.setCell hlx _⟩
theorem Rep.putX (h : Sol lo w own rv S) {own0 : Nat → Option Tg} {w0 : World} (hF : Frm own0 own w0 w) {b m : Nat} (hb : rv .x = .pointer (some ⟨b, 0, none⟩)) (hm : m < 18) (a : AC Tg) {S' : Sz} (hS : mem S' = upd (mem S) .x (Ytkpppmldbhgcgaa.row ((xcs S).set m a))) :
    Sol lo (w.setCell ⟨b, m, none⟩ (conc rv a)) own rv S' ∧ Frm own0 own w0 (w.setCell ⟨b, m, none⟩ (conc rv a)) :=
  h.wr (T := .x) (g := b) (m := m) (a := a) (by rw [hb]; rfl) hm hS rfl hF
/-- what a variable's taking back turns -/
def backS (S : Sz) (l : Int) : Sz := { S with sav := S.sav.set l.natAbs (decide (0 < l)), vals := S.vals.set l.natAbs 0, rea := S.rea.set l.natAbs none }
theorem backS_wf (wf : WF n S) (l : Int) : WF n (backS S l) :=
  ⟨⟨wf.ord.big, wf.ord.sc, wf.ord.pl, wf.ord.ov, wf.ord.ovl⟩, wf.vals.set _ (by omega), wf.lev, by show (S.rea.set _ _).length = n; rw [List.length_set]; exact wf.rea, by show (S.sav.set _ _).length = n; rw [List.length_set]; exact wf.sav, wf.seen, wf.watch, wf.bump, wf.scp⟩
theorem hpushO_wf (wf : WF n S) {v : Nat} {S' : Sz} (h : hpushO S v = some S') : WF n S' ∧ SameO S S' ∧ v < n ∧ S.ov.length < n := by
  unfold hpushO at h
  split at h
  · rename_i hh
    cases h
    rw [wf.ord.pl] at hh
    have hs : SameO S (upZ (pushZ S v) S.ov.length) := (push_same S v).trans (up_same _ _)
    refine ⟨wf_same wf hs (up_ok (push_ok wf.ord hh.1 hh.2) ?_).1, hs, hh.1, hh.2⟩
    show S.ov.length < (S.ov ++ [(v : Int)]).length
    rw [List.length_append, List.length_singleton]; omega
  · cases h
theorem backV_eq {l : Int} {S' : Sz} (h : backV S l = some S') : ∃ y p, S.vals[l.natAbs]? = some y ∧ S.pl[l.natAbs]? = some p ∧ (p < 0 → hpushO (backS S l) l.natAbs = some S') ∧ (¬ p < 0 → S' = backS S l) := by
  unfold backV at h
  obtain ⟨y, hy, h⟩ := Option.bind_eq_some_iff.1 h
  obtain ⟨p, hp, h⟩ := Option.bind_eq_some_iff.1 h
  refine ⟨y, p, hy, hp, fun h0 => ?_, fun h0 => ?_⟩
  · simp only [if_pos h0] at h
    exact h
  · simp only [if_neg h0] at h
    exact (Option.some.inj h).symm
theorem backV_wf (wf : WF n S) {l : Int} {S' : Sz} (h : backV S l = some S') : WF n S' ∧ SameO (backS S l) S' := by
  obtain ⟨y, p, hy, hp, h1, h2⟩ := backV_eq h
  by_cases h0 : p < 0
  · have := hpushO_wf (backS_wf wf l) (h1 h0)
    exact ⟨this.1, this.2.1⟩
  · rw [h2 h0]
    exact ⟨backS_wf wf l, SameO.refl _⟩
end Go.Proofs.Ytkpppmldbhgcgaa
/- Sat: propagating (spread): what a round finds. -/
set_option autoImplicit false
set_option linter.unusedVariables false
set_option linter.unusedSimpArgs false
namespace Go.Proofs.Ytkpppmldbhgcgaa
open Go Go.RowKit
variable {lo n : Nat} {w : World} {own : Nat → Option Tg} {rv : Tg → Value} {S : Sz}
/-- labels that propagating turns -/
def isS : Tg → Bool
  | .wr _ => true
  | .all => true
  | .tr => true
  | _ => false
theorem isW_of_isS {t : Tg} (h : isS t = false) : isW t = false := by cases t <;> first | rfl | cases h
theorem movesF_facts : ∀ (f : Nat) {S : Sz} {c : Nat} {z : Cz} {p k : Nat} {r : Bool × Sz}, WF n S → movesF f S c z p k = some r → (r.1 = false → r.2 = S) ∧ WF n r.2 ∧ r.2.cls.length = S.cls.length ∧ r.2.watch.length = S.watch.length ∧ r.2.watch[p]? = S.watch[p]? ∧ r.2.tr = S.tr ∧ r.2.st = S.st ∧ r.2.at' = S.at'
  | 0, _, _, _, _, _, _, _, h => by cases h
  | f + 1, S, c, z, p, k, r, wf, h => by
    unfold movesF at h
    split at h
    · obtain ⟨x, hx, h⟩ := Option.bind_eq_some_iff.1 h
      obtain ⟨v, hv, h⟩ := Option.bind_eq_some_iff.1 h
      split at h
      · exact movesF_facts f wf h
      · split at h
        · cases h
        · rename_i hp
          obtain ⟨S1, h1, h⟩ := Option.bind_eq_some_iff.1 h
          cases h
          have wf1 := addO_wf (setLits_wf wf c z (swapV z.lits 1 k)) h1
          obtain ⟨e1, e2⟩ := addO_len h1
          have e3 : S1.watch[p]? = S.watch[p]? ∧ S1.tr = S.tr ∧ S1.st = S.st ∧ S1.at' = S.at' := by
            unfold addO at h1
            obtain ⟨_, _, h1⟩ := Option.bind_eq_some_iff.1 h1
            obtain ⟨ws, _, h1⟩ := Option.bind_eq_some_iff.1 h1
            split at h1
            · cases h1
              refine ⟨?_, rfl, rfl, rfl⟩
              show (S.watch.set _ _)[p]? = _
              rw [List.getElem?_set_ne hp]
            · cases h1
          refine ⟨fun h => (by cases h), wf1, ?_, ?_, e3.1, e3.2⟩
          · show S1.cls.length = _
            rw [e1]
            show (S.cls.set _ _).length = _
            rw [List.length_set]
          · show S1.watch.length = _
            rw [e2]
            rfl
    · cases h
      exact ⟨fun _ => rfl, wf, rfl, rfl, rfl, rfl, rfl, rfl⟩
theorem movesO_facts {c p : Nat} {r : Bool × Sz} (wf : WF n S) (h : movesO S c p = some r) : (r.1 = false → r.2 = S) ∧ WF n r.2 ∧ r.2.cls.length = S.cls.length ∧ r.2.watch.length = S.watch.length ∧ r.2.watch[p]? = S.watch[p]? ∧ r.2.tr = S.tr ∧ r.2.st = S.st ∧ r.2.at' = S.at' := by
  unfold movesO at h
  obtain ⟨z, hz, h⟩ := Option.bind_eq_some_iff.1 h
  split at h
  · exact movesF_facts _ wf h
  · cases h
/-- the clause's first literal is another one than that which has come to be false -/
def turned (S : Sz) (l : Int) (c : Nat) (z : Cz) (a : Int) : Sz := if a = l then setLits S c z (swapV z.lits 0 1) else S
theorem visit_eq {l : Int} {c : Nat} {r : Option Int × Sz} (wf : WF n S) (h : visitO S l c = some r) : ∃ z, S.cls[c]? = some z ∧ (z.gone = true → r = (none, S)) ∧ (z.gone = false → ∃ a b' a1 v z1, z.lits[0]? = some a ∧ z.lits[1]? = some b' ∧ a1 = (if a = l then b' else a) ∧
    WF n (turned S l c z a) ∧ (turned S l c z a).cls[c]? = some z1 ∧ z1.lits[0]? = some a1 ∧ litO (turned S l c z a) a1 = some v ∧ (v = 1 → r = (some a1, turned S l c z a)) ∧
    (v ≠ 1 → ∃ q, movesO (turned S l c z a) c (codeZ l) = some q ∧ (q.1 = true → r = (none, q.2)) ∧ (q.1 = false → r = (some a1, turned S l c z a) ∧ q.2 = turned S l c z a))) := by
  unfold visitO at h
  obtain ⟨z, hz, h⟩ := Option.bind_eq_some_iff.1 h
  refine ⟨z, hz, fun hg => ?_, fun hg => ?_⟩
  · rw [if_pos hg] at h
    cases h; rfl
  · rw [if_neg (by rw [hg]; decide)] at h
    obtain ⟨a, ha, h⟩ := Option.bind_eq_some_iff.1 h
    obtain ⟨b', hb', h⟩ := Option.bind_eq_some_iff.1 h
    dsimp only at h
    change ((litO (turned S l c z a) (if a = l then b' else a)).bind _) = some r at h
    obtain ⟨v, hv, h⟩ := Option.bind_eq_some_iff.1 h
    have wf1 : WF n (turned S l c z a) := by unfold turned; split; exact setLits_wf wf _ _ _; exact wf
    have hz1 : ∃ z1, (turned S l c z a).cls[c]? = some z1 ∧ z1.lits[0]? = some (if a = l then b' else a) := by
      unfold turned
      split
      · refine ⟨{ z with lits := swapV z.lits 0 1 }, ?_, ?_⟩
        · show (S.cls.set c _)[c]? = _
          rw [List.getElem?_set_self (len_of hz)]
        · show (swapV z.lits 0 1)[0]? = _
          have hl := len_of hb'
          have e := swapV_get (k := 0) (len_of ha) hl
          rw [list_get 0 (by unfold swapV; rw [List.length_set, List.length_set]; omega), e, if_neg (by decide), if_pos rfl, List.getD_eq_getElem?_getD, hb']
          rfl
      · exact ⟨z, hz, ha⟩
    obtain ⟨z1, hz1, hz2⟩ := hz1
    refine ⟨a, b', _, v, z1, ha, hb', rfl, wf1, hz1, hz2, hv, fun h1 => ?_, fun h1 => ?_⟩
    · rw [if_pos h1] at h
      exact (Option.some.inj h).symm
    · rw [if_neg h1] at h
      obtain ⟨q, hq, h⟩ := Option.bind_eq_some_iff.1 h
      refine ⟨q, hq, fun h2 => ?_, fun h2 => ?_⟩
      · rw [if_pos h2] at h
        exact (Option.some.inj h).symm
      · rw [if_neg (by rw [h2]; decide)] at h
        have := (movesO_facts wf1 hq).1 h2
        rw [this] at h
        exact ⟨(Option.some.inj h).symm, this⟩
theorem turned_facts {l : Int} {c : Nat} {z : Cz} {a : Int} : (turned S l c z a).cls.length = S.cls.length ∧ (turned S l c z a).watch = S.watch ∧ (turned S l c z a).tr = S.tr ∧ (turned S l c z a).st = S.st ∧ (turned S l c z a).at' = S.at' := by
  unfold turned
  split
  · exact ⟨by show (S.cls.set _ _).length = _; rw [List.length_set], rfl, rfl, rfl, rfl⟩
  · exact ⟨rfl, rfl, rfl, rfl, rfl⟩
theorem visit_facts {l : Int} {c : Nat} {r : Option Int × Sz} (wf : WF n S) (h : visitO S l c = some r) : WF n r.2 ∧ r.2.cls.length = S.cls.length ∧ r.2.watch.length = S.watch.length ∧ r.2.watch[codeZ l]? = S.watch[codeZ l]? ∧ r.2.tr = S.tr ∧ r.2.st = S.st ∧ r.2.at' = S.at' := by
  obtain ⟨z, hz, h1, h2⟩ := visit_eq wf h
  cases hg : z.gone with
  | true => rw [h1 hg]; exact ⟨wf, rfl, rfl, rfl, rfl, rfl, rfl⟩
  | false =>
    obtain ⟨a, b', a1, v, z1, ha, hb', ha1, wf1, hz1, hz2, hv, h3, h4⟩ := h2 hg
    obtain ⟨t1, t2, t3, t4, t5⟩ := turned_facts (S := S) (l := l) (c := c) (z := z) (a := a)
    by_cases hv1 : v = 1
    · rw [h3 hv1]
      exact ⟨wf1, t1, by rw [t2], by rw [t2], t3, t4, t5⟩
    · obtain ⟨q, hq, h5, h6⟩ := h4 hv1
      obtain ⟨m1, m2, m3, m4, m5, m6, m7, m8⟩ := movesO_facts wf1 hq
      cases hq1 : q.1 with
      | true => rw [h5 hq1]; exact ⟨m2, m3.trans t1, by rw [m4, t2], by rw [m5, t2], m6.trans t3, m7.trans t4, m8.trans t5⟩
      | false => rw [(h6 hq1).1]; exact ⟨wf1, t1, by rw [t2], by rw [t2], t3, t4, t5⟩
theorem setW_wf (wf : WF n S) (p j c : Nat) : WF n (setW S p j c) :=
  ⟨⟨wf.ord.big, wf.ord.sc, wf.ord.pl, wf.ord.ov, wf.ord.ovl⟩, wf.vals, wf.lev, wf.rea, wf.sav, wf.seen, by show (S.watch.set _ _).length = _; rw [List.length_set]; exact wf.watch, wf.bump, wf.scp⟩
theorem watch_wf (wf : WF n S) (p : Nat) (ws : List Nat) : WF n { S with watch := S.watch.set p ws } :=
  ⟨⟨wf.ord.big, wf.ord.sc, wf.ord.pl, wf.ord.ov, wf.ord.ovl⟩, wf.vals, wf.lev, wf.rea, wf.sav, wf.seen, by show (S.watch.set _ _).length = _; rw [List.length_set]; exact wf.watch, wf.bump, wf.scp⟩
theorem letO_facts {l : Int} {rn : Option Nat} {r : Bool × Sz} (wf : WF n S) (h : letO S l rn = some r) : WF n r.2 ∧ r.2.cls = S.cls ∧ r.2.watch = S.watch ∧ r.2.st = S.st ∧ r.2.at' = S.at' ∧ (r.1 = false → r.2 = S) := by
  unfold letO at h
  obtain ⟨v, hv, h⟩ := Option.bind_eq_some_iff.1 h
  split at h
  · cases h; exact ⟨wf, rfl, rfl, rfl, rfl, fun h => rfl⟩
  · split at h
    · cases h; exact ⟨wf, rfl, rfl, rfl, rfl, fun _ => rfl⟩
    · split at h
      · cases h; exact ⟨let_wf wf l rn, rfl, rfl, rfl, rfl, fun h => (by cases h)⟩
      · cases h
end Go.Proofs.Ytkpppmldbhgcgaa
/- Sat: a variable was in a conflict (raise), walked. -/
set_option autoImplicit false
set_option linter.unusedVariables false
set_option linter.unusedSimpArgs false
namespace Go.Proofs.Ytkpppmldbhgcgaa
open Go Go.RowKit
variable {lo n : Nat} {w : World} {own : Nat → Option Tg} {rv : Tg → Value} {S : Sz}
set_option maxHeartbeats 16000000 in
set_option maxRecDepth 1000000 in
theorem raise_walk (h : Sol lo w own rv S) (wf : WF n S) {v : Nat} {S' : Sz} (hf : raiseO S v = some S') :
    Calls Try.prog 50 #[rv .x, .int .i64 v] w fun e w' => e = .returned (.tuple #[]) ∧ Sol lo w' own rv S' ∧ Frm own own w w' := by
  obtain ⟨b, hb, hlx, hlob, hbw⟩ := h.xb
  unfold raiseO at hf
  obtain ⟨s, hs, hf⟩ := Option.bind_eq_some_iff.1 hf
  obtain ⟨p, hp, hf⟩ := Option.bind_eq_some_iff.1 hf
  have hvn : v < n := by have := len_of hs; rw [wf.ord.sc] at this; exact this
  have hbig := wf.ord.big
  have hps : PosW s := wf.scp s (List.mem_of_getElem? hs)
  obtain ⟨hA, hAp⟩ := fAdd_ok hps wf.bump
  obtain ⟨hB, hBp⟩ := fMul_cm wf.bump
  have wf3 := raiseS_wf wf hs
  obtain ⟨o1, o2⟩ := raiseS_ov S v s
  obtain ⟨gs, cs, HS⟩ : ∃ gs cs, HeadAt w own rv .sc .x b 2 n (some ⟨gs, 0, none⟩) cs := by
    obtain ⟨a, c, H⟩ := h.headX (T := .sc) (m := 2) (k := n) hb rfl rfl (by show (S.sc.map _).length = n; rw [List.length_map]; exact wf.ord.sc)
    obtain ⟨g, rfl, _⟩ := H.at_ (by omega)
    exact ⟨g, c, H⟩
  obtain ⟨gp, cp, HP⟩ : ∃ gs cs, HeadAt w own rv .pl .x b 1 n (some ⟨gs, 0, none⟩) cs := by
    obtain ⟨a, c, H⟩ := h.headX (T := .pl) (m := 1) (k := n) hb rfl rfl (by show (S.pl.map _).length = n; rw [List.length_map]; exact wf.ord.pl)
    obtain ⟨g, rfl, _⟩ := H.at_ (by omega)
    exact ⟨g, c, H⟩
  obtain ⟨c1, c2⟩ := h.hcell HS.val (u := .val (.float .f64 s)) (map_get hs)
  replace c1 : w.cell? ⟨gs, v, none⟩ = some (.float .f64 s) := c1
  have c13 := (h.fld hb (m := 13) rfl).1
  replace c13 : w.cell? ⟨b, 13, none⟩ = some (.float .f64 S.bump) := c13
  have h2 := HS.cell
  have hcs := HS.le
  have hcp := HP.le
  obtain ⟨A, hAA⟩ : ∃ A, fAdd s S.bump = A := ⟨_, rfl⟩
  obtain ⟨Bm, hBB⟩ : ∃ A, S.bump = A := ⟨_, rfl⟩
  obtain ⟨C, hCC⟩ : ∃ C, fMul S.bump cm100 = C := ⟨_, rfl⟩
  rw [hAA] at hA hAp
  rw [hCC] at hB hBp
  rw [hBB] at hA hB c13
  have hadd : ∀ W, (binOp .add 57 (.float .f64 s) (.float .f64 Bm)).run Try.prog W = .ok (.float .f64 A) W := fun W => run_float_arith (h := hA) ..
  have hmulb : ∀ W, (binOp .mul 57 (.float .f64 Bm) (.float .f64 3110860544497550640)).run Try.prog W = .ok (.float .f64 C) W := fun W => run_float_arith (h := hB) ..
  have hstf : ∀ (a : Addr) (x : Nat) (W : World), (store a (.float .f64 x)).run Try.prog W = stored Try.prog W a (.float .f64 x) .plain := fun a x W => run_store _ _ _ _ _ rfl
  have hput := h.putSc HS.val (i := v) (by rw [wf.ord.sc]; exact hvn) A (Frm.refl own w)
  -- behind the scores: the world in which the order is put right
  have hrest : ∀ wz, Sol lo wz own rv (raiseS S v s) → Frm own own w wz → (wz.cell? ⟨b, 1, none⟩ = some (.slice (some ⟨gp, 0, none⟩) n cp) ∧ wz.cell? ⟨gp, v, none⟩ = some (.int .i64 p)) ∧
      (p < 0 → Sol lo wz own rv S' ∧ Frm own own w wz) ∧ (0 ≤ p → ∀ q, Calls Try.prog 69 #[.iface 69 (.pointer (some ⟨b, 0, none⟩)), .int .i64 p] (wz.drewN q) fun e w' => e = .returned (.tuple #[]) ∧ Sol lo w' own rv S' ∧ Frm own own w w') := by
    intro wz hz hF
    refine ⟨⟨?_, (hz.hcell HP.val (u := vi p) (map_get (by rw [o2]; exact hp))).1⟩, fun h0 => ?_, fun h0 q => ?_⟩
    · have := (hz.fld hb (m := 1) rfl).1
      rw [this]
      exact congrArg some HP.val
    · rw [if_neg (by omega)] at hf
      cases hf
      exact ⟨hz, hF⟩
    · rw [if_pos h0] at hf
      split at hf
      · rename_i hlt
        cases hf
        have := fix_walk (hz.drewN q) wf3.ord p.toNat (by rw [o1]; exact hlt)
        rw [hb, Int.toNat_of_nonneg h0] at this
        refine this.mono ?_
        rintro e w' ⟨p1, p2, p3⟩
        exact ⟨p1, p2, (hF.drewN q).trans p3⟩
      · cases hf
  have hrest := Hid'.mk hrest
  have hvI : (v : Int) < n := by omega
  rw [hb]
  cases hq : (FloatKind.f64.format.order A c100 == some Ordering.gt)
  · have hq' : (FloatKind.f64.format.order A 6103021453049119613 == some Ordering.gt) = false := hq
    have hR : raiseS S v s = { S with sc := S.sc.set v A } := by unfold raiseS; rw [hAA, hq]; rfl
    obtain ⟨w1, hw1⟩ : ∃ x, x = (w.setCell ⟨gs, v, none⟩ (.float .f64 A)).drew := ⟨_, rfl⟩
    have hS1 : Sol lo w1 own rv (raiseS S v s) ∧ Frm own own w w1 := by rw [hw1, hR]; exact ⟨hput.1.drew, hput.2.drew⟩
    have k2 : w1.cell? ⟨b, 2, none⟩ = some (.slice (some ⟨gs, 0, none⟩) n cs) := by
      have := (hS1.1.fld hb (m := 2) rfl).1
      rw [this]
      exact congrArg some HS.val
    have k3 : w1.cell? ⟨gs, v, none⟩ = some (.float .f64 A) := (hS1.1.hcell HS.val (u := .val (.float .f64 A)) (by rw [hR]; exact map_get (by rw [List.getElem?_set_self (by rw [wf.ord.sc]; exact hvn)]))).1
    obtain ⟨⟨k4, k5⟩, kf, kt⟩ := hrest.h w1 hS1.1 hS1.2
    clear hrest hput hB hBp hAp hps hBB hCC hAA HS HP wf wf3 h hf hs hp hR hS1
    have hK := Hid'.mk (And.intro hw1 (And.intro k2 (And.intro k3 (And.intro k4 (And.intro k5 (And.intro kf kt))))))
    clear hw1 k2 k3 k4 k5 kf kt
    go_enter Try.func50, Try.ntmps50
    go_wp2_with fail
    go_region
    obtain ⟨hw1, k2, k3, k4, k5, kf, kt⟩ := hK.h
    rw [← hw1]
    clear hw1 hK c1 c2 c13 h2
    by_cases h0 : 0 ≤ p
    · replace kt := kt h0
      clear kf
      go_wp2_with fail
      go_still_tail 12, (by kernel_rfl)
      go_wp2_with (go_at_call 69; refine (kt 1).mono ?_; rintro e w3 ⟨p1, p2⟩; rw [p1]; clear p1)
      go_end0
      exact ⟨rfl, p2⟩
    · replace kf := Hid'.mk (kf (by omega))
      clear kt
      go_wp2
      go_end0
      exact ⟨rfl, kf.h⟩
  · have hq' : (FloatKind.f64.format.order A 6103021453049119613 == some Ordering.gt) = true := hq
    have hR : raiseS S v s = { S with sc := (S.sc.set v A).map (fun x => fMul x cm100), bump := C } := by unfold raiseS; rw [hAA, hq, hCC]; rfl
    obtain ⟨w1, hw1⟩ : ∃ x, x = (w.setCell ⟨gs, v, none⟩ (.float .f64 A)).drew := ⟨_, rfl⟩
    obtain ⟨Q, hQ⟩ : ∃ Q, S.sc.set v A = Q := ⟨_, rfl⟩
    have hQl : Q.length = n := by rw [← hQ, List.length_set]; exact wf.ord.sc
    have hQp : ∀ x ∈ Q, PosW x := fun x hx => by
      rw [← hQ] at hx
      rcases List.mem_or_eq_of_mem_set hx with h | h
      · exact wf.scp x h
      · rw [h]; exact hAp
    rw [hQ] at hput hR
    have hS1 : Sol lo w1 own rv { S with sc := Q } ∧ Frm own own w w1 := by rw [hw1]; exact ⟨hput.1.drew, hput.2.drew⟩
    have hcells : ∀ (i : Nat) wr, Sol lo wr own rv { S with sc := scAt Q i } → wr.cell? ⟨b, 2, none⟩ = some (.slice (some ⟨gs, 0, none⟩) n cs) ∧ wr.cell? ⟨b, 13, none⟩ = some (.float .f64 Bm) ∧ wr.frozen? ⟨b, 13, none⟩ = false ∧ ∀ (k x : Nat), (scAt Q i)[k]? = some x → wr.cell? ⟨gs, k, none⟩ = some (.float .f64 x) ∧ wr.frozen? ⟨gs, k, none⟩ = false := by
      intro i wr hs
      have q1 := (hs.fld hb (m := 2) rfl).1
      have q2 := hs.fld hb (m := 13) rfl
      refine ⟨by rw [q1]; exact congrArg some HS.val, ?_, q2.2, fun k x hk => hs.hcell HS.val (u := .val (.float .f64 x)) (map_get hk)⟩
      have q3 := q2.1
      rw [show conc rv (AC.val (Value.float FloatKind.f64 S.bump)) = _ from rfl, hBB] at q3
      exact q3
    have hputI : ∀ (i x : Nat) wr, Q[i]? = some x → Sol lo wr own rv { S with sc := scAt Q i } → Frm own own w wr → Sol lo (wr.setCell ⟨gs, i, none⟩ (.float .f64 (fMul x cm100))).drew own rv { S with sc := scAt Q (i + 1) } ∧ Frm own own w (wr.setCell ⟨gs, i, none⟩ (.float .f64 (fMul x cm100))).drew := by
      intro i x wr hx hs hF
      have := hs.putSc HS.val (i := i) (by rw [scAt_len]; exact len_of hx) (fMul x cm100) hF
      dsimp only at this
      rw [scAt_succ hx] at this
      exact ⟨this.1.drew, this.2.drew⟩
    have hlast : ∀ wr, Sol lo wr own rv { S with sc := scAt Q n } → Frm own own w wr → Sol lo (wr.setCell ⟨b, 13, none⟩ (.float .f64 C)) own rv (raiseS S v s) ∧ Frm own own w (wr.setCell ⟨b, 13, none⟩ (.float .f64 C)) := by
      intro wr hs hF
      have := hs.putBump hb C hF
      rw [hR]
      have e := scAt_end Q
      rw [hQl] at e
      rw [← e]
      exact this
    obtain ⟨k2, k13, kf13, kc⟩ := hcells 0 w1 (by rw [scAt_zero]; exact hS1.1)
    have k3 := (kc v A (by rw [scAt_zero, ← hQ, List.getElem?_set_self (by rw [wf.ord.sc]; exact hvn)])).1
    have hS1' : Sol lo w1 own rv { S with sc := scAt Q 0 } := by rw [scAt_zero]; exact hS1.1
    have hK := Hid'.mk (And.intro hw1 (And.intro k2 (And.intro k3 (And.intro hS1' (And.intro hS1.2 (And.intro hcells (And.intro hputI hlast)))))))
    clear hput hB hBp hAp hps hBB hCC hAA HS HP wf wf3 h hf hs hp hR hS1 hw1 k2 k3 kc k13 kf13 hS1' hcells hputI hlast hq hQ
    go_enter Try.func50, Try.ntmps50
    go_wp2_with fail
    go_region
    obtain ⟨hw1, k2, k3, hS1, hF1, hcells, hputI, hlast⟩ := hK.h
    rw [← hw1]
    clear hw1 c1 c2 c13 h2 hadd hA
    go_wp2
    go_loopw [34] (fun iv wr => ∃ (i : Nat), iv = .int .i64 i ∧ i ≤ n ∧ Sol lo wr own rv { S with sc := scAt Q i } ∧ Frm own own w wr) (fun iv _ => n - (intOf iv).toNat)
    case atStart => exact ⟨0, rfl, by omega, hS1, hF1⟩
    case round =>
      obtain ⟨i, rfl, hi, hs, hF⟩ := hrel
      obtain ⟨u2, u13, uf, uc⟩ := hcells i wr hs
      by_cases hlt : i < n
      · have hltI : (i : Int) < n := by omega
        obtain ⟨x, hx⟩ : ∃ x, Q[i]? = some x := ⟨_, List.getElem?_eq_getElem (by rw [hQl]; exact hlt)⟩
        obtain ⟨cx, fx⟩ := uc i x (scAt_get hx)
        have hm := (fMul_cm (hQp x (List.mem_of_getElem? hx))).1
        have hP := hputI i x wr hx hs hF
        obtain ⟨y, hy⟩ : ∃ y, fMul x cm100 = y := ⟨_, rfl⟩
        rw [hy] at hm hP
        have hmul : ∀ W, (binOp .mul 57 (.float .f64 x) (.float .f64 3110860544497550640)).run Try.prog W = .ok (.float .f64 y) W := fun W => run_float_arith (h := hm) ..
        have hPH := Hid'.mk hP
        clear hP hm hy hs hF uc u13 uf hx hputI hcells hlast hQp hQl hS1 hF1 k2 k3 hK hrest
        go_wp2_with fail
        go_region
        go_wp2_with fail
        go_roundw
        case rel => exact ⟨i + 1, by simp, by omega, hPH.h.1, hPH.h.2⟩
        case measure => simp [intOf]; omega
      · obtain rfl : i = n := by omega
        obtain ⟨l1, l2⟩ := hlast wr hs hF
        obtain ⟨⟨k4, k5⟩, kf, kt⟩ := hrest.h _ l1 l2
        have kcl := Hid'.mk kf
        clear hs hF uc hputI hcells hlast hQp hQl hS1 hF1 k2 k3 hK hrest l1 l2 kf
        by_cases h0 : 0 ≤ p
        · replace kt := kt h0
          clear kcl
          go_wp2_with fail
          generalize wr.setCell ⟨b, 13, none⟩ (.float .f64 C) = W9 at *
          go_still_tail 12, (by kernel_rfl)
          go_wp2_with (go_at_call 69; refine (kt 1).mono ?_; rintro e w3 ⟨p1, p2⟩; rw [p1]; clear p1)
          go_end0
          exact ⟨rfl, p2⟩
        · have kf := Hid'.mk (kcl.h (by omega))
          clear kt
          go_wp2
          go_end0
          exact ⟨rfl, kf.h⟩
end Go.Proofs.Ytkpppmldbhgcgaa

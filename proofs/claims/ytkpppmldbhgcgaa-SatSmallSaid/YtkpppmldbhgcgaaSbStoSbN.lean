/- Sat: what a conflict teaches (learn): a row of the call's own; the scores of a clause's literals. -/
import Derived.Test.YtkpppmldbhgcgaaSbMtoSbI
import Derived.Test.YtkpppmldbhgcgaaSbC
set_option linter.unusedVariables false
set_option linter.unusedSimpArgs false
set_option autoImplicit false
set_option linter.unusedVariables false
set_option linter.unusedSimpArgs false
namespace Go.Proofs.Ytkpppmldbhgcgaa
open Go Go.RowKit
variable {lo n : Nat} {w : World} {own : Nat → Option Tg} {rv : Tg → Value} {S : Sz}
/-- a row of numbers of the call's own, that is no label's -/
structure Out (lo B : Nat) (w : World) (own : Nat → Option Tg) (ov : Value) (out : List Int) : Prop where
  row : w.ownsRow lo 3 1 ov out.length (out.map (Value.int .i64))
  fre : ∀ g, ov.ownBlock = some g → own g = none
  new : ∀ g, ov.ownBlock = some g → B ≤ g
theorem owns_keep {w w' : World} {base : Nat} {v : Value} {e : TypeId} {size k : Nat} {xs : List Value} (h : w.ownsRow base e size v k xs) (hb : ∀ g, v.ownBlock = some g → w'.heap[g]? = w.heap[g]?) : w'.ownsRow base e size v k xs := by
  obtain ⟨h1, h2⟩ := h
  refine ⟨h1, h2.imp id ?_⟩
  rintro ⟨g, cap, cur, rfl, hb1, hg, r⟩
  exact ⟨g, cap, cur, rfl, hb1, (hb g rfl).trans hg, r⟩
theorem Out.keep {B : Nat} {ov : Value} {out : List Int} {w' : World} (h : Out lo B w own ov out) (hb : ∀ g, ov.ownBlock = some g → w'.heap[g]? = w.heap[g]?) : Out lo B w' own ov out := ⟨owns_keep h.row hb, h.fre, h.new⟩
theorem Out.set {B : Nat} {ov : Value} {out : List Int} (h : Out lo B w own ov out) {g m : Nat} {T : Tg} (hg : own g = some T) (v : Value) : Out lo B (w.setCell ⟨g, m, none⟩ v) own ov out :=
  h.keep fun k hk => by
    rw [Below.heap_setCell]
    rintro rfl
    rw [h.fre _ hk] at hg
    cases hg
theorem Out.frm {B : Nat} {ov : Value} {out : List Int} {w' : World} (h : Out lo B w own ov out) (hF : Frm own own w w') : Out lo B w' own ov out :=
  h.keep fun k hk => hF.keep k (h.row.lt k hk).2 (h.fre k hk)
theorem Out.drewN {B : Nat} {ov : Value} {out : List Int} (h : Out lo B w own ov out) (q : Nat) : Out lo B (w.drewN q) own ov out := h.keep fun _ _ => rfl
theorem Out.form {B : Nat} {ov : Value} {out : List Int} (h : Out lo B w own ov out) (h0 : out ≠ []) : ∃ g cap, ov = .slice (some ⟨g, 0, none⟩) out.length cap ∧ out.length ≤ cap ∧ g < w.heap.size ∧ own g = none ∧ B ≤ g ∧ ∀ (k : Nat) (x : Int), out[k]? = some x → w.cell? ⟨g, k, none⟩ = some (.int .i64 x) ∧ w.frozen? ⟨g, k, none⟩ = false := by
  rcases h.row.2 with ⟨_, e2⟩ | ⟨g, cap, cur, e1, _, hg, hc, _⟩
  · exact absurd (List.eq_nil_of_length_eq_zero e2) h0
  · have hr := h.row
    rw [e1] at hr
    refine ⟨g, cap, e1, hc, (Array.getElem?_eq_some_iff.1 hg).1, h.fre g (by rw [e1]; rfl), h.new g (by rw [e1]; rfl), fun k x hk => ?_⟩
    have hlt := len_of hk
    refine ⟨?_, hr.frozenAt k⟩
    rw [hr.cellAt k (by omega), List.getElem?_map, hk]
    rfl
/-- a number of the row is turned -/
theorem Out.put {B : Nat} {g k cap : Nat} {out : List Int} (h : Out lo B w own (.slice (some ⟨g, 0, none⟩) k cap) out) (m : Nat) (x : Int) : Out lo B (w.setCell ⟨g, m, none⟩ (.int .i64 x)) own (.slice (some ⟨g, 0, none⟩) k cap) (out.set m x) := by
  have hk : k = out.length := by
    rcases h.row.2 with ⟨e, _⟩ | ⟨g', cap', cur, e, _⟩
    · cases e
    · cases e; rfl
  subst hk
  refine ⟨?_, h.fre, h.new⟩
  have := (h.row.stored m (.int .i64 x)).1
  rw [List.length_set, List.map_set]
  exact this
theorem Rep.foreign (h : Sol lo w own rv S) {g m : Nat} (hg : own g = none) (v : Value) : Sol lo (w.setCell ⟨g, m, none⟩ v) own rv S :=
  h.same (by rw [World.size_setCell]; exact Nat.le_refl _) fun k t e => by
    rw [Below.heap_setCell]
    rintro rfl
    rw [hg] at e
    cases e
theorem Frm.foreign {τ : Type} {a b : Nat → Option τ} {u v : World} (h : Frm a b u v) {g m : Nat} (hg : u.heap.size ≤ g) (x : Value) : Frm a b u (v.setCell ⟨g, m, none⟩ x) :=
  ⟨h.os, h.tape, h.output, by rw [World.size_setCell]; exact h.size, h.lab, fun i hi e => by
    rw [Below.heap_setCell _ _ _ _ (show i ≠ g by omega)]
    exact h.keep i hi e⟩
/-- the row grows -/
theorem Out.grow {B : Nat} {ov v' : Value} {out : List Int} {w1 : World} {x : Int} (h : Out lo B w own ov out) (hs : Sol lo w own rv S) (q1 : w1.ownsRow lo 3 1 v' (out.length + 1) (out.map (Value.int .i64) ++ [.int .i64 x])) (q2 : w.grownBy w1 ov.ownBlock) (q3 : ∃ g, v'.ownBlock = some g ∧ (ov.ownBlock = some g ∨ w.heap.size ≤ g))
    {own0 : Nat → Option Tg} {w0 : World} (hF : Frm own0 own w0 w) (hB : w0.heap.size ≤ B) (hBw : B ≤ w.heap.size) : Out lo B w1 own v' (out ++ [x]) ∧ Sol lo w1 own rv S ∧ Frm own0 own w0 w1 := by
  obtain ⟨g, hg, hl⟩ := q3
  have hgn : own g = none ∧ B ≤ g := by
    rcases hl with e | e
    · exact ⟨h.fre g e, h.new g e⟩
    · refine ⟨?_, by omega⟩
      cases ho : own g with
      | none => rfl
      | some t => have := (hs.dom g t ho).2; omega
  refine ⟨⟨?_, fun k hk => ?_, fun k hk => ?_⟩, ?_, ?_⟩
  · rw [List.length_append, List.length_singleton, List.map_append, List.map_singleton]; exact q1
  · rw [hg] at hk; cases hk; exact hgn.1
  · rw [hg] at hk; cases hk; exact hgn.2
  · exact hs.same q2.size fun k t e => q2.block k (hs.dom k t e).2 fun e2 => by
      rw [h.fre k e2.symm] at e; cases e
  · refine ⟨q2.os.trans hF.os, q2.tape.trans hF.tape, q2.output.trans hF.output, Nat.le_trans hF.size q2.size, hF.lab, fun k hk e => (q2.block k (Nat.lt_of_lt_of_le hk hF.size) fun e2 => ?_).trans (hF.keep k hk e)⟩
    have := h.new k e2.symm
    omega
theorem Out.alloc {B : Nat} {ov : Value} {out : List Int} (h : Out lo B w own ov out) (o : Obj) : Out lo B (w.alloc o) own ov out := h.keep fun k hk => Below.heap_alloc _ _ _ (h.row.lt k hk).2
/-- 'seen' is written -/
theorem Rep.putSeen (h : Sol lo w own rv S) {own0 : Nat → Option Tg} {w0 : World} (hF : Frm own0 own w0 w) {g k c i : Nat} (hv : rv .seen = .slice (some ⟨g, 0, none⟩) k c) (hi : i < S.seen.length) (x : Bool) : Sol lo (w.setCell ⟨g, i, none⟩ (.bool x)) own rv { S with seen := S.seen.set i x } ∧ Frm own0 own w0 (w.setCell ⟨g, i, none⟩ (.bool x)) :=
  h.wr (T := .seen) (g := g) (m := i) (a := vb x) (by rw [hv]; rfl) (by show i < (S.seen.map _).length; rw [List.length_map]; exact hi) (by rw [mem_seen_, List.map_set]; rfl) rfl hF
theorem seen_wf (wf : WF n S) (i : Nat) (x : Bool) : WF n { S with seen := S.seen.set i x } :=
  ⟨⟨wf.ord.big, wf.ord.sc, wf.ord.pl, wf.ord.ov, wf.ord.ovl⟩, wf.vals, wf.lev, wf.rea, wf.sav, by show (S.seen.set _ _).length = n; rw [List.length_set]; exact wf.seen, wf.watch, wf.bump, wf.scp⟩
/-- what learning does not turn -/
structure SameL (S S' : Sz) : Prop where
  cls : S'.cls = S.cls
  tr : S'.tr = S.tr
  st : S'.st = S.st
  lev : S'.lev = S.lev
  rea : S'.rea = S.rea
theorem SameL.refl (S : Sz) : SameL S S := ⟨rfl, rfl, rfl, rfl, rfl⟩
theorem SameL.trans {a b c : Sz} (h : SameL a b) (k : SameL b c) : SameL a c := ⟨k.cls.trans h.cls, k.tr.trans h.tr, k.st.trans h.st, k.lev.trans h.lev, k.rea.trans h.rea⟩
theorem raise_sameL {v : Nat} {S' : Sz} (h : raiseO S v = some S') : SameL S S' ∧ S'.seen = S.seen := by
  unfold raiseO at h
  obtain ⟨s, hs, h⟩ := Option.bind_eq_some_iff.1 h
  obtain ⟨p, hp, h⟩ := Option.bind_eq_some_iff.1 h
  have e0 : SameL S (raiseS S v s) ∧ (raiseS S v s).seen = S.seen := by unfold raiseS; split <;> exact ⟨⟨rfl, rfl, rfl, rfl, rfl⟩, rfl⟩
  split at h
  · split at h
    · cases h
      have e := fix_same (raiseS S v s) p.toNat
      unfold SameO at e
      refine ⟨e0.1.trans ⟨?_, ?_, ?_, ?_, ?_⟩, ?_⟩
      · rw [e]
      · rw [e]
      · rw [e]
      · rw [e]
      · rw [e]
      · rw [e]; exact e0.2
    · cases h
  · cases h; exact e0
end Go.Proofs.Ytkpppmldbhgcgaa
/- Sat: what a conflict teaches (learn): what its plain functions say, step by step. -/
set_option autoImplicit false
set_option linter.unusedVariables false
set_option linter.unusedSimpArgs false
namespace Go.Proofs.Ytkpppmldbhgcgaa
open Go Go.RowKit
variable {lo n : Nat} {w : World} {own : Nat → Option Tg} {rv : Tg → Value} {S : Sz}
theorem learnL_eq {l first op : Int} {ls out : List Int} {res : Sz × List Int × Int} (h : learnL (l :: ls) S first out op = some res) : (l = first → learnL ls S first out op = some res) ∧ (l ≠ first → ∃ s d, S.seen[l.natAbs]? = some s ∧ S.lev[l.natAbs]? = some d ∧ (s = true → learnL ls S first out op = some res) ∧ (s = false → d = 0 → learnL ls S first out op = some res) ∧
    (s = false → d ≠ 0 → ∃ S1, raiseO { S with seen := S.seen.set l.natAbs true } l.natAbs = some S1 ∧ (d = S.st.length → op < 100000000 ∧ learnL ls S1 first out (op + 1) = some res) ∧ (d ≠ S.st.length → out.length < 100000000 ∧ learnL ls S1 first (out ++ [l]) op = some res))) := by
  unfold learnL at h
  refine ⟨fun h1 => ?_, fun h1 => ?_⟩
  · rw [if_pos h1] at h; exact h
  · rw [if_neg h1] at h
    obtain ⟨s, hs, h⟩ := Option.bind_eq_some_iff.1 h
    obtain ⟨d, hd, h⟩ := Option.bind_eq_some_iff.1 h
    refine ⟨s, d, hs, hd, fun h2 => ?_, fun h2 h3 => ?_, fun h2 h3 => ?_⟩
    · rw [h2] at h; exact h
    · rw [h2, h3] at h; exact h
    · rw [if_neg (by rw [h2]; simp [h3])] at h
      obtain ⟨S1, hS1, h⟩ := Option.bind_eq_some_iff.1 h
      refine ⟨S1, hS1, fun h4 => ?_, fun h4 => ?_⟩
      · rw [if_pos h4] at h
        split at h
        · rename_i hr
          unfold roomy at hr
          have := of_decide_eq_true hr
          exact ⟨by omega, h⟩
        · cases h
      · rw [if_neg h4] at h
        split at h
        · rename_i hr
          unfold roomy at hr
          exact ⟨of_decide_eq_true hr, h⟩
        · cases h
theorem learnL_same : ∀ (ls : List Int) {S : Sz} {first op : Int} {out : List Int} {res : Sz × List Int × Int}, WF n S → learnL ls S first out op = some res → SameL S res.1 ∧ WF n res.1
  | [], S, first, op, out, res, wf, h => by cases h; exact ⟨SameL.refl _, wf⟩
  | l :: ls, S, first, op, out, res, wf, h => by
    obtain ⟨h1, h2⟩ := learnL_eq h
    by_cases h0 : l = first
    · exact learnL_same ls wf (h1 h0)
    · obtain ⟨s, d, hs, hd, t1, t2, t3⟩ := h2 h0
      cases s with
      | true => exact learnL_same ls wf (t1 rfl)
      | false =>
        by_cases hd0 : d = 0
        · exact learnL_same ls wf (t2 rfl hd0)
        · obtain ⟨S1, hS1, u1, u2⟩ := t3 rfl hd0
          have wf0 := seen_wf wf l.natAbs true
          have e1 := (raise_sameL hS1).1
          have e0 : SameL S S1 := (show SameL S { S with seen := S.seen.set l.natAbs true } from ⟨rfl, rfl, rfl, rfl, rfl⟩).trans e1
          have wf1 := raiseO_wf wf0 hS1
          by_cases hl : d = S.st.length
          · have := learnL_same ls wf1 (u1 hl).2
            exact ⟨e0.trans this.1, this.2⟩
          · have := learnL_same ls wf1 (u2 hl).2
            exact ⟨e0.trans this.1, this.2⟩
theorem scan_eq {k : Nat} {q : Nat × Int} (h : scanO S k = some q) : ∃ k' x s, k = k' + 1 ∧ S.tr[k']? = some x ∧ S.seen[x.natAbs]? = some s ∧ (s = true → q = (k', x)) ∧ (s = false → scanO S k' = some q) := by
  cases k with
  | zero => cases h
  | succ k =>
    unfold scanO at h
    obtain ⟨x, hx, h⟩ := Option.bind_eq_some_iff.1 h
    obtain ⟨s, hs, h⟩ := Option.bind_eq_some_iff.1 h
    refine ⟨k, x, s, rfl, hx, hs, fun h1 => ?_, fun h1 => ?_⟩
    · rw [if_pos h1] at h; exact (Option.some.inj h).symm
    · rw [if_neg (by rw [h1]; decide)] at h; exact h
theorem scan_end : ∀ (k : Nat) {q : Nat × Int}, scanO S k = some q → S.tr[q.1]? = some q.2 ∧ S.seen[q.2.natAbs]? = some true
  | 0, q, h => by cases h
  | k + 1, q, h => by
    obtain ⟨k', x, s, e, hx, hs, h1, h2⟩ := scan_eq h
    cases e
    cases s with
    | true => rw [h1 rfl]; exact ⟨hx, hs⟩
    | false => exact scan_end k (h2 rfl)
theorem learnF_eq {f : Nat} {c e : Nat} {first op : Int} {out : List Int} {res : Sz × List Int × Int} (h : learnF f S c first out op e = some res) : ∃ f' z r q, f = f' + 1 ∧ S.cls[c]? = some z ∧ -1000000000 ≤ z.use ∧ z.use ≤ 1000000000 ∧ z.lits.length < 100000000 ∧ learnL z.lits { S with cls := S.cls.set c { z with use := z.use + 1 } } first out op = some r ∧ (0 < r.2.2 ∧ r.2.2 ≤ 1000000000) ∧ scanO r.1 e = some q ∧
    (r.2.2 = 1 → res = ({ r.1 with seen := r.1.seen.set q.2.natAbs false }, r.2.1, q.2)) ∧ (r.2.2 ≠ 1 → ∃ c1, r.1.rea[q.2.natAbs]? = some (some c1) ∧ learnF f' { r.1 with seen := r.1.seen.set q.2.natAbs false } c1 q.2 r.2.1 (r.2.2 - 1) q.1 = some res) := by
  cases f with
  | zero => cases h
  | succ f =>
    unfold learnF at h
    obtain ⟨z, hz, h⟩ := Option.bind_eq_some_iff.1 h
    split at h
    · rename_i hu
      obtain ⟨r, hr, h⟩ := Option.bind_eq_some_iff.1 h
      split at h
      · rename_i h0
        obtain ⟨q, hq, h⟩ := Option.bind_eq_some_iff.1 h
        refine ⟨f, z, r, q, rfl, hz, hu.1, hu.2.1, (by have := hu.2.2; unfold roomy at this; exact of_decide_eq_true this), hr, h0, hq, fun h1 => ?_, fun h1 => ?_⟩
        · simp only [if_pos (show r.2.2 - 1 = 0 by omega)] at h
          exact (Option.some.inj h).symm
        · simp only [if_neg (show ¬ r.2.2 - 1 = 0 by omega)] at h
          obtain ⟨c1, hc1, h⟩ := Option.bind_eq_some_iff.1 h
          obtain ⟨x, hx, hc1⟩ := Option.bind_eq_some_iff.1 hc1
          subst hc1
          exact ⟨c1, hx, h⟩
      · cases h
    · cases h
theorem use_wf (wf : WF n S) (c : Nat) (z : Cz) : WF n { S with cls := S.cls.set c z } :=
  ⟨⟨wf.ord.big, wf.ord.sc, wf.ord.pl, wf.ord.ov, wf.ord.ovl⟩, wf.vals, wf.lev, wf.rea, wf.sav, wf.seen, wf.watch, wf.bump, wf.scp⟩
/-- a clause's use is written -/
theorem Rep.putUse (h : Sol lo w own rv S) {own0 : Nat → Option Tg} {w0 : World} (hF : Frm own0 own w0 w) {c cb : Nat} {z : Cz} (hz : S.cls[c]? = some z) (hcb : rv (.cl c) = .pointer (some ⟨cb, 0, none⟩)) (x : Int) : Sol lo (w.setCell ⟨cb, 3, none⟩ (.int .i64 x)) own rv { S with cls := S.cls.set c { z with use := x } } ∧ Frm own0 own w0 (w.setCell ⟨cb, 3, none⟩ (.int .i64 x)) :=
  h.wr (T := .cl c) (g := cb) (m := 3) (a := vi x) (by rw [hcb]; rfl) (by rw [mem_cls hz]; show 3 < 4; omega) (by rw [mem_cl_ S c z { z with use := x } hz rfl, mem_cls hz]; rfl) (mem_n _ _ (by intro e; cases e)) hF
theorem lev_eq {l lv : Int} {ls : List Int} {i sec : Nat} {q : Sz × Int × Nat} (h : levL (l :: ls) S i lv sec = some q) : ∃ s d, S.seen[l.natAbs]? = some s ∧ S.lev[l.natAbs]? = some d ∧ (lv < d → levL ls { S with seen := S.seen.set l.natAbs false } (i + 1) d (i + 1) = some q) ∧ (¬ lv < d → levL ls { S with seen := S.seen.set l.natAbs false } (i + 1) lv sec = some q) := by
  unfold levL at h
  obtain ⟨s, hs, h⟩ := Option.bind_eq_some_iff.1 h
  obtain ⟨d, hd, h⟩ := Option.bind_eq_some_iff.1 h
  dsimp only at h
  refine ⟨s, d, hs, hd, fun h1 => ?_, fun h1 => ?_⟩
  · rw [if_pos h1] at h; exact h
  · rw [if_neg h1] at h; exact h
end Go.Proofs.Ytkpppmldbhgcgaa
/- Sat: back to a level (back), walked. -/
set_option autoImplicit false
set_option linter.unusedVariables false
set_option linter.unusedSimpArgs false
namespace Go.Proofs.Ytkpppmldbhgcgaa
open Go Go.RowKit
variable {lo n : Nat} {w : World} {own : Nat → Option Tg} {rv : Tg → Value} {S : Sz}
theorem Rep.headN (h : Sol lo w own rv S) {T : Tg} {b m : Nat} (hb : rv .x = .pointer (some ⟨b, 0, none⟩)) (hT : kd.row T = true) (hm : (xcs S)[m]? = some (AC.ref T)) (hk : (mem S T).n = n) (h0 : 0 < n) : ∃ g c, HeadAt w own rv T .x b m n (some ⟨g, 0, none⟩) c ∧ own g = some T := by
  obtain ⟨a, c, H⟩ := h.headX (T := T) (m := m) hb hT hm hk
  obtain ⟨g, rfl, hg, _⟩ := H.at_ h0
  exact ⟨g, c, H, hg⟩
theorem back_facts (h : Sol lo w own rv S) (wf : WF n S) {own0 : Nat → Option Tg} {w0 : World} (hF : Frm own0 own w0 w) {b : Nat} (hb : rv .x = .pointer (some ⟨b, 0, none⟩)) {l : Int} {v : Nat} (hlv : l.natAbs = v) {S' : Sz} (hf : backV S l = some S') :
    ∃ gs cs gv cv gr cr gp cp x9 y X p, v < n ∧ (n ≤ cs ∧ n ≤ cv ∧ n ≤ cr ∧ n ≤ cp) ∧ (w.cell? ⟨b, 9, none⟩ = some (.slice (some ⟨gs, 0, none⟩) n cs) ∧ w.cell? ⟨gs, v, none⟩ = some x9 ∧ w.frozen? ⟨gs, v, none⟩ = false) ∧
      ∀ w1, w1 = w.setCell ⟨gs, v, none⟩ (.bool (decide (0 < l))) → (w1.cell? ⟨b, 6, none⟩ = some (.slice (some ⟨gv, 0, none⟩) n cv) ∧ w1.cell? ⟨b, 8, none⟩ = some (.slice (some ⟨gr, 0, none⟩) n cr) ∧ w1.cell? ⟨gv, v, none⟩ = some (.int .i8 y) ∧ w1.frozen? ⟨gv, v, none⟩ = false ∧ w1.cell? ⟨gr, v, none⟩ = some X ∧ w1.frozen? ⟨gr, v, none⟩ = false ∧ gv ≠ gr ∧ (w1.setCell ⟨gv, v, none⟩ (.int .i8 0)).cell? ⟨gr, v, none⟩ = some X ∧ (w1.setCell ⟨gv, v, none⟩ (.int .i8 0)).frozen? ⟨gr, v, none⟩ = false) ∧
      ∀ w2, w2 = ((w1.setCell ⟨gv, v, none⟩ (.int .i8 0)).setCell ⟨gr, v, none⟩ (.pointer none)).drew → (w2.cell? ⟨b, 1, none⟩ = some (.slice (some ⟨gp, 0, none⟩) n cp) ∧ w2.cell? ⟨gp, v, none⟩ = some (.int .i64 p)) ∧
        (¬ p < 0 → Sol lo w2 own rv S' ∧ Frm own0 own w0 w2) ∧ (p < 0 → Calls Try.prog 24 #[.iface 69 (.pointer (some ⟨b, 0, none⟩)), .iface 3 (.int .i64 v)] w2 fun e w' => e = .returned (.tuple #[]) ∧ ∃ own' v', Sol lo w' own' (upd rv .ov v') S' ∧ Frm own0 own' w0 w') := by
  obtain ⟨y, p, hy, hp, f1, f2⟩ := backV_eq hf
  subst hlv
  have hvn : l.natAbs < n := by have := len_of hy; rw [wf.vals.1] at this; exact this
  have h0 : 0 < n := by omega
  obtain ⟨gs, cs, H9, q9⟩ := h.headN (T := .sav) (m := 9) (n := n) hb rfl rfl (by show (S.sav.map _).length = n; rw [List.length_map]; exact wf.sav) h0
  obtain ⟨gv, cv, H6, q6⟩ := h.headN (T := .vals) (m := 6) (n := n) hb rfl rfl (by show (S.vals.map _).length = n; rw [List.length_map]; exact wf.vals.1) h0
  obtain ⟨gr, cr, H8, q8⟩ := h.headN (T := .rea) (m := 8) (n := n) hb rfl rfl (by show (S.rea.map _).length = n; rw [List.length_map]; exact wf.rea) h0
  obtain ⟨gp, cp, H1, q1⟩ := h.headN (T := .pl) (m := 1) (n := n) hb rfl rfl (by show (S.pl.map _).length = n; rw [List.length_map]; exact wf.ord.pl) h0
  obtain ⟨e1, e2⟩ := h.hcell H9.val (map_get (f := vb) (list_get false (by rw [wf.sav]; exact hvn)))
  have hrea := list_get none (l := S.rea) (i := l.natAbs) (by rw [wf.rea]; exact hvn)
  refine ⟨gs, cs, gv, cv, gr, cr, gp, cp, _, y, conc rv (pro (S.rea.getD l.natAbs none)), p, hvn, ⟨H9.le, H6.le, H8.le, H1.le⟩, ⟨H9.cell, e1, e2⟩, fun w1 hw1 => ?_⟩
  have s1 := h.wr (T := .sav) (g := gs) (m := l.natAbs) (a := vb (decide (0 < l))) (S' := { S with sav := S.sav.set l.natAbs (decide (0 < l)) }) (by rw [H9.val]; rfl) (by show _ < (S.sav.map _).length; rw [List.length_map, wf.sav]; exact hvn) (by rw [mem_sav_, List.map_set]; rfl) rfl hF
  rw [show conc rv (vb (decide (0 < l))) = .bool (decide (0 < l)) from rfl, ← hw1] at s1
  have c6 := (s1.1.fld hb (m := 6) rfl).1
  rw [show conc rv (AC.ref Tg.vals) = _ from H6.val] at c6
  have c8 := (s1.1.fld hb (m := 8) rfl).1
  rw [show conc rv (AC.ref Tg.rea) = _ from H8.val] at c8
  obtain ⟨e3, e4⟩ := s1.1.hcell H6.val (u := .val (.int .i8 y)) (map_get hy)
  obtain ⟨e5, e6⟩ := s1.1.hcell H8.val (map_get (f := pro) hrea)
  have hne : gv ≠ gr := apart q6 q8 (by intro e; cases e)
  refine ⟨⟨c6, c8, e3, e4, e5, e6, hne, ?_, ?_⟩, fun w2 hw2 => ?_⟩
  · rw [World.cell?_setCell_other _ ⟨gv, _, none⟩ ⟨gr, _, none⟩ _ (by intro e; injection e; omega)]; exact e5
  · rw [World.frozen?_setCell]; exact e6
  have s2 := s1.1.wr (T := .vals) (g := gv) (m := l.natAbs) (a := .val (.int .i8 0)) (S' := { S with sav := S.sav.set l.natAbs (decide (0 < l)), vals := S.vals.set l.natAbs 0 }) (by rw [H6.val]; rfl) (by show _ < (S.vals.map _).length; rw [List.length_map, wf.vals.1]; exact hvn) (by rw [mem_vals_ { S with sav := S.sav.set l.natAbs (decide (0 < l)) }, List.map_set]; rfl) rfl s1.2
  have s3 := s2.1.wr (T := .rea) (g := gr) (m := l.natAbs) (a := pro none) (S' := backS S l) (by rw [H8.val]; rfl) (by show _ < (S.rea.map _).length; rw [List.length_map, wf.rea]; exact hvn) (by unfold backS; rw [mem_rea_ { S with sav := S.sav.set l.natAbs (decide (0 < l)), vals := S.vals.set l.natAbs 0 }, List.map_set]; rfl) rfl s2.2
  have hB : Sol lo w2 own rv (backS S l) := by rw [hw2]; exact s3.1.drew
  have hFB : Frm own0 own w0 w2 := by rw [hw2]; exact s3.2.drew
  have c1 := (hB.fld hb (m := 1) rfl).1
  rw [show conc rv (AC.ref Tg.pl) = _ from H1.val] at c1
  refine ⟨⟨c1, (hB.hcell H1.val (u := vi p) (map_get hp)).1⟩, fun hp0 => ?_, fun hp0 => ?_⟩
  · rw [f2 hp0]; exact ⟨hB, hFB⟩
  · have hpu := f1 hp0
    obtain ⟨wf2, hs2, hv2, hl2⟩ := hpushO_wf (backS_wf wf l) hpu
    have := hpush_walk hB (backS_wf wf l).ord l.natAbs hv2 hl2
    rw [hb] at this
    refine this.mono ?_
    rintro e w' ⟨p1, own', v', p2, p3⟩
    unfold hpushO at hpu
    split at hpu
    · cases hpu
      exact ⟨p1, own', v', p2, hFB.trans p3⟩
    · cases hpu
theorem backL_tr : ∀ (ls : List Int) {S S' : Sz}, WF n S → backL ls S = some S' → S'.tr = S.tr ∧ S'.st = S.st ∧ S'.cls = S.cls ∧ WF n S'
  | [], S, S', wf, h => by cases h; exact ⟨rfl, rfl, rfl, wf⟩
  | l :: r, S, S', wf, h => by
    obtain ⟨S1, h1, h2⟩ := Option.bind_eq_some_iff.1 h
    obtain ⟨wf1, hs⟩ := backV_wf wf h1
    obtain ⟨e1, e2, e3, e4⟩ := backL_tr r wf1 h2
    have e : S1 = { backS S l with ov := S1.ov, pl := S1.pl } := hs
    exact ⟨e1.trans (by rw [e]; rfl), e2.trans (by rw [e]; rfl), e3.trans (by rw [e]; rfl), e4⟩
theorem backV_tr {l : Int} {S' : Sz} (wf : WF n S) (h : backV S l = some S') : S'.tr = S.tr ∧ S'.st = S.st ∧ S'.cls = S.cls := by
  obtain ⟨wf1, hs⟩ := backV_wf wf h
  have e : S' = { backS S l with ov := S'.ov, pl := S'.pl } := hs
  exact ⟨by rw [e]; rfl, by rw [e]; rfl, by rw [e]; rfl⟩
end Go.Proofs.Ytkpppmldbhgcgaa

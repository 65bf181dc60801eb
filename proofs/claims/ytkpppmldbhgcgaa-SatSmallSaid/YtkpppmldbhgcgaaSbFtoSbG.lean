/- Sat: a clause is put (put). -/
import Derived.Test.YtkpppmldbhgcgaaSbE
import Derived.Test.YtkpppmldbhgcgaaSbD
import Derived.BigRegion
set_option linter.unusedVariables false
set_option linter.unusedSimpArgs false
set_option autoImplicit false
set_option linter.unusedVariables false
set_option linter.unusedSimpArgs false
namespace Go.Proofs.Ytkpppmldbhgcgaa
open Go Go.RowKit
variable {lo n : Nat} {w : World} {own : Nat → Option Tg} {rv : Tg → Value} {S : Sz}
theorem addO_len {S S' : Sz} {l : Int} {c : Nat} (h : addO S l c = some S') : S'.cls = S.cls ∧ S'.watch.length = S.watch.length := by
  unfold addO at h
  obtain ⟨z, _, h⟩ := Option.bind_eq_some_iff.1 h
  obtain ⟨ws, _, h⟩ := Option.bind_eq_some_iff.1 h
  split at h
  · cases h; exact ⟨rfl, by show (S.watch.set _ _).length = _; rw [List.length_set]⟩
  · cases h
theorem addO_wf (wf : WF n S) {S' : Sz} {l : Int} {c : Nat} (h : addO S l c = some S') : WF n S' := by
  unfold addO at h
  obtain ⟨z, _, h⟩ := Option.bind_eq_some_iff.1 h
  obtain ⟨ws, _, h⟩ := Option.bind_eq_some_iff.1 h
  split at h
  · cases h
    exact ⟨⟨wf.ord.big, wf.ord.sc, wf.ord.pl, wf.ord.ov, wf.ord.ovl⟩, wf.vals, wf.lev, wf.rea, wf.sav, wf.seen, by show (S.watch.set _ _).length = _; rw [List.length_set]; exact wf.watch, wf.bump, wf.scp⟩
  · cases h
/-- a label of the watched rows, or of all clauses -/
def isW : Tg → Bool
  | .wr _ => true
  | .all => true
  | _ => false
set_option maxHeartbeats 16000000 in
set_option maxRecDepth 1000000 in
theorem put_walk (h : Sol lo w own rv S) (wf : WF n S) {c : Nat} {S' : Sz} (hf : putO S c = some S') :
    Calls Try.prog 30 #[rv .x, rv (.cl c)] w fun e w' => e = .returned (.tuple #[]) ∧ ∃ own' rv', Sol lo w' own' rv' S' ∧ Frm own own' w w' ∧ ∀ t, isW t = false → rv' t = rv t := by
  obtain ⟨i0, hi0, hz0, hz1, hz2⟩ := info_parts' info76
  obtain ⟨b, hb, hlx, hlob, hbw⟩ := h.xb
  unfold putO at hf
  obtain ⟨z, hz, hf⟩ := Option.bind_eq_some_iff.1 hf
  obtain ⟨a, ha, hf⟩ := Option.bind_eq_some_iff.1 hf
  obtain ⟨a', ha', hf⟩ := Option.bind_eq_some_iff.1 hf
  split at hf
  case isFalse => cases hf
  rename_i hroom
  have hroom : S.all.length < 100000000 := by unfold roomy at hroom; exact of_decide_eq_true hroom
  obtain ⟨S1, hS1, hS2⟩ := Option.bind_eq_some_iff.1 hf
  clear hf
  obtain ⟨cb, hcb, hlc, _, _⟩ := h.clb hz
  obtain ⟨T, hT⟩ : ∃ T, S.all.length = T := ⟨_, rfl⟩
  obtain ⟨a4, c4, H4⟩ := h.headX (T := .all) (m := 4) (k := T) hb rfl rfl (by show (S.all.map _).length = T; rw [List.length_map]; exact hT)
  have P := h.pushX (Frm.refl own w) (T := .all) (m := 4) hb rfl rfl rfl rfl H4 (by show (S.all.map _).length = T; rw [List.length_map]; exact hT) (pr c) (by intro e; cases e) (S' := { S with all := S.all ++ [c] }) (by
    rw [mem_all_, List.map_append, List.map_singleton, ← row_snoc]
    rw [← hT]
    show upd _ _ (⟨(S.all.map pr).length + 1, _⟩ : Ob Tg) = _
    rw [List.length_map]
    rfl) (.cells #[.pointer (some ⟨cb, 0, none⟩)] 76)
  rw [show conc rv (pr c) = rv (.cl c) from rfl, hcb] at P
  obtain ⟨own2, hlo2, hend⟩ := P
  have f4 := H4.cell
  have cn := cell_new w #[.pointer (some ⟨cb, 0, none⟩)] 76 (0, 0) 0
  have hbig := wf.ord.big
  -- the literals of the clause
  have hml := mem_lits hz
  have hll : 2 ≤ z.lits.length := len_of ha'
  obtain ⟨L, hL⟩ : ∃ L, z.lits.length = L := ⟨_, rfl⟩
  rw [hL] at hll
  have hnl : (mem S (.lits c)).n = L := by rw [hml]; show (z.lits.map vi).length = L; rw [List.length_map]; exact hL
  -- what holds in a round
  obtain ⟨sel, hsel⟩ : ∃ sel : Nat → Sz, sel = fun i => if i = 0 then { S with all := S.all ++ [c] } else if i = 1 then S1 else S' := ⟨_, rfl⟩
  have wfS0 : WF n { S with all := S.all ++ [c] } := ⟨⟨wf.ord.big, wf.ord.sc, wf.ord.pl, wf.ord.ov, wf.ord.ovl⟩, wf.vals, wf.lev, wf.rea, wf.sav, wf.seen, wf.watch, wf.bump, wf.scp⟩
  have wfS1 := addO_wf wfS0 hS1
  have hadd : ∀ i, i < 2 → addO (sel i) (if i = 0 then a else a') c = some (sel (i + 1)) := by
    intro i hi
    rw [hsel]
    match i, hi with
    | 0, _ => exact hS1
    | 1, _ => exact hS2
  have hwl : ∀ i, i < 2 → (sel i).watch.length ≤ 10000000 := by
    intro i hi
    rw [hsel]
    match i, hi with
    | 0, _ => show S.watch.length ≤ _; rw [wf.watch]; omega
    | 1, _ => show S1.watch.length ≤ _; rw [wfS1.watch]; omega
  have hcls : ∀ i, i ≤ 2 → (sel i).cls = S.cls := by
    intro i hi
    rw [hsel]
    match i, hi with
    | 0, _ => rfl
    | 1, _ => exact (addO_len hS1).1
    | 2, _ => exact (addO_len hS2).1.trans (addO_len hS1).1
  obtain ⟨al, cl, HL⟩ := h.headAt (T := .lits c) (p := .cl c) (b := cb) (m := 0) rfl (by rw [hcb]; rfl) (by rw [mem_cls hz]; rfl) (by intro e; cases e) hnl
  obtain ⟨gl, rfl, hlg, hgb⟩ := HL.at_ (by omega)
  have hcell : ∀ (i : Nat) (w1 : World) own1 rv1, i ≤ 2 → Sol lo w1 own1 rv1 (sel i) → (∀ t, isW t = false → rv1 t = rv t) → w1.cell? ⟨gl, 0, none⟩ = some (.int .i64 a) ∧ w1.cell? ⟨gl, 1, none⟩ = some (.int .i64 a') ∧ w1.cell? ⟨cb, 0, none⟩ = some (.slice (some ⟨gl, 0, none⟩) L cl) := by
    intro i w1 own1 rv1 hi hs hr
    have hz' : (sel i).cls[c]? = some z := by rw [hcls i hi]; exact hz
    have e1 : rv1 (.lits c) = .slice (some ⟨gl, 0, none⟩) L cl := (hr (.lits c) rfl).trans HL.val
    have e2 : rv1 (.cl c) = .pointer (some ⟨cb, 0, none⟩) := (hr (.cl c) rfl).trans hcb
    refine ⟨(hs.hcell e1 (u := vi a) (by rw [mem_lits hz']; exact map_get ha)).1, (hs.hcell e1 (u := vi a') (by rw [mem_lits hz']; exact map_get ha')).1, ?_⟩
    obtain ⟨b', q1, _, _, _, q2, _⟩ := hs.cell (t := .cl c) (m := 0) (u := .ref (.lits c)) (by rw [mem_cls hz']; rfl)
    rw [e2] at q1
    cases q1
    rw [q2]
    exact congrArg some e1
  have hlc2 : L ≤ cl := HL.le
  have hcall : ∀ (i : Nat) (w1 : World) own1 rv1, i < 2 → Sol lo w1 own1 rv1 (sel i) → Frm own own1 w w1 → (∀ t, isW t = false → rv1 t = rv t) → Calls Try.prog 47 #[.agg #[.pointer (some ⟨b, 0, none⟩), .int .i64 (if i = 0 then a else a')], .pointer (some ⟨cb, 0, none⟩)] w1 fun e w' => e = .returned (.tuple #[]) ∧ ∃ own2 rv2, Sol lo w' own2 rv2 (sel (i + 1)) ∧ Frm own own2 w w' ∧ ∀ t, isW t = false → rv2 t = rv t := by
    intro i w1 own1 rv1 hi hs hF hr
    have := add_walk hs (hadd i hi) (hwl i hi)
    rw [hr .x rfl, hr (.cl c) rfl, hb, hcb] at this
    refine this.mono ?_
    rintro e w' ⟨p1, own2, v', p2, p3⟩
    exact ⟨p1, own2, _, p2, hF.trans p3, fun t ht => (upd_other _ _ (by rintro rfl; cases ht)).trans (hr t ht)⟩
  have hselT : sel 2 = S' := by rw [hsel]; rfl
  have hsel0 : sel 0 = { S with all := S.all ++ [c] } := by rw [hsel]; rfl
  have hH := Hid'.mk (And.intro hcell (And.intro hcall hselT))
  rw [hb, hcb]
  rw [← hsel0] at hend
  have hlI : (2 : Int) ≤ cl := by omega
  clear hcell hcall hselT hsel0 hsel hadd hwl hcls HL H4 hml hnl wfS0 wfS1 hS1 hS2
  go_enter Try.func30, Try.ntmps30
  go_wp2_with (first | (at_builtin; refine wpList_append_told _ rfl _ _ 54 rfl lo 76 i0 (.pointer none) 1 8 Try.underlying54 hi0 hz0 hz1 hz2 rfl (by decide) _ _ _ rfl own2 ⟨w.heap.size, 0, none⟩ 1 1 [.pointer (some ⟨cb, 0, none⟩)] rfl rfl ?c1 ?c2 (by decide) ?c3 ?c4 hlo2 ?_))
  case c1 =>
    intro j u hj
    match j, hj with
    | 0, hj =>
      simp at hj
      subst hj
      rw [add_plain]
      exact cn
  case c2 => intro u hu; simp at hu; subst hu; rfl
  case c3 => unfold maxLen; omega
  case c4 => omega
  intro v' w1 hown' hgrow gg hl1 hl2
  obtain ⟨⟨d1, d2⟩, own', hS, hF⟩ := hend _ _ hown' hgrow ⟨gg, hl1, hl2.imp id (fun hh => by simpa using hh)⟩
  rcases hown'.2 with ⟨_, e9⟩ | ⟨g9, cap9, cur9, rfl, _⟩
  · omega
  have hr0 : ∀ t, isW t = false → upd rv .all (.slice (some ⟨g9, 0, none⟩) (T + 1) cap9) t = rv t := fun t ht => upd_other _ _ (by rintro rfl; cases ht)
  obtain ⟨q1, q2, q3⟩ := hH.h.1 0 _ _ _ (by omega) hS hr0
  clear hend hgrow hl1 hl2 hown' cn own2 hlo2 f4
  generalize hw2 : w1.setCell ⟨b, 4, none⟩ (.slice (some ⟨g9, 0, none⟩) (T + 1) cap9) = w2 at *
  go_wp2
  go_loopw [24] (fun iv wr => ∃ (i : Nat) (ow : Nat → Option Tg) (rv1 : Tg → Value), iv = .int .i64 i ∧ i ≤ 2 ∧ Sol lo wr ow rv1 (sel i) ∧ Frm own ow w wr ∧ ∀ t, isW t = false → rv1 t = rv t) (fun iv _ => 2 - (intOf iv).toNat)
  case atStart => exact ⟨0, _, _, rfl, by omega, hS, hF, hr0⟩
  case round =>
    obtain ⟨i, ow, rv1, rfl, hi, hs, hf, hr⟩ := hrel
    by_cases h2 : i = 2
    · subst h2
      rw [hH.h.2.2] at hs
      go_wp2
      go_end0
      exact ⟨rfl, ow, rv1, hs, hf, hr⟩
    · have hi2 : (i : Int) < 2 := by omega
      have hc := hH.h.2.1 i _ _ _ (by omega) hs hf hr
      obtain ⟨u1, u2, u3⟩ := hH.h.1 i _ _ _ hi hs hr
      have hu : wr.cell? ⟨gl, i, none⟩ = some (.int .i64 (if i = 0 then a else a')) := by
        match i, hi2 with
        | 0, _ => exact u1
        | 1, _ => exact u2
        | k + 2, hk => omega
      generalize (if i = 0 then a else a') = ai at hc hu
      have hiL : (i : Int) < L := by omega
      clear hS hF hr0 q1 q2 q3 hs hr hf h2 u1 u2 u3
      go_wp2_with (go_at_call 47; refine hc.mono ?_; rintro e w3 ⟨p1, ow2, rv2, p2, p3, p4⟩; rw [p1]; clear p1)
      go_roundw
      case rel => exact ⟨i + 1, ow2, rv2, by simp, by omega, p2, p3, p4⟩
      case measure => simp [intOf]; omega
end Go.Proofs.Ytkpppmldbhgcgaa
/- Sat: another literal is watched (moves). -/
set_option autoImplicit false
set_option linter.unusedVariables false
set_option linter.unusedSimpArgs false
namespace Go.Proofs.Ytkpppmldbhgcgaa
open Go Go.RowKit
variable {lo n : Nat} {w : World} {own : Nat → Option Tg} {rv : Tg → Value} {S : Sz}
theorem setLits_wf (wf : WF n S) (c : Nat) (z : Cz) (l : List Int) : WF n (setLits S c z l) :=
  ⟨⟨wf.ord.big, wf.ord.sc, wf.ord.pl, wf.ord.ov, wf.ord.ovl⟩, wf.vals, wf.lev, wf.rea, wf.sav, wf.seen, wf.watch, wf.bump, wf.scp⟩
/-- two literals of a clause are turned round -/
theorem Rep.swapLits (h : Sol lo w own rv S) {c : Nat} {z : Cz} (hz : S.cls[c]? = some z) {g L cl i k : Nat} {x y : Int} (hv : rv (.lits c) = .slice (some ⟨g, 0, none⟩) L cl) (hx : z.lits[i]? = some x) (hy : z.lits[k]? = some y) {own0 : Nat → Option Tg} {w0 : World} (hF : Frm own0 own w0 w) :
    Sol lo ((w.setCell ⟨g, i, none⟩ (.int .i64 y)).setCell ⟨g, k, none⟩ (.int .i64 x)).drew own rv (setLits S c z (swapV z.lits i k)) ∧ Frm own0 own w0 ((w.setCell ⟨g, i, none⟩ (.int .i64 y)).setCell ⟨g, k, none⟩ (.int .i64 x)).drew := by
  have hi := len_of hx
  have hk := len_of hy
  have hcl := len_of hz
  have e1 := h.wr (T := .lits c) (g := g) (m := i) (a := vi y) (S' := setLits S c z (z.lits.set i y)) (by rw [hv]; rfl) (by rw [mem_lits hz]; show i < (z.lits.map vi).length; rw [List.length_map]; exact hi) (by rw [mem_lits hz]; unfold setLits; rw [mem_lits_ S c z _ hz, List.map_set]; rfl) (mem_n _ _ (by intro e; cases e)) hF
  have hz1 : (setLits S c z (z.lits.set i y)).cls[c]? = some { z with lits := z.lits.set i y } := by
    show (S.cls.set c _)[c]? = _
    rw [List.getElem?_set_self hcl]
  have e2 := e1.1.wr (T := .lits c) (g := g) (m := k) (a := vi x) (S' := setLits (setLits S c z (z.lits.set i y)) c { z with lits := z.lits.set i y } ((z.lits.set i y).set k x)) (by rw [hv]; rfl) (by rw [mem_lits hz1]; show k < ((z.lits.set i y).map vi).length; rw [List.length_map, List.length_set]; exact hk) (by have := mem_lits_ (setLits S c z (z.lits.set i y)) c { z with lits := z.lits.set i y } ((z.lits.set i y).set k x) hz1; rw [List.map_set] at this; rw [mem_lits hz1]; exact this) (mem_n _ _ (by intro e; cases e)) e1.2
  have hS : setLits (setLits S c z (z.lits.set i y)) c { z with lits := z.lits.set i y } ((z.lits.set i y).set k x) = setLits S c z (swapV z.lits i k) := by
    unfold setLits swapV
    simp only [List.set_set]
    rw [List.getD_eq_getElem?_getD, List.getD_eq_getElem?_getD, hx, hy]
    rfl
  rw [hS] at e2
  exact ⟨e2.1.drew, e2.2.drew⟩
theorem movesF_ge {f : Nat} {S : Sz} {c : Nat} {z : Cz} {p k : Nat} {r : Bool × Sz} (h : movesF f S c z p k = some r) : ∃ g, f = g + 1 := by
  cases f with
  | zero => cases h
  | succ g => exact ⟨g, rfl⟩
set_option maxHeartbeats 16000000 in
set_option maxRecDepth 1000000 in
theorem moves_walk (h : Sol lo w own rv S) (wf : WF n S) {c p : Nat} {r : Bool × Sz} (hf : movesO S c p = some r) :
    Calls Try.prog 49 #[rv .x, rv (.cl c)] w fun e w' => e = .returned (.bool r.1) ∧ ∃ own' rv', Sol lo w' own' rv' r.2 ∧ Frm own own' w w' ∧ rv' (.wr p) = rv (.wr p) ∧ ∀ t, isW t = false → rv' t = rv t := by
  obtain ⟨b, hb, hlx, hlob, hbw⟩ := h.xb
  unfold movesO at hf
  obtain ⟨z, hz, hf⟩ := Option.bind_eq_some_iff.1 hf
  split at hf
  case isFalse => cases hf
  rename_i hroom
  obtain ⟨hl2, hroom⟩ := hroom
  have hroom : z.lits.length < 100000000 := by unfold roomy at hroom; exact of_decide_eq_true hroom
  obtain ⟨cb, hcb, hlc, _, _⟩ := h.clb hz
  obtain ⟨L, hL⟩ : ∃ L, z.lits.length = L := ⟨_, rfl⟩
  have hml := mem_lits hz
  have hnl : (mem S (.lits c)).n = L := by rw [hml]; show (z.lits.map vi).length = L; rw [List.length_map]; exact hL
  obtain ⟨al, cl, HL⟩ := h.headAt (T := .lits c) (p := .cl c) (b := cb) (m := 0) rfl (by rw [hcb]; rfl) (by rw [mem_cls hz]; rfl) (by intro e; cases e) hnl
  rw [hL] at hf hl2 hroom
  obtain ⟨gl, rfl, hlg, hgb⟩ := HL.at_ (by omega)
  have c0 := HL.cell
  have hlc2 := HL.le
  have hbig := wf.ord.big
  have hlits : ∀ (k : Nat) (x : Int), z.lits[k]? = some x → w.cell? ⟨gl, k, none⟩ = some (.int .i64 x) ∧ w.frozen? ⟨gl, k, none⟩ = false := fun k x hk => h.hcell HL.val (u := vi x) (by rw [hml]; exact map_get hk)
  have hlit : ∀ (x v : Int), litO S x = some v → Calls Try.prog 45 #[.pointer (some ⟨b, 0, none⟩), .int .i64 x] w fun e w' => e = .returned (.int .i8 v) ∧ w' = w := fun x v hv => by
    have := litO_walk h wf hv
    rw [hb] at this
    exact this
  have hmove : ∀ (k : Nat) (x1 x : Int) (S1 : Sz), z.lits[1]? = some x1 → z.lits[k]? = some x → codeZ x ≠ p → addO (setLits S c z (swapV z.lits 1 k)) x c = some S1 →
      ((((w.setCell ⟨gl, 1, none⟩ (.int .i64 x)).setCell ⟨gl, k, none⟩ (.int .i64 x1)).drew).cell? ⟨cb, 0, none⟩ = some (.slice (some ⟨gl, 0, none⟩) L cl) ∧ (((w.setCell ⟨gl, 1, none⟩ (.int .i64 x)).setCell ⟨gl, k, none⟩ (.int .i64 x1)).drew).cell? ⟨gl, 1, none⟩ = some (.int .i64 x)) ∧
      Calls Try.prog 47 #[.agg #[.pointer (some ⟨b, 0, none⟩), .int .i64 x], .pointer (some ⟨cb, 0, none⟩)] ((w.setCell ⟨gl, 1, none⟩ (.int .i64 x)).setCell ⟨gl, k, none⟩ (.int .i64 x1)).drew fun e w' => e = .returned (.tuple #[]) ∧ ∃ own' rv', Sol lo w' own' rv' S1 ∧ Frm own own' w w' ∧ rv' (.wr p) = rv (.wr p) ∧ ∀ t, isW t = false → rv' t = rv t := by
    intro k x1 x S1 h1 hk hp ha
    have hs := h.swapLits hz HL.val h1 hk (Frm.refl own w)
    have hz1 : (setLits S c z (swapV z.lits 1 k)).cls[c]? = some { z with lits := swapV z.lits 1 k } := by
      show (S.cls.set c _)[c]? = _
      rw [List.getElem?_set_self (len_of hz)]
    have hsw : (swapV z.lits 1 k)[1]? = some x := by
      have e := swapV_get (k := 1) (len_of h1) (len_of hk)
      have hlen : 1 < (swapV z.lits 1 k).length := by unfold swapV; rw [List.length_set, List.length_set]; exact len_of h1
      rw [list_get 0 hlen, e]
      by_cases e1 : 1 = k
      · subst e1
        rw [if_pos rfl, List.getD_eq_getElem?_getD, hk]; rfl
      · rw [if_neg e1, if_pos rfl, List.getD_eq_getElem?_getD, hk]; rfl
    refine ⟨⟨?_, (hs.1.hcell HL.val (u := vi x) (by rw [mem_lits hz1]; exact map_get hsw)).1⟩, ?_⟩
    · obtain ⟨b', q1, _, _, _, q2, _⟩ := hs.1.cell (t := .cl c) (m := 0) (u := .ref (.lits c)) (by rw [mem_cls hz1]; rfl)
      rw [hcb] at q1
      cases q1
      rw [q2]
      exact congrArg some HL.val
    · have := add_walk hs.1 ha (by show S.watch.length ≤ _; rw [wf.watch]; omega)
      rw [hb, hcb] at this
      refine this.mono ?_
      rintro e w' ⟨p1, own2, v', p2, p3⟩
      exact ⟨p1, own2, _, p2, hs.2.trans p3, upd_other _ _ (by intro e; cases e; exact hp rfl), fun t ht => upd_other _ _ (by rintro rfl; cases ht)⟩
  have hself : Hid' (Sol lo w own rv S) := ⟨h⟩
  obtain ⟨x1, hx1⟩ : ∃ x1, z.lits[1]? = some x1 := ⟨_, list_get 0 (by omega)⟩
  rw [hb, hcb]
  clear h HL hml hnl wf hz hlx hlc
  go_enter Try.func49, Try.ntmps49
  go_wp2
  go_loopw [5] (fun kv wr => ∃ (k f : Nat), kv = .int .i64 k ∧ wr = w ∧ 2 ≤ k ∧ k ≤ L ∧ movesF f S c z p k = some r) (fun kv _ => L - (intOf kv).toNat)
  case atStart => exact ⟨2, _, rfl, rfl, by omega, by omega, hf⟩
  case round =>
    obtain ⟨k, f, rfl, hwr, hk2, hkL, hm⟩ := hrel
    subst hwr
    obtain ⟨f, rfl⟩ := movesF_ge hm
    unfold movesF at hm
    rw [hL] at hm
    by_cases hlt : k < L
    · rw [if_pos hlt] at hm
      obtain ⟨x, hx, hm⟩ := Option.bind_eq_some_iff.1 hm
      obtain ⟨v, hv, hm⟩ := Option.bind_eq_some_iff.1 hm
      have hval := hlit x v hv
      obtain ⟨cx, fx⟩ := hlits k x hx
      have hltI : (k : Int) < L := by omega
      by_cases hv1 : v = -1
      · rw [if_pos hv1] at hm
        subst hv1
        clear hlit hlits hmove hv hf
        go_wp2_with (go_at_call 45; refine hval.mono ?_; rintro e w2 ⟨p1, p2⟩; rw [p1, p2]; clear p1 p2)
        go_roundw
        case rel => exact ⟨k + 1, f, by simp, by first | rfl | trivial, by omega, by omega, hm⟩
        case measure => simp [intOf]; omega
      · rw [if_neg hv1] at hm
        split at hm
        · cases hm
        rename_i hp
        obtain ⟨S1, hS1, hm⟩ := Option.bind_eq_some_iff.1 hm
        cases hm
        obtain ⟨c1, f1⟩ := hlits 1 x1 hx1
        have hM := Hid'.mk (hmove k x1 x S1 hx1 hx hp hS1)
        have hne : ¬ (1 = k) := by omega
        have y1 : (wr.setCell ⟨gl, 1, none⟩ (.int .i64 x)).cell? ⟨gl, k, none⟩ = some (.int .i64 x) := by rw [World.cell?_setCell_other _ ⟨gl, 1, none⟩ ⟨gl, k, none⟩ _ (by intro e; injection e; omega)]; exact cx
        have y2 : (wr.setCell ⟨gl, 1, none⟩ (.int .i64 x)).frozen? ⟨gl, k, none⟩ = false := by rw [World.frozen?_setCell]; exact fx
        have h1L : (1 : Int) < L := by omega
        clear hlit hlits hmove hv hf hS1 hx hp
        go_wp2_with (go_at_call 45; refine hval.mono ?_; rintro e w2 ⟨p1, p2⟩; rw [p1, p2]; clear p1 p2)
        clear hval
        go_region
        obtain ⟨⟨k1, k2⟩, hM⟩ := hM.h
        generalize hW : ((wr.setCell ⟨gl, 1, none⟩ (.int .i64 x)).setCell ⟨gl, k, none⟩ (.int .i64 x1)).drew = W2 at *
        clear y1 y2 cx fx c1 f1
        go_wp2_with (go_at_call 47; refine hM.mono ?_; rintro e w3 ⟨p1, p2⟩; rw [p1]; clear p1)
        go_ret
        exact ⟨rfl, p2⟩
    · rw [if_neg hlt] at hm
      cases hm
      obtain rfl : k = L := by omega
      clear hlit hlits hmove
      go_wp2
      go_ret
      exact ⟨rfl, own, rv, hself.h, Frm.refl _ _, rfl, fun _ _ => rfl⟩
end Go.Proofs.Ytkpppmldbhgcgaa

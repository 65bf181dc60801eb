/- Sat: a clause of the formula, copied, sorted, each literal once (contracts over a row of the call's own). -/
import Derived.Test.YtkpppmldbhgcgaaScDtoSbZ2
import Derived.Test.YtkpppmldbhgcgaaShelf
import Derived.Lib.OwnBridge
import Derived.Sort.OwnSortedInts
import Derived.Sort.Grow
import Derived.Lib.SlicesCompact
set_option linter.unusedVariables false
set_option linter.unusedSimpArgs false
set_option autoImplicit false
set_option linter.unusedVariables false
set_option linter.unusedSimpArgs false
namespace Go.Proofs.Ytkpppmldbhgcgaa
open Go Go.Shelf Go.RowKit Go.Sort
variable {lo n B : Nat} {w : World} {own : Nat → Option Tg} {rv : Tg → Value} {S : Sz}
theorem grownBy_put {w : World} {g q : Nat} {d : Array Int} : w.grownBy (putRow (Value.int .i64) (Sort.ahead w q) g 0 d) (some g) := by
  refine ⟨rfl, rfl, rfl, by simp [putRow, mapBlock, Sort.ahead], fun k hk hne => ?_⟩
  have : g ≠ k := fun e => hne (by rw [e])
  simp [putRow, mapBlock, Sort.ahead, Array.getElem?_modify, this]
/-- a row of the call's own has turned, or has been made anew in its place -/
theorem Out.turn {ov v' : Value} {out out' : List Int} {w1 : World} (h : Out lo B w own ov out) (q1 : w1.ownsRow lo 3 1 v' out'.length (out'.map (Value.int .i64))) (q2 : w.grownBy w1 ov.ownBlock) (q3 : v'.ownBlock = ov.ownBlock)
    {own0 : Nat → Option Tg} {w0 : World} (hF : Frm own0 own w0 w) (hB : w0.heap.size ≤ B) : Out lo B w1 own v' out' ∧ (∀ rv S, Sol lo w own rv S → Sol lo w1 own rv S) ∧ Frm own0 own w0 w1 := by
  refine ⟨⟨q1, fun g hg => h.fre g (q3 ▸ hg), fun g hg => h.new g (q3 ▸ hg)⟩, fun rv S hs => ?_, ?_⟩
  · exact hs.same q2.size fun k t e => q2.block k (hs.dom k t e).2 fun e2 => by
      rw [h.fre k e2.symm] at e; cases e
  · refine ⟨q2.os.trans hF.os, q2.tape.trans hF.tape, q2.output.trans hF.output, Nat.le_trans hF.size q2.size, hF.lab, fun k hk e => (q2.block k (Nat.lt_of_lt_of_le hk hF.size) fun e2 => ?_).trans (hF.keep k hk e)⟩
    have := h.new k e2.symm
    omega
theorem Frm.below' {own0 : Nat → Option Tg} {w0 w' : World} (hF : Frm own0 own w0 w) (hb : Below w.heap.size w w') : Frm own0 own w0 w' :=
  ⟨hb.os.trans hF.os, hb.tape.trans hF.tape, hb.output.trans hF.output, Nat.le_trans hF.size hb.size, hF.lab, fun k hk e => (hb.block k (Nat.lt_of_lt_of_le hk hF.size)).trans (hF.keep k hk e)⟩
/-- what the copy is -/
def Copied (lo : Nat) (w0 w : World) (own0 own : Nat → Option Tg) (rv : Tg → Value) (S : Sz) (zs : List Int) (e : Ending) (w' : World) : Prop :=
  ∃ v', e = .returned v' ∧ Out lo w.heap.size w' own v' zs ∧ Sol lo w' own rv S ∧ Frm own0 own w0 w' ∧ w.heap.size ≤ w'.heap.size
theorem copied_of {v' : Value} {zs : List Int} {w' : World} (h : Sol lo w own rv S) {own0 : Nat → Option Tg} {w0 : World} (hF : Frm own0 own w0 w) (hl : lo ≤ w.heap.size) (h1 : w'.ownsRow w.heap.size 3 1 v' zs.length (zs.map (Value.int .i64))) (h2 : Below w.heap.size w w') : Copied lo w0 w own0 own rv S zs (.returned v') w' := by
  have hbase : ∀ g, v'.ownBlock = some g → w.heap.size ≤ g := fun g hg => (h1.lt g hg).1
  refine ⟨v', rfl, ⟨⟨h1.1, h1.2.imp id fun ⟨g, cap, cur, a1, a2, a3⟩ => ⟨g, cap, cur, a1, Nat.le_trans hl a2, a3⟩⟩, fun g hg => ?_, hbase⟩, h.below h2 (Nat.le_refl _), hF.below' h2, h2.size⟩
  have := hbase g hg
  cases ho : own g with
  | none => rfl
  | some t => have := (h.dom g t ho).2; omega
theorem clone_out (h : Sol lo w own rv S) {own0 : Nat → Option Tg} {w0 : World} (hF : Frm own0 own w0 w) (hl : lo ≤ w.heap.size) {a : Option Addr} {c : Nat} {zs : List Int} (hz : D.Ints w a zs) (hn : zs.length ≤ 1000000) :
    Calls Try.prog 25 #[.slice a zs.length c] w (Copied lo w0 w own0 own rv S zs) := by
  cases zs with
  | nil =>
    cases a with
    | none =>
      refine (Try.slices_Clone_int_nil 0 c w).mono ?_
      rintro e w' ⟨rfl, rfl⟩
      exact copied_of h hF hl (World.ownsRow_nil _ _ _ _) (Below.refl _ _)
    | some a =>
      refine (Try.slices_Clone_int_zero a c w).mono ?_
      rintro e w' ⟨v', rfl, h1, _, h2⟩
      exact copied_of h hF hl h1 h2
  | cons z zs =>
    obtain ⟨b, o, rfl, _, _⟩ := hz 0 (by simp)
    have hc : ∀ j, j < (z :: zs).length → w.cell? ⟨b, o + j, none⟩ = some (.int .i64 ((z :: zs).getD j 0)) := fun j hj => by
      obtain ⟨b', o', e, _, h⟩ := hz j hj
      cases e
      exact h
    refine (Try.slices_Clone_int b o (z :: zs).length c (z :: zs) w (Nat.le_refl _) (by omega) hc).mono ?_
    rintro e w' ⟨v', rfl, h1, _, h2⟩
    rw [List.take_length] at h1
    exact copied_of h hF hl h1 h2
/-- what sorting, or taking repeats away, leaves -/
def Turned (lo B : Nat) (w0 : World) (own0 own : Nat → Option Tg) (rv : Tg → Value) (S : Sz) (v' : Value) (zs : List Int) (w' : World) : Prop :=
  Out lo B w' own v' zs ∧ Sol lo w' own rv S ∧ Frm own0 own w0 w'
theorem Out.form' {ov : Value} {out : List Int} (h : Out lo B w own ov out) (hn : ov ≠ .slice none 0 0) : ∃ g cap cur, ov = .slice (some ⟨g, 0, none⟩) out.length cap ∧ lo ≤ g ∧ g < w.heap.size ∧ w.heap[g]? = some (.cells cur 3 (0, 0)) ∧ out.length ≤ cap ∧ cap ≤ maxLen ∧ cur.size = cap * 1 ∧ Holds (Value.int .i64) w g 0 out.toArray := by
  rcases h.row.2 with ⟨e, _⟩ | ⟨g, cap, cur, e, hb, hg, h1, h2, h3, h4⟩
  · exact absurd e hn
  · have hr := h.row
    rw [e] at hr
    refine ⟨g, cap, cur, e, hb, (Array.getElem?_eq_some_iff.1 hg).1, hg, h1, h2, h3, fun j hj => ?_⟩
    have hj' : j < out.length := by simpa using hj
    refine ⟨?_, by rw [Nat.zero_add]; exact hr.frozenAt j⟩
    rw [Nat.zero_add, hr.cellAt j (by omega), List.getElem?_map, List.getElem?_eq_getElem hj']
    simp [hj']
theorem sort_out (h : Sol lo w own rv S) {own0 : Nat → Option Tg} {w0 : World} (hF : Frm own0 own w0 w) (hB : w0.heap.size ≤ B) {v : Value} {zs : List Int} (hO : Out lo B w own v zs) (hn : zs.length ≤ 1000000) :
    Calls Try.prog 26 #[v] w fun e w' => e = .returned (.tuple #[]) ∧ Turned lo B w0 own0 own rv S v (sortI zs) w' := by
  by_cases hv : v = .slice none 0 0
  · subst hv
    have hz : zs = [] := by
      rcases hO.row.2 with ⟨_, e⟩ | ⟨g, cap, cur, e, _⟩
      · exact List.eq_nil_of_length_eq_zero e
      · cases e
    subst hz
    refine (Try.slices_Sort_int_none none 0 w).mono ?_
    rintro e w' ⟨rfl, rfl⟩
    exact ⟨rfl, hO, h, hF⟩
  · obtain ⟨g, cap, cur, rfl, hb, hgw, hg, h1, h2, h3, hH⟩ := hO.form' hv
    refine (Try.slices_Sort_int g 0 cap zs w hH hgw (by omega)).mono ?_
    rintro e w' ⟨rfl, nn, os, rfl⟩
    rw [← sortI_eq]
    have hl : (sortI zs).length = zs.length := (sortI_perm zs).length_eq
    have hs := ownsRow_sortedI (n := nn) (os := os) (ts := sortI zs) hl hb hg h1 h2 h3
    obtain ⟨a1, a2, a3⟩ := hO.turn (out' := sortI zs) (by rw [hl]; exact hs) (grownBy_sortedI _) rfl hF hB
    exact ⟨rfl, a1, a2 _ _ h, a3⟩
theorem compact_out (h : Sol lo w own rv S) {own0 : Nat → Option Tg} {w0 : World} (hF : Frm own0 own w0 w) (hB : w0.heap.size ≤ B) {v : Value} {zs : List Int} (hO : Out lo B w own v zs) (hn : zs.length ≤ 1000000) :
    Calls Try.prog 27 #[v] w fun e w' => ∃ v', e = .returned v' ∧ Turned lo B w0 own0 own rv S v' (Lib.compact zs) w' := by
  by_cases hv : v = .slice none 0 0
  · subst hv
    have hz : zs = [] := by
      rcases hO.row.2 with ⟨_, e⟩ | ⟨g, cap, cur, e, _⟩
      · exact List.eq_nil_of_length_eq_zero e
      · cases e
    subst hz
    refine (Try.slices_Compact_int_empty none 0 w).mono ?_
    rintro e w' ⟨rfl, rfl⟩
    exact ⟨_, rfl, hO, h, hF⟩
  · obtain ⟨g, cap, cur, rfl, hb, hgw, hg, h1, h2, h3, hH⟩ := hO.form' hv
    refine (Try.slices_Compact_int g 0 cap zs w hH (by omega) h1).mono ?_
    rintro e w' ⟨rfl, q, rfl⟩
    have hle := Lib.compact_length_le zs
    have hc := Lib.ownsRow_putRow (q := q) (k := (Lib.compact zs).length) (ys := Lib.compact zs ++ List.replicate (zs.length - (Lib.compact zs).length) 0) hO.row (by simp; omega) hle
    rw [List.take_left] at hc
    obtain ⟨a1, a2, a3⟩ := hO.turn (out' := Lib.compact zs) hc grownBy_put rfl hF hB
    exact ⟨_, rfl, a1, a2 _ _ h, a3⟩
theorem search_out {v : Value} {zs : List Int} (hO : Out lo B w own v zs) (hn : zs.length ≤ 1000000) (hs : zs.Pairwise (· ≤ ·)) (x : Int) :
    Calls Try.prog 28 #[v, .int .i64 x] w fun e w' => ∃ k : Int, e = .returned (.tuple #[.int .i64 k, .bool (zs.contains x)]) ∧ ∃ q, w' = w.drewN q := by
  by_cases hv : v = .slice none 0 0
  · subst hv
    have hz : zs = [] := by
      rcases hO.row.2 with ⟨_, e⟩ | ⟨g, cap, cur, e, _⟩
      · exact List.eq_nil_of_length_eq_zero e
      · cases e
    subst hz
    refine (Try.slices_BinarySearch_int_empty none 0 x w).mono ?_
    rintro e w' ⟨rfl, rfl⟩
    exact ⟨0, rfl, 0, rfl⟩
  · obtain ⟨g, cap, cur, rfl, hb, hgw, hg, h1, h2, h3, hH⟩ := hO.form' hv
    have := Try.slices_BinarySearch_int g 0 zs.length cap zs x w (Nat.le_refl _) (by omega) (fun j hj => by
      have := (hH j (by simpa using hj)).1
      rw [this]
      simp [hj]) (by rw [List.take_length]; exact hs)
    rw [List.take_length] at this
    refine this.mono ?_
    rintro e w' ⟨rfl, q, rfl⟩
    exact ⟨_, rfl, q, rfl⟩
end Go.Proofs.Ytkpppmldbhgcgaa
/- Sat: the solver is made: a clause that is not learned; the first pushes. -/
set_option autoImplicit false
set_option linter.unusedVariables false
set_option linter.unusedSimpArgs false
namespace Go.Proofs.Ytkpppmldbhgcgaa
open Go Go.Shelf Go.RowKit
/-- a clause more, of the call's own row -/
theorem Rep.newClause0 {lo : Nat} {w : World} {own : Nat → Option Tg} {rv : Tg → Value} {S : Sz} (h : Sol lo w own rv S) (hf : fresh S = true) {own0 : Nat → Option Tg} {w0 : World} (hF : Frm own0 own w0 w) {B : Nat} {ov : Value} {out : List Int} (hO : Out lo B w own ov out) (hB : w0.heap.size ≤ B) (hlo : lo ≤ w.heap.size) :
    ∃ own' rv', Sol lo (w.alloc (.cells #[ov, .bool false, .bool false, .int .i64 0] 80)) own' rv' { S with cls := S.cls ++ [⟨out, false, false, 0⟩] } ∧ Frm own0 own' w0 (w.alloc (.cells #[ov, .bool false, .bool false, .int .i64 0] 80)) ∧ rv' .x = rv .x ∧ rv' (.cl S.cls.length) = .pointer (some ⟨w.heap.size, 0, none⟩) ∧ rv' (.lits S.cls.length) = ov := by
  obtain ⟨o, ho⟩ : ∃ o, o = Obj.cells #[ov, .bool false, .bool false, .int .i64 0] 80 := ⟨_, rfl⟩
  obtain ⟨id, hid⟩ : ∃ id, S.cls.length = id := ⟨_, rfl⟩
  have hno : ∀ q (k : Nat), (mem S q).cs[k]? ≠ some (AC.ref (.lits id)) := fun q k hk => by
    have e := ref_home S rfl hk
    simp only [home, Prod.mk.injEq] at e
    obtain ⟨rfl, rfl⟩ := e
    have hk : (match S.cls[id]? with | some c => ccs id c | none => [])[0]? = some (AC.ref (.lits id)) := hk
    rw [show S.cls[id]? = none from List.getElem?_eq_none (by rw [hid]; exact Nat.le_refl _)] at hk
    cases hk
  obtain ⟨own6, hS6, hF6, k1, k2⟩ := (h.alloc o).linkRow (t := .lits id) rfl hno (v := ov) (n := out.length) (cs := out.map vi) (fun k hk => map_val hk) (by
    have e : concs rv (out.map vi) = out.map (Value.int .i64) := by unfold concs; rw [List.map_map]; rfl
    rw [e]
    exact (hO.alloc o).row) hO.fre (hF.alloc o) (fun g hg => Nat.le_trans hB (hO.new g hg))
  have hoN : own6 w.heap.size = none := by
    rw [k2 _ (fun e => by have := (hO.row.lt _ e).2; omega)]
    cases e : own w.heap.size with
    | none => rfl
    | some t => exact absurd (h.dom _ t e).2 (Nat.lt_irrefl _)
  have hsz : w.heap.size < (w.alloc o).heap.size := by simp
  have hS7 := hS6.link (t := .cl id) (v := .pointer (some ⟨w.heap.size, 0, none⟩)) (n := 4) (cs := ccs id ⟨out, false, false, 0⟩) (g := w.heap.size) (fun q k hk => by
    by_cases e : q = .lits id
    · subst e
      rw [upd_same] at hk
      exact (map_val hk).elim
    · rw [upd_other _ _ e] at hk
      have := ref_cl S hf hk
      omega) rfl hoN ⟨hlo, hsz⟩ ⟨fun k => (by cases k), fun _ _ => ⟨w.heap.size, rfl, lab_same .., fun m u hu => by
    have hu : [ov, Value.bool false, .bool false, .int .i64 0][m]? = some u := by
      have e : concs (upd (upd rv (.lits id) ov) (.cl id) (.pointer (some ⟨w.heap.size, 0, none⟩))) (ccs id ⟨out, false, false, 0⟩) = [ov, .bool false, .bool false, .int .i64 0] := by
        show [upd (upd rv (.lits id) ov) (.cl id) (.pointer (some ⟨w.heap.size, 0, none⟩)) (.lits id), Value.bool false, .bool false, .int .i64 0] = _
        rw [upd_other _ _ (by intro e; cases e), upd_same]
      rw [e] at hu
      exact hu
    have hm : m < 4 := len_of hu
    refine ⟨?_, ?_⟩
    · rw [ho, cell_new]
      rw [← hu]
      simp
    · rw [ho]; exact frozen_new w _ _ m hm⟩⟩
  rw [← ho, hid]
  refine ⟨lab own6 w.heap.size (.cl id), upd (upd rv (.lits id) ov) (.cl id) (.pointer (some ⟨w.heap.size, 0, none⟩)), ?_, ⟨hF6.os, hF6.tape, hF6.output, hF6.size, fun k hk => ?_, hF6.keep⟩, ?_, upd_same .., by rw [upd_other _ _ (by intro e; cases e), upd_same]⟩
  · rw [Sol, mem_new_, hid]
    have e1 : (⟨out.length, out.map vi⟩ : Ob Tg) = Ytkpppmldbhgcgaa.row (out.map vi) := by unfold Ytkpppmldbhgcgaa.row; rw [List.length_map]
    rw [← e1]
    exact hS7
  · have := hF.size
    show Ytkpppmldbhgcgaa.lab own6 w.heap.size (.cl id) k = own0 k
    rw [lab_other _ _ (by omega)]
    exact hF6.lab k hk
  · rw [upd_other _ _ (by intro e; cases e), upd_other _ _ (by intro e; cases e)]
theorem Frm.toBelow {own : Nat → Option Tg} {w w' : World} (h : Frm (fun _ => none) own w w') : Below w.heap.size w w' := ⟨h.os, h.tape, h.output, h.size, fun k hk => h.keep k hk rfl⟩
theorem Below.toFrm {own : Nat → Option Tg} {w w' : World} (h : Below w.heap.size w w') (ho : ∀ g, own g ≠ none → w.heap.size ≤ g) : Frm (fun _ => none) own w w' := ⟨h.os, h.tape, h.output, h.size, fun k hk => by
  by_cases e : own k = none
  · exact e
  · have := ho k e; omega, fun k hk _ => h.block k hk⟩
theorem empty_wf {V : Nat} (hV : V ≤ 900000) : WF (V + 1) (empty0 V (V + 1)) := by
  refine ⟨⟨by omega, by simp [empty0], by simp [empty0], fun k hk => by simp [empty0] at hk, by simp [empty0]⟩, ⟨by simp [empty0], fun k => ?_⟩, by simp [empty0], by simp [empty0], by simp [empty0], by simp [empty0], by simp [empty0], ?_, fun x hx => ?_⟩
  · simp only [empty0, List.getD_eq_getElem?_getD, List.getElem?_replicate]
    split <;> exact ⟨by decide, by decide⟩
  · show PosW 4607182418800017408
    unfold PosW
    decide +kernel
  · rw [(List.mem_replicate.1 hx).2]
    exact Nat.zero_le _
theorem pl_wf {n : Nat} {S : Sz} (wf : WF n S) (i : Nat) (x : Int) : WF n { S with pl := S.pl.set i x } :=
  ⟨⟨wf.ord.big, wf.ord.sc, by show (S.pl.set _ _).length = n; rw [List.length_set]; exact wf.ord.pl, wf.ord.ov, wf.ord.ovl⟩, wf.vals, wf.lev, wf.rea, wf.sav, wf.seen, wf.watch, wf.bump, wf.scp⟩
theorem up_len' {n : Nat} {S : Sz} (wf : WF n S) {v : Nat} (h1 : v < n) (h2 : S.ov.length < n) : (upZ (pushZ S v) S.ov.length).ov.length = S.ov.length + 1 := by
  have h0 : (pushZ S v).ov.length = S.ov.length + 1 := by show (S.ov ++ [(v : Int)]).length = _; simp
  have := (up_ok (push_ok wf.ord h1 h2) (i := S.ov.length) (by omega)).2
  omega
theorem madeV_ok {V : Nat} (hV : V ≤ 900000) : ∀ k, k ≤ V → ∃ S, madeV k (empty0 V (V + 1)) = some S ∧ WF (V + 1) S ∧ S.ov.length = k ∧ SameO (empty0 V (V + 1)) S
  | 0, _ => ⟨_, rfl, empty_wf hV, rfl, SameO.refl _⟩
  | k + 1, hk => by
    obtain ⟨S, h1, h2, h3, h4⟩ := madeV_ok hV k (by omega)
    have wf := pl_wf h2 (k + 1) (-1)
    have hp : hpushO { S with pl := S.pl.set (k + 1) (-1) } (k + 1) = some (upZ (pushZ { S with pl := S.pl.set (k + 1) (-1) } (k + 1)) S.ov.length) := by
      unfold hpushO
      rw [if_pos ⟨by rw [wf.ord.pl]; omega, by rw [wf.ord.pl]; show S.ov.length < V + 1; omega⟩]
    obtain ⟨w1, w2, _, _⟩ := hpushO_wf wf hp
    refine ⟨_, by unfold madeV; rw [h1]; exact hp, w1, ?_, ?_⟩
    · rw [show (upZ (pushZ { S with pl := S.pl.set (k + 1) (-1) } (k + 1)) S.ov.length).ov.length = S.ov.length + 1 from up_len' wf (by omega) (by show S.ov.length < V + 1; omega), h3]
    · refine SameO.trans (h4.trans ?_) w2
      rfl
end Go.Proofs.Ytkpppmldbhgcgaa
/- Sat: a clause of the formula, each literal once, rising (plain). -/
set_option autoImplicit false
set_option linter.unusedVariables false
set_option linter.unusedSimpArgs false
namespace Go.Proofs.Ytkpppmldbhgcgaa
open Go
/-- of a rising list's runs the first of each -/
theorem compact_spec (zs : List Int) (h : zs.Pairwise (· ≤ ·)) : (Lib.compact zs).Pairwise (· < ·) ∧ ∀ x, x ∈ Lib.compact zs ↔ x ∈ zs := by
  have hle : ∀ i j, i ≤ j → j < zs.length → zs.toArray[i]! ≤ zs.toArray[j]! := fun i j hij hj => by
    rcases Nat.lt_or_ge i j with h1 | h1
    · have := List.pairwise_iff_getElem.1 h i j (by omega) hj h1
      simpa [getElem!_pos, show i < zs.length by omega, hj] using this
    · rw [Nat.le_antisymm hij h1]; exact Int.le_refl _
  have key : ∀ m, m ≤ zs.length → (Lib.compactUpTo zs.toArray m).Pairwise (· < ·) ∧ (∀ x, x ∈ Lib.compactUpTo zs.toArray m ↔ ∃ j, j < m ∧ zs.toArray[j]! = x) ∧ ∀ x ∈ Lib.compactUpTo zs.toArray m, 0 < m ∧ x ≤ zs.toArray[m - 1]! := by
    intro m
    induction m with
    | zero => intro _; exact ⟨List.Pairwise.nil, fun x => ⟨fun e => (by cases e), fun ⟨j, e, _⟩ => by omega⟩, fun x hx => (by cases hx)⟩
    | succ m ih =>
      intro hm
      obtain ⟨i1, i2, i3⟩ := ih (by omega)
      rw [Lib.compactUpTo_succ]
      by_cases hk : Lib.keeps zs.toArray m = true
      · rw [if_pos hk]
        refine ⟨List.pairwise_append.2 ⟨i1, List.pairwise_singleton _ _, fun x hx y hy => ?_⟩, fun x => ?_, fun x hx => ⟨by omega, ?_⟩⟩
        · rw [List.mem_singleton.1 hy]
          obtain ⟨h0, hx⟩ := i3 x hx
          have h1 := hle (m - 1) m (by omega) (by omega)
          have hne : zs.toArray[m]! ≠ zs.toArray[m - 1]! := by
            intro e
            rw [Lib.keeps_neg h0 e] at hk; cases hk
          omega
        · rw [List.mem_append, List.mem_singleton, i2]
          constructor
          · rintro (⟨j, a, b⟩ | e)
            · exact ⟨j, by omega, b⟩
            · exact ⟨m, by omega, e.symm⟩
          · rintro ⟨j, a, b⟩
            rcases Nat.lt_or_ge j m with h1 | h1
            · exact .inl ⟨j, h1, b⟩
            · rw [show j = m by omega] at b; exact .inr b.symm
        · rw [show m + 1 - 1 = m by omega]
          rcases List.mem_append.1 hx with e | e
          · obtain ⟨h0, hx⟩ := i3 x e
            exact Int.le_trans hx (hle (m - 1) m (by omega) (by omega))
          · rw [List.mem_singleton.1 e]; exact Int.le_refl _
      · have hk : Lib.keeps zs.toArray m = false := by simpa using hk
        have h0 : 0 < m := by
          rcases Nat.eq_zero_or_pos m with e | e
          · subst e; rw [Lib.keeps_lt_one _ 0 (by omega)] at hk; cases hk
          · exact e
        have he : zs.toArray[m]! = zs.toArray[m - 1]! := by
          by_cases e : zs.toArray[m]! = zs.toArray[m - 1]!
          · exact e
          · rw [Lib.keeps_pos e] at hk; cases hk
        rw [hk, if_neg (by decide), List.append_nil]
        refine ⟨i1, fun x => ?_, fun x hx => ⟨by omega, ?_⟩⟩
        · rw [i2]
          constructor
          · rintro ⟨j, a, b⟩
            exact ⟨j, by omega, b⟩
          · rintro ⟨j, a, b⟩
            rcases Nat.lt_or_ge j m with h1 | h1
            · exact ⟨j, h1, b⟩
            · rw [show j = m by omega, he] at b; exact ⟨m - 1, by omega, b⟩
        · obtain ⟨_, hx⟩ := i3 x hx
          rw [show m + 1 - 1 = m by omega, he]; exact hx
  obtain ⟨k1, k2, _⟩ := key zs.length (Nat.le_refl _)
  refine ⟨k1, fun x => ?_⟩
  show x ∈ Lib.compactUpTo zs.toArray zs.length ↔ _
  rw [k2]
  constructor
  · rintro ⟨j, a, b⟩
    have : zs.toArray[j]! = zs[j] := by simp [getElem!_pos, a]
    rw [← b, this]; exact List.getElem_mem _
  · intro hx
    obtain ⟨j, a, b⟩ := List.mem_iff_getElem.1 hx
    refine ⟨j, a, ?_⟩
    have : zs.toArray[j]! = zs[j] := by simp [getElem!_pos, a]
    rw [this]; exact b
theorem normK_spec (c : List Int) : (normK c).Pairwise (· < ·) ∧ ∀ x, x ∈ normK c ↔ x ∈ c := by
  obtain ⟨h1, h2⟩ := compact_spec (sortI c) (sortI_sorted c)
  exact ⟨h1, fun x => (h2 x).trans (sortI_perm c).mem_iff⟩
end Go.Proofs.Ytkpppmldbhgcgaa

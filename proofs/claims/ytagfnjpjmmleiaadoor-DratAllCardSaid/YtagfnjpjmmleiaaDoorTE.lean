/- Drat: the checker visits a clause. -/
import Derived.Test.YtagfnjpjmmleiaaDoorTD
import Derived.RegionTactic
import Derived.ChangeAlike
import Derived.BigRegion
import Derived.Deep.Cut
import Derived.Deep.RegionHeld3
import Derived.Deep.DrawnRows
set_option linter.unusedVariables false
set_option linter.unusedSimpArgs false
set_option autoImplicit false
set_option linter.unusedVariables false
set_option linter.unusedSimpArgs false
namespace Go.Proofs.YtagfnjpjmmleiaaDoor
open Go.Shelf Go.RowKit
/-- a clause's row, where it lies, and its cells -/
theorem Rep.clause {cx : Cx} {w : World} {own : Nat → Option Tag} {rv : Tag → Value} {S : St} (h : Rep cx w own rv S) {i : Nat} (hl : 0 < (S.lits i).length) :
    ∃ g cap, rv (.cl i) = .slice (some ⟨g, 0, none⟩) (S.lits i).length cap ∧ own g = some (.cl i) ∧ ∀ j, j < (S.lits i).length → w.cell? ⟨g, j, none⟩ = some (.int .i64 ((S.lits i).getD j 0)) ∧ w.frozen? ⟨g, j, none⟩ = false := by
  have hr := h.rows (.cl i) rfl
  obtain ⟨g, cap, hv, _, _⟩ := hr.row.form (show 0 < elen S (.cl i) from hl)
  rw [hv] at hr
  have ho : w.ownsRow cx.lo 3 1 (.slice (some ⟨g, 0, none⟩) (S.lits i).length cap) (S.lits i).length (intC (S.lits i)) := hr.row
  refine ⟨g, cap, hv, hr.lab g rfl, fun j hj => ⟨?_, ho.frozenAt j⟩⟩
  rw [ho.cellAt j (by omega)]
  unfold intC
  rw [List.getElem?_map, List.getD_eq_getElem?_getD, List.getElem?_eq_getElem hj]; rfl
/-- the clauses' row -/
theorem Rep.allRow {cx : Cx} {w : World} {own : Nat → Option Tag} {rv : Tag → Value} {S : St} (h : Rep cx w own rv S) (hn : 0 < S.n) :
    ∃ g cap, rv .all = .slice (some ⟨g, 0, none⟩) S.n cap ∧ own g = some .all ∧ ∀ i, i < S.n → w.cell? ⟨g, i * 2, none⟩ = some (rv (.cl i)) ∧ w.cell? ⟨g, i * 2 + 1, none⟩ = some (.bool (S.gone i)) ∧ w.frozen? ⟨g, i * 2 + 1, none⟩ = false := by
  have hr := h.rows .all rfl
  obtain ⟨g, cap, hv, _, _⟩ := hr.row.form (show 0 < elen S .all from hn)
  rw [hv] at hr
  have ho : w.ownsRow cx.lo 74 2 (.slice (some ⟨g, 0, none⟩) S.n cap) S.n (allC rv S.gone S.n) := hr.row
  refine ⟨g, cap, hv, hr.lab g rfl, fun i hi => ?_⟩
  rw [ho.cellAt (i * 2) (by omega), ho.cellAt (i * 2 + 1) (by omega)]
  exact ⟨(allC_get rv S.gone hi).1, (allC_get rv S.gone hi).2, ho.frozenAt _⟩
theorem Rep.clauseAt {cx : Cx} {w : World} {own : Nat → Option Tag} {rv : Tag → Value} {S : St} (h : Rep cx w own rv S) {i g n cap : Nat} (hv : rv (.cl i) = .slice (some ⟨g, 0, none⟩) n cap) : ∀ j, j < (S.lits i).length → w.cell? ⟨g, j, none⟩ = some (.int .i64 ((S.lits i).getD j 0)) ∧ w.frozen? ⟨g, j, none⟩ = false := by
  intro j hj
  obtain ⟨g', cap', hv', _, hc⟩ := h.clause (i := i) (by omega)
  rw [hv] at hv'
  cases hv'
  exact hc j hj
/-- what an append to a watch list leaves -/
theorem Rep.watchOut {cx : Cx} {w : World} {own : Nat → Option Tag} {rv : Tag → Value} {S : St} (h : Rep cx w own rv S) {c i g cap : Nat} (hc : c < 2 * cx.V + 2) {w1 : World} (A : AppOut cx.lo w (.wr c) (rv (.wr c)) g cap ((S.watch c).length + 1) (natC (S.watch c) ++ [.int .i64 (i : Int)]) w1) :
    (∀ k t, own k = some t → t ≠ .wr c → ∀ j, w1.cell? ⟨k, j, none⟩ = w.cell? ⟨k, j, none⟩ ∧ w1.frozen? ⟨k, j, none⟩ = w.frozen? ⟨k, j, none⟩) ∧
    Rep cx (w1.setCell ⟨cx.wb, c, none⟩ (.slice (some ⟨g, 0, none⟩) ((S.watch c).length + 1) cap)) (lab own g (.wr c)) (upd rv (.wr c) (.slice (some ⟨g, 0, none⟩) ((S.watch c).length + 1) cap)) { S with watch := upd S.watch c (S.watch c ++ [i]) } ∧
    Frm own (lab own g (.wr c)) w (w1.setCell ⟨cx.wb, c, none⟩ (.slice (some ⟨g, 0, none⟩) ((S.watch c).length + 1) cap)) := by
  have F := A.facts h rfl
  refine ⟨fun k t e hne j => ⟨World.cell?_of_block (a := ⟨k, j, none⟩) (F.kept k t e hne), World.frozen?_of_block (a := ⟨k, j, none⟩) (F.kept k t e hne)⟩, h.appWatch hc A, ?_⟩
  exact (A.frm h rfl).setCell (p := ⟨cx.wb, c, none⟩) (F.ext _ _ h.wt.lab) _
/-- the rows of those that have a literal lie where they lay -/
def HK (rv rv' : Tag → Value) : Prop := ∀ c, rv' (.hr c) = rv (.hr c)
def VisitOut (cx : Cx) (own : Nat → Option Tag) (rv : Tag → Value) (S : St) (i : Nat) (l : Int) (w : World) (e : Ending) (w' : World) : Prop :=
  ∃ S' own' rv' st ok, VisitR S i l S' st ok ∧ e = .returned (.tuple #[.bool st, .bool ok]) ∧ Rep cx w' own' rv' S' ∧ Frm own own' w w' ∧ (∀ c, S'.watch c = S.watch c → rv' (.wr c) = rv (.wr c)) ∧ HK rv rv'
theorem two_len {zs : List Int} {a l : Int} {r : List Int} (h : Two zs a l r) : zs.length = r.length + 2 := by
  rcases h with rfl | rfl <;> rfl
theorem VisitOut.of {cx : Cx} {own : Nat → Option Tag} {rv : Tag → Value} {S S' : St} {i : Nat} {l : Int} {w w' : World} {own' : Nat → Option Tag} {rv' : Tag → Value} {st ok : Bool} (h1 : VisitR S i l S' st ok) (h2 : Rep cx w' own' rv' S') (h3 : Frm own own' w w') (h4 : ∀ c, S'.watch c = S.watch c → rv' (.wr c) = rv (.wr c)) (h5 : HK rv rv') :
    VisitOut cx own rv S i l w (.returned (.tuple #[.bool st, .bool ok])) w' := ⟨S', own', rv', st, ok, h1, rfl, h2, h3, h4, h5⟩
set_option maxHeartbeats 16000000 in
set_option maxRecDepth 1000000 in
theorem visit_walk (cx : Cx) (own : Nat → Option Tag) (rv : Tag → Value) (S : St) (i : Nat) (a l : Int) (r : List Int) (w : World) (h : Rep cx w own rv S) (hf : Fine (cx.V + 1) S.vals) (hi : i < S.n) (hN : S.n ≤ 1000000000) (ht : Two (S.lits i) a l r) (hal : a ≠ l) (hli : Lits (cx.V + 1) (S.lits i)) (hr : r.length ≤ 1000000000) (hV : cx.V ≤ 999999999) (htl : S.trail.length ≤ 1000000000) (hwl : ∀ c, (S.watch c).length ≤ 1000000000) :
    Calls Tryd.prog 56 #[.pointer (some ⟨cx.xb, 0, none⟩), .int .i64 (i : Int), .int .i64 l] w (VisitOut cx own rv S i l w) := by
  obtain ⟨i0, hi0, hz0, hz1, hz2⟩ := info_parts info3
  have hlen := two_len ht
  obtain ⟨g, cap, hcv, hgo, hcell⟩ := h.clause (i := i) (by omega)
  obtain ⟨ab, acap, hav, hao, hacell⟩ := h.allRow (by omega)
  have hc1 : w.cell? ⟨cx.xb, 1, none⟩ = some (.slice (some ⟨ab, 0, none⟩) S.n acap) := by rw [← hav]; exact (h.x.cell 1 (by decide)).1
  have hcl := (hacell i hi).1
  rw [hcv, hlen] at hcl
  have hiI : (i : Int) < S.n := by omega
  have hz : (S.lits i).getD 0 0 = a ∧ (S.lits i).getD 1 0 = l ∨ (S.lits i).getD 0 0 = l ∧ (S.lits i).getD 1 0 = a := by
    rcases ht with e | e
    · exact .inl (by rw [e]; exact ⟨rfl, rfl⟩)
    · exact .inr (by rw [e]; exact ⟨rfl, rfl⟩)
  obtain ⟨c0, cf0⟩ := hcell 0 (by omega)
  obtain ⟨c1, cf1⟩ := hcell 1 (by omega)
  obtain ⟨z0, hz0'⟩ : ∃ z, (S.lits i).getD 0 0 = z := ⟨_, rfl⟩
  obtain ⟨z1, hz1'⟩ : ∃ z, (S.lits i).getD 1 0 = z := ⟨_, rfl⟩
  rw [hz0'] at c0 hz
  rw [hz1'] at c1 hz
  obtain ⟨n, hnr⟩ : ∃ n, r.length + 2 = n := ⟨_, rfl⟩
  rw [hnr] at hcl
  have hn2 : (2 : Int) ≤ n := by omega
  have hn0 : (0 : Int) < n := by omega
  have hn1 : (1 : Int) < n := by omega
  go_enter Tryd.func56, Tryd.ntmps56
  go_upto_if 22 with fail
  go_cut [] from 10 (fun wx => Rep cx wx own rv { S with lits := upd S.lits i (a :: l :: r) } ∧ Frm own own w wx)
  case first =>
    rcases hz with ⟨rfl, rfl⟩ | ⟨rfl, rfl⟩
    · have hne : (z0 == z1) = false := beq_false_of_ne hal
      have e : S.lits i = z0 :: z1 :: r := by
        rcases ht with e | e
        · exact e
        · rw [e] at hz0'; exact absurd hz0'.symm hal
      go_wp2
      go_meet
      case rel =>
        refine ⟨?_, Frm.refl _ _⟩
        rw [← e, upd_self]; exact h
    · have hne : (z0 == z0) = true := by simp
      have e : S.lits i = z0 :: z1 :: r := by
        rcases ht with e | e
        · rw [e] at hz0'; exact absurd hz0' hal
        · exact e
      have hw1 := fun q : Nat => ((h.drewN q).setLit (n := r.length + 2) (cap := cap) (i := i) (g := g) (by rw [hcv, hlen]) 0 z1).setLit (n := r.length + 2) (cap := cap) (i := i) (g := g) (by rw [hcv, hlen]) 1 z0
      go_wp2
      go_region
      all_goals (try go_wp2_with fail)
      all_goals go_meet
      case rel =>
        refine ⟨?_, ((((Frm.refl own w).setCell (p := ⟨g, 0, none⟩) hgo _).setCell (p := ⟨g, 1, none⟩) hgo _).drew)⟩
        have h2 := (hw1 0).drew
        have e3 : upd (upd S.lits i ((S.lits i).set 0 z1)) i ((upd S.lits i ((S.lits i).set 0 z1) i).set 1 z0) = upd S.lits i (z1 :: z0 :: r) := by
          rw [upd_same, upd_upd, e]; rfl
        simp only [e3] at h2
        exact h2
  case rest =>
    obtain ⟨h1, hfr⟩ := hcut
    clear c0 c1 cf0 cf1 hz hcl hacell hcell hz0' hz1' hc1
    have hS1 : ({ S with lits := upd S.lits i (a :: l :: r) } : St).lits i = a :: l :: r := upd_same ..
    have hcell := h1.clauseAt (i := i) hcv
    rw [hS1] at hcell
    obtain ⟨k0, kf0⟩ := hcell 0 (by simp)
    obtain ⟨k1, kf1⟩ := hcell 1 (by simp)
    have k0 : wc.cell? ⟨g, 0, none⟩ = some (.int .i64 a) := k0
    have k1 : wc.cell? ⟨g, 1, none⟩ = some (.int .i64 l) := k1
    have kr : ∀ q, q < r.length → wc.cell? ⟨g, q + 2, none⟩ = some (.int .i64 (r.getD q 0)) ∧ wc.frozen? ⟨g, q + 2, none⟩ = false := fun q hq => hcell (q + 2) (by simp; omega)
    clear hcell
    have hV1 : HasVals wc cx.xb cx.vb (cx.V + 1) cx.vc S.vals := h1.vals hf
    have hv := fun y => value_walk cx.xb cx.vb (cx.V + 1) cx.vc S.vals y
    have hmem : ∀ y, y ∈ S.lits i ↔ y = a ∨ y = l ∨ y ∈ r := fun y => by rw [← ht.perm.mem_iff, List.mem_cons, List.mem_cons]
    have hla := hli a ((hmem a).2 (.inl rfl))
    have hlr : ∀ y ∈ r, y ≠ 0 ∧ y.natAbs < cx.V + 1 := fun y hy => hli y ((hmem y).2 (.inr (.inr hy)))
    have ht1 : Two (({ S with lits := upd S.lits i (a :: l :: r) } : St).lits i) a l r := .inl hS1
    obtain ⟨va, hva⟩ : ∃ v, litV S.vals a = v := ⟨_, rfl⟩
    have hvA := hv a wc hV1 hla.2 (by omega)
    rw [hva] at hvA
    by_cases hat : va = 1
    · have hR : VisitOut cx own rv S i l w (.returned (.tuple #[.bool true, .bool true])) wc := .of (.tr a r ht (by rw [hva]; exact hat)) h1 hfr (fun _ _ => rfl) fun _ => rfl
      subst hat
      go_wp2_with (go_at_call 55; refine hvA.mono ?_; rintro e w1 ⟨p1, p2⟩; rw [p1, p2]; clear p1 p2)
      go_ret2
      exact hR
    · have hab : (va == 1) = false := beq_false_of_ne hat
      go_wp2_with (go_at_call 55; refine hvA.mono ?_; rintro e w1 ⟨p1, p2⟩; rw [p1, p2]; clear p1 p2)
      go_loopw [9] (fun k wr => ∃ q : Nat, q ≤ r.length ∧ k = .int .i64 ((q + 2 : Nat) : Int) ∧ (∀ y ∈ r.take q, litV S.vals y = -1) ∧ wr = wc) (fun k _ => n - (intOf k).toNat)
      case atStart => exact ⟨0, Nat.zero_le _, rfl, fun y hy => (by cases hy), rfl⟩
      case round =>
        obtain ⟨q, hq, rfl, hall, rfl⟩ := hrel
        by_cases hlt : q < r.length
        · obtain ⟨kq, kfq⟩ := kr q hlt
          have hyr : r.getD q 0 ∈ r := by rw [List.getD_eq_getElem?_getD, List.getElem?_eq_getElem hlt]; exact List.getElem_mem _
          have htk := take_snoc (zs := r) (k := q) hlt
          obtain ⟨y, hy⟩ : ∃ y, r.getD q 0 = y := ⟨_, rfl⟩
          rw [hy] at kq hyr htk
          have hly := hlr y hyr
          have hvY := hv y wr hV1 hly.2 (by omega)
          obtain ⟨vy, hvy⟩ : ∃ v, litV S.vals y = v := ⟨_, rfl⟩
          rw [hvy] at hvY
          have hqn : ((q + 2 : Nat) : Int) < n := by omega
          clear kr
          by_cases hyf : vy = -1
          · subst hyf
            go_wp2_with (go_at_call 55; refine hvY.mono ?_; rintro e w1 ⟨p1, p2⟩; rw [p1, p2]; clear p1 p2)
            go_roundw
            case rel =>
              refine ⟨q + 1, hlt, by simp; omega, fun z hz => ?_, by trivial⟩
              rw [htk] at hz
              rcases List.mem_append.1 hz with hz | hz
              · exact hall z hz
              · rw [List.mem_singleton.1 hz]; exact hvy
            case measure => simp [intOf]; omega
          · have hyb : (vy != -1) = true := by simp [hyf]
            go_wp2_with (go_at_call 55; refine hvY.mono ?_; rintro e w1 ⟨p1, p2⟩; rw [p1, p2]; clear p1 p2)
            go_cut [] from 10 (fun wx => Rep cx wx own rv { S with lits := upd S.lits i (a :: y :: r.set q l) } ∧ Frm own own w wx)
            case first =>
              have hw1 := fun p : Nat => ((h1.drewN p).setLit (n := r.length + 2) (cap := cap) (i := i) (g := g) (by rw [hcv, hlen]) 1 y).setLit (n := r.length + 2) (cap := cap) (i := i) (g := g) (by rw [hcv, hlen]) (q + 2) l
              go_region
              all_goals (try go_wp2_with fail)
              all_goals go_meet
              case rel =>
                refine ⟨?_, (((hfr.setCell (p := ⟨g, 1, none⟩) hgo _).setCell (p := ⟨g, q + 2, none⟩) hgo _).drew)⟩
                have h2 := (hw1 0).drew
                have e3 : upd (upd (upd S.lits i (a :: l :: r)) i ((upd S.lits i (a :: l :: r) i).set 1 y)) i ((upd (upd S.lits i (a :: l :: r)) i ((upd S.lits i (a :: l :: r) i).set 1 y) i).set (q + 2) l) = upd S.lits i (a :: y :: r.set q l) := by
                  rw [upd_same, upd_same, upd_upd, upd_upd]; rfl
                simp only [e3] at h2
                exact h2
            case rest =>
              obtain ⟨h2, hfr2⟩ := hcut
              clear k0 kf0 k1 kf1 kq kfq hV1 hv hvY
              obtain ⟨S2, hS2⟩ : ∃ T : St, T = { S with lits := upd S.lits i (a :: y :: r.set q l) } := ⟨_, rfl⟩
              have hl2 : S2.lits i = a :: y :: r.set q l := by rw [hS2]; exact upd_same ..
              have hw2 : S2.watch = S.watch := by rw [hS2]
              rw [← hS2] at h2
              have k1 : wc.cell? ⟨g, 1, none⟩ = some (.int .i64 y) := by
                have := (h2.clauseAt (i := i) hcv 1 (by rw [hl2]; simp)).1
                rw [hl2] at this; exact this
              have x2 : wc.cell? ⟨cx.xb, 2, none⟩ = some (.slice (some ⟨cx.wb, 0, none⟩) (2 * cx.V + 2) cx.wc) := (h2.x.cell 2 (by decide)).1
              obtain ⟨c, hc⟩ : ∃ c, codeZ y = c := ⟨_, rfl⟩
              have hcV : c < 2 * cx.V + 2 := by rw [← hc]; exact codeZ_lt hly.2
              have hcI : (c : Int) < (2 * cx.V + 2 : Nat) := by omega
              have hc0 : (0 : Int) ≤ (c : Int) := by omega
              obtain ⟨wv, hwv⟩ : ∃ v, rv (.wr c) = v := ⟨_, rfl⟩
              have tb : wc.cell? ⟨cx.wb, c, none⟩ = some wv := by rw [← hwv]; exact (h2.wt.cell c hcV).1
              have own2 : wc.ownsRow cx.lo 3 1 wv (S.watch c).length (natC (S.watch c)) := by
                have := (h2.rows (.wr c) rfl).row
                rw [hwv] at this
                have e : wc.ownsRow cx.lo 3 1 wv (S2.watch c).length (natC (S2.watch c)) := this
                rwa [hw2] at e
              have hcd := fun u => code_walk y (by omega) (by omega) u
              rw [hc] at hcd
              have hwlc := hwl c
              have key : ∀ o gg cp w1, w1.ownsRow cx.lo 3 1 (.slice (some ⟨gg, 0, none⟩) ((S.watch c).length + 1) cp) ((S.watch c).length + 1) (natC (S.watch c) ++ [.int .i64 (i : Int)]) → (wc.alloc o).drew.grownBy w1 wv.ownBlock → (wv.ownBlock = some gg ∨ gg = wc.heap.size + 1) → gg < w1.heap.size →
                  (w1.cell? ⟨cx.xb, 2, none⟩ = some (.slice (some ⟨cx.wb, 0, none⟩) (2 * cx.V + 2) cx.wc) ∧ w1.cell? ⟨g, 1, none⟩ = some (.int .i64 y) ∧ w1.cell? ⟨cx.wb, c, none⟩ = some wv ∧ w1.frozen? ⟨cx.wb, c, none⟩ = false) ∧ VisitOut cx own rv S i l w (.returned (.tuple #[.bool false, .bool true])) (w1.setCell ⟨cx.wb, c, none⟩ (.slice (some ⟨gg, 0, none⟩) ((S.watch c).length + 1) cp)) := by
                intro o gg cp w1 a1 a2 a3 a4
                have h3 := (h2.alloc o).drew
                have A : AppOut cx.lo (wc.alloc o).drew (.wr c) (rv (.wr c)) gg cp ((S2.watch c).length + 1) (natC (S2.watch c) ++ [.int .i64 (i : Int)]) w1 := by
                  rw [hw2, hwv]
                  exact ⟨a1, a2, a3.imp id fun e => e.trans (by show _ = (wc.alloc o).heap.size; simp), a4⟩
                obtain ⟨b1, b2, b3⟩ := h3.watchOut hcV A
                have d1 := b1 cx.xb _ h2.x.lab (by intro e; cases e) 2
                have d2 := b1 g _ hgo (by intro e; cases e) 1
                have d3 := b1 cx.wb _ h2.wt.lab (by intro e; cases e) c
                refine ⟨⟨d1.1.trans (h3.x.cell 2 (by decide)).1, d2.1.trans ?_, d3.1.trans ?_, d3.2.trans (h3.wt.cell c hcV).2⟩, ?_⟩
                · have := (h3.clauseAt (i := i) hcv 1 (by rw [hl2]; simp)).1
                  rw [hl2] at this; exact this
                · rw [← hwv]; exact (h3.wt.cell c hcV).1
                · rw [hw2] at b2 b3
                  refine .of (.mv a y r q ht (by rw [hva]; exact hat) hlt hy (by rw [hvy]; exact hyf)) (own' := lab own gg (.wr c)) (rv' := upd rv (.wr c) (.slice (some ⟨gg, 0, none⟩) ((S.watch c).length + 1) cp)) ?_ (((hfr2.alloc o).drew).trans b3) (fun c' hc' => ?_) fun c' => upd_other _ _ (by intro e; cases e)
                  · rw [hc]
                    rw [hS2] at b2
                    exact b2
                  · by_cases e : c' = c
                    · subst e
                      have hc' : upd S.watch (codeZ y) (S.watch (codeZ y) ++ [i]) c' = S.watch c' := hc'
                      rw [hc, upd_same] at hc'
                      have := congrArg List.length hc'
                      simp at this
                    · exact upd_other _ _ (by intro e2; cases e2; exact e rfl)
              have hcJ : (c : Int) < 2 * (cx.V : Int) + 2 := by omega
              have hxw : cx.xb ≠ cx.wb := Rep.apart h2.x.lab h2.wt.lab (by intro e; cases e)
              have hgw : g ≠ cx.wb := Rep.apart hgo h2.wt.lab (by intro e; cases e)
              have kst : ∀ {w1 : World} (u : Value), w1.cell? ⟨cx.xb, 2, none⟩ = some (.slice (some ⟨cx.wb, 0, none⟩) (2 * cx.V + 2) cx.wc) → w1.cell? ⟨g, 1, none⟩ = some (.int .i64 y) → (w1.setCell ⟨cx.wb, c, none⟩ u).cell? ⟨cx.xb, 2, none⟩ = some (.slice (some ⟨cx.wb, 0, none⟩) (2 * cx.V + 2) cx.wc) ∧ (w1.setCell ⟨cx.wb, c, none⟩ u).cell? ⟨g, 1, none⟩ = some (.int .i64 y) := fun u e1 e2 =>
                ⟨(World.cell?_setCell_other _ ⟨cx.wb, c, none⟩ ⟨cx.xb, 2, none⟩ _ (by intro e; injection e; omega)).trans e1, (World.cell?_setCell_other _ ⟨cx.wb, c, none⟩ ⟨g, 1, none⟩ _ (by intro e; injection e; omega)).trans e2⟩
              have tbA : ∀ o, (wc.alloc o).cell? ⟨cx.wb, c, none⟩ = some wv := fun o => (World.cell?_alloc_some wc _ o (by rw [tb]; rfl)).trans tb
              have tbB : ∀ o, (wc.alloc o).drew.cell? ⟨cx.wb, c, none⟩ = some wv := tbA
              have nw1 := World.new_ne wc _ tb
              have nw2 := World.new_ne wc _ k1
              have nw3 := World.new_ne wc _ x2
              clear hmem hlr hla hat hab hva hvy hyf hyb h1 hfr h hf htl hwl
              go_wp2_with fail
              refine wp_region_held_drew (S := (fun w' => w'.cell? ⟨cx.xb, 2, none⟩ = some (.slice (some ⟨cx.wb, 0, none⟩) (2 * cx.V + 2) cx.wc) ∧ w'.cell? ⟨g, 1, none⟩ = some (.int .i64 y))) (by kernel_rfl) ?_ (fun hHeld => ?_)
              · (try dsimp only); first | go_keep | exact ⟨k.1.1, k.1.2.1⟩ | exact kst _ k.1.1 k.1.2.1
              refine wpAnyH_take (i := 0) (oi := { dst := some 64, op := Op.move (Operand.tmp 0), type := 54, pos := "drat.go:143", after := #[], guard := none }) (v := ?_) rfl (by kernel_rfl) (by kernel_rfl) (by kernel_rfl) (fun _ _ _ h => h) (Or.inl ⟨by rfl, ?_⟩) (by assumption) ?_
              rotate_left
              · intro w hSw; (try dsimp only at hSw); go_simp; all_goals with_reducible rfl
              try simp only [Act.put, List.setIfInBounds_toArray, List.set_cons_zero, List.set_cons_succ]
              refine wpAnyH_take (i := 1) (oi := { dst := some 65, op := Op.nilCheck (Operand.tmp 64), type := 0, pos := "drat.go:143", after := #[{ on := 0, ground := Ground.data }], guard := none }) (v := ?_) rfl (by kernel_rfl) (by kernel_rfl) (by kernel_rfl) (fun _ _ _ h => h) (Or.inl ⟨by rfl, ?_⟩) (by assumption) ?_
              rotate_left
              · intro w hSw; (try dsimp only at hSw); go_simp; all_goals with_reducible rfl
              try simp only [Act.put, List.setIfInBounds_toArray, List.set_cons_zero, List.set_cons_succ]
              refine wpAnyH_take (i := 2) (oi := { dst := some 66, op := Op.fieldAddr 60 (Operand.tmp 65) 2, type := 0, pos := "drat.go:143", after := #[{ on := 1, ground := Ground.data }], guard := none }) (v := ?_) rfl (by kernel_rfl) (by kernel_rfl) (by kernel_rfl) (fun _ _ _ h => h) (Or.inl ⟨by rfl, ?_⟩) (by assumption) ?_
              rotate_left
              · intro w hSw; (try dsimp only at hSw); go_simp; all_goals with_reducible rfl
              try simp only [Act.put, List.setIfInBounds_toArray, List.set_cons_zero, List.set_cons_succ]
              refine wpAnyH_take (i := 3) (oi := { dst := some 67, op := Op.load 22 (Operand.tmp 66), type := 22, pos := "drat.go:143", after := #[{ on := 2, ground := Ground.data }], guard := none }) (v := ?_) rfl (by kernel_rfl) (by kernel_rfl) (by kernel_rfl) (fun _ _ _ h => h) (Or.inl ⟨by rfl, ?_⟩) (by assumption) ?_
              rotate_left
              · intro w hSw; (try dsimp only at hSw); go_simp; all_goals with_reducible rfl
              try simp only [Act.put, List.setIfInBounds_toArray, List.set_cons_zero, List.set_cons_succ]
              refine wpAnyH_take (i := 4) (oi := { dst := some 68, op := Op.move (Operand.tmp 8), type := 33, pos := "drat.go:143", after := #[], guard := none }) (v := ?_) rfl (by kernel_rfl) (by kernel_rfl) (by kernel_rfl) (fun _ _ _ h => h) (Or.inl ⟨by rfl, ?_⟩) (by assumption) ?_
              rotate_left
              · intro w hSw; (try dsimp only at hSw); go_simp; all_goals with_reducible rfl
              try simp only [Act.put, List.setIfInBounds_toArray, List.set_cons_zero, List.set_cons_succ]
              refine wpAnyH_take (i := 5) (oi := { dst := some 69, op := Op.indexAddr 33 (Operand.tmp 68) (Operand.const (Value.int IntKind.i64 1)), type := 0, pos := "drat.go:143", after := #[{ on := 4, ground := Ground.data }], guard := none }) (v := ?_) rfl (by kernel_rfl) (by kernel_rfl) (by kernel_rfl) (fun _ _ _ h => h) (Or.inl ⟨by rfl, ?_⟩) (by assumption) ?_
              rotate_left
              · intro w hSw; (try dsimp only at hSw); go_simp; all_goals with_reducible rfl
              try simp only [Act.put, List.setIfInBounds_toArray, List.set_cons_zero, List.set_cons_succ]
              refine wpAnyH_take (i := 6) (oi := { dst := some 70, op := Op.load 3 (Operand.tmp 69), type := 3, pos := "drat.go:143", after := #[{ on := 5, ground := Ground.data }], guard := none }) (v := ?_) rfl (by kernel_rfl) (by kernel_rfl) (by kernel_rfl) (fun _ _ _ h => h) (Or.inl ⟨by rfl, ?_⟩) (by assumption) ?_
              rotate_left
              · intro w hSw; (try dsimp only at hSw); go_simp; all_goals with_reducible rfl
              try simp only [Act.put, List.setIfInBounds_toArray, List.set_cons_zero, List.set_cons_succ]
              refine wpAnyH_take (i := 8) (oi := { dst := some 72, op := Op.move (Operand.tmp 0), type := 54, pos := "drat.go:143", after := #[], guard := none }) (v := ?_) rfl (by kernel_rfl) (by kernel_rfl) (by kernel_rfl) (fun _ _ _ h => h) (Or.inl ⟨by rfl, ?_⟩) (by assumption) ?_
              rotate_left
              · intro w hSw; (try dsimp only at hSw); go_simp; all_goals with_reducible rfl
              try simp only [Act.put, List.setIfInBounds_toArray, List.set_cons_zero, List.set_cons_succ]
              refine wpAnyH_take (i := 9) (oi := { dst := some 73, op := Op.nilCheck (Operand.tmp 72), type := 0, pos := "drat.go:143", after := #[{ on := 8, ground := Ground.data }], guard := none }) (v := ?_) rfl (by kernel_rfl) (by kernel_rfl) (by kernel_rfl) (fun _ _ _ h => h) (Or.inl ⟨by rfl, ?_⟩) (by assumption) ?_
              rotate_left
              · intro w hSw; (try dsimp only at hSw); go_simp; all_goals with_reducible rfl
              try simp only [Act.put, List.setIfInBounds_toArray, List.set_cons_zero, List.set_cons_succ]
              refine wpAnyH_take (i := 10) (oi := { dst := some 74, op := Op.fieldAddr 60 (Operand.tmp 73) 2, type := 0, pos := "drat.go:143", after := #[{ on := 9, ground := Ground.data }], guard := none }) (v := ?_) rfl (by kernel_rfl) (by kernel_rfl) (by kernel_rfl) (fun _ _ _ h => h) (Or.inl ⟨by rfl, ?_⟩) (by assumption) ?_
              rotate_left
              · intro w hSw; (try dsimp only at hSw); go_simp; all_goals with_reducible rfl
              try simp only [Act.put, List.setIfInBounds_toArray, List.set_cons_zero, List.set_cons_succ]
              refine wpAnyH_take (i := 11) (oi := { dst := some 75, op := Op.load 22 (Operand.tmp 74), type := 22, pos := "drat.go:143", after := #[{ on := 10, ground := Ground.data }], guard := none }) (v := ?_) rfl (by kernel_rfl) (by kernel_rfl) (by kernel_rfl) (fun _ _ _ h => h) (Or.inl ⟨by rfl, ?_⟩) (by assumption) ?_
              rotate_left
              · intro w hSw; (try dsimp only at hSw); go_simp; all_goals with_reducible rfl
              try simp only [Act.put, List.setIfInBounds_toArray, List.set_cons_zero, List.set_cons_succ]
              refine wpAnyH_take (i := 12) (oi := { dst := some 76, op := Op.move (Operand.tmp 8), type := 33, pos := "drat.go:143", after := #[], guard := none }) (v := ?_) rfl (by kernel_rfl) (by kernel_rfl) (by kernel_rfl) (fun _ _ _ h => h) (Or.inl ⟨by rfl, ?_⟩) (by assumption) ?_
              rotate_left
              · intro w hSw; (try dsimp only at hSw); go_simp; all_goals with_reducible rfl
              try simp only [Act.put, List.setIfInBounds_toArray, List.set_cons_zero, List.set_cons_succ]
              refine wpAnyH_take (i := 13) (oi := { dst := some 77, op := Op.indexAddr 33 (Operand.tmp 76) (Operand.const (Value.int IntKind.i64 1)), type := 0, pos := "drat.go:143", after := #[{ on := 12, ground := Ground.data }], guard := none }) (v := ?_) rfl (by kernel_rfl) (by kernel_rfl) (by kernel_rfl) (fun _ _ _ h => h) (Or.inl ⟨by rfl, ?_⟩) (by assumption) ?_
              rotate_left
              · intro w hSw; (try dsimp only at hSw); go_simp; all_goals with_reducible rfl
              try simp only [Act.put, List.setIfInBounds_toArray, List.set_cons_zero, List.set_cons_succ]
              refine wpAnyH_take (i := 14) (oi := { dst := some 78, op := Op.load 3 (Operand.tmp 77), type := 3, pos := "drat.go:143", after := #[{ on := 13, ground := Ground.data }], guard := none }) (v := ?_) rfl (by kernel_rfl) (by kernel_rfl) (by kernel_rfl) (fun _ _ _ h => h) (Or.inl ⟨by rfl, ?_⟩) (by assumption) ?_
              rotate_left
              · intro w hSw; (try dsimp only at hSw); go_simp; all_goals with_reducible rfl
              try simp only [Act.put, List.setIfInBounds_toArray, List.set_cons_zero, List.set_cons_succ]
              refine wpAnyH_take (i := 18) (oi := { dst := some 82, op := Op.move (Operand.tmp 1), type := 3, pos := "drat.go:143", after := #[], guard := none }) (v := ?_) rfl (by kernel_rfl) (by kernel_rfl) (by kernel_rfl) (fun _ _ _ h => h) (Or.inl ⟨by rfl, ?_⟩) (by assumption) ?_
              rotate_left
              · intro w hSw; (try dsimp only at hSw); go_simp; all_goals with_reducible rfl
              try simp only [Act.put, List.setIfInBounds_toArray, List.set_cons_zero, List.set_cons_succ]
              refine wpAnyH_ready (rs := [7, 19]) (by kernel_rfl) (by simp) ?_
              refine AllReadyH.cons (o := { dst := some 71, op := Op.call { callee := Callee.value (Operand.func 38), args := #[Operand.tmp 70], argTypes := #[3] }, type := 3, pos := "drat.go:143", after := #[{ on := 6, ground := Ground.data }], guard := none }) rfl (fun K hK => ?_) ?_
              · go_simp
                go_at_call 38; refine (hcd _).mono ?_; rintro e w' ⟨p1, p2⟩; rw [p1, p2]; clear p1 p2
                go_wp2_with fail
                refine hK.out _ _ ?_ (fun hHeld2 => ?_)
                · (try dsimp only); first | go_keep | exact ⟨k.1.1, k.1.2.1⟩ | exact kst _ k.1.1 k.1.2.1
                clear hK K hHeld
                have hHeld := hHeld2
                clear hHeld2
                try simp only [Act.put, List.setIfInBounds_toArray, List.set_cons_zero, List.set_cons_succ]
                refine wpAnyH_ready (rs := [15, 19]) (by kernel_rfl) (by simp) ?_
                refine AllReadyH.cons (o := { dst := some 79, op := Op.call { callee := Callee.value (Operand.func 38), args := #[Operand.tmp 78], argTypes := #[3] }, type := 3, pos := "drat.go:143", after := #[{ on := 14, ground := Ground.data }, { on := 7, ground := Ground.chain }], guard := none }) rfl (fun K hK => ?_) ?_
                · go_simp
                  go_at_call 38; refine (hcd _).mono ?_; rintro e w' ⟨p1, p2⟩; rw [p1, p2]; clear p1 p2
                  go_wp2_with fail
                  refine hK.out _ _ ?_ (fun hHeld2 => ?_)
                  · (try dsimp only); first | go_keep | exact ⟨k.1.1, k.1.2.1⟩ | exact kst _ k.1.1 k.1.2.1
                  clear hK K hHeld
                  have hHeld := hHeld2
                  clear hHeld2
                  try simp only [Act.put, List.setIfInBounds_toArray, List.set_cons_zero, List.set_cons_succ]
                  refine wpAnyH_take (i := 16) (oi := { dst := some 80, op := Op.indexAddr 22 (Operand.tmp 75) (Operand.tmp 79), type := 0, pos := "drat.go:143", after := #[{ on := 11, ground := Ground.data }, { on := 15, ground := Ground.data }], guard := none }) (v := ?_) rfl (by kernel_rfl) (by kernel_rfl) (by kernel_rfl) (fun _ _ _ h => h) (Or.inl ⟨by rfl, ?_⟩) (by assumption) ?_
                  rotate_left
                  · intro w hSw; (try dsimp only at hSw); go_simp; all_goals with_reducible rfl
                  try simp only [Act.put, List.setIfInBounds_toArray, List.set_cons_zero, List.set_cons_succ]
                  refine wpAnyH_ready (rs := [17, 19]) (by kernel_rfl) (by simp) ?_
                  refine AllReadyH.cons (o := { dst := some 81, op := Op.load 33 (Operand.tmp 80), type := 33, pos := "drat.go:143", after := #[{ on := 16, ground := Ground.data }], guard := none }) rfl (fun K hK => ?_) ?_
                  · go_simp
                    refine hK.out _ _ ?_ (fun hHeld2 => ?_)
                    · (try dsimp only); first | go_keep | exact ⟨k.1.1, k.1.2.1⟩ | exact kst _ k.1.1 k.1.2.1
                    clear hK K hHeld
                    have hHeld := hHeld2
                    clear hHeld2
                    try simp only [Act.put, List.setIfInBounds_toArray, List.set_cons_zero, List.set_cons_succ]
                    refine wpAnyH_ready (rs := [19]) (by kernel_rfl) (by simp) ?_
                    refine AllReadyH.cons (o := { dst := some 83, op := Op.buildSlice 33 1 #[(0, Operand.tmp 82)], type := 33, pos := "drat.go:143", after := #[{ on := 18, ground := Ground.data }], guard := none }) rfl (fun K hK => ?_) ?_
                    · go_simp
                      refine hK.out _ _ ?_ (fun hHeld2 => ?_)
                      · (try dsimp only); first | go_keep | exact ⟨k.1.1, k.1.2.1⟩ | exact kst _ k.1.1 k.1.2.1
                      clear hK K hHeld
                      have hHeld := hHeld2
                      clear hHeld2
                      try simp only [Act.put, List.setIfInBounds_toArray, List.set_cons_zero, List.set_cons_succ]
                      refine wpAnyH_ready (rs := [20]) (by kernel_rfl) (by simp) ?_
                      refine AllReadyH.cons (o := { dst := some 84, op := Op.call { callee := Callee.builtin Builtin.append, args := #[Operand.tmp 81, Operand.tmp 83], argTypes := #[33, 33] }, type := 33, pos := "drat.go:143", after := #[{ on := 17, ground := Ground.data }, { on := 19, ground := Ground.data }, { on := 15, ground := Ground.chain }], guard := none }) rfl (fun K hK => ?_) ?_
                      · refine step_append_lies _ (by rfl) _ _ _ (by rfl) cx.lo 3 i0 _ 1 8 Tryd.underlying33 hi0 hz0 hz1 hz2 rfl (by decide) wv _ _ (by rfl) ((own2.alloc _).drew) ⟨wc.heap.size, 0, none⟩ 1 1 [.int .i64 (i : Int)] (by rfl) (by rfl) (World.news_of_block (cs := #[.int .i64 (i : Int)]) (t := 3) (fr := (0, 0)) (heap_alloc_new wc _)) (by simp [Value.oneCell']) (by decide) (by unfold maxLen; omega) (by omega) (by have := h2.lo_le; simp; omega) (wc.heap.size + 1) (by simp) ?_
                        intro gg cp w1 hown1 hgrow hat hlt
                        have k := key _ gg cp w1 hown1 hgrow hat hlt
                        have kf := k.1.2.2.2
                        refine hK.out _ _ ?_ (fun hHeld2 => ?_)
                        · (try dsimp only); first | go_keep | exact ⟨k.1.1, k.1.2.1⟩ | exact kst _ k.1.1 k.1.2.1
                        clear hK K hHeld
                        have hHeld := hHeld2
                        clear hHeld2
                        try simp only [Act.put, List.setIfInBounds_toArray, List.set_cons_zero, List.set_cons_succ]
                        refine wpAnyH_take (i := 21) (oi := { dst := some 85, op := Op.indexAddr 22 (Operand.tmp 67) (Operand.tmp 71), type := 0, pos := "drat.go:143", after := #[{ on := 3, ground := Ground.data }, { on := 7, ground := Ground.data }, { on := 0, ground := Ground.phase }, { on := 1, ground := Ground.phase }, { on := 2, ground := Ground.phase }, { on := 3, ground := Ground.phase }, { on := 4, ground := Ground.phase }, { on := 5, ground := Ground.phase }, { on := 6, ground := Ground.phase }, { on := 7, ground := Ground.phase }, { on := 8, ground := Ground.phase }, { on := 9, ground := Ground.phase }, { on := 10, ground := Ground.phase }, { on := 11, ground := Ground.phase }, { on := 12, ground := Ground.phase }, { on := 13, ground := Ground.phase }, { on := 14, ground := Ground.phase }, { on := 15, ground := Ground.phase }, { on := 16, ground := Ground.phase }, { on := 17, ground := Ground.phase }, { on := 18, ground := Ground.phase }, { on := 19, ground := Ground.phase }, { on := 20, ground := Ground.phase }], guard := none }) (v := ?_) rfl (by kernel_rfl) (by kernel_rfl) (by kernel_rfl) (fun _ _ _ h => h) (Or.inl ⟨by rfl, ?_⟩) (by assumption) ?_
                        rotate_left
                        · intro w hSw; (try dsimp only at hSw); go_simp; all_goals with_reducible rfl
                        try simp only [Act.put, List.setIfInBounds_toArray, List.set_cons_zero, List.set_cons_succ]
                        refine wpAnyH_ready (rs := [22]) (by kernel_rfl) (by simp) ?_
                        refine AllReadyH.cons (o := { dst := none, op := Op.store 33 (Operand.tmp 85) (Operand.tmp 84), type := 0, pos := "drat.go:143", after := #[{ on := 21, ground := Ground.data }, { on := 20, ground := Ground.data }, { on := 20, ground := Ground.chain }, { on := 0, ground := Ground.phase }, { on := 1, ground := Ground.phase }, { on := 2, ground := Ground.phase }, { on := 3, ground := Ground.phase }, { on := 4, ground := Ground.phase }, { on := 5, ground := Ground.phase }, { on := 6, ground := Ground.phase }, { on := 7, ground := Ground.phase }, { on := 8, ground := Ground.phase }, { on := 9, ground := Ground.phase }, { on := 10, ground := Ground.phase }, { on := 11, ground := Ground.phase }, { on := 12, ground := Ground.phase }, { on := 13, ground := Ground.phase }, { on := 14, ground := Ground.phase }, { on := 15, ground := Ground.phase }, { on := 16, ground := Ground.phase }, { on := 17, ground := Ground.phase }, { on := 18, ground := Ground.phase }, { on := 19, ground := Ground.phase }, { on := 20, ground := Ground.phase }], guard := none }) rfl (fun K hK => ?_) ?_
                        · go_simp
                          refine hK.out _ _ ?_ (fun hHeld2 => ?_)
                          · (try dsimp only); first | go_keep | exact ⟨k.1.1, k.1.2.1⟩ | exact kst _ k.1.1 k.1.2.1
                          clear hK K hHeld
                          have hHeld := hHeld2
                          clear hHeld2
                          try simp only [Act.put, List.setIfInBounds_toArray, List.set_cons_zero, List.set_cons_succ]
                          refine wpAnyH_done (by kernel_rfl) ?_ _
                          go_wp2_with fail
                          go_ret2
                          exact k.2
                        exact AllReadyH.nil
                      exact AllReadyH.nil
                    exact AllReadyH.nil
                  refine AllReadyH.cons (o := { dst := some 83, op := Op.buildSlice 33 1 #[(0, Operand.tmp 82)], type := 33, pos := "drat.go:143", after := #[{ on := 18, ground := Ground.data }], guard := none }) rfl (fun K hK => ?_) ?_
                  · go_simp
                    refine hK.out _ _ ?_ (fun hHeld2 => ?_)
                    · (try dsimp only); first | go_keep | exact ⟨k.1.1, k.1.2.1⟩ | exact kst _ k.1.1 k.1.2.1
                    clear hK K hHeld
                    have hHeld := hHeld2
                    clear hHeld2
                    try simp only [Act.put, List.setIfInBounds_toArray, List.set_cons_zero, List.set_cons_succ]
                    refine wpAnyH_ready (rs := [17]) (by kernel_rfl) (by simp) ?_
                    refine AllReadyH.cons (o := { dst := some 81, op := Op.load 33 (Operand.tmp 80), type := 33, pos := "drat.go:143", after := #[{ on := 16, ground := Ground.data }], guard := none }) rfl (fun K hK => ?_) ?_
                    · go_simp
                      refine hK.out _ _ ?_ (fun hHeld2 => ?_)
                      · (try dsimp only); first | go_keep | exact ⟨k.1.1, k.1.2.1⟩ | exact kst _ k.1.1 k.1.2.1
                      clear hK K hHeld
                      have hHeld := hHeld2
                      clear hHeld2
                      try simp only [Act.put, List.setIfInBounds_toArray, List.set_cons_zero, List.set_cons_succ]
                      refine wpAnyH_ready (rs := [20]) (by kernel_rfl) (by simp) ?_
                      refine AllReadyH.cons (o := { dst := some 84, op := Op.call { callee := Callee.builtin Builtin.append, args := #[Operand.tmp 81, Operand.tmp 83], argTypes := #[33, 33] }, type := 33, pos := "drat.go:143", after := #[{ on := 17, ground := Ground.data }, { on := 19, ground := Ground.data }, { on := 15, ground := Ground.chain }], guard := none }) rfl (fun K hK => ?_) ?_
                      · refine step_append_lies _ (by rfl) _ _ _ (by rfl) cx.lo 3 i0 _ 1 8 Tryd.underlying33 hi0 hz0 hz1 hz2 rfl (by decide) wv _ _ (by rfl) ((own2.alloc _).drew) ⟨wc.heap.size, 0, none⟩ 1 1 [.int .i64 (i : Int)] (by rfl) (by rfl) (World.news_of_block (cs := #[.int .i64 (i : Int)]) (t := 3) (fr := (0, 0)) (heap_alloc_new wc _)) (by simp [Value.oneCell']) (by decide) (by unfold maxLen; omega) (by omega) (by have := h2.lo_le; simp; omega) (wc.heap.size + 1) (by simp) ?_
                        intro gg cp w1 hown1 hgrow hat hlt
                        have k := key _ gg cp w1 hown1 hgrow hat hlt
                        have kf := k.1.2.2.2
                        refine hK.out _ _ ?_ (fun hHeld2 => ?_)
                        · (try dsimp only); first | go_keep | exact ⟨k.1.1, k.1.2.1⟩ | exact kst _ k.1.1 k.1.2.1
                        clear hK K hHeld
                        have hHeld := hHeld2
                        clear hHeld2
                        try simp only [Act.put, List.setIfInBounds_toArray, List.set_cons_zero, List.set_cons_succ]
                        refine wpAnyH_take (i := 21) (oi := { dst := some 85, op := Op.indexAddr 22 (Operand.tmp 67) (Operand.tmp 71), type := 0, pos := "drat.go:143", after := #[{ on := 3, ground := Ground.data }, { on := 7, ground := Ground.data }, { on := 0, ground := Ground.phase }, { on := 1, ground := Ground.phase }, { on := 2, ground := Ground.phase }, { on := 3, ground := Ground.phase }, { on := 4, ground := Ground.phase }, { on := 5, ground := Ground.phase }, { on := 6, ground := Ground.phase }, { on := 7, ground := Ground.phase }, { on := 8, ground := Ground.phase }, { on := 9, ground := Ground.phase }, { on := 10, ground := Ground.phase }, { on := 11, ground := Ground.phase }, { on := 12, ground := Ground.phase }, { on := 13, ground := Ground.phase }, { on := 14, ground := Ground.phase }, { on := 15, ground := Ground.phase }, { on := 16, ground := Ground.phase }, { on := 17, ground := Ground.phase }, { on := 18, ground := Ground.phase }, { on := 19, ground := Ground.phase }, { on := 20, ground := Ground.phase }], guard := none }) (v := ?_) rfl (by kernel_rfl) (by kernel_rfl) (by kernel_rfl) (fun _ _ _ h => h) (Or.inl ⟨by rfl, ?_⟩) (by assumption) ?_
                        rotate_left
                        · intro w hSw; (try dsimp only at hSw); go_simp; all_goals with_reducible rfl
                        try simp only [Act.put, List.setIfInBounds_toArray, List.set_cons_zero, List.set_cons_succ]
                        refine wpAnyH_ready (rs := [22]) (by kernel_rfl) (by simp) ?_
                        refine AllReadyH.cons (o := { dst := none, op := Op.store 33 (Operand.tmp 85) (Operand.tmp 84), type := 0, pos := "drat.go:143", after := #[{ on := 21, ground := Ground.data }, { on := 20, ground := Ground.data }, { on := 20, ground := Ground.chain }, { on := 0, ground := Ground.phase }, { on := 1, ground := Ground.phase }, { on := 2, ground := Ground.phase }, { on := 3, ground := Ground.phase }, { on := 4, ground := Ground.phase }, { on := 5, ground := Ground.phase }, { on := 6, ground := Ground.phase }, { on := 7, ground := Ground.phase }, { on := 8, ground := Ground.phase }, { on := 9, ground := Ground.phase }, { on := 10, ground := Ground.phase }, { on := 11, ground := Ground.phase }, { on := 12, ground := Ground.phase }, { on := 13, ground := Ground.phase }, { on := 14, ground := Ground.phase }, { on := 15, ground := Ground.phase }, { on := 16, ground := Ground.phase }, { on := 17, ground := Ground.phase }, { on := 18, ground := Ground.phase }, { on := 19, ground := Ground.phase }, { on := 20, ground := Ground.phase }], guard := none }) rfl (fun K hK => ?_) ?_
                        · go_simp
                          refine hK.out _ _ ?_ (fun hHeld2 => ?_)
                          · (try dsimp only); first | go_keep | exact ⟨k.1.1, k.1.2.1⟩ | exact kst _ k.1.1 k.1.2.1
                          clear hK K hHeld
                          have hHeld := hHeld2
                          clear hHeld2
                          try simp only [Act.put, List.setIfInBounds_toArray, List.set_cons_zero, List.set_cons_succ]
                          refine wpAnyH_done (by kernel_rfl) ?_ _
                          go_wp2_with fail
                          go_ret2
                          exact k.2
                        exact AllReadyH.nil
                      exact AllReadyH.nil
                    exact AllReadyH.nil
                  exact AllReadyH.nil
                refine AllReadyH.cons (o := { dst := some 83, op := Op.buildSlice 33 1 #[(0, Operand.tmp 82)], type := 33, pos := "drat.go:143", after := #[{ on := 18, ground := Ground.data }], guard := none }) rfl (fun K hK => ?_) ?_
                · go_simp
                  refine hK.out _ _ ?_ (fun hHeld2 => ?_)
                  · (try dsimp only); first | go_keep | exact ⟨k.1.1, k.1.2.1⟩ | exact kst _ k.1.1 k.1.2.1
                  clear hK K hHeld
                  have hHeld := hHeld2
                  clear hHeld2
                  try simp only [Act.put, List.setIfInBounds_toArray, List.set_cons_zero, List.set_cons_succ]
                  refine wpAnyH_ready (rs := [15]) (by kernel_rfl) (by simp) ?_
                  refine AllReadyH.cons (o := { dst := some 79, op := Op.call { callee := Callee.value (Operand.func 38), args := #[Operand.tmp 78], argTypes := #[3] }, type := 3, pos := "drat.go:143", after := #[{ on := 14, ground := Ground.data }, { on := 7, ground := Ground.chain }], guard := none }) rfl (fun K hK => ?_) ?_
                  · go_simp
                    go_at_call 38; refine (hcd _).mono ?_; rintro e w' ⟨p1, p2⟩; rw [p1, p2]; clear p1 p2
                    go_wp2_with fail
                    refine hK.out _ _ ?_ (fun hHeld2 => ?_)
                    · (try dsimp only); first | go_keep | exact ⟨k.1.1, k.1.2.1⟩ | exact kst _ k.1.1 k.1.2.1
                    clear hK K hHeld
                    have hHeld := hHeld2
                    clear hHeld2
                    try simp only [Act.put, List.setIfInBounds_toArray, List.set_cons_zero, List.set_cons_succ]
                    refine wpAnyH_take (i := 16) (oi := { dst := some 80, op := Op.indexAddr 22 (Operand.tmp 75) (Operand.tmp 79), type := 0, pos := "drat.go:143", after := #[{ on := 11, ground := Ground.data }, { on := 15, ground := Ground.data }], guard := none }) (v := ?_) rfl (by kernel_rfl) (by kernel_rfl) (by kernel_rfl) (fun _ _ _ h => h) (Or.inl ⟨by rfl, ?_⟩) (by assumption) ?_
                    rotate_left
                    · intro w hSw; (try dsimp only at hSw); go_simp; all_goals with_reducible rfl
                    try simp only [Act.put, List.setIfInBounds_toArray, List.set_cons_zero, List.set_cons_succ]
                    refine wpAnyH_ready (rs := [17]) (by kernel_rfl) (by simp) ?_
                    refine AllReadyH.cons (o := { dst := some 81, op := Op.load 33 (Operand.tmp 80), type := 33, pos := "drat.go:143", after := #[{ on := 16, ground := Ground.data }], guard := none }) rfl (fun K hK => ?_) ?_
                    · go_simp
                      refine hK.out _ _ ?_ (fun hHeld2 => ?_)
                      · (try dsimp only); first | go_keep | exact ⟨k.1.1, k.1.2.1⟩ | exact kst _ k.1.1 k.1.2.1
                      clear hK K hHeld
                      have hHeld := hHeld2
                      clear hHeld2
                      try simp only [Act.put, List.setIfInBounds_toArray, List.set_cons_zero, List.set_cons_succ]
                      refine wpAnyH_ready (rs := [20]) (by kernel_rfl) (by simp) ?_
                      refine AllReadyH.cons (o := { dst := some 84, op := Op.call { callee := Callee.builtin Builtin.append, args := #[Operand.tmp 81, Operand.tmp 83], argTypes := #[33, 33] }, type := 33, pos := "drat.go:143", after := #[{ on := 17, ground := Ground.data }, { on := 19, ground := Ground.data }, { on := 15, ground := Ground.chain }], guard := none }) rfl (fun K hK => ?_) ?_
                      · refine step_append_lies _ (by rfl) _ _ _ (by rfl) cx.lo 3 i0 _ 1 8 Tryd.underlying33 hi0 hz0 hz1 hz2 rfl (by decide) wv _ _ (by rfl) ((own2.alloc _).drew) ⟨wc.heap.size, 0, none⟩ 1 1 [.int .i64 (i : Int)] (by rfl) (by rfl) (World.news_of_block (cs := #[.int .i64 (i : Int)]) (t := 3) (fr := (0, 0)) (heap_alloc_new wc _)) (by simp [Value.oneCell']) (by decide) (by unfold maxLen; omega) (by omega) (by have := h2.lo_le; simp; omega) (wc.heap.size + 1) (by simp) ?_
                        intro gg cp w1 hown1 hgrow hat hlt
                        have k := key _ gg cp w1 hown1 hgrow hat hlt
                        have kf := k.1.2.2.2
                        refine hK.out _ _ ?_ (fun hHeld2 => ?_)
                        · (try dsimp only); first | go_keep | exact ⟨k.1.1, k.1.2.1⟩ | exact kst _ k.1.1 k.1.2.1
                        clear hK K hHeld
                        have hHeld := hHeld2
                        clear hHeld2
                        try simp only [Act.put, List.setIfInBounds_toArray, List.set_cons_zero, List.set_cons_succ]
                        refine wpAnyH_take (i := 21) (oi := { dst := some 85, op := Op.indexAddr 22 (Operand.tmp 67) (Operand.tmp 71), type := 0, pos := "drat.go:143", after := #[{ on := 3, ground := Ground.data }, { on := 7, ground := Ground.data }, { on := 0, ground := Ground.phase }, { on := 1, ground := Ground.phase }, { on := 2, ground := Ground.phase }, { on := 3, ground := Ground.phase }, { on := 4, ground := Ground.phase }, { on := 5, ground := Ground.phase }, { on := 6, ground := Ground.phase }, { on := 7, ground := Ground.phase }, { on := 8, ground := Ground.phase }, { on := 9, ground := Ground.phase }, { on := 10, ground := Ground.phase }, { on := 11, ground := Ground.phase }, { on := 12, ground := Ground.phase }, { on := 13, ground := Ground.phase }, { on := 14, ground := Ground.phase }, { on := 15, ground := Ground.phase }, { on := 16, ground := Ground.phase }, { on := 17, ground := Ground.phase }, { on := 18, ground := Ground.phase }, { on := 19, ground := Ground.phase }, { on := 20, ground := Ground.phase }], guard := none }) (v := ?_) rfl (by kernel_rfl) (by kernel_rfl) (by kernel_rfl) (fun _ _ _ h => h) (Or.inl ⟨by rfl, ?_⟩) (by assumption) ?_
                        rotate_left
                        · intro w hSw; (try dsimp only at hSw); go_simp; all_goals with_reducible rfl
                        try simp only [Act.put, List.setIfInBounds_toArray, List.set_cons_zero, List.set_cons_succ]
                        refine wpAnyH_ready (rs := [22]) (by kernel_rfl) (by simp) ?_
                        refine AllReadyH.cons (o := { dst := none, op := Op.store 33 (Operand.tmp 85) (Operand.tmp 84), type := 0, pos := "drat.go:143", after := #[{ on := 21, ground := Ground.data }, { on := 20, ground := Ground.data }, { on := 20, ground := Ground.chain }, { on := 0, ground := Ground.phase }, { on := 1, ground := Ground.phase }, { on := 2, ground := Ground.phase }, { on := 3, ground := Ground.phase }, { on := 4, ground := Ground.phase }, { on := 5, ground := Ground.phase }, { on := 6, ground := Ground.phase }, { on := 7, ground := Ground.phase }, { on := 8, ground := Ground.phase }, { on := 9, ground := Ground.phase }, { on := 10, ground := Ground.phase }, { on := 11, ground := Ground.phase }, { on := 12, ground := Ground.phase }, { on := 13, ground := Ground.phase }, { on := 14, ground := Ground.phase }, { on := 15, ground := Ground.phase }, { on := 16, ground := Ground.phase }, { on := 17, ground := Ground.phase }, { on := 18, ground := Ground.phase }, { on := 19, ground := Ground.phase }, { on := 20, ground := Ground.phase }], guard := none }) rfl (fun K hK => ?_) ?_
                        · go_simp
                          refine hK.out _ _ ?_ (fun hHeld2 => ?_)
                          · (try dsimp only); first | go_keep | exact ⟨k.1.1, k.1.2.1⟩ | exact kst _ k.1.1 k.1.2.1
                          clear hK K hHeld
                          have hHeld := hHeld2
                          clear hHeld2
                          try simp only [Act.put, List.setIfInBounds_toArray, List.set_cons_zero, List.set_cons_succ]
                          refine wpAnyH_done (by kernel_rfl) ?_ _
                          go_wp2_with fail
                          go_ret2
                          exact k.2
                        exact AllReadyH.nil
                      exact AllReadyH.nil
                    exact AllReadyH.nil
                  exact AllReadyH.nil
                exact AllReadyH.nil
              refine AllReadyH.cons (o := { dst := some 83, op := Op.buildSlice 33 1 #[(0, Operand.tmp 82)], type := 33, pos := "drat.go:143", after := #[{ on := 18, ground := Ground.data }], guard := none }) rfl (fun K hK => ?_) ?_
              · go_simp
                refine hK.out _ _ ?_ (fun hHeld2 => ?_)
                · (try dsimp only); first | go_keep | exact ⟨k.1.1, k.1.2.1⟩ | exact kst _ k.1.1 k.1.2.1
                clear hK K hHeld
                have hHeld := hHeld2
                clear hHeld2
                try simp only [Act.put, List.setIfInBounds_toArray, List.set_cons_zero, List.set_cons_succ]
                refine wpAnyH_ready (rs := [7]) (by kernel_rfl) (by simp) ?_
                refine AllReadyH.cons (o := { dst := some 71, op := Op.call { callee := Callee.value (Operand.func 38), args := #[Operand.tmp 70], argTypes := #[3] }, type := 3, pos := "drat.go:143", after := #[{ on := 6, ground := Ground.data }], guard := none }) rfl (fun K hK => ?_) ?_
                · go_simp
                  go_at_call 38; refine (hcd _).mono ?_; rintro e w' ⟨p1, p2⟩; rw [p1, p2]; clear p1 p2
                  go_wp2_with fail
                  refine hK.out _ _ ?_ (fun hHeld2 => ?_)
                  · (try dsimp only); first | go_keep | exact ⟨k.1.1, k.1.2.1⟩ | exact kst _ k.1.1 k.1.2.1
                  clear hK K hHeld
                  have hHeld := hHeld2
                  clear hHeld2
                  try simp only [Act.put, List.setIfInBounds_toArray, List.set_cons_zero, List.set_cons_succ]
                  refine wpAnyH_ready (rs := [15]) (by kernel_rfl) (by simp) ?_
                  refine AllReadyH.cons (o := { dst := some 79, op := Op.call { callee := Callee.value (Operand.func 38), args := #[Operand.tmp 78], argTypes := #[3] }, type := 3, pos := "drat.go:143", after := #[{ on := 14, ground := Ground.data }, { on := 7, ground := Ground.chain }], guard := none }) rfl (fun K hK => ?_) ?_
                  · go_simp
                    go_at_call 38; refine (hcd _).mono ?_; rintro e w' ⟨p1, p2⟩; rw [p1, p2]; clear p1 p2
                    go_wp2_with fail
                    refine hK.out _ _ ?_ (fun hHeld2 => ?_)
                    · (try dsimp only); first | go_keep | exact ⟨k.1.1, k.1.2.1⟩ | exact kst _ k.1.1 k.1.2.1
                    clear hK K hHeld
                    have hHeld := hHeld2
                    clear hHeld2
                    try simp only [Act.put, List.setIfInBounds_toArray, List.set_cons_zero, List.set_cons_succ]
                    refine wpAnyH_take (i := 16) (oi := { dst := some 80, op := Op.indexAddr 22 (Operand.tmp 75) (Operand.tmp 79), type := 0, pos := "drat.go:143", after := #[{ on := 11, ground := Ground.data }, { on := 15, ground := Ground.data }], guard := none }) (v := ?_) rfl (by kernel_rfl) (by kernel_rfl) (by kernel_rfl) (fun _ _ _ h => h) (Or.inl ⟨by rfl, ?_⟩) (by assumption) ?_
                    rotate_left
                    · intro w hSw; (try dsimp only at hSw); go_simp; all_goals with_reducible rfl
                    try simp only [Act.put, List.setIfInBounds_toArray, List.set_cons_zero, List.set_cons_succ]
                    refine wpAnyH_ready (rs := [17]) (by kernel_rfl) (by simp) ?_
                    refine AllReadyH.cons (o := { dst := some 81, op := Op.load 33 (Operand.tmp 80), type := 33, pos := "drat.go:143", after := #[{ on := 16, ground := Ground.data }], guard := none }) rfl (fun K hK => ?_) ?_
                    · go_simp
                      refine hK.out _ _ ?_ (fun hHeld2 => ?_)
                      · (try dsimp only); first | go_keep | exact ⟨k.1.1, k.1.2.1⟩ | exact kst _ k.1.1 k.1.2.1
                      clear hK K hHeld
                      have hHeld := hHeld2
                      clear hHeld2
                      try simp only [Act.put, List.setIfInBounds_toArray, List.set_cons_zero, List.set_cons_succ]
                      refine wpAnyH_ready (rs := [20]) (by kernel_rfl) (by simp) ?_
                      refine AllReadyH.cons (o := { dst := some 84, op := Op.call { callee := Callee.builtin Builtin.append, args := #[Operand.tmp 81, Operand.tmp 83], argTypes := #[33, 33] }, type := 33, pos := "drat.go:143", after := #[{ on := 17, ground := Ground.data }, { on := 19, ground := Ground.data }, { on := 15, ground := Ground.chain }], guard := none }) rfl (fun K hK => ?_) ?_
                      · refine step_append_lies _ (by rfl) _ _ _ (by rfl) cx.lo 3 i0 _ 1 8 Tryd.underlying33 hi0 hz0 hz1 hz2 rfl (by decide) wv _ _ (by rfl) ((own2.alloc _).drew) ⟨wc.heap.size, 0, none⟩ 1 1 [.int .i64 (i : Int)] (by rfl) (by rfl) (World.news_of_block (cs := #[.int .i64 (i : Int)]) (t := 3) (fr := (0, 0)) (heap_alloc_new wc _)) (by simp [Value.oneCell']) (by decide) (by unfold maxLen; omega) (by omega) (by have := h2.lo_le; simp; omega) (wc.heap.size + 1) (by simp) ?_
                        intro gg cp w1 hown1 hgrow hat hlt
                        have k := key _ gg cp w1 hown1 hgrow hat hlt
                        have kf := k.1.2.2.2
                        refine hK.out _ _ ?_ (fun hHeld2 => ?_)
                        · (try dsimp only); first | go_keep | exact ⟨k.1.1, k.1.2.1⟩ | exact kst _ k.1.1 k.1.2.1
                        clear hK K hHeld
                        have hHeld := hHeld2
                        clear hHeld2
                        try simp only [Act.put, List.setIfInBounds_toArray, List.set_cons_zero, List.set_cons_succ]
                        refine wpAnyH_take (i := 21) (oi := { dst := some 85, op := Op.indexAddr 22 (Operand.tmp 67) (Operand.tmp 71), type := 0, pos := "drat.go:143", after := #[{ on := 3, ground := Ground.data }, { on := 7, ground := Ground.data }, { on := 0, ground := Ground.phase }, { on := 1, ground := Ground.phase }, { on := 2, ground := Ground.phase }, { on := 3, ground := Ground.phase }, { on := 4, ground := Ground.phase }, { on := 5, ground := Ground.phase }, { on := 6, ground := Ground.phase }, { on := 7, ground := Ground.phase }, { on := 8, ground := Ground.phase }, { on := 9, ground := Ground.phase }, { on := 10, ground := Ground.phase }, { on := 11, ground := Ground.phase }, { on := 12, ground := Ground.phase }, { on := 13, ground := Ground.phase }, { on := 14, ground := Ground.phase }, { on := 15, ground := Ground.phase }, { on := 16, ground := Ground.phase }, { on := 17, ground := Ground.phase }, { on := 18, ground := Ground.phase }, { on := 19, ground := Ground.phase }, { on := 20, ground := Ground.phase }], guard := none }) (v := ?_) rfl (by kernel_rfl) (by kernel_rfl) (by kernel_rfl) (fun _ _ _ h => h) (Or.inl ⟨by rfl, ?_⟩) (by assumption) ?_
                        rotate_left
                        · intro w hSw; (try dsimp only at hSw); go_simp; all_goals with_reducible rfl
                        try simp only [Act.put, List.setIfInBounds_toArray, List.set_cons_zero, List.set_cons_succ]
                        refine wpAnyH_ready (rs := [22]) (by kernel_rfl) (by simp) ?_
                        refine AllReadyH.cons (o := { dst := none, op := Op.store 33 (Operand.tmp 85) (Operand.tmp 84), type := 0, pos := "drat.go:143", after := #[{ on := 21, ground := Ground.data }, { on := 20, ground := Ground.data }, { on := 20, ground := Ground.chain }, { on := 0, ground := Ground.phase }, { on := 1, ground := Ground.phase }, { on := 2, ground := Ground.phase }, { on := 3, ground := Ground.phase }, { on := 4, ground := Ground.phase }, { on := 5, ground := Ground.phase }, { on := 6, ground := Ground.phase }, { on := 7, ground := Ground.phase }, { on := 8, ground := Ground.phase }, { on := 9, ground := Ground.phase }, { on := 10, ground := Ground.phase }, { on := 11, ground := Ground.phase }, { on := 12, ground := Ground.phase }, { on := 13, ground := Ground.phase }, { on := 14, ground := Ground.phase }, { on := 15, ground := Ground.phase }, { on := 16, ground := Ground.phase }, { on := 17, ground := Ground.phase }, { on := 18, ground := Ground.phase }, { on := 19, ground := Ground.phase }, { on := 20, ground := Ground.phase }], guard := none }) rfl (fun K hK => ?_) ?_
                        · go_simp
                          refine hK.out _ _ ?_ (fun hHeld2 => ?_)
                          · (try dsimp only); first | go_keep | exact ⟨k.1.1, k.1.2.1⟩ | exact kst _ k.1.1 k.1.2.1
                          clear hK K hHeld
                          have hHeld := hHeld2
                          clear hHeld2
                          try simp only [Act.put, List.setIfInBounds_toArray, List.set_cons_zero, List.set_cons_succ]
                          refine wpAnyH_done (by kernel_rfl) ?_ _
                          go_wp2_with fail
                          go_ret2
                          exact k.2
                        exact AllReadyH.nil
                      exact AllReadyH.nil
                    exact AllReadyH.nil
                  exact AllReadyH.nil
                exact AllReadyH.nil
              exact AllReadyH.nil
        · have e0 : q = r.length := by omega
          have hfull : r.take q = r := List.take_of_length_le (by omega)
          rw [hfull] at hall
          have hlet := let_rep cx own rv _ a wr h1 hf hla.2 hla.1 hV htl
          clear kr hV1 hv
          have hqn : ¬ ((q + 2 : Nat) : Int) < n := by omega
          have hend : ∀ b S' own' rv' w', LetR { S with lits := upd S.lits i (a :: l :: r) } a b S' → Rep cx w' own' rv' S' → Frm own own' wr w' → (∀ t, t ≠ .trail → rv' t = rv t) → VisitOut cx own rv S i l w (.returned (.tuple #[.bool true, .bool b])) w' := by
            intro b S' own' rv' w' hR hrep hfr2 hrv
            rcases hR with ⟨e1, rfl, rfl⟩ | ⟨e1, rfl, rfl⟩ | ⟨e1, rfl, rfl⟩
            · exact absurd (hva.symm.trans e1) hat
            · exact .of (.no a r ht hall e1) hrep (hfr.trans hfr2) (fun c _ => hrv _ (by intro e; cases e)) fun c => hrv _ (by intro e; cases e)
            · exact .of (.un a r ht hall e1) hrep (hfr.trans hfr2) (fun c _ => hrv _ (by intro e; cases e)) fun c => hrv _ (by intro e; cases e)
          clear hlr hla hmem
          go_wp2_with (go_at_call 49; refine hlet.mono ?_; rintro e w2 ⟨b, S', own', rv', hR, p1, hrep, hfr2, hrv⟩; rw [p1]; clear p1)
          have hE := hend b S' own' rv' w2 hR hrep hfr2 hrv
          go_wp2
          go_ret2
          exact hE
end Go.Proofs.YtagfnjpjmmleiaaDoor

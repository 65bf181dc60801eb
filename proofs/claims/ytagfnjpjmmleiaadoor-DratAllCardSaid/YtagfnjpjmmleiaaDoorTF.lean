/- Drat: the checker takes all back. -/
import Derived.Test.YtagfnjpjmmleiaaDoorTE
import Derived.Defers
set_option linter.unusedVariables false
set_option linter.unusedSimpArgs false
set_option autoImplicit false
set_option linter.unusedVariables false
set_option linter.unusedSimpArgs false
namespace Go.Proofs.YtagfnjpjmmleiaaDoor
open Go.Shelf Go.RowKit
def undoV (vs : List Int) (tr : List Int) : List Int := tr.foldl (fun v l => v.set l.natAbs 0) vs
theorem undoV_snoc (vs tr : List Int) (l : Int) : undoV vs (tr ++ [l]) = (undoV vs tr).set l.natAbs 0 := by simp [undoV]
theorem undoV_length (vs tr : List Int) : (undoV vs tr).length = vs.length := by
  unfold undoV
  induction tr generalizing vs with
  | nil => rfl
  | cons a tr ih => rw [List.foldl_cons, ih, List.length_set]
/-- a slice field of the checker's is cut to nothing -/
theorem Rep.cutTrail {cx : Cx} {w : World} {own : Nat → Option Tag} {rv : Tag → Value} {S : St} (h : Rep cx w own rv S) {a : Option Addr} {n cap : Nat} (hv : rv .trail = .slice a n cap) :
    Rep cx (w.setCell ⟨cx.xb, 8, none⟩ (.slice a 0 cap)) own (upd rv .trail (.slice a 0 cap)) { S with trail := [] } := by
  refine h.setFld (by decide) _ (upd_same ..) (fun j hj hne => ?_) (fun c => upd_other _ _ (by intro e; cases e)) (fun c => upd_other _ _ (by intro e; cases e)) (fun c => upd_other _ _ (by intro e; cases e)) rfl rfl fun t ht => ?_
  · match j, hj, hne with
    | 0, _, _ => rfl
    | 1, _, _ => exact upd_other _ _ (by intro e; cases e)
    | 2, _, _ => rfl
    | 3, _, _ => rfl
    | 4, _, _ => exact upd_other _ _ (by intro e; cases e)
    | 5, _, _ => rfl
    | 6, _, _ => rfl
    | 7, _, _ => rfl
    | 8, _, hne => exact absurd rfl hne
    | j + 9, hj, _ => omega
  · by_cases e : t = .trail
    · subst e
      rw [upd_same]
      refine .inr ⟨⟨rfl, ?_⟩, fun g hg => (h.rows .trail rfl).lab g (by rw [hv]; cases a <;> exact hg)⟩
      have hr := (h.rows .trail rfl).row.2
      rw [hv] at hr
      rcases hr with ⟨e1, _⟩ | ⟨g, cap', cur, e1, hb, hg, h1, h2, h3, h4⟩
      · cases e1; exact .inl ⟨rfl, rfl⟩
      · cases e1; exact .inr ⟨g, cap, cur, rfl, hb, hg, Nat.zero_le _, h2, h3, rfl⟩
    · exact .inl ⟨upd_other _ _ e, elen_of .trail e (fun _ => rfl) (fun _ _ => rfl) (fun _ _ => rfl) (fun _ _ => rfl) (fun _ _ => rfl) (fun _ => rfl) (fun e => absurd rfl e), cont_of .trail e (fun _ => ⟨rfl, rfl, fun i _ => upd_other _ _ (by intro e; cases e)⟩) (fun _ _ => rfl) (fun _ _ => rfl) (fun _ _ => rfl) (fun _ _ => rfl) (fun _ => rfl) (fun e => absurd rfl e)⟩
def UndoOut (cx : Cx) (own : Nat → Option Tag) (rv : Tag → Value) (S : St) (w : World) (e : Ending) (w' : World) : Prop :=
  e = .returned (.tuple #[]) ∧ ∃ rv', Rep cx w' own rv' { S with vals := undoV S.vals S.trail, trail := [] } ∧ Frm own own w w' ∧ ∀ t, t ≠ .trail → rv' t = rv t
set_option maxHeartbeats 8000000 in
set_option maxRecDepth 1000000 in
theorem undo_walk (cx : Cx) (own : Nat → Option Tag) (rv : Tag → Value) (S : St) (w : World) (h : Rep cx w own rv S) (hf : S.vals.length = cx.V + 1) (hl : Lits (cx.V + 1) S.trail) (hV : cx.V ≤ 999999999) (htl : S.trail.length ≤ 1000000000) :
    ∀ u, CallsD Tryd.prog 48 #[.pointer (some ⟨cx.xb, 0, none⟩)] u w fun e u' w' => u' = u ∧ UndoOut cx own rv S w e w' := by
  intro u
  have c8 : w.cell? ⟨cx.xb, 8, none⟩ = some (rv .trail) := (h.x.cell 8 (by decide)).1
  have hrow := (h.rows .trail rfl).row
  have hrow : w.ownsRow cx.lo 3 1 (rv .trail) S.trail.length (intC S.trail) := hrow
  obtain ⟨a, n, cap, hv, hn, hcells⟩ : ∃ a n cap, rv .trail = .slice a n cap ∧ n = S.trail.length ∧ ∀ k, k < n → ∃ g, a = some ⟨g, 0, none⟩ ∧ own g = some .trail ∧ w.cell? ⟨g, k, none⟩ = some (.int .i64 (S.trail.getD k 0)) := by
    rcases hrow.2 with ⟨e1, e2⟩ | ⟨g, cap, cur, e1, _⟩
    · exact ⟨none, 0, 0, e1, e2.symm, fun k hk => by omega⟩
    · refine ⟨_, _, cap, e1, rfl, fun k hk => ⟨g, rfl, (h.rows .trail rfl).lab g (by rw [e1]; rfl), ?_⟩⟩
      rw [e1] at hrow
      rw [hrow.cellAt k (by omega)]
      unfold intC
      rw [List.getElem?_map, List.getD_eq_getElem?_getD, List.getElem?_eq_getElem hk]; rfl
  rw [hv] at c8
  go_enter_d Tryd.func48, Tryd.ntmps48
  go_wp2
  go_loopw [9] (fun i wr => ∃ k : Nat, k ≤ n ∧ i = .int .i64 k ∧ Rep cx wr own rv { S with vals := undoV S.vals (S.trail.take k) } ∧ Frm own own w wr) (fun i _ => n - (intOf i).toNat)
  case atStart => exact ⟨0, Nat.zero_le _, rfl, h, Frm.refl _ _⟩
  case round =>
    obtain ⟨k, hk, rfl, hrep, hfr⟩ := hrel
    by_cases hlt : k < n
    · obtain ⟨g, rfl, hgo, _⟩ := hcells k hlt
      have hck : wr.cell? ⟨g, k, none⟩ = some (.int .i64 (S.trail.getD k 0)) := by
        have hr2 := (hrep.rows .trail rfl).row
        have hr2 : wr.ownsRow cx.lo 3 1 (rv .trail) S.trail.length (intC S.trail) := hr2
        rw [hv, ← hn] at hr2
        rw [hr2.cellAt k (by omega)]
        unfold intC
        rw [List.getElem?_map, List.getD_eq_getElem?_getD, List.getElem?_eq_getElem (by omega)]; rfl
      have htk := take_snoc (zs := S.trail) (k := k) (by omega)
      have hlk := hl (S.trail.getD k 0) (by rw [List.getD_eq_getElem?_getD, List.getElem?_eq_getElem (by omega)]; exact List.getElem_mem _)
      obtain ⟨x, hx⟩ : ∃ x, S.trail.getD k 0 = x := ⟨_, rfl⟩
      rw [hx] at hck htk hlk
      obtain ⟨m, hm⟩ : ∃ m, x.natAbs = m := ⟨_, rfl⟩
      have hmV : m < cx.V + 1 := hm ▸ hlk.2
      have hmI : (m : Int) < (cx.V + 1 : Nat) := by omega
      have c7 : wr.cell? ⟨cx.xb, 7, none⟩ = some (.slice (some ⟨cx.vb, 0, none⟩) (cx.V + 1) cx.vc) := (hrep.x.cell 7 (by decide)).1
      obtain ⟨cm, fm⟩ := hrep.vt.cell m hmV
      have hset := hrep.setVal (by rw [undoV_length]; exact hf) hmV 0
      have hst : ({ ({ S with vals := undoV S.vals (S.trail.take k) } : St) with vals := (undoV S.vals (S.trail.take k)).set m 0 } : St) = { S with vals := undoV S.vals (S.trail.take (k + 1)) } := by rw [htk, undoV_snoc, hm]
      simp only [hst] at hset
      have hfr2 := hfr.setCell (p := ⟨cx.vb, m, none⟩) h.vt.lab (.int .i8 0)
      have hkI : (k : Int) < n := by omega
      have hmx1 : max (m : Int) (-(m : Int)) = m := by omega
      have hmx2 : max (-(m : Int)) (m : Int) = m := by omega
      clear hcells c8
      rcases (show (0 < x ∧ x = (m : Int)) ∨ (¬ 0 < x ∧ x = -(m : Int)) by omega) with ⟨hp, rfl⟩ | ⟨hp, rfl⟩
      · go_wp2
        go_roundw
        case rel => exact ⟨k + 1, hlt, (by simp), hset, hfr2⟩
        case measure => simp [intOf]; omega
      · go_wp2
        go_roundw
        case rel => exact ⟨k + 1, hlt, (by simp), hset, hfr2⟩
        case measure => simp [intOf]; omega
    · have e0 : k = n := by omega
      subst e0
      have hfull : S.trail.take k = S.trail := List.take_of_length_le (by omega)
      rw [hfull] at hrep
      have hR := hrep.cutTrail hv
      have c8r : wr.cell? ⟨cx.xb, 8, none⟩ = some (.slice a k cap) := by rw [← hv]; exact (hrep.x.cell 8 (by decide)).1
      have f8r := (hrep.x.cell 8 (by decide)).2
      have hE : UndoOut cx own rv S w (.returned (.tuple #[])) (wr.setCell ⟨cx.xb, 8, none⟩ (.slice a 0 cap)) := ⟨rfl, _, hR, hfr.setCell (p := ⟨cx.xb, 8, none⟩) h.x.lab _, fun t ht => upd_other _ _ ht⟩
      clear hcells c8
      go_wp2
      go_end0
      exact hE
end Go.Proofs.YtagfnjpjmmleiaaDoor

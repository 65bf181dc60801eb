/- Sat: each row's head is kept in one place. -/
import Derived.Test.YtkpppmldbhgcgaaSaBtoSaE
import Derived.Laws.Cover2
import Derived.Deep.QuietTactic
import Derived.BigQuiet
import Derived.RegionTactic
import Derived.ChangeAlike
import Derived.BigRegion
import Derived.Deep.Cut
import Derived.Deep.RegionHeld3
import Derived.Deep.DrawnRows
set_option linter.unusedVariables false
set_option linter.unusedSimpArgs false
set_option autoImplicit false
set_option linter.unusedVariables false
set_option linter.unusedSimpArgs false
namespace Go.Proofs.Ytkpppmldbhgcgaa
open Go Go.RowKit
/-- where a row's head is kept -/
def home : Tg → Tg × Nat
  | .ov => (.x, 0)
  | .pl => (.x, 1)
  | .sc => (.x, 2)
  | .all => (.x, 4)
  | .wt => (.x, 5)
  | .vals => (.x, 6)
  | .lev => (.x, 7)
  | .rea => (.x, 8)
  | .sav => (.x, 9)
  | .tr => (.x, 10)
  | .st => (.x, 11)
  | .prf => (.x, 14)
  | .seen => (.x, 16)
  | .wr c => (.wt, c)
  | .lits i => (.cl i, 0)
  | .pc k => (.prf, 2 * k + 1)
  | .x => (.x, 99)
  | .cl i => (.x, 99)
theorem map_val {α : Type} {f : α → Value} {l : List α} {k : Nat} {t : Tg} (h : (l.map fun a => (AC.val (f a) : AC Tg))[k]? = some (AC.ref t)) : False := by
  rw [List.getElem?_map] at h
  cases e : l[k]? with
  | none => rw [e] at h; cases h
  | some a => rw [e] at h; cases h
theorem pcs_ref : ∀ (l : List (Bool × List Int)) (j k : Nat) (t : Tg), (pcs j l)[k]? = some (AC.ref t) → ∃ q, t = .pc (j + q) ∧ k = 2 * q + 1
  | [], j, k, t, h => by simp [pcs] at h
  | p :: l, j, 0, t, h => by simp [pcs, vb] at h
  | p :: l, j, 1, t, h => by
    simp [pcs] at h
    exact ⟨0, h.symm, rfl⟩
  | p :: l, j, k + 2, t, h => by
    obtain ⟨q, e1, e2⟩ := pcs_ref l (j + 1) k t (by simpa [pcs] using h)
    exact ⟨q + 1, by rw [e1]; congr 1; omega, by omega⟩
theorem ref_home (S : Sz) {q t : Tg} {k : Nat} (hr : kd.row t = true) (h : (mem S q).cs[k]? = some (AC.ref t)) : (q, k) = home t := by
  cases q with
  | x =>
    have h : (xcs S)[k]? = some (AC.ref t) := h
    unfold xcs at h
    match k, h with
    | 0, h => cases h; rfl
    | 1, h => cases h; rfl
    | 2, h => cases h; rfl
    | 3, h => cases h
    | 4, h => cases h; rfl
    | 5, h => cases h; rfl
    | 6, h => cases h; rfl
    | 7, h => cases h; rfl
    | 8, h => cases h; rfl
    | 9, h => cases h; rfl
    | 10, h => cases h; rfl
    | 11, h => cases h; rfl
    | 12, h => cases h
    | 13, h => cases h
    | 14, h => cases h; rfl
    | 15, h => cases h
    | 16, h => cases h; rfl
    | 17, h => cases h
    | k + 18, h => simp at h
  | cl i =>
    have h : (match S.cls[i]? with | some c => ccs i c | none => [])[k]? = some (AC.ref t) := h
    cases e : S.cls[i]? with
    | none => rw [e] at h; simp at h
    | some c =>
      rw [e] at h
      have h : (ccs i c)[k]? = some (AC.ref t) := h
      unfold ccs at h
      match k, h with
      | 0, h => cases h; rfl
      | 1, h => cases h
      | 2, h => cases h
      | 3, h => cases h
      | k + 4, h => simp at h
  | lits i =>
    have h : (match S.cls[i]? with | some c => c.lits.map vi | none => [])[k]? = some (AC.ref t) := h
    cases e : S.cls[i]? with
    | none => rw [e] at h; simp at h
    | some c => rw [e] at h; exact (map_val h).elim
  | pc i =>
    have h : (match S.prf[i]? with | some p => p.2.map vi | none => [])[k]? = some (AC.ref t) := h
    cases e : S.prf[i]? with
    | none => rw [e] at h; simp at h
    | some c => rw [e] at h; exact (map_val h).elim
  | ov => exact (map_val h).elim
  | pl => exact (map_val h).elim
  | sc => exact (map_val h).elim
  | vals => exact (map_val h).elim
  | lev => exact (map_val h).elim
  | sav => exact (map_val h).elim
  | tr => exact (map_val h).elim
  | st => exact (map_val h).elim
  | seen => exact (map_val h).elim
  | all =>
    have h : (S.all.map pr)[k]? = some (AC.ref t) := h
    rw [List.getElem?_map] at h
    cases e : S.all[k]? with
    | none => rw [e] at h; cases h
    | some a => rw [e] at h; cases h; cases hr
  | wr c =>
    have h : ((S.watch.getD c []).map pr)[k]? = some (AC.ref t) := h
    rw [List.getElem?_map] at h
    cases e : (S.watch.getD c [])[k]? with
    | none => rw [e] at h; cases h
    | some a => rw [e] at h; cases h; cases hr
  | rea =>
    have h : (S.rea.map pro)[k]? = some (AC.ref t) := h
    rw [List.getElem?_map] at h
    cases e : S.rea[k]? with
    | none => rw [e] at h; cases h
    | some a =>
      rw [e] at h
      cases a with
      | none => cases h
      | some a => cases h; cases hr
  | wt =>
    have h : ((List.range S.watch.length).map fun c => (AC.ref (Tg.wr c) : AC Tg))[k]? = some (AC.ref t) := h
    rw [List.getElem?_map] at h
    by_cases hk : k < S.watch.length
    · rw [List.getElem?_range hk] at h
      cases h
      rfl
    · rw [List.getElem?_eq_none (by rw [List.length_range]; omega)] at h
      cases h
  | prf =>
    obtain ⟨q, e1, e2⟩ := pcs_ref S.prf 0 k t h
    rw [e1, e2, Nat.zero_add]
    rfl
/-- so it is kept nowhere else -/
theorem ref_uniq (S : Sz) {t p : Tg} {m : Nat} (hr : kd.row t = true) (hh : home t = (p, m)) : ∀ q (k : Nat), (mem S q).cs[k]? = some (AC.ref t) → q = p ∧ k = m := fun q k h => by
  have := ref_home S hr h
  rw [hh] at this
  exact ⟨congrArg Prod.fst this, congrArg Prod.snd this⟩
end Go.Proofs.Ytkpppmldbhgcgaa
/- Sat: what turns in memory where a field turns. -/
set_option autoImplicit false
set_option linter.unusedVariables false
set_option linter.unusedSimpArgs false
namespace Go.Proofs.Ytkpppmldbhgcgaa
open Go Go.RowKit
theorem row_set (l : List (AC Tg)) (i : Nat) (a : AC Tg) : (⟨(row l).n, (row l).cs.set i a⟩ : Ob Tg) = row (l.set i a) := by unfold row; rw [List.length_set]
theorem row_snoc (l : List (AC Tg)) (a : AC Tg) : (⟨(row l).n + 1, (row l).cs ++ [a]⟩ : Ob Tg) = row (l ++ [a]) := by unfold row; rw [List.length_append]; rfl
theorem row_app (l m : List (AC Tg)) : (⟨(row l).n + m.length, (row l).cs ++ m⟩ : Ob Tg) = row (l ++ m) := by unfold row; rw [List.length_append]
theorem row_take (l : List (AC Tg)) (k : Nat) (hk : k ≤ l.length) : (⟨k, (row l).cs.take (k * 1)⟩ : Ob Tg) = row (l.take k) := by unfold row; rw [List.length_take, Nat.min_eq_left hk, Nat.mul_one]

theorem mem_ov_ (S : Sz) (l : List Int) : mem { S with ov := l } = upd (mem S) .ov (row (l.map vi)) := by
  funext t
  by_cases e : t = .ov
  · subst e; rw [upd_same]; rfl
  · rw [upd_other _ _ e]
    cases t <;> first | rfl | exact absurd rfl e
theorem mem_pl_ (S : Sz) (l : List Int) : mem { S with pl := l } = upd (mem S) .pl (row (l.map vi)) := by
  funext t
  by_cases e : t = .pl
  · subst e; rw [upd_same]; rfl
  · rw [upd_other _ _ e]
    cases t <;> first | rfl | exact absurd rfl e
theorem mem_sc_ (S : Sz) (l : List Nat) : mem { S with sc := l } = upd (mem S) .sc (row (l.map (fun b => .val (.float .f64 b)))) := by
  funext t
  by_cases e : t = .sc
  · subst e; rw [upd_same]; rfl
  · rw [upd_other _ _ e]
    cases t <;> first | rfl | exact absurd rfl e
theorem mem_all_ (S : Sz) (l : List Nat) : mem { S with all := l } = upd (mem S) .all (row (l.map pr)) := by
  funext t
  by_cases e : t = .all
  · subst e; rw [upd_same]; rfl
  · rw [upd_other _ _ e]
    cases t <;> first | rfl | exact absurd rfl e
theorem mem_vals_ (S : Sz) (l : List Int) : mem { S with vals := l } = upd (mem S) .vals (row (l.map (fun v => .val (.int .i8 v)))) := by
  funext t
  by_cases e : t = .vals
  · subst e; rw [upd_same]; rfl
  · rw [upd_other _ _ e]
    cases t <;> first | rfl | exact absurd rfl e
theorem mem_lev_ (S : Sz) (l : List Int) : mem { S with lev := l } = upd (mem S) .lev (row (l.map vi)) := by
  funext t
  by_cases e : t = .lev
  · subst e; rw [upd_same]; rfl
  · rw [upd_other _ _ e]
    cases t <;> first | rfl | exact absurd rfl e
theorem mem_rea_ (S : Sz) (l : List (Option Nat)) : mem { S with rea := l } = upd (mem S) .rea (row (l.map pro)) := by
  funext t
  by_cases e : t = .rea
  · subst e; rw [upd_same]; rfl
  · rw [upd_other _ _ e]
    cases t <;> first | rfl | exact absurd rfl e
theorem mem_sav_ (S : Sz) (l : List Bool) : mem { S with sav := l } = upd (mem S) .sav (row (l.map vb)) := by
  funext t
  by_cases e : t = .sav
  · subst e; rw [upd_same]; rfl
  · rw [upd_other _ _ e]
    cases t <;> first | rfl | exact absurd rfl e
theorem mem_tr_ (S : Sz) (l : List Int) : mem { S with tr := l } = upd (mem S) .tr (row (l.map vi)) := by
  funext t
  by_cases e : t = .tr
  · subst e; rw [upd_same]; rfl
  · rw [upd_other _ _ e]
    cases t <;> first | rfl | exact absurd rfl e
theorem mem_st_ (S : Sz) (l : List Int) : mem { S with st := l } = upd (mem S) .st (row (l.map vi)) := by
  funext t
  by_cases e : t = .st
  · subst e; rw [upd_same]; rfl
  · rw [upd_other _ _ e]
    cases t <;> first | rfl | exact absurd rfl e
theorem mem_seen_ (S : Sz) (l : List Bool) : mem { S with seen := l } = upd (mem S) .seen (row (l.map vb)) := by
  funext t
  by_cases e : t = .seen
  · subst e; rw [upd_same]; rfl
  · rw [upd_other _ _ e]
    cases t <;> first | rfl | exact absurd rfl e
theorem mem_at_ (S : Sz) (x : Int) : mem { S with at' := x } = upd (mem S) .x (row ((xcs S).set 12 (vi x))) := by
  funext t
  by_cases e : t = .x
  · subst e; rw [upd_same]; rfl
  · rw [upd_other _ _ e]
    cases t <;> first | rfl | exact absurd rfl e
theorem mem_bump_ (S : Sz) (x : Nat) : mem { S with bump := x } = upd (mem S) .x (row ((xcs S).set 13 (.val (.float .f64 x)))) := by
  funext t
  by_cases e : t = .x
  · subst e; rw [upd_same]; rfl
  · rw [upd_other _ _ e]
    cases t <;> first | rfl | exact absurd rfl e
theorem mem_nl_ (S : Sz) (x : Int) : mem { S with nl := x } = upd (mem S) .x (row ((xcs S).set 15 (vi x))) := by
  funext t
  by_cases e : t = .x
  · subst e; rw [upd_same]; rfl
  · rw [upd_other _ _ e]
    cases t <;> first | rfl | exact absurd rfl e
theorem mem_learned_ (S : Sz) (x : Int) : mem { S with learned := x } = upd (mem S) .x (row ((xcs S).set 17 (vi x))) := by
  funext t
  by_cases e : t = .x
  · subst e; rw [upd_same]; rfl
  · rw [upd_other _ _ e]
    cases t <;> first | rfl | exact absurd rfl e
theorem mem_watch_ (S : Sz) (p : Nat) (ws : List Nat) (hp : p < S.watch.length) : mem { S with watch := S.watch.set p ws } = upd (mem S) (.wr p) (row (ws.map pr)) := by
  funext t
  by_cases e : t = .wr p
  · subst e; rw [upd_same]
    show row (((S.watch.set p ws).getD p []).map pr) = _
    rw [List.getD_eq_getElem?_getD, List.getElem?_set_self hp]
    rfl
  · rw [upd_other _ _ e]
    cases t with
    | wt =>
      show row ((List.range (S.watch.set p ws).length).map _) = _
      rw [List.length_set]; rfl
    | wr c =>
      have hc : p ≠ c := fun h => e (by rw [h])
      show row (((S.watch.set p ws).getD c []).map pr) = row ((S.watch.getD c []).map pr)
      rw [List.getD_eq_getElem?_getD, List.getElem?_set_ne hc, ← List.getD_eq_getElem?_getD]
    | _ => rfl
theorem mem_lits_ (S : Sz) (c : Nat) (z : Cz) (l : List Int) (hc : S.cls[c]? = some z) : mem { S with cls := S.cls.set c { z with lits := l } } = upd (mem S) (.lits c) (row (l.map vi)) := by
  have hlt := (List.getElem?_eq_some_iff.1 hc).1
  funext t
  by_cases e : t = .lits c
  · subst e; rw [upd_same]
    show row (match (S.cls.set c { z with lits := l })[c]? with | some c => c.lits.map vi | none => []) = _
    rw [List.getElem?_set_self hlt]
  · rw [upd_other _ _ e]
    cases t with
    | lits i =>
      have hi : c ≠ i := fun h => e (by rw [h])
      show row (match (S.cls.set c { z with lits := l })[i]? with | some c => c.lits.map vi | none => []) = _
      rw [List.getElem?_set_ne hi]
      rfl
    | cl i =>
      show row (match (S.cls.set c { z with lits := l })[i]? with | some c => ccs i c | none => []) = _
      by_cases hi : c = i
      · subst hi
        rw [List.getElem?_set_self hlt]
        show _ = row (match S.cls[c]? with | some c' => ccs c c' | none => [])
        rw [hc]
        rfl
      · rw [List.getElem?_set_ne hi]
        rfl
    | _ => rfl
theorem mem_cl_ (S : Sz) (c : Nat) (z z' : Cz) (hc : S.cls[c]? = some z) (hl : z'.lits = z.lits) : mem { S with cls := S.cls.set c z' } = upd (mem S) (.cl c) (row (ccs c z')) := by
  have hlt := (List.getElem?_eq_some_iff.1 hc).1
  funext t
  by_cases e : t = .cl c
  · subst e; rw [upd_same]
    show row (match (S.cls.set c z')[c]? with | some c' => ccs c c' | none => []) = _
    rw [List.getElem?_set_self hlt]
  · rw [upd_other _ _ e]
    cases t with
    | cl i =>
      have hi : c ≠ i := fun h => e (by rw [h])
      show row (match (S.cls.set c z')[i]? with | some c => ccs i c | none => []) = _
      rw [List.getElem?_set_ne hi]
      rfl
    | lits i =>
      show row (match (S.cls.set c z')[i]? with | some c => c.lits.map vi | none => []) = _
      by_cases hi : c = i
      · subst hi
        rw [List.getElem?_set_self hlt]
        show _ = row (match S.cls[c]? with | some c => c.lits.map vi | none => [])
        rw [hc]
        show row (z'.lits.map vi) = row (z.lits.map vi)
        rw [hl]
      · rw [List.getElem?_set_ne hi]
        rfl
    | _ => rfl
/-- a clause more -/
theorem mem_new_ (S : Sz) (z : Cz) : mem { S with cls := S.cls ++ [z] } = upd (upd (mem S) (.lits S.cls.length) (row (z.lits.map vi))) (.cl S.cls.length) (row (ccs S.cls.length z)) := by
  funext t
  by_cases e : t = .cl S.cls.length
  · subst e; rw [upd_same]
    show row (match (S.cls ++ [z])[S.cls.length]? with | some c' => ccs S.cls.length c' | none => []) = _
    rw [List.getElem?_append_right (Nat.le_refl _), Nat.sub_self]
    rfl
  · rw [upd_other _ _ e]
    by_cases e2 : t = .lits S.cls.length
    · subst e2; rw [upd_same]
      show row (match (S.cls ++ [z])[S.cls.length]? with | some c => c.lits.map vi | none => []) = _
      rw [List.getElem?_append_right (Nat.le_refl _), Nat.sub_self]
      rfl
    · rw [upd_other _ _ e2]
      cases t with
      | cl i =>
        show row (match (S.cls ++ [z])[i]? with | some c => ccs i c | none => []) = row (match S.cls[i]? with | some c => ccs i c | none => [])
        by_cases hi : i < S.cls.length
        · rw [List.getElem?_append_left hi]
        · have hi2 : S.cls.length ≠ i := fun h => e (by rw [h])
          rw [List.getElem?_eq_none (by rw [List.length_append, List.length_singleton]; omega), List.getElem?_eq_none (by omega)]
      | lits i =>
        show row (match (S.cls ++ [z])[i]? with | some c => c.lits.map vi | none => []) = row (match S.cls[i]? with | some c => c.lits.map vi | none => [])
        by_cases hi : i < S.cls.length
        · rw [List.getElem?_append_left hi]
        · have hi2 : S.cls.length ≠ i := fun h => e2 (by rw [h])
          rw [List.getElem?_eq_none (by rw [List.length_append, List.length_singleton]; omega), List.getElem?_eq_none (by omega)]
      | _ => rfl
end Go.Proofs.Ytkpppmldbhgcgaa
/- Sat: the order of variables: its methods. -/
set_option autoImplicit false
set_option linter.unusedVariables false
set_option linter.unusedSimpArgs false
namespace Go.Proofs.Ytkpppmldbhgcgaa
open Go Go.RowKit
theorem below_drewN {B : Nat} {w wr : World} (h : Below B w wr) (q : Nat) : Below B w (wr.drewN q) := ⟨h.os, h.tape, h.output, h.size, h.block⟩
theorem drewN2 (w : World) (a b : Nat) : (w.drewN a).drewN b = w.drewN (a + b) := by unfold World.drewN; simp [Nat.add_assoc]
/-- is the first variable ahead of the second? -/
def lessV (sc : List Nat) (a b : Int) : Bool :=
  (FloatKind.f64.format.order (sc.getD a.toNat 0) (sc.getD b.toNat 0) == some .gt) || ((FloatKind.f64.format.order (sc.getD a.toNat 0) (sc.getD b.toNat 0) == some .eq) && decide (a < b))
def lessZ (S : Sz) (i j : Nat) : Bool := lessV S.sc (S.ov.getD i 0) (S.ov.getD j 0)
/-- the order's rows are as long as they must be, and name variables -/
structure OrdOK (n : Nat) (S : Sz) : Prop where
  big : n ≤ 1000000
  sc : S.sc.length = n
  pl : S.pl.length = n
  ov : ∀ k, k < S.ov.length → 0 ≤ S.ov.getD k 0 ∧ S.ov.getD k 0 < n
  ovl : S.ov.length ≤ n
variable {lo n : Nat} {w : World} {own : Nat → Option Tg} {rv : Tg → Value} {S : Sz}
set_option maxHeartbeats 4000000 in
set_option maxRecDepth 1000000 in
theorem len_walk (h : Sol lo w own rv S) (ho : OrdOK n S) : Calls Try.prog 53 #[rv .x] w fun e w' => e = .returned (.int .i64 S.ov.length) ∧ w' = w := by
  obtain ⟨b, hb, _, _, _⟩ := h.xb
  have c1 := (h.fld hb (m := 0) rfl).1
  have hl : (mem S .ov).n = S.ov.length := by show (S.ov.map _).length = _; rw [List.length_map]
  have hbig := ho.big
  have hovl := ho.ovl
  have : ∃ a c, rv .ov = .slice a S.ov.length c := by
    rcases h.row (t := .ov) rfl with ⟨e, e2, _⟩ | ⟨g, cap, e, _⟩
    · rw [hl] at e2; exact ⟨none, 0, by rw [e, e2]⟩
    · rw [hl] at e; exact ⟨_, _, e⟩
  obtain ⟨a, c, hv⟩ := this
  rw [show conc rv (AC.ref Tg.ov) = _ from hv] at c1
  rw [hb]
  obtain ⟨L, hL⟩ : ∃ L, S.ov.length = L := ⟨_, rfl⟩
  rw [hL] at c1 ⊢
  go_enter Try.func53, Try.ntmps53
  go_wp2
  go_ret
  exact ⟨by first | rfl | (simp; done), by trivial⟩
/-- what a method of the order's finds at a place -/
theorem ord_cells (h : Sol lo w own rv S) (ho : OrdOK n S) {i : Nat} (hi : i < S.ov.length) {b : Nat} (hb : rv .x = .pointer (some ⟨b, 0, none⟩)) : ∃ g c g2 c2 g3 c3 v, w.cell? ⟨b, 0, none⟩ = some (.slice (some ⟨g, 0, none⟩) S.ov.length c) ∧ w.cell? ⟨b, 1, none⟩ = some (.slice (some ⟨g2, 0, none⟩) n c2) ∧ w.cell? ⟨b, 2, none⟩ = some (.slice (some ⟨g3, 0, none⟩) n c3) ∧ S.ov.getD i 0 = ((v : Nat) : Int) ∧ v < n ∧ S.ov.length ≤ c ∧ n ≤ c2 ∧ n ≤ c3 ∧
    rv .ov = .slice (some ⟨g, 0, none⟩) S.ov.length c ∧ rv .pl = .slice (some ⟨g2, 0, none⟩) n c2 ∧ rv .sc = .slice (some ⟨g3, 0, none⟩) n c3 := by
  have hv := ho.ov i hi
  obtain ⟨v, hvv⟩ : ∃ v : Nat, S.ov.getD i 0 = v := ⟨(S.ov.getD i 0).toNat, by omega⟩
  have l1 : (mem S .ov).n = S.ov.length := by show (S.ov.map _).length = _; rw [List.length_map]
  have l2 : (mem S .pl).n = n := by show (S.pl.map _).length = _; rw [List.length_map]; exact ho.pl
  have l3 : (mem S .sc).n = n := by show (S.sc.map _).length = _; rw [List.length_map]; exact ho.sc
  obtain ⟨g, c, e1, _, _, _, k1, _⟩ := h.head (t := .ov) rfl (by omega)
  obtain ⟨g2, c2, e2, _, _, _, k2, _⟩ := h.head (t := .pl) rfl (by omega)
  obtain ⟨g3, c3, e3, _, _, _, k3, _⟩ := h.head (t := .sc) rfl (by omega)
  rw [l1] at e1 k1
  rw [l2] at e2 k2
  rw [l3] at e3 k3
  have c1 := (h.fld hb (m := 0) rfl).1
  have cc2 := (h.fld hb (m := 1) rfl).1
  have cc3 := (h.fld hb (m := 2) rfl).1
  rw [show conc rv (AC.ref Tg.ov) = _ from e1] at c1
  rw [show conc rv (AC.ref Tg.pl) = _ from e2] at cc2
  rw [show conc rv (AC.ref Tg.sc) = _ from e3] at cc3
  exact ⟨g, c, g2, c2, g3, c3, v, c1, cc2, cc3, hvv, by omega, k1, k2, k3, e1, e2, e3⟩
theorem list_get {α : Type} {l : List α} {i : Nat} (d : α) (h : i < l.length) : l[i]? = some (l.getD i d) := by rw [List.getD_eq_getElem?_getD, List.getElem?_eq_getElem h]; rfl
set_option maxHeartbeats 8000000 in
set_option maxRecDepth 1000000 in
theorem less_walk (h : Sol lo w own rv S) (ho : OrdOK n S) (i j : Nat) (hi : i < S.ov.length) (hj : j < S.ov.length) : Calls Try.prog 93 #[rv .x, .int .i64 i, .int .i64 j] w fun e w' => e = .returned (.bool (lessZ S i j)) ∧ ∃ q, w' = w.drewN q := by
  obtain ⟨b, hb, _, _, _⟩ := h.xb
  have hbig := ho.big
  have hovl := ho.ovl
  obtain ⟨g, c, g2, c2, g3, c3, v, f0, f1, f2, hv, hvn, k1, k2, k3, e1, e2, e3⟩ := ord_cells h ho hi hb
  obtain ⟨u, hu, hun⟩ : ∃ u : Nat, S.ov.getD j 0 = u ∧ u < n := ⟨(S.ov.getD j 0).toNat, by have := ho.ov j hj; omega, by have := ho.ov j hj; omega⟩
  have a1 : w.cell? ⟨g, i, none⟩ = some (.int .i64 v) := by rw [← hv]; exact (h.rcell e1 (map_get (list_get 0 hi))).1
  have a2 : w.cell? ⟨g, j, none⟩ = some (.int .i64 u) := by rw [← hu]; exact (h.rcell e1 (map_get (list_get 0 hj))).1
  have b1 : w.cell? ⟨g3, v, none⟩ = some (.float .f64 (S.sc.getD v 0)) := (h.rcell e3 (map_get (list_get 0 (by rw [ho.sc]; exact hvn)))).1
  have b2 : w.cell? ⟨g3, u, none⟩ = some (.float .f64 (S.sc.getD u 0)) := (h.rcell e3 (map_get (list_get 0 (by rw [ho.sc]; exact hun)))).1
  have hL : lessZ S i j = ((FloatKind.f64.format.order (S.sc.getD v 0) (S.sc.getD u 0) == some .gt) || ((FloatKind.f64.format.order (S.sc.getD v 0) (S.sc.getD u 0) == some .eq) && decide ((v : Int) < u))) := by
    unfold lessZ lessV
    rw [hv, hu]
    rfl
  rw [hL, hb]
  obtain ⟨x, hx⟩ : ∃ x, S.sc.getD v 0 = x := ⟨_, rfl⟩
  obtain ⟨y, hy⟩ : ∃ x, S.sc.getD u 0 = x := ⟨_, rfl⟩
  obtain ⟨L, hLL⟩ : ∃ L, S.ov.length = L := ⟨_, rfl⟩
  rw [hx] at b1 ⊢
  rw [hy] at b2 ⊢
  rw [hLL] at f0 k1 hovl hi hj
  obtain ⟨q1, hq1⟩ : ∃ q, (FloatKind.f64.format.order x y == some Ordering.gt) = q := ⟨_, rfl⟩
  obtain ⟨q2, hq2⟩ : ∃ q, (FloatKind.f64.format.order x y == some Ordering.eq) = q := ⟨_, rfl⟩
  obtain ⟨q3, hq3⟩ : ∃ q, decide ((v : Int) < u) = q := ⟨_, rfl⟩
  rw [hq1, hq2, hq3]
  clear hL hv hu e1 e2 e3 hx hy hLL
  have hiI : (i : Int) < L := by omega
  have hjI : (j : Int) < L := by omega
  have hvI : (v : Int) < n := by omega
  have huI : (u : Int) < n := by omega
  go_enter Try.func93, Try.ntmps93
  cases q1 <;> cases q2 <;> cases q3
  all_goals go_wp2
  all_goals go_quiet (fail)
  all_goals go_wp2
  all_goals go_quiet (fail)
  all_goals go_wp2
  all_goals go_ret
  all_goals exact ⟨by first | rfl | (simp; done) | (have := of_decide_eq_false hq3; simp; omega) | (have := of_decide_eq_true hq3; simp; omega), by first | exact ⟨_, drewN2 _ _ _⟩ | exact ⟨_, rfl⟩ | exact ⟨0, rfl⟩⟩
end Go.Proofs.Ytkpppmldbhgcgaa
/- Sat: the order's Pop. -/
set_option autoImplicit false
set_option linter.unusedVariables false
set_option linter.unusedSimpArgs false
namespace Go.Proofs.Ytkpppmldbhgcgaa
open Go Go.RowKit
theorem mem_ovTake (S : Sz) (k : Nat) (hk : k ≤ S.ov.length) : mem { S with ov := S.ov.take k } = upd (mem S) .ov ⟨k, (mem S .ov).cs.take (k * kd.esz .ov)⟩ := by
  funext t
  by_cases e : t = .ov
  · subst e
    rw [upd_same]
    have : k * kd.esz .ov = k := Nat.mul_one k
    rw [this]
    show (⟨((S.ov.take k).map vi).length, (S.ov.take k).map vi⟩ : Ob Tg) = ⟨k, (S.ov.map vi).take k⟩
    rw [List.length_map, List.length_take, Nat.min_eq_left hk, List.map_take]
  · rw [upd_other _ _ e]
    cases t <;> first | rfl | exact absurd rfl e
theorem mem_pl' (S : Sz) (i : Nat) (x : Int) : mem { S with pl := S.pl.set i x } = upd (mem S) .pl ⟨(mem S .pl).n, (mem S .pl).cs.set i (vi x)⟩ := by
  funext t
  by_cases e : t = .pl
  · subst e
    rw [upd_same]
    simp [mem, Ytkpppmldbhgcgaa.row, List.map_set]
  · rw [upd_other _ _ e]
    cases t <;> first | rfl | exact absurd rfl e
variable {lo n : Nat} {w : World} {own : Nat → Option Tg} {rv : Tg → Value} {S : Sz}
def popZ (S : Sz) : Sz := { S with ov := S.ov.take (S.ov.length - 1), pl := S.pl.set ((S.ov.getD (S.ov.length - 1) 0).toNat) (-1) }
set_option maxHeartbeats 8000000 in
set_option maxRecDepth 1000000 in
theorem opop_walk (h : Sol lo w own rv S) (ho : OrdOK n S) (h0 : 0 < S.ov.length) : Calls Try.prog 94 #[rv .x] w fun e w' => e = .returned (.iface 3 (.int .i64 (S.ov.getD (S.ov.length - 1) 0))) ∧ (∃ v, Sol lo w' own (upd rv .ov v) (popZ S)) ∧ Frm own own w w' := by
  obtain ⟨b, hb, hlx, _, hbw⟩ := h.xb
  have hbig := ho.big
  have hovl := ho.ovl
  obtain ⟨m, hm⟩ : ∃ m, S.ov.length = m + 1 := ⟨S.ov.length - 1, by omega⟩
  have hi : m < S.ov.length := by omega
  obtain ⟨g, c, g2, c2, g3, c3, v, f0, f1, f2, hv, hvn, k1, k2, k3, e1, e2, e3⟩ := ord_cells h ho hi hb
  have a1 : w.cell? ⟨g, m, none⟩ = some (.int .i64 v) := by rw [← hv]; exact (h.rcell e1 (map_get (list_get 0 hi))).1
  have z0 := (h.fld hb (m := 0) rfl).2
  obtain ⟨p1, p2⟩ := h.rcell (t := .pl) e2 (map_get (list_get 0 (by rw [ho.pl]; exact hvn)))
  have hlg2 : own g2 = some .pl := by
    obtain ⟨b', e, hl, _⟩ := h.cell (t := .pl) (m := v) (map_get (list_get 0 (by rw [ho.pl]; exact hvn)))
    rw [e2] at e; cases e; exact hl
  have hbg2 : b ≠ g2 := apart hlx hlg2 (by intro e; cases e)
  have hn1 : (mem S .ov).n = m + 1 := by show (S.ov.map _).length = _; rw [List.length_map, hm]
  have hcut := h.cut (T := .ov) (p := .x) (b := b) (m := 0) (g := g) (cap := c) (k := m) rfl (by rw [hn1, e1, hm]) (by omega) (by intro e; cases e) (by rw [hb]; rfl) rfl (ref_uniq S rfl rfl)
  rw [← mem_ovTake S m (by omega)] at hcut
  have hput := hcut.put (t := .pl) (b := g2) (m := v) hlg2 (by rw [upd_other _ _ (by intro e; cases e), e2]; rfl) (vi (-1)) (by
    intro e
    have e : S.pl.map vi = [] := e
    rw [List.map_eq_nil_iff] at e
    have := ho.pl
    rw [e] at this
    simp at this
    omega)
  rw [← mem_pl'] at hput
  have hP : popZ S = { { S with ov := S.ov.take m } with pl := S.pl.set v (-1) } := by unfold popZ; rw [hm, Nat.add_sub_cancel, hv]; rfl
  rw [show S.ov.length - 1 = m by omega, hv, hP, hb]
  rw [hm] at f0 k1 hovl
  have hmI : (m : Int) < (m : Int) + 1 := by omega
  have hvI : (v : Int) < n := by omega
  have hfr : Frm own own w ((w.setCell ⟨b, 0, none⟩ (.slice (some ⟨g, 0, none⟩) m c)).setCell ⟨g2, v, none⟩ (.int .i64 (-1))) := ((Frm.refl own w).setCell hlx _).setCell hlg2 _
  have hlen : (((m + 1 : Nat) : Int)) - 1 = m := by omega
  have hmc : m ≤ c := by omega
  have hmc2 : (m : Int) ≤ c := by omega
  clear hcut hv hm hn1 e1 e2 e3 hP
  go_enter Try.func94, Try.ntmps94
  go_wp2
  go_ret
  exact ⟨rfl, ⟨_, hput⟩, hfr⟩
end Go.Proofs.Ytkpppmldbhgcgaa

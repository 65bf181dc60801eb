/- Sat: steps in memory: a cell written, a row that grows, a row cut short. -/
import Derived.Test.YtkpppmldbhgcgaaSaGtoSaH
import Derived.Test.YtkpppmldbhgcgaaSaQFtoSaJ
import Derived.Test.YtkpppmldbhgcgaaSbAtoSaS
set_option linter.unusedVariables false
set_option linter.unusedSimpArgs false
set_option autoImplicit false
set_option linter.unusedVariables false
set_option linter.unusedSimpArgs false
namespace Go.Proofs.Ytkpppmldbhgcgaa
open Go Go.RowKit
section
variable {τ : Type} {K : Kd τ} {lo : Nat} {w : World} {own : Nat → Option τ} {rv : τ → Value} {M : τ → Ob τ}
/-- a row has grown, and its head is stored where it is kept -/
theorem Rep.append (h : Rep K lo w own rv M) {T p : τ} (hT : K.row T = true) {b m : Nat} (hpT : p ≠ T) (hb : blkOf (rv p) = some b) (hm : (M p).cs[m]? = some (AC.ref T)) (hu : ∀ q (k : Nat), (M q).cs[k]? = some (AC.ref T) → q = p ∧ k = m)
    (news : List (AC τ)) (nn : Nat) (hs : ∀ k : Nat, news[k]? ≠ some (AC.ref T)) {own0 : Nat → Option τ} {w0 : World} (hF : Frm own0 own w0 w) {v' : Value} {w1 : World}
    (q1 : w1.ownsRow lo (K.ety T) (K.esz T) v' ((M T).n + nn) (concs rv (M T).cs ++ concs rv news)) (q2 : w.grownBy w1 (rv T).ownBlock) (q3 : ∃ g, v'.ownBlock = some g ∧ ((rv T).ownBlock = some g ∨ w.heap.size ≤ g)) :
    (w1.cell? ⟨b, m, none⟩ = some (rv T) ∧ w1.frozen? ⟨b, m, none⟩ = false) ∧ ∃ own', Rep K lo (w1.setCell ⟨b, m, none⟩ v') own' (upd rv T v') (upd M T ⟨(M T).n + nn, (M T).cs ++ news⟩) ∧ Frm own0 own' w0 (w1.setCell ⟨b, m, none⟩ v') := by
  obtain ⟨g, hg, hl⟩ := q3
  have hv' : ∃ cap, v' = .slice (some ⟨g, 0, none⟩) ((M T).n + nn) cap := by
    rcases q1.2 with ⟨e, _⟩ | ⟨g', cap, cur, e, _⟩
    · rw [e] at hg; cases hg
    · rw [e] at hg; cases hg; exact ⟨_, e⟩
  obtain ⟨cap, rfl⟩ := hv'
  have hrow := (h.part T).1 hT
  obtain ⟨b', hb', hlb, hlob, hbw, c1, c2⟩ := h.cell hm
  rw [hb] at hb'
  cases hb'
  have A : Moved K lo w w1 own rv T g cap ((M T).n + nn) ((M T).cs ++ news) := ⟨by
    have : concs rv ((M T).cs ++ news) = concs rv (M T).cs ++ concs rv news := by unfold concs; rw [List.map_append]
    rw [this]; exact q1, q2, hl⟩
  have hself : ∀ k : Nat, ((M T).cs ++ news)[k]? ≠ some (AC.ref T) := fun k hk => by
    rw [List.getElem?_append] at hk
    split at hk
    · exact hpT (hu T k hk).1.symm
    · exact hs _ hk
  have hmv := h.move hT A hpT hb hm hu hself
  have hlb' : ∀ k, (rv T).ownBlock = some k → own k = some T := fun k hk => hrow.lab k hk
  have hne : (rv T).ownBlock ≠ some b := fun e => by
    have := hlb' b e
    rw [hlb] at this
    exact hpT (Option.some.inj this)
  have hblk := q2.block b hbw (fun e => hne e.symm)
  have hbg : b ≠ g := fun e => by
    subst e
    rcases hl with e | e
    · exact hne e
    · omega
  refine ⟨⟨(World.cell?_of_block (a := ⟨b, m, none⟩) hblk).trans c1, (World.frozen?_of_block (a := ⟨b, m, none⟩) hblk).trans c2⟩, lab own g T, hmv, ?_⟩
  refine (hF.grow q2 hlb' hl).setCell (t := p) ?_ _
  show Ytkpppmldbhgcgaa.lab own g T b = some p
  rw [lab_other _ _ hbg]; exact hlb
end
variable {lo n : Nat} {w : World} {own : Nat → Option Tg} {rv : Tg → Value} {S : Sz}
/-- a cell is written -/
theorem Rep.wr (h : Sol lo w own rv S) {T : Tg} {S' : Sz} {g m : Nat} {a : AC Tg} (hb : blkOf (rv T) = some g) (hm : m < (mem S T).cs.length) (hS : mem S' = upd (mem S) T (Ytkpppmldbhgcgaa.row ((mem S T).cs.set m a))) (hn : (mem S T).n = (mem S T).cs.length) {own0 : Nat → Option Tg} {w0 : World} (hF : Frm own0 own w0 w) :
    Sol lo (w.setCell ⟨g, m, none⟩ (conc rv a)) own rv S' ∧ Frm own0 own w0 (w.setCell ⟨g, m, none⟩ (conc rv a)) := by
  have hne : (mem S T).cs ≠ [] := fun e => by rw [e] at hm; simp at hm
  obtain ⟨b, e, hl, _⟩ := h.cell (t := T) (m := m) (u := (mem S T).cs[m]) (List.getElem?_eq_getElem hm)
  rw [hb] at e
  cases e
  have := h.put (t := T) (b := g) (m := m) hl hb a hne
  refine ⟨?_, hF.setCell hl _⟩
  rw [Sol, hS]
  have e : (⟨(mem S T).n, (mem S T).cs.set m a⟩ : Ob Tg) = Ytkpppmldbhgcgaa.row ((mem S T).cs.set m a) := by unfold Ytkpppmldbhgcgaa.row; rw [hn, List.length_set]
  rw [← e]
  exact this
theorem mem_n (S : Sz) (T : Tg) (hT : T ≠ .prf) : (mem S T).n = (mem S T).cs.length := by
  cases T <;> first | rfl | exact absurd rfl hT
/-- what a row's head is -/
structure HeadAt (w : World) (own : Nat → Option Tg) (rv : Tg → Value) (T p : Tg) (b m k : Nat) (a : Option Addr) (c : Nat) : Prop where
  val : rv T = .slice a k c
  cell : w.cell? ⟨b, m, none⟩ = some (.slice a k c)
  frz : w.frozen? ⟨b, m, none⟩ = false
  le : k ≤ c
  big : c ≤ maxLen
  at_ : 0 < k → ∃ g, a = some ⟨g, 0, none⟩ ∧ own g = some T ∧ g ≠ b
theorem Rep.headAt (h : Sol lo w own rv S) {T p : Tg} {b m k : Nat} (hT : kd.row T = true) (hp : blkOf (rv p) = some b) (hm : (mem S p).cs[m]? = some (AC.ref T)) (hpT : p ≠ T) (hk : (mem S T).n = k) : ∃ a c, HeadAt w own rv T p b m k a c := by
  obtain ⟨b', e, hl, _, _, h1, h2⟩ := h.cell hm
  rw [hp] at e
  cases e
  rcases h.row hT with ⟨e, e2, _⟩ | ⟨g, cap, e, hl2, _, _, hc, hx⟩
  · rw [hk] at e2
    subst e2
    exact ⟨none, 0, e, by rw [← e]; exact h1, h2, Nat.le_refl _, by unfold maxLen; omega, fun h => absurd h (Nat.lt_irrefl _)⟩
  · rw [hk] at e hc
    exact ⟨some ⟨g, 0, none⟩, cap, e, by rw [← e]; exact h1, h2, hc, hx, fun _ => ⟨g, rfl, hl2, fun e3 => by subst e3; rw [hl] at hl2; exact hpT (Option.some.inj hl2)⟩⟩
theorem Rep.headX (h : Sol lo w own rv S) {T : Tg} {b m k : Nat} (hb : rv .x = .pointer (some ⟨b, 0, none⟩)) (hT : kd.row T = true) (hm : (xcs S)[m]? = some (AC.ref T)) (hk : (mem S T).n = k) : ∃ a c, HeadAt w own rv T .x b m k a c :=
  h.headAt hT (by rw [hb]; rfl) hm (by rintro rfl; cases hT) hk
/-- a row's cell, by its head -/
theorem Rep.hcell (h : Sol lo w own rv S) {T : Tg} {g k c m : Nat} {u : AC Tg} (hv : rv T = .slice (some ⟨g, 0, none⟩) k c) (hu : (mem S T).cs[m]? = some u) : w.cell? ⟨g, m, none⟩ = some (conc rv u) ∧ w.frozen? ⟨g, m, none⟩ = false := h.rcell hv hu
theorem len_of {α : Type} {l : List α} {i : Nat} {x : α} (h : l[i]? = some x) : i < l.length := (List.getElem?_eq_some_iff.1 h).1
/-- a clause's block -/
theorem Rep.clb (h : Sol lo w own rv S) {i : Nat} {z : Cz} (hz : S.cls[i]? = some z) : ∃ b, rv (.cl i) = .pointer (some ⟨b, 0, none⟩) ∧ own b = some (.cl i) ∧ lo ≤ b ∧ b < w.heap.size := h.tab rfl (by
  show (Ytkpppmldbhgcgaa.row (match S.cls[i]? with | some c => ccs i c | none => [])).cs ≠ []
  rw [hz]; intro e; cases e)
theorem mem_cls {S : Sz} {i : Nat} {z : Cz} (hz : S.cls[i]? = some z) : mem S (.cl i) = row (ccs i z) := by
  show row (match S.cls[i]? with | some c => ccs i c | none => []) = _
  rw [hz]
theorem mem_lits {S : Sz} {i : Nat} {z : Cz} (hz : S.cls[i]? = some z) : mem S (.lits i) = row (z.lits.map vi) := by
  show row (match S.cls[i]? with | some c => c.lits.map vi | none => []) = _
  rw [hz]
theorem mem_wr {S : Sz} {p : Nat} {ws : List Nat} (hp : S.watch[p]? = some ws) : mem S (.wr p) = row (ws.map pr) := by
  show row ((S.watch.getD p []).map pr) = _
  rw [List.getD_eq_getElem?_getD, hp]; rfl
/-- what stays as it was: the solver's and the clauses' own places -/
structure Kpt (S : Sz) (rv rv' : Tg → Value) : Prop where
  x : rv' .x = rv .x
  cl : ∀ i, i < S.cls.length → rv' (.cl i) = rv (.cl i)
theorem Kpt.refl (S : Sz) (rv : Tg → Value) : Kpt S rv rv := ⟨rfl, fun _ _ => rfl⟩
theorem Kpt.trans {S S' : Sz} {a b c : Tg → Value} (h : Kpt S a b) (k : Kpt S' b c) (hl : S.cls.length ≤ S'.cls.length) : Kpt S a c := ⟨k.x.trans h.x, fun i hi => (k.cl i (Nat.lt_of_lt_of_le hi hl)).trans (h.cl i hi)⟩
theorem Kpt.upd {S : Sz} {a b : Tg → Value} (h : Kpt S a b) {T : Tg} (hT : kd.row T = true) (v : Value) : Kpt S a (upd b T v) :=
  ⟨(upd_other _ _ (by rintro rfl; cases hT)).trans h.x, fun i hi => (upd_other _ _ (by rintro rfl; cases hT)).trans (h.cl i hi)⟩
end Go.Proofs.Ytkpppmldbhgcgaa

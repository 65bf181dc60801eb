/- Sat: the order's Swap. -/
import Derived.Test.YtkpppmldbhgcgaaSaEtoSaC
import Derived.StillTailTactics
import Derived.Deep.RegionLaw
import Derived.Test.YtkpppmldbhgcgaaSaHtoSaI
set_option linter.unusedVariables false
set_option linter.unusedSimpArgs false
set_option autoImplicit false
set_option linter.unusedVariables false
set_option linter.unusedSimpArgs false
namespace Go.Proofs.Ytkpppmldbhgcgaa
open Go Go.RowKit
theorem mem_ov (S : Sz) (i : Nat) (x : Int) : mem { S with ov := S.ov.set i x } = upd (mem S) .ov ⟨(mem S .ov).n, (mem S .ov).cs.set i (vi x)⟩ := by
  funext t
  by_cases e : t = .ov
  · subst e
    rw [upd_same]
    simp [mem, Ytkpppmldbhgcgaa.row, List.map_set]
  · rw [upd_other _ _ e]
    cases t <;> first | rfl | exact absurd rfl e
theorem mem_pl (S : Sz) (i : Nat) (x : Int) : mem { S with pl := S.pl.set i x } = upd (mem S) .pl ⟨(mem S .pl).n, (mem S .pl).cs.set i (vi x)⟩ := by
  funext t
  by_cases e : t = .pl
  · subst e
    rw [upd_same]
    simp [mem, Ytkpppmldbhgcgaa.row, List.map_set]
  · rw [upd_other _ _ e]
    cases t <;> first | rfl | exact absurd rfl e
variable {lo n : Nat} {w : World} {own : Nat → Option Tg} {rv : Tg → Value} {S : Sz}
theorem Rep.putOv (h : Sol lo w own rv S) {g k c i : Nat} (hv : rv .ov = .slice (some ⟨g, 0, none⟩) k c) (hi : i < S.ov.length) (x : Int) : Sol lo (w.setCell ⟨g, i, none⟩ (.int .i64 x)) own rv { S with ov := S.ov.set i x } := by
  have hne : (mem S .ov).cs ≠ [] := fun e => by
    have : S.ov.map vi = [] := e
    rw [List.map_eq_nil_iff] at this
    rw [this] at hi; cases hi
  obtain ⟨b, e, hl, _⟩ := h.cell (t := .ov) (m := i) (map_get (list_get 0 hi))
  rw [hv] at e
  cases e
  have := h.put (t := .ov) (b := g) (m := i) hl (by rw [hv]; rfl) (vi x) hne
  rw [← mem_ov] at this
  exact this
theorem Rep.putPl (h : Sol lo w own rv S) {g k c i : Nat} (hv : rv .pl = .slice (some ⟨g, 0, none⟩) k c) (hi : i < S.pl.length) (x : Int) : Sol lo (w.setCell ⟨g, i, none⟩ (.int .i64 x)) own rv { S with pl := S.pl.set i x } := by
  have hne : (mem S .pl).cs ≠ [] := fun e => by
    have : S.pl.map vi = [] := e
    rw [List.map_eq_nil_iff] at this
    rw [this] at hi; cases hi
  obtain ⟨b, e, hl, _⟩ := h.cell (t := .pl) (m := i) (map_get (list_get 0 hi))
  rw [hv] at e
  cases e
  have := h.put (t := .pl) (b := g) (m := i) hl (by rw [hv]; rfl) (vi x) hne
  rw [← mem_pl] at this
  exact this
def swapV (l : List Int) (i j : Nat) : List Int := (l.set i (l.getD j 0)).set j (l.getD i 0)
def swapZ (S : Sz) (i j : Nat) : Sz := { S with ov := swapV S.ov i j, pl := (S.pl.set ((S.ov.getD j 0).toNat) i).set ((S.ov.getD i 0).toNat) j }
/-- a fact that the walk does not take as a rule -/
structure Hid' (P : Prop) : Prop where
  h : P
set_option maxHeartbeats 8000000 in
set_option maxRecDepth 1000000 in
theorem swap_code (b g c g2 c2 L n i j u v : Nat) (X : Value) (w w2 : World) (hi : i < L) (hj : j < L) (hu : u < n) (hv : v < n) (k1 : L ≤ c) (k2 : n ≤ c2) (hL : L ≤ 1000000) (hn : n ≤ 1000000)
    (f0 : w.cell? ⟨b, 0, none⟩ = some (.slice (some ⟨g, 0, none⟩) L c)) (a1 : w.cell? ⟨g, i, none⟩ = some (.int .i64 v)) (a2 : w.cell? ⟨g, j, none⟩ = some (.int .i64 u)) (z1 : w.frozen? ⟨g, i, none⟩ = false)
    (y1 : (w.setCell ⟨g, i, none⟩ (.int .i64 u)).cell? ⟨g, j, none⟩ = some (.int .i64 u)) (y2 : (w.setCell ⟨g, i, none⟩ (.int .i64 u)).frozen? ⟨g, j, none⟩ = false)
    (hw2 : w2 = ((w.setCell ⟨g, i, none⟩ (.int .i64 u)).setCell ⟨g, j, none⟩ (.int .i64 v)).drew)
    (x1 : w2.cell? ⟨g, i, none⟩ = some (.int .i64 u)) (x2 : w2.cell? ⟨g, j, none⟩ = some (.int .i64 v)) (x3 : w2.cell? ⟨b, 0, none⟩ = some (.slice (some ⟨g, 0, none⟩) L c)) (x4 : w2.cell? ⟨b, 1, none⟩ = some (.slice (some ⟨g2, 0, none⟩) n c2))
    (p3 : ∃ Y, w2.cell? ⟨g2, u, none⟩ = some Y) (p4 : w2.frozen? ⟨g2, u, none⟩ = false) (y3 : (w2.setCell ⟨g2, u, none⟩ (.int .i64 i)).cell? ⟨g2, v, none⟩ = some X) (y4 : (w2.setCell ⟨g2, u, none⟩ (.int .i64 i)).frozen? ⟨g2, v, none⟩ = false) :
    Calls Try.prog 96 #[.pointer (some ⟨b, 0, none⟩), .int .i64 i, .int .i64 j] w fun e w' => e = .returned (.tuple #[]) ∧ w' = ((w2.setCell ⟨g2, u, none⟩ (.int .i64 i)).setCell ⟨g2, v, none⟩ (.int .i64 j)).drew := by
  obtain ⟨Y, p3⟩ := p3
  have hiI : (i : Int) < L := by omega
  have hjI : (j : Int) < L := by omega
  have hvI : (v : Int) < n := by omega
  have huI : (u : Int) < n := by omega
  have hH : Hid' (w2 = ((w.setCell ⟨g, i, none⟩ (.int .i64 u)).setCell ⟨g, j, none⟩ (.int .i64 v)).drew ∧ w2.cell? ⟨g, i, none⟩ = some (.int .i64 u) ∧ w2.cell? ⟨g, j, none⟩ = some (.int .i64 v) ∧ w2.cell? ⟨b, 0, none⟩ = some (.slice (some ⟨g, 0, none⟩) L c) ∧ w2.cell? ⟨b, 1, none⟩ = some (.slice (some ⟨g2, 0, none⟩) n c2) ∧ w2.cell? ⟨g2, u, none⟩ = some Y ∧ w2.frozen? ⟨g2, u, none⟩ = false ∧ (w2.setCell ⟨g2, u, none⟩ (.int .i64 i)).cell? ⟨g2, v, none⟩ = some X ∧ (w2.setCell ⟨g2, u, none⟩ (.int .i64 i)).frozen? ⟨g2, v, none⟩ = false) := ⟨⟨hw2, x1, x2, x3, x4, p3, p4, y3, y4⟩⟩
  clear hw2 x1 x2 x3 x4 p3 p4 y3 y4
  go_enter Try.func96, Try.ntmps96
  go_wp2
  go_region
  go_upto_region 1 with (fail)
  obtain ⟨⟨hw2, x1, x2, x3, x4, p3, p4, y3, y4⟩⟩ := hH
  rw [← hw2]
  clear hw2 f0 a1 a2 z1 y1 y2
  go_wp2
  go_region
  go_wp2
  go_end0
  exact ⟨rfl, rfl⟩
set_option maxHeartbeats 8000000 in
set_option maxRecDepth 1000000 in
theorem swap_walk (h : Sol lo w own rv S) (ho : OrdOK n S) (i j : Nat) (hi : i < S.ov.length) (hj : j < S.ov.length) : Calls Try.prog 96 #[rv .x, .int .i64 i, .int .i64 j] w fun e w' => e = .returned (.tuple #[]) ∧ Sol lo w' own rv (swapZ S i j) ∧ Frm own own w w' := by
  obtain ⟨b, hb, hlx, _, hbw⟩ := h.xb
  have hbig := ho.big
  have hovl := ho.ovl
  obtain ⟨g, c, g2, c2, g3, c3, v, f0, f1, f2, hv, hvn, k1, k2, k3, e1, e2, e3⟩ := ord_cells h ho hi hb
  obtain ⟨u, hu, hun⟩ : ∃ u : Nat, S.ov.getD j 0 = u ∧ u < n := ⟨(S.ov.getD j 0).toNat, by have := ho.ov j hj; omega, by have := ho.ov j hj; omega⟩
  have a1 : w.cell? ⟨g, i, none⟩ = some (.int .i64 v) := by rw [← hv]; exact (h.rcell e1 (map_get (list_get 0 hi))).1
  have a2 : w.cell? ⟨g, j, none⟩ = some (.int .i64 u) := by rw [← hu]; exact (h.rcell e1 (map_get (list_get 0 hj))).1
  have z1 := (h.rcell e1 (map_get (list_get 0 hi))).2
  have z2 := (h.rcell e1 (map_get (list_get 0 hj))).2
  rw [hb]
  obtain ⟨L, hLL⟩ : ∃ L, S.ov.length = L := ⟨_, rfl⟩
  have hi' := hi
  have hj' := hj
  rw [hLL] at f0 k1 hovl hi' hj'
  have hiI : (i : Int) < L := by omega
  have hjI : (j : Int) < L := by omega
  have hvI : (v : Int) < n := by omega
  have huI : (u : Int) < n := by omega
  have hlg : own g = some .ov := by
    obtain ⟨b', e, hl, _⟩ := h.cell (t := .ov) (m := i) (map_get (list_get 0 hi))
    rw [e1] at e; cases e; exact hl
  have hlg2 : own g2 = some .pl := by
    obtain ⟨b', e, hl, _⟩ := h.cell (t := .pl) (m := v) (map_get (list_get 0 (by rw [ho.pl]; exact hvn)))
    rw [e2] at e; cases e; exact hl
  have hswap : ∃ w2, w2 = ((w.setCell ⟨g, i, none⟩ (.int .i64 u)).setCell ⟨g, j, none⟩ (.int .i64 v)).drew := ⟨_, rfl⟩
  obtain ⟨w2, hw2⟩ := hswap
  have hd := ((h.putOv e1 hi u).putOv e1 (i := j) (by rw [List.length_set]; exact hj) v).drew
  have hS2 : (({ { S with ov := S.ov.set i (u : Int) } with ov := (S.ov.set i (u : Int)).set j (v : Int) }) : Sz) = { S with ov := swapV S.ov i j } := by unfold swapV; rw [hu, hv]
  have hd : Sol lo w2 own rv { S with ov := swapV S.ov i j } := by rw [hw2, ← hS2]; exact hd
  have y1 : (w.setCell ⟨g, i, none⟩ (.int .i64 u)).cell? ⟨g, j, none⟩ = some (.int .i64 u) := by
    by_cases e : i = j
    · subst e
      exact World.cell?_setCell_same _ _ _ a1
    · rw [World.cell?_setCell_other _ ⟨g, i, none⟩ ⟨g, j, none⟩ _ (by intro e2; injection e2; omega)]
      exact a2
  have y2 : (w.setCell ⟨g, i, none⟩ (.int .i64 u)).frozen? ⟨g, j, none⟩ = false := by rw [World.frozen?_setCell]; exact z2
  have hsl : (swapV S.ov i j).length = S.ov.length := by unfold swapV; rw [List.length_set, List.length_set]
  have q1 : (swapV S.ov i j)[i]? = some (u : Int) := by
    unfold swapV
    rw [List.getElem?_set]
    by_cases e : j = i
    · subst e
      rw [if_pos rfl, if_pos (by rw [List.length_set]; exact hi), hu]
    · rw [if_neg e, List.getElem?_set_self hi, hu]
  have q2 : (swapV S.ov i j)[j]? = some (v : Int) := by
    unfold swapV
    rw [List.getElem?_set_self (by rw [List.length_set]; exact hj), hv]
  have x1 : w2.cell? ⟨g, i, none⟩ = some (.int .i64 u) := (hd.rcell e1 (map_get q1)).1
  have x2 : w2.cell? ⟨g, j, none⟩ = some (.int .i64 v) := (hd.rcell e1 (map_get q2)).1
  have x3 : w2.cell? ⟨b, 0, none⟩ = some (.slice (some ⟨g, 0, none⟩) L c) := by
    have := (hd.fld hb (m := 0) rfl).1
    rw [show conc rv (AC.ref Tg.ov) = _ from e1, hLL] at this
    exact this
  have x4 : w2.cell? ⟨b, 1, none⟩ = some (.slice (some ⟨g2, 0, none⟩) n c2) := by
    have := (hd.fld hb (m := 1) rfl).1
    rw [show conc rv (AC.ref Tg.pl) = _ from e2] at this
    exact this
  have p1 := hd.rcell (t := .pl) e2 (map_get (list_get 0 (by show u < S.pl.length; rw [ho.pl]; exact hun)))
  have p2 := hd.rcell (t := .pl) e2 (map_get (list_get 0 (by show v < S.pl.length; rw [ho.pl]; exact hvn)))
  obtain ⟨p3, p4⟩ := p1
  obtain ⟨X, y3⟩ : ∃ X, (w2.setCell ⟨g2, u, none⟩ (.int .i64 i)).cell? ⟨g2, v, none⟩ = some X := by
    by_cases e : u = v
    · subst e
      exact ⟨_, World.cell?_setCell_same _ _ _ p3⟩
    · rw [World.cell?_setCell_other _ ⟨g2, u, none⟩ ⟨g2, v, none⟩ _ (by intro e2; injection e2; omega)]
      exact ⟨_, p2.1⟩
  have y4 : (w2.setCell ⟨g2, u, none⟩ (.int .i64 i)).frozen? ⟨g2, v, none⟩ = false := by rw [World.frozen?_setCell]; exact p2.2
  have hend := ((hd.putPl e2 (i := u) (by show u < S.pl.length; rw [ho.pl]; exact hun) i).putPl e2 (i := v) (by show v < (S.pl.set _ _).length; rw [List.length_set, ho.pl]; exact hvn) j).drew
  have hS3 : ({ { { S with ov := swapV S.ov i j } with pl := S.pl.set u (i : Int) } with pl := (S.pl.set u (i : Int)).set v (j : Int) } : Sz) = swapZ S i j := by unfold swapZ; rw [hu, hv]; rfl
  have hend : Sol lo ((w2.setCell ⟨g2, u, none⟩ (.int .i64 i)).setCell ⟨g2, v, none⟩ (.int .i64 j)).drew own rv (swapZ S i j) := by rw [← hS3]; exact hend
  have hfr : Frm own own w ((w2.setCell ⟨g2, u, none⟩ (.int .i64 i)).setCell ⟨g2, v, none⟩ (.int .i64 j)).drew := by
    rw [hw2]
    exact ((((((Frm.refl own w).setCell hlg _).setCell hlg _).drew).setCell hlg2 _).setCell hlg2 _).drew
  obtain ⟨p5, p6⟩ := p2
  clear hS2 hS3 hd hsl q1 q2 hu hv hlg hlg2 e1 e2 e3 hLL
  refine (swap_code b g c g2 c2 L n i j u v X w w2 hi' hj' hun hvn k1 k2 (by omega) hbig f0 a1 a2 z1 y1 y2 hw2 x1 x2 x3 x4 ⟨_, p3⟩ p4 y3 y4).mono ?_
  rintro e w' ⟨r1, r2⟩
  rw [r2]
  exact ⟨r1, hend, hfr⟩
end Go.Proofs.Ytkpppmldbhgcgaa
/- Sat: the order's methods, called through the heap's interface. -/
set_option autoImplicit false
set_option linter.unusedVariables false
set_option linter.unusedSimpArgs false
namespace Go.Proofs.Ytkpppmldbhgcgaa
open Go Go.RowKit
theorem m_len (b : Nat) (w : World) : (method 242 69 (.pointer (some ⟨b, 0, none⟩)) "Len").run Try.prog w = .ok (53, .pointer (some ⟨b, 0, none⟩)) w := by kernel_rfl
theorem m_less (b : Nat) (w : World) : (method 242 69 (.pointer (some ⟨b, 0, none⟩)) "Less").run Try.prog w = .ok (93, .pointer (some ⟨b, 0, none⟩)) w := by kernel_rfl
theorem m_pop (b : Nat) (w : World) : (method 242 69 (.pointer (some ⟨b, 0, none⟩)) "Pop").run Try.prog w = .ok (94, .pointer (some ⟨b, 0, none⟩)) w := by kernel_rfl
theorem m_push (b : Nat) (w : World) : (method 242 69 (.pointer (some ⟨b, 0, none⟩)) "Push").run Try.prog w = .ok (95, .pointer (some ⟨b, 0, none⟩)) w := by kernel_rfl
theorem m_swap (b : Nat) (w : World) : (method 242 69 (.pointer (some ⟨b, 0, none⟩)) "Swap").run Try.prog w = .ok (96, .pointer (some ⟨b, 0, none⟩)) w := by kernel_rfl
end Go.Proofs.Ytkpppmldbhgcgaa
/- Sat: the heap: up. -/
set_option autoImplicit false
set_option linter.unusedVariables false
set_option linter.unusedSimpArgs false
namespace Go.Proofs.Ytkpppmldbhgcgaa
open Go Go.RowKit
def upF : Nat → Sz → Nat → Sz
  | 0, S, _ => S
  | f + 1, S, j => if j = 0 then S else if lessZ S j ((j - 1) / 2) then upF f (swapZ S ((j - 1) / 2) j) ((j - 1) / 2) else S
def upZ (S : Sz) (j : Nat) : Sz := upF j S j
theorem upF_fuel : ∀ (f g j : Nat) (S : Sz), j ≤ f → j ≤ g → upF f S j = upF g S j
  | 0, 0, _, _, _, _ => rfl
  | 0, g + 1, j, S, h, _ => by
    obtain rfl : j = 0 := by omega
    simp [upF]
  | f + 1, 0, j, S, _, h => by
    obtain rfl : j = 0 := by omega
    simp [upF]
  | f + 1, g + 1, j, S, h1, h2 => by
    unfold upF
    split
    · rfl
    · rw [upF_fuel f g ((j - 1) / 2) _ (by omega) (by omega)]
theorem upZ_zero (S : Sz) : upZ S 0 = S := rfl
theorem upZ_step {S : Sz} {j : Nat} (h : 0 < j) : upZ S j = if lessZ S j ((j - 1) / 2) then upZ (swapZ S ((j - 1) / 2) j) ((j - 1) / 2) else S := by
  obtain ⟨k, rfl⟩ : ∃ k, j = k + 1 := ⟨j - 1, by omega⟩
  unfold upZ
  rw [show upF (k + 1) S (k + 1) = if k + 1 = 0 then S else if lessZ S (k + 1) ((k + 1 - 1) / 2) then upF k (swapZ S ((k + 1 - 1) / 2) (k + 1)) ((k + 1 - 1) / 2) else S from rfl, if_neg (by omega), upF_fuel k ((k + 1 - 1) / 2) _ _ (by omega) (Nat.le_refl _)]
theorem swap_len (S : Sz) (i j : Nat) : (swapZ S i j).ov.length = S.ov.length := by unfold swapZ swapV; simp
theorem swapV_get {l : List Int} {i j k : Nat} (hi : i < l.length) (hj : j < l.length) : (swapV l i j).getD k 0 = if k = j then l.getD i 0 else if k = i then l.getD j 0 else l.getD k 0 := by
  unfold swapV
  simp only [List.getD_eq_getElem?_getD, List.getElem?_set, List.length_set]
  by_cases e : k = j
  · subst e; simp [hj]
  · have e' : ¬ j = k := fun h => e h.symm
    simp only [e, e', if_false]
    by_cases e2 : k = i
    · subst e2; simp [hi]
    · have e3 : ¬ i = k := fun h => e2 h.symm
      simp only [e2, e3, if_false]
theorem swap_ok {n : Nat} {S : Sz} (ho : OrdOK n S) {i j : Nat} (hi : i < S.ov.length) (hj : j < S.ov.length) : OrdOK n (swapZ S i j) := by
  refine ⟨ho.big, ho.sc, ?_, fun k hk => ?_, by rw [swap_len]; exact ho.ovl⟩
  · show ((S.pl.set _ _).set _ _).length = n
    rw [List.length_set, List.length_set]; exact ho.pl
  · rw [swap_len] at hk
    show 0 ≤ (swapV S.ov i j).getD k 0 ∧ (swapV S.ov i j).getD k 0 < n
    rw [swapV_get hi hj]
    split
    · exact ho.ov i hi
    · split
      · exact ho.ov j hj
      · exact ho.ov k hk
end Go.Proofs.Ytkpppmldbhgcgaa
/- Sat: the heap: up, walked. -/
set_option autoImplicit false
set_option linter.unusedVariables false
set_option linter.unusedSimpArgs false
namespace Go.Proofs.Ytkpppmldbhgcgaa
open Go Go.RowKit
variable {lo n : Nat} {w : World} {own : Nat → Option Tg} {rv : Tg → Value} {S : Sz}
theorem Frm.drewN' {a b : Nat → Option Tg} {u v : World} (h : Frm a b u v) (q : Nat) : Frm a b u (v.drewN q) := h.drewN q
set_option maxHeartbeats 8000000 in
set_option maxRecDepth 1000000 in
theorem up_walk (h : Sol lo w own rv S) (ho : OrdOK n S) (j : Nat) (hj : j < S.ov.length) : Calls Try.prog 40 #[.iface 69 (rv .x), .int .i64 j] w fun e w' => e = .returned (.tuple #[]) ∧ Sol lo w' own rv (upZ S j) ∧ Frm own own w w' := by
  obtain ⟨b, hb, _, _, _⟩ := h.xb
  have m1 := m_less b
  have m2 := m_swap b
  have hbig := ho.big
  have hovl := ho.ovl
  rw [hb]
  go_enter Try.func40, Try.ntmps40
  go_wp2
  go_loopw [1] (fun jv wr => ∃ (j' : Nat) (S' : Sz), jv = .int .i64 j' ∧ j' < S.ov.length ∧ S'.ov.length = S.ov.length ∧ Sol lo wr own rv S' ∧ OrdOK n S' ∧ Frm own own w wr ∧ upZ S' j' = upZ S j) (fun jv _ => (intOf jv).toNat)
  case atStart => exact ⟨j, S, rfl, hj, rfl, h, ho, Frm.refl _ _, rfl⟩
  case round =>
    obtain ⟨k, S', rfl, hk, hl, hS, hO, hF, hU⟩ := hrel
    obtain ⟨L, hL⟩ : ∃ L, S.ov.length = L := ⟨_, rfl⟩
    rw [hL] at hk hl hovl
    rcases Nat.eq_zero_or_pos k with rfl | hk0
    · rw [upZ_zero] at hU
      have hE : Sol lo wr own rv (upZ S j) := by rw [← hU]; exact hS
      clear hU
      have t1 : ((0 : Int) - 1).tdiv 2 = 0 := by decide
      go_wp2
      go_end0
      exact ⟨rfl, hE, hF⟩
    · obtain ⟨i, hi⟩ : ∃ i, (k - 1) / 2 = i := ⟨_, rfl⟩
      have hik : i < k := by omega
      have t1 : ((k : Int) - 1).tdiv 2 = i := by
        rw [Int.tdiv_eq_ediv_of_nonneg (by omega)]
        omega
      have hst := upZ_step (S := S') hk0
      rw [hi] at hst
      have hless := less_walk hS hO k i (by omega) (by omega)
      rw [hb] at hless
      obtain ⟨q, hq⟩ : ∃ q, lessZ S' k i = q := ⟨_, rfl⟩
      rw [hq] at hless hst
      have hne : ((i : Int) == (k : Int)) = false := by simp; omega
      cases q with
      | false =>
        have hE : Sol lo wr own rv (upZ S j) := by rw [← hU, hst]; exact hS
        clear hU hst hi hq
        go_wp2_with (go_at_call 93; refine hless.mono ?_; rintro e w1 ⟨p1, q1, p2⟩; rw [p1, p2]; clear p1 p2)
        go_end0
        exact ⟨rfl, hE.drewN _, hF.drewN _⟩
      | true =>
        have hsw := fun q1 => swap_walk (hS.drewN q1) hO i k (by omega) (by omega)
        rw [hb] at hsw
        have hE : upZ (swapZ S' i k) i = upZ S j := by rw [← hU, hst]; rfl
        have hO' := swap_ok hO (i := i) (j := k) (by omega) (by omega)
        have hl' : (swapZ S' i k).ov.length = L := by rw [swap_len]; exact hl
        clear hU hst hi hq
        go_wp2_with (first | (go_at_call 93; refine hless.mono ?_; rintro e w1 ⟨p1, q1, p2⟩; rw [p1, p2]; clear p1 p2) | (go_at_call 96; refine (hsw _).mono ?_; rintro e w2 ⟨p1, p2, p3⟩; rw [p1]; clear p1))
        go_roundw
        case rel => exact ⟨i, swapZ S' i k, rfl, by omega, by omega, p2, hO', (hF.drewN _).trans p3, hE⟩
        case measure => simp [intOf]; omega
end Go.Proofs.Ytkpppmldbhgcgaa
/- Sat: the heap: Push. -/
set_option autoImplicit false
set_option linter.unusedVariables false
set_option linter.unusedSimpArgs false
namespace Go.Proofs.Ytkpppmldbhgcgaa
open Go Go.RowKit
variable {lo n : Nat} {w : World} {own : Nat → Option Tg} {rv : Tg → Value} {S : Sz}
theorem push_ok (ho : OrdOK n S) {v : Nat} (hv : v < n) (hL : S.ov.length < n) : OrdOK n (pushZ S v) := by
  refine ⟨ho.big, ho.sc, ?_, fun k hk => ?_, ?_⟩
  · show (S.pl.set _ _).length = n
    rw [List.length_set]; exact ho.pl
  · have hk : k < (S.ov ++ [(v : Int)]).length := hk
    rw [List.length_append, List.length_singleton] at hk
    show 0 ≤ (S.ov ++ [(v : Int)]).getD k 0 ∧ (S.ov ++ [(v : Int)]).getD k 0 < n
    by_cases e : k < S.ov.length
    · rw [List.getD_eq_getElem?_getD, List.getElem?_append_left e, ← List.getD_eq_getElem?_getD]
      exact ho.ov k e
    · have e2 : k = S.ov.length := by omega
      subst e2
      simp
      omega
  · show (S.ov ++ [(v : Int)]).length ≤ n
    rw [List.length_append, List.length_singleton]; omega
set_option maxHeartbeats 8000000 in
set_option maxRecDepth 1000000 in
theorem hpush_walk (h : Sol lo w own rv S) (ho : OrdOK n S) (v : Nat) (hv : v < n) (hL : S.ov.length < n) : Calls Try.prog 24 #[.iface 69 (rv .x), .iface 3 (.int .i64 v)] w fun e w' => e = .returned (.tuple #[]) ∧ ∃ own' v', Sol lo w' own' (upd rv .ov v') (upZ (pushZ S v) S.ov.length) ∧ Frm own own' w w' := by
  obtain ⟨b, hb, _, _, _⟩ := h.xb
  have m1 := m_push b
  have m2 := m_len b
  have hp := opush_walk h ho v hv hL
  have hO := push_ok ho hv hL
  have hlen : (pushZ S v).ov.length = S.ov.length + 1 := by show (S.ov ++ [(v : Int)]).length = _; rw [List.length_append]; rfl
  obtain ⟨L, hLL⟩ : ∃ L, S.ov.length = L := ⟨_, rfl⟩
  rw [hLL] at hlen hL ⊢
  have hbig := ho.big
  have hx : ∀ v', upd rv .ov v' .x = .pointer (some ⟨b, 0, none⟩) := fun v' => by rw [upd_other _ _ (by intro e; cases e)]; exact hb
  rw [hb] at hp ⊢
  go_enter Try.func24, Try.ntmps24
  go_wp2_with (go_at_call 95; refine hp.mono ?_)
  rintro e w1 ⟨p1, own', v', hS, hF⟩
  rw [p1]
  have hlw := len_walk hS hO
  rw [hx, hlen] at hlw
  have huw := up_walk hS hO L (by omega)
  rw [hx] at huw
  have ht : (((L + 1 : Nat) : Int)) - 1 = L := by omega
  clear hp p1 hlen
  go_wp2_with (first | (go_at_call 53; refine hlw.mono ?_; rintro e w2 ⟨p1, p2⟩; rw [p1, p2]; clear p1 p2) | (go_at_call 40; refine huw.mono ?_; rintro e w3 ⟨p1, p2, p3⟩; rw [p1]; clear p1))
  go_end0
  exact ⟨rfl, own', v', p2, hF.trans p3⟩
end Go.Proofs.Ytkpppmldbhgcgaa
/- Sat: the heap: down, as a plain function. -/
set_option autoImplicit false
set_option linter.unusedVariables false
set_option linter.unusedSimpArgs false
namespace Go.Proofs.Ytkpppmldbhgcgaa
open Go Go.RowKit
/-- the child that is ahead -/
def kid (S : Sz) (i m : Nat) : Nat := if 2 * i + 2 < m ∧ lessZ S (2 * i + 2) (2 * i + 1) = true then 2 * i + 2 else 2 * i + 1
def downF : Nat → Sz → Nat → Nat → Sz × Nat
  | 0, S, i, _ => (S, i)
  | f + 1, S, i, m => if m ≤ 2 * i + 1 then (S, i) else if lessZ S (kid S i m) i then downF f (swapZ S i (kid S i m)) (kid S i m) m else (S, i)
def downZ (S : Sz) (i m : Nat) : Sz × Nat := downF (m - i) S i m
theorem kid_gt (S : Sz) (i m : Nat) : i < kid S i m := by unfold kid; split <;> omega
theorem kid_lt {S : Sz} {i m : Nat} (h : ¬ m ≤ 2 * i + 1) : kid S i m < m := by unfold kid; split <;> omega
theorem downF_fuel : ∀ (f g i m : Nat) (S : Sz), m - i ≤ f → m - i ≤ g → downF f S i m = downF g S i m
  | 0, 0, _, _, _, _, _ => rfl
  | 0, g + 1, i, m, S, h, _ => by
    unfold downF
    rw [if_pos (by omega)]
  | f + 1, 0, i, m, S, _, h => by
    unfold downF
    rw [if_pos (by omega)]
  | f + 1, g + 1, i, m, S, h1, h2 => by
    unfold downF
    split
    · rfl
    · rename_i hm
      have k1 := kid_gt S i m
      have k2 := kid_lt (S := S) hm
      rw [downF_fuel f g (kid S i m) m _ (by omega) (by omega)]
theorem downZ_stop {S : Sz} {i m : Nat} (h : m ≤ 2 * i + 1) : downZ S i m = (S, i) := by
  unfold downZ
  rw [downF_fuel (m - i) (m - i + 1) i m S (Nat.le_refl _) (by omega)]
  unfold downF
  rw [if_pos h]
theorem downZ_step {S : Sz} {i m : Nat} (h : ¬ m ≤ 2 * i + 1) : downZ S i m = if lessZ S (kid S i m) i then downZ (swapZ S i (kid S i m)) (kid S i m) m else (S, i) := by
  have k1 := kid_gt S i m
  unfold downZ
  rw [downF_fuel (m - i) (m - kid S i m + 1 + (m - i)) i m S (Nat.le_refl _) (by omega)]
  rw [show m - kid S i m + 1 + (m - i) = (m - kid S i m + (m - i)) + 1 by omega]
  show (if m ≤ 2 * i + 1 then (S, i) else if lessZ S (kid S i m) i then downF (m - kid S i m + (m - i)) (swapZ S i (kid S i m)) (kid S i m) m else (S, i)) = _
  rw [if_neg h, downF_fuel (m - kid S i m + (m - i)) (m - kid S i m) _ _ _ (by omega) (Nat.le_refl _)]
end Go.Proofs.Ytkpppmldbhgcgaa

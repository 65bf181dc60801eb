/- Sat: a literal is made true (let). -/
import Derived.Test.YtkpppmldbhgcgaaSbC
import Derived.StillTailTactics
import Derived.BigRegion
set_option linter.unusedVariables false
set_option linter.unusedSimpArgs false
set_option autoImplicit false
set_option linter.unusedVariables false
set_option linter.unusedSimpArgs false
namespace Go.Proofs.Ytkpppmldbhgcgaa
open Go Go.RowKit
/-- rows are as long as they must be -/
structure WF (n : Nat) (S : Sz) : Prop where
  ord : OrdOK n S
  vals : Fine n S.vals
  lev : S.lev.length = n
  rea : S.rea.length = n
  sav : S.sav.length = n
  seen : S.seen.length = n
  watch : S.watch.length = 2 * n
  bump : PosW S.bump
  scp : ∀ x ∈ S.sc, PosW x
variable {lo n : Nat} {w : World} {own : Nat → Option Tg} {rv : Tg → Value} {S : Sz}
theorem litO_get {S : Sz} {x v : Int} (h : litO S x = some v) : ∃ y, S.vals[x.natAbs]? = some y ∧ v = (if x < 0 then -y else y) := by
  unfold litO at h
  obtain ⟨y, hy, h⟩ := Option.bind_eq_some_iff.1 h
  cases h
  exact ⟨y, hy, rfl⟩
theorem litO_litV {S : Sz} {x v : Int} (h : litO S x = some v) : litV S.vals x = v := by
  obtain ⟨y, hy, rfl⟩ := litO_get h
  unfold litV
  rw [List.getD_eq_getElem?_getD, hy]
  rfl
theorem litO_walk (h : Sol lo w own rv S) (wf : WF n S) {x v : Int} (hv : litO S x = some v) : Calls Try.prog 45 #[rv .x, .int .i64 x] w fun e w' => e = .returned (.int .i8 v) ∧ w' = w := by
  obtain ⟨y, hy, _⟩ := litO_get hv
  have := value_walk x h wf.vals (by have := len_of hy; rw [wf.vals.1] at this; exact this) (by have := wf.ord.big; omega)
  rw [litO_litV hv] at this
  exact this
theorem Fine.set {n : Nat} {vs : List Int} (h : Fine n vs) (m : Nat) {x : Int} (hx : -1 ≤ x ∧ x ≤ 1) : Fine n (vs.set m x) := by
  refine ⟨by rw [List.length_set]; exact h.1, fun k => ?_⟩
  rw [List.getD_eq_getElem?_getD, List.getElem?_set]
  split
  · split
    · exact hx
    · exact ⟨by decide, by decide⟩
  · have := h.2 k
    rw [List.getD_eq_getElem?_getD] at this
    exact this
theorem let_wf (wf : WF n S) (l : Int) (rn : Option Nat) : WF n (letS S l rn) :=
  { ord := ⟨wf.ord.big, wf.ord.sc, wf.ord.pl, wf.ord.ov, wf.ord.ovl⟩
    vals := wf.vals.set _ (by split <;> omega)
    lev := by show (S.lev.set _ _).length = n; rw [List.length_set]; exact wf.lev
    rea := by show (S.rea.set _ _).length = n; rw [List.length_set]; exact wf.rea
    sav := wf.sav
    seen := wf.seen
    watch := wf.watch
    bump := wf.bump
    scp := wf.scp }
/-- an append of one value to a row of the solver's own: what is asked, and what comes of it -/
theorem Rep.pushX (h : Sol lo w own rv S) {own0 : Nat → Option Tg} {w0 : World} (hF : Frm own0 own w0 w) {T : Tg} {b m k c : Nat} {a : Option Addr} (hb : rv .x = .pointer (some ⟨b, 0, none⟩)) (hT : kd.row T = true) (hsz : kd.esz T = 1) (hm : (xcs S)[m]? = some (AC.ref T)) (hh : home T = (.x, m))
    (H : HeadAt w own rv T .x b m k a c) (hk : (mem S T).n = k) (u : AC Tg) (hu : u ≠ AC.ref T) {S' : Sz} (hS : mem S' = upd (mem S) T ⟨k + 1, (mem S T).cs ++ [u]⟩) (o : Obj) :
    (w.alloc o).ownsRow lo (kd.ety T) 1 (.slice a k c) k (concs rv (mem S T).cs) ∧ lo ≤ (w.alloc o).heap.size ∧ ∀ v' w1, w1.ownsRow lo (kd.ety T) 1 v' (k + 1) (concs rv (mem S T).cs ++ [conc rv u]) → (w.alloc o).grownBy w1 (Value.slice a k c).ownBlock → (∃ g, v'.ownBlock = some g ∧ ((Value.slice a k c).ownBlock = some g ∨ (w.alloc o).heap.size ≤ g)) →
      (w1.cell? ⟨b, m, none⟩ = some (.slice a k c) ∧ w1.frozen? ⟨b, m, none⟩ = false) ∧ ∃ own', Sol lo (w1.setCell ⟨b, m, none⟩ v') own' (upd rv T v') S' ∧ Frm own0 own' w0 (w1.setCell ⟨b, m, none⟩ v') := by
  obtain ⟨b', hb', _, hlob, hbw⟩ := h.xb
  rw [hb] at hb'
  cases hb'
  refine ⟨?_, Nat.le_trans hlob (by simp; omega), fun v' w1 q1 q2 q3 => ?_⟩
  · have := (((h.alloc o).part T).1 hT).row
    rw [H.val, hk, hsz] at this
    exact this
  · have := (h.alloc o).append hT (p := .x) (b := b) (m := m) (by rintro rfl; cases hT) (by rw [hb]; rfl) hm (ref_uniq S hT hh) [u] 1 (by
      intro j hj
      match j, hj with
      | 0, hj => exact hu (Option.some.inj hj)
      | j + 1, hj => simp at hj) (hF.alloc o) (v' := v') (w1 := w1) (by rw [hk, hsz]; exact q1) (by rw [H.val]; exact q2) (by rw [H.val]; exact q3)
    rw [H.val, hk, ← hS] at this
    exact this
theorem let_facts {S : Sz} (h : Sol lo w own rv S) {own0 : Nat → Option Tg} {w0 : World} (hF : Frm own0 own w0 w) {b m D T : Nat} (hb : rv .x = .pointer (some ⟨b, 0, none⟩)) (h1 : S.lev.length = n) (h2 : S.rea.length = n) (h3 : S.st.length = D) (h4 : S.tr.length = T) (hmn : m < n) {rn : Option Nat} {pa : Option Addr} (hby : conc rv (pro rn) = .pointer pa) (l : Int) :
    ∃ gl cl gr cr a11 c11 a10 c10 y7 y8, (w.cell? ⟨b, 7, none⟩ = some (.slice (some ⟨gl, 0, none⟩) n cl) ∧ w.cell? ⟨b, 8, none⟩ = some (.slice (some ⟨gr, 0, none⟩) n cr) ∧ w.cell? ⟨b, 11, none⟩ = some (.slice a11 D c11) ∧ w.cell? ⟨gl, m, none⟩ = some y7 ∧ w.frozen? ⟨gl, m, none⟩ = false ∧ w.cell? ⟨gr, m, none⟩ = some y8 ∧ w.frozen? ⟨gr, m, none⟩ = false ∧ gl ≠ gr ∧ n ≤ cl ∧ n ≤ cr) ∧
      ∀ wB, wB = ((w.setCell ⟨gl, m, none⟩ (.int .i64 D)).setCell ⟨gr, m, none⟩ (.pointer pa)).drew → wB.cell? ⟨b, 10, none⟩ = some (.slice a10 T c10) ∧ T ≤ c10 ∧ (wB.alloc (.cells #[.int .i64 l] 3)).ownsRow lo 3 1 (.slice a10 T c10) T (concs rv (S.tr.map vi)) ∧ lo ≤ (wB.alloc (.cells #[.int .i64 l] 3)).heap.size ∧
        ∀ v' w1, w1.ownsRow lo 3 1 v' (T + 1) (concs rv (S.tr.map vi) ++ [.int .i64 l]) → (wB.alloc (.cells #[.int .i64 l] 3)).grownBy w1 (Value.slice a10 T c10).ownBlock → (∃ g, v'.ownBlock = some g ∧ ((Value.slice a10 T c10).ownBlock = some g ∨ (wB.alloc (.cells #[.int .i64 l] 3)).heap.size ≤ g)) →
      (w1.cell? ⟨b, 10, none⟩ = some (.slice a10 T c10) ∧ w1.frozen? ⟨b, 10, none⟩ = false) ∧ ∃ own', Sol lo (w1.setCell ⟨b, 10, none⟩ v') own' (upd rv .tr v') { S with lev := S.lev.set m D, rea := S.rea.set m rn, tr := S.tr ++ [l] } ∧ Frm own0 own' w0 (w1.setCell ⟨b, 10, none⟩ v') := by
  have hn7 : (mem S .lev).n = n := by show (S.lev.map _).length = n; rw [List.length_map]; exact h1
  have hn8 : (mem S .rea).n = n := by show (S.rea.map _).length = n; rw [List.length_map]; exact h2
  obtain ⟨a7, cl, H7⟩ := h.headX (T := .lev) (m := 7) hb rfl rfl hn7
  obtain ⟨gl, rfl, hll, _⟩ := H7.at_ (by omega)
  obtain ⟨a8, cr, H8⟩ := h.headX (T := .rea) (m := 8) hb rfl rfl hn8
  obtain ⟨gr, rfl, hlr, _⟩ := H8.at_ (by omega)
  obtain ⟨a11, c11, H11⟩ := h.headX (T := .st) (m := 11) (k := D) hb rfl rfl (by show (S.st.map _).length = D; rw [List.length_map]; exact h3)
  obtain ⟨a10, c10, H10⟩ := h.headX (T := .tr) (m := 10) (k := T) hb rfl rfl (by show (S.tr.map _).length = T; rw [List.length_map]; exact h4)
  obtain ⟨e1, e2⟩ := h.hcell H7.val (map_get (f := vi) (list_get 0 (by rw [h1]; exact hmn)))
  obtain ⟨e3, e4⟩ := h.hcell H8.val (map_get (f := pro) (list_get none (by rw [h2]; exact hmn)))
  refine ⟨gl, cl, gr, cr, a11, c11, a10, c10, _, _, ⟨H7.cell, H8.cell, H11.cell, e1, e2, e3, e4, apart hll hlr (by intro e; cases e), H7.le, H8.le⟩, fun wB hwB => ?_⟩
  have s1 := h.wr (T := .lev) (g := gl) (m := m) (a := vi D) (S' := { S with lev := S.lev.set m D }) (by rw [H7.val]; rfl) (by show m < (S.lev.map _).length; rw [List.length_map, h1]; exact hmn) (by rw [mem_lev_, List.map_set]; rfl) rfl hF
  have s2 := s1.1.wr (T := .rea) (g := gr) (m := m) (a := pro rn) (S' := { S with lev := S.lev.set m D, rea := S.rea.set m rn }) (by rw [H8.val]; rfl) (by show m < (S.rea.map _).length; rw [List.length_map, h2]; exact hmn) (by rw [mem_rea_ { S with lev := S.lev.set m D }, List.map_set]; rfl) rfl s1.2
  rw [hby] at s2
  have hB : Sol lo wB own rv { S with lev := S.lev.set m D, rea := S.rea.set m rn } := by rw [hwB]; exact s2.1.drew
  have hFB : Frm own0 own w0 wB := by rw [hwB]; exact s2.2.drew
  obtain ⟨a10', c10', H10'⟩ := hB.headX (T := .tr) (m := 10) (k := T) hb rfl rfl (by show (S.tr.map _).length = T; rw [List.length_map]; exact h4)
  have e := H10'.val
  rw [H10.val] at e
  cases e
  have P := hB.pushX hFB (T := .tr) (m := 10) hb rfl rfl rfl rfl H10' (by show (S.tr.map _).length = T; rw [List.length_map]; exact h4) (vi l) (by intro e; cases e) (S' := { S with lev := S.lev.set m D, rea := S.rea.set m rn, tr := S.tr ++ [l] }) (by
    rw [mem_tr_ { S with lev := S.lev.set m D, rea := S.rea.set m rn }, List.map_append, List.map_singleton, ← row_snoc]
    show _ = upd _ _ (⟨T + 1, _⟩ : Ob Tg)
    rw [← h4]
    show upd _ _ (⟨(S.tr.map vi).length + 1, _⟩ : Ob Tg) = _
    rw [List.length_map]
    rfl) (.cells #[.int .i64 l] 3)
  exact ⟨H10'.cell, H10'.le, P.1, P.2.1, P.2.2⟩
set_option maxHeartbeats 16000000 in
set_option maxRecDepth 1000000 in
theorem let_walk (h : Sol lo w own rv S) (wf : WF n S) {l : Int} {rn : Option Nat} {pa : Option Addr} (hby : conc rv (pro rn) = .pointer pa) {r : Bool × Sz} (hf : letO S l rn = some r) :
    Calls Try.prog 29 #[rv .x, .int .i64 l, .pointer pa] w fun e w' => e = .returned (.bool r.1) ∧ ∃ own' v', Sol lo w' own' (upd rv .tr v') r.2 ∧ Frm own own' w w' := by
  obtain ⟨i0, hi0, hz0, hz1, hz2⟩ := info_parts' info3
  unfold letO at hf
  obtain ⟨v, hv, hf⟩ := Option.bind_eq_some_iff.1 hf
  have hval := litO_walk h wf hv
  obtain ⟨b, hb, hlx, hlob, hbw⟩ := h.xb
  rw [hb] at hval ⊢
  have hid : upd rv .tr (rv .tr) = rv := by
    funext t
    by_cases e : t = .tr
    · subst e; exact upd_same ..
    · exact upd_other _ _ e
  by_cases h1 : v = 1
  · rw [if_pos h1] at hf
    cases hf
    subst h1
    have hE : ∃ own' v', Sol lo w own' (upd rv .tr v') S ∧ Frm own own' w w := ⟨own, rv .tr, by rw [hid]; exact h, Frm.refl _ _⟩
    clear h hid
    go_enter Try.func29, Try.ntmps29
    go_wp2_with (go_at_call 45; refine hval.mono ?_; rintro e w2 ⟨p1, p2⟩; rw [p1, p2]; clear p1 p2)
    go_ret
    exact ⟨rfl, hE⟩
  rw [if_neg h1] at hf
  by_cases h2 : v = -1
  · rw [if_pos h2] at hf
    cases hf
    subst h2
    have hE : ∃ own' v', Sol lo w own' (upd rv .tr v') S ∧ Frm own own' w w := ⟨own, rv .tr, by rw [hid]; exact h, Frm.refl _ _⟩
    clear h hid
    go_enter Try.func29, Try.ntmps29
    go_wp2_with (go_at_call 45; refine hval.mono ?_; rintro e w2 ⟨p1, p2⟩; rw [p1, p2]; clear p1 p2)
    go_ret
    exact ⟨rfl, hE⟩
  rw [if_neg h2] at hf
  split at hf
  case isFalse => cases hf
  rename_i hroom
  cases hf
  obtain ⟨hr1, hr2⟩ := hroom
  have hr1 : S.tr.length < 100000000 := by unfold roomy at hr1; exact of_decide_eq_true hr1
  have hr2 : S.st.length < 100000000 := by unfold roomy at hr2; exact of_decide_eq_true hr2
  obtain ⟨m, hm⟩ : ∃ m, l.natAbs = m := ⟨_, rfl⟩
  obtain ⟨y, hy, _⟩ := litO_get hv
  rw [hm] at hy
  have hmn : m < n := by have := len_of hy; rw [wf.vals.1] at this; exact this
  have hbig := wf.ord.big
  have habs := abs_walk l (by omega) (by omega)
  rw [hm] at habs
  have hnv' : (mem S .vals).cs.length = n := by show (S.vals.map _).length = n; rw [List.length_map]; exact wf.vals.1
  obtain ⟨a6, c6, HV⟩ := h.headX (T := .vals) (m := 6) hb rfl rfl (k := n) hnv'
  obtain ⟨gv, rfl, hlv, hvb⟩ := HV.at_ (by omega)
  obtain ⟨cv, fv⟩ := h.hcell HV.val (u := .val (.int .i8 y)) (map_get hy)
  obtain ⟨T, hT⟩ : ∃ T, S.tr.length = T := ⟨_, rfl⟩
  obtain ⟨D, hD⟩ : ∃ D, S.st.length = D := ⟨_, rfl⟩
  rw [hT] at hr1
  rw [hD] at hr2
  have f6 := HV.cell
  have hvI : (m : Int) < n := by omega
  have hf' : True := trivial
  by_cases h0 : l < 0
  · obtain ⟨wA, hwA⟩ : ∃ x, x = ((w.setCell ⟨gv, m, none⟩ (.int .i8 1)).setCell ⟨gv, m, none⟩ (.int .i8 (-1))) := ⟨_, rfl⟩
    have hSA : Sol lo wA own rv { S with vals := S.vals.set m (-1) } ∧ Frm own own w wA := by
      rw [hwA]
      have e1 := h.wr (T := .vals) (g := gv) (m := m) (a := .val (.int .i8 1)) (S' := { S with vals := S.vals.set m 1 }) (by rw [HV.val]; rfl) (by rw [hnv']; exact hmn) (by rw [mem_vals_, List.map_set]; rfl) rfl (Frm.refl own w)
      have e2 := e1.1.wr (T := .vals) (g := gv) (m := m) (a := .val (.int .i8 (-1))) (S' := { S with vals := (S.vals.set m 1).set m (-1) }) (by rw [HV.val]; rfl) (by show m < ((S.vals.set m 1).map _).length; rw [List.length_map, List.length_set, wf.vals.1]; exact hmn) (by rw [mem_vals_ { S with vals := S.vals.set m 1 }, List.map_set]; rfl) rfl e1.2
      rw [List.set_set] at e2
      exact e2
    have hx : letS S l rn = { S with vals := S.vals.set m (-1), lev := S.lev.set m D, rea := S.rea.set m rn, tr := S.tr ++ [l] } := by
      unfold letS
      rw [hm, hD, if_pos h0]
    rw [hx]
    obtain ⟨gl, cl, gr, cr, a11, c11, a10, c10, y7, y8, ⟨k1, k2, k3, k4, k5, k6, k7, k8, k9, k10⟩, hK⟩ := let_facts hSA.1 hSA.2 hb wf.lev wf.rea hD hT hmn hby l
    obtain ⟨wB, hwB⟩ : ∃ x, x = ((wA.setCell ⟨gl, m, none⟩ (.int .i64 D)).setCell ⟨gr, m, none⟩ (.pointer pa)).drew := ⟨_, rfl⟩
    obtain ⟨j1, j2, own2, hlo2, hend⟩ := hK wB hwB
    have y6 : (wA.setCell ⟨gl, m, none⟩ (.int .i64 D)).cell? ⟨gr, m, none⟩ = some y8 := by rw [World.cell?_setCell_other _ ⟨gl, m, none⟩ ⟨gr, m, none⟩ _ (by intro e; injection e; omega)]; exact k6
    have y7' : (wA.setCell ⟨gl, m, none⟩ (.int .i64 D)).frozen? ⟨gr, m, none⟩ = false := by rw [World.frozen?_setCell]; exact k7
    have fv1 : (w.setCell ⟨gv, m, none⟩ (.int .i8 1)).cell? ⟨gv, m, none⟩ = some (.int .i8 1) := World.cell?_setCell_same _ _ _ cv
    have fv2 : (w.setCell ⟨gv, m, none⟩ (.int .i8 1)).frozen? ⟨gv, m, none⟩ = false := by rw [World.frozen?_setCell]; exact fv
    have fb1 : (w.setCell ⟨gv, m, none⟩ (.int .i8 1)).cell? ⟨b, 6, none⟩ = some (.slice (some ⟨gv, 0, none⟩) n c6) := by rw [World.cell?_setCell_other _ ⟨gv, m, none⟩ ⟨b, 6, none⟩ _ (by intro e; injection e; omega)]; exact f6
    have cn := cell_new wB #[.int .i64 l] 3 (0, 0) 0
    have hH := Hid'.mk (And.intro hwA (And.intro k1 (And.intro k2 (And.intro k3 (And.intro k4 (And.intro k5 (And.intro k6 (And.intro k7 (And.intro y6 y7')))))))))
    have hH2 := Hid'.mk (And.intro hwB (And.intro j1 (And.intro cn (And.intro own2 (And.intro hlo2 hend)))))
    clear hSA hK hx hwA hwB k1 k2 k3 k4 k5 k6 k7 y6 y7' j1 cn own2 hlo2 hend h HV hv hby hf' wf
    go_enter Try.func29, Try.ntmps29
    go_upto_region 10 with (first | (go_at_call 45; refine hval.mono ?_; rintro e w2 ⟨p1, p2⟩; rw [p1, p2]; clear p1 p2) | (go_at_call 46; refine (habs w).mono ?_; rintro e w2 ⟨p1, p2⟩; rw [p1, p2]; clear p1 p2))
    obtain ⟨hwA, k1, k2, k3, k4, k5, k6, k7, y6, y7'⟩ := hH.h
    rw [← hwA]
    clear hwA hH habs hval fv cv f6 hnv' hy
    go_region
    obtain ⟨hwB, j1, cn, own2, hlo2, hend⟩ := hH2.h
    rw [← hwB]
    clear hwB hH2 k1 k2 k3 k4 k5 k6 k7 y6 y7'
    go_wp2_with (first | (at_builtin; refine wpList_append_told _ rfl _ _ 40 rfl lo 3 i0 (.int .i64 0) 1 8 Try.underlying40 hi0 hz0 hz1 hz2 rfl (by decide) _ _ _ rfl own2 ⟨wB.heap.size, 0, none⟩ 1 1 [.int .i64 l] rfl rfl ?c1 ?c2 (by decide) ?c3 ?c4 hlo2 ?_))
    case c1 =>
      intro j u hj
      match j, hj with
      | 0, hj =>
        simp at hj
        subst hj
        rw [add_plain]
        exact cn
    case c2 => intro u hu; simp at hu; subst hu; rfl
    case c3 => unfold maxLen; omega
    case c4 => omega
    intro v' w1 hown' hgrow gg hl1 hl2
    obtain ⟨⟨d1, d2⟩, own', hS, hF⟩ := hend _ _ hown' hgrow ⟨gg, hl1, hl2.imp id (fun hh => by simpa using hh)⟩
    rcases hown'.2 with ⟨_, e9⟩ | ⟨g9, cap9, cur9, rfl, _⟩
    · omega
    clear hend hgrow hl1 hl2 hown' cn own2 hlo2 j1
    go_wp2
    go_ret
    exact ⟨rfl, own', _, hS, hF⟩
  · obtain ⟨wA, hwA⟩ : ∃ x, x = (w.setCell ⟨gv, m, none⟩ (.int .i8 1)) := ⟨_, rfl⟩
    have hSA : Sol lo wA own rv { S with vals := S.vals.set m (1) } ∧ Frm own own w wA := by
      rw [hwA]
      have e1 := h.wr (T := .vals) (g := gv) (m := m) (a := .val (.int .i8 1)) (S' := { S with vals := S.vals.set m 1 }) (by rw [HV.val]; rfl) (by rw [hnv']; exact hmn) (by rw [mem_vals_, List.map_set]; rfl) rfl (Frm.refl own w)
      exact e1
    have hx : letS S l rn = { S with vals := S.vals.set m (1), lev := S.lev.set m D, rea := S.rea.set m rn, tr := S.tr ++ [l] } := by
      unfold letS
      rw [hm, hD, if_neg h0]
    rw [hx]
    obtain ⟨gl, cl, gr, cr, a11, c11, a10, c10, y7, y8, ⟨k1, k2, k3, k4, k5, k6, k7, k8, k9, k10⟩, hK⟩ := let_facts hSA.1 hSA.2 hb wf.lev wf.rea hD hT hmn hby l
    obtain ⟨wB, hwB⟩ : ∃ x, x = ((wA.setCell ⟨gl, m, none⟩ (.int .i64 D)).setCell ⟨gr, m, none⟩ (.pointer pa)).drew := ⟨_, rfl⟩
    obtain ⟨j1, j2, own2, hlo2, hend⟩ := hK wB hwB
    have y6 : (wA.setCell ⟨gl, m, none⟩ (.int .i64 D)).cell? ⟨gr, m, none⟩ = some y8 := by rw [World.cell?_setCell_other _ ⟨gl, m, none⟩ ⟨gr, m, none⟩ _ (by intro e; injection e; omega)]; exact k6
    have y7' : (wA.setCell ⟨gl, m, none⟩ (.int .i64 D)).frozen? ⟨gr, m, none⟩ = false := by rw [World.frozen?_setCell]; exact k7
    have cn := cell_new wB #[.int .i64 l] 3 (0, 0) 0
    have hH := Hid'.mk (And.intro hwA (And.intro k1 (And.intro k2 (And.intro k3 (And.intro k4 (And.intro k5 (And.intro k6 (And.intro k7 (And.intro y6 y7')))))))))
    have hH2 := Hid'.mk (And.intro hwB (And.intro j1 (And.intro cn (And.intro own2 (And.intro hlo2 hend)))))
    clear hSA hK hx hwA hwB k1 k2 k3 k4 k5 k6 k7 y6 y7' j1 cn own2 hlo2 hend h HV hv hby hf' wf
    go_enter Try.func29, Try.ntmps29
    go_upto_region 10 with (first | (go_at_call 45; refine hval.mono ?_; rintro e w2 ⟨p1, p2⟩; rw [p1, p2]; clear p1 p2) | (go_at_call 46; refine (habs w).mono ?_; rintro e w2 ⟨p1, p2⟩; rw [p1, p2]; clear p1 p2))
    obtain ⟨hwA, k1, k2, k3, k4, k5, k6, k7, y6, y7'⟩ := hH.h
    rw [← hwA]
    clear hwA hH habs hval fv cv f6 hnv' hy
    go_region
    obtain ⟨hwB, j1, cn, own2, hlo2, hend⟩ := hH2.h
    rw [← hwB]
    clear hwB hH2 k1 k2 k3 k4 k5 k6 k7 y6 y7'
    go_wp2_with (first | (at_builtin; refine wpList_append_told _ rfl _ _ 40 rfl lo 3 i0 (.int .i64 0) 1 8 Try.underlying40 hi0 hz0 hz1 hz2 rfl (by decide) _ _ _ rfl own2 ⟨wB.heap.size, 0, none⟩ 1 1 [.int .i64 l] rfl rfl ?c1 ?c2 (by decide) ?c3 ?c4 hlo2 ?_))
    case c1 =>
      intro j u hj
      match j, hj with
      | 0, hj =>
        simp at hj
        subst hj
        rw [add_plain]
        exact cn
    case c2 => intro u hu; simp at hu; subst hu; rfl
    case c3 => unfold maxLen; omega
    case c4 => omega
    intro v' w1 hown' hgrow gg hl1 hl2
    obtain ⟨⟨d1, d2⟩, own', hS, hF⟩ := hend _ _ hown' hgrow ⟨gg, hl1, hl2.imp id (fun hh => by simpa using hh)⟩
    rcases hown'.2 with ⟨_, e9⟩ | ⟨g9, cap9, cur9, rfl, _⟩
    · omega
    clear hend hgrow hl1 hl2 hown' cn own2 hlo2 j1
    go_wp2
    go_ret
    exact ⟨rfl, own', _, hS, hF⟩
end Go.Proofs.Ytkpppmldbhgcgaa

/- Sat: back to a level (back), the walk. -/
import Derived.Test.YtkpppmldbhgcgaaSbStoSbN
import Derived.Test.YtkpppmldbhgcgaaSbE
import Derived.Test.YtkpppmldbhgcgaaSbD
set_option linter.unusedVariables false
set_option linter.unusedSimpArgs false
set_option autoImplicit false
set_option linter.unusedVariables false
set_option linter.unusedSimpArgs false
namespace Go.Proofs.Ytkpppmldbhgcgaa
open Go Go.RowKit
variable {lo n : Nat} {w : World} {own : Nat → Option Tg} {rv : Tg → Value} {S : Sz}
/-- labels that back turns -/
def isB : Tg → Bool
  | .ov => true
  | .tr => true
  | .st => true
  | _ => false
theorem isB_upd {rv rv1 : Tg → Value} (h : ∀ t, isB t = false → rv1 t = rv t) {T : Tg} (hT : isB T = true) (v : Value) : ∀ t, isB t = false → upd rv1 T v t = rv t := fun t ht => (upd_other _ _ (by rintro rfl; rw [hT] at ht; cases ht)).trans (h t ht)
set_option maxHeartbeats 16000000 in
set_option maxRecDepth 1000000 in
theorem back_walk (h : Sol lo w own rv S) (wf : WF n S) {level : Nat} {S' : Sz} (hf : backO S level = some S') (hlen : S.st.length < 100000000 ∧ S.tr.length < 100000000) :
    Calls Try.prog 33 #[rv .x, .int .i64 level] w fun e w' => e = .returned (.tuple #[]) ∧ ∃ own' rv', Sol lo w' own' rv' S' ∧ Frm own own' w w' ∧ ∀ t, isB t = false → rv' t = rv t := by
  obtain ⟨b, hb, hlx, hlob, hbw⟩ := h.xb
  have hbig := wf.ord.big
  obtain ⟨D, hD⟩ : ∃ D, S.st.length = D := ⟨_, rfl⟩
  obtain ⟨T, hT⟩ : ∃ D, S.tr.length = D := ⟨_, rfl⟩
  obtain ⟨a11, c11, H11⟩ := h.headX (T := .st) (m := 11) (k := D) hb rfl rfl (by show (S.st.map _).length = D; rw [List.length_map]; exact hD)
  have f11 := H11.cell
  rw [hD, hT] at hlen
  unfold backO at hf
  rw [hD] at hf
  by_cases hge : D ≤ level
  · rw [if_pos hge] at hf
    cases hf
    have hE := Hid'.mk h
    have hgeI : (D : Int) ≤ level := by omega
    rw [hb]
    clear h H11 wf
    go_enter Try.func33, Try.ntmps33
    go_wp2
    (try simp only [Exit.inBlock, Exit.then]); refine bodyPost_ret (results_none rfl _ _ _) rfl ?_
    exact ⟨rfl, own, rv, hE.h, Frm.refl _ _, fun _ _ => rfl⟩
  rw [if_neg hge] at hf
  obtain ⟨fr, hfr, hf⟩ := Option.bind_eq_some_iff.1 hf
  split at hf
  case isFalse => cases hf
  rename_i hfb
  obtain ⟨S2, hS2, hf⟩ := Option.bind_eq_some_iff.1 hf
  cases hf
  obtain ⟨F, rfl⟩ : ∃ F : Nat, fr = F := ⟨fr.toNat, by omega⟩
  rw [hT] at hfb
  have hFT : F < T := by omega
  rw [Int.toNat_natCast] at hS2 ⊢
  obtain ⟨g11, rfl, hl11, _⟩ := H11.at_ (by omega)
  have s11 := (h.hcell H11.val (u := vi F) (map_get hfr)).1
  replace s11 : w.cell? ⟨g11, level, none⟩ = some (.int .i64 F) := s11
  obtain ⟨a10, c10, H10⟩ := h.headX (T := .tr) (m := 10) (k := T) hb rfl rfl (by show (S.tr.map _).length = T; rw [List.length_map]; exact hT)
  obtain ⟨g10, rfl, hl10, _⟩ := H10.at_ (by omega)
  have f10 := H10.cell
  have hTc := H10.le
  have hDc := H11.le
  obtain ⟨e1, e2, e3, wf2⟩ := backL_tr _ wf hS2
  -- a round
  have hround : ∀ (i : Nat) (wr : World) ow rv1 S1, F + i < T → Sol lo wr ow rv1 S1 → Frm own ow w wr → WF n S1 → S1.tr = S.tr → S1.st = S.st → (∀ t, t ≠ .ov → rv1 t = rv t) → backL (S.tr.drop (F + i)) S1 = some S2 →
      ∃ (l : Int) (v : Nat) (S3 : Sz), wr.cell? ⟨g10, F + i, none⟩ = some (.int .i64 l) ∧ l.natAbs = v ∧ backV S1 l = some S3 ∧ backL (S.tr.drop (F + i + 1)) S3 = some S2 ∧ WF n S3 ∧ S3.tr = S.tr ∧ S3.st = S.st ∧ ∃ gs cs gv cv gr cr gp cp x9 y X p, v < n ∧ (n ≤ cs ∧ n ≤ cv ∧ n ≤ cr ∧ n ≤ cp) ∧ (wr.cell? ⟨b, 9, none⟩ = some (.slice (some ⟨gs, 0, none⟩) n cs) ∧ wr.cell? ⟨gs, v, none⟩ = some x9 ∧ wr.frozen? ⟨gs, v, none⟩ = false) ∧
      ∀ w1, w1 = wr.setCell ⟨gs, v, none⟩ (.bool (decide (0 < l))) → (w1.cell? ⟨b, 6, none⟩ = some (.slice (some ⟨gv, 0, none⟩) n cv) ∧ w1.cell? ⟨b, 8, none⟩ = some (.slice (some ⟨gr, 0, none⟩) n cr) ∧ w1.cell? ⟨gv, v, none⟩ = some (.int .i8 y) ∧ w1.frozen? ⟨gv, v, none⟩ = false ∧ w1.cell? ⟨gr, v, none⟩ = some X ∧ w1.frozen? ⟨gr, v, none⟩ = false ∧ gv ≠ gr ∧ (w1.setCell ⟨gv, v, none⟩ (.int .i8 0)).cell? ⟨gr, v, none⟩ = some X ∧ (w1.setCell ⟨gv, v, none⟩ (.int .i8 0)).frozen? ⟨gr, v, none⟩ = false) ∧
      ∀ w2, w2 = ((w1.setCell ⟨gv, v, none⟩ (.int .i8 0)).setCell ⟨gr, v, none⟩ (.pointer none)).drew → (w2.cell? ⟨b, 1, none⟩ = some (.slice (some ⟨gp, 0, none⟩) n cp) ∧ w2.cell? ⟨gp, v, none⟩ = some (.int .i64 p)) ∧
        (¬ p < 0 → Sol lo w2 ow rv1 S3 ∧ Frm own ow w w2) ∧ (p < 0 → Calls Try.prog 24 #[.iface 69 (.pointer (some ⟨b, 0, none⟩)), .iface 3 (.int .i64 v)] w2 fun e w' => e = .returned (.tuple #[]) ∧ ∃ own' v', Sol lo w' own' (upd rv1 .ov v') S3 ∧ Frm own own' w w') := by
    intro i wr ow rv1 S1 hi hs hF wf1 t1 t2 hr hbk
    have hdrop : S.tr.drop (F + i) = S.tr[F + i]'(by omega) :: S.tr.drop (F + i + 1) := List.drop_eq_getElem_cons (by omega)
    rw [hdrop] at hbk
    obtain ⟨S3, h3, h4⟩ := Option.bind_eq_some_iff.1 hbk
    have hb1 : rv1 .x = .pointer (some ⟨b, 0, none⟩) := (hr .x (by intro e; cases e)).trans hb
    have hv10 : rv1 .tr = .slice (some ⟨g10, 0, none⟩) T c10 := (hr .tr (by intro e; cases e)).trans H10.val
    have hbf := back_facts hs wf1 hF hb1 rfl h3
    obtain ⟨q1, q2, q3⟩ := backV_tr wf1 h3
    exact ⟨_, _, S3, (hs.hcell hv10 (u := vi (S.tr[F + i]'(by omega))) (map_get (by rw [t1]; exact List.getElem?_eq_getElem (by omega)))).1, rfl, h3, h4, (backV_wf wf1 h3).1, q1.trans t1, q2.trans t2, hbf⟩
  -- behind the loop
  have hend : ∀ (wr : World) ow rv1 S1, Sol lo wr ow rv1 S1 → Frm own ow w wr → S1.tr = S.tr → S1.st = S.st → (∀ t, t ≠ .ov → rv1 t = rv t) → S1 = S2 →
      (wr.cell? ⟨b, 10, none⟩ = some (.slice (some ⟨g10, 0, none⟩) T c10) ∧ wr.frozen? ⟨b, 10, none⟩ = false ∧ wr.cell? ⟨b, 11, none⟩ = some (.slice (some ⟨g11, 0, none⟩) D c11) ∧ wr.frozen? ⟨b, 11, none⟩ = false ∧ (∃ X, wr.cell? ⟨b, 12, none⟩ = some X) ∧ wr.frozen? ⟨b, 12, none⟩ = false) ∧
      ∃ own' rv', Sol lo (((wr.setCell ⟨b, 10, none⟩ (.slice (some ⟨g10, 0, none⟩) F c10)).setCell ⟨b, 11, none⟩ (.slice (some ⟨g11, 0, none⟩) level c11)).setCell ⟨b, 12, none⟩ (.int .i64 F)).drew own' rv' { S2 with tr := S2.tr.take F, st := S2.st.take level, at' := F } ∧ Frm own own' w (((wr.setCell ⟨b, 10, none⟩ (.slice (some ⟨g10, 0, none⟩) F c10)).setCell ⟨b, 11, none⟩ (.slice (some ⟨g11, 0, none⟩) level c11)).setCell ⟨b, 12, none⟩ (.int .i64 F)).drew ∧ ∀ t, isB t = false → rv' t = rv t := by
    rintro wr ow rv1 S1 hs hF t1 t2 hr rfl
    have hb1 : rv1 .x = .pointer (some ⟨b, 0, none⟩) := (hr .x (by intro e; cases e)).trans hb
    have hv10 : rv1 .tr = .slice (some ⟨g10, 0, none⟩) T c10 := (hr .tr (by intro e; cases e)).trans H10.val
    have hv11 : rv1 .st = .slice (some ⟨g11, 0, none⟩) D c11 := (hr .st (by intro e; cases e)).trans H11.val
    have u10 := hs.fld hb1 (m := 10) rfl
    rw [show conc rv1 (AC.ref Tg.tr) = _ from hv10] at u10
    have u11 := hs.fld hb1 (m := 11) rfl
    rw [show conc rv1 (AC.ref Tg.st) = _ from hv11] at u11
    have u12 := hs.fld hb1 (m := 12) rfl
    refine ⟨⟨u10.1, u10.2, u11.1, u11.2, ⟨_, u12.1⟩, u12.2⟩, ?_⟩
    have z1 := hs.cutX hF (T := .tr) (m := 10) (k' := F) hb1 rfl rfl rfl rfl hv10 (by show (S1.tr.map _).length = T; rw [List.length_map, t1]; exact hT) (by omega) (S' := { S1 with tr := S1.tr.take F }) (by rw [mem_tr_, List.map_take]; unfold Ytkpppmldbhgcgaa.row; rw [List.length_take, List.length_map, show S1.tr.length = T by rw [t1]; exact hT, Nat.min_eq_left (by omega)]; rfl)
    have hb2 : upd rv1 .tr (.slice (some ⟨g10, 0, none⟩) F c10) .x = .pointer (some ⟨b, 0, none⟩) := (upd_other _ _ (by intro e; cases e)).trans hb1
    have z2 := z1.1.cutX z1.2 (T := .st) (m := 11) (k' := level) hb2 rfl rfl rfl rfl ((upd_other _ _ (by intro e; cases e)).trans hv11) (by show (S1.st.map _).length = D; rw [List.length_map, t2]; exact hD) (by omega) (S' := { S1 with tr := S1.tr.take F, st := S1.st.take level }) (by rw [mem_st_ { S1 with tr := S1.tr.take F }, List.map_take]; unfold Ytkpppmldbhgcgaa.row; rw [List.length_take, List.length_map, show S1.st.length = D by rw [t2]; exact hD, Nat.min_eq_left (by omega)]; try rfl)
    have z3 := z2.1.putX z2.2 (m := 12) ((upd_other _ _ (by intro e; cases e)).trans hb2) (by decide) (vi F) (S' := { S1 with tr := S1.tr.take F, st := S1.st.take level, at' := F }) (by rw [mem_at_ { S1 with tr := S1.tr.take F, st := S1.st.take level }])
    exact ⟨ow, _, z3.1.drew, z3.2.drew, isB_upd (isB_upd (fun t ht => hr t (by rintro rfl; cases ht)) rfl _) rfl _⟩
  have hH := Hid'.mk (And.intro hround hend)
  have hself := Hid'.mk (And.intro h wf)
  have hge' : ¬ (D : Int) ≤ level := by omega
  have hlvI : (level : Int) < D := by omega
  have hFc : ¬ (c10 : Int) = F := by omega
  have hFI : (F : Int) ≤ c10 := by omega
  have hFT' : (F : Int) ≤ T := by omega
  have hTcI : (T : Int) ≤ c10 := by omega
  have hS2' := Hid'.mk hS2
  rw [hb]
  have hTl := Hid'.mk hT
  clear hround hend h H10 H11 wf hS2 e1 e2 e3 wf2 hfr hD hT
  go_enter Try.func33, Try.ntmps33
  go_wp2
  go_loopw [29] (fun iv wr => ∃ (i : Nat) (ow : Nat → Option Tg) (rv1 : Tg → Value) (S1 : Sz), iv = .int .i64 i ∧ F + i ≤ T ∧ Sol lo wr ow rv1 S1 ∧ Frm own ow w wr ∧ WF n S1 ∧ S1.tr = S.tr ∧ S1.st = S.st ∧ (∀ t, ¬ t = .ov → rv1 t = rv t) ∧ backL (S.tr.drop (F + i)) S1 = some S2) (fun iv _ => T - F - (intOf iv).toNat)
  case atStart => exact ⟨0, own, rv, S, rfl, by omega, hself.h.1, Frm.refl _ _, hself.h.2, rfl, rfl, fun _ _ => rfl, hS2'.h⟩
  case round =>
    obtain ⟨i, ow, rv1, S1, rfl, hi, hs, hF, wf1, t1, t2, hr, hbk⟩ := hrel
    by_cases hlt : F + i < T
    · obtain ⟨l, v, S3, k1, hlv, hb3, hbk3, wf3, t3, t4, gs, cs, gv, cv, gr, cr, gp, cp, x9, y, X, p, hvn, ⟨m1, m2, m3, m4⟩, ⟨j1, j2, j3⟩, hw1⟩ := hH.h.1 i wr ow rv1 S1 hlt hs hF wf1 t1 t2 hr hbk
      obtain ⟨w1, hwe1⟩ : ∃ x, x = wr.setCell ⟨gs, v, none⟩ (.bool (decide (0 < l))) := ⟨_, rfl⟩
      obtain ⟨⟨u1, u2, u3, u4, u5, u6, u7, u8, u9⟩, hw2⟩ := hw1 w1 hwe1
      obtain ⟨w2, hwe2⟩ : ∃ x, x = ((w1.setCell ⟨gv, v, none⟩ (.int .i8 0)).setCell ⟨gr, v, none⟩ (.pointer none)).drew := ⟨_, rfl⟩
      obtain ⟨⟨n1, n2⟩, hp0, hp1⟩ := hw2 w2 hwe2
      have habs := abs_walk l (by omega) (by omega)
      rw [hlv] at habs
      have hiI : (i : Int) < ((T - F : Nat) : Int) := by omega
      have hvI : (v : Int) < n := by omega
      have hrr := Hid'.mk hr
      have hA := Hid'.mk (And.intro hwe1 (And.intro u1 (And.intro u2 (And.intro u3 (And.intro u4 (And.intro u5 (And.intro u6 (And.intro u8 u9))))))))
      have hB := Hid'.mk (And.intro hwe2 (And.intro n1 (And.intro n2 (And.intro hp0 (And.intro hp1 (And.intro hbk3 (And.intro wf3 (And.intro t3 t4))))))))
      clear hself hS2' hw1 hw2 hwe1 hwe2 u1 u2 u3 u4 u5 u6 u8 u9 n1 n2 hp0 hp1 hbk3 wf3 t3 t4 hs hF wf1 t1 t2 hr hbk hb3 f10 f11 s11 hH
      go_wp2_with (go_at_call 46; refine (habs wr).mono ?_; rintro e w9 ⟨p1, p2⟩; rw [p1, p2]; clear p1 p2)
      obtain ⟨hwe1, u1, u2, u3, u4, u5, u6, u8, u9⟩ := hA.h
      rw [← hwe1]
      clear hwe1 j1 j2 j3 k1 hA habs
      go_region
      obtain ⟨hwe2, n1, n2, hp0, hp1, hbk3, wf3, t3, t4⟩ := hB.h
      rw [← hwe2]
      clear hwe2 u1 u2 u3 u4 u5 u6 u8 u9 hB
      by_cases hp : p < 0
      · replace hp1 := hp1 (by omega)
        have hC := Hid'.mk (And.intro hbk3 (And.intro wf3 (And.intro t3 t4)))
        clear hbk3 wf3 t3 t4 hp0
        go_wp2_with (go_at_call 24; refine hp1.mono ?_; rintro e w3 ⟨p1, ow2, v2, p2, p3⟩; rw [p1]; clear p1)
        obtain ⟨hbk3, wf3, t3, t4⟩ := hC.h
        go_roundw
        case rel => exact ⟨i + 1, ow2, _, S3, by simp, by omega, p2, p3, wf3, t3, t4, fun t ht => (upd_other _ _ ht).trans (hrr.h t ht), hbk3⟩
        case measure => simp [intOf]; omega
      · have hpp := Hid'.mk (hp0 (by omega))
        have hC := Hid'.mk (And.intro hbk3 (And.intro wf3 (And.intro t3 t4)))
        clear hbk3 wf3 t3 t4 hp0 hp1
        go_wp2
        obtain ⟨hbk3, wf3, t3, t4⟩ := hC.h
        go_roundw
        case rel => exact ⟨i + 1, ow, rv1, S3, by simp, by omega, hpp.h.1, hpp.h.2, wf3, t3, t4, hrr.h, hbk3⟩
        case measure => simp [intOf]; omega
    · have hiN : F + i = T := by omega
      have hiI : ¬ (i : Int) < ((T - F : Nat) : Int) := by omega
      have e0 : S1 = S2 := by
        rw [List.drop_eq_nil_of_le (by rw [hTl.h]; omega)] at hbk
        exact Option.some.inj hbk
      obtain ⟨⟨z1, z2, z3, z4, ⟨X, z5⟩, z6⟩, hE⟩ := hH.h.2 wr ow rv1 S1 hs hF t1 t2 hr e0
      have hEE := Hid'.mk hE
      clear hself hS2' hE hs hF wf1 t1 t2 hr hbk e0 f10 f11 s11 hH
      go_wp2
      go_region
      first | go_end0 | (go_wp2; go_end0)
      exact ⟨rfl, hEE.h⟩
end Go.Proofs.Ytkpppmldbhgcgaa
/- Sat: a line of the proof (log): what turns in memory. -/
set_option autoImplicit false
set_option linter.unusedVariables false
set_option linter.unusedSimpArgs false
namespace Go.Proofs.Ytkpppmldbhgcgaa
open Go Go.RowKit
theorem pcs_snoc : ∀ (l : List (Bool × List Int)) (k : Nat) (p : Bool × List Int), pcs k (l ++ [p]) = pcs k l ++ [vb p.1, .ref (.pc (k + l.length))]
  | [], k, p => rfl
  | q :: l, k, p => by
    show vb q.1 :: AC.ref (Tg.pc k) :: pcs (k + 1) (l ++ [p]) = vb q.1 :: AC.ref (Tg.pc k) :: (pcs (k + 1) l ++ _)
    rw [pcs_snoc l (k + 1) p]
    have : k + 1 + l.length = k + (q :: l).length := by simp; omega
    rw [this]
theorem mem_prf_ (S : Sz) (g : Bool) (l : List Int) : mem { S with prf := S.prf ++ [(g, l)] } = upd (upd (mem S) (.pc S.prf.length) (row (l.map vi))) .prf ⟨S.prf.length + 1, pcs 0 S.prf ++ [vb g, .ref (.pc S.prf.length)]⟩ := by
  funext t
  by_cases e : t = .prf
  · subst e
    rw [upd_same]
    show (⟨(S.prf ++ [(g, l)]).length, pcs 0 (S.prf ++ [(g, l)])⟩ : Ob Tg) = _
    rw [pcs_snoc, List.length_append, Nat.zero_add]
    rfl
  · rw [upd_other _ _ e]
    by_cases e2 : t = .pc S.prf.length
    · subst e2
      rw [upd_same]
      show row (match (S.prf ++ [(g, l)])[S.prf.length]? with | some p => p.2.map vi | none => []) = _
      rw [List.getElem?_append_right (Nat.le_refl _), Nat.sub_self]
      rfl
    · rw [upd_other _ _ e2]
      cases t with
      | pc i =>
        show row (match (S.prf ++ [(g, l)])[i]? with | some p => p.2.map vi | none => []) = row (match S.prf[i]? with | some p => p.2.map vi | none => [])
        by_cases hi : i < S.prf.length
        · rw [List.getElem?_append_left hi]
        · have hi2 : S.prf.length ≠ i := fun h => e2 (by rw [h])
          rw [List.getElem?_eq_none (by rw [List.length_append, List.length_singleton]; omega), List.getElem?_eq_none (by omega)]
      | prf => exact absurd rfl e
      | _ => rfl
variable {lo n : Nat} {w : World} {own : Nat → Option Tg} {rv : Tg → Value} {S : Sz}
/-- a row of one's own comes to be a label's that has none -/
theorem Rep.linkRow {τ : Type} {K : Kd τ} {lo : Nat} {w : World} {own : Nat → Option τ} {rv : τ → Value} {M : τ → Ob τ} (h : Rep K lo w own rv M) {t : τ} (ht : K.row t = true) (hu : ∀ q (k : Nat), (M q).cs[k]? ≠ some (AC.ref t)) {v : Value} {n : Nat} {cs : List (AC τ)} (hcs : ∀ k : Nat, cs[k]? ≠ some (AC.ref t))
    (ho : w.ownsRow lo (K.ety t) (K.esz t) v n (concs rv cs)) (hn : ∀ g, v.ownBlock = some g → own g = none) {own0 : Nat → Option τ} {w0 : World} (hF : Frm own0 own w0 w) (hnew : ∀ g, v.ownBlock = some g → w0.heap.size ≤ g) :
    ∃ own', Rep K lo w own' (upd rv t v) (upd M t ⟨n, cs⟩) ∧ Frm own0 own' w0 w ∧ (∀ g, own g ≠ none → own' g = own g) ∧ (∀ g, v.ownBlock ≠ some g → own' g = own g) := by
  rcases ho.2 with ⟨e1, e2⟩ | ⟨g, cap, cur, e1, hlo, hg, _⟩
  · subst e1 e2
    have : cs = [] := by
      have := ho.1
      unfold concs at this
      rw [List.length_map, Nat.zero_mul] at this
      exact List.eq_nil_of_length_eq_zero this
    subst this
    exact ⟨own, h.linkNil ht hu, hF, fun _ _ => rfl, fun _ _ => rfl⟩
  · have hob : v.ownBlock = some g := by rw [e1]; rfl
    have hgn := hn g hob
    refine ⟨lab own g t, h.link hu (g := g) (by rw [e1]; rfl) hgn ⟨hlo, (Array.getElem?_eq_some_iff.1 hg).1⟩ ⟨fun _ => ⟨?_, fun k hk => ?_⟩, fun k => by rw [ht] at k; cases k⟩, ⟨hF.os, hF.tape, hF.output, hF.size, fun k hk => ?_, hF.keep⟩, fun k hk => ?_, fun k hk => ?_⟩
    · rw [concs_upd hcs]; exact ho
    · rw [hob] at hk
      cases hk
      exact lab_same ..
    · have := hnew g hob
      show Ytkpppmldbhgcgaa.lab own g t k = own0 k
      rw [lab_other _ _ (by omega)]; exact hF.lab k hk
    · exact lab_other _ _ (by rintro rfl; exact hk hgn)
    · exact lab_other _ _ (by rintro rfl; exact hk hob)
end Go.Proofs.Ytkpppmldbhgcgaa

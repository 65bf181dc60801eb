/- Drat: does a clause follow, whatever an empty slice's address. -/
import Derived.Test.YtagfnjpjmmleiaaDoorTH
set_option linter.unusedVariables false
set_option linter.unusedSimpArgs false
set_option autoImplicit false
set_option linter.unusedVariables false
set_option linter.unusedSimpArgs false
namespace Go.Proofs.YtagfnjpjmmleiaaDoor
open Go.Shelf Go.RowKit
def Free2 (own : Nat → Option Tag) (a : Option Addr) (zs : List Int) : Prop := ∀ ad, a = some ad → zs ≠ [] → own ad.block = none
theorem Frm.ints2 {own own' : Nat → Option Tag} {w w' : World} (h : Frm own own' w w') {a : Option Addr} {zs : List Int} (hi : Ints w a zs) (hf : Free2 own a zs) : Ints w' a zs := fun j hj => by
  obtain ⟨b, off, rfl, hb, hc⟩ := hi j hj
  refine ⟨b, off, rfl, Nat.lt_of_lt_of_le hb h.size, ?_⟩
  exact (h.cell (p := ⟨b, off + j, none⟩) hb (hf ⟨b, off, none⟩ rfl (by rintro rfl; exact absurd hj (Nat.not_lt_zero _)))).trans hc
set_option maxHeartbeats 16000000 in
set_option maxRecDepth 1000000 in
theorem followsC_walk2 (cx : Cx) (own : Nat → Option Tag) (rv : Tag → Value) (S : St) (w : World) (la ma : Option Addr) (ln lc mn mc : Nat) (zl zm : List Int) (h : Rep cx w own rv S) (hp : RestS cx.V S) (hN : S.n ≤ 1000000000) (hL : ∀ i, i < S.n → (S.lits i).length ≤ 1000000000) (hV : cx.V ≤ 999999990)
    (hln : zl.length = ln) (hmn : zm.length = mn) (hl9 : ln ≤ 1000000000) (hm9 : mn ≤ 1000000000) (hli : Ints w la zl) (hmi : Ints w ma zm) (hlf : Free2 own la zl) (hmf : Free2 own ma zm) (hll : Lits (cx.V + 1) zl) (hml : Lits (cx.V + 1) zm) :
    Calls Tryd.prog 37 #[.pointer (some ⟨cx.xb, 0, none⟩), .slice la ln lc, .slice ma mn mc] w (FolOut cx.V S (zl ++ zm) cx own rv w) := by
  have c5 : w.cell? ⟨cx.xb, 5, none⟩ = some (.int .i64 S.empty) := (h.x.cell 5 (by decide)).1
  have hidx0 := idx0 la ma ln lc mn mc
  have hidx1 := idx1 la ma ln lc mn mc
  go_enter_defers Tryd.func37, Tryd.ntmps37
  by_cases he : 0 < S.empty
  · have heI : (0 : Int) < S.empty := by omega
    have hE : FolOut cx.V S (zl ++ zm) cx own rv w (.returned (.bool true)) w := ⟨true, S, own, rv, rfl, h, Frm.refl _ _, hp, Sim.refl _, fun _ => rfl, fun _ => .inr (empty_confl hp.core he), fun _ => rfl⟩
    go_wp2
    exact door0 rfl rfl hE
  · have heI : ¬ (0 : Int) < S.empty := by omega
    go_wp2
    go_loopw [22] (fun iv wr => ∃ (j : Int) (v t : List Int) (own1 : Nat → Option Tag) (rv1 : Tag → Value), (j = 0 ∨ j = 1 ∨ j = 2) ∧ iv = .int .i64 j ∧ Rep cx wr own1 rv1 { S with vals := v, trail := t } ∧ (Frm own own1 w wr ∧ HK rv rv1) ∧ Mid cx.V (Negs (if j = 0 then [] else if j = 1 then zl else zl ++ zm)) S { S with vals := v, trail := t } ∧ Just { S with vals := v, trail := t } (if j = 0 then [] else if j = 1 then zl else zl ++ zm)) (fun iv _ => 2 - (intOf iv).toNat)
    case atStart => exact ⟨0, S.vals, S.trail, own, rv, .inl rfl, rfl, h, ⟨Frm.refl _ _, fun _ => rfl⟩, Mid.start hp, fun x hx e => by rw [hp.z x hx] at e; cases e⟩
    case round =>
      obtain ⟨j, v0, t0, own1, rv1, hj, rfl, hrep, ⟨hfr, hkr⟩, hmid, hjust⟩ := hrel
      rcases hj with rfl | rfl | rfl
      · rw [if_pos rfl] at hmid hjust
        go_wp2
        go_loopw [27] (fun iv wx => ∃ (k : Nat) (v t : List Int) (own2 : Nat → Option Tag) (rv2 : Tag → Value), k ≤ ln ∧ iv = .int .i64 k ∧ Rep cx wx own2 rv2 { S with vals := v, trail := t } ∧ (Frm own own2 w wx ∧ HK rv rv2) ∧ Mid cx.V (Negs ([] ++ zl.take k)) S { S with vals := v, trail := t } ∧ Just { S with vals := v, trail := t } ([] ++ zl.take k)) (fun iv _ => ln - (intOf iv).toNat)
        case atStart => exact ⟨0, v0, t0, own1, rv1, Nat.zero_le _, rfl, hrep, ⟨hfr, hkr⟩, hmid, hjust⟩
        case round =>
          obtain ⟨k, v, t, own2, rv2, hk, rfl, hrep2, ⟨hfr2, hkr2⟩, hmid2, hjust2⟩ := hrel
          by_cases hlt : k < ln
          · obtain ⟨b, off, rfl, hb, hc⟩ := hfr2.ints2 hli hlf k (by omega)
            have htk := take_snoc (zs := zl) (k := k) (by omega)
            have hxm : zl.getD k 0 ∈ zl := by rw [List.getD_eq_getElem?_getD, List.getElem?_eq_getElem (by omega)]; exact List.getElem_mem _
            obtain ⟨x, hx⟩ : ∃ x, zl.getD k 0 = x := ⟨_, rfl⟩
            rw [hx] at hc htk hxm
            obtain ⟨hx0, hxV⟩ := hll x hxm
            have htz := hmid2.tz
            have hlet := let_rep cx own2 rv2 { S with vals := v, trail := t } (-x) wr hrep2 hmid2.core.vl (by omega) (by omega) (by omega) (show t.length ≤ 1000000000 by have : zeros v + t.length ≤ cx.V + 1 := htz; omega)
            have hltI : (k : Int) < ln := by omega
            clear c5
            go_wp2_with (go_at_call 49; refine hlet.mono ?_)
            rintro e w2 ⟨b1, S3, own3, rv3, hR, p1, hrep3, hfr3, hk3⟩
            rw [p1]
            clear p1 hlet
            obtain ⟨ht1, ht2⟩ := hmid2.take hjust2 hx0 hxV hR
            cases b1 with
            | true =>
              obtain ⟨hm3, hj3⟩ := ht1 rfl
              obtain ⟨v3, t3, rfl⟩ := hm3.eq
              go_wp2
              go_roundw
              case rel =>
                refine ⟨k + 1, v3, t3, own3, rv3, hlt, (by simp), hrep3, ⟨hfr2.trans hfr3, fun c => (hk3 _ (by intro e; cases e)).trans (hkr2 c)⟩, ?_, ?_⟩
                · rw [htk, ← List.append_assoc]; exact hm3
                · rw [htk, ← List.append_assoc]; exact hj3
              case measure => simp [intOf]; omega
            | false =>
              obtain ⟨rfl, hneg⟩ := ht2 rfl
              have hT : Taut (zl ++ zm) := ⟨x, (fun y hy => List.mem_append_left _ hy) x hxm, (fun y hy => List.mem_append_left _ (List.mem_of_mem_take hy)) (-x) hneg⟩
              have hE := fol_leave (zs := zl ++ zm) rfl hrep3 (hfr2.trans hfr3) (fun c => (hk3 _ (by intro e; cases e)).trans (hkr2 c)) hmid2.sim hmid2.core hmid2.wt hmid2.tr hmid2.tl hmid2.tz hV (b := true) ⟨fun _ => .inl hT, fun _ => rfl⟩
              go_wp2
              exact door1 rfl rfl (by simp [go_sem]) hE
          · have e0 : k = ln := by omega
            subst e0; subst hln
            have hln' : [] ++ zl.take zl.length = zl := by rw [List.take_length]; rfl
            clear c5
            go_wp2
            go_roundw
            case rel => exact ⟨1, v, t, own2, rv2, .inr (.inl rfl), rfl, hrep2, ⟨hfr2, hkr2⟩, (by rw [hln'] at hmid2; exact hmid2), (by rw [hln'] at hjust2; exact hjust2)⟩
            case measure => simp [intOf]
      · rw [if_neg (by decide), if_pos rfl] at hmid hjust
        go_wp2
        go_loopw [27] (fun iv wx => ∃ (k : Nat) (v t : List Int) (own2 : Nat → Option Tag) (rv2 : Tag → Value), k ≤ mn ∧ iv = .int .i64 k ∧ Rep cx wx own2 rv2 { S with vals := v, trail := t } ∧ (Frm own own2 w wx ∧ HK rv rv2) ∧ Mid cx.V (Negs (zl ++ zm.take k)) S { S with vals := v, trail := t } ∧ Just { S with vals := v, trail := t } (zl ++ zm.take k)) (fun iv _ => mn - (intOf iv).toNat)
        case atStart => exact ⟨0, v0, t0, own1, rv1, Nat.zero_le _, rfl, hrep, ⟨hfr, hkr⟩, (by rw [List.take_zero, List.append_nil]; exact hmid), (by rw [List.take_zero, List.append_nil]; exact hjust)⟩
        case round =>
          obtain ⟨k, v, t, own2, rv2, hk, rfl, hrep2, ⟨hfr2, hkr2⟩, hmid2, hjust2⟩ := hrel
          by_cases hlt : k < mn
          · obtain ⟨b, off, rfl, hb, hc⟩ := hfr2.ints2 hmi hmf k (by omega)
            have htk := take_snoc (zs := zm) (k := k) (by omega)
            have hxm : zm.getD k 0 ∈ zm := by rw [List.getD_eq_getElem?_getD, List.getElem?_eq_getElem (by omega)]; exact List.getElem_mem _
            obtain ⟨x, hx⟩ : ∃ x, zm.getD k 0 = x := ⟨_, rfl⟩
            rw [hx] at hc htk hxm
            obtain ⟨hx0, hxV⟩ := hml x hxm
            have htz := hmid2.tz
            have hlet := let_rep cx own2 rv2 { S with vals := v, trail := t } (-x) wr hrep2 hmid2.core.vl (by omega) (by omega) (by omega) (show t.length ≤ 1000000000 by have : zeros v + t.length ≤ cx.V + 1 := htz; omega)
            have hltI : (k : Int) < mn := by omega
            clear c5
            go_wp2_with (go_at_call 49; refine hlet.mono ?_)
            rintro e w2 ⟨b1, S3, own3, rv3, hR, p1, hrep3, hfr3, hk3⟩
            rw [p1]
            clear p1 hlet
            obtain ⟨ht1, ht2⟩ := hmid2.take hjust2 hx0 hxV hR
            cases b1 with
            | true =>
              obtain ⟨hm3, hj3⟩ := ht1 rfl
              obtain ⟨v3, t3, rfl⟩ := hm3.eq
              go_wp2
              go_roundw
              case rel =>
                refine ⟨k + 1, v3, t3, own3, rv3, hlt, (by simp), hrep3, ⟨hfr2.trans hfr3, fun c => (hk3 _ (by intro e; cases e)).trans (hkr2 c)⟩, ?_, ?_⟩
                · rw [htk, ← List.append_assoc]; exact hm3
                · rw [htk, ← List.append_assoc]; exact hj3
              case measure => simp [intOf]; omega
            | false =>
              obtain ⟨rfl, hneg⟩ := ht2 rfl
              have hT : Taut (zl ++ zm) := ⟨x, (fun y hy => List.mem_append_right _ hy) x hxm, (fun y hy => (List.mem_append.1 hy).elim (fun e => List.mem_append_left _ e) (fun e => List.mem_append_right _ (List.mem_of_mem_take e))) (-x) hneg⟩
              have hE := fol_leave (zs := zl ++ zm) rfl hrep3 (hfr2.trans hfr3) (fun c => (hk3 _ (by intro e; cases e)).trans (hkr2 c)) hmid2.sim hmid2.core hmid2.wt hmid2.tr hmid2.tl hmid2.tz hV (b := true) ⟨fun _ => .inl hT, fun _ => rfl⟩
              go_wp2
              exact door1 rfl rfl (by simp [go_sem]) hE
          · have e0 : k = mn := by omega
            subst e0; subst hmn
            have hmn' : zl ++ zm.take zm.length = zl ++ zm := by rw [List.take_length]
            clear c5
            go_wp2
            go_roundw
            case rel => exact ⟨2, v, t, own2, rv2, .inr (.inr rfl), rfl, hrep2, ⟨hfr2, hkr2⟩, (by rw [hmn'] at hmid2; exact hmid2), (by rw [hmn'] at hjust2; exact hjust2)⟩
            case measure => simp [intOf]
      · rw [if_neg (by decide), if_neg (by decide)] at hmid hjust
        have hnt := hmid.noTaut (fun y hy => (List.mem_append.1 hy).elim (hll y) (hml y))
        obtain ⟨ua, un, ucap, huv, hun, hucell⟩ := hrep.unitsRow
        have hun9 : un ≤ S.n := by rw [hun]; exact nodup_len hp.core.ud fun i hi => ((hp.core.un i).1 hi).1
        have c4 : wr.cell? ⟨cx.xb, 4, none⟩ = some (.slice ua un ucap) := by rw [← huv]; exact (hrep.x.cell 4 (by decide)).1
        clear c5
        go_wp2
        go_loopw [43] (fun iv wx => ∃ (k : Nat) (v t : List Int) (own2 : Nat → Option Tag) (rv2 : Tag → Value), k ≤ un ∧ iv = .int .i64 k ∧ Rep cx wx own2 rv2 { S with vals := v, trail := t } ∧ (Frm own own2 w wx ∧ HK rv rv2) ∧ Mid cx.V (Negs (zl ++ zm)) S { S with vals := v, trail := t } ∧ rv2 .units = .slice ua un ucap ∧ ∀ i ∈ S.units.take k, S.gone i = false → ∀ a, S.lits i = [a] → litV v a = 1) (fun iv _ => un - (intOf iv).toNat)
        case atStart => exact ⟨0, v0, t0, own1, rv1, Nat.zero_le _, rfl, hrep, ⟨hfr, hkr⟩, hmid, huv, fun i hi => by cases hi⟩
        case round =>
          obtain ⟨k, v, t, own2, rv2, hk, rfl, hrep2, ⟨hfr2, hkr2⟩, hmid2, huv2, hall⟩ := hrel
          clear c4 hucell
          by_cases hlt : k < un
          · obtain ⟨ua', un', ucap', e1, e2, hucell⟩ := hrep2.unitsRow
            rw [huv2] at e1
            cases e1
            obtain ⟨ug, rfl, hugo, hcu0⟩ := hucell k hlt
            clear hucell
            have htk : S.units.take (k + 1) = S.units.take k ++ [S.units.getD k 0] := by rw [List.take_add_one, List.getD_eq_getElem?_getD, List.getElem?_eq_getElem (by omega)]; rfl
            have him : S.units.getD k 0 ∈ S.units := by rw [List.getD_eq_getElem?_getD, List.getElem?_eq_getElem (by omega)]; exact List.getElem_mem _
            have hcu : wr.cell? ⟨ug, k, none⟩ = some (.int .i64 ((S.units.getD k 0 : Nat) : Int)) := hcu0
            clear hcu0
            obtain ⟨i, hi⟩ : ∃ i, S.units.getD k 0 = i := ⟨_, rfl⟩
            rw [hi] at hcu htk him
            obtain ⟨hin, hi1⟩ := (hp.core.un i).1 him
            obtain ⟨a, ha⟩ : ∃ a, S.lits i = [a] := by
              match hl : S.lits i, hi1 with
              | [a], _ => exact ⟨a, rfl⟩
            have hla := hp.core.li i hin a (by rw [ha]; simp)
            obtain ⟨ab, acap, hav, hao, hacell⟩ := hrep2.allRow (show 0 < S.n by omega)
            have c1 : wr.cell? ⟨cx.xb, 1, none⟩ = some (.slice (some ⟨ab, 0, none⟩) S.n acap) := by
              have := (hrep2.x.cell 1 (by decide)).1
              rw [show fld cx rv2 { S with vals := v, trail := t } 1 = rv2 .all from rfl, hav] at this; exact this
            obtain ⟨cl0, cg0, _⟩ := hacell i hin
            have cg : wr.cell? ⟨ab, i * 2 + 1, none⟩ = some (.bool (S.gone i)) := cg0
            obtain ⟨g, ccap, hcv, hgo, hccell⟩ := hrep2.clause (i := i) (show 0 < (S.lits i).length by omega)
            rw [hcv] at cl0
            have cl : wr.cell? ⟨ab, i * 2, none⟩ = some (.slice (some ⟨g, 0, none⟩) (S.lits i).length ccap) := cl0
            rw [hi1] at cl
            have c00 := (hccell 0 (show 0 < (S.lits i).length by omega)).1
            have c01 : wr.cell? ⟨g, 0, none⟩ = some (.int .i64 ((S.lits i).getD 0 0)) := c00
            rw [ha] at c01
            have c0 : wr.cell? ⟨g, 0, none⟩ = some (.int .i64 a) := c01
            clear c00 c01 cl0 cg0
            have hinI : (i : Int) < S.n := by omega
            have hltI : (k : Int) < un := by omega
            have htz := hmid2.tz
            have hlet := let_rep cx own2 rv2 { S with vals := v, trail := t } a wr hrep2 hmid2.core.vl (by omega) (by omega) (by omega) (show t.length ≤ 1000000000 by have : zeros v + t.length ≤ cx.V + 1 := htz; omega)
            clear hccell hacell
            cases hg : S.gone i with
            | true =>
              rw [hg] at cg
              go_wp2
              go_roundw
              case rel =>
                refine ⟨k + 1, v, t, own2, rv2, hlt, (by simp), hrep2, ⟨hfr2, hkr2⟩, hmid2, huv2, fun j hj hgj b hb => ?_⟩
                rw [htk] at hj
                rcases List.mem_append.1 hj with hj | hj
                · exact hall j hj hgj b hb
                · rw [List.mem_singleton.1 hj, hg] at hgj; cases hgj
              case measure => simp [intOf]; omega
            | false =>
              rw [hg] at cg
              go_wp2_with (go_at_call 49; refine hlet.mono ?_)
              rintro e w2 ⟨b1, S3, own3, rv3, hR, p1, hrep3, hfr3, hrv3⟩
              rw [p1]
              clear p1 hlet
              obtain ⟨hmono, ht1, ht2⟩ := hmid2.unit hin hg ha hR
              cases b1 with
              | true =>
                obtain ⟨hm3, hl3⟩ := ht1 rfl
                obtain ⟨v3, t3, rfl⟩ := hm3.eq
                go_wp2
                go_roundw
                case rel =>
                  refine ⟨k + 1, v3, t3, own3, rv3, hlt, (by simp), hrep3, ⟨hfr2.trans hfr3, fun c => (hrv3 _ (by intro e; cases e)).trans (hkr2 c)⟩, hm3, (hrv3 .units (by intro e; cases e)).trans huv2, fun j hj hgj b hb => ?_⟩
                  rw [htk] at hj
                  rcases List.mem_append.1 hj with hj | hj
                  · exact hmono b (hall j hj hgj b hb)
                  · rw [List.mem_singleton.1 hj, ha] at hb; cases hb; exact hl3
                case measure => simp [intOf]; omega
              | false =>
                obtain ⟨rfl, hC⟩ := ht2 rfl
                have hE := fol_leave (zs := zl ++ zm) rfl hrep3 (hfr2.trans hfr3) (fun c => (hrv3 _ (by intro e; cases e)).trans (hkr2 c)) hmid2.sim hmid2.core hmid2.wt hmid2.tr hmid2.tl hmid2.tz hV (b := true) ⟨fun _ => .inr hC, fun _ => rfl⟩
                go_wp2
                exact door1 rfl rfl (by simp [go_sem]) hE
          · have e0 : k = un := by omega
            have hfull : S.units.take k = S.units := List.take_of_length_le (by omega)
            rw [hfull] at hall
            have hPr := hmid2.pr hall
            have hsp := spread_walk (Negs (zl ++ zm)) S cx own2 rv2 _ wr hrep2 hPr hN hL hV
            subst e0
            go_wp2_with (go_at_call 50; refine hsp.mono ?_)
            rintro e w2 ⟨b1, S3, own3, rv3, q, p1, hrep3, hfr3, hk3, hP3, hC0, hC1⟩
            rw [p1]
            clear p1 hsp
            cases b1 with
            | true =>
              have hno : ¬ Fol (cls S) (zl ++ zm) := by
                rintro (e | e)
                · exact hnt e
                · exact hP3.closed (hC1 rfl) (fun x hx => hx.1) (fun i hi hg e2 => by
                    have := no_empty hp.core he (hP3.sim.n ▸ hi) (hP3.sim.gone ▸ hg)
                    have hpm := hP3.sim.lits i
                    rw [e2] at hpm
                    exact this (List.Perm.eq_nil hpm.symm)) e
              have hE := fol_leave (zs := zl ++ zm) rfl hrep3 (hfr2.trans hfr3) (fun c => (hk3 c).trans (hkr2 c)) hP3.sim hP3.core hP3.wt hP3.tr hP3.tl hP3.tz hV (b := false) ⟨fun e => (by cases e), fun e => absurd e hno⟩
              go_wp2
              exact door1 rfl rfl (by simp [go_sem]) hE
            | false =>
              have hE := fol_leave (zs := zl ++ zm) rfl hrep3 (hfr2.trans hfr3) (fun c => (hk3 c).trans (hkr2 c)) hP3.sim hP3.core hP3.wt hP3.tr hP3.tl hP3.tz hV (b := true) ⟨fun _ => .inr (hC0 rfl), fun _ => rfl⟩
              go_wp2
              exact door1 rfl rfl (by simp [go_sem]) hE
end Go.Proofs.YtagfnjpjmmleiaaDoor

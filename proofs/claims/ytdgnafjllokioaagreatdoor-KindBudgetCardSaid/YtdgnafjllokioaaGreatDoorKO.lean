/- Kind: is a trace a bad run? as the document tells it (Bad), walked. -/
import Derived.Test.YtdgnafjllokioaaGreatDoorKN
set_option linter.unusedVariables false
set_option linter.unusedSimpArgs false
set_option autoImplicit false
set_option linter.unusedVariables false
set_option linter.unusedSimpArgs false
namespace Go.Proofs.YtdgnafjllokioaaGreatDoor
open Go.Proofs Go
open Go.RowKit Kb
def nvl (l : List Bool) : List Int := l.map fun b => if b then 1 else 0
theorem nvl_len (l : List Bool) : (nvl l).length = l.length := by unfold nvl; rw [List.length_map]
theorem nvl_get (l : List Bool) (j : Nat) : (nvl l).getD j 0 = if l.getD j false then 1 else 0 := by
  unfold nvl
  rw [List.getD_eq_getElem?_getD, List.getD_eq_getElem?_getD, List.getElem?_map]
  cases l[j]? <;> rfl
/-- a row of rows of bits -/
def Bits2 (w : World) (a : Option Addr) (tr : List (List Bool)) : Prop := ∀ j, j < tr.length → ∃ b off ra rc, a = some ⟨b, off, none⟩ ∧ b < w.heap.size ∧ w.cell? ⟨b, off + j, none⟩ = some (.slice ra (tr.getD j []).length rc) ∧ Ints w ra (nvl (tr.getD j []))
theorem Bits2.below {w wr : World} {a : Option Addr} {tr : List (List Bool)} (h : Bits2 w a tr) (hb : Below w.heap.size w wr) : Bits2 wr a tr := fun j hj => by
  obtain ⟨b, off, ra, rc, e1, e2, e3, e4⟩ := h j hj
  exact ⟨b, off, ra, rc, e1, Nat.lt_of_lt_of_le e2 hb.size, (hb.cell (by exact e2)).trans e3, e4.below hb⟩
theorem drop_cons {α : Type} {l : List α} {k : Nat} (d : α) (h : k < l.length) : l.drop k = l.getD k d :: l.drop (k + 1) := by
  rw [List.drop_eq_getElem_cons h, List.getD_eq_getElem?_getD, List.getElem?_eq_getElem h]
  rfl
theorem bvs_snoc {l : List Bool} {k : Nat} (h : k < l.length) : bvs (l.take (k + 1)) = bvs (l.take k) ++ [.bool (l.getD k false)] := by
  unfold bvs
  rw [List.take_add_one, List.getElem?_eq_getElem h, getD_lt h, List.map_append]
  rfl
set_option maxHeartbeats 8000000 in
set_option maxRecDepth 1000000 in
theorem bad_walk (d : SA) (y : Sy) (gn nn im : Nat) (ta : Option Addr) (tn tc : Nat) (tr : List (List Bool)) (w : World) (hy : Kb.Good y) (hgn : y.gates.length = gn) (hnn : y.now.length = nn) (him : y.ins.length = im) (hg9 : gn ≤ 1000) (hn9 : nn ≤ 100) (hi9 : im ≤ 100)
    (hsys : SysAt w d y) (htn : tr.length = tn) (ht9 : tn ≤ 1000000) (htl : ∀ t ∈ tr, t.length = im) (htz : Bits2 w ta tr) :
    Calls Tryz.prog 10 #[.agg (sysC d gn nn im y.ok y.asm), .slice ta tn tc] w fun e w' => e = .returned (.bool (replayZ y y.init tr)) ∧ Below w.heap.size w w' := by
  obtain ⟨s, hs⟩ : ∃ s, w.heap.size = s := ⟨_, rfl⟩
  obtain ⟨W1, hW1⟩ : ∃ W, w.alloc (.cells (sysC d gn nn im y.ok y.asm) 28) = W := ⟨_, rfl⟩
  have hb0 : Below s w W1 := by rw [← hW1, ← hs]; exact (Below.refl w.heap.size w).alloc (Nat.le_refl _) _
  have hsb : SB s d gn nn im y.ok y.asm W1 := by rw [← hW1, ← hs]; exact sb_new ..
  have hall : ∀ W, Below s w W → SysAt W d y ∧ Bits2 W ta tr := fun W hb => ⟨hsys.below (hs ▸ hb), htz.below (hs ▸ hb)⟩
  have hbi : Bools W1 d.ba y.init := (hall W1 hb0).1.b
  have hil : y.init.length = nn := by rw [hy.it, hnn]
  have hnext := fun (sa : Option Addr) (sc : Nat) (st : List Bool) (ia : Option Addr) (ic : Nat) (inp : List Bool) (W : World) (hb : Below s w W) (h1 : st.length = nn) (h2 : Bools W sa st) (h3 : inp.length = im) (h4 : Bools W ia inp) => next_walk d y gn nn im sa sc st ia ic inp W hy hgn hnn him hg9 hn9 hi9 (hall W hb).1 h1 h2 h3 h4
  obtain ⟨i4, hi4, hz40, hz41, hz42⟩ := info_parts' info4
  obtain ⟨ok, hok⟩ : ∃ x, y.ok = x := ⟨_, rfl⟩
  obtain ⟨asm, hasm⟩ : ∃ x, y.asm = x := ⟨_, rfl⟩
  rw [hok, hasm] at hW1 hsb ⊢
  have hnext : ∀ (sa : Option Addr) (sc : Nat) (st : List Bool) (ia : Option Addr) (ic : Nat) (inp : List Bool) (W : World), Below s w W → st.length = nn → Bools W sa st → inp.length = im → Bools W ia inp → Calls Tryz.prog 19 #[.agg (sysC d gn nn im ok asm), .slice sa nn sc, .slice ia im ic] W (StepOut W y st inp) := by rw [← hok, ← hasm]; exact hnext
  rw [hs]
  have c4 := hsb.c4
  have hslt := hsb.lt
  obtain ⟨R, hR⟩ : ∃ r, replayZ y y.init tr = r := ⟨_, rfl⟩
  rw [hR]
  unfold sysC at hW1 ⊢
  go_enter Tryz.func10, Tryz.ntmps10
  clear hsys htz
  go_upto_region 1 with fail
  clear hs hW1
  go_upto_region 2 with fail
  go_wp2
  go_loopw [5, 6] (fun sv i wr => ∃ (t : Nat) (st : List Bool) (sa : Option Addr) (sc : Nat), t ≤ tn ∧ i = .int .i64 t ∧ sv = .slice sa nn sc ∧ st.length = nn ∧ Bools wr sa st ∧ Below s w wr ∧ SB s d gn nn im ok asm wr ∧ replayZ y st (tr.drop t) = R) (fun _ i _ => tn - (intOf i).toNat)
  case atStart => exact ⟨0, y.init, d.ba, d.bc, Nat.zero_le _, rfl, rfl, hil, hbi, hb0, hsb, hR⟩
  case round =>
    clear hb0 hsb hbi c4 hslt hR hil
    obtain ⟨t, st, sa, sc, ht, rfl, rfl, hst, hsz, hbw, hsb, hrep⟩ := hrel
    by_cases hlt : t < tn
    · have hltI : (t : Int) < tn := by omega
      obtain ⟨b, off, ra, rc, rfl, hb, hc, hri⟩ := (hall wr hbw).2 t (by omega)
      rw [drop_cons [] (by omega : t < tr.length)] at hrep
      have hrl : (tr.getD t []).length = im := by
        rw [List.getD_eq_getElem?_getD, List.getElem?_eq_getElem (by omega)]
        exact htl _ (List.getElem_mem _)
      obtain ⟨row, hrow⟩ : ∃ r, tr.getD t [] = r := ⟨_, rfl⟩
      rw [hrow] at hc hri hrep hrl
      rw [hrl] at hc
      have c3 := hsb.c3
      have hQ : Aside (∀ q, Below s w (wr.drewN q) ∧ SB s d gn nn im ok asm (wr.drewN q) ∧ Bools (wr.drewN q) sa st ∧ (wr.drewN q).cell? ⟨b, off + t, none⟩ = some (.slice ra im rc) ∧ Ints (wr.drewN q) ra (nvl row)) := fun q => ⟨below_drewN hbw q, hsb.below hsb.lt (below_drewN (Below.refl _ _) q), hsz, hc, hri⟩
      have hrep : Aside _ := hrep
      clear hbw hsb hsz hri hrow
      go_wp2
      go_big_quiet (fail)
      go_wp2
      obtain ⟨hbw, hsb, hsz, hc1, hri⟩ := hQ.out nq
      generalize wr.drewN nq = W at *
      clear hQ hc c3
      obtain ⟨lo, hlo⟩ : ∃ n, W.heap.size = n := ⟨_, rfl⟩
      have hslo : s < lo := hlo ▸ hsb.lt
      have hri2 : ∀ W', Below lo W W' → Ints W' ra (nvl row) := fun W' h => hri.below (hlo ▸ h)
      have hsz2 : ∀ W', Below lo W W' → lo ≤ W'.heap.size := fun W' h => hlo ▸ h.size
      have hblt : b < lo := hlo ▸ cellLt hc1
      have hb00 : Below lo W W := Below.refl _ _
      go_loopw [7, 8] (fun lv i wr => ∃ k : Nat, k ≤ im ∧ i = .int .i64 k ∧ wr.ownsRow lo 4 1 lv k (bvs (row.take k)) ∧ Below lo W wr) (fun _ i _ => im - (intOf i).toNat)
      case atStart => exact ⟨0, Nat.zero_le _, rfl, World.ownsRow_nil _ _ _ _, hb00⟩
      case round =>
        clear hb00
        obtain ⟨k, hk, rfl, hrow, hbl⟩ := hrel
        have hc2 : wr.cell? ⟨b, off + t, none⟩ = some (.slice ra im rc) := (hbl.cell (p := ⟨b, off + t, none⟩) hblt).trans hc1
        by_cases hltk : k < im
        · have hltkI : (k : Int) < im := by omega
          obtain ⟨rb, ro, rfl, hrb, x0⟩ := hri2 _ hbl k (by rw [nvl_len]; omega)
          rw [nvl_get] at x0
          have hsn := bvs_snoc (l := row) (k := k) (by omega)
          obtain ⟨u, hu⟩ : ∃ u, row.getD k false = u := ⟨_, rfl⟩
          rw [hu] at x0 hsn
          obtain ⟨hrow2, hszz, hgr⟩ := row_push (ob := .cells #[.bool u] 4) hrow (hsz2 _ hbl) rfl
          have hK : Aside ((∀ (j : Nat) (x : Value), [Value.bool u][j]? = some x → (wr.alloc (.cells #[.bool u] 4)).cell? ((⟨wr.heap.size, 0, none⟩ : Addr).add j) = some x) ∧ (∀ x ∈ [Value.bool u], x.oneCell' = true) ∧ k + 1 ≤ maxLen ∧ (k + 1) * 1 ≤ 140737488355328) :=
            ⟨one_new wr _ 4, fun x hx => by rw [List.mem_singleton.1 hx]; rfl, by unfold maxLen; omega, by omega⟩
          have hsu : Aside (bvs (row.take (k + 1)) = bvs (row.take k) ++ [.bool u]) := hsn
          obtain ⟨vv, hvv⟩ : ∃ v, v = u7 := ⟨_, rfl⟩
          subst hvv
          have hbA : Aside (Below lo W wr ∧ ∀ w3, (wr.alloc (.cells #[.bool u] 4)).grownBy w3 vv.ownBlock → Below lo wr w3) := ⟨hbl, hgr⟩
          clear hsn hu hrow hbl hgr hri hri2 hsz hsb hbw hnext hall htl hrep hsz2
          cases u
          all_goals (
            try simp only [Bool.false_eq_true, if_false, if_true, ite_true, ite_false] at x0
            go_wp2_with (first | (at_builtin; refine wpList_append_own _ rfl _ _ 26 rfl lo 4 i4 (.bool false) 1 1 Tryz.underlying26 hi4 hz40 hz41 hz42 rfl (by decide) _ _ _ rfl hrow2 ⟨wr.heap.size, 0, none⟩ 1 1 [.bool _] rfl rfl hK.out.1 hK.out.2.1 hK.out.2.2.1 hK.out.2.2.2 hszz ?_))
            intro v' w3 hown hgrow hnn2
            have hG : Aside (w3.ownsRow lo 4 1 v' (k + 1) (bvs (row.take (k + 1))) ∧ Below lo W w3) := by
              refine ⟨?_, hbA.out.1.trans (hbA.out.2 w3 hgrow)⟩
              rw [hsu.out]
              exact hown
            clear hown hgrow hnn2 hbA hrow2 hK hszz hsu
            go_wp2
            go_roundw
            case rel => exact ⟨k + 1, hltk, by go_num, hG.out.1, hG.out.2⟩
            case measure => simp only [intOf]; omega)
        · have hkn : k = im := by omega
          subst hkn
          rw [List.take_of_length_le (by omega)] at hrow
          obtain ⟨la, lc, rfl, _, hlz, _⟩ := bools_of hrow hrl
          have hbw2 := hbw.trans (hbl.mono (Nat.le_of_lt hslo))
          have hsb2 := hsb.below hslo hbl
          have hsz3 : Bools wr sa st := hsz.below (hlo.symm ▸ hbl)
          have hnx := hnext sa sc st la lc row wr hbw2 hst hsz3 hrl hlz
          have hlt' : ¬ (k : Int) < k := by omega
          unfold StepOut at hnx
          obtain ⟨c0, c1, c2, c3, c4, c5, c6, hsw⟩ := hsb2
          obtain ⟨okb, hokb⟩ : ∃ r, okZ y st row = r := ⟨_, rfl⟩
          obtain ⟨asb, hasb⟩ : ∃ r, asmZ y st row = r := ⟨_, rfl⟩
          rw [hokb, hasb] at hnx
          have hrp : (asb && (if (tr.drop (t + 1)).isEmpty then !okb else replayZ y (nextZ y st row) (tr.drop (t + 1)))) = R := by
            have := hrep.out
            unfold replayZ at this
            rw [hokb, hasb] at this
            exact this
          have hrp : Aside _ := hrp
          have hsb2 : SB s d gn nn k ok asm wr := ⟨c0, c1, c2, c3, c4, c5, c6, hsw⟩
          have hbs : Aside (∀ w3, Below wr.heap.size wr w3 → Below s w w3 ∧ SB s d gn nn k ok asm w3) := fun w3 h => ⟨hbw2.trans (h.mono (Nat.le_of_lt hsw)), hsb2.below hsw h⟩
          clear hrep hokb hasb hnext hall hbw2 hsb2 hsz3 hri hri2 hsz2 hbw hsb hsz hrow hlz hbl
          have hnl : (nextZ y st row).length = nn := by rw [nextZ_len hy, hnn]
          rw [hnn] at hnx
          cases asb with
          | false =>
            have hRf : Aside (R = false) := hrp.out.symm
            clear hrp
            go_wp2_with (first | (go_at_call 19; refine hnx.mono ?_; rintro e w3 ⟨v, p1, hrow3, hb3⟩; rw [p1]; clear p1 hrow3))
            go_ret
            exact ⟨by rw [hRf.out]; rfl, (hbs.out _ hb3).1⟩
          | true =>
            by_cases hlast : t + 1 = tn
            · have hlI : (t : Int) = (tn : Int) - 1 := by omega
              have hlq : ((t : Int) == (tn : Int) - 1) = true := beq_of_eq hlI
              have hRf : Aside (R = !okb) := by
                have := hrp.out
                rw [List.drop_of_length_le (by omega)] at this
                exact this.symm
              clear hrp hlI
              go_wp2_with (first | (go_at_call 19; refine hnx.mono ?_; rintro e w3 ⟨v, p1, hrow3, hb3⟩; rw [p1]; clear p1 hrow3))
              go_ret
              exact ⟨by rw [hRf.out]; rfl, (hbs.out _ hb3).1⟩
            · have hlI : ¬ (t : Int) = (tn : Int) - 1 := by omega
              have hlq : ((t : Int) == (tn : Int) - 1) = false := beq_false_of_ne hlI
              have hRf : Aside (replayZ y (nextZ y st row) (tr.drop (t + 1)) = R) := by
                have := hrp.out
                rw [drop_cons [] (by omega : t + 1 < tr.length)] at this ⊢
                exact this
              clear hrp hlI
              go_wp2_with (first | (go_at_call 19; refine hnx.mono ?_; rintro e w3 ⟨v, p1, hrow3, hb3⟩; rw [p1]; clear p1; obtain ⟨xa, xc, rfl, _, hxz, _⟩ := bools_of hrow3 hnl; clear hrow3))
              go_roundw
              case rel => exact ⟨t + 1, nextZ y st row, xa, xc, hlt, by go_num, rfl, hnl, hxz, (hbs.out _ hb3).1, (hbs.out _ hb3).2, hRf.out⟩
              case measure => simp only [intOf]; omega
    · have htt : t = tn := by omega
      have hlt' : ¬ (t : Int) < tn := by omega
      have hRf : Aside (R = false) := by
        rw [List.drop_of_length_le (by omega)] at hrep
        unfold replayZ at hrep
        exact hrep.symm
      clear hrep
      go_wp2
      go_ret
      exact ⟨by rw [hRf.out]; rfl, hbw⟩
end Go.Proofs.YtdgnafjllokioaaGreatDoor

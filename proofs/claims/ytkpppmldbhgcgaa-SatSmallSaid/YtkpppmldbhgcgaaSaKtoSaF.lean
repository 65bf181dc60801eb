/- Sat: the heap: up. -/
import Derived.Test.YtkpppmldbhgcgaaSaQFtoSaJ
import Derived.Laws.FloatArith
set_option linter.unusedVariables false
set_option linter.unusedSimpArgs false
set_option autoImplicit false
set_option linter.unusedVariables false
set_option linter.unusedSimpArgs false
namespace Go.Proofs.Ytkpppmldbhgcgaa
open Go Go.RowKit
def upF : Nat → Sz → Nat → Sz
  | 0, S, _ => S
  | f + 1, S, j => if j = 0 then S else if lessZ S j ((j - 1) / 2) then upF f (swapZ S ((j - 1) / 2) j) ((j - 1) / 2) else S
def upZ (S : Sz) (j : Nat) : Sz := upF j S j
theorem upF_fuel : ∀ (f g j : Nat) (S : Sz), j ≤ f → j ≤ g → upF f S j = upF g S j
  | 0, 0, _, _, _, _ => rfl
  | 0, g + 1, j, S, h, _ => by
    obtain rfl : j = 0 := by omega
    simp [upF]
  | f + 1, 0, j, S, _, h => by
    obtain rfl : j = 0 := by omega
    simp [upF]
  | f + 1, g + 1, j, S, h1, h2 => by
    unfold upF
    split
    · rfl
    · rw [upF_fuel f g ((j - 1) / 2) _ (by omega) (by omega)]
theorem upZ_zero (S : Sz) : upZ S 0 = S := rfl
theorem upZ_step {S : Sz} {j : Nat} (h : 0 < j) : upZ S j = if lessZ S j ((j - 1) / 2) then upZ (swapZ S ((j - 1) / 2) j) ((j - 1) / 2) else S := by
  obtain ⟨k, rfl⟩ : ∃ k, j = k + 1 := ⟨j - 1, by omega⟩
  unfold upZ
  rw [show upF (k + 1) S (k + 1) = if k + 1 = 0 then S else if lessZ S (k + 1) ((k + 1 - 1) / 2) then upF k (swapZ S ((k + 1 - 1) / 2) (k + 1)) ((k + 1 - 1) / 2) else S from rfl, if_neg (by omega), upF_fuel k ((k + 1 - 1) / 2) _ _ (by omega) (Nat.le_refl _)]
theorem swap_len (S : Sz) (i j : Nat) : (swapZ S i j).ov.length = S.ov.length := by unfold swapZ swapV; simp
theorem swapV_get {l : List Int} {i j k : Nat} (hi : i < l.length) (hj : j < l.length) : (swapV l i j).getD k 0 = if k = j then l.getD i 0 else if k = i then l.getD j 0 else l.getD k 0 := by
  unfold swapV
  simp only [List.getD_eq_getElem?_getD, List.getElem?_set, List.length_set]
  by_cases e : k = j
  · subst e; simp [hj]
  · have e' : ¬ j = k := fun h => e h.symm
    simp only [e, e', if_false]
    by_cases e2 : k = i
    · subst e2; simp [hi]
    · have e3 : ¬ i = k := fun h => e2 h.symm
      simp only [e2, e3, if_false]
theorem swap_ok {n : Nat} {S : Sz} (ho : OrdOK n S) {i j : Nat} (hi : i < S.ov.length) (hj : j < S.ov.length) : OrdOK n (swapZ S i j) := by
  refine ⟨ho.big, ho.sc, ?_, fun k hk => ?_, by rw [swap_len]; exact ho.ovl⟩
  · show ((S.pl.set _ _).set _ _).length = n
    rw [List.length_set, List.length_set]; exact ho.pl
  · rw [swap_len] at hk
    show 0 ≤ (swapV S.ov i j).getD k 0 ∧ (swapV S.ov i j).getD k 0 < n
    rw [swapV_get hi hj]
    split
    · exact ho.ov i hi
    · split
      · exact ho.ov j hj
      · exact ho.ov k hk
end Go.Proofs.Ytkpppmldbhgcgaa
/- Sat: the heap: up, walked. -/
set_option autoImplicit false
set_option linter.unusedVariables false
set_option linter.unusedSimpArgs false
namespace Go.Proofs.Ytkpppmldbhgcgaa
open Go Go.RowKit
variable {lo n : Nat} {w : World} {own : Nat → Option Tg} {rv : Tg → Value} {S : Sz}
theorem Frm.drewN' {a b : Nat → Option Tg} {u v : World} (h : Frm a b u v) (q : Nat) : Frm a b u (v.drewN q) := h.drewN q
set_option maxHeartbeats 8000000 in
set_option maxRecDepth 1000000 in
theorem up_walk (h : Sol lo w own rv S) (ho : OrdOK n S) (j : Nat) (hj : j < S.ov.length) : Calls Try.prog 40 #[.iface 69 (rv .x), .int .i64 j] w fun e w' => e = .returned (.tuple #[]) ∧ Sol lo w' own rv (upZ S j) ∧ Frm own own w w' := by
  obtain ⟨b, hb, _, _, _⟩ := h.xb
  have m1 := m_less b
  have m2 := m_swap b
  have hbig := ho.big
  have hovl := ho.ovl
  rw [hb]
  go_enter Try.func40, Try.ntmps40
  go_wp2
  go_loopw [1] (fun jv wr => ∃ (j' : Nat) (S' : Sz), jv = .int .i64 j' ∧ j' < S.ov.length ∧ S'.ov.length = S.ov.length ∧ Sol lo wr own rv S' ∧ OrdOK n S' ∧ Frm own own w wr ∧ upZ S' j' = upZ S j) (fun jv _ => (intOf jv).toNat)
  case atStart => exact ⟨j, S, rfl, hj, rfl, h, ho, Frm.refl _ _, rfl⟩
  case round =>
    obtain ⟨k, S', rfl, hk, hl, hS, hO, hF, hU⟩ := hrel
    obtain ⟨L, hL⟩ : ∃ L, S.ov.length = L := ⟨_, rfl⟩
    rw [hL] at hk hl hovl
    rcases Nat.eq_zero_or_pos k with rfl | hk0
    · rw [upZ_zero] at hU
      have hE : Sol lo wr own rv (upZ S j) := by rw [← hU]; exact hS
      clear hU
      have t1 : ((0 : Int) - 1).tdiv 2 = 0 := by decide
      go_wp2
      go_end0
      exact ⟨rfl, hE, hF⟩
    · obtain ⟨i, hi⟩ : ∃ i, (k - 1) / 2 = i := ⟨_, rfl⟩
      have hik : i < k := by omega
      have t1 : ((k : Int) - 1).tdiv 2 = i := by
        rw [Int.tdiv_eq_ediv_of_nonneg (by omega)]
        omega
      have hst := upZ_step (S := S') hk0
      rw [hi] at hst
      have hless := less_walk hS hO k i (by omega) (by omega)
      rw [hb] at hless
      obtain ⟨q, hq⟩ : ∃ q, lessZ S' k i = q := ⟨_, rfl⟩
      rw [hq] at hless hst
      have hne : ((i : Int) == (k : Int)) = false := by simp; omega
      cases q with
      | false =>
        have hE : Sol lo wr own rv (upZ S j) := by rw [← hU, hst]; exact hS
        clear hU hst hi hq
        go_wp2_with (go_at_call 93; refine hless.mono ?_; rintro e w1 ⟨p1, q1, p2⟩; rw [p1, p2]; clear p1 p2)
        go_end0
        exact ⟨rfl, hE.drewN _, hF.drewN _⟩
      | true =>
        have hsw := fun q1 => swap_walk (hS.drewN q1) hO i k (by omega) (by omega)
        rw [hb] at hsw
        have hE : upZ (swapZ S' i k) i = upZ S j := by rw [← hU, hst]; rfl
        have hO' := swap_ok hO (i := i) (j := k) (by omega) (by omega)
        have hl' : (swapZ S' i k).ov.length = L := by rw [swap_len]; exact hl
        clear hU hst hi hq
        go_wp2_with (first | (go_at_call 93; refine hless.mono ?_; rintro e w1 ⟨p1, q1, p2⟩; rw [p1, p2]; clear p1 p2) | (go_at_call 96; refine (hsw _).mono ?_; rintro e w2 ⟨p1, p2, p3⟩; rw [p1]; clear p1))
        go_roundw
        case rel => exact ⟨i, swapZ S' i k, rfl, by omega, by omega, p2, hO', (hF.drewN _).trans p3, hE⟩
        case measure => simp [intOf]; omega
end Go.Proofs.Ytkpppmldbhgcgaa
/- Sat: the heap: Push. -/
set_option autoImplicit false
set_option linter.unusedVariables false
set_option linter.unusedSimpArgs false
namespace Go.Proofs.Ytkpppmldbhgcgaa
open Go Go.RowKit
variable {lo n : Nat} {w : World} {own : Nat → Option Tg} {rv : Tg → Value} {S : Sz}
theorem push_ok (ho : OrdOK n S) {v : Nat} (hv : v < n) (hL : S.ov.length < n) : OrdOK n (pushZ S v) := by
  refine ⟨ho.big, ho.sc, ?_, fun k hk => ?_, ?_⟩
  · show (S.pl.set _ _).length = n
    rw [List.length_set]; exact ho.pl
  · have hk : k < (S.ov ++ [(v : Int)]).length := hk
    rw [List.length_append, List.length_singleton] at hk
    show 0 ≤ (S.ov ++ [(v : Int)]).getD k 0 ∧ (S.ov ++ [(v : Int)]).getD k 0 < n
    by_cases e : k < S.ov.length
    · rw [List.getD_eq_getElem?_getD, List.getElem?_append_left e, ← List.getD_eq_getElem?_getD]
      exact ho.ov k e
    · have e2 : k = S.ov.length := by omega
      subst e2
      simp
      omega
  · show (S.ov ++ [(v : Int)]).length ≤ n
    rw [List.length_append, List.length_singleton]; omega
set_option maxHeartbeats 8000000 in
set_option maxRecDepth 1000000 in
theorem hpush_walk (h : Sol lo w own rv S) (ho : OrdOK n S) (v : Nat) (hv : v < n) (hL : S.ov.length < n) : Calls Try.prog 24 #[.iface 69 (rv .x), .iface 3 (.int .i64 v)] w fun e w' => e = .returned (.tuple #[]) ∧ ∃ own' v', Sol lo w' own' (upd rv .ov v') (upZ (pushZ S v) S.ov.length) ∧ Frm own own' w w' := by
  obtain ⟨b, hb, _, _, _⟩ := h.xb
  have m1 := m_push b
  have m2 := m_len b
  have hp := opush_walk h ho v hv hL
  have hO := push_ok ho hv hL
  have hlen : (pushZ S v).ov.length = S.ov.length + 1 := by show (S.ov ++ [(v : Int)]).length = _; rw [List.length_append]; rfl
  obtain ⟨L, hLL⟩ : ∃ L, S.ov.length = L := ⟨_, rfl⟩
  rw [hLL] at hlen hL ⊢
  have hbig := ho.big
  have hx : ∀ v', upd rv .ov v' .x = .pointer (some ⟨b, 0, none⟩) := fun v' => by rw [upd_other _ _ (by intro e; cases e)]; exact hb
  rw [hb] at hp ⊢
  go_enter Try.func24, Try.ntmps24
  go_wp2_with (go_at_call 95; refine hp.mono ?_)
  rintro e w1 ⟨p1, own', v', hS, hF⟩
  rw [p1]
  have hlw := len_walk hS hO
  rw [hx, hlen] at hlw
  have huw := up_walk hS hO L (by omega)
  rw [hx] at huw
  have ht : (((L + 1 : Nat) : Int)) - 1 = L := by omega
  clear hp p1 hlen
  go_wp2_with (first | (go_at_call 53; refine hlw.mono ?_; rintro e w2 ⟨p1, p2⟩; rw [p1, p2]; clear p1 p2) | (go_at_call 40; refine huw.mono ?_; rintro e w3 ⟨p1, p2, p3⟩; rw [p1]; clear p1))
  go_end0
  exact ⟨rfl, own', v', p2, hF.trans p3⟩
end Go.Proofs.Ytkpppmldbhgcgaa
/- Sat: the heap: down, as a plain function. -/
set_option autoImplicit false
set_option linter.unusedVariables false
set_option linter.unusedSimpArgs false
namespace Go.Proofs.Ytkpppmldbhgcgaa
open Go Go.RowKit
/-- the child that is ahead -/
def kid (S : Sz) (i m : Nat) : Nat := if 2 * i + 2 < m ∧ lessZ S (2 * i + 2) (2 * i + 1) = true then 2 * i + 2 else 2 * i + 1
def downF : Nat → Sz → Nat → Nat → Sz × Nat
  | 0, S, i, _ => (S, i)
  | f + 1, S, i, m => if m ≤ 2 * i + 1 then (S, i) else if lessZ S (kid S i m) i then downF f (swapZ S i (kid S i m)) (kid S i m) m else (S, i)
def downZ (S : Sz) (i m : Nat) : Sz × Nat := downF (m - i) S i m
theorem kid_gt (S : Sz) (i m : Nat) : i < kid S i m := by unfold kid; split <;> omega
theorem kid_lt {S : Sz} {i m : Nat} (h : ¬ m ≤ 2 * i + 1) : kid S i m < m := by unfold kid; split <;> omega
theorem downF_fuel : ∀ (f g i m : Nat) (S : Sz), m - i ≤ f → m - i ≤ g → downF f S i m = downF g S i m
  | 0, 0, _, _, _, _, _ => rfl
  | 0, g + 1, i, m, S, h, _ => by
    unfold downF
    rw [if_pos (by omega)]
  | f + 1, 0, i, m, S, _, h => by
    unfold downF
    rw [if_pos (by omega)]
  | f + 1, g + 1, i, m, S, h1, h2 => by
    unfold downF
    split
    · rfl
    · rename_i hm
      have k1 := kid_gt S i m
      have k2 := kid_lt (S := S) hm
      rw [downF_fuel f g (kid S i m) m _ (by omega) (by omega)]
theorem downZ_stop {S : Sz} {i m : Nat} (h : m ≤ 2 * i + 1) : downZ S i m = (S, i) := by
  unfold downZ
  rw [downF_fuel (m - i) (m - i + 1) i m S (Nat.le_refl _) (by omega)]
  unfold downF
  rw [if_pos h]
theorem downZ_step {S : Sz} {i m : Nat} (h : ¬ m ≤ 2 * i + 1) : downZ S i m = if lessZ S (kid S i m) i then downZ (swapZ S i (kid S i m)) (kid S i m) m else (S, i) := by
  have k1 := kid_gt S i m
  unfold downZ
  rw [downF_fuel (m - i) (m - kid S i m + 1 + (m - i)) i m S (Nat.le_refl _) (by omega)]
  rw [show m - kid S i m + 1 + (m - i) = (m - kid S i m + (m - i)) + 1 by omega]
  show (if m ≤ 2 * i + 1 then (S, i) else if lessZ S (kid S i m) i then downF (m - kid S i m + (m - i)) (swapZ S i (kid S i m)) (kid S i m) m else (S, i)) = _
  rw [if_neg h, downF_fuel (m - kid S i m + (m - i)) (m - kid S i m) _ _ _ (by omega) (Nat.le_refl _)]
end Go.Proofs.Ytkpppmldbhgcgaa
/- Sat: the heap: down, walked. -/
set_option autoImplicit false
set_option linter.unusedVariables false
set_option linter.unusedSimpArgs false
namespace Go.Proofs.Ytkpppmldbhgcgaa
open Go Go.RowKit
variable {lo n : Nat} {w : World} {own : Nat → Option Tg} {rv : Tg → Value} {S : Sz}
theorem downF_ge : ∀ (f : Nat) (S : Sz) (i m : Nat), i ≤ (downF f S i m).2
  | 0, _, _, _ => Nat.le_refl _
  | f + 1, S, i, m => by
    unfold downF
    split
    · exact Nat.le_refl _
    · split
      · exact Nat.le_trans (Nat.le_of_lt (kid_gt S i m)) (downF_ge f _ _ _)
      · exact Nat.le_refl _
set_option maxHeartbeats 16000000 in
set_option maxRecDepth 1000000 in
theorem down_walk (h : Sol lo w own rv S) (ho : OrdOK n S) (i0 m : Nat) (hi0 : i0 < S.ov.length) (hm : m ≤ S.ov.length) : Calls Try.prog 70 #[.iface 69 (rv .x), .int .i64 i0, .int .i64 m] w fun e w' => e = .returned (.bool (decide ((i0 : Int) < ((downZ S i0 m).2 : Nat)))) ∧ Sol lo w' own rv (downZ S i0 m).1 ∧ Frm own own w w' := by
  obtain ⟨b, hb, _, _, _⟩ := h.xb
  have m1 := m_less b
  have m2 := m_swap b
  have hbig := ho.big
  have hovl := ho.ovl
  rw [hb]
  go_enter Try.func70, Try.ntmps70
  go_wp2
  go_loopw [7] (fun jv wr => ∃ (i : Nat) (S' : Sz), jv = .int .i64 i ∧ i < S.ov.length ∧ S'.ov.length = S.ov.length ∧ Sol lo wr own rv S' ∧ OrdOK n S' ∧ Frm own own w wr ∧ downZ S' i m = downZ S i0 m) (fun jv _ => S.ov.length - (intOf jv).toNat)
  case atStart => exact ⟨i0, S, rfl, hi0, rfl, h, ho, Frm.refl _ _, rfl⟩
  case round =>
    obtain ⟨i, S', rfl, hi, hl, hS, hO, hF, hU⟩ := hrel
    obtain ⟨L, hL⟩ : ∃ L, S.ov.length = L := ⟨_, rfl⟩
    rw [hL] at hi hl hovl hm ⊢
    have h20 : ¬ (2 * (i : Int) + 1 < 0) := by omega
    by_cases hst : m ≤ 2 * i + 1
    · rw [downZ_stop hst] at hU
      have hE : Hid' (Sol lo wr own rv (downZ S i0 m).1 ∧ (downZ S i0 m).2 = i) := ⟨by rw [← hU]; exact hS, by rw [← hU]⟩
      have d1 : (m : Int) ≤ 2 * (i : Int) + 1 := by omega
      clear hU
      by_cases d2 : (i0 : Int) < i
      · go_wp2
        go_ret
        exact ⟨by rw [hE.h.2]; first | (simp [d2]; done) | (simp; omega), hE.h.1, hF⟩
      · go_wp2
        go_ret
        exact ⟨by rw [hE.h.2]; first | (simp [d2]; done) | (simp; omega), hE.h.1, hF⟩
    · rw [downZ_step hst] at hU
      obtain ⟨j1, hj1⟩ : ∃ j1 : Nat, 2 * i + 1 = j1 := ⟨_, rfl⟩
      obtain ⟨j2, hj2⟩ : ∃ j2 : Nat, 2 * i + 2 = j2 := ⟨_, rfl⟩
      have e4 : 2 * (i : Int) + 1 = (j1 : Int) := by omega
      have e3 : (j1 : Int) + 1 = (j2 : Int) := by omega
      have h20 : ¬ ((j1 : Int) < 0) := by omega
      have d1 : ¬ (m : Int) ≤ (j1 : Int) := by omega
      have k1 := kid_gt S' i m
      have k2 := kid_lt (S := S') hst
      have hless : ∀ W (k k' : Nat), (∃ q, W = wr.drewN q) → k < L → k' < L → Calls Try.prog 93 #[.pointer (some ⟨b, 0, none⟩), .int .i64 k, .int .i64 k'] W fun e w' => e = .returned (.bool (lessZ S' k k')) ∧ ∃ q, w' = (wr.drewN q) := fun W k k' hW hh hh' => by
        obtain ⟨q, rfl⟩ := hW
        have := less_walk (hS.drewN q) hO k k' (by omega) (by omega)
        rw [hb] at this
        refine this.mono ?_
        rintro e w' ⟨p1, q1, p2⟩
        exact ⟨p1, _, by rw [p2, drewN2]⟩
      have hsw : ∀ q (k : Nat), k < L → Calls Try.prog 96 #[.pointer (some ⟨b, 0, none⟩), .int .i64 i, .int .i64 k] (wr.drewN q) fun e w' => e = .returned (.tuple #[]) ∧ Sol lo w' own rv (swapZ S' i k) ∧ Frm own own (wr.drewN q) w' := fun q k hh => by
        have := swap_walk (hS.drewN q) hO i k (by omega) (by omega)
        rw [hb] at this
        exact this
      have key : ∀ (k : Nat) (q : Nat), kid S' i m = k → Hid' ((lessZ S' k i = false → Sol lo (wr.drewN q) own rv (downZ S i0 m).1 ∧ (downZ S i0 m).2 = i ∧ Frm own own w (wr.drewN q)) ∧ (lessZ S' k i = true → ∀ w', Sol lo w' own rv (swapZ S' i k) → Frm own own (wr.drewN q) w' → i < k ∧ k < L ∧ (swapZ S' i k).ov.length = L ∧ OrdOK n (swapZ S' i k) ∧ Frm own own w w' ∧ downZ (swapZ S' i k) k m = downZ S i0 m)) := by
        intro k q hk
        rw [hk] at hU k1 k2
        refine ⟨fun h0 => ?_, fun h0 w' hs hf => ?_⟩
        · rw [h0] at hU
          exact ⟨by rw [← hU]; exact hS.drewN _, by rw [← hU]; rfl, hF.drewN _⟩
        · rw [h0] at hU
          exact ⟨k1, by omega, by rw [swap_len]; exact hl, swap_ok hO (by omega) (by omega), (hF.drewN _).trans hf, by rw [← hU]; rfl⟩
      have hL1 : j1 < L := by omega
      have hk1 : ¬ j2 < m → kid S' i m = j1 := fun hh => by unfold kid; rw [if_neg (fun x => by omega)]; exact hj1
      have hk2 : j2 < m → lessZ S' j2 j1 = false → kid S' i m = j1 := fun hh h2 => by unfold kid; rw [hj1, hj2, if_neg (fun x => by rw [h2] at x; exact Bool.noConfusion x.2)]
      have hk3 : j2 < m → lessZ S' j2 j1 = true → kid S' i m = j2 := fun hh h2 => by unfold kid; rw [hj1, hj2, if_pos ⟨hh, h2⟩]
      clear hU k1 k2 hst hj1
      by_cases d3 : j2 < m
      · have d3' : (j2 : Int) < m := by omega
        have hL2 : j2 < L := by omega
        cases hq1 : lessZ S' j2 j1
        · have hkey := fun q => key j1 q (hk2 d3 hq1)
          have hsw2 := fun q => hsw q j1 hL1
          clear key hsw hk1 hk2 hk3
          cases hq2 : lessZ S' j1 i
          · by_cases d2 : (i0 : Int) < i
            · go_wp2_with (go_at_call 93; refine (hless _ _ _ (by first | exact ⟨0, rfl⟩ | exact ⟨_, rfl⟩) (by omega) (by omega)).mono ?_; rintro e w1 ⟨p1, q1, p2⟩; rw [p1, p2]; clear p1 p2)
              go_ret
              exact ⟨by rw [((hkey 0).h.1 hq2).2.1]; first | (simp [d2]; done) | (simp; omega), ((hkey _).h.1 hq2).1, ((hkey _).h.1 hq2).2.2⟩
            · go_wp2_with (go_at_call 93; refine (hless _ _ _ (by first | exact ⟨0, rfl⟩ | exact ⟨_, rfl⟩) (by omega) (by omega)).mono ?_; rintro e w1 ⟨p1, q1, p2⟩; rw [p1, p2]; clear p1 p2)
              go_ret
              exact ⟨by rw [((hkey 0).h.1 hq2).2.1]; first | (simp [d2]; done) | (simp; omega), ((hkey _).h.1 hq2).1, ((hkey _).h.1 hq2).2.2⟩
          · go_wp2_with (first | (go_at_call 93; refine (hless _ _ _ (by first | exact ⟨0, rfl⟩ | exact ⟨_, rfl⟩) (by omega) (by omega)).mono ?_; rintro e w1 ⟨p1, q1, p2⟩; rw [p1, p2]; clear p1 p2) | (go_at_call 96; refine (hsw2 _).mono ?_; rintro e w2 ⟨p1, p2, p3⟩; rw [p1]; clear p1))
            have kk := ((hkey _).h.2 hq2 _ p2 p3)
            go_roundw
            case rel => exact ⟨j1, swapZ S' i j1, rfl, kk.2.1, kk.2.2.1, p2, kk.2.2.2.1, kk.2.2.2.2.1, kk.2.2.2.2.2⟩
            case measure => simp [intOf]; have := kk.1; omega
        · have hkey := fun q => key j2 q (hk3 d3 hq1)
          have hsw2 := fun q => hsw q j2 hL2
          clear key hsw hk1 hk2 hk3
          cases hq2 : lessZ S' j2 i
          · by_cases d2 : (i0 : Int) < i
            · go_wp2_with (go_at_call 93; refine (hless _ _ _ (by first | exact ⟨0, rfl⟩ | exact ⟨_, rfl⟩) (by omega) (by omega)).mono ?_; rintro e w1 ⟨p1, q1, p2⟩; rw [p1, p2]; clear p1 p2)
              go_ret
              exact ⟨by rw [((hkey 0).h.1 hq2).2.1]; first | (simp [d2]; done) | (simp; omega), ((hkey _).h.1 hq2).1, ((hkey _).h.1 hq2).2.2⟩
            · go_wp2_with (go_at_call 93; refine (hless _ _ _ (by first | exact ⟨0, rfl⟩ | exact ⟨_, rfl⟩) (by omega) (by omega)).mono ?_; rintro e w1 ⟨p1, q1, p2⟩; rw [p1, p2]; clear p1 p2)
              go_ret
              exact ⟨by rw [((hkey 0).h.1 hq2).2.1]; first | (simp [d2]; done) | (simp; omega), ((hkey _).h.1 hq2).1, ((hkey _).h.1 hq2).2.2⟩
          · go_wp2_with (first | (go_at_call 93; refine (hless _ _ _ (by first | exact ⟨0, rfl⟩ | exact ⟨_, rfl⟩) (by omega) (by omega)).mono ?_; rintro e w1 ⟨p1, q1, p2⟩; rw [p1, p2]; clear p1 p2) | (go_at_call 96; refine (hsw2 _).mono ?_; rintro e w2 ⟨p1, p2, p3⟩; rw [p1]; clear p1))
            have kk := ((hkey _).h.2 hq2 _ p2 p3)
            go_roundw
            case rel => exact ⟨j2, swapZ S' i j2, rfl, kk.2.1, kk.2.2.1, p2, kk.2.2.2.1, kk.2.2.2.2.1, kk.2.2.2.2.2⟩
            case measure => simp [intOf]; have := kk.1; omega
      · have d3' : ¬ (j2 : Int) < m := by omega
        have hkey := fun q => key j1 q (hk1 d3)
        have hsw2 := fun q => hsw q j1 hL1
        clear key hsw hk1 hk2 hk3
        cases hq2 : lessZ S' j1 i
        · by_cases d2 : (i0 : Int) < i
          · go_wp2_with (go_at_call 93; refine (hless _ _ _ (by first | exact ⟨0, rfl⟩ | exact ⟨_, rfl⟩) (by omega) (by omega)).mono ?_; rintro e w1 ⟨p1, q1, p2⟩; rw [p1, p2]; clear p1 p2)
            go_ret
            exact ⟨by rw [((hkey 0).h.1 hq2).2.1]; first | (simp [d2]; done) | (simp; omega), ((hkey _).h.1 hq2).1, ((hkey _).h.1 hq2).2.2⟩
          · go_wp2_with (go_at_call 93; refine (hless _ _ _ (by first | exact ⟨0, rfl⟩ | exact ⟨_, rfl⟩) (by omega) (by omega)).mono ?_; rintro e w1 ⟨p1, q1, p2⟩; rw [p1, p2]; clear p1 p2)
            go_ret
            exact ⟨by rw [((hkey 0).h.1 hq2).2.1]; first | (simp [d2]; done) | (simp; omega), ((hkey _).h.1 hq2).1, ((hkey _).h.1 hq2).2.2⟩
        · go_wp2_with (first | (go_at_call 93; refine (hless _ _ _ (by first | exact ⟨0, rfl⟩ | exact ⟨_, rfl⟩) (by omega) (by omega)).mono ?_; rintro e w1 ⟨p1, q1, p2⟩; rw [p1, p2]; clear p1 p2) | (go_at_call 96; refine (hsw2 _).mono ?_; rintro e w2 ⟨p1, p2, p3⟩; rw [p1]; clear p1))
          have kk := ((hkey _).h.2 hq2 _ p2 p3)
          go_roundw
          case rel => exact ⟨j1, swapZ S' i j1, rfl, kk.2.1, kk.2.2.1, p2, kk.2.2.2.1, kk.2.2.2.2.1, kk.2.2.2.2.2⟩
          case measure => simp [intOf]; have := kk.1; omega
end Go.Proofs.Ytkpppmldbhgcgaa
/- Sat: scores. Floats that are neither negative nor NaN stay so under the solver's three operations. -/
set_option autoImplicit false
set_option linter.unusedVariables false
namespace Go.Proofs.Ytkpppmldbhgcgaa
open Ieee
/-- a word that stands for a number from nought up, or for infinity -/
def PosW (b : Nat) : Prop := b ≤ double.infRung
theorem pos_read {b : Nat} (h : PosW b) : (∃ m e, double.read b = .number false m e) ∨ double.read b = .infinity false := by
  have hi : double.infRung = 9218868437227405312 := by decide +kernel
  have hs : double.signWeight = 9223372036854775808 := by decide +kernel
  unfold PosW at h
  rw [hi] at h
  have h1 : b / double.signWeight = 0 := Nat.div_eq_of_lt (by rw [hs]; omega)
  have h2 : b % double.signWeight = b := Nat.mod_eq_of_lt (by rw [hs]; omega)
  unfold Format.read
  simp only [h1, h2]
  split
  · exact .inl ⟨_, _, rfl⟩
  · split
    · exact .inl ⟨_, _, rfl⟩
    · rw [if_pos (by rw [hi] at *; omega)]
      exact .inr rfl
theorem pos_nearest (m : Nat) (e : Int) : PosW (double.nearest false m e) := by
  unfold PosW Format.nearest
  dsimp only
  split
  · unfold Format.word; simp
  · unfold Format.word
    simp only [Bool.false_eq_true, if_false]
    exact Nat.min_le_right ..
theorem pos_inf : PosW (double.write (.infinity false)) := by
  unfold PosW Format.write Format.word
  simp
theorem signed_pos (m u : Nat) : 0 ≤ signed false m u := by
  unfold signed
  rw [if_neg (by decide)]
  exact Int.natCast_nonneg _
theorem pos_add {a b : Nat} (ha : PosW a) (hb : PosW b) : ∃ r, floatBits .add .f64 a b = some r ∧ PosW r := by
  show ∃ r, ((double.read a).sum (double.read b)).map double.write = some r ∧ PosW r
  rcases pos_read ha with ⟨m, e, h1⟩ | h1 <;> rcases pos_read hb with ⟨n, f, h2⟩ | h2 <;> rw [h1, h2]
  · refine ⟨_, rfl, ?_⟩
    have p1 := signed_pos m (e - min e f).toNat
    have p2 := signed_pos n (f - min e f).toNat
    have hz : (if signed false m (e - min e f).toNat + signed false n (f - min e f).toNat = 0 then false && false else decide (signed false m (e - min e f).toNat + signed false n (f - min e f).toNat < 0)) = false := by
      split
      · rfl
      · exact decide_eq_false (by omega)
    unfold Format.write
    dsimp only
    rw [hz]
    exact pos_nearest _ _
  · exact ⟨_, rfl, pos_inf⟩
  · exact ⟨_, rfl, pos_inf⟩
  · exact ⟨_, rfl, pos_inf⟩
theorem pos_mul {a c n : Nat} {f : Int} (ha : PosW a) (hc : double.read c = .number false n f) (hn : n ≠ 0) : ∃ r, floatBits .mul .f64 a c = some r ∧ PosW r := by
  show ∃ r, ((double.read a).product (double.read c)).map double.write = some r ∧ PosW r
  rcases pos_read ha with ⟨m, e, h1⟩ | h1 <;> rw [h1, hc]
  · exact ⟨_, rfl, pos_nearest _ _⟩
  · refine ⟨double.write (.infinity false), ?_, pos_inf⟩
    simp [Datum.product, hn]
theorem pos_div {a c n : Nat} {f : Int} (ha : PosW a) (hc : double.read c = .number false n f) (hn : n ≠ 0) : ∃ r, floatBits .quo .f64 a c = some r ∧ PosW r := by
  show ∃ r, ((double.read a).quotient (double.fractionBits + 2) (double.read c)).map double.write = some r ∧ PosW r
  rcases pos_read ha with ⟨m, e, h1⟩ | h1 <;> rw [h1, hc]
  · simp only [Datum.quotient]
    rw [if_neg hn]
    exact ⟨_, rfl, pos_nearest _ _⟩
  · exact ⟨_, rfl, pos_inf⟩
/-- the sum, the product, the quotient, as plain functions -/
def fAdd (a b : Nat) : Nat := (floatBits .add .f64 a b).getD 0
def fMul (a b : Nat) : Nat := (floatBits .mul .f64 a b).getD 0
def fDiv (a b : Nat) : Nat := (floatBits .quo .f64 a b).getD 0
theorem fAdd_ok {a b : Nat} (ha : PosW a) (hb : PosW b) : floatBits .add .f64 a b = some (fAdd a b) ∧ PosW (fAdd a b) := by
  obtain ⟨r, h1, h2⟩ := pos_add ha hb
  unfold fAdd
  rw [h1]
  exact ⟨rfl, h2⟩
theorem fMul_ok {a c n : Nat} {f : Int} (ha : PosW a) (hc : double.read c = .number false n f) (hn : n ≠ 0) : floatBits .mul .f64 a c = some (fMul a c) ∧ PosW (fMul a c) := by
  obtain ⟨r, h1, h2⟩ := pos_mul ha hc hn
  unfold fMul
  rw [h1]
  exact ⟨rfl, h2⟩
theorem fDiv_ok {a c n : Nat} {f : Int} (ha : PosW a) (hc : double.read c = .number false n f) (hn : n ≠ 0) : floatBits .quo .f64 a c = some (fDiv a c) ∧ PosW (fDiv a c) := by
  obtain ⟨r, h1, h2⟩ := pos_div ha hc hn
  unfold fDiv
  rw [h1]
  exact ⟨rfl, h2⟩
end Go.Proofs.Ytkpppmldbhgcgaa

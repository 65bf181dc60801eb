/- Kind: KindBudget, walked. -/
import Derived.Test.YtdgnafjllokioaaGreatDoorKX
import Derived.Test.YtdgnafjllokioaaGreatDoorKW
set_option linter.unusedVariables false
set_option linter.unusedSimpArgs false
set_option autoImplicit false
set_option linter.unusedVariables false
set_option linter.unusedSimpArgs false
namespace Go.Proofs.YtdgnafjllokioaaGreatDoor
open Go.Proofs Go
open Go.RowKit Kb
theorem tinyB_true {gn nn im : Nat} (h : tinyB gn nn im = true) : nn ≤ 8 ∧ im ≤ 3 ∧ gn ≤ 400 := by
  unfold tinyB at h
  simp only [Bool.and_eq_true, decide_eq_true_eq] at h
  omega
/-- what the law answers -/
def LawOut (w : World) (e : Ending) (w' : World) : Prop := e = .returned (.bool true) ∧ Below w.heap.size w w'
theorem sb_gen {w : World} (d : SA) (gn nn xn im bn : Nat) (ok asm : Int) : (∀ W, Below (w.heap.size + 1) (w.alloc (.cells #[.slice d.ga gn d.gc, .slice d.na nn d.nc, .slice d.xa xn d.xc, .slice d.ia im d.ic, .slice d.ba bn d.bc, .int .i64 ok, .int .i64 asm] 28)) W → W.cell? ⟨w.heap.size, 0, none⟩ = some (.slice d.ga gn d.gc) ∧ W.cell? ⟨w.heap.size, 1, none⟩ = some (.slice d.na nn d.nc) ∧ W.cell? ⟨w.heap.size, 2, none⟩ = some (.slice d.xa xn d.xc) ∧ W.cell? ⟨w.heap.size, 3, none⟩ = some (.slice d.ia im d.ic) ∧ W.cell? ⟨w.heap.size, 4, none⟩ = some (.slice d.ba bn d.bc) ∧ W.cell? ⟨w.heap.size, 5, none⟩ = some (.int .i64 ok) ∧ W.cell? ⟨w.heap.size, 6, none⟩ = some (.int .i64 asm)) := fun W hb => by
  have c : ∀ m u, (w.alloc (.cells #[.slice d.ga gn d.gc, .slice d.na nn d.nc, .slice d.xa xn d.xc, .slice d.ia im d.ic, .slice d.ba bn d.bc, .int .i64 ok, .int .i64 asm] 28)).cell? ⟨w.heap.size, m, none⟩ = some u → W.cell? ⟨w.heap.size, m, none⟩ = some u := fun m u e => (hb.cell (p := ⟨w.heap.size, m, none⟩) (Nat.lt_succ_self _)).trans e
  exact ⟨c _ _ ((cell_new ..).trans rfl), c _ _ ((cell_new ..).trans rfl), c _ _ ((cell_new ..).trans rfl), c _ _ ((cell_new ..).trans rfl), c _ _ ((cell_new ..).trans rfl), c _ _ ((cell_new ..).trans rfl), c _ _ ((cell_new ..).trans rfl)⟩
set_option maxHeartbeats 8000000 in
set_option maxRecDepth 1000000 in
theorem law3_walk (d : SA) (y : Sy) (gn nn xn im bn : Nat) (k budget : Int) (w : World) (hgn : y.gates.length = gn) (hnn : y.now.length = nn) (hxn : y.next.length = xn) (him : y.ins.length = im) (hbn : y.init.length = bn)
    (hsys : SysAt w d y) (hna : d.na = none → nn = 0 ∧ d.nc = 0) (hxa : d.xa = none → xn = 0 ∧ d.xc = 0) (hia : d.ia = none → im = 0 ∧ d.ic = 0) (hba : d.ba = none → bn = 0 ∧ d.bc = 0)
    (halive : ∀ W, Calls Tryz.prog 4 #[] W fun e w' => e = .returned (.bool true) ∧ Below W.heap.size W w') :
    Calls Tryz.prog 3 #[.agg #[.slice d.ga gn d.gc, .slice d.na nn d.nc, .slice d.xa xn d.xc, .slice d.ia im d.ic, .slice d.ba bn d.bc, .int .i64 y.ok, .int .i64 y.asm], .int .i64 k, .int .i64 budget] w (LawOut w) := by
  obtain ⟨s, hs⟩ : ∃ s, w.heap.size = s := ⟨_, rfl⟩
  obtain ⟨W1, hW1⟩ : ∃ W, w.alloc (.cells #[.slice d.ga gn d.gc, .slice d.na nn d.nc, .slice d.xa xn d.xc, .slice d.ia im d.ic, .slice d.ba bn d.bc, .int .i64 y.ok, .int .i64 y.asm] 28) = W := ⟨_, rfl⟩
  have hb1 : Below s w W1 := by rw [← hW1, ← hs]; exact (Below.refl w.heap.size w).alloc (Nat.le_refl _) _
  have hs1 : W1.heap.size = s + 1 := by rw [← hW1, ← hs]; show (w.heap.push _).size = _; simp
  have hcs := sb_gen (w := w) d gn nn xn im bn y.ok y.asm
  rw [hW1, hs] at hcs
  have hal := halive W1
  have hti := fun W => tiny_walk d gn nn xn im bn y.ok y.asm W
  have hsy : Aside (∀ W, Below s w W → SysAt W d y) := fun W hb => hsys.below (hs ▸ hb)
  obtain ⟨ok, hok⟩ : ∃ x, y.ok = x := ⟨_, rfl⟩
  obtain ⟨asm, hasm⟩ : ∃ x, y.asm = x := ⟨_, rfl⟩
  rw [hok, hasm] at hW1 hcs
  have hti : ∀ W, Calls Tryz.prog 5 #[.agg #[.slice d.ga gn d.gc, .slice d.na nn d.nc, .slice d.xa xn d.xc, .slice d.ia im d.ic, .slice d.ba bn d.bc, .int .i64 ok, .int .i64 asm]] W fun e w' => e = .returned (.bool (tinyB gn nn im)) ∧ Below W.heap.size W w' := by rw [← hok, ← hasm]; exact hti
  rw [hok, hasm]
  obtain ⟨tb, htb⟩ : ∃ b, tinyB gn nn im = b := ⟨_, rfl⟩
  rw [htb] at hti
  have hs' : Aside (w.heap.size = s ∧ W1.heap.size = s + 1 ∧ Below s w W1) := ⟨hs, hs1, hb1⟩
  clear hsys halive hb1
  go_enter Tryz.func3, Tryz.ntmps3
  go_upto_region 2 with (first | (go_at_call 4; refine hal.mono ?_; rintro e w2 ⟨p1, hb2⟩; rw [p1]; clear p1))
  have hB2 : Below s w w2 := hs'.out.2.2.trans (hb2.mono (by rw [hs'.out.2.1]; omega))
  obtain ⟨c0, c1, c2, c3, c4, c5, c6⟩ := hcs w2 (hs'.out.2.1 ▸ hb2)
  have hti2 := hti w2
  go_upto_region 3 with (first | (go_at_call 5; refine hti2.mono ?_; rintro e w3 ⟨p1, hb3⟩; rw [p1]; clear p1))
  have hz2 : s + 1 ≤ w2.heap.size := by rw [← hs'.out.2.1]; exact hb2.size
  have hB3 : Below s w w3 := hB2.trans (hb3.mono (by omega))
  have hB13 : Below (s + 1) W1 w3 := (hs'.out.2.1 ▸ hb2).trans (hb3.mono hz2)
  clear c0 c1 c2 c3 c4 c5 c6 hti2 hti hal hb2 hb3 hB2 hW1 hs hs1
  cases tb with
  | false =>
    have hB3 : Aside _ := hB3
    clear hcs hB13
    go_wp2
    go_ret
    exact ⟨rfl, hs'.out.1.symm ▸ hB3.out⟩
  | true =>
    obtain ⟨hn9, hi9, hg9⟩ := tinyB_true htb
    have hB3' : Aside _ := hB3
    have hgd := good_walk d y gn nn xn im bn w3 hgn hnn hxn him hbn hg9 hn9 hi9 (hsy.out w3 hB3) hna hxa hia
    rw [hok, hasm] at hgd
    unfold GoodR at hgd
    obtain ⟨c0, c1, c2, c3, c4, c5, c6⟩ := hcs w3 hB13
    have hcs4 : Aside (∀ w4, Below w3.heap.size w3 w4 → Below s w w4 ∧ Below (s + 1) W1 w4) := fun w4 h => by
      have h3 : s + 1 ≤ w3.heap.size := by have := hB13.size; have := hs'.out.2.1; omega
      exact ⟨hB3.trans (h.mono (by omega)), hB13.trans (h.mono h3)⟩
    by_cases hk0 : k < 0
    · clear hgd hcs hB3 hB13
      go_wp2
      go_ret
      exact ⟨rfl, hs'.out.1.symm ▸ hB3'.out⟩
    by_cases hk5 : (5 : Int) < k
    · clear hgd hcs hB3 hB13
      go_wp2
      go_ret
      exact ⟨rfl, hs'.out.1.symm ▸ hB3'.out⟩
    by_cases hbu : (1000 : Int) < budget
    · clear hgd hcs hB3 hB13
      go_wp2
      go_ret
      exact ⟨rfl, hs'.out.1.symm ▸ hB3'.out⟩
    clear hB3 hB13
    go_upto_region 5 with (first | (go_at_call 6; refine hgd.mono ?_; rintro e w4 ⟨gb, p1, hgy, hb4⟩; rw [p1]; clear p1; cases gb))
    · exact bodyPost_ret (v := .bool true) (by simp [results, Tryz.f3, go_sem]) rfl ⟨rfl, hs'.out.1.symm ▸ (hcs4.out w4 hb4).1⟩
    have hy : Kb.Good y := hgy trivial
    obtain rfl : xn = nn := by rw [← hxn, hy.nx, hnn]
    obtain rfl : bn = xn := by rw [← hbn, hy.it, hnn]
    obtain ⟨kn, rfl⟩ : ∃ kn : Nat, k = kn := ⟨k.toNat, by omega⟩
    have hkn : kn ≤ 5 := by omega
    obtain ⟨hB4, hB14⟩ := hcs4.out w4 hb4
    have hck := check_walk d y gn bn im kn budget w4 hy hgn hnn him hg9 hn9 hi9 (by omega) (hsy.out w4 hB4) hba
    unfold sysC CheckOut at hck
    rw [hok, hasm] at hck
    clear c0 c1 c2 c3 c4 c5 c6 hgd hgy
    obtain ⟨c0, c1, c2, c3, c4, c5, c6⟩ := hcs w4 hB14
    have hcs5 : Aside (∀ w5, Below w4.heap.size w4 w5 → Below s w w5 ∧ Below (s + 1) W1 w5) := fun w5 h => by
      have h3 : s + 1 ≤ w4.heap.size := by have := hB14.size; have := hs'.out.2.1; omega
      exact ⟨hB4.trans (h.mono (by omega)), hB14.trans (h.mono h3)⟩
    have hcs := (show Aside _ from hcs)
    clear hB4 hB14 hcs4 hb4
    go_upto_region 6 with (first | (go_at_call 7; refine hck.mono ?_; rintro e w5 ⟨hb5, q, K, ta, tn, tc, p1, hv⟩; rw [p1]; clear p1))
    obtain ⟨vb, hvb⟩ : ∃ n, w5.heap.size = n := ⟨_, rfl⟩
    have r0 : (w5.alloc (.cells #[.int .i64 q, .int .i64 K, .slice ta tn tc] 33)).cell? ⟨w5.heap.size, 0, none⟩ = some (.int .i64 q) := (cell_new ..).trans rfl
    have r1 : (w5.alloc (.cells #[.int .i64 q, .int .i64 K, .slice ta tn tc] 33)).cell? ⟨w5.heap.size, 1, none⟩ = some (.int .i64 K) := (cell_new ..).trans rfl
    have r2 : (w5.alloc (.cells #[.int .i64 q, .int .i64 K, .slice ta tn tc] 33)).cell? ⟨w5.heap.size, 2, none⟩ = some (.slice ta tn tc) := (cell_new ..).trans rfl
    have hb57 : Below w5.heap.size w5 (w5.alloc (.cells #[.int .i64 q, .int .i64 K, .slice ta tn tc] 33)) := (Below.refl _ _).alloc (Nat.le_refl _) _
    clear c0 c1 c2 c3 c4 c5 c6 hck
    generalize w5.alloc (.cells #[.int .i64 q, .int .i64 K, .slice ta tn tc] 33) = W7 at *
    have hb47 : Below w4.heap.size w4 W7 := hb5.trans (hb57.mono hb5.size)
    obtain ⟨hB7, hB17⟩ := hcs5.out W7 hb47
    obtain ⟨c0, c1, c2, c3, c4, c5, c6⟩ := hcs.out W7 hB17
    obtain ⟨F, l, r, hrun, hcase⟩ := hv
    have hrc := reach_walk d y gn bn im W7 hy hgn hnn him hg9 hn9 hi9 (hsy.out W7 hB7) (l, r) F hrun
    unfold sysC ReachOut at hrc
    rw [hok, hasm] at hrc
    rw [hvb] at r0 r1 r2 ⊢
    have hcs7 : Aside (∀ w8, Below W7.heap.size W7 w8 → Below s w w8 ∧ Below (s + 1) W1 w8 ∧ Below w5.heap.size w5 w8) := fun w8 h => by
      have h3 : s + 1 ≤ W7.heap.size := by have := hB17.size; have := hs'.out.2.1; omega
      exact ⟨hB7.trans (h.mono (by omega)), hB17.trans (h.mono h3), hb57.trans (h.mono hb57.size)⟩
    have hnum := num_walk 0
    clear hB7 hB17 hb47 hb57 hvb hcs5 hb5
    go_upto_region 7 with (first | (go_at_call 8; refine hrc.mono ?_; rintro e w8 ⟨b, N, p1, hb8, hbad⟩; rw [p1]; clear p1))
    have r0 := cell_b hb8 r0
    have r1 := cell_b hb8 r1
    have r2 := cell_b hb8 r2
    obtain ⟨hB8, hB18, hb58⟩ := hcs7.out w8 hb8
    clear c0 c1 c2 c3 c4 c5 c6 hrc hcs7 hb8
    obtain ⟨c0, c1, c2, c3, c4, c5, c6⟩ := hcs.out w8 hB18
    have hB8 : Aside _ := hB8
    rcases hcase with ⟨rfl, rfl⟩ | ⟨a, n, v, rfl, hv, ⟨rfl, rfl, hsl⟩ | ⟨rfl, rfl, htk, hown⟩⟩
    · have hb0 : b < 0 := by
        rcases hbad with ⟨h, _⟩ | ⟨_, _, _, h, _⟩
        · omega
        · cases h
      clear hbad hcs hB18 hb58
      go_wp2_with (first | (go_at_call 9; refine (hnum _).mono ?_; rintro e w9 ⟨p1, p2⟩; rw [p1, p2]; clear p1 p2))
      go_ret
      exact ⟨rfl, hs'.out.1.symm ▸ hB8.out⟩
    · cases hsl
      clear hbad hcs hB18 hb58
      go_wp2_with (first | (go_at_call 9; refine (hnum _).mono ?_; rintro e w9 ⟨p1, p2⟩; rw [p1, p2]; clear p1 p2))
      go_ret
      exact ⟨rfl, hs'.out.1.symm ▸ hB8.out⟩
    · have hb0 : b = (v.tick : Int) := by
        rcases hbad with ⟨_, h⟩ | ⟨a', m, v', h, hv', e⟩
        · cases h
        · cases h
          rw [hv] at hv'
          cases hv'
          exact e
      subst hb0
      obtain ⟨ta', tc', e9, hz⟩ := hown.bits
      have htl := hown.2
      cases e9
      have hres := run_res hy F (inv_start y hy) hrun
      obtain ⟨a0, hinv⟩ := hres.inv
      obtain ⟨hn, v', hv', hbz⟩ := hres.some_ a n rfl
      rw [hv] at hv'
      cases hv'
      obtain ⟨hrep, hlen⟩ := found_ok hinv hv hbz
      obtain ⟨T, hT⟩ : ∃ T, traceZ y l a n = T := ⟨_, rfl⟩
      obtain ⟨tk, htk'⟩ : ∃ t, v.tick = t := ⟨_, rfl⟩
      rw [hT] at hz htl hrep hlen ⊢
      rw [htk'] at hlen htk ⊢
      rw [htk'] at r1
      rw [hT] at r2
      rw [him] at htl
      have hbd := bad_walk d y gn bn im ta T.length tc T w8 hy hgn hnn him (by omega) (by omega) (by omega) (hsy.out w8 hB8.out) rfl (by omega) htl (hz.below hb58)
      rw [hrep] at hbd
      unfold sysC at hbd
      rw [hok, hasm] at hbd
      obtain ⟨tn, htn⟩ : ∃ t, T.length = t := ⟨_, rfl⟩
      rw [htn] at hbd hlen r2 ⊢
      have hq1 : ((tn : Int) == (tk : Int) + 1) = true := beq_of_eq (by omega)
      have hq2 : (tk : Int) ≤ (kn : Int) := by omega
      have hq3 : (tk : Int) ≤ 5 := by omega
      have hcs8 : Aside (∀ w9, Below w8.heap.size w8 w9 → Below s w w9) := fun w9 h => hB8.out.trans (h.mono (by have := hB18.size; have := hs'.out.2.1; omega))
      clear hbad hcs hB18 hb58 hown hz htl hres hinv hbz hrep hT htk' htn hlen hv hrun htk
      go_wp2_with (first | (go_at_call 9; refine (hnum _).mono ?_; rintro e w9 ⟨p1, p2⟩; rw [p1, p2]; clear p1 p2) | (go_at_call 10; refine hbd.mono ?_; rintro e w9 ⟨p1, hb9⟩; rw [p1]; clear p1; have r1' := cell_b hb9 r1))
      go_ret
      exact ⟨rfl, hs'.out.1.symm ▸ hcs8.out _ hb9⟩
end Go.Proofs.YtdgnafjllokioaaGreatDoor

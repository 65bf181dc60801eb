/- Kind: is a system good? as the document tells it (Good), walked. -/
import Derived.Test.YtdgnafjllokioaaGreatDoorKL
set_option linter.unusedVariables false
set_option linter.unusedSimpArgs false
set_option autoImplicit false
set_option linter.unusedVariables false
set_option linter.unusedSimpArgs false
namespace Go.Proofs.YtdgnafjllokioaaGreatDoor
open Go.Proofs Go
open Go.RowKit Kb
set_option maxHeartbeats 8000000 in
set_option maxRecDepth 1000000 in
theorem good_walk (d : SA) (y : Sy) (gn nn xn im bn : Nat) (w : World) (hgn : y.gates.length = gn) (hnn : y.now.length = nn) (hxn : y.next.length = xn) (him : y.ins.length = im) (hbn : y.init.length = bn) (hg9 : gn ≤ 400) (hn9 : nn ≤ 8) (hi9 : im ≤ 3)
    (hsys : SysAt w d y) (hna : d.na = none → nn = 0 ∧ d.nc = 0) (hxa : d.xa = none → xn = 0 ∧ d.xc = 0) (hia : d.ia = none → im = 0 ∧ d.ic = 0) :
    Calls Tryz.prog 6 #[.agg #[.slice d.ga gn d.gc, .slice d.na nn d.nc, .slice d.xa xn d.xc, .slice d.ia im d.ic, .slice d.ba bn d.bc, .int .i64 y.ok, .int .i64 y.asm]] w (GoodR w y) := by
  obtain ⟨s, hs⟩ : ∃ s, w.heap.size = s := ⟨_, rfl⟩
  obtain ⟨W1, hW1⟩ : ∃ W, w.alloc (.cells #[.slice d.ga gn d.gc, .slice d.na nn d.nc, .slice d.xa xn d.xc, .slice d.ia im d.ic, .slice d.ba bn d.bc, .int .i64 y.ok, .int .i64 y.asm] 28) = W := ⟨_, rfl⟩
  have hb0 : Below s w W1 := by rw [← hW1, ← hs]; exact (Below.refl w.heap.size w).alloc (Nat.le_refl _) _
  have hlt : s < W1.heap.size := by rw [← hW1, ← hs]; show _ < (w.heap.push _).size; simp
  have c0 : W1.cell? ⟨s, 0, none⟩ = some (.slice d.ga gn d.gc) := by rw [← hW1, ← hs]; exact (cell_new ..).trans rfl
  have c1 : W1.cell? ⟨s, 1, none⟩ = some (.slice d.na nn d.nc) := by rw [← hW1, ← hs]; exact (cell_new ..).trans rfl
  have c2 : W1.cell? ⟨s, 2, none⟩ = some (.slice d.xa xn d.xc) := by rw [← hW1, ← hs]; exact (cell_new ..).trans rfl
  have c3 : W1.cell? ⟨s, 3, none⟩ = some (.slice d.ia im d.ic) := by rw [← hW1, ← hs]; exact (cell_new ..).trans rfl
  have c4 : W1.cell? ⟨s, 4, none⟩ = some (.slice d.ba bn d.bc) := by rw [← hW1, ← hs]; exact (cell_new ..).trans rfl
  have c5 : W1.cell? ⟨s, 5, none⟩ = some (.int .i64 y.ok) := by rw [← hW1, ← hs]; exact (cell_new ..).trans rfl
  have c6 : W1.cell? ⟨s, 6, none⟩ = some (.int .i64 y.asm) := by rw [← hW1, ← hs]; exact (cell_new ..).trans rfl
  have hno : ∀ W, Below s w W → GoodR w y (.returned (.bool false)) W := fun W hb => good_no (hs ▸ hb)
  have hsysW : ∀ W, Below s w W → SysAt W d y := fun W hb => hsys.below (hs ▸ hb)
  have hchk := checkNet_walk d.ga gn d.gc y.gates W1 hgn (by omega) (hsysW W1 hb0).g
  go_enter Tryz.func6, Tryz.ntmps6
  by_cases hnet : netOK y.gates
  case neg =>
    have hchk' : Calls Tryz.prog 13 #[.agg #[.slice d.ga gn d.gc]] W1 fun e w' => ∃ v : Int, e = .returned (.int .i64 v) ∧ ¬ v = 0 ∧ Below W1.heap.size W1 w' := hchk.mono fun e w' ⟨v, p1, p2, p3⟩ => ⟨v, p1, fun h => hnet (p2.1 h), p3⟩
    clear hchk
    go_wp2_with (first | (go_at_call 13; refine hchk'.mono ?_; rintro e W2 ⟨v, p1, hv, hb2⟩; rw [p1]; clear p1; replace c0 := cell_b hb2 c0; replace c1 := cell_b hb2 c1; replace c2 := cell_b hb2 c2; replace c3 := cell_b hb2 c3; replace c4 := cell_b hb2 c4))
    go_ret
    exact hno _ (hb0.trans (hb2.mono (Nat.le_of_lt hlt)))
  have hchk' : Calls Tryz.prog 13 #[.agg #[.slice d.ga gn d.gc]] W1 fun e w' => e = .returned (.int .i64 0) ∧ Below W1.heap.size W1 w' := hchk.mono fun e w' ⟨v, p1, p2, p3⟩ => ⟨by rw [p1, p2.2 hnet], p3⟩
  clear hchk
  by_cases hx : xn = nn
  case neg =>
    have hxI : ¬ (xn : Int) = nn := by omega
    go_wp2_with (first | (go_at_call 13; refine hchk'.mono ?_; rintro e W2 ⟨p1, hb2⟩; rw [p1]; clear p1; replace c0 := cell_b hb2 c0; replace c1 := cell_b hb2 c1; replace c2 := cell_b hb2 c2; replace c3 := cell_b hb2 c3; replace c4 := cell_b hb2 c4))
    go_ret
    exact hno _ (hb0.trans (hb2.mono (Nat.le_of_lt hlt)))
  by_cases hbb : bn = nn
  case neg =>
    have hxI : ¬ (bn : Int) = nn := by omega
    subst hx
    go_wp2_with (first | (go_at_call 13; refine hchk'.mono ?_; rintro e W2 ⟨p1, hb2⟩; rw [p1]; clear p1; replace c0 := cell_b hb2 c0; replace c1 := cell_b hb2 c1; replace c2 := cell_b hb2 c2; replace c3 := cell_b hb2 c3; replace c4 := cell_b hb2 c4))
    go_ret
    exact hno _ (hb0.trans (hb2.mono (Nat.le_of_lt hlt)))
  have hbx : bn = xn := hbb.trans hx.symm
  subst hx
  subst hbx
  have hsb : SB s d gn bn im y.ok y.asm W1 := ⟨c0, c1, c2, c3, c4, c5, c6, hlt⟩
  clear c5 c6
  go_upto_region 3 with (first | (go_at_call 13; refine hchk'.mono ?_; rintro e W2 ⟨p1, hb2⟩; rw [p1]; clear p1; replace c0 := cell_b hb2 c0; replace c1 := cell_b hb2 c1; replace c2 := cell_b hb2 c2; replace c3 := cell_b hb2 c3; replace c4 := cell_b hb2 c4; replace hb0 := hb0.trans (hb2.mono (Nat.le_of_lt hlt)); replace hsb := hsb.below hlt hb2))
  go_upto_region 4 with fail
  clear hchk' c0 c1 c2 c3 c4
  obtain ⟨ok, hok⟩ : ∃ x, y.ok = x := ⟨_, rfl⟩
  obtain ⟨asm, hasm⟩ : ∃ x, y.asm = x := ⟨_, rfl⟩
  rw [hok, hasm] at hsb
  obtain ⟨i3, hi3, hz30, hz31, hz32⟩ := info_parts' info3
  obtain ⟨lo, hlo⟩ : ∃ n, W2.heap.size = n := ⟨_, rfl⟩
  have hbA : Below lo W2 W2.drew := below_drew (Below.refl _ _)
  have hbB : ∀ o, Below lo W2 (W2.alloc o).drew := fun o => below_drew ((Below.refl _ _).alloc (Nat.le_of_eq hlo.symm) o)
  have hnx : ∀ W, Below lo W2 W → ∀ ad, d.xa = some ad → ∀ j u, (y.next.map (Value.int .i64))[j]? = some u → W.cell? (ad.add j) = some u := fun W hb => ints_news ((hsysW W2 hb0).x.below (hlo ▸ hb))
  have hA : (∀ u ∈ y.next.map (Value.int .i64), u.oneCell' = true) ∧ (y.next.map (Value.int .i64)).length = bn * 1 ∧ 0 + bn ≤ maxLen ∧ (0 + bn) * 8 ≤ 140737488355328 ∧ 0 + bn + 2 ≤ maxLen ∧ (0 + bn + 2) * 8 ≤ 140737488355328 ∧ (∀ x ∈ [Value.int .i64 ok, .int .i64 asm], x.oneCell' = true) := ⟨one_ivs' _, by rw [List.length_map, hxn, Nat.mul_one], by unfold maxLen; omega, by omega, by unfold maxLen; omega, by omega, fun x hx => by rcases List.mem_cons.1 hx with e | e; rw [e]; rfl; rw [List.mem_singleton.1 e]; rfl⟩
  have hsz : ∀ W, Below lo W2 W → lo ≤ W.heap.size := fun W hb => hlo ▸ hb.size
  obtain ⟨nl, hnl⟩ : ∃ l, y.next.map (Value.int .i64) = l := ⟨_, rfl⟩
  rw [hnl] at hA hnx
  have hnew : ∀ (j : Nat) (x : Value), [Value.int .i64 ok, Value.int .i64 asm][j]? = some x → (W2.alloc (.cells #[.int .i64 ok, .int .i64 asm] 3)).drew.cell? ((⟨lo, 0, none⟩ : Addr).add j) = some x := by
    rw [← hlo]
    exact all_new W2 [.int .i64 ok, .int .i64 asm] 3
  have hA' : Aside _ := hA
  have hx' : Aside _ := hxa
  clear hA hxa
  go_wp2
  go_region_held3 (fun w' => w'.cell? ⟨s, 2, none⟩ = some (.slice d.xa bn d.xc) ∧ w'.cell? ⟨s, 5, none⟩ = some (.int .i64 ok) ∧ w'.cell? ⟨s, 6, none⟩ = some (.int .i64 asm)) (first | exact hHeld | exact hsb.drew.three | exact (hsb.alloc _).drew.three | exact hJ.three | exact (hJ.alloc _).three | exact hL.three) (first | (refine step_append_any (by rfl) _ _ 25 (by rfl) lo 3 i3 (.int .i64 0) 1 8 Tryz.underlying25 hi3 hz30 hz31 hz32 rfl (by decide) (.slice none 0 0) 0 [] (by rfl) (World.ownsRow_nil _ _ _ _) d.xa bn d.xc nl (by rfl) hx'.out hA'.out.2.1 (hnx _ (by first | exact hbA | exact hbB _)) hA'.out.1 hA'.out.2.2.1 hA'.out.2.2.2.1 (hsz _ (by first | exact hbA | exact hbB _)) ?_; intro v5 w5 ho5 hg5; have hb5 : Below lo W2 w5 := (by first | exact hbA.grown hg5 (hsz _ hbA) (fun g e => by cases e) | exact (hbB _).grown hg5 (hsz _ (hbB _)) (fun g e => by cases e)); have hJ := hsb.below (hlo ▸ hsb.lt) hb5) | (refine step_append_own (by rfl) _ _ 25 (by rfl) lo 3 i3 (.int .i64 0) 1 8 Tryz.underlying25 hi3 hz30 hz31 hz32 rfl (by decide) v5 _ _ (by rfl) (by first | exact ho5 | exact own_below' ho5 ((Below.refl _ _).alloc (Nat.le_refl _) _)) _ 2 2 [.int .i64 ok, .int .i64 asm] (by rfl) (by rfl) (by first | exact all_new _ _ _ | exact all_grown hnew hg5) hA'.out.2.2.2.2.2.2 hA'.out.2.2.2.2.1 hA'.out.2.2.2.2.2.1 (by first | exact hsz _ hb5 | exact hsz _ (hb5.alloc (hsz _ hb5) _)) ?_; intro v6 w6 ho6 hg6; have hb6 : Below lo W2 w6 := (by first | exact hb5.grown hg6 (hsz _ hb5) (fun g e => (ho5.lt g e).1) | exact (hb5.alloc (hsz _ hb5) _).grown hg6 (hsz _ (hb5.alloc (hsz _ hb5) _)) (fun g e => (ho5.lt g e).1)); have hL := hsb.below (hlo ▸ hsb.lt) hb6))
  all_goals (
    have hI6 : v6 = .slice (adOf v6) (bn + 2) (cpOf v6) ∧ Ints w6 (adOf v6) (y.next ++ [ok, asm]) := ints_own (by
      rw [List.map_append, hnl]
      first
        | exact ho6
        | (rw [Nat.zero_add, List.nil_append] at ho6; exact ho6)) (by rw [List.length_append, hxn]; rfl)
    obtain ⟨e6, hI6⟩ := hI6
    have hb06 : Below s w w6 := hb0.trans (hb6.mono (by rw [← hlo]; exact Nat.le_of_lt hsb.lt))
    rw [e6]
    generalize adOf v6 = la at hI6
    generalize cpOf v6 = lc
    generalize hL6 : y.next ++ [ok, asm] = L at hI6
    clear ho6 hg6 ho5 hg5 hb5 hb6 hJ e6 hbA hbB hnx hA' hx' hsz hnew hb0 hsb hnl hlo hs hW1 hsys
    have hLl : L.length = bn + 2 := by rw [← hL6, List.length_append, hxn]; rfl
    go_wp2
    go_loopw [5] (fun i wr => ∃ k : Nat, k ≤ bn + 2 ∧ i = .int .i64 k ∧ (∀ x ∈ L.take k, wOK gn x) ∧ wr = w6) (fun i _ => bn + 2 - (intOf i).toNat)
    case atStart => exact ⟨0, Nat.zero_le _, rfl, by simp, rfl⟩
    case round =>
      obtain ⟨k, hk, rfl, hall, hwr⟩ := hrel
      subst hwr
      by_cases hlt : k < bn + 2
      · have hltI : (k : Int) < (bn : Int) + 2 := by omega
        obtain ⟨b, off, rfl, hb, hc⟩ := hI6 k (by omega)
        have hsn := wOK_snoc (n := gn) (l := L) (k := k) (by omega) hall
        obtain ⟨x, hx⟩ : ∃ x, L.getD k 0 = x := ⟨_, rfl⟩
        rw [hx] at hc hsn
        clear hall hx
        by_cases x0 : x < 0
        · go_wp2
          go_ret
          exact hno _ hb06
        by_cases x1 : x ≥ 2 * (gn : Int)
        · go_wp2
          go_ret
          exact hno _ hb06
        have hA : Aside (∀ x ∈ L.take (k + 1), wOK gn x) := hsn ⟨by omega, by omega⟩
        clear hsn
        go_wp2
        go_roundw
        case rel => exact ⟨k + 1, hlt, by go_num, hA.out, by trivial⟩
        case measure => simp only [intOf]; omega
      · have hlt' : ¬ (k : Int) < (bn : Int) + 2 := by omega
        have hwL : Aside (∀ x ∈ L, wOK gn x) := by
          rw [List.take_of_length_le (by omega)] at hall
          exact hall
        clear hall
        clear hI6 hk hlt hb2 hbb
        go_wp2
        obtain ⟨lo, hlo⟩ : ∃ n, wr.heap.size = n := ⟨_, rfl⟩
        have hbA : Below lo wr wr.drew := below_drew (Below.refl _ _)
        have hnn1 : ∀ W, Below lo wr W → ∀ ad, d.na = some ad → ∀ j u, (y.now.map (Value.int .i64))[j]? = some u → W.cell? (ad.add j) = some u := fun W hb => ints_news ((hsysW wr hb06).n.below (hlo ▸ hb))
        have hnn2 : ∀ W, Below lo wr W → ∀ ad, d.ia = some ad → ∀ j u, (y.ins.map (Value.int .i64))[j]? = some u → W.cell? (ad.add j) = some u := fun W hb => ints_news ((hsysW wr hb06).i.below (hlo ▸ hb))
        have hA : (∀ u ∈ y.now.map (Value.int .i64), u.oneCell' = true) ∧ (y.now.map (Value.int .i64)).length = bn * 1 ∧ 0 + bn ≤ maxLen ∧ (0 + bn) * 8 ≤ 140737488355328 ∧ 0 + bn + im ≤ maxLen ∧ (0 + bn + im) * 8 ≤ 140737488355328 ∧ (∀ u ∈ y.ins.map (Value.int .i64), u.oneCell' = true) ∧ (y.ins.map (Value.int .i64)).length = im * 1 := ⟨one_ivs' _, by rw [List.length_map, hnn, Nat.mul_one], by unfold maxLen; omega, by omega, by unfold maxLen; omega, by omega, one_ivs' _, by rw [List.length_map, him, Nat.mul_one]⟩
        have hsz : ∀ W, Below lo wr W → lo ≤ W.heap.size := fun W hb => hlo ▸ hb.size
        obtain ⟨nl, hnl⟩ : ∃ l, y.now.map (Value.int .i64) = l := ⟨_, rfl⟩
        obtain ⟨il, hil⟩ : ∃ l, y.ins.map (Value.int .i64) = l := ⟨_, rfl⟩
        rw [hnl, hil] at hA
        rw [hnl] at hnn1
        rw [hil] at hnn2
        have hA' : Aside _ := hA
        have hx1 : Aside _ := hna
        have hx2 : Aside _ := hia
        clear hA hna hia
        go_region_held3 (fun w' => w'.cell? ⟨s, 1, none⟩ = some (.slice d.na bn d.nc) ∧ w'.cell? ⟨s, 3, none⟩ = some (.slice d.ia im d.ic)) (first | exact hHeld | exact hL.drew.two | exact hJ.two | exact hL7.two) (first | (refine step_append_any (by rfl) _ _ 25 (by rfl) lo 3 i3 (.int .i64 0) 1 8 Tryz.underlying25 hi3 hz30 hz31 hz32 rfl (by decide) (.slice none 0 0) 0 [] (by rfl) (World.ownsRow_nil _ _ _ _) d.na bn d.nc nl (by rfl) hx1.out hA'.out.2.1 (hnn1 _ hbA) hA'.out.1 hA'.out.2.2.1 hA'.out.2.2.2.1 (hsz _ hbA) ?_; intro v5 w5 ho5 hg5; have hb5 : Below lo wr w5 := hbA.grown hg5 (hsz _ hbA) (fun g e => by cases e); have hJ := hL.below (hlo ▸ hL.lt) hb5) | (refine step_append_any (by rfl) _ _ 25 (by rfl) lo 3 i3 (.int .i64 0) 1 8 Tryz.underlying25 hi3 hz30 hz31 hz32 rfl (by decide) v5 (0 + bn) ([] ++ nl) (by rfl) ho5 d.ia im d.ic il (by rfl) hx2.out hA'.out.2.2.2.2.2.2.2 (hnn2 _ hb5) hA'.out.2.2.2.2.2.2.1 hA'.out.2.2.2.2.1 hA'.out.2.2.2.2.2.1 (hsz _ hb5) ?_; intro v7 w7 ho7 hg7; have hb7 : Below lo wr w7 := hb5.grown hg7 (hsz _ hb5) (fun g e => (ho5.lt g e).1); have hL7 := hL.below (hlo ▸ hL.lt) hb7))
        have hI7 : v7 = .slice (adOf v7) (bn + im) (cpOf v7) ∧ Ints w7 (adOf v7) (y.now ++ y.ins) := ints_own (by
          rw [List.map_append, hnl, hil]
          first
            | exact ho7
            | (rw [Nat.zero_add, List.nil_append] at ho7; exact ho7)) (by rw [List.length_append, hnn, him])
        obtain ⟨e7, hI7⟩ := hI7
        have hb07 : Below s w w7 := hb06.trans (hb7.mono (by rw [← hlo]; exact Nat.le_of_lt hL.lt))
        rw [e7]
        generalize adOf v7 = ma at hI7
        generalize cpOf v7 = mc
        generalize hM : y.now ++ y.ins = M at hI7
        clear ho7 hg7 ho5 hg5 hb5 hb7 hJ e7 hbA hnn1 hnn2 hA' hx1 hx2 hsz hL hnl hil hlo
        have hMl : M.length = bn + im := by rw [← hM, List.length_append, hnn, him]
        have c0 := hL7.c0
        have hs7 := hL7.lt
        have hmk26 := fun w => run_make_row' (P := Tryz.prog) 26 4 (.bool false) 1 Tryz.underlying26 info4 rfl .i64 .i64 gn (by omega) (by omega) w
        obtain ⟨g, hg⟩ : ∃ g, w7.heap.size = g := ⟨_, rfl⟩
        obtain ⟨W8, hW8⟩ : ∃ W, w7.alloc (.cells (madeCells #[.bool false] gn) 4) = W := ⟨_, rfl⟩
        have hWR : WR 0 g gn (seenL gn (M.take 0)) w7 W8 := by
          rw [← hW8, ← hg, List.take_zero, seenL_nil]
          exact wr_new w7 gn (by omega)
        have hb08 : ∀ W, Below g w7 W → Below s w W := fun W h => hb07.trans (h.mono (by omega))
        have hM8 : ∀ W, Below g w7 W → Ints W ma M := fun W h => hI7.below (hg ▸ h)
        have hS8 : ∀ W, Below g w7 W → SB s d gn bn im ok asm W := fun W h => hL7.below (hg ▸ hs7) h
        go_wp2
        clear hI7 hL7 c0 hg hW8 hmk26
        go_loopw [8] (fun i wr => ∃ k : Nat, k ≤ bn + im ∧ i = .int .i64 k ∧ InOK y.gates (M.take k) ∧ WR 0 g gn (seenL gn (M.take k)) w7 wr) (fun i _ => bn + im - (intOf i).toNat)
        case atStart => exact ⟨0, Nat.zero_le _, rfl, ⟨by simp, by simp⟩, hWR⟩
        case round =>
          clear hWR
          obtain ⟨k, hk, rfl, hin, hR⟩ := hrel
          by_cases hlt : k < bn + im
          · have hltI : (k : Int) < (bn : Int) + im := by omega
            obtain ⟨b, off, rfl, hb, hc⟩ := hM8 wr hR.bel k (by omega)
            have c0 := (hS8 wr hR.bel).c0
            have htk := take_snoc (l := M) (k := k) (by omega)
            obtain ⟨x, hx⟩ : ∃ x, M.getD k 0 = x := ⟨_, rfl⟩
            rw [hx] at hc htk
            clear hx
            have hN : Aside (∀ q, Below s w (wr.drewN q)) := fun q => hb08 _ (below_drewN hR.bel q)
            by_cases x0 : x < 0
            · have x0d : decide (x < 0) = true := decide_eq_true x0
              clear htk hin hR hM8 hS8 hb08
              go_wp2
              go_big_quiet (fail)
              go_wp2
              go_ret
              exact hno _ (hN.out _)
            have x0d : decide (x < 0) = false := decide_eq_false x0
            by_cases x1 : x ≥ 2 * (gn : Int)
            · have x1d : decide (2 * (gn : Int) ≤ x) = true := decide_eq_true x1
              clear htk hin hR hM8 hS8 hb08
              go_wp2
              go_big_quiet (fail)
              go_wp2
              go_ret
              exact hno _ (hN.out _)
            have x1d : decide (2 * (gn : Int) ≤ x) = false := decide_eq_false x1
            obtain ⟨m, hm, hxm, hd⟩ := wire_div (n := gn) (x := x) ⟨by omega, by omega⟩
            rcases hxm with rfl | rfl
            case inr =>
              have e1 : (2 * (m : Int) + 1).tmod 2 = 1 := by rw [Int.tmod_eq_emod_of_nonneg (by omega)]; omega
              clear htk hin hR hM8 hS8 hb08 hd
              go_wp2
              go_big_quiet (fail)
              go_wp2
              go_ret
              exact hno _ (hN.out _)
            have x1n : decide (gn ≤ m) = false := decide_eq_false (by omega)
            have x1i : decide ((gn : Int) ≤ m) = false := decide_eq_false (by omega)
            have e1 : (2 * (m : Int)).tmod 2 = 0 := by rw [Int.tmod_eq_emod_of_nonneg (by omega)]; omega
            have e2 : (2 * (m : Int)).tdiv 2 = m := by rw [Int.tdiv_eq_ediv_of_nonneg (by omega)]; omega
            obtain ⟨gb, go, hga, hgb, g0, _, _⟩ := (hsysW wr (hb08 _ hR.bel)).g m (by omega)
            rw [hga] at c0
            clear hga
            obtain ⟨o, ho⟩ : ∃ o, opZ y.gates m = o := ⟨_, rfl⟩
            rw [ho] at g0
            by_cases o2 : o = 2
            case neg =>
              have hne : (o == 2) = false := beq_false_of_ne o2
              have hnq : (o != 2) = true := by rw [bne, hne]; rfl
              have hnd : decide (o = 2) = false := decide_eq_false o2
              have hnn3 : (!decide (o = 2)) = true := by rw [hnd]; rfl
              clear htk hin hR hM8 hS8 hb08 hd
              go_wp2
              go_big_quiet (fail)
              go_wp2
              go_ret
              exact hno _ (hN.out _)
            subst o2
            obtain ⟨r1, r2⟩ := hR.cell hm
            rw [seenL_get _ hm] at r1
            by_cases hseen : (2 * (m : Int)) ∈ M.take k
            · rw [decide_eq_true hseen] at r1
              clear htk hin hR hM8 hS8 hb08 hd hseen
              go_wp2
              go_big_quiet (fail)
              go_wp2
              go_ret
              exact hno _ (hN.out _)
            rw [decide_eq_false hseen] at r1
            have hin2 := hin.snoc (by omega : m < y.gates.length) ho hseen
            have hset : ∀ q, WR 0 g gn (seenL gn (M.take (k + 1))) w7 ((wr.drewN q).setCell ⟨g, m, none⟩ (.bool true)) := fun q => (hR.drewN q).set m true (by rw [htk]; exact seenL_snoc _ hm)
            rw [← htk] at hin2
            have hA : Aside (InOK y.gates (M.take (k + 1)) ∧ ∀ q, WR 0 g gn (seenL gn (M.take (k + 1))) w7 ((wr.drewN q).setCell ⟨g, m, none⟩ (.bool true))) := ⟨hin2, hset⟩
            have s1 : ∀ q, (wr.drewN q).cell? ⟨b, off + k, none⟩ = some (.int .i64 (2 * (m : Int))) := fun q => hc
            have s2 : ∀ q, (wr.drewN q).cell? ⟨g, m, none⟩ = some (.bool false) := fun q => r1
            have s3 : ∀ q, (wr.drewN q).frozen? ⟨g, m, none⟩ = false := fun q => r2
            clear htk hin hR hM8 hS8 hb08 hd hseen hin2 hset
            go_wp2
            go_big_quiet (fail)
            go_wp2
            go_roundw
            case rel => exact ⟨k + 1, hlt, by go_num, hA.out.1, hA.out.2 _⟩
            case measure => simp only [intOf]; omega
          · have hkn : k = bn + im := by omega
            subst hkn
            rw [List.take_of_length_le (by omega)] at hin
            have c0 := (hS8 wr hR.bel).c0
            have hbw := hb08 _ hR.bel
            have hlt' : ¬ ((bn + im : Nat) : Int) < (bn : Int) + im := by omega
            have hinp := (inputs_walk d.ga gn d.gc y.gates wr hgn (by omega) (hsysW wr hbw).g).mono (R' := fun e W' => ∃ xa xc, e = .returned (.slice xa (inputsZ y.gates).length xc) ∧ Below wr.heap.size wr W') (by
              rintro e W' ⟨v, p1, p2, p3⟩
              obtain ⟨xa, xc, e1⟩ := own_shape p2
              rw [e1] at p1
              exact ⟨xa, xc, p1, p3⟩)
            have hsw := (hS8 wr hR.bel).lt
            have hG : Aside ((inputsZ y.gates).length = bn + im → Kb.Good y) := fun h => good_mk (nn := bn) (im := im) hgn hnn hxn him hbn hnet (by rw [hok, hasm, hL6]; exact hwL.out) (by rw [hM]; exact hin) h
            obtain ⟨il, hil⟩ : ∃ l, (inputsZ y.gates).length = l := ⟨_, rfl⟩
            rw [hil] at hinp hG
            clear hin hR hM8 hS8 hb08
            have hbq : ((il : Int) == (bn : Int) + im) = decide (il = bn + im) := by
              by_cases he : il = bn + im
              · rw [decide_eq_true he, he]; simp
              · rw [decide_eq_false he]; exact beq_false_of_ne (by omega)
            have hQ : Aside _ := hbq
            clear hbq
            go_wp2_with (first | (go_at_call 14; refine hinp.mono ?_; rintro e W3 ⟨xa, xc, p1, hb3⟩; rw [p1]; clear p1))
            go_ret
            obtain ⟨_, _, _, hbf⟩ := hno _ (hbw.trans (hb3.mono (Nat.le_of_lt hsw)))
            exact ⟨_, rfl, fun h => hG.out (of_decide_eq_true (hQ.out ▸ h)), hbf⟩)
end Go.Proofs.YtdgnafjllokioaaGreatDoor

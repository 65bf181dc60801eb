/- Drat: the law of DratChecks, walked. -/
import Derived.Test.YtagfnjpjmmleiaaDoorWB
import Derived.Test.YtagfnjpjmmleiaaDoorWC
import Derived.Test.YtagfnjpjmmleiaaDoorUG
import Derived.Test.YtagfnjpjmmleiaaDoorVB
set_option linter.unusedVariables false
set_option linter.unusedSimpArgs false
set_option autoImplicit false
set_option linter.unusedVariables false
set_option linter.unusedSimpArgs false
namespace Go.Proofs.YtagfnjpjmmleiaaDoor
open Go.Shelf Go.RowKit
set_option maxHeartbeats 32000000 in
set_option maxRecDepth 1000000 in
theorem law3_walk (a : Option Addr) (n c : Nat) (cs : List Cl) (vars : Int) (pa : Option Addr) (pn pc : Nat) (ls : List Ln) (w : World) (hn : cs.length = n) (hlen : n ≤ 4611686018427387904) (hl : ∀ j, j < n → (cs.getD j default).zs.length ≤ 4611686018427387904) (hz : Rows' w a cs)
    (hpn : ls.length = pn) (hp9 : pn ≤ 1152921504606846976) (hpl : ∀ j, j < pn → (ls.getD j default).cl.zs.length ≤ 4611686018427387904) (hpc : ∀ j, j < pn → (ls.getD j default).cl.a = none → (ls.getD j default).cl.c = 0) (hpz : Lines w pa ls) (ht : Tab w.heap.size w)
    (hal : ∀ W, Below w.heap.size w W → Calls Tryd.prog 8 #[] W (AlOut W)) :
    Calls Tryd.prog 3 #[.agg #[.int .i64 vars, .slice a n c], .slice pa pn pc] w (AlOut w) := by
  have hb0 := (Below.refl w.heap.size w).alloc (Nat.le_refl _) (.cells #[Value.int .i64 vars, .slice a n c] 24)
  have k0 : (w.alloc (.cells #[Value.int .i64 vars, .slice a n c] 24)).cell? ⟨w.heap.size, 0, none⟩ = some (.int .i64 vars) := (cell_new ..).trans rfl
  have k1 : (w.alloc (.cells #[Value.int .i64 vars, .slice a n c] 24)).cell? ⟨w.heap.size, 1, none⟩ = some (.slice a n c) := (cell_new ..).trans rfl
  have hal0 := hal _ hb0
  go_enter Tryd.func3, Tryd.ntmps3
  go_wp2_with (go_at_call 8; refine hal0.mono ?_; rintro e w1 ⟨p1, hb1⟩; rw [p1]; clear p1; have c0 := (hb1.cell (p := ⟨w.heap.size, 0, none⟩) (cellLt k0)).trans k0; have c1 := (hb1.cell (p := ⟨w.heap.size, 1, none⟩) (cellLt k1)).trans k1)
  have hbw1 := hb0.trans (hb1.mono hb0.size)
  clear k0 k1 hal0
  have hbg := big_walk a n c cs vars w1 hn hlen hl (hz.below hbw1)
  obtain ⟨B, hB⟩ : ∃ B, bigZ vars cs = B := ⟨_, rfl⟩
  rw [hB] at hbg
  cases B with
  | true =>
    go_wp2_with (go_at_call 9; refine hbg.mono ?_; rintro e w2 ⟨p1, hb2⟩; rw [p1]; clear p1)
    go_ret
    exact ⟨rfl, hbw1.trans (hb2.mono hbw1.size)⟩
  | false =>
    have hlg := fun W (hW : Below w.heap.size w W) => long_walk pa pn pc ls W hpn hp9 hpl (hpz.below hW)
    obtain ⟨L, hL⟩ : ∃ L, longZ ls = L := ⟨_, rfl⟩
    rw [hL] at hlg
    cases L with
    | true =>
      go_wp2_with (first | (go_at_call 9; refine hbg.mono ?_; rintro e w2 ⟨p1, hb2⟩; rw [p1]; clear p1; have hbw2 := hbw1.trans (hb2.mono hbw1.size)) | (go_at_call 10; refine (hlg _ hbw2).mono ?_; rintro e w3 ⟨p1, p2⟩; rw [p1, p2]; clear p1 p2))
      go_ret
      exact ⟨rfl, hbw2⟩
    | false =>
      obtain ⟨l1, l2⟩ := long_sum hL
      have hB' : ¬ (6000 < total cs cs.length) ∧ ¬ ((3000 : Int) < vars) := by
        unfold bigZ at hB
        simp only [Bool.or_eq_false_iff, decide_eq_false_iff_not] at hB
        exact hB
      obtain ⟨t1, t2⟩ := total_sum2 cs
      have hl' : ∀ j, j < n → (cs.getD j default).zs.length ≤ 1000000000 := fun j hj => by have := t2 j (by omega); omega
      by_cases h3 : (300 : Int) < n
      · go_wp2_with (first | (go_at_call 9; refine hbg.mono ?_; rintro e w2 ⟨p1, hb2⟩; rw [p1]; clear p1; have hbw2 := hbw1.trans (hb2.mono hbw1.size); have c0 := (hb2.cell (p := ⟨w.heap.size, 0, none⟩) (cellLt c0)).trans c0; have c1 := (hb2.cell (p := ⟨w.heap.size, 1, none⟩) (cellLt c1)).trans c1) | (go_at_call 10; refine (hlg _ hbw2).mono ?_; rintro e w3 ⟨p1, p2⟩; rw [p1, p2]; clear p1 p2))
        go_ret
        exact ⟨rfl, hbw2⟩
      · by_cases h4 : (200 : Int) < vars
        · go_wp2_with (first | (go_at_call 9; refine hbg.mono ?_; rintro e w2 ⟨p1, hb2⟩; rw [p1]; clear p1; have hbw2 := hbw1.trans (hb2.mono hbw1.size); have c0 := (hb2.cell (p := ⟨w.heap.size, 0, none⟩) (cellLt c0)).trans c0; have c1 := (hb2.cell (p := ⟨w.heap.size, 1, none⟩) (cellLt c1)).trans c1) | (go_at_call 10; refine (hlg _ hbw2).mono ?_; rintro e w3 ⟨p1, p2⟩; rw [p1, p2]; clear p1 p2))
          go_ret
          exact ⟨rfl, hbw2⟩
        · have hpn9 : pn ≤ 3000 := by omega
          obtain ⟨A, hAe⟩ : ∃ A, answerZ vars (cs.map Cl.zs) (checkZ vars cs) (ls.map lnz) = A := ⟨_, rfl⟩
          have hle := fun W (hW : Below w.heap.size w W) => lent_walk pa pn pc ls W hpn (by omega) (fun j hj => ⟨by have := l2 j (by omega); omega, hpc j hj⟩) (hpz.below hW)
          have hprf := fun W (hW : Below w.heap.size w W) => proof_walk a n c cs vars pa pn pc ls W hn (by omega) hl' (hz.below hW) hpn (by omega) (fun j hj => by have := l2 j (by omega); omega) (hpz.below hW)
          rw [hAe] at hprf
          go_wp2_with (first | (go_at_call 9; refine hbg.mono ?_; rintro e w2 ⟨p1, hb2⟩; rw [p1]; clear p1; have hbw2 := hbw1.trans (hb2.mono hbw1.size); have c0 := (hb2.cell (p := ⟨w.heap.size, 0, none⟩) (cellLt c0)).trans c0; have c1 := (hb2.cell (p := ⟨w.heap.size, 1, none⟩) (cellLt c1)).trans c1) | (go_at_call 10; refine (hlg _ hbw2).mono ?_; rintro e w3 ⟨p1, p2⟩; rw [p1, p2]; clear p1 p2) | (go_at_call 11; refine (hle _ hbw2).mono ?_))
          rintro e w3 ⟨v, lf, rfl, hst, hmz, hb3⟩
          have hbw3 := hbw2.trans (hb3.mono hbw2.size)
          obtain ⟨fa, fc, rfl, hfl⟩ := hst.lines
          have hlf : lf.length = pn := by have := congrArg List.length hmz; rw [List.length_map, List.length_map] at this; omega
          have c0 := (hb3.cell (p := ⟨w.heap.size, 0, none⟩) (cellLt c0)).trans c0
          have c1 := (hb3.cell (p := ⟨w.heap.size, 1, none⟩) (cellLt c1)).trans c1
          have hlnz : ∀ j, j < pn → (lf.getD j default).gone = (ls.getD j default).gone ∧ (lf.getD j default).cl.zs = (ls.getD j default).cl.zs := fun j hj => by
            have := congrArg (fun l => l[j]?) hmz
            simp only [List.getElem?_map] at this
            rw [List.getElem?_eq_getElem (by omega), List.getElem?_eq_getElem (by omega)] at this
            rw [List.getD_eq_getElem?_getD, List.getD_eq_getElem?_getD, List.getElem?_eq_getElem (by omega), List.getElem?_eq_getElem (by omega)]
            have := Option.some.inj this
            exact ⟨congrArg Prod.fst this, congrArg Prod.snd this⟩
          have hck := checkC_walk add_law a n c cs vars fa pn fc lf w3 hn (by omega) hl' (hz.below hbw3) hlf (by omega) (fun j hj => by rw [(hlnz j hj).2]; have := l2 j (by omega); omega) hfl (fun v hv => ht v (hbw3.trans (hv.mono hbw3.size)))
          rw [hmz, hAe] at hck
          rw [hlf]
          clear hle hlg hbg
          go_wp2_with (go_at_call 12; refine hck.mono ?_; rintro e w4 ⟨p1, hb4⟩; rw [p1]; clear p1)
          have hst4 := hst.below hb4
          have hbw4 := hbw3.trans (hb4.mono hbw3.size)
          have c0 := (hb4.cell (p := ⟨w.heap.size, 0, none⟩) (cellLt c0)).trans c0
          have c1 := (hb4.cell (p := ⟨w.heap.size, 1, none⟩) (cellLt c1)).trans c1
          obtain ⟨fa', fc', e4, hfl4⟩ := hst4.lines
          rw [hlf] at e4
          cases e4
          clear hfl
          go_loopw [10] (fun iv wx => ∃ k : Nat, k ≤ pn ∧ iv = .int .i64 k ∧ Below w4.heap.size w4 wx) (fun iv _ => pn - (intOf iv).toNat)
          case atStart => exact ⟨0, Nat.zero_le _, rfl, Below.refl _ _⟩
          case round =>
            obtain ⟨k, hk, rfl, hbx⟩ := hrel
            have hbwr := hbw4.trans (hbx.mono hbw4.size)
            have d0 := (hbx.cell (p := ⟨w.heap.size, 0, none⟩) (cellLt c0)).trans c0
            have d1 := (hbx.cell (p := ⟨w.heap.size, 1, none⟩) (cellLt c1)).trans c1
            by_cases hlt : k < pn
            · obtain ⟨fb, foff, rfl, hfb, fg, fcl, fi⟩ := (hfl4.below hbx) k (by omega)
              obtain ⟨b, off, rfl, hb, pg, pcl, pi⟩ := (hpz.below hbwr) k (by omega)
              obtain ⟨xg, exg, h71, hxc⟩ := ((hst4.2 (lf.getD k default) (by rw [List.getD_eq_getElem?_getD, List.getElem?_eq_getElem (by omega)]; exact List.getElem_mem _)).below hbx).last
              obtain ⟨hgo, hzs⟩ := hlnz k hlt
              have hll := l2 k (by omega)
              obtain ⟨x, hx⟩ : ∃ x, lf.getD k default = x := ⟨_, rfl⟩
              obtain ⟨y, hy⟩ : ∃ x, ls.getD k default = x := ⟨_, rfl⟩
              rw [hx] at fg fcl fi exg h71 hxc hgo hzs
              rw [hy] at pg pcl pi hgo hzs hll
              rw [hgo] at fg
              rw [hzs] at fcl fi h71 hxc
              rw [exg] at fcl fi
              obtain ⟨gg, hgg⟩ : ∃ t, y.gone = t := ⟨_, rfl⟩
              obtain ⟨la, hla⟩ : ∃ t, y.cl.a = t := ⟨_, rfl⟩
              obtain ⟨lc, hlc⟩ : ∃ t, y.cl.c = t := ⟨_, rfl⟩
              obtain ⟨zl, hzl⟩ : ∃ t, y.cl.zs = t := ⟨_, rfl⟩
              obtain ⟨xc, hxcc⟩ : ∃ t, x.cl.c = t := ⟨_, rfl⟩
              obtain ⟨ln, hln⟩ : ∃ t, zl.length = t := ⟨_, rfl⟩
              rw [hgg] at fg pg
              rw [hla, hlc, hzl, hln] at pcl
              rw [hxcc, hzl, hln] at fcl
              rw [hzl] at fi
              rw [hla, hzl] at pi
              rw [hzl, hln] at h71 hll
              rw [hzl, hln, hxcc] at hxc
              clear hx hy hgo hzs exg hgg hla hlc hzl hxcc hfl4 hst4
              have hkI : (k : Int) < pn := by omega
              have hgb : (gg != gg) = false := by cases gg <;> rfl
              have hxI : (ln : Int) + 1 ≤ xc := by omega
              have hxN : ln + 1 ≤ xc := hxc
              have hlI : (0 : Int) ≤ (ln : Int) + 1 := by omega
              have hltI : (ln : Int) < (ln : Int) + 1 := by omega
              have hwrap : IntKind.i64.wrap ((ln : Int) + 1) = (ln : Int) + 1 := IntWalk.i64_in _ (by omega)
              have htoN : ((ln : Int) + 1).toNat = ln + 1 := by omega
              go_wp2
              go_quiet (fail)
              go_wp2
              obtain ⟨wo, hwo⟩ : ∃ x, x = wr := ⟨_, rfl⟩
              subst hwo
              go_loopw [12] (fun iv wy => ∃ q : Nat, q ≤ ln ∧ iv = .int .i64 q ∧ Below wo.heap.size wo wy) (fun iv _ => ln - (intOf iv).toNat)
              case atStart => exact ⟨0, Nat.zero_le _, rfl, below_drewN (Below.refl _ _) _⟩
              case round =>
                obtain ⟨q, hq, rfl, hby⟩ := hrel
                have fclY := (hby.cell (p := ⟨fb, foff + k * 2 + 1, none⟩) hfb).trans fcl
                have pclY := (hby.cell (p := ⟨b, off + k * 2 + 1, none⟩) hb).trans pcl
                by_cases hql : q < ln
                · obtain ⟨xb', xo', e5, hxb, hfy⟩ := fi q (by omega)
                  cases e5
                  obtain ⟨pb, po, rfl, hpb, hpy⟩ := pi q (by omega)
                  have hfy := (hby.cell (p := ⟨xg, 0 + q, none⟩) hxb).trans hfy
                  have hpy := (hby.cell (p := ⟨pb, po + q, none⟩) hpb).trans hpy
                  obtain ⟨y, hy⟩ : ∃ y, zl.getD q 0 = y := ⟨_, rfl⟩
                  rw [hy] at hfy hpy
                  rw [Nat.zero_add] at hfy
                  have hyy : (y != y) = false := by simp
                  have hqI : (q : Int) < ln := by omega
                  go_wp2
                  go_quiet (fail)
                  go_wp2
                  go_roundw
                  case rel => exact ⟨q + 1, hql, (by simp), below_drewN hby _⟩
                  case measure => simp [intOf]; omega
                · have e0 : ln = q := by omega
                  subst e0
                  go_wp2
                  go_roundw
                  case rel => exact ⟨k + 1, hlt, (by simp), hbx.trans (hby.mono hbx.size)⟩
                  case measure => simp [intOf]; omega
            · have e0 : pn = k := by omega
              subst e0
              have hpf := hprf _ hbwr
              obtain ⟨at', er⟩ := A
              have hee : (er == er) = true := by simp
              have haa : (at' == at') = true := by simp
              go_wp2_with (first | (go_at_call 13; refine hpf.mono ?_; rintro e w6 ⟨p1, hb6⟩; rw [p1]; clear p1) | (go_at_call 14; refine (num_walk er _).mono ?_; rintro e w7 ⟨p1, p2⟩; rw [p1, p2]; clear p1 p2))
              go_ret
              exact ⟨by first | rfl | (simp; done), hbwr.trans (hb6.mono hbwr.size)⟩
end Go.Proofs.YtagfnjpjmmleiaaDoor

/- Sat: the law of things and holes (SatHoles), walked. -/
import Derived.Test.YtkpppmldbhgcgaaScKtoScZ
import Derived.Deep.Cut
set_option linter.unusedVariables false
set_option linter.unusedSimpArgs false
set_option autoImplicit false
set_option linter.unusedVariables false
set_option linter.unusedSimpArgs false
namespace Go.Proofs.Ytkpppmldbhgcgaa
open Go Go.Shelf Go.RowKit
def thingsZ (n : Nat) (fits : Bool) : Nat := if fits then n else n + 1
/-- the formula's box -/
structure FB (fb base : Nat) (vars : Int) (v : Value) (w : World) : Prop where
  c0 : w.cell? ⟨fb, 0, none⟩ = some (.int .i64 vars)
  c1 : w.cell? ⟨fb, 1, none⟩ = some v
  f1 : w.frozen? ⟨fb, 1, none⟩ = false
  lt : fb < base
  size : base ≤ w.heap.size
theorem FB.below {fb base : Nat} {vars : Int} {v : Value} {w w' : World} (h : FB fb base vars v w) (hb : Below base w w') : FB fb base vars v w' :=
  ⟨(hb.cell (p := ⟨fb, 0, none⟩) h.lt).trans h.c0, (hb.cell (p := ⟨fb, 1, none⟩) h.lt).trans h.c1, (World.frozen?_of_block (a := ⟨fb, 1, none⟩) (hb.block fb h.lt)).trans h.f1, h.lt, Nat.le_trans h.size hb.size⟩
theorem FB.set {fb base : Nat} {vars : Int} {v : Value} {w : World} (h : FB fb base vars v w) (u : Value) : FB fb base vars u (w.setCell ⟨fb, 1, none⟩ u) :=
  ⟨by rw [World.cell?_setCell_other _ ⟨fb, 1, none⟩ ⟨fb, 0, none⟩ _ (by intro e; injection e with e1 e2; cases e2)]; exact h.c0, World.cell?_setCell_same _ _ _ h.c1, by rw [World.frozen?_setCell]; exact h.f1, h.lt, by rw [World.size_setCell]; exact h.size⟩
theorem lenB : ∀ n, n ≤ 3 → ∀ i, i ≤ 4 → ∀ k, k ≤ 3 → ∀ j, j ≤ 4 → (holes n i ++ mids n i k ++ pairs n i k j).length ≤ 200 := by decide +kernel
theorem holeB_spec {n t : Nat} {want : Int} (h : holeB n t want = true) : ∃ ans, solveK 100000 (t * n) (holes n t) 1000000 = some ans ∧ ans.what = want ∧ RightZ ((t * n : Nat) : Int) (holes n t) ans ∧ ans.model.length ≤ 1000000 ∧ ans.proof.length ≤ 1000000 ∧ ∀ p ∈ ans.proof, p.2.length ≤ 1000000 := by
  unfold holeB at h
  split at h
  · rename_i ans he
    simp only [Bool.and_eq_true, decide_eq_true_eq, List.all_eq_true] at h
    obtain ⟨⟨⟨⟨h1, h2⟩, h3⟩, h4⟩, h5⟩ := h
    exact ⟨ans, he, h1, rightB_sound h2, h3, h4, h5⟩
  · cases h
theorem hole_facts {n t : Nat} {fits : Bool} {want : Int} (h1 : 1 ≤ n) (h3 : n ≤ 3) (ht : thingsZ n fits = t) (hw : (if fits then 1 else 2) = want) : ∃ ans, solveK 100000 (t * n) (holes n t) 1000000 = some ans ∧ ans.what = want ∧ RightZ ((t * n : Nat) : Int) (holes n t) ans ∧ ans.model.length ≤ 1000000 ∧ ans.proof.length ≤ 1000000 ∧ ∀ p ∈ ans.proof, p.2.length ≤ 1000000 := by
  subst ht hw
  apply holeB_spec
  match n, h1, h3, fits with
  | 1, _, _, true => exact hole1
  | 1, _, _, false => exact hole1'
  | 2, _, _, true => exact hole2
  | 2, _, _, false => exact hole2'
  | 3, _, _, true => exact hole3
  | 3, _, _, false => exact hole3'
theorem boundB : ∀ n, n ≤ 3 → ∀ t, t ≤ 4 → ((holes n t).all fun c => decide (c.length ≤ 100) && c.all fun x => decide (x.natAbs ≤ 100)) = true := by decide +kernel
theorem checkB : checkL ((1 * 1 : Nat) : Int) (holes 1 1) = 0 ∧ checkL ((2 * 1 : Nat) : Int) (holes 1 2) = 0 ∧ checkL ((2 * 2 : Nat) : Int) (holes 2 2) = 0 ∧ checkL ((3 * 2 : Nat) : Int) (holes 2 3) = 0 ∧ checkL ((3 * 3 : Nat) : Int) (holes 3 3) = 0 ∧ checkL ((4 * 3 : Nat) : Int) (holes 3 4) = 0 := by decide +kernel
theorem hole_bounds {n t : Nat} {fits : Bool} (h1 : 1 ≤ n) (h3 : n ≤ 3) (ht : thingsZ n fits = t) : (∀ c ∈ holes n t, c.length ≤ 100) ∧ (∀ c ∈ holes n t, ∀ x ∈ c, x.natAbs ≤ 100) ∧ checkL ((t * n : Nat) : Int) (holes n t) = 0 := by
  have ht4 : t ≤ 4 := by rw [← ht]; unfold thingsZ; split <;> omega
  have hb := boundB n h3 t ht4
  rw [List.all_eq_true] at hb
  refine ⟨fun c hc => ?_, fun c hc x hx => ?_, ?_⟩
  · have := hb c hc
    simp only [Bool.and_eq_true, decide_eq_true_eq] at this
    exact this.1
  · have := hb c hc
    simp only [Bool.and_eq_true, decide_eq_true_eq, List.all_eq_true] at this
    exact this.2 x hx
  · subst ht
    obtain ⟨c1, c2, c3, c4, c5, c6⟩ := checkB
    match n, h1, h3, fits with
    | 1, _, _, true => exact c1
    | 1, _, _, false => exact c2
    | 2, _, _, true => exact c3
    | 2, _, _, false => exact c4
    | 3, _, _, true => exact c5
    | 3, _, _, false => exact c6
set_option maxHeartbeats 16000000 in
set_option maxRecDepth 1000000 in
theorem holes_walk (n0 : Int) (fits : Bool) (w : World) : Calls Try.prog 6 #[.int .i64 n0, .bool fits] w (AlOut w) := by
  have hal := alive_walk w
  obtain ⟨i3, hi3, hz30, hz31, hz32⟩ := info_parts' D.info33
  go_enter Try.func6, Try.ntmps6
  by_cases h1 : n0 < 1
  · go_wp2_with (go_at_call 8; refine hal.mono ?_; rintro e w1 ⟨p1, hb1⟩; rw [p1]; clear p1)
    go_ret
    exact ⟨rfl, hb1⟩
  by_cases h3 : 3 < n0
  · go_wp2_with (go_at_call 8; refine hal.mono ?_; rintro e w1 ⟨p1, hb1⟩; rw [p1]; clear p1)
    go_ret
    exact ⟨rfl, hb1⟩
  obtain ⟨n, rfl⟩ : ∃ n : Nat, n0 = n := ⟨n0.toNat, by omega⟩
  have hd1 : decide ((n : Int) < 1) = false := decide_eq_false h1
  have hd3 : decide ((3 : Int) < n) = false := decide_eq_false h3
  have hn1 : 1 ≤ n := by omega
  have hn3 : n ≤ 3 := by omega
  clear h1 h3
  obtain ⟨t, ht⟩ : ∃ t, thingsZ n fits = t := ⟨_, rfl⟩
  have ht4 : t ≤ 4 := by rw [← ht]; unfold thingsZ; split <;> omega
  obtain ⟨tn, htn⟩ : ∃ tn, t * n = tn := ⟨_, rfl⟩
  have htn2 : tn ≤ 12 := by rw [← htn]; exact Nat.mul_le_mul ht4 hn3
  have htnI : (t : Int) * (n : Int) = (tn : Int) := by rw [← htn]; exact (Int.natCast_mul t n).symm
  go_upto_region 5 with (go_at_call 8; refine hal.mono ?_; rintro e w1 ⟨p1, hb1⟩; rw [p1]; clear p1)
  clear hal hd1 hd3
  go_cut [29] from 30 (fun x wx => x = .bool fits ∧ wx = w1)
  case first =>
    go_wp2
    go_meet
    exact ⟨rfl, rfl⟩
  obtain ⟨rfl, e2⟩ := hcut
  have e2 := e2.symm
  subst e2
  rename_i K1 hK1 K2 hK2
  refine hK2 _ _ ?_
  clear hK2 K2
  go_cut [6] from 29 (fun x wx => x = .int .i64 t ∧ wx = w1)
  case first =>
    cases fits with
    | false =>
      have htc : (t : Int) = (n : Int) + 1 := by rw [← ht]; unfold thingsZ; simp
      go_wp2
      go_meet
      exact ⟨by rw [htc], rfl⟩
    | true =>
      have htc : t = n := by rw [← ht]; unfold thingsZ; simp
      go_wp2
      go_meet
      exact ⟨by rw [htc], rfl⟩
  obtain ⟨rfl, e2⟩ := hcut
  have e2 := e2.symm
  subst e2
  go_upto_region 8 with fail
  obtain ⟨fb, hfb⟩ : ∃ b, w1.heap.size = b := ⟨_, rfl⟩
  obtain ⟨W0, hW0⟩ : ∃ W, w1.alloc (.cells #[.int .i64 (tn : Int), .slice none 0 0] 24) = W := ⟨_, rfl⟩
  have hs0 : W0.heap.size = fb + 1 := by rw [← hW0, ← hfb]; show (w1.heap.push _).size = _; simp
  have hn0 : W0.heap[fb]? = some (.cells #[.int .i64 (tn : Int), .slice none 0 0] 24) := by rw [← hW0, ← hfb]; exact heap_new w1 _
  have hfB : FB fb (fb + 1) tn (.slice none 0 0) W0 := ⟨(block_cell hn0 0).1.trans rfl, (block_cell hn0 1).1.trans rfl, (block_cell hn0 1).2, by omega, by omega⟩
  have hb0 : Below w.heap.size w W0 := by rw [← hW0]; exact hb1.trans ((Below.refl w.heap.size w1).alloc hb1.size _)
  rw [hW0, hfb]
  have hsW : fb + 1 ≤ W0.heap.size := by omega
  have hwf0 : w.heap.size ≤ fb := by have := hb1.size; omega
  have hwf : w.heap.size ≤ fb + 1 := by have := hb1.size; omega
  clear hW0 hfb hs0 hn0 hb1
  go_wp2
  go_loopw [8] (fun iv wr => ∃ (i : Nat) (v : Value) (cs : List D.Cl), i ≤ t ∧ iv = .int .i64 i ∧ HSt (fb + 1) wr v (.slice none 0 0) cs [] ∧ cs.map D.Cl.zs = holes n i ∧ FB fb (fb + 1) tn v wr ∧ Below w.heap.size w wr) (fun iv _ => t - (intOf iv).toNat)
  case atStart => exact ⟨0, _, [], Nat.zero_le _, rfl, HSt.start _ _, rfl, hfB, hb0⟩
  case round =>
    clear hfB hb0 hsW
    obtain ⟨i, v, cs, hi, rfl, hst, hmap, hfb, hbw⟩ := hrel
    by_cases hit : i < t
    · have hitI : (i : Int) < t := by omega
      obtain ⟨p, hp⟩ : ∃ p, i * n = p := ⟨_, rfl⟩
      have hp12 : p ≤ 12 := by rw [← hp]; exact Nat.mul_le_mul (show i ≤ 4 by omega) hn3
      have hpI : (i : Int) * (n : Int) = (p : Int) := by rw [← hp]; exact (Int.natCast_mul i n).symm
      go_wp2
      go_loopw [9, 10] (fun cv kv wr => ∃ (k : Nat) (v : Value) (cs : List D.Cl), k ≤ n ∧ kv = .int .i64 k ∧ HSt (fb + 1) wr v cv cs (holeC n i k) ∧ cs.map D.Cl.zs = holes n i ++ mids n i k ∧ FB fb (fb + 1) tn v wr ∧ Below w.heap.size w wr) (fun _ kv _ => n - (intOf kv).toNat)
      case atStart => exact ⟨0, v, cs, Nat.zero_le _, rfl, hst, by rw [hmap]; simp [mids], hfb, hbw⟩
      case round =>
        clear hst hmap hfb hbw
        obtain ⟨k, v, cs, hk, rfl, hst, hmap, hfb, hbw⟩ := hrel
        by_cases hkn : k < n
        · have hknI : (k : Int) < n := by omega
          have hkn3 : k < 3 := by omega
          obtain ⟨x, hx⟩ : ∃ x : Int, (p : Int) + k + 1 = x := ⟨_, rfl⟩
          have hxb : 1 ≤ x ∧ x ≤ 100 := by omega
          have hxw : IntKind.i64.wrap ((p : Int) + k + 1) = x := by rw [hx]; simp [IntKind.wrap, IntKind.bits, IntKind.signed]; omega
          have hholes : holeC n i (k + 1) = holeC n i k ++ [x] := by rw [holeC_succ, hpI, hx]
          obtain ⟨hcur, hgr⟩ := hst.grow hfb.size x (W := wr.alloc (.cells #[.int .i64 x] 3)) rfl
          have hlen : (holeC n i k).length = k := by simp [holeC]
          rw [hlen] at hcur hgr
          have hnew := cell_new wr #[.int .i64 x] 3 (0, 0) 0
          have hsz := hfb.size
          obtain ⟨cv, hcv⟩ : ∃ x, x = u9 := ⟨_, rfl⟩
          subst hcv
          obtain ⟨i0, hi0, hz0, hz1, hz2⟩ := info_parts' info3
          clear hst
          go_wp2_with (first | (at_builtin; refine wpList_append_told _ rfl _ _ 40 rfl (fb + 1) 3 i0 (.int .i64 0) 1 8 Try.underlying40 hi0 hz0 hz1 hz2 rfl (by decide) _ _ _ rfl hcur ⟨wr.heap.size, 0, none⟩ 1 1 [.int .i64 x] rfl rfl ?c1 ?c2 (by decide) ?c3 ?c4 ?c5 ?_))
          case c1 =>
            intro j u hj
            match j, hj with
            | 0, hj =>
              simp at hj
              subst hj
              rw [add_plain']
              exact hnew
          case c2 => intro u hu; simp at hu; subst hu; rfl
          case c3 => unfold maxLen; omega
          case c4 => omega
          case c5 => exact Nat.le_trans hsz (by show _ ≤ (wr.heap.push _).size; simp)
          intro v' w3 hown hgrow g hg1 hg2
          obtain ⟨hst, hb3⟩ := hgr v' w3 hown hgrow ⟨g, hg1, hg2.imp id fun h => by show (wr.heap.push _).size ≤ g; simp; exact h⟩
          have hfb3 := hfb.below hb3
          have hbw3 := hbw.trans (hb3.mono hwf)
          rw [← hholes] at hst
          clear hcur hgr hnew hown hgrow hg1 hg2 hfb hbw
          go_wp2
          go_loopw [11] (fun jv wr => ∃ (j : Nat) (v : Value) (cs : List D.Cl), j ≤ i ∧ jv = .int .i64 j ∧ HSt (fb + 1) wr v v' cs (holeC n i (k + 1)) ∧ cs.map D.Cl.zs = holes n i ++ mids n i k ++ pairs n i k j ∧ FB fb (fb + 1) tn v wr ∧ Below w.heap.size w wr) (fun jv _ => i - (intOf jv).toNat)
          case atStart => exact ⟨0, v, cs, Nat.zero_le _, rfl, hst, by rw [hmap]; simp [pairs], hfb3, hbw3⟩
          case round =>
            clear hst hmap hfb3 hbw3 hb3
            obtain ⟨j, v, cs, hj, rfl, hst, hmap, hfb, hbw⟩ := hrel
            by_cases hji : j < i
            · -- [IN
              have hjiI : (j : Int) < i := by omega
              obtain ⟨p2, hp2⟩ : ∃ p2, j * n = p2 := ⟨_, rfl⟩
              have hp212 : p2 ≤ 12 := by rw [← hp2]; exact Nat.mul_le_mul (show j ≤ 4 by omega) hn3
              have hp2I : (j : Int) * (n : Int) = (p2 : Int) := by rw [← hp2]; exact (Int.natCast_mul j n).symm
              obtain ⟨y, hy⟩ : ∃ y : Int, (p2 : Int) + k + 1 = y := ⟨_, rfl⟩
              have hyb : 1 ≤ y ∧ y ≤ 100 := by omega
              have hyw : IntKind.i64.wrap ((p2 : Int) + k + 1) = y := by rw [hy]; simp [IntKind.wrap, IntKind.bits, IntKind.signed]; omega
              have hpair : pairs n i k (j + 1) = pairs n i k j ++ [[-x, -y]] := by rw [pairs_succ]; unfold pairZ; rw [hpI, hp2I, hx, hy]
              obtain ⟨hrow, hpt⟩ := hst.put hfb.size [-x, -y] (W := (wr.alloc (.cells #[.int .i64 (-x), .int .i64 (-y)] 3)).alloc (.cells #[.slice (some ⟨wr.heap.size, 0, none⟩) 2 2] 40)) rfl rfl (by show 2 ≤ 100; omega)
              have c1 := hfb.c1
              have f1 := hfb.f1
              have hsz := hfb.size
              have hfl := hfb.lt
              have hwz : (wr.alloc (.cells #[.int .i64 (-x), .int .i64 (-y)] 3)).heap.size = wr.heap.size + 1 := by show (wr.heap.push _).size = _; simp
              have hnew := cell_new (wr.alloc (.cells #[.int .i64 (-x), .int .i64 (-y)] 3)) #[.slice (some ⟨wr.heap.size, 0, none⟩) 2 2] 40 (0, 0) 0
              rw [hwz] at hnew
              have hlc : cs.length ≤ 200 := by
                have := congrArg List.length hmap
                rw [List.length_map] at this
                rw [this]
                exact lenB n hn3 i (by omega) k (by omega) j (by omega)
              clear hst hxw hyw
              go_wp2_with (first | (at_builtin; refine wpList_append_own _ rfl _ _ 22 rfl (fb + 1) 40 i3 (.slice none 0 0) 1 24 Try.underlying22 hi3 hz30 hz31 hz32 rfl (by decide) _ _ _ rfl hrow ⟨wr.heap.size + 1, 0, none⟩ 1 1 [.slice (some ⟨wr.heap.size, 0, none⟩) 2 2] rfl rfl ?c1 ?c2 ?c3 ?c4 ?c5 ?_))
              case c1 =>
                intro j u hj
                match j, hj with
                | 0, hj =>
                  simp at hj
                  subst hj
                  rw [add_plain']
                  exact hnew
              case c2 => intro u hu; simp at hu; subst hu; rfl
              case c3 => unfold maxLen; omega
              case c4 => omega
              case c5 => exact Nat.le_trans hsz (below2 wr _ _).size
              intro v2 w5 hown hgrow hnn
              obtain ⟨hst2, hb5⟩ := hpt v2 w5 hown hgrow
              have hfb5 := hfb.below hb5
              have hbw5 := hbw.trans (hb5.mono hwf)
              have hst3 := hst2.set (m := 1) hfl v2
              have hfb6 := hfb5.set v2
              have hbw6 : Below w.heap.size w (w5.setCell ⟨fb, 1, none⟩ v2) := hbw5.setCell (p := ⟨fb, 1, none⟩) (by show w.heap.size ≤ fb; omega) v2
              have hmap2 : (cs ++ [(⟨some ⟨wr.heap.size, 0, none⟩, 2, [-x, -y]⟩ : D.Cl)]).map D.Cl.zs = holes n i ++ mids n i k ++ pairs n i k (j + 1) := by rw [List.map_append, hmap, hpair, List.append_assoc (holes n i ++ mids n i k)]; rfl
              have d1 := hfb5.c1
              have d2 := hfb5.f1
              obtain ⟨a9, c9, e9, _⟩ := hst2.len
              generalize (cs ++ [(⟨some ⟨wr.heap.size, 0, none⟩, [-x, -y].length, [-x, -y]⟩ : D.Cl)]).length = N9 at e9
              subst e9
              have hG := Hid'.mk (And.intro hst3 (And.intro hmap2 (And.intro hfb6 hbw6)))
              clear hst2 hst3 hfb5 hfb6 hbw5 hbw6 hb5 hmap2 hown hgrow hnn hrow hpt hnew hmap hfb hbw hpair
              go_wp2
              obtain ⟨g1, g2, g3, g4⟩ := hG.h
              exact ⟨⟨j + 1, _, _, hji, by go_num, g1, g2, g3, g4⟩, by simp only [intOf]; omega⟩
              -- IN]
            · have hji2 : j = i := by omega
              subst hji2
              have hlt' : ¬ ((j : Int) < j) := by omega
              have hmid : cs.map D.Cl.zs = holes n j ++ mids n j (k + 1) := by rw [hmap, mids_succ, List.append_assoc]
              go_wp2
              exact ⟨⟨k + 1, v, cs, hkn, by go_num, hst, hmid, hfb, hbw⟩, by simp only [intOf]; omega⟩
        · -- [K
          have hkn2 : k = n := by omega
          subst hkn2
          have hlt' : ¬ ((k : Int) < k) := by omega
          have hlen : (holeC k i k).length = k := by simp [holeC]
          obtain ⟨a8, c8, e8⟩ : ∃ a c, u9 = .slice a k c := by
            rcases hst.cur.2 with ⟨e1, e2⟩ | ⟨g, cap, cur, e1, _⟩
            · exact ⟨none, 0, by rw [e1, ← hlen, e2]⟩
            · exact ⟨_, cap, by rw [e1, hlen]⟩
          subst e8
          obtain ⟨hrow, hpt⟩ := hst.done hfb.size (W := wr.alloc (.cells #[.slice a8 k c8] 40)) rfl (a := a8) (c := c8) (by rw [hlen])
          have c1 := hfb.c1
          have f1 := hfb.f1
          have hsz := hfb.size
          have hfl := hfb.lt
          have hnew := cell_new wr #[.slice a8 k c8] 40 (0, 0) 0
          have hlc : cs.length ≤ 200 := by
            have := congrArg List.length hmap
            rw [List.length_map] at this
            rw [this]
            have := lenB k hn3 i (by omega) k (by omega) 0 (by omega)
            simpa [pairs] using this
          have hone : ∀ u ∈ [Value.slice a8 k c8], u.oneCell' = true := by
            intro u hu
            rw [List.mem_singleton.1 hu]
            rfl
          have hend : ∀ v2 w5, w5.ownsRow (fb + 1) 40 1 v2 (cs.length + 1) (cs.map D.rowV ++ [.slice a8 k c8]) → (wr.alloc (.cells #[.slice a8 k c8] 40)).grownBy w5 v.ownBlock → (∃ a9 N9 c9, v2 = .slice a9 N9 c9) ∧ w5.cell? ⟨fb, 1, none⟩ = some v ∧ w5.frozen? ⟨fb, 1, none⟩ = false ∧ ∃ cs', HSt (fb + 1) (w5.setCell ⟨fb, 1, none⟩ v2) v2 (.slice none 0 0) cs' [] ∧ cs'.map D.Cl.zs = holes k (i + 1) ∧ FB fb (fb + 1) tn v2 (w5.setCell ⟨fb, 1, none⟩ v2) ∧ Below w.heap.size w (w5.setCell ⟨fb, 1, none⟩ v2) := by
            intro v2 w5 q1 q2
            obtain ⟨hst2, hb5⟩ := hpt v2 w5 q1 q2
            have hfb5 := hfb.below hb5
            have hbw5 := hbw.trans (hb5.mono hwf)
            obtain ⟨a9, c9, e9, _⟩ := hst2.len
            refine ⟨⟨a9, _, c9, e9⟩, hfb5.c1, hfb5.f1, _, hst2.set (m := 1) hfl v2, ?_, hfb5.set v2, hbw5.setCell (p := ⟨fb, 1, none⟩) (by show w.heap.size ≤ fb; omega) v2⟩
            rw [List.map_append, hmap, holes_succ, List.append_assoc]
            rfl
          have hH := Hid'.mk hend
          clear hend hst hpt hmap hfb hbw
          go_wp2_with (first | (at_builtin; refine wpList_append_own _ rfl _ _ 22 rfl (fb + 1) 40 i3 (.slice none 0 0) 1 24 Try.underlying22 hi3 hz30 hz31 hz32 rfl (by decide) _ _ _ rfl hrow ⟨wr.heap.size, 0, none⟩ 1 1 [.slice a8 k c8] rfl rfl ?c1 hone ?c3 ?c4 ?c5 ?_))
          case c3 => unfold maxLen; omega
          case c4 => omega
          case c5 => omega
          intro v2 w5 hown hgrow hnn
          obtain ⟨⟨a9, N9, c9, e9⟩, d1, d2, hrest⟩ := hH.h v2 w5 hown hgrow
          clear hH hown hgrow hnn hrow hnew hone
          subst e9
          have hG := Hid'.mk hrest
          clear hrest
          go_wp2
          obtain ⟨cs', g1, g2, g3, g4⟩ := hG.h
          exact ⟨⟨i + 1, _, cs', hit, by go_num, g1, g2, g3, g4⟩, by simp only [intOf]; omega⟩
          -- K]
    · -- [E
      have hit2 : i = t := by omega
      subst hit2
      have hlt' : ¬ ((i : Int) < i) := by omega
      obtain ⟨av, cvp, ev, _⟩ := hst.len
      have hrows := hst.rows' ev
      have c0 := hfb.c0
      have c1 := hfb.c1
      have f1 := hfb.f1
      rw [ev] at c1
      obtain ⟨N, hN⟩ : ∃ N, cs.length = N := ⟨_, rfl⟩
      rw [hN] at c1 ev
      obtain ⟨want, hwant⟩ : ∃ x : Int, (if fits then 1 else 2) = x := ⟨_, rfl⟩
      obtain ⟨ans, hsol, ha1, ha2, ha3, ha4, ha5⟩ := hole_facts hn1 hn3 ht hwant
      rw [htn] at hsol ha2
      obtain ⟨q1, q2, q3⟩ := hole_bounds hn1 hn3 ht
      rw [htn] at q3
      have hNl : N ≤ 200 := by
        have := congrArg List.length hmap
        rw [List.length_map, hN] at this
        rw [this]
        have := lenB n hn3 i (by omega) 0 (by omega) 0 (by omega)
        simpa [pairs, mids] using this
      have hcl : ∀ j, j < N → (cs.getD j default).zs ∈ holes n i := fun j hj => by
        rw [← hmap, List.getD_eq_getElem?_getD, List.getElem?_eq_getElem (by omega)]
        exact List.mem_map_of_mem (List.getElem_mem _)
      have hck : D.checkZ (tn : Int) cs = 0 := by rw [checkZ_eq, hmap]; exact q3
      rw [← hmap] at hsol ha2
      have hsw := solve_walk av N cvp cs tn 1000000 wr hN (by omega) (fun j hj => by have := q1 _ (hcl j hj); omega) (fun j hj x hx => by have := q2 _ (hcl j hj) x hx; omega) hrows hck (by omega) hsol
      have hsw2 := hsw.mono (R' := fun e w5 => ∃ (am : Option Addr) (cm : Nat) (pa : Option Addr) (pc : Nat) (lns : List D.Ln), e = .returned (.tuple #[.agg #[.int .i64 want, .slice am ans.model.length cm, .slice pa ans.proof.length pc], .int .i64 0]) ∧ Below w.heap.size w w5 ∧ D.Bools w5 am ans.model ∧ lns.map D.lnz = ans.proof ∧ D.Lines w5 pa lns ∧ D.Rows' w5 av cs ∧ w5.cell? ⟨fb, 0, none⟩ = some (.int .i64 tn) ∧ w5.cell? ⟨fb, 0 + 1, none⟩ = some (.slice av N cvp) ∧ fb < w5.heap.size) (by
        rintro e w5 ⟨mv, pv, p1, p2, p3, p4⟩
        obtain ⟨am, cm, e1, _, hB, _⟩ := bools_of p3 rfl
        obtain ⟨pa, pc, lns, e2, _, hlz, hL⟩ := lines_of p4
        subst e1 e2
        rw [ha1] at p1
        have h0 := hfb.lt
        have h1 := hfb.size
        have h2 := p2.size
        exact ⟨am, cm, pa, pc, lns, p1, hbw.trans (p2.mono hbw.size), hB, hlz, hL, hrows.below p2, (p2.cell (p := ⟨fb, 0, none⟩) (by show fb < _; omega)).trans c0, (p2.cell (p := ⟨fb, 0 + 1, none⟩) (by show fb < _; omega)).trans c1, by omega⟩)
      have hnum := fun x w => D.num_walk x w
      have hright : ∀ (w5 : World) (am : Option Addr) (cm : Nat) (pa : Option Addr) (pc : Nat) (lns : List D.Ln), Below w.heap.size w w5 → D.Bools w5 am ans.model → lns.map D.lnz = ans.proof → D.Lines w5 pa lns → D.Rows' w5 av cs → Calls Try.prog 13 #[.agg #[.int .i64 (tn : Int), .slice av N cvp], .agg #[.int .i64 want, .slice am ans.model.length cm, .slice pa ans.proof.length pc]] w5 (AlOut w) := by
        intro w5 am cm pa pc lns h1 h2 h3 h4 h5
        have hll : lns.length = ans.proof.length := by rw [← h3, List.length_map]
        have := right_walk av N cvp cs (tn : Int) w5 hN (by omega) (fun j hj => by have := q1 _ (hcl j hj); omega) h5 hck ans am ans.model.length cm rfl ha3 h2 pa ans.proof.length pc lns h3 hll ha4 h4 (fun j hj => by
          have hm : (lns.getD j default).cl.zs ∈ ans.proof.map (fun p => p.2) := by
            rw [← h3, List.map_map, List.getD_eq_getElem?_getD, List.getElem?_eq_getElem (by omega)]
            exact List.mem_map_of_mem (f := (fun p : Bool × List Int => p.2) ∘ D.lnz) (List.getElem_mem _)
          obtain ⟨p, hp, e⟩ := List.mem_map.1 hm
          rw [← e]
          exact ha5 p hp) ha2
        rw [ha1] at this
        refine this.mono ?_
        rintro e w6 ⟨p1, p2⟩
        exact ⟨p1, h1.trans (p2.mono h1.size)⟩
      have hcells := hsw2
      clear hsw hst hmap hcl q1 q2 q3 hsol hck hrows ev hN hbw hfb
      go_upto_region 22 with (go_at_call 10; refine hsw2.mono ?_; rintro e w5 ⟨am, cm, pa, pc, lns, p1, z1, z2, z3, z4, z5, z6, z7, z8⟩; rw [p1]; clear p1)
      have hr13 : ∀ (w6 : World), Below w5.heap.size w5 w6 → Calls Try.prog 13 #[.agg #[.int .i64 (tn : Int), .slice av N cvp], .agg #[.int .i64 want, .slice am ans.model.length cm, .slice pa ans.proof.length pc]] w6 (AlOut w) := fun w6 h6 => hright w6 am cm pa pc lns (z1.trans (h6.mono z1.size)) (z2.below h6) z3 (z4.below h6) (z5.below h6)
      have hbx := (Below.refl w5.heap.size w5).alloc (Nat.le_refl _) (.cells #[.int .i64 want, .slice am ans.model.length cm, .slice pa ans.proof.length pc] 30)
      have hr14 := hr13 _ hbx
      clear hr13 hright hbx z1 z2 z3 z4 z5 hsw2 hcells
      cases fits with
      | false =>
        have hw2 : want = 2 := by rw [← hwant]; rfl
        subst hw2
        go_wp2_with (first | (go_at_call 12; refine (hnum _ _).mono ?_; rintro e w6 ⟨p1, p2⟩; rw [p1, p2]; clear p1 p2) | (go_at_call 13; refine hr14.mono ?_; rintro e w7 ⟨p1, p2⟩; rw [p1]; clear p1))
        go_ret
        exact ⟨rfl, p2⟩
      | true =>
        have hw2 : want = 1 := by rw [← hwant]; rfl
        subst hw2
        go_wp2_with (first | (go_at_call 12; refine (hnum _ _).mono ?_; rintro e w6 ⟨p1, p2⟩; rw [p1, p2]; clear p1 p2) | (go_at_call 13; refine hr14.mono ?_; rintro e w7 ⟨p1, p2⟩; rw [p1]; clear p1))
        go_ret
        exact ⟨rfl, p2⟩
      -- E]
end Go.Proofs.Ytkpppmldbhgcgaa

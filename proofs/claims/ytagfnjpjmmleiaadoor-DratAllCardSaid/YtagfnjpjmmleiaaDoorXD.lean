/- Drat: the law of DratAll, walked. -/
import Derived.Test.YtagfnjpjmmleiaaDoorXC
import Derived.Test.YtagfnjpjmmleiaaDoorWB
import Derived.Test.YtagfnjpjmmleiaaDoorVB
import Derived.Deep.CutRange
import Derived.Deep.Onto
set_option linter.unusedVariables false
set_option linter.unusedSimpArgs false
set_option autoImplicit false
set_option linter.unusedVariables false
set_option linter.unusedSimpArgs false
namespace Go.Proofs.YtagfnjpjmmleiaaDoor
open Go.Shelf Go.RowKit
/-- a fact that the walk does not take as a rule -/
structure Hid (P : Prop) : Prop where
  h : P
theorem sh64 {k : Nat} (h : k ≤ 6) : wrap64 ((2 : Int) ^ k) = ((2 ^ k : Nat) : Int) ∧ 2 ^ k ≤ 64 := by
  match k, h with
  | 0, _ => exact ⟨by decide +kernel, by decide⟩
  | 1, _ => exact ⟨by decide +kernel, by decide⟩
  | 2, _ => exact ⟨by decide +kernel, by decide⟩
  | 3, _ => exact ⟨by decide +kernel, by decide⟩
  | 4, _ => exact ⟨by decide +kernel, by decide⟩
  | 5, _ => exact ⟨by decide +kernel, by decide⟩
  | 6, _ => exact ⟨by decide +kernel, by decide⟩
set_option maxHeartbeats 32000000 in
set_option maxRecDepth 1000000 in
theorem law6_walk (n0 want : Int) (w : World) (hw0 : -9223372036854775808 ≤ want) (hw1 : want ≤ 9223372036854775807) (ht : Tab w.heap.size w)
    (hal : ∀ W, Below w.heap.size w W → Calls Tryd.prog 8 #[] W (AlOut W)) :
    Calls Tryd.prog 6 #[.int .i64 n0, .int .i64 want] w (AlOut w) := by
  obtain ⟨i3, hi3, hz30, hz31, hz32⟩ := info_parts info33
  obtain ⟨i5, hi5, hz50, hz51, hz52⟩ := info_parts info35
  have hal0 := hal _ (Below.refl _ _)
  go_enter Tryd.func6, Tryd.ntmps6
  by_cases h1 : n0 < 1
  · go_wp2_with (go_at_call 8; refine hal0.mono ?_; rintro e w1 ⟨p1, hb1⟩; rw [p1]; clear p1)
    go_ret
    exact ⟨rfl, hb1⟩
  · by_cases h6 : 6 < n0
    · go_wp2_with (go_at_call 8; refine hal0.mono ?_; rintro e w1 ⟨p1, hb1⟩; rw [p1]; clear p1)
      go_ret
      exact ⟨rfl, hb1⟩
    · by_cases h0 : want < 0
      · go_wp2_with (go_at_call 8; refine hal0.mono ?_; rintro e w1 ⟨p1, hb1⟩; rw [p1]; clear p1)
        go_ret
        exact ⟨rfl, hb1⟩
      · obtain ⟨n, rfl⟩ : ∃ n : Nat, n0 = n := ⟨n0.toNat, by omega⟩
        have hn1 : 1 ≤ n := by omega
        have hn6 : n ≤ 6 := by omega
        have hd1 : decide ((n : Int) < 1) = false := decide_eq_false h1
        have hd6 : decide ((6 : Int) < n) = false := decide_eq_false h6
        have hd0 : decide (want < 0) = false := decide_eq_false h0
        have hwant : 0 ≤ want := by omega
        clear h1 h6 h0
        go_wp2_with (go_at_call 8; refine hal0.mono ?_; rintro e w1 ⟨p1, hb1⟩; rw [p1]; clear p1)
        obtain ⟨W0, hW0⟩ : ∃ W, w1.alloc (.cells #[.int .i64 (n : Int), .slice none 0 0] 24) = W := ⟨_, rfl⟩
        rw [hW0]
        have hWs : w1.heap.size < W0.heap.size := by rw [← hW0]; simp
        have hbW : Below w1.heap.size w1 W0 := by rw [← hW0]; exact (Below.refl _ _).alloc (Nat.le_refl _) _
        have hB0 : Below w.heap.size w W0 := hb1.trans (hbW.mono hb1.size)
        have f0 : W0.cell? ⟨w1.heap.size, 0, none⟩ = some (.int .i64 (n : Int)) := by rw [← hW0]; exact (cell_new ..).trans rfl
        have f1 : W0.cell? ⟨w1.heap.size, 1, none⟩ = some (.slice none 0 0) := by rw [← hW0]; exact (cell_new ..).trans rfl
        have f2 : W0.frozen? ⟨w1.heap.size, 1, none⟩ = false := by
          rw [← hW0]
          have := heap_alloc_new w1 (.cells #[.int .i64 (n : Int), .slice none 0 0] 24)
          unfold World.frozen?
          rw [this]
          rfl
        clear hW0 hd1 hd6 hd0
        have hfbw : w.heap.size ≤ w1.heap.size := hb1.size
        obtain ⟨hsh, hN6⟩ := sh64 hn6
        obtain ⟨N, hN⟩ : ∃ N, 2 ^ n = N := ⟨_, rfl⟩
        rw [hN] at hsh hN6
        obtain ⟨fb, hfb⟩ : ∃ b, w1.heap.size = b := ⟨_, rfl⟩
        rw [hfb] at hWs f0 f1 f2 hfbw ⊢
        go_loopw [7] (fun iv wr => ∃ (i : Nat) (v : Value) (cs : List Cl), i ≤ N ∧ iv = .int .i64 i ∧ CState wr W0.heap.size v cs ∧ cs.map Cl.zs = (List.range i).map (clauseZ n) ∧ Below w.heap.size w wr ∧ W0.heap.size ≤ wr.heap.size ∧ wr.cell? ⟨fb, 0, none⟩ = some (.int .i64 (n : Int)) ∧ wr.cell? ⟨fb, 1, none⟩ = some v ∧ wr.frozen? ⟨fb, 1, none⟩ = false) (fun iv _ => N - (intOf iv).toNat)
        case atStart => exact ⟨0, _, [], Nat.zero_le _, rfl, ⟨World.ownsRow_nil _ _ _ _, fun c hc => by cases hc⟩, rfl, hB0, Nat.le_refl _, f0, f1, f2⟩
        case round =>
          clear f0 f1 f2
          obtain ⟨i, v, cs, hi, rfl, hcs, hmz, hbw, hsz, f0, f1, f2⟩ := hrel
          by_cases hlt : i < N
          · have hltI : (i : Int) < N := by omega
            have hcl := fun W => clause_walk n i W hn6 (by omega)
            have hb1 : Below wr.heap.size wr wr.drew := below_drewN (Below.refl _ _) 1
            have hfbW : fb < wr.heap.size := by omega
            have hS : ∀ W, Below wr.heap.size wr W → W.cell? ⟨fb, 1, none⟩ = some v ∧ W.frozen? ⟨fb, 1, none⟩ = false := fun W hW => ⟨(hW.cell (p := ⟨fb, 1, none⟩) hfbW).trans f1, (World.frozen?_of_block (a := ⟨fb, 1, none⟩) (hW.block fb hfbW)).trans f2⟩
            have hlen : cs.length = i := by have := congrArg List.length hmz; simpa using this
            obtain ⟨hcs1, hcs2⟩ := hcs
            have hcs1' : wr.ownsRow W0.heap.size 33 1 v i (cs.map rowV) := by
              have h := hcs1
              unfold OwnCl at h
              rw [hlen] at h; exact h
            have hform : ∀ {W : World} {v5 : Value} {zs : List Int}, W.ownsRow wr.heap.size 3 1 v5 n (intC zs) → ∃ g c, v5 = .slice (some ⟨g, 0, none⟩) n c := fun {W v5 zs} h => by
              obtain ⟨g, c, e, _, _⟩ := World.ownsRow.form h (by omega)
              exact ⟨g, c, e⟩
            have oneA : ∀ (g c : Nat), ∀ u ∈ [Value.slice (some ⟨g, 0, none⟩) n c], u.oneCell' = true := fun g c u hu => by simp at hu; subst hu; rfl
            have hnewsA : ∀ (W : World) (g c : Nat), ∀ j u, [Value.slice (some ⟨g, 0, none⟩) n c][j]? = some u → (W.alloc (.cells #[.slice (some ⟨g, 0, none⟩) n c] 33)).cell? ((⟨W.heap.size, 0, none⟩ : Addr).add j) = some u := fun W g c j u hu => by
              match j, hu with
              | 0, hu =>
                rw [add_plain]
                exact (cell_new W _ _ _ 0).trans hu
            have hm1 : i + 1 ≤ maxLen := by unfold maxLen; omega
            have hb1' : (i + 1) * 24 ≤ 140737488355328 := by omega
            have hfin : ∀ (g c : Nat) (w5 : World) (gg cap : Nat) (w7 : World), w5.ownsRow wr.heap.size 3 1 (.slice (some ⟨g, 0, none⟩) n c) n (intC (clauseZ n i)) → Below wr.heap.size wr w5 → w7.ownsRow W0.heap.size 33 1 (.slice (some ⟨gg, 0, none⟩) (i + 1) cap) (i + 1) (cs.map rowV ++ [.slice (some ⟨g, 0, none⟩) n c]) → (w5.alloc (.cells #[.slice (some ⟨g, 0, none⟩) n c] 33)).grownBy w7 v.ownBlock →
                CState (w7.setCell ⟨fb, 1, none⟩ (.slice (some ⟨gg, 0, none⟩) (i + 1) cap)) W0.heap.size (.slice (some ⟨gg, 0, none⟩) (i + 1) cap) (cs ++ [⟨some ⟨g, 0, none⟩, c, clauseZ n i⟩]) ∧ (cs ++ [(⟨some ⟨g, 0, none⟩, c, clauseZ n i⟩ : Cl)]).map Cl.zs = (List.range (i + 1)).map (clauseZ n) ∧ Below w.heap.size w (w7.setCell ⟨fb, 1, none⟩ (.slice (some ⟨gg, 0, none⟩) (i + 1) cap)) ∧ W0.heap.size ≤ w7.heap.size ∧ (w7.setCell ⟨fb, 1, none⟩ (.slice (some ⟨gg, 0, none⟩) (i + 1) cap)).cell? ⟨fb, 0, none⟩ = some (.int .i64 (n : Int)) ∧ (w7.setCell ⟨fb, 1, none⟩ (.slice (some ⟨gg, 0, none⟩) (i + 1) cap)).cell? ⟨fb, 1, none⟩ = some (.slice (some ⟨gg, 0, none⟩) (i + 1) cap) ∧ (w7.setCell ⟨fb, 1, none⟩ (.slice (some ⟨gg, 0, none⟩) (i + 1) cap)).frozen? ⟨fb, 1, none⟩ = false ∧ (w7.cell? ⟨fb, 1, none⟩ = some v ∧ w7.frozen? ⟨fb, 1, none⟩ = false) := by
              intro g c w5 gg cap w7 q1 q2 q3 q4
              have bX := (Below.refl w5.heap.size w5).alloc (Nat.le_refl _) (.cells #[.slice (some ⟨g, 0, none⟩) n c] 33)
              have hvX := own_below (own_below hcs1' q2) bX
              have hclen : (clauseZ n i).length = n := by simp [clauseZ]
              have hblk : w7.heap[fb]? = wr.heap[fb]? := by
                refine (q4.block fb (by have := q2.size; simp; omega) fun e => ?_).trans ((bX.block fb (by have := q2.size; omega)).trans (q2.block fb hfbW))
                have := (hcs1'.lt fb e.symm).1
                omega
              have k0 : w7.cell? ⟨fb, 0, none⟩ = some (.int .i64 (n : Int)) := (World.cell?_of_block (a := ⟨fb, 0, none⟩) hblk).trans f0
              have k1 : w7.cell? ⟨fb, 1, none⟩ = some v := (World.cell?_of_block (a := ⟨fb, 1, none⟩) hblk).trans f1
              have k2 : w7.frozen? ⟨fb, 1, none⟩ = false := (World.frozen?_of_block (a := ⟨fb, 1, none⟩) hblk).trans f2
              have hz7 : W0.heap.size ≤ w7.heap.size := Nat.le_trans hsz (Nat.le_trans q2.size (Nat.le_trans bX.size q4.size))
              refine ⟨⟨own_setCell ?_ hWs _, fun x hx => own_setCell ?_ hWs _⟩, ?_, ?_, hz7, ?_, ?_, ?_, k1, k2⟩
              · rw [List.length_append, hlen, List.map_append, List.map_singleton, show rowV ⟨some ⟨g, 0, none⟩, c, clauseZ n i⟩ = .slice (some ⟨g, 0, none⟩) n c by unfold rowV; rw [hclen]]
                exact q3
              · rcases List.mem_append.1 hx with h | h
                · exact own_grown (own_below (own_below (hcs2 x h) q2) bX) hvX (by decide) q4
                · rw [List.mem_singleton.1 h]
                  refine own_grown (own_below (World.ownsRow.mono ?_ hsz) bX) hvX (by decide) q4
                  unfold rowV
                  rw [hclen]
                  exact q1
              · rw [List.map_append, hmz, List.range_succ, List.map_append]; rfl
              · refine Below.setCell ((hbw.trans ((q2.trans (bX.mono q2.size)).mono hbw.size)).grown q4 (by have := hbw.size; have := q2.size; simp; omega) fun g hg => ?_) hfbw _
                have := (hcs1'.lt g hg).1
                have := hB0.size
                omega
              · rw [World.cell?_setCell_other _ ⟨fb, 1, none⟩ ⟨fb, 0, none⟩ _ (by intro e; injection e with e1 e2; cases e2)]; exact k0
              · exact World.cell?_setCell_same _ _ _ k1
              · rw [World.frozen?_setCell]; exact k2
            go_wp2_with fail
            have fd1 := (hS _ hb1).1
            have fd2 := (hS _ hb1).2
            go_region_law (first | (refine step_append_lies _ (by rfl) _ _ _ (by rfl) W0.heap.size 33 i3 _ 1 24 Tryd.underlying22 hi3 hz30 hz31 hz32 rfl (by decide) v _ _ (by rfl) ((own_below hcs1' hb5).alloc _) ⟨w5.heap.size, 0, none⟩ 1 1 [.slice (some ⟨g5, 0, none⟩) n c5] (by rfl) (by rfl) (hnewsA w5 _ _) (oneA _ _) (by decide) hm1 hb1' (Nat.le_trans hsz (hb5.alloc hb5.size _).size) _ rfl ?_; intro gg cap w7 ho7 hg7 hat7 hlt7; have hE := hfin g5 c5 w5 gg cap w7 ho5 hb5 ho7 hg7; obtain ⟨fe1, fe2⟩ := hE.2.2.2.2.2.2.2) | (go_simp; go_at_call 20; refine (hcl _).mono ?_; rintro e w5 ⟨v5, rfl, ho5, hb5'⟩; have hb5 := hb1.trans (hb5'.mono hb1.size); obtain ⟨g5, c5, rfl⟩ := hform ho5; have fd3 := (hS _ hb5).1; have fd4 := (hS _ (hb5.alloc hb5.size (.cells #[.slice (some ⟨g5, 0, none⟩) n c5] 33))).1))
            all_goals (go_wp2_with fail)
            all_goals go_roundw
            all_goals first
              | exact ⟨i + 1, _, _, hlt, (by simp), hE.1, hE.2.1, hE.2.2.1, (by rw [World.size_setCell]; exact hE.2.2.2.1), hE.2.2.2.2.1, hE.2.2.2.2.2.1, hE.2.2.2.2.2.2.1⟩
              | (simp [intOf]; omega)
          · have e0 : i = N := by omega
            subst e0
            obtain ⟨va, vc, hva, _, _, _⟩ := hcs.1.form
            have hclN : cs.length = i := by have := congrArg List.length hmz; simpa using this
            rw [hclN] at hva
            have hmz' : cs.map Cl.zs = lvl n := by unfold lvl; rw [hN]; exact hmz
            rw [hva] at f1
            obtain ⟨wF, hwF⟩ : ∃ x, x = wr := ⟨_, rfl⟩
            subst hwF
            go_wp2
            clear hsh
            go_loopw [8, 9] (fun pv kv wx => ∃ (r : Nat) (z : Int) (ls : List Ln), r ≤ n ∧ kv = .int .i64 z ∧ z = (r : Int) - 1 ∧ DState wx wF.heap.size pv ls ∧ ls.map lnz ++ (pl r).map (fun c => (false, c)) = (pl n).map (fun c => (false, c)) ∧ Below wF.heap.size wF wx) (fun _ kv _ => (intOf kv + 1).toNat)
            case atStart => exact ⟨n, _, [], Nat.le_refl _, rfl, rfl, ⟨World.ownsRow_nil _ _ _ _, fun x hx => by cases hx⟩, by simp, Below.refl _ _⟩
            case round =>
              obtain ⟨r, z, ls, hr, rfl, hz, hds, hpl, hbx⟩ := hrel
              cases r with
              | zero =>
                obtain rfl : z = -1 := by omega
                clear hz
                have hmap : ls.map lnz = (pl n).map (fun c => (false, c)) := by rw [← hpl]; simp [pl]
                obtain ⟨pa, pc, hpv, hpc', hlin, hpa0, hpg⟩ := hds.lines
                obtain ⟨L, hL⟩ : ∃ L, ls.length = L := ⟨_, rfl⟩
                have hLp : L = (pl n).length := by rw [← hL]; have := congrArg List.length hmap; simpa using this
                obtain ⟨q1, q2, q3, q4⟩ := pl_len hn6
                have hL0 : 0 < L := by
                  rw [hLp]
                  obtain ⟨m, rfl⟩ : ∃ m, n = m + 1 := ⟨n - 1, by omega⟩
                  exact List.length_pos_iff.2 (List.ne_nil_of_mem (pl_nil m))
                have hL63 : L ≤ 63 := by omega
                rw [hL] at hpv hpc'
                obtain ⟨g, hga⟩ : ∃ g, pa = some ⟨g, 0, none⟩ := by
                  cases pa with
                  | none => have := hpa0 rfl; omega
                  | some ad => obtain ⟨g, rfl, _⟩ := hpg ad rfl; exact ⟨g, rfl⟩
                subst hga
                obtain ⟨g', hg', hgb, hgs, hgc⟩ := hpg _ rfl
                cases hg'
                clear hpa0 hpg
                have hbw2 : Below w.heap.size w wr := hbw.trans (hbx.mono hbw.size)
                have hcs2 := hcs.below hbx
                have hrows := hcs2.rows hva
                have fbl : fb < wF.heap.size := Nat.lt_of_lt_of_le hWs hsz
                have e0 := (hbx.cell (p := ⟨fb, 0, none⟩) fbl).trans f0
                have e1 := (hbx.cell (p := ⟨fb, 1, none⟩) fbl).trans f1
                have hcl6 : ∀ j, j < i → (cs.getD j default).zs.length ≤ 1000000000 := fun j hj => by
                  have hm : (cs.getD j default).zs ∈ lvl n := by
                    rw [← hmz', List.getD_eq_getElem?_getD, List.getElem?_eq_getElem (by omega)]
                    exact List.mem_map_of_mem (List.getElem_mem _)
                  have := q4 _ hm
                  omega
                have hls6 : ∀ j, j < L → (ls.getD j default).cl.zs.length ≤ 400000000 := fun j hj => by
                  have hm : (false, (ls.getD j default).cl.zs) ∈ (pl n).map (fun c => (false, c)) := by
                    rw [← hmap]
                    refine List.mem_map.2 ⟨ls.getD j default, by rw [List.getD_eq_getElem?_getD, List.getElem?_eq_getElem (by omega)]; exact List.getElem_mem _, ?_⟩
                    have : lnz (ls.getD j default) ∈ (pl n).map (fun c => (false, c)) := by
                      rw [← hmap]
                      exact List.mem_map_of_mem (by rw [List.getD_eq_getElem?_getD, List.getElem?_eq_getElem (by omega)]; exact List.getElem_mem _)
                    obtain ⟨c, _, e⟩ := List.mem_map.1 this
                    have e2 : false = (ls.getD j default).gone := congrArg Prod.fst e
                    unfold lnz
                    rw [← e2]
                  obtain ⟨c, hc, e⟩ := List.mem_map.1 hm
                  have e2 : c = (ls.getD j default).cl.zs := congrArg Prod.snd e
                  have := q3 c hc
                  rw [← e2]
                  omega
                have hck := checkC_walk add_law va i vc cs (n : Int) (some ⟨g, 0, none⟩) L pc ls wr hclN (by omega) hcl6 hrows hL (by omega) (fun j hj => by have := hls6 j hj; omega) hlin (ht.grow hbw2)
                rw [hmap, all_answer hn1 hn6 hmz'] at hck
                rw [hpv]
                have HM : Hid (ls.map lnz = (pl n).map (fun c => (false, c))) := ⟨hmap⟩
                have HC : Hid (cs.map Cl.zs = lvl n) := ⟨hmz'⟩
                have HL : Hid (∀ j, j < L → (ls.getD j default).cl.zs.length ≤ 400000000) := ⟨hls6⟩
                have HZ : Hid (∀ j, j < i → (cs.getD j default).zs.length ≤ 1000000000) := ⟨hcl6⟩
                clear hN hmz hLp q1 q2 q3 q4 hmap hmz' hpl hcl6 hls6
                go_upto_region 20 with (first | (go_at_call 12; refine hck.mono ?_; rintro e w3 ⟨p1, hb3⟩; rw [p1]; clear p1; have e0 := (hb3.cell (p := ⟨fb, 0, none⟩) (cellLt e0)).trans e0; have e1 := (hb3.cell (p := ⟨fb, 1, none⟩) (cellLt e1)).trans e1) | (go_at_call 14; refine (num_walk 0 _).mono ?_; rintro e w4 ⟨p1, p2⟩; rw [p1, p2]; clear p1 p2))
                have hL0I : ¬ (L : Int) = 0 := by omega
                have hL0B : ((L : Int) == 0) = false := beq_false_of_ne hL0I
                have hLp' : (0 : Int) < L := by omega
                have hr1 : 0 ≤ want.tmod (L : Int) := Int.tmod_nonneg _ hwant
                have hr2 : want.tmod (L : Int) < L := Int.tmod_lt_of_pos _ hLp'
                obtain ⟨kk, hkk⟩ : ∃ kk : Nat, want.tmod (L : Int) = kk := ⟨(want.tmod (L : Int)).toNat, by omega⟩
                have hkL : kk < L := by omega
                clear hr1 hr2 hck
                go_upto_region 21 with (fail)
                go_upto_region 22 with (fail)
                have hds3 := hds.below hb3
                have hgs3 : g < w3.heap.size := Nat.lt_of_lt_of_le hgs hb3.size
                have hb1 : Below w3.heap.size w3 w3.drew := below_drewN (Below.refl _ _) 1
                have hgcW : ∀ W, Below w3.heap.size w3 W → ∀ q u, (ls.flatMap lnV)[q]? = some u → W.cell? ⟨g, q, none⟩ = some u := fun W hW q u hu => (hW.cell (p := ⟨g, q, none⟩) hgs3).trans ((hb3.cell (p := ⟨g, q, none⟩) hgs).trans (hgc q u hu))
                have hnA : ∀ W, Below w3.heap.size w3 W → ∀ q u, ((ls.take kk).flatMap lnV)[q]? = some u → W.cell? ((⟨g, 0, none⟩ : Addr).add q) = some u := fun W hW q u hu => by
                  rw [flat_take, List.getElem?_take] at hu
                  split at hu
                  · rw [add_plain, Nat.zero_add]; exact hgcW W hW q u hu
                  · cases hu
                have hnB : ∀ W, Below w3.heap.size w3 W → ∀ q u, ((ls.drop (kk + 1)).flatMap lnV)[q]? = some u → W.cell? ((⟨g, (kk + 1) * 2, none⟩ : Addr).add q) = some u := fun W hW q u hu => by
                  rw [flat_drop, List.getElem?_drop] at hu
                  rw [add_plain]; exact hgcW W hW _ u hu
                have lenA : ((ls.take kk).flatMap lnV).length = kk * 2 := by rw [flat_len, List.length_take]; omega
                have lenB : ((ls.drop (kk + 1)).flatMap lnV).length = (L - (kk + 1)) * 2 := by rw [flat_len, List.length_drop, hL]
                have oneA := flat_one (ls.take kk)
                have oneB := flat_one (ls.drop (kk + 1))
                have hmA : 0 + kk ≤ maxLen := by unfold maxLen; omega
                have hbA : (0 + kk) * 32 ≤ 140737488355328 := by omega
                have hmB : 0 + kk + (L - (kk + 1)) ≤ maxLen := by unfold maxLen; omega
                have hbB : (0 + kk + (L - (kk + 1))) * 32 ≤ 140737488355328 := by omega
                have hx1 : ((kk : Int) + 1) ≤ L := by omega
                have hx2 : kk + 1 ≤ L := by omega
                have hx3 : (L : Int) ≤ pc := by omega
                have hx4 : IntKind.i64.wrap ((kk : Int) + 1) = (kk : Int) + 1 := IntWalk.i64_in _ (by omega)
                have hx5 : (0 : Int) ≤ (kk : Int) + 1 := by omega
                have hx6 : ((kk : Int) + 1).toNat = kk + 1 := by omega
                have hx7 : (kk : Int) ≤ pc := by omega
                have hx8 : (0 : Int) ≤ (kk : Int) := by omega
                have hx9 : kk ≤ pc := by omega
                have hlen6 : (ls.take kk ++ ls.drop (kk + 1)).length = 0 + kk + (L - (kk + 1)) := by rw [List.length_append, List.length_take, List.length_drop]; omega
                have hend : ∀ v6 w6, w6.ownsRow w3.heap.size 35 2 v6 (0 + kk + (L - (kk + 1))) (([] ++ (ls.take kk).flatMap lnV) ++ (ls.drop (kk + 1)).flatMap lnV) → Below w3.heap.size w3 w6 → DState w6 wF.heap.size v6 (ls.take kk ++ ls.drop (kk + 1)) ∧ Below w3.heap.size w3 w6 := fun v6 w6 h1 h2 => by
                  refine ⟨⟨?_, fun x hx => own_below (hds3.2 x ?_) h2⟩, h2⟩
                  · rw [hlen6, List.flatMap_append]
                    exact World.ownsRow.mono h1 (Nat.le_trans hbx.size hb3.size)
                  · rcases List.mem_append.1 hx with h | h
                    · exact List.mem_of_mem_take h
                    · exact List.mem_of_mem_drop h
                clear hr hgc hlin hrows hcs2
                go_wp2_with fail
                go_cut [13] from 87 to 96 (fun lv wx => DState wx wF.heap.size lv (ls.take kk ++ ls.drop (kk + 1)) ∧ Below w3.heap.size w3 wx)
                case first =>
                  rcases Nat.lt_or_ge (kk + 1) pc with hjv | hjv
                  · have hjvI : (kk : Int) + 1 < pc := by omega
                    have hjvN : ¬ pc = kk + 1 := by omega
                    have hjvN2 : ¬ kk + 1 = pc := by omega
                    have hjvN3 : ¬ pc - (kk + 1) = 0 := by omega
                    go_region_held3 (fun w' => True) (exact trivial) (first | (refine step_append_own (by rfl) _ _ _ (by rfl) w3.heap.size 35 i5 _ 2 32 Tryd.underlying25 hi5 hz50 hz51 hz52 rfl (by decide) (.slice none 0 0) 0 [] (by rfl) (World.ownsRow_nil _ _ _ _) ⟨g, 0, none⟩ kk _ ((ls.take kk).flatMap lnV) (by rfl) lenA (hnA _ hb1) oneA hmA hbA (Nat.le_refl _) ?_; intro v5 w5 ho5 hg5; have hb5 := hb1.grown hg5 (Nat.le_refl _) (fun g hg => by cases hg)) | (refine step_append_own (by rfl) _ _ _ (by rfl) w3.heap.size 35 i5 _ 2 32 Tryd.underlying25 hi5 hz50 hz51 hz52 rfl (by decide) v5 (0 + kk) ([] ++ (ls.take kk).flatMap lnV) (by rfl) ho5 ⟨g, (kk + 1) * 2, none⟩ (L - (kk + 1)) _ ((ls.drop (kk + 1)).flatMap lnV) (by rfl) lenB (hnB _ hb5) oneB hmB hbB hb5.size ?_; intro v6 w6 ho6 hg6))
                    all_goals (go_wp2_with fail)
                    all_goals go_meet
                    all_goals exact hend _ _ ho6 (hb5.grown hg6 hb5.size (fun g hg => (ho5.lt g hg).1))
                  · obtain rfl : pc = kk + 1 := by omega
                    obtain rfl : L = kk + 1 := by omega
                    have hq1 : (kk : Int) ≤ (kk : Int) + 1 := by omega
                    have hq2 : kk ≤ kk + 1 := by omega
                    have hlast : ∀ v6 (w6 : World), w6.ownsRow w3.heap.size 35 2 v6 (0 + kk + 0) (([] ++ (ls.take kk).flatMap lnV) ++ []) → w6.ownsRow w3.heap.size 35 2 v6 (0 + kk + (kk + 1 - (kk + 1))) (([] ++ (ls.take kk).flatMap lnV) ++ (ls.drop (kk + 1)).flatMap lnV) := fun v6 w6 h => by
                      have e : ls.drop (kk + 1) = [] := List.drop_of_length_le (by omega)
                      rw [e, Nat.sub_self]
                      exact h
                    go_region_held3 (fun w' => True) (exact trivial) (first | (refine step_append_own (by rfl) _ _ _ (by rfl) w3.heap.size 35 i5 _ 2 32 Tryd.underlying25 hi5 hz50 hz51 hz52 rfl (by decide) (.slice none 0 0) 0 [] (by rfl) (World.ownsRow_nil _ _ _ _) ⟨g, 0, none⟩ kk _ ((ls.take kk).flatMap lnV) (by rfl) lenA (hnA _ hb1) oneA hmA hbA (Nat.le_refl _) ?_; intro v5 w5 ho5 hg5; have hb5 := hb1.grown hg5 (Nat.le_refl _) (fun g hg => by cases hg)) | (refine step_append_own (by rfl) _ _ _ (by rfl) w3.heap.size 35 i5 _ 2 32 Tryd.underlying25 hi5 hz50 hz51 hz52 rfl (by decide) v5 (0 + kk) ([] ++ (ls.take kk).flatMap lnV) (by rfl) ho5 _ 0 _ [] (by rfl) rfl (fun i u hu => by simp at hu) (fun u hu => by cases hu) hmA hbA hb5.size ?_; intro v6 w6 ho6 hg6))
                    all_goals (go_wp2_with fail)
                    all_goals go_meet
                    all_goals exact hend _ _ (hlast _ _ ho6) (hb5.grown hg6 hb5.size (fun g hg => (ho5.lt g hg).1))
                case rest =>
                  obtain ⟨hd7, hb7⟩ := hcut
                  clear hnA hnB lenA lenB oneA oneB hmA hbA hmB hbB hx1 hx2 hx3 hx4 hx5 hx6 hx7 hx8 hx9 hend hgcW hds3 hL0I hL0B hLp'
                  have hbw3 : Below w.heap.size w w3 := hbw2.trans (hb3.mono hbw2.size)
                  have hbwc := hbw3.trans (hb7.mono hbw3.size)
                  have hmem : ∀ x ∈ ls.take kk ++ ls.drop (kk + 1), x.cl.zs.length ≤ 400000000 := fun x hx => by
                    have hx' : x ∈ ls := by
                      rcases List.mem_append.1 hx with h | h
                      · exact List.mem_of_mem_take h
                      · exact List.mem_of_mem_drop h
                    obtain ⟨j, hj, e⟩ := List.getElem_of_mem hx'
                    have := HL.h j (by omega)
                    rw [List.getD_eq_getElem?_getD, List.getElem?_eq_getElem hj] at this
                    rw [← e]; exact this
                  obtain ⟨qa, qc, rfl, hqc, hql, _, _⟩ := hd7.lines
                  obtain ⟨lr, hlr⟩ : ∃ l, ls.take kk ++ ls.drop (kk + 1) = l := ⟨_, rfl⟩
                  rw [hlr] at hmem hqc hql hlen6 hd7 ⊢
                  obtain ⟨m, hm⟩ : ∃ m, lr.length = m := ⟨_, rfl⟩
                  rw [hm] at hqc hlen6 ⊢
                  have hm63 : m ≤ 63 := by omega
                  have hlr4 : ∀ j, j < m → (lr.getD j default).cl.zs.length ≤ 400000000 := fun j hj => hmem _ (by rw [List.getD_eq_getElem?_getD, List.getElem?_eq_getElem (by omega)]; exact List.getElem_mem _)
                  have hrowsc := ((hcs.below hbx).below hb3).below hb7 |>.rows hva
                  have fb3 : fb < w3.heap.size := cellLt e0
                  have e0 := (hb7.cell (p := ⟨fb, 0, none⟩) fb3).trans e0
                  have e1 := (hb7.cell (p := ⟨fb, 1, none⟩) fb3).trans e1
                  have hck := checkC_walk add_law va i vc cs (n : Int) qa m qc lr wc hclN (by omega) HZ.h hrowsc hm (by omega) (fun j hj => by have := hlr4 j hj; omega) hql (ht.grow hbwc)
                  have hpf := fun W (hW : Below wc.heap.size wc W) => proof_walk va i vc cs (n : Int) qa m qc lr W hclN (by omega) HZ.h (hrowsc.below hW) hm (by omega) hlr4 (hql.below hW)
                  obtain ⟨A, hA⟩ : ∃ A, answerZ (n : Int) (cs.map Cl.zs) (checkZ (n : Int) cs) (lr.map lnz) = A := ⟨_, rfl⟩
                  rw [hA] at hck hpf
                  obtain ⟨at', er⟩ := A
                  have hee : (er == er) = true := by simp
                  have HF : Hid (∀ W, Below wc.heap.size wc W → Calls Tryd.prog 13 #[.agg #[.int .i64 (n : Int), .slice va i vc], .slice qa m qc] W (ChkOut (at', er) W)) := ⟨hpf⟩
                  clear hA hlr hmem hlr4 hql hd7 hrowsc hm hlen6 hkk hkL hqc hpf
                  go_wp2_with (first | (go_at_call 12; refine hck.mono ?_; rintro e w5 ⟨p1, hb5⟩; rw [p1]; clear p1; have e0 := (hb5.cell (p := ⟨fb, 0, none⟩) (cellLt e0)).trans e0; have e1 := (hb5.cell (p := ⟨fb, 1, none⟩) (cellLt e1)).trans e1) | (go_at_call 13; refine (HF.h _ hb5).mono ?_; rintro e w6 ⟨p1, hb6⟩; rw [p1]; clear p1) | (go_at_call 14; refine (num_walk er _).mono ?_; rintro e w7 ⟨p1, p2⟩; rw [p1, p2]; clear p1 p2))
                  go_ret
                  exact ⟨by first | rfl | (simp; done), hbwc.trans ((hb5.trans (hb6.mono hb5.size)).mono hbwc.size)⟩
              | succ k =>
                obtain rfl : z = (k : Int) := by omega
                clear hz
                have hk6 : k ≤ 6 := by omega
                obtain ⟨hsh2, hM6⟩ := sh64 hk6
                obtain ⟨M, hM⟩ : ∃ M, 2 ^ k = M := ⟨_, rfl⟩
                rw [hM] at hsh2 hM6
                have hk0 : (0 : Int) ≤ k := by omega
                go_wp2
                go_loopw [8, 10] (fun pv iv wy => ∃ (i : Nat) (ls' : List Ln), i ≤ M ∧ iv = .int .i64 i ∧ DState wy wF.heap.size pv ls' ∧ ls'.map lnz = ls.map lnz ++ ((lvl k).take i).map (fun c => (false, c)) ∧ Below wF.heap.size wF wy) (fun _ iv _ => M - (intOf iv).toNat)
                case atStart => exact ⟨0, ls, Nat.zero_le _, rfl, hds, by simp, hbx⟩
                case round =>
                  obtain ⟨i, ls', hi, rfl, hds', hls', hby⟩ := hrel
                  obtain ⟨pv, hpv⟩ : ∃ x, x = u8 := ⟨_, rfl⟩
                  subst hpv
                  have hlvl : (lvl k).length = M := by unfold lvl; rw [List.length_map, List.length_range, hM]
                  by_cases hlt2 : i < M
                  · have hltI : (i : Int) < M := Int.ofNat_lt.2 hlt2
                    have hcl := clause_walk k i wr hk6 (Nat.lt_of_lt_of_le hlt2 hM6)
                    have htk : (lvl k).take (i + 1) = (lvl k).take i ++ [clauseZ k i] := by
                      rw [List.take_add_one, List.getElem?_eq_getElem (by rw [hlvl]; exact hlt2)]
                      simp [lvl]
                    go_wp2_with (go_at_call 20; refine hcl.mono ?_)
                    rintro e w5 ⟨v5, rfl, ho5, hb5⟩
                    clear hsh2
                    obtain ⟨a5, c5, rfl, hzl, _, _⟩ := owns_ints ho5
                    have hds5 := hds'.below hb5
                    have hls9 : ls'.length ≤ 63 + 64 := by
                      have e1 := congrArg List.length hls'
                      have e2 := congrArg List.length hpl
                      simp only [List.length_map, List.length_append, List.length_take] at e1 e2
                      have := (pl_len hn6).1
                      omega
                    go_wp2_with (first | (at_builtin; refine wpList_append_own _ rfl _ _ 25 rfl wF.heap.size 35 i5 (.agg #[.bool false, .slice none 0 0]) 2 32 Tryd.underlying25 hi5 hz50 hz51 hz52 rfl (by decide) _ _ _ rfl (hds5.1.alloc _) ⟨w5.heap.size, 0, none⟩ 1 1 [.bool false, .slice a5 k c5] rfl rfl ?c1 ?c2 ?c3 ?c4 ?c5 ?_))
                    case c1 =>
                      intro q u hq
                      rw [add_plain, Nat.zero_add]
                      match q, hq with
                      | 0, hq => exact (cell_new w5 _ _ _ 0).trans hq
                      | 1, hq => exact (cell_new w5 _ _ _ 1).trans hq
                      | q + 2, hq => simp at hq
                    case c2 => intro u hu; simp at hu; rcases hu with rfl | rfl <;> rfl
                    case c3 => unfold maxLen; omega
                    case c4 => omega
                    case c5 => have := hby.size; have := hb5.size; simp; omega
                    intro v6 w6 ho6 hg6 _
                    have bX := (Below.refl w5.heap.size w5).alloc (Nat.le_refl _) (.cells #[.bool false, .slice a5 k c5] 35)
                    have hdX := hds5.below bX
                    have hst6 : DState w6 wF.heap.size v6 (ls' ++ [⟨false, ⟨a5, c5, clauseZ k i⟩⟩]) := by
                      refine ⟨?_, fun x hx => ?_⟩
                      · rw [List.length_append, List.flatMap_append, show [(⟨false, ⟨a5, c5, clauseZ k i⟩⟩ : Ln)].flatMap lnV = [.bool false, .slice a5 k c5] by simp [lnV, clauseZ]]
                        exact ho6
                      · rcases List.mem_append.1 hx with h | h
                        · exact own_grown (hdX.2 x h) hdX.1 (by decide) hg6
                        · rw [List.mem_singleton.1 h]
                          refine own_grown (own_below (World.ownsRow.mono ?_ hby.size) bX) hdX.1 (by decide) hg6
                          show w5.ownsRow wr.heap.size 3 1 (rowV ⟨a5, c5, clauseZ k i⟩) (clauseZ k i).length (intC (clauseZ k i))
                          unfold rowV
                          rw [hzl]
                          exact ho5
                    have hb6 : Below wF.heap.size wF w6 := (hby.trans ((hb5.trans (bX.mono hb5.size)).mono hby.size)).grown hg6 (by have := hby.size; have := hb5.size; simp; omega) fun g hg => (hdX.1.lt g hg).1
                    clear ho6 hg6
                    go_wp2
                    go_roundw
                    case rel => exact ⟨i + 1, _, hlt2, (by simp), hst6, (by rw [htk, List.map_append, List.map_append, hls', List.append_assoc]; rfl), hb6⟩
                    case measure => simp [intOf]; omega
                  · have e1 : i = M := Nat.le_antisymm hi (Nat.le_of_not_lt hlt2)
                    have hpl' : ls'.map lnz ++ (pl k).map (fun c => (false, c)) = (pl n).map (fun c => (false, c)) := by
                      rw [← hpl, hls', e1, ← hlvl, List.take_length]
                      simp [pl]
                    subst e1
                    go_wp2
                    go_roundw
                    case rel => exact ⟨k, _, ls', (by clear hsh2; omega), rfl, (by clear hsh2; omega), hds', hpl', hby⟩
                    case measure => clear hsh2; first | (simp [intOf]; done) | (simp [intOf]; omega)
end Go.Proofs.YtagfnjpjmmleiaaDoor

/- Kind: do a system's wires fit? as the program asks (Fits), walked. -/
import Derived.Test.YtdgnafjllokioaaGreatDoorKP
set_option linter.unusedVariables false
set_option linter.unusedSimpArgs false
set_option autoImplicit false
set_option linter.unusedVariables false
set_option linter.unusedSimpArgs false
namespace Go.Proofs.YtdgnafjllokioaaGreatDoor
open Go.Proofs Go
open Go.RowKit Kb
set_option maxHeartbeats 8000000 in
set_option maxRecDepth 1000000 in
theorem fits_walk (d : SA) (y : Sy) (gn nn im : Nat) (w : World) (hy : Kb.Good y) (hgn : y.gates.length = gn) (hnn : y.now.length = nn) (him : y.ins.length = im) (hg9 : gn ≤ 1000) (hn9 : nn ≤ 100) (hi9 : im ≤ 100) (hsys : SysAt w d y) :
    Calls Tryz.prog 15 #[.agg (sysC d gn nn im y.ok y.asm)] w fun e w' => e = .returned (.bool true) ∧ Below w.heap.size w w' := by
  obtain ⟨s, hs⟩ : ∃ s, w.heap.size = s := ⟨_, rfl⟩
  obtain ⟨W1, hW1⟩ : ∃ W, w.alloc (.cells (sysC d gn nn im y.ok y.asm) 28) = W := ⟨_, rfl⟩
  have hb0 : Below s w W1 := by rw [← hW1, ← hs]; exact (Below.refl w.heap.size w).alloc (Nat.le_refl _) _
  have hsb : SB s d gn nn im y.ok y.asm W1 := by rw [← hW1, ← hs]; exact sb_new ..
  have hsysW : ∀ W, Below s w W → SysAt W d y := fun W hb => hsys.below (hs ▸ hb)
  have hxn : y.next.length = nn := by rw [hy.nx, hnn]
  have hbn : y.init.length = nn := by rw [hy.it, hnn]
  have hchk := (gatesCheck_walk d.ga gn d.gc y.gates W1 hgn (by omega) (hsysW W1 hb0).g).mono (R' := fun e w' => e = .returned (.int .i64 0) ∧ Below W1.heap.size W1 w') (fun e w' ⟨v, p1, p2, p3⟩ => ⟨by rw [p1, p2.2 hy.net], p3⟩)
  obtain ⟨ok, hok⟩ : ∃ x, y.ok = x := ⟨_, rfl⟩
  obtain ⟨asm, hasm⟩ : ∃ x, y.asm = x := ⟨_, rfl⟩
  rw [hok, hasm] at hW1 hsb ⊢
  rw [hs]
  have hmm := @run_makeMap Tryz.prog
  obtain ⟨c0, c1, c2, c3, c4, c5, c6, hlt⟩ := hsb
  unfold sysC at hW1 ⊢
  go_enter Tryz.func15, Tryz.ntmps15
  go_upto_region 3 with (first | (go_at_call 34; refine hchk.mono ?_; rintro e W2 ⟨p1, hb2⟩; rw [p1]; clear p1; replace c0 := cell_b hb2 c0; replace c1 := cell_b hb2 c1; replace c2 := cell_b hb2 c2; replace c3 := cell_b hb2 c3; replace c4 := cell_b hb2 c4; replace c5 := cell_b hb2 c5; replace c6 := cell_b hb2 c6; replace hb0 := hb0.trans (hb2.mono (Nat.le_of_lt hlt)); replace hlt := Nat.lt_of_lt_of_le hlt hb2.size))
  clear hchk hs hW1 hb2
  have hsb : SB s d gn nn im ok asm W2 := ⟨c0, c1, c2, c3, c4, c5, c6, hlt⟩
  obtain ⟨A0, hA0⟩ : ∃ n, W2.heap.size = n := ⟨_, rfl⟩
  obtain ⟨W3, hW3⟩ : ∃ W, (W2.alloc (.cells #[.int .i64 ok, .int .i64 asm] 3)).alloc (.cells #[.slice d.xa nn d.xc, .slice (some ⟨A0, 0, none⟩) 2 2] 25) = W := ⟨_, rfl⟩
  have hb3 : Below A0 W2 W3 := by rw [← hW3, ← hA0]; exact below2 _ _ _
  have hsA : s < A0 := by rw [← hA0]; exact hlt
  have hsz1 : (W2.alloc (.cells #[.int .i64 ok, .int .i64 asm] 3)).heap.size = A0 + 1 := by rw [← hA0]; show (W2.heap.push _).size = _; simp
  have hsb3 : SB s d gn nn im ok asm W3 := hsb.below hsA hb3
  have hb03 : Below s w W3 := hb0.trans (hb3.mono (Nat.le_of_lt hsA))
  have hrows : ∀ k, k < 2 → ∃ ra rl rc L, W3.cell? ⟨A0 + 1, k, none⟩ = some (.slice ra rl rc) ∧ rl ≤ 100 ∧ Ints W3 ra L ∧ L.length = rl ∧ ∀ x ∈ L, wOK gn x := fun k hk => by
    have hc : ∀ j, W3.cell? ⟨A0 + 1, j, none⟩ = (#[Value.slice d.xa nn d.xc, .slice (some ⟨A0, 0, none⟩) 2 2] : Array Value)[j]? := fun j => by rw [← hW3, ← hsz1]; exact cell_new ..
    match k, hk with
    | 0, _ => exact ⟨d.xa, nn, d.xc, y.next, (hc 0).trans rfl, hn9, (hsysW W3 hb03).x, hxn, fun x hx => hgn ▸ hy.wires x (List.mem_append_left _ hx)⟩
    | 1, _ =>
      refine ⟨some ⟨A0, 0, none⟩, 2, 2, [ok, asm], (hc 1).trans rfl, by omega, fun j hj => ⟨A0, 0, rfl, by rw [← hW3, ← hA0]; show _ < ((W2.heap.push _).push _).size; simp; omega, ?_⟩, rfl, fun x hx => by rw [← hgn, ← hok, ← hasm] at *; exact hy.wires x (List.mem_append_right _ hx)⟩
      have e : W3.cell? ⟨A0, 0 + j, none⟩ = (#[Value.int .i64 ok, .int .i64 asm] : Array Value)[0 + j]? := by
        rw [← hW3]
        refine ((Below.refl _ _).alloc (Nat.le_refl _) _ |> fun h : Below _ _ _ => h.cell (p := ⟨A0, 0 + j, none⟩) (by show A0 < _; omega)).trans ?_
        rw [← hA0]
        exact cell_new ..
      rw [e, Nat.zero_add]
      match j, hj with
      | 0, _ => rfl
      | 1, _ => rfl
  go_upto_region 5 with fail
  clear c0 c1 c2 c3 c4 c5 c6
  clear hW3 hsz1 hb0 hb3 hsb hA0
  go_wp2
  go_loopw [50] (fun i wr => ∃ k : Nat, k ≤ 2 ∧ i = .int .i64 k ∧ wr = W3) (fun i _ => 2 - (intOf i).toNat)
  case atStart => exact ⟨0, Nat.zero_le _, rfl, rfl⟩
  case round =>
    obtain ⟨k, hk, rfl, hwr⟩ := hrel
    subst hwr
    by_cases hlt2 : k < 2
    · have hltI : (k : Int) < 2 := by omega
      obtain ⟨ra, rl, rc, L, hc, hrl, hLz, hLl, hLok⟩ := hrows k hlt2
      clear hrows
      go_wp2
      go_loopw [56] (fun j wr' => ∃ q : Nat, q ≤ rl ∧ j = .int .i64 q ∧ wr' = wr) (fun j _ => rl - (intOf j).toNat)
      case atStart => exact ⟨0, Nat.zero_le _, rfl, rfl⟩
      case round =>
        obtain ⟨q, hq, rfl, hwr'⟩ := hrel
        subst hwr'
        by_cases hltq : q < rl
        · have hltqI : (q : Int) < rl := by omega
          obtain ⟨xb, xo, rfl, hxb, x0⟩ := hLz q (by omega)
          have hx : wOK gn (L.getD q 0) := hLok _ (by rw [List.getD_eq_getElem?_getD, List.getElem?_eq_getElem (by omega)]; exact List.getElem_mem _)
          obtain ⟨x, hxe⟩ : ∃ x, L.getD q 0 = x := ⟨_, rfl⟩
          rw [hxe] at x0 hx
          obtain ⟨x1, x2⟩ := hx
          have x1n : ¬ x < 0 := by omega
          have x2n : ¬ x ≥ 2 * (gn : Int) := by omega
          clear hLz hLok hxe
          go_wp2
          go_roundw
          case rel => exact ⟨q + 1, hltq, by go_num, by trivial⟩
          case measure => simp only [intOf]; omega
        · have hlt' : ¬ (q : Int) < rl := by omega
          go_wp2
          go_roundw
          case rel => exact ⟨k + 1, hlt2, by go_num, by trivial⟩
          case measure => simp only [intOf]; omega
    · have hlt' : ¬ (k : Int) < 2 := by omega
      clear hrows
      obtain ⟨mb, hmb⟩ : ∃ n, wr.heap.size = n := ⟨_, rfl⟩
      obtain ⟨W5, hW5⟩ : ∃ W, (wr.alloc (.map #[] 0)).alloc (.cells #[.slice d.na nn d.nc, .slice d.ia im d.ic] 25) = W := ⟨_, rfl⟩
      have hsz4 : (wr.alloc (.map #[] 0)).heap.size = mb + 1 := by rw [← hmb]; show (wr.heap.push _).size = _; simp
      have hsz5 : W5.heap.size = mb + 2 := by rw [← hW5, ← hmb]; show ((wr.heap.push _).push _).size = _; simp
      have hb5 : Below mb wr W5 := by rw [← hW5, ← hmb]; exact below2 _ _ _
      have hms : MapS mb 0 [] W5 := by
        rw [← hW5, ← hmb]
        exact (MapS.new wr).below (by show wr.heap.size < wr.heap.size + 1; omega) ((Below.refl (wr.heap.size + 1) _).alloc (by rw [hsz4]; omega) _)
      have hsmb : s < mb := by rw [← hmb]; exact hsb3.lt
      obtain ⟨M, hM⟩ : ∃ M, y.now ++ y.ins = M := ⟨_, rfl⟩
      have hMl : M.length = nn + im := by rw [← hM, List.length_append, hnn, him]
      have hMnd : M.Nodup := hM ▸ hy.nd
      have hMw : ∀ x ∈ M, wOK gn x ∧ x % 2 = 0 ∧ opZ y.gates (x / 2).toNat = 2 := fun x hx => hgn ▸ hy.inw x (hM ▸ hx)
      have hrow2 : ∀ k, k < 2 → ∃ ra rl rc, W5.cell? ⟨mb + 1, k, none⟩ = some (.slice ra rl rc) ∧ rl ≤ 100 ∧ offB nn im k + rl = offB nn im (k + 1) ∧ offB nn im (k + 1) ≤ nn + im ∧ ∀ q, q < rl → ∃ b o, ra = some ⟨b, o, none⟩ ∧ b < mb ∧ W5.cell? ⟨b, o + q, none⟩ = some (.int .i64 (M.getD (offB nn im k + q) 0)) := fun k hk => by
        have hc : ∀ j, W5.cell? ⟨mb + 1, j, none⟩ = (#[Value.slice d.na nn d.nc, .slice d.ia im d.ic] : Array Value)[j]? := fun j => by rw [← hW5, ← hsz4]; exact cell_new ..
        have hS := hsysW wr hb03
        match k, hk with
        | 0, _ =>
          refine ⟨d.na, nn, d.nc, (hc 0).trans rfl, hn9, by show 0 + nn = nn; omega, by show nn ≤ _; omega, fun q hq => ?_⟩
          obtain ⟨b, o, e1, e2, e3⟩ := hS.n q (by omega)
          refine ⟨b, o, e1, hmb ▸ e2, ?_⟩
          rw [hb5.cell (p := ⟨b, o + q, none⟩) (by show b < mb; omega), e3, ← hM]
          show some (Value.int .i64 (y.now.getD q 0)) = some (.int .i64 ((y.now ++ y.ins).getD (0 + q) 0))
          rw [Nat.zero_add, List.getD_eq_getElem?_getD, List.getD_eq_getElem?_getD, List.getElem?_append_left (by omega)]
        | 1, _ =>
          refine ⟨d.ia, im, d.ic, (hc 1).trans rfl, hi9, by show nn + im = nn + im; rfl, by show nn + im ≤ _; omega, fun q hq => ?_⟩
          obtain ⟨b, o, e1, e2, e3⟩ := hS.i q (by omega)
          refine ⟨b, o, e1, hmb ▸ e2, ?_⟩
          rw [hb5.cell (p := ⟨b, o + q, none⟩) (by show b < mb; omega), e3, ← hM]
          show some (Value.int .i64 (y.ins.getD q 0)) = some (.int .i64 ((y.now ++ y.ins).getD (nn + q) 0))
          rw [List.getD_eq_getElem?_getD, List.getD_eq_getElem?_getD, List.getElem?_append_right (by omega), show nn + q - y.now.length = q by omega]
      have hsb5 : SB s d gn nn im ok asm W5 := hsb3.below hsmb hb5
      have hb05 : Below s w W5 := hb03.trans (hb5.mono (Nat.le_of_lt hsmb))
      obtain ⟨c0, c1, c2, c3, _, _, _, _⟩ := hsb3
      replace c1 : ∀ o, (wr.alloc o).cell? ⟨s, 1, none⟩ = some (.slice d.na nn d.nc) := fun o => cell_b ((Below.refl _ _).alloc (Nat.le_refl _) o) c1
      replace c3 : ∀ o, (wr.alloc o).cell? ⟨s, 3, none⟩ = some (.slice d.ia im d.ic) := fun o => cell_b ((Below.refl _ _).alloc (Nat.le_refl _) o) c3
      have hcov : ∀ i, i < gn → opZ y.gates i = 2 → (2 * (i : Int)) ∈ M := fun i hi ho => hM ▸ hy.cover (by omega) ho
      clear hM
      go_upto_region 16 with fail
      clear hW5 hsz4 hb5 hmb c0 c1 c2 c3 hb03 hmm
      have hg0 : W5.grownBy W5 (some mb) := World.grownBy.refl _ _
      have hcat : ∀ W, W5.grownBy W (some mb) → Below s w W ∧ W.cell? ⟨s, 0, none⟩ = some (.slice d.ga gn d.gc) := fun W hg => ⟨hb05.trans (below_of_grown hg (Nat.le_of_lt hsmb) (by omega)), hg.cell hsb5.c0 (by intro e; injection e with e; have e : s = mb := e; omega)⟩
      go_wp2
      go_loopw [77] (fun i wr => ∃ k : Nat, k ≤ 2 ∧ i = .int .i64 k ∧ MapS mb (offB nn im k) (M.take (offB nn im k)) wr ∧ W5.grownBy wr (some mb)) (fun i _ => 2 - (intOf i).toNat)
      case atStart => exact ⟨0, Nat.zero_le _, rfl, hms, hg0⟩
      case round =>
        clear hms hg0
        obtain ⟨k, hk, rfl, hms, hg⟩ := hrel
        by_cases hlt2 : k < 2
        · have hltI : (k : Int) < 2 := by omega
          obtain ⟨ra, rl, rc, hc, hrl, hof, hof2, hcells⟩ := hrow2 k hlt2
          obtain ⟨O, hO⟩ : ∃ O, offB nn im k = O := ⟨_, rfl⟩
          rw [hO] at hms hof hcells
          have hc' : wr.cell? ⟨mb + 1, k, none⟩ = some (.slice ra rl rc) := hg.cell hc (by intro e; injection e with e; have e : mb + 1 = mb := e; omega)
          clear hc hO hrow2
          go_wp2
          go_loopw [83] (fun j wr => ∃ q : Nat, q ≤ rl ∧ j = .int .i64 q ∧ MapS mb (O + q) (M.take (O + q)) wr ∧ W5.grownBy wr (some mb)) (fun j _ => rl - (intOf j).toNat)
          case atStart => exact ⟨0, Nat.zero_le _, rfl, hms, hg⟩
          case round =>
            clear hms hg hc'
            obtain ⟨q, hq, rfl, hms, hg⟩ := hrel
            by_cases hltq : q < rl
            · have hltqI : (q : Int) < rl := by omega
              obtain ⟨xb, xo, rfl, hxb, x0⟩ := hcells q hltq
              replace x0 := hg.cell x0 (by intro e; injection e with e; have e : xb = mb := e; omega)
              obtain ⟨hbw, c0⟩ := hcat wr hg
              have hMl2 : O + q < M.length := by omega
              obtain ⟨hx, hev, hop⟩ := hMw (M.getD (O + q) 0) (by rw [List.getD_eq_getElem?_getD, List.getElem?_eq_getElem hMl2]; exact List.getElem_mem _)
              have hfr := nodup_fresh hMnd hMl2
              have htk := take_snoc hMl2
              obtain ⟨x, hxe⟩ : ∃ x, M.getD (O + q) 0 = x := ⟨_, rfl⟩
              rw [hxe] at x0 hx hev hop hfr htk
              obtain ⟨m, hm, hxm, hd⟩ := wire_div hx
              rw [hd] at hop
              rcases hxm with rfl | rfl
              case inr => exact absurd hev (by omega)
              obtain ⟨gb, go, hga, hgb, g0, _, _⟩ := (hsysW wr hbw).g m (by omega)
              rw [hga] at c0
              clear hga
              rw [hop] at g0
              have e1 : (2 * (m : Int)).tmod 2 = 0 := by rw [Int.tmod_eq_emod_of_nonneg (by omega)]; omega
              have e2 : (2 * (m : Int)).tdiv 2 = m := by rw [Int.tdiv_eq_ediv_of_nonneg (by omega)]; omega
              have hlook := hms.look (x := 2 * (m : Int)) (by omega) (by omega)
              rw [if_neg hfr] at hlook
              obtain ⟨w6, hput, hms6, hg6⟩ := hms.put (by unfold maxLen; omega) (x := 2 * (m : Int)) (by omega) (by omega)
              rw [← htk] at hms6
              have hG : Aside (MapS mb (O + (q + 1)) (M.take (O + (q + 1))) w6 ∧ W5.grownBy w6 (some mb)) := ⟨hms6, grown_trans hg hg6⟩
              have x1n : ¬ 2 * (m : Int) < 0 := by omega
              have x2n : ¬ 2 * (m : Int) ≥ 2 * (gn : Int) := by omega
              have x3n : ¬ gn ≤ m := by omega
              have x4n : ¬ (gn : Int) ≤ m := by omega
              clear hms hg hms6 hg6 htk hfr hxe hop hx hev hcells hcat hbw hd
              go_wp2
              go_roundw
              case rel => exact ⟨q + 1, hltq, by go_num, hG.out.1, hG.out.2⟩
              case measure => simp only [intOf]; omega
            · have hlt' : ¬ (q : Int) < rl := by omega
              have hqr : q = rl := by omega
              subst hqr
              rw [hof] at hms
              clear hcells
              go_wp2
              go_roundw
              case rel => exact ⟨k + 1, hlt2, by go_num, hms, hg⟩
              case measure => simp only [intOf]; omega
        · have hlt' : ¬ (k : Int) < 2 := by omega
          have hk2 : k = 2 := by omega
          rw [hk2] at hms
          have hms : MapS mb (nn + im) M wr := by
            have : MapS mb (nn + im) (M.take (nn + im)) wr := hms
            rwa [List.take_of_length_le (by omega)] at this
          obtain ⟨hbw, c0⟩ := hcat wr hg
          obtain ⟨lo, hlo⟩ : ∃ n, wr.heap.size = n := ⟨_, rfl⟩
          have hmlo : mb < lo := by have := hg.size; omega
          have hslo : s < lo := by omega
          have hall : ∀ W, Below lo wr W → Below s w W ∧ MapS mb (nn + im) M W := fun W h => ⟨hbw.trans (h.mono (Nat.le_of_lt hslo)), hms.below hmlo h⟩
          have hsz9 : ∀ W, Below lo wr W → lo ≤ W.heap.size := fun W h => hlo ▸ h.size
          have hb00 : Below lo wr wr := Below.refl _ _
          obtain ⟨W7, hW7⟩ : ∃ W, W = wr := ⟨_, rfl⟩
          subst hW7
          clear hms hg hcat hbw hrow2 hlo hMw hMnd
          have hgz : ∀ W, Below s w W → Gates W d.ga y.gates := fun W h => (hsysW W h).g
          go_wp2
          generalize hge : d.ga = ga at hgz ⊢
          clear hge c0 hsysW
          go_loopw [125] (fun i wr => ∃ k : Nat, k ≤ gn ∧ i = .int .i64 k ∧ Below lo W7 wr) (fun i _ => gn - (intOf i).toNat)
          case atStart => exact ⟨0, Nat.zero_le _, rfl, hb00⟩
          case round =>
            clear hb00
            obtain ⟨k, hk, rfl, hb⟩ := hrel
            obtain ⟨hbw, hms⟩ := hall wr hb
            by_cases hltk : k < gn
            · have hltkI : (k : Int) < gn := by omega
              obtain ⟨gb, go, rfl, hgb, g0, g1, g2⟩ := hgz wr hbw k (by omega)
              have hcv := hcov k hltk
              obtain ⟨o, ho⟩ : ∃ o, opZ y.gates k = o := ⟨_, rfl⟩
              obtain ⟨x, hx⟩ : ∃ o, aZ y.gates k = o := ⟨_, rfl⟩
              obtain ⟨z, hz⟩ : ∃ o, bZ y.gates k = o := ⟨_, rfl⟩
              rw [ho] at g0 hcv
              rw [hx] at g1
              rw [hz] at g2
              obtain ⟨q0, q1, q2⟩ := gate_box wr o x z
              have hb9 := hb.alloc (hsz9 wr hb) (.cells #[.int .i64 o, .int .i64 x, .int .i64 z] 51)
              have hlook := (hall _ hb9).2.look (x := 2 * (k : Int)) (by omega) (by omega)
              have hA : Aside (Below lo W7 (wr.alloc (.cells #[.int .i64 o, .int .i64 x, .int .i64 z] 51))) := hb9
              clear hms hb hall hb9 hbw hgz ho hx hz
              by_cases o2 : o = 2
              · subst o2
                rw [if_pos (hcv rfl)] at hlook
                clear hcv
                go_wp2
                go_roundw
                case rel => exact ⟨k + 1, hltk, by go_num, hA.out⟩
                case measure => simp only [intOf]; omega
              · have hne : (o == 2) = false := beq_false_of_ne o2
                clear hlook hcv
                go_wp2
                go_roundw
                case rel => exact ⟨k + 1, hltk, by go_num, hA.out⟩
                case measure => simp only [intOf]; omega
            · have hlt' : ¬ (k : Int) < gn := by omega
              clear hall hms hb
              go_wp2
              go_ret
              exact ⟨rfl, hbw⟩
end Go.Proofs.YtdgnafjllokioaaGreatDoor

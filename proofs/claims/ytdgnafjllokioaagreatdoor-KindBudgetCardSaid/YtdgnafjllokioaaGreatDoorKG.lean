/- Kind: a system in memory; a tick as the document tells it (Next), walked. -/
import Derived.Test.YtdgnafjllokioaaGreatDoorKD
import Derived.StillTailTactics
import Derived.BigQuiet
set_option linter.unusedVariables false
set_option linter.unusedSimpArgs false
set_option autoImplicit false
set_option linter.unusedVariables false
set_option linter.unusedSimpArgs false
namespace Go.Proofs.YtdgnafjllokioaaGreatDoor
open Go.Proofs Go
open Go.RowKit Kb
theorem below_drewN {B : Nat} {w wr : World} (h : Below B w wr) (q : Nat) : Below B w (wr.drewN q) := ⟨h.os, h.tape, h.output, h.size, h.block⟩
/-- where a system's rows lie -/
structure SA where
  ga : Option Addr
  na : Option Addr
  xa : Option Addr
  ia : Option Addr
  ba : Option Addr
  gc : Nat
  nc : Nat
  xc : Nat
  ic : Nat
  bc : Nat
def sysC (d : SA) (gn nn im : Nat) (ok asm : Int) : Array Value := #[.slice d.ga gn d.gc, .slice d.na nn d.nc, .slice d.xa nn d.xc, .slice d.ia im d.ic, .slice d.ba nn d.bc, .int .i64 ok, .int .i64 asm]
structure SysAt (w : World) (d : SA) (y : Sy) : Prop where
  g : Gates w d.ga y.gates
  n : Ints w d.na y.now
  x : Ints w d.xa y.next
  i : Ints w d.ia y.ins
  b : Bools w d.ba y.init
theorem SysAt.below {w wr : World} {d : SA} {y : Sy} (h : SysAt w d y) (hb : Below w.heap.size w wr) : SysAt wr d y := ⟨h.g.below hb, h.n.below hb, h.x.below hb, h.i.below hb, h.b.below hb⟩
/-- a system's box -/
structure SB (s : Nat) (d : SA) (gn nn im : Nat) (ok asm : Int) (w : World) : Prop where
  c0 : w.cell? ⟨s, 0, none⟩ = some (.slice d.ga gn d.gc)
  c1 : w.cell? ⟨s, 1, none⟩ = some (.slice d.na nn d.nc)
  c2 : w.cell? ⟨s, 2, none⟩ = some (.slice d.xa nn d.xc)
  c3 : w.cell? ⟨s, 3, none⟩ = some (.slice d.ia im d.ic)
  c4 : w.cell? ⟨s, 4, none⟩ = some (.slice d.ba nn d.bc)
  c5 : w.cell? ⟨s, 5, none⟩ = some (.int .i64 ok)
  c6 : w.cell? ⟨s, 6, none⟩ = some (.int .i64 asm)
  lt : s < w.heap.size
theorem SB.below {s : Nat} {d : SA} {gn nn im : Nat} {ok asm : Int} {w w' : World} (h : SB s d gn nn im ok asm w) {lo : Nat} (hl : s < lo) (hb : Below lo w w') : SB s d gn nn im ok asm w' := by
  have c : ∀ m u, w.cell? ⟨s, m, none⟩ = some u → w'.cell? ⟨s, m, none⟩ = some u := fun m u e => (hb.cell (p := ⟨s, m, none⟩) hl).trans e
  exact ⟨c _ _ h.c0, c _ _ h.c1, c _ _ h.c2, c _ _ h.c3, c _ _ h.c4, c _ _ h.c5, c _ _ h.c6, Nat.lt_of_lt_of_le h.lt hb.size⟩
theorem sb_new (w : World) (d : SA) (gn nn im : Nat) (ok asm : Int) : SB w.heap.size d gn nn im ok asm (w.alloc (.cells (sysC d gn nn im ok asm) 28)) :=
  ⟨(cell_new ..).trans rfl, (cell_new ..).trans rfl, (cell_new ..).trans rfl, (cell_new ..).trans rfl, (cell_new ..).trans rfl, (cell_new ..).trans rfl, (cell_new ..).trans rfl, by show _ < (w.heap.push _).size; simp⟩
theorem setAll_snoc : ∀ (ws : List Int) (bs v : List Bool) (x : Int) (b : Bool), ws.length = bs.length → setAll v (ws ++ [x]) (bs ++ [b]) = (setAll v ws bs).set (x / 2).toNat b
  | [], [], v, x, b, _ => by simp [setAll]
  | [], _ :: _, _, _, _, h => by simp at h
  | _ :: _, [], _, _, _, h => by simp at h
  | w :: ws, c :: bs, v, x, b, h => by
    simp only [List.cons_append, setAll]
    exact setAll_snoc ws bs _ x b (by simpa using h)
theorem setAll_take {ws : List Int} {bs v : List Bool} {k : Nat} (h1 : k < ws.length) (h2 : k < bs.length) : setAll v (ws.take (k + 1)) (bs.take (k + 1)) = (setAll v (ws.take k) (bs.take k)).set (ws.getD k 0 / 2).toNat (bs.getD k false) := by
  rw [List.take_add_one, List.take_add_one, List.getElem?_eq_getElem h1, List.getElem?_eq_getElem h2, getD_lt h1, getD_lt h2]
  exact setAll_snoc _ _ _ _ _ (by rw [List.length_take, List.length_take]; omega)
/-- a row that is written in a loop, and all that was there -/
structure WR (s g n : Nat) (vs : List Bool) (w wr : World) : Prop where
  row : wr.ownsRow g 4 1 (.slice (some ⟨g, 0, none⟩) n n) n (vs.map Value.bool)
  bel : Below g w wr
  size : g < wr.heap.size
  len : vs.length = n
theorem WR.set {s g n : Nat} {vs vs' : List Bool} {w wr : World} (h : WR s g n vs w wr) (k : Nat) (x : Bool) (e : vs.set k x = vs') : WR s g n vs' w (wr.setCell ⟨g, k, none⟩ (.bool x)) := by
  have hst := (h.row.stored k (.bool x)).1
  rw [← List.map_set, e] at hst
  exact ⟨hst, h.bel.setCell (p := ⟨g, k, none⟩) (Nat.le_refl _) _, by rw [World.size_setCell]; exact h.size, by rw [← e, List.length_set]; exact h.len⟩
theorem WR.drew {s g n : Nat} {vs : List Bool} {w wr : World} (h : WR s g n vs w wr) : WR s g n vs w wr.drew := ⟨h.row, below_drew h.bel, h.size, h.len⟩
theorem WR.cell {s g n : Nat} {vs : List Bool} {w wr : World} (h : WR s g n vs w wr) {k : Nat} (hk : k < n) : wr.cell? ⟨g, k, none⟩ = some (.bool (vs.getD k false)) ∧ wr.frozen? ⟨g, k, none⟩ = false := by
  refine ⟨?_, h.row.frozenAt k⟩
  have hl := h.len
  rw [h.row.cellAt k (by omega), List.getElem?_map, List.getElem?_eq_getElem (by omega), List.getD_eq_getElem?_getD, List.getElem?_eq_getElem (by omega)]
  rfl
theorem WR.bools {s g n : Nat} {vs : List Bool} {w wr : World} (h : WR s g n vs w wr) : Bools wr (some ⟨g, 0, none⟩) vs := by
  obtain ⟨am, cm, e, _, hB, _⟩ := bools_of (lo := g) (k := n) (ms := vs) h.row h.len
  cases e
  exact hB
theorem wr_new (w : World) (n : Nat) (hn : n ≤ 100000) : WR 0 w.heap.size n (List.replicate n false) w (w.alloc (.cells (madeCells #[.bool false] n) 4)) := by
  refine ⟨?_, (Below.refl _ _).alloc (Nat.le_refl _) _, by show _ < (w.heap.push _).size; simp, by simp⟩
  rw [List.map_replicate]
  exact made_row (heap_new w _) (Nat.le_refl _) (by unfold maxLen; omega)
/-- a row of places -/
def Nats (w : World) (a : Option Addr) (l : List Nat) : Prop := ∀ j x, l[j]? = some x → ∃ b off, a = some ⟨b, off, none⟩ ∧ b < w.heap.size ∧ w.cell? ⟨b, off + j, none⟩ = some (.int .i64 ((x : Nat) : Int))
theorem Nats.below {w wr : World} {a : Option Addr} {l : List Nat} (h : Nats w a l) (hb : Below w.heap.size w wr) : Nats wr a l := fun j x hj => by
  obtain ⟨b, off, e1, e2, e3⟩ := h j x hj
  exact ⟨b, off, e1, Nat.lt_of_lt_of_le e2 hb.size, (hb.cell (by exact e2)).trans e3⟩
theorem nats_own {w : World} {lo : Nat} {v : Value} {l : List Nat} (h : w.ownsRow lo 3 1 v l.length (ivs l)) : ∃ a c, v = .slice a l.length c ∧ Nats w a l := by
  rcases h.2 with ⟨e1, e2⟩ | ⟨g, cap, cur, e1, hb, hg, hc, _⟩
  · exact ⟨none, 0, by rw [e1, e2], fun j x hj => by rw [List.eq_nil_of_length_eq_zero e2] at hj; simp at hj⟩
  · rw [e1] at h
    refine ⟨_, cap, e1, fun j x hj => ⟨g, 0, rfl, (Array.getElem?_eq_some_iff.1 hg).1, ?_⟩⟩
    rw [Nat.zero_add, h.cellAt j (by have := (List.getElem?_eq_some_iff.1 hj).1; omega)]
    unfold ivs
    rw [List.getElem?_map, hj]
    rfl
/-- values of the first j inputs -/
def inB (gs : GL) (v0 : List Bool) (j : Nat) : List Value := ((inputsZ gs).take j).map fun i => .bool (v0.getD i false)
theorem inB_succ {gs : GL} {v0 : List Bool} {j p : Nat} (hp : (inputsZ gs)[j]? = some p) : inB gs v0 (j + 1) = inB gs v0 j ++ [.bool (v0.getD p false)] := by
  unfold inB
  rw [List.take_add_one, hp, List.map_append]
  rfl
/-- values of the first r wires -/
def nxB (vs : List Bool) (ws : List Int) (r : Nat) : List Value := (ws.take r).map fun x => .bool (atZ vs x)
theorem nxB_succ {vs : List Bool} {ws : List Int} {r : Nat} {x : Int} (hx : ws[r]? = some x) : nxB vs ws (r + 1) = nxB vs ws r ++ [.bool (atZ vs x)] := by
  unfold nxB
  rw [List.take_add_one, hx, List.map_append]
  rfl
theorem nxB_end {vs : List Bool} {ws : List Int} {n : Nat} (h : ws.length = n) : nxB vs ws n = (ws.map (atZ vs)).map Value.bool := by
  unfold nxB
  rw [List.take_of_length_le (by omega), List.map_map]
  rfl
theorem base_not {y : Sy} (h : Kb.Good y) {gn : Nat} (hgn : y.gates.length = gn) (st ins : List Bool) {i : Nat} (ho : opZ y.gates i ≠ 2) : (setAll (setAll (List.replicate gn false) y.now st) y.ins ins).getD i false = false := by
  have := baseZ_not h st ins ho
  unfold baseZ at this
  rwa [hgn] at this
/-- what a tick gives -/
def StepOut (w : World) (y : Sy) (st inp : List Bool) (e : Ending) (w' : World) : Prop := ∃ v, e = .returned (.tuple #[v, .bool (okZ y st inp), .bool (asmZ y st inp)]) ∧ w'.ownsRow w.heap.size 4 1 v y.now.length ((nextZ y st inp).map Value.bool) ∧ Below w.heap.size w w'
set_option maxHeartbeats 8000000 in
set_option maxRecDepth 1000000 in
theorem next_walk (d : SA) (y : Sy) (gn nn im : Nat) (sa : Option Addr) (sc : Nat) (st : List Bool) (ia : Option Addr) (ic : Nat) (inp : List Bool) (w : World) (hy : Kb.Good y) (hgn : y.gates.length = gn) (hnn : y.now.length = nn) (him : y.ins.length = im) (hg9 : gn ≤ 1000) (hn9 : nn ≤ 100) (hi9 : im ≤ 100)
    (hsys : SysAt w d y) (hst : st.length = nn) (hsz : Bools w sa st) (hin : inp.length = im) (hiz : Bools w ia inp) :
    Calls Tryz.prog 19 #[.agg (sysC d gn nn im y.ok y.asm), .slice sa nn sc, .slice ia im ic] w (StepOut w y st inp) := by
  obtain ⟨s, hs⟩ : ∃ s, w.heap.size = s := ⟨_, rfl⟩
  obtain ⟨W1, hW1⟩ : ∃ W, w.alloc (.cells (sysC d gn nn im y.ok y.asm) 28) = W := ⟨_, rfl⟩
  have hb0 : Below s w W1 := by rw [← hW1, ← hs]; exact (Below.refl w.heap.size w).alloc (Nat.le_refl _) _
  have hsb : SB s d gn nn im y.ok y.asm W1 := by rw [← hW1, ← hs]; exact sb_new ..
  have hmk26 := fun w => run_make_row' (P := Tryz.prog) 26 4 (.bool false) 1 Tryz.underlying26 info4 rfl .i64 .i64 gn (by omega) (by omega) w
  have hall : ∀ W, Below s w W → SysAt W d y ∧ Bools W sa st ∧ Bools W ia inp := fun W hb => ⟨hsys.below (hs ▸ hb), hsz.below (hs ▸ hb), hiz.below (hs ▸ hb)⟩
  obtain ⟨ok, hok⟩ : ∃ x, y.ok = x := ⟨_, rfl⟩
  obtain ⟨asm, hasm⟩ : ∃ x, y.asm = x := ⟨_, rfl⟩
  rw [hok, hasm] at hW1 hsb ⊢
  have hx9 : y.next.length = nn := by rw [hy.nx, hnn]
  unfold StepOut
  rw [hs, hnn]
  clear hsys hsz hiz
  unfold sysC at hW1 ⊢
  go_enter Tryz.func19, Tryz.ntmps19
  go_upto_region 1 with fail
  clear hs hW1
  have c0 := hsb.c0
  obtain ⟨g, hg⟩ : ∃ g, W1.heap.size = g := ⟨_, rfl⟩
  obtain ⟨W2, hW2⟩ : ∃ W, W1.alloc (.cells (madeCells #[.bool false] gn) 4) = W := ⟨_, rfl⟩
  have hWR : WR s g gn (setAll (List.replicate gn false) (y.now.take 0) (st.take 0)) W1 W2 := by
    rw [← hW2, ← hg, List.take_zero, List.take_zero]
    simp only [setAll]
    obtain ⟨a1, a2, a3, a4⟩ := wr_new W1 gn (by omega)
    exact ⟨a1, a2, a3, a4⟩
  have hsg : s < g := by rw [← hg]; exact hsb.lt
  go_upto_region 2 with fail
  clear hg hW2 c0 hmk26
  go_wp2
  go_loopw [10] (fun iv wr => ∃ k : Nat, k ≤ nn ∧ iv = .int .i64 k ∧ WR s g gn (setAll (List.replicate gn false) (y.now.take k) (st.take k)) W1 wr) (fun iv _ => nn - (intOf iv).toNat)
  case atStart => exact ⟨0, Nat.zero_le _, rfl, hWR⟩
  case round =>
    clear hWR
    obtain ⟨k, hk, rfl, hR⟩ := hrel
    have hSB := hsb.below hsg hR.bel
    have hbw := hb0.trans (hR.bel.mono (Nat.le_of_lt hsg))
    by_cases hlt : k < nn
    · have hltI : (k : Int) < nn := by omega
      obtain ⟨h1, h2, _⟩ := hall wr hbw
      obtain ⟨nb, no, hna, hnb, n0⟩ := h1.n k (by omega)
      obtain ⟨tb, to, rfl, htb, t0⟩ := h2 k (by omega)
      have hse := setAll_take (ws := y.now) (bs := st) (v := List.replicate gn false) (k := k) (by omega) (by omega)
      obtain ⟨x, hx⟩ : ∃ x, y.now.getD k 0 = x := ⟨_, rfl⟩
      have hxw : wOK gn x := by
        have hm : x ∈ y.now ++ y.ins := by rw [← hx, getD_lt (by omega)]; exact List.mem_append_left _ (List.getElem_mem _)
        have := (hy.inw x hm).1
        rwa [hgn] at this
      obtain ⟨m, hm, hxm, hd⟩ := wire_div hxw
      obtain ⟨u, hu⟩ : ∃ u, st.getD k false = u := ⟨_, rfl⟩
      rw [hx] at n0 hse
      rw [hu] at t0 hse
      rw [hd] at hse
      have hR2 := hR.drew.set m u hse.symm
      obtain ⟨r1, r2⟩ := hR.cell hm
      have c1 := hSB.c1
      rw [hna] at c1
      have hdiv : x.tdiv 2 = m := by
        have : 0 ≤ x := hxw.1
        rw [Int.tdiv_eq_ediv_of_nonneg this]; omega
      have hA : Aside (WR s g gn (setAll (List.replicate gn false) (y.now.take (k + 1)) (st.take (k + 1))) W1 (wr.drew.setCell ⟨g, m, none⟩ (.bool u))) := hR2
      clear hR hSB hbw hall h1 h2 hse hx hxw hxm hd hu hR2 hna
      go_wp2
      go_still_tail 11, (by kernel_rfl)
      change wpList _ _ _ _ _ wr.drew
      replace r1 : wr.drew.cell? ⟨g, m, none⟩ = _ := r1
      replace r2 : wr.drew.frozen? ⟨g, m, none⟩ = false := r2
      generalize wr.drew = wd at hA r1 r2 ⊢
      go_wp2
      go_roundw
      case rel => exact ⟨k + 1, hlt, by go_num, hA.out⟩
      case measure => simp [intOf]; omega
    · have hkn : k = nn := by omega
      subst hkn
      have hlt' : ¬ (k : Int) < k := by omega
      rw [List.take_of_length_le (by omega), List.take_of_length_le (by omega)] at hR
      obtain ⟨v1, hv1⟩ : ∃ v, setAll (List.replicate gn false) y.now st = v := ⟨_, rfl⟩
      rw [hv1] at hR
      have hWR : WR s g gn (setAll v1 (y.ins.take 0) (inp.take 0)) W1 wr := by
        rw [List.take_zero, List.take_zero]; simp only [setAll]; exact hR
      clear hR hSB hbw
      go_wp2
      go_loopw [11] (fun iv wr => ∃ q : Nat, q ≤ im ∧ iv = .int .i64 q ∧ WR s g gn (setAll v1 (y.ins.take q) (inp.take q)) W1 wr) (fun iv _ => im - (intOf iv).toNat)
      case atStart => exact ⟨0, Nat.zero_le _, rfl, hWR⟩
      case round =>
        clear hWR
        obtain ⟨q, hq, rfl, hR⟩ := hrel
        have hSB := hsb.below hsg hR.bel
        have hbw := hb0.trans (hR.bel.mono (Nat.le_of_lt hsg))
        by_cases hlt : q < im
        · have hltI : (q : Int) < im := by omega
          obtain ⟨h1, _, h2⟩ := hall wr hbw
          obtain ⟨nb, no, hna, hnb, n0⟩ := h1.i q (by omega)
          obtain ⟨tb, to, rfl, htb, t0⟩ := h2 q (by omega)
          have hse := setAll_take (ws := y.ins) (bs := inp) (v := v1) (k := q) (by omega) (by omega)
          obtain ⟨x, hx⟩ : ∃ x, y.ins.getD q 0 = x := ⟨_, rfl⟩
          have hxw : wOK gn x := by
            have hm : x ∈ y.now ++ y.ins := by rw [← hx, getD_lt (by omega)]; exact List.mem_append_right _ (List.getElem_mem _)
            have := (hy.inw x hm).1
            rwa [hgn] at this
          obtain ⟨m, hm, hxm, hd⟩ := wire_div hxw
          obtain ⟨u, hu⟩ : ∃ u, inp.getD q false = u := ⟨_, rfl⟩
          rw [hx] at n0 hse
          rw [hu] at t0 hse
          rw [hd] at hse
          have hR2 := hR.drew.set m u hse.symm
          obtain ⟨r1, r2⟩ := hR.cell hm
          have c3 := hSB.c3
          rw [hna] at c3
          have hdiv : x.tdiv 2 = m := by
            have : 0 ≤ x := hxw.1
            rw [Int.tdiv_eq_ediv_of_nonneg this]; omega
          have hA : Aside (WR s g gn (setAll v1 (y.ins.take (q + 1)) (inp.take (q + 1))) W1 (wr.drew.setCell ⟨g, m, none⟩ (.bool u))) := hR2
          clear hR hSB hbw hall h1 h2 hse hx hxw hxm hd hu hR2 hna
          go_wp2
          go_still_tail 11, (by kernel_rfl)
          change wpList _ _ _ _ _ wr.drew
          replace r1 : wr.drew.cell? ⟨g, m, none⟩ = _ := r1
          replace r2 : wr.drew.frozen? ⟨g, m, none⟩ = false := r2
          generalize wr.drew = wd at hA r1 r2 ⊢
          go_wp2
          go_roundw
          case rel => exact ⟨q + 1, hlt, by go_num, hA.out⟩
          case measure => simp [intOf]; omega
        · -- [C
          have hqn : q = im := by omega
          subst hqn
          have hlt' : ¬ (q : Int) < q := by omega
          rw [List.take_of_length_le (by omega), List.take_of_length_le (by omega)] at hR
          obtain ⟨v0, hv0⟩ : ∃ v, setAll v1 y.ins inp = v := ⟨_, rfl⟩
          rw [hv0] at hR
          have hbase : baseZ y st inp = v0 := by rw [← hv0, ← hv1, ← hgn]; rfl
          have hvals : valsZ y st inp = valZ y.gates v0 gn := by unfold valsZ; rw [hbase, hgn]
          have h0 : ∀ i, opZ y.gates i ≠ 2 → v0.getD i false = false := fun i hi => by rw [← hbase]; exact baseZ_not hy st inp hi
          have hB0 := hR.bools
          have hl0 := hR.len
          obtain ⟨h1, _, _⟩ := hall wr hbw
          have hinp := (inputs_walk d.ga gn d.gc y.gates wr hgn hg9 h1.g).mono (R' := fun e W' => ∃ xa pm xc, (inputsZ y.gates).length = pm ∧ e = .returned (.slice xa pm xc) ∧ Below wr.heap.size wr W' ∧ Nats W' xa (inputsZ y.gates)) (by
            rintro e W' ⟨v, p1, p2, p3⟩
            obtain ⟨xa, xc, e1, e2⟩ := nats_own p2
            rw [e1] at p1
            exact ⟨xa, _, xc, rfl, p1, p3, e2⟩)
          have c0 := hSB.c0
          have hsz3 : s < wr.heap.size := hSB.lt
          clear hR hv1 hv0 hbase h1
          go_upto_region 12 with (go_at_call 14; refine hinp.mono ?_; rintro e W3 ⟨xa, pm, xc, hpm, p1, hb3, hnat⟩; rw [p1]; clear p1)
          have hB3 := hB0.below hb3
          have hSB3 := hSB.below hsz3 hb3
          have hbw3 := hbw.trans (hb3.mono (Nat.le_of_lt hsz3))
          clear hinp hB0 hSB hbw hb3 hsz3 c0 hsb
          obtain ⟨lo, hlo⟩ : ∃ n, W3.heap.size = n := ⟨_, rfl⟩
          have hslo : s < lo := by rw [← hlo]; exact hSB3.lt
          have hpm9 : pm ≤ 1000 := by
            have := inK_len y.gates gn
            have e : inputsZ y.gates = inK y.gates gn := by unfold inputsZ inK; rw [hgn]
            rw [← hpm, e]; omega
          have hnil : W3.ownsRow lo 4 1 (.slice none 0 0) 0 [] := World.ownsRow_nil _ _ _ _
          obtain ⟨i0, hi0, hj0, hj1, hj2⟩ := info_parts' info4
          have hrefl : Below lo W3 W3 := Below.refl _ _
          go_wp2
          go_loopw [12, 14] (fun lv jv wr => ∃ j : Nat, j ≤ pm ∧ jv = .int .i64 j ∧ wr.ownsRow lo 4 1 lv j (inB y.gates v0 j) ∧ Below lo W3 wr) (fun _ jv _ => pm - (intOf jv).toNat)
          case atStart => exact ⟨0, Nat.zero_le _, rfl, hnil, hrefl⟩
          case round =>
            clear hnil hrefl
            obtain ⟨j, hj, rfl, hrow, hb⟩ := hrel
            have hsz : lo ≤ wr.heap.size := by rw [← hlo]; exact hb.size
            by_cases hlt : j < pm
            · have hltI : (j : Int) < pm := by omega
              obtain ⟨p, hp⟩ : ∃ p, (inputsZ y.gates)[j]? = some p := ⟨_, List.getElem?_eq_getElem (by omega)⟩
              have hpg : p < gn := by rw [← hgn]; exact (mem_inputs.1 (List.mem_of_getElem? hp)).1
              have hbl : Below W3.heap.size W3 wr := by rw [hlo]; exact hb
              obtain ⟨pb, po, rfl, hpb, p0⟩ := hnat.below hbl j p hp
              obtain ⟨vb, vo, hva, hvb, q0⟩ := hB3.below hbl p (by omega)
              obtain ⟨rfl, rfl⟩ : vb = g ∧ vo = 0 := by
                have := Option.some.inj hva
                injection this with e1 e2
                exact ⟨e1.symm, e2.symm⟩
              rw [Nat.zero_add] at q0
              obtain ⟨u, hu⟩ : ∃ u, v0.getD p false = u := ⟨_, rfl⟩
              rw [hu] at q0
              have hpI : (p : Int) < gn := by omega
              obtain ⟨hrow2, hsz2, hgr⟩ := row_push (ob := .cells #[.bool u] 4) hrow hsz rfl
              have hK : Aside ((∀ (i : Nat) (x : Value), [Value.bool u][i]? = some x → (wr.alloc (.cells #[.bool u] 4)).cell? ((⟨wr.heap.size, 0, none⟩ : Addr).add i) = some x) ∧ (∀ x ∈ [Value.bool u], x.oneCell' = true) ∧ j + 1 ≤ maxLen ∧ (j + 1) * 1 ≤ 140737488355328) :=
                ⟨one_new wr _ 4, fun x hx => by rw [List.mem_singleton.1 hx]; rfl, by unfold maxLen; omega, by omega⟩
              have hsu : Aside (inB y.gates v0 (j + 1) = inB y.gates v0 j ++ [.bool u]) := by rw [← hu]; exact inB_succ hp
              obtain ⟨vv, hvv⟩ : ∃ v, v = u12 := ⟨_, rfl⟩
              subst hvv
              have hbA : Aside (Below lo W3 wr ∧ ∀ w3, (wr.alloc (.cells #[.bool u] 4)).grownBy w3 vv.ownBlock → Below lo wr w3) := ⟨hb, hgr⟩
              clear hp hpg hbl hva hu hall hB3 hnat hSB3 hbw3 hb hgr h0 hvals hrow hpm
              go_wp2_with (first | (at_builtin; refine wpList_append_own _ rfl _ _ 26 rfl lo 4 i0 (.bool false) 1 1 Tryz.underlying26 hi0 hj0 hj1 hj2 rfl (by decide) _ _ _ rfl hrow2 ⟨wr.heap.size, 0, none⟩ 1 1 [.bool u] rfl rfl hK.out.1 hK.out.2.1 hK.out.2.2.1 hK.out.2.2.2 hsz2 ?_))
              intro v' w3 hown hgrow hnn2
              have hG : Aside (w3.ownsRow lo 4 1 v' (j + 1) (inB y.gates v0 (j + 1)) ∧ Below lo W3 w3) := by
                refine ⟨?_, hbA.out.1.trans (hbA.out.2 w3 hgrow)⟩
                rw [hsu.out]
                exact hown
              clear hown hgrow hnn2 hbA hrow2 hK hsz2 hsu
              go_wp2
              go_roundw
              case rel => exact ⟨j + 1, hlt, by go_num, hG.out.1, hG.out.2⟩
              case measure => simp [intOf]; omega
            · -- [D
              have hjn : j = pm := by omega
              subst hjn
              have hlt' : ¬ (j : Int) < j := by omega
              have hbl : Below W3.heap.size W3 wr := by rw [hlo]; exact hb
              have hbw4 := hbw3.trans (hb.mono (Nat.le_of_lt hslo))
              have hSB4 := hSB3.below hslo hb
              have hil : inB y.gates v0 j = ((inputsZ y.gates).map fun i => v0.getD i false).map Value.bool := by
                unfold inB
                rw [List.take_of_length_le (by omega), List.map_map]
                rfl
              rw [hil] at hrow
              obtain ⟨il, hile⟩ : ∃ l, (inputsZ y.gates).map (fun i => v0.getD i false) = l := ⟨_, rfl⟩
              have hill : il.length = j := by rw [← hile, List.length_map]; exact hpm
              rw [hile] at hrow
              obtain ⟨la, lc, hle, _, hlB, _⟩ := bools_of hrow hill
              obtain ⟨h1, _, _⟩ := hall wr hbw4
              have hev := (eval_walk d.ga gn d.gc y.gates la j lc il v0 wr hgn hg9 h1.g hy.net hill hile.symm h0 hlB).mono (R' := fun e W' => ∃ va vc, e = .returned (.tuple #[.slice va gn vc, .int .i64 0]) ∧ Below wr.heap.size wr W' ∧ Bools W' va (valZ y.gates v0 gn)) (by
                rintro e W' ⟨v, p1, p2, p3⟩
                rw [valZ_len] at p2
                obtain ⟨va, vc, e1, _, hB, _⟩ := bools_of p2 (valZ_len _ _ _)
                rw [e1] at p1
                exact ⟨va, vc, p1, p3, hB⟩)
              have c0 := hSB4.c0
              have hsz5 : s < wr.heap.size := hSB4.lt
              have hwir : ∀ x, x ∈ y.next ++ [y.ok, y.asm] → wOK gn x := fun x hx => by
                have := hy.wires x hx
                rwa [hgn] at this
              rw [← hvals] at hev
              have hvl : (valsZ y st inp).length = gn := by rw [hvals]; exact valZ_len _ _ _
              obtain ⟨vs, hvs⟩ : ∃ l, valsZ y st inp = l := ⟨_, rfl⟩
              rw [hvs] at hev hvl
              subst hle
              clear hrow hil hile hill hlB h1 hB3 hnat hSB3 hbw3 hb hbl h0 hvals hpm hsz
              go_upto_region 17 with (go_at_call 44; refine hev.mono ?_; rintro e W5 ⟨va, vc, p1, hb5, hB5⟩; rw [p1]; clear p1)
              have hSB5 := hSB4.below hsz5 hb5
              have hbw5 := hbw4.trans (hb5.mono (Nat.le_of_lt hsz5))
              clear hev hSB4 hbw4 hb5 hsz5 c0 hlo
              obtain ⟨lo5, hlo5⟩ : ∃ n, W5.heap.size = n := ⟨_, rfl⟩
              have hslo5 : s < lo5 := by rw [← hlo5]; exact hSB5.lt
              have hnil : W5.ownsRow lo5 4 1 (.slice none 0 0) 0 [] := World.ownsRow_nil _ _ _ _
              have hrefl : Below lo5 W5 W5 := Below.refl _ _
              go_wp2
              go_loopw [17, 18] (fun lv jv wr => ∃ r : Nat, r ≤ k ∧ jv = .int .i64 r ∧ wr.ownsRow lo5 4 1 lv r (nxB vs y.next r) ∧ Below lo5 W5 wr) (fun _ jv _ => k - (intOf jv).toNat)
              case atStart => exact ⟨0, Nat.zero_le _, rfl, hnil, hrefl⟩
              case round =>
                clear hnil hrefl
                obtain ⟨r, hr, rfl, hrow, hb⟩ := hrel
                have hsz : lo5 ≤ wr.heap.size := by rw [← hlo5]; exact hb.size
                have hbl : Below W5.heap.size W5 wr := by rw [hlo5]; exact hb
                have hbw6 := hbw5.trans (hb.mono (Nat.le_of_lt hslo5))
                have hSB6 := hSB5.below hslo5 hb
                have hB6 := hB5.below hbl
                by_cases hlt : r < k
                · have hltI : (r : Int) < k := by omega
                  obtain ⟨h1, _, _⟩ := hall wr hbw6
                  obtain ⟨xb, xo, hxa, hxb, x0⟩ := h1.x r (by omega)
                  obtain ⟨x, hx⟩ : ∃ x, y.next[r]? = some x := ⟨_, List.getElem?_eq_getElem (by omega)⟩
                  have hxg : y.next.getD r 0 = x := by rw [List.getD_eq_getElem?_getD, hx]; rfl
                  rw [hxg] at x0
                  have c2 := hSB6.c2
                  rw [hxa] at c2
                  have hwx := wire_walk va gn vc vs x wr hvl (by omega) (hwir x (List.mem_append_left _ (List.mem_of_getElem? hx))) hB6
                  have hnb := nxB_succ (vs := vs) hx
                  obtain ⟨u, hu⟩ : ∃ u, atZ vs x = u := ⟨_, rfl⟩
                  rw [hu] at hwx hnb
                  obtain ⟨hrow2, hsz2, hgr⟩ := row_push (ob := .cells #[.bool u] 4) hrow hsz rfl
                  have hK : Aside ((∀ (i : Nat) (x : Value), [Value.bool u][i]? = some x → (wr.alloc (.cells #[.bool u] 4)).cell? ((⟨wr.heap.size, 0, none⟩ : Addr).add i) = some x) ∧ (∀ x ∈ [Value.bool u], x.oneCell' = true) ∧ r + 1 ≤ maxLen ∧ (r + 1) * 1 ≤ 140737488355328) :=
                    ⟨one_new wr _ 4, fun x hx => by rw [List.mem_singleton.1 hx]; rfl, by unfold maxLen; omega, by omega⟩
                  have hsu : Aside (nxB vs y.next (r + 1) = nxB vs y.next r ++ [.bool u]) := hnb
                  obtain ⟨vv, hvv⟩ : ∃ v, v = u17 := ⟨_, rfl⟩
                  subst hvv
                  have hbA : Aside (Below lo5 W5 wr ∧ ∀ w3, (wr.alloc (.cells #[.bool u] 4)).grownBy w3 vv.ownBlock → Below lo5 wr w3) := ⟨hb, hgr⟩
                  clear hnb hx hxg hxa hu hall hB5 hB6 hSB5 hSB6 hbw5 hbw6 hb hbl hgr hrow hwir h1
                  go_wp2_with (first | (go_at_call 45; refine hwx.mono ?_; rintro e w6 ⟨p1, p2⟩; rw [p1, p2]; clear p1 p2) | (at_builtin; refine wpList_append_own _ rfl _ _ 26 rfl lo5 4 i0 (.bool false) 1 1 Tryz.underlying26 hi0 hj0 hj1 hj2 rfl (by decide) _ _ _ rfl hrow2 ⟨wr.heap.size, 0, none⟩ 1 1 [.bool u] rfl rfl hK.out.1 hK.out.2.1 hK.out.2.2.1 hK.out.2.2.2 hsz2 ?_))
                  intro v' w3 hown hgrow hnn2
                  have hG : Aside (w3.ownsRow lo5 4 1 v' (r + 1) (nxB vs y.next (r + 1)) ∧ Below lo5 W5 w3) := by
                    refine ⟨?_, hbA.out.1.trans (hbA.out.2 w3 hgrow)⟩
                    rw [hsu.out]
                    exact hown
                  clear hown hgrow hnn2 hbA hrow2 hK hsz2 hsu
                  go_wp2
                  go_roundw
                  case rel => exact ⟨r + 1, hlt, by go_num, hG.out.1, hG.out.2⟩
                  case measure => simp [intOf]; omega
                · -- [E
                  have hrn : r = k := by omega
                  subst hrn
                  have hlt' : ¬ (r : Int) < r := by omega
                  have c2 := hSB6.c2
                  have c5 := hSB6.c5
                  have c6 := hSB6.c6
                  have hww := fun x (hx : wOK gn x) W (hW : Bools W va vs) => wire_walk va gn vc vs x W hvl (by omega) hx hW
                  have hoo : wOK gn ok := hwir ok (by rw [hok]; simp)
                  have haa : wOK gn asm := hwir asm (by rw [hasm]; simp)
                  have hA : Aside (wr.ownsRow lo5 4 1 u17 r (nxB vs y.next r) ∧ Below s w wr) := ⟨hrow, hbw6⟩
                  have hok2 : okZ y st inp = atZ vs ok := by unfold okZ; rw [hvs, hok]
                  have hasm2 : asmZ y st inp = atZ vs asm := by unfold asmZ; rw [hvs, hasm]
                  have hnx2 : (nextZ y st inp).map Value.bool = nxB vs y.next r := by unfold nextZ; rw [hvs]; exact (nxB_end hx9).symm
                  have hE : Aside (okZ y st inp = atZ vs ok ∧ asmZ y st inp = atZ vs asm ∧ (nextZ y st inp).map Value.bool = nxB vs y.next r) := ⟨hok2, hasm2, hnx2⟩
                  clear hok2 hasm2 hnx2 hvs hwir hall hB5 hSB5 hSB6 hbw5 hbw6 hb hbl hrow
                  go_wp2
                  go_quiet (first | (go_at_call 45; refine Calls.quiet_of_same (hww _ (by first | exact hoo | exact haa) _ hB6)))
                  go_wp2
                  refine bodyPost_ret (v := .tuple #[u17, .bool (atZ vs ok), .bool (atZ vs asm)]) (by simp [results, Tryz.f19, go_sem]) rfl ?_
                  obtain ⟨e1, e2, e3⟩ := hE.out
                  refine ⟨u17, by rw [e1, e2], ?_, ?_⟩
                  · rw [e3]
                    exact owns_base (own_below' hA.out.1 (below_drewN (Below.refl _ _) _)) (Nat.le_of_lt hslo5)
                  · exact below_drewN hA.out.2 _
                  -- E]
              -- D]
          -- C]
end Go.Proofs.YtdgnafjllokioaaGreatDoor

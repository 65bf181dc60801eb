/- Kind: the inputs of a net; values that are told as they stand; walked. -/
import Derived.Test.YtdgnafjllokioaaGreatDoorKC
set_option linter.unusedVariables false
set_option linter.unusedSimpArgs false
set_option autoImplicit false
set_option linter.unusedVariables false
set_option linter.unusedSimpArgs false
namespace Go.Proofs.YtdgnafjllokioaaGreatDoor
open Go.Proofs Go
open Go.RowKit Kb
theorem info3 : (Tryz.prog.info? 3).map (fun i => (i.zero, i.size, i.bytes)) = some (some (.int .i64 0), 1, 8) := by kernel_rfl
theorem info4 : (Tryz.prog.info? 4).map (fun i => (i.zero, i.size, i.bytes)) = some (some (.bool false), 1, 1) := by kernel_rfl
theorem row_push {w W : World} {lo : Nat} {e : TypeId} {v : Value} {k sz : Nat} {xs : List Value} {ob : Obj} (h : w.ownsRow lo e sz v k xs) (hlo : lo ≤ w.heap.size) (hW : W = w.alloc ob) :
    W.ownsRow lo e sz v k xs ∧ lo ≤ W.heap.size ∧ ∀ w3, W.grownBy w3 v.ownBlock → Below lo w w3 := by
  have hb : Below w.heap.size w W := by rw [hW]; exact (Below.refl _ _).alloc (Nat.le_refl _) _
  have hrow := own_below' h hb
  exact ⟨hrow, Nat.le_trans hlo hb.size, fun w3 q => (hb.mono hlo).grown q (Nat.le_trans hlo hb.size) fun g hg => (hrow.lt g hg).1⟩
theorem one_new (w : World) (u : Value) (e : TypeId) : ∀ (j : Nat) (x : Value), [u][j]? = some x → (w.alloc (.cells #[u] e)).cell? ((⟨w.heap.size, 0, none⟩ : Addr).add j) = some x := by
  intro j x hj
  match j, hj with
  | 0, hj =>
    simp at hj
    subst hj
    rw [add_plain]
    exact (cell_new ..).trans rfl
/-- inputs among the first k gates -/
def inK (gs : GL) (k : Nat) : List Nat := (List.range k).filter fun i => opZ gs i == 2
theorem inK_succ (gs : GL) (k : Nat) : inK gs (k + 1) = inK gs k ++ (if opZ gs k = 2 then [k] else []) := by
  unfold inK
  rw [List.range_succ, List.filter_append]
  congr 1
  by_cases h : opZ gs k = 2
  · rw [if_pos h]; simp [h]
  · rw [if_neg h]; simp [h]
theorem inK_len (gs : GL) (k : Nat) : (inK gs k).length ≤ k := by
  unfold inK
  have := List.length_filter_le (fun i => opZ gs i == 2) (List.range k)
  rwa [List.length_range] at this
def ivs (l : List Nat) : List Value := l.map fun (i : Nat) => .int .i64 (i : Int)
/-- what a call that makes a row of numbers gives -/
def RowOut (w : World) (l : List Nat) (e : Ending) (w' : World) : Prop := ∃ v, e = .returned v ∧ w'.ownsRow w.heap.size 3 1 v l.length (ivs l) ∧ Below w.heap.size w w'
theorem own_shape {w : World} {lo e sz k : Nat} {v : Value} {xs : List Value} (h : w.ownsRow lo e sz v k xs) : ∃ a c, v = .slice a k c := by
  rcases h.2 with ⟨e1, e2⟩ | ⟨g, cap, cur, e1, _⟩
  · exact ⟨none, 0, by rw [e1, e2]⟩
  · exact ⟨_, cap, e1⟩
set_option maxHeartbeats 4000000 in
set_option maxRecDepth 1000000 in
theorem inputs_walk (a : Option Addr) (n c : Nat) (gs : GL) (w : World) (hn : gs.length = n) (hlen : n ≤ 1000) (hz : Gates w a gs) :
    Calls Tryz.prog 14 #[.agg #[.slice a n c]] w (RowOut w (inputsZ gs)) := by
  obtain ⟨s, hs⟩ : ∃ s, w.heap.size = s := ⟨_, rfl⟩
  obtain ⟨W1, hW1⟩ : ∃ W, w.alloc (.cells #[.slice a n c] 24) = W := ⟨_, rfl⟩
  have hb0 : Below s w W1 := by rw [← hW1, ← hs]; exact (Below.refl w.heap.size w).alloc (Nat.le_refl _) _
  have c0 : W1.cell? ⟨s, 0, none⟩ = some (.slice a n c) := by rw [← hW1, ← hs]; exact (cell_new ..).trans rfl
  have hs1 : s + 1 ≤ W1.heap.size := by rw [← hW1, ← hs]; show _ ≤ (w.heap.push _).size; simp
  have hz1 : ∀ wr, Below (s + 1) W1 wr → Gates wr a gs := fun wr hb => hz.below (hs ▸ hb0.trans (hb.mono (Nat.le_succ s)))
  have hnil : W1.ownsRow (s + 1) 3 1 (.slice none 0 0) 0 [] := World.ownsRow_nil _ _ _ _
  have hG : Aside (RowOut w = RowOut w) := rfl
  obtain ⟨i0, hi0, hj0, hj1, hj2⟩ := info_parts' info3
  have hin : inputsZ gs = inK gs n := by unfold inputsZ inK; rw [hn]
  unfold RowOut
  rw [hs, hin]
  clear hz
  go_enter Tryz.func14, Tryz.ntmps14
  go_upto_region 1 with fail
  clear hs hW1
  go_wp2
  go_loopw [3, 4] (fun v i wr => ∃ k : Nat, k ≤ n ∧ i = .int .i64 k ∧ wr.ownsRow (s + 1) 3 1 v (inK gs k).length (ivs (inK gs k)) ∧ Below (s + 1) W1 wr) (fun _ i _ => n - (intOf i).toNat)
  case atStart => exact ⟨0, Nat.zero_le _, rfl, hnil, Below.refl _ _⟩
  case round =>
    clear hnil
    obtain ⟨k, hk, rfl, hrow, hb⟩ := hrel
    have c0 := (hb.cell (p := ⟨s, 0, none⟩) (by show s < s + 1; omega)).trans c0
    have hsz : s + 1 ≤ wr.heap.size := Nat.le_trans hs1 hb.size
    by_cases hlt : k < n
    · have hltI : (k : Int) < n := by omega
      obtain ⟨gb, go, rfl, hgb, g0, _, _⟩ := hz1 wr hb k (by omega)
      have hsu := inK_succ gs k
      obtain ⟨o, ho⟩ : ∃ o, opZ gs k = o := ⟨_, rfl⟩
      rw [ho] at g0 hsu
      by_cases o2 : o = 2
      · subst o2
        rw [if_pos rfl] at hsu
        have hl := inK_len gs k
        obtain ⟨hrow2, hsz2, hgr⟩ := row_push (ob := .cells #[.int .i64 (k : Int)] 3) hrow hsz rfl
        have hK : Aside ((∀ (j : Nat) (x : Value), [Value.int .i64 (k : Int)][j]? = some x → (wr.alloc (.cells #[.int .i64 (k : Int)] 3)).cell? ((⟨wr.heap.size, 0, none⟩ : Addr).add j) = some x) ∧ (∀ u ∈ [Value.int .i64 (k : Int)], u.oneCell' = true) ∧ (inK gs k).length + 1 ≤ maxLen ∧ ((inK gs k).length + 1) * 8 ≤ 140737488355328) :=
          ⟨one_new wr _ 3, fun u hu => by rw [List.mem_singleton.1 hu]; rfl, by unfold maxLen; omega, by omega⟩
        clear hrow ho hz1
        have hsu : Aside (inK gs (k + 1) = inK gs k ++ [k]) := hsu
        obtain ⟨vv, hvv⟩ : ∃ v, v = u3 := ⟨_, rfl⟩
        subst hvv
        go_wp2_with (first | (at_builtin; refine wpList_append_own _ rfl _ _ 25 rfl (s + 1) 3 i0 (.int .i64 0) 1 8 Tryz.underlying25 hi0 hj0 hj1 hj2 rfl (by decide) _ _ _ rfl hrow2 ⟨wr.heap.size, 0, none⟩ 1 1 [.int .i64 (k : Int)] rfl rfl hK.out.1 hK.out.2.1 hK.out.2.2.1 hK.out.2.2.2 hsz2 ?_))
        intro v' w3 hown hgrow hnn
        have hb3 := hgr w3 hgrow
        have hG : Aside (w3.ownsRow (s + 1) 3 1 v' (inK gs (k + 1)).length (ivs (inK gs (k + 1))) ∧ Below (s + 1) W1 w3) := by
          rw [hsu.out, List.length_append]
          refine ⟨?_, hb.trans hb3⟩
          unfold ivs
          rw [List.map_append]
          exact hown
        clear hown hgrow hnn hb3 hb hgr hrow2 hK hsz2
        go_wp2
        go_roundw
        case rel => exact ⟨k + 1, hlt, by go_num, hG.out.1, hG.out.2⟩
        case measure => simp [intOf]; omega
      · have hne : (o == 2) = false := beq_false_of_ne o2
        rw [if_neg o2, List.append_nil] at hsu
        have hA : Aside (wr.ownsRow (s + 1) 3 1 u3 (inK gs (k + 1)).length (ivs (inK gs (k + 1)))) := by rw [hsu]; exact hrow
        clear hrow ho hsu o2
        go_wp2
        go_roundw
        case rel => exact ⟨k + 1, hlt, by go_num, hA.out, hb⟩
        case measure => simp [intOf]; omega
    · have hkn : k = n := by omega
      subst hkn
      have hlt' : ¬ (k : Int) < k := by omega
      have hA : Aside (wr.ownsRow (s + 1) 3 1 u3 (inK gs k).length (ivs (inK gs k))) := hrow
      clear hrow
      go_wp2
      go_ret
      exact ⟨_, rfl, owns_base hA.out (Nat.le_succ s), hb0.trans (hb.mono (Nat.le_succ s))⟩
end Go.Proofs.YtdgnafjllokioaaGreatDoor
/- Kind: a net's values as the document tells them (Eval), walked. -/
set_option autoImplicit false
set_option linter.unusedVariables false
set_option linter.unusedSimpArgs false
namespace Go.Proofs.YtdgnafjllokioaaGreatDoor
open Go.Proofs Go
open Go.RowKit Kb
theorem inK_get {gs : GL} {i n : Nat} (hi : i < n) (ho : opZ gs i = 2) : (inK gs n)[(inK gs i).length]? = some i := by
  have key : ∀ d, ∃ r, inK gs (i + 1 + d) = inK gs i ++ i :: r := fun d => by
    induction d with
    | zero => exact ⟨[], by rw [Nat.add_zero, inK_succ, if_pos ho]⟩
    | succ d ih =>
      obtain ⟨r, hr⟩ := ih
      refine ⟨r ++ (if opZ gs (i + 1 + d) = 2 then [i + 1 + d] else []), ?_⟩
      rw [show i + 1 + (d + 1) = (i + 1 + d) + 1 by omega, inK_succ, hr, List.append_assoc]
      rfl
  obtain ⟨r, hr⟩ := key (n - (i + 1))
  rw [show i + 1 + (n - (i + 1)) = n by omega] at hr
  rw [hr, List.getElem?_append_right (Nat.le_refl _), Nat.sub_self]
  rfl
/-- a box and a row of truth values of the call's own -/
structure BI (s g n : Nat) (u : Value) (vs : List Bool) (w wr : World) : Prop where
  c0 : wr.cell? ⟨s, 0, none⟩ = some u
  row : wr.ownsRow (s + 1) 4 1 (.slice (some ⟨g, 0, none⟩) n n) n (vs.map Value.bool)
  bel : Below s w wr
  sg : s < g
  size : g < wr.heap.size
  len : vs.length = n
theorem BI.below {s g n : Nat} {u : Value} {vs : List Bool} {w wr w' : World} (h : BI s g n u vs w wr) (hb : Below wr.heap.size wr w') : BI s g n u vs w w' := by
  have h1 := h.sg
  have h2 := h.size
  exact ⟨(hb.cell (p := ⟨s, 0, none⟩) (by show s < _; omega)).trans h.c0, own_below' h.row hb, h.bel.trans (hb.mono (by omega)), h1, Nat.lt_of_lt_of_le h2 hb.size, h.len⟩
theorem BI.alloc {s g n : Nat} {u : Value} {vs : List Bool} {w wr : World} (h : BI s g n u vs w wr) (o : Obj) : BI s g n u vs w (wr.alloc o) := h.below ((Below.refl _ _).alloc (Nat.le_refl _) o)
theorem BI.set {s g n : Nat} {u : Value} {vs vs' : List Bool} {w wr : World} (h : BI s g n u vs w wr) (k : Nat) (x : Bool) (e : vs.set k x = vs') : BI s g n u vs' w (wr.setCell ⟨g, k, none⟩ (.bool x)) := by
  have h1 := h.sg
  have hst := (h.row.stored k (.bool x)).1
  rw [← List.map_set, e] at hst
  refine ⟨?_, hst, h.bel.setCell (p := ⟨g, k, none⟩) (by show s ≤ g; omega) _, h1, by rw [World.size_setCell]; exact h.size, by rw [← e, List.length_set]; exact h.len⟩
  rw [World.cell?_setCell_other _ ⟨g, k, none⟩ ⟨s, 0, none⟩ _ (by intro e; injection e; omega)]; exact h.c0
theorem BI.bools {s g n : Nat} {u : Value} {vs : List Bool} {w wr : World} (h : BI s g n u vs w wr) : Bools wr (some ⟨g, 0, none⟩) vs := by
  obtain ⟨am, cm, e, _, hB, _⟩ := bools_of (lo := s + 1) (k := n) (ms := vs) h.row h.len
  cases e
  exact hB
theorem BI.cell {s g n : Nat} {u : Value} {vs : List Bool} {w wr : World} (h : BI s g n u vs w wr) {k : Nat} (hk : k < n) : wr.cell? ⟨g, k, none⟩ = some (.bool (vs.getD k false)) ∧ wr.frozen? ⟨g, k, none⟩ = false := by
  refine ⟨?_, h.row.frozenAt k⟩
  have hl := h.len
  rw [h.row.cellAt k (by omega), List.getElem?_map, List.getElem?_eq_getElem (by omega), List.getD_eq_getElem?_getD, List.getElem?_eq_getElem (by omega)]
  rfl
/-- what a call that makes a row of truth values gives -/
def EvalOut (w : World) (vs : List Bool) (e : Ending) (w' : World) : Prop := ∃ v, e = .returned (.tuple #[v, .int .i64 0]) ∧ w'.ownsRow w.heap.size 4 1 v vs.length (vs.map Value.bool) ∧ Below w.heap.size w w'
set_option maxHeartbeats 8000000 in
set_option maxRecDepth 1000000 in
theorem eval_walk (a : Option Addr) (n c : Nat) (gs : GL) (ia : Option Addr) (im ic : Nat) (il v0 : List Bool) (w : World) (hn : gs.length = n) (hlen : n ≤ 1000) (hz : Gates w a gs) (hnet : netOK gs)
    (him : il.length = im) (hil : il = (inputsZ gs).map fun i => v0.getD i false) (h0 : ∀ i, opZ gs i ≠ 2 → v0.getD i false = false) (hiz : Bools w ia il) :
    Calls Tryz.prog 44 #[.agg #[.slice a n c], .slice ia im ic] w (EvalOut w (valZ gs v0 n)) := by
  obtain ⟨s, hs⟩ : ∃ s, w.heap.size = s := ⟨_, rfl⟩
  obtain ⟨W1, hW1⟩ : ∃ W, w.alloc (.cells #[.slice a n c] 24) = W := ⟨_, rfl⟩
  have hb0 : Below s w W1 := by rw [← hW1, ← hs]; exact (Below.refl w.heap.size w).alloc (Nat.le_refl _) _
  have c0 : W1.cell? ⟨s, 0, none⟩ = some (.slice a n c) := by rw [← hW1, ← hs]; exact (cell_new ..).trans rfl
  have hs1 : s + 1 ≤ W1.heap.size := by rw [← hW1, ← hs]; show _ ≤ (w.heap.push _).size; simp
  have hin : inputsZ gs = inK gs n := by unfold inputsZ inK; rw [hn]
  have himl : (inK gs n).length = im := by rw [← him, hil, List.length_map, hin]
  have himn : im ≤ n := by rw [← himl]; exact inK_len gs n
  have hmk26 := fun w => run_make_row' (P := Tryz.prog) 26 4 (.bool false) 1 Tryz.underlying26 info4 rfl .i64 .i64 n (by omega) (by omega) w
  have hchk := fun (W : World) (hb : Below s w W) => (checkNet_walk a n c gs W hn hlen (hz.below (hs ▸ hb))).mono (R' := fun e W' => e = .returned (.int .i64 0) ∧ Below W.heap.size W W') (by
    rintro e W' ⟨v, p1, p2, p3⟩
    rw [p2.2 hnet] at p1
    exact ⟨p1, p3⟩)
  have hinp := fun (W : World) (hb : Below s w W) => (inputs_walk a n c gs W hn hlen (hz.below (hs ▸ hb))).mono (R' := fun e W' => ∃ xa xc, e = .returned (.slice xa im xc) ∧ Below W.heap.size W W') (by
    rintro e W' ⟨v, p1, p2, p3⟩
    obtain ⟨xa, xc, e1⟩ := own_shape p2
    rw [hin, himl] at e1
    rw [e1] at p1
    exact ⟨xa, xc, p1, p3⟩)
  have hgz : ∀ W, Below s w W → Gates W a gs ∧ Bools W ia il := fun W hb => ⟨hz.below (hs ▸ hb), hiz.below (hs ▸ hb)⟩
  unfold EvalOut
  rw [hs, valZ_len]
  clear hz hiz
  go_enter Tryz.func44, Tryz.ntmps44
  go_upto_region 1 with fail
  clear hs hW1
  go_upto_region 6 with (first | (go_at_call 13; refine (hchk _ hb0).mono ?_; rintro e W2 ⟨p1, hb2⟩; rw [p1]; clear p1; replace c0 := cell_b hb2 c0; replace hb0 := hb0.trans (hb2.mono (Nat.le_of_succ_le hs1)); replace hs1 := Nat.le_trans hs1 hb2.size) | (go_at_call 14; refine (hinp _ hb0).mono ?_; rintro e W3 ⟨xa, xc, p1, hb3⟩; rw [p1]; clear p1; replace c0 := cell_b hb3 c0; replace hb0 := hb0.trans (hb3.mono (Nat.le_of_succ_le hs1)); replace hs1 := Nat.le_trans hs1 hb3.size))
  clear hchk hinp
  obtain ⟨g, hg⟩ : ∃ g, W3.heap.size = g := ⟨_, rfl⟩
  obtain ⟨W4, hW4⟩ : ∃ W, W3.alloc (.cells (madeCells #[.bool false] n) 4) = W := ⟨_, rfl⟩
  have hBI : BI s g n (.slice a n c) (outZ gs v0 0) w W4 := by
    have hb4 : Below W3.heap.size W3 W4 := by rw [← hW4]; exact (Below.refl _ _).alloc (Nat.le_refl _) _
    refine ⟨cell_b hb4 c0, ?_, hb0.trans (hb4.mono (by omega)), by omega, by rw [← hW4, ← hg]; show _ < (W3.heap.push _).size; simp, by rw [outZ_len (Nat.zero_le _), hn]⟩
    rw [outZ_zero, hn, List.map_replicate, ← hW4, ← hg]
    exact made_row (heap_new W3 _) (by omega) (by unfold maxLen; omega)
  clear hs1 hb0
  go_upto_region 7 with fail
  clear hg hW4 c0 hmk26
  go_wp2
  go_loopw [8, 9] (fun kv iv wr => ∃ i : Nat, i ≤ n ∧ iv = .int .i64 i ∧ kv = .int .i64 (inK gs i).length ∧ BI s g n (.slice a n c) (outZ gs v0 i) w wr) (fun _ iv _ => n - (intOf iv).toNat)
  case atStart => exact ⟨0, Nat.zero_le _, rfl, rfl, hBI⟩
  case round =>
    clear hBI
    obtain ⟨i, hi, rfl, rfl, hB⟩ := hrel
    have c0 := hB.c0
    by_cases hlt : i < n
    · have hltI : (i : Int) < n := by omega
      obtain ⟨gb, go, rfl, hgb, g0, g1, g2⟩ := (hgz wr hB.bel).1 i (by omega)
      have hok := hnet i (by omega)
      unfold gOK at hok
      obtain ⟨o, ho⟩ : ∃ o, opZ gs i = o := ⟨_, rfl⟩
      obtain ⟨x, hx⟩ : ∃ o, aZ gs i = o := ⟨_, rfl⟩
      obtain ⟨y, hy⟩ : ∃ o, bZ gs i = o := ⟨_, rfl⟩
      rw [ho, hx, hy] at hok
      rw [ho] at g0
      rw [hx] at g1
      rw [hy] at g2
      obtain ⟨q0, q1, q2⟩ := gate_box wr o x y
      have hB2 := hB.alloc (.cells #[.int .i64 o, .int .i64 x, .int .i64 y] 51)
      obtain ⟨r1, r2⟩ := hB2.cell hlt
      rcases hok with ⟨rfl | rfl, rfl, rfl⟩ | ⟨rfl, x1, y1, x2, y2⟩
      · have hnx : BI s g n (.slice (some ⟨gb, go, none⟩) n c) (outZ gs v0 (i + 1)) w (wr.alloc (.cells #[.int .i64 1, .int .i64 0, .int .i64 0] 51)) := by
          rw [outZ_one (by omega) (by omega) (h0 i (by omega))]; exact hB2
        have hin1 : inK gs (i + 1) = inK gs i := by rw [inK_succ, if_neg (by omega), List.append_nil]
        have hA : Aside (BI s g n (.slice (some ⟨gb, go, none⟩) n c) (outZ gs v0 (i + 1)) w (wr.alloc (.cells #[.int .i64 1, .int .i64 0, .int .i64 0] 51)) ∧ inK gs (i + 1) = inK gs i) := ⟨hnx, hin1⟩
        clear hB hB2 hnx hin1 ho hx hy hgz hnet hil him r1 r2 h0
        go_wp2
        go_roundw
        case rel => exact ⟨i + 1, hlt, by go_num, by rw [hA.out.2], hA.out.1⟩
        case measure => simp [intOf]; omega
      · have hset := hB2.set i (v0.getD i false) (outZ_in (v0 := v0) (by omega : i < gs.length) (by omega)).symm
        have hin1 : inK gs (i + 1) = inK gs i ++ [i] := by rw [inK_succ, if_pos ho]
        have hget := inK_get (n := n) hlt ho
        have hjl : (inK gs i).length < im := by rw [← himl]; exact (List.getElem?_eq_some_iff.1 hget).1
        have hv : il.getD (inK gs i).length false = v0.getD i false := by
          rw [hil, hin, List.getD_eq_getElem?_getD, List.getElem?_map, hget]
          rfl
        obtain ⟨ib, io, rfl, hib, hic⟩ := (hgz wr hB.bel).2 (inK gs i).length (by omega)
        rw [hv] at hic
        have hic := cell_b ((Below.refl wr.heap.size wr).alloc (Nat.le_refl _) (.cells #[.int .i64 2, .int .i64 0, .int .i64 0] 51)) hic
        obtain ⟨j, hj⟩ : ∃ j, (inK gs i).length = j := ⟨_, rfl⟩
        have hA : Aside (BI s g n (.slice (some ⟨gb, go, none⟩) n c) (outZ gs v0 (i + 1)) w ((wr.alloc (.cells #[.int .i64 2, .int .i64 0, .int .i64 0] 51)).setCell ⟨g, i, none⟩ (.bool (v0.getD i false))) ∧ (inK gs (i + 1)).length = j + 1) := ⟨hset, by rw [hin1, List.length_append, hj]; rfl⟩
        rw [hj] at hic hjl
        simp only [hj]
        obtain ⟨u, hu⟩ : ∃ u, v0.getD i false = u := ⟨_, rfl⟩
        rw [hu] at hic hA
        have hjI : (j : Int) < im := by omega
        clear hB hB2 hset hin1 ho hx hy hgz hnet hil him hget hv hj hu h0 himl hin
        go_wp2
        go_roundw
        case rel => exact ⟨i + 1, hlt, by go_num, by rw [hA.out.2]; go_num, hA.out.1⟩
        case measure => simp [intOf]; omega
      · have hset := hB2.set (vs' := outZ gs v0 (i + 1)) i (atZ (outZ gs v0 i) x && atZ (outZ gs v0 i) y) (by rw [outZ_and (by omega : i < gs.length) ho (by omega) (by omega) (by omega) (by omega), hx, hy])
        have hin1 : inK gs (i + 1) = inK gs i := by rw [inK_succ, if_neg (by omega), List.append_nil]
        have hol := outZ_len (gs := gs) (v0 := v0) (k := i) (by omega)
        have hwx := wire_walk (some ⟨g, 0, none⟩) n n (outZ gs v0 i) x (wr.alloc (.cells #[.int .i64 3, .int .i64 x, .int .i64 y] 51)) (by omega) (by omega) ⟨by omega, by omega⟩ hB2.bools
        have hwy := wire_walk (some ⟨g, 0, none⟩) n n (outZ gs v0 i) y (wr.alloc (.cells #[.int .i64 3, .int .i64 x, .int .i64 y] 51)) (by omega) (by omega) ⟨by omega, by omega⟩ hB2.bools
        have hA : Aside (BI s g n (.slice (some ⟨gb, go, none⟩) n c) (outZ gs v0 (i + 1)) w ((wr.alloc (.cells #[.int .i64 3, .int .i64 x, .int .i64 y] 51)).setCell ⟨g, i, none⟩ (.bool (atZ (outZ gs v0 i) x && atZ (outZ gs v0 i) y))) ∧ inK gs (i + 1) = inK gs i) := ⟨hset, hin1⟩
        obtain ⟨ux, hux⟩ : ∃ u, atZ (outZ gs v0 i) x = u := ⟨_, rfl⟩
        obtain ⟨uy, huy⟩ : ∃ u, atZ (outZ gs v0 i) y = u := ⟨_, rfl⟩
        rw [hux] at hwx hA
        rw [huy] at hwy hA
        clear hB hB2 hset hin1 ho hx hy hgz hnet hil him hux huy h0 hol
        go_upto_region 18 with (go_at_call 45; refine hwx.mono ?_; rintro e w6 ⟨p1, p2⟩; rw [p1, p2]; clear p1 p2)
        go_upto_region 19 with (go_at_call 45; refine hwy.mono ?_; rintro e w6 ⟨p1, p2⟩; rw [p1, p2]; clear p1 p2)
        clear hwx hwy
        cases ux
        · go_wp2
          go_roundw
          case rel => exact ⟨i + 1, hlt, by go_num, by rw [hA.out.2], hA.out.1⟩
          case measure => simp [intOf]; omega
        · go_wp2
          go_roundw
          case rel => exact ⟨i + 1, hlt, by go_num, by rw [hA.out.2], by simpa using hA.out.1⟩
          case measure => simp [intOf]; omega
    · have hin2 : i = n := by omega
      subst hin2
      have hlt' : ¬ (i : Int) < i := by omega
      have hA : Aside (BI s g i (.slice a i c) (outZ gs v0 i) w wr) := hB
      clear hB
      go_wp2
      go_ret2
      refine ⟨_, rfl, ?_, hA.out.bel⟩
      have := hA.out.row
      have e : outZ gs v0 i = valZ gs v0 i := by rw [← hn]; exact outZ_end gs v0
      rw [e] at this
      exact owns_base this (Nat.le_succ s)
end Go.Proofs.YtdgnafjllokioaaGreatDoor

/- Sat: Solve, walked. -/
import Derived.Test.YtkpppmldbhgcgaaScG
import Derived.Test.YtkpppmldbhgcgaaDpTOtoDpTP
import Derived.Test.YtkpppmldbhgcgaaDpQC
import Derived.Deep.OwnRows
set_option linter.unusedVariables false
set_option linter.unusedSimpArgs false
set_option autoImplicit false
set_option linter.unusedVariables false
set_option linter.unusedSimpArgs false
namespace Go.Proofs.Ytkpppmldbhgcgaa
open Go Go.Shelf Go.RowKit
/-- a proof's cells -/
def pcv (f : Nat → Value) : Nat → List (Bool × List Int) → List Value
  | _, [] => []
  | k, p :: l => .bool p.1 :: f k :: pcv f (k + 1) l
/-- a proof of the call's own -/
def ProofAt (lo : Nat) (w : World) (pv : Value) (ls : List (Bool × List Int)) : Prop :=
  ∃ f : Nat → Value, w.ownsRow lo 44 2 pv ls.length (pcv f 0 ls) ∧ (∀ k p, ls[k]? = some p → w.ownsRow lo 3 1 (f k) p.2.length (p.2.map (Value.int .i64))) ∧
    ∀ k, k < ls.length → ∀ g, (f k).ownBlock = some g → pv.ownBlock ≠ some g ∧ ∀ j, j < ls.length → j ≠ k → (f j).ownBlock ≠ some g
/-- what Solve answers -/
def SolveOut (w : World) (ans : Ans) (e : Ending) (w' : World) : Prop :=
  ∃ mv pv, e = .returned (.tuple #[.agg #[.int .i64 ans.what, mv, pv], .int .i64 0]) ∧ Below w.heap.size w w' ∧ w'.ownsRow w.heap.size 4 1 mv ans.model.length (ans.model.map Value.bool) ∧ ProofAt w.heap.size w' pv ans.proof
theorem pcv_eq (rv : Tg → Value) : ∀ (l : List (Bool × List Int)) (k : Nat), concs rv (pcs k l) = pcv (fun k => rv (.pc k)) k l
  | [], k => rfl
  | p :: l, k => by
    show Value.bool p.1 :: rv (.pc k) :: concs rv (pcs (k + 1) l) = _
    rw [pcv_eq rv l (k + 1)]
    rfl
theorem Rep.proofAt {lo l0 : Nat} {w : World} {own : Nat → Option Tg} {rv : Tg → Value} {S : Sz} (h : Sol lo w own rv S) (hl : l0 ≤ lo) : ProofAt l0 w (rv .prf) S.prf := by
  have mono : ∀ {e : TypeId} {sz : Nat} {v : Value} {n : Nat} {xs : List Value}, w.ownsRow lo e sz v n xs → w.ownsRow l0 e sz v n xs := fun {e sz v n xs} ⟨h1, h2⟩ => ⟨h1, h2.imp id fun ⟨g, cap, cur, a1, a2, a3⟩ => ⟨g, cap, cur, a1, Nat.le_trans hl a2, a3⟩⟩
  refine ⟨fun k => rv (.pc k), ?_, fun k p hp => ?_, fun k hk g hg => ⟨fun e => ?_, fun j hj hjk e => ?_⟩⟩
  · have := ((h.part .prf).1 rfl).row
    have e : concs rv (mem S .prf).cs = pcv (fun k => rv (.pc k)) 0 S.prf := pcv_eq rv S.prf 0
    rw [e] at this
    exact mono this
  · have := ((h.part (.pc k)).1 rfl).row
    have e : mem S (.pc k) = Ytkpppmldbhgcgaa.row (p.2.map vi) := by
      show Ytkpppmldbhgcgaa.row (match S.prf[k]? with | some p => p.2.map vi | none => []) = _
      rw [hp]
    rw [e] at this
    have e2 : concs rv (Ytkpppmldbhgcgaa.row (p.2.map vi)).cs = p.2.map (Value.int .i64) := by
      show (p.2.map vi).map (conc rv) = _
      rw [List.map_map]; rfl
    rw [e2] at this
    have e3 : (Ytkpppmldbhgcgaa.row (p.2.map vi)).n = p.2.length := by show (p.2.map vi).length = _; rw [List.length_map]
    rw [e3] at this
    exact mono this
  · have a := ((h.part (.pc k)).1 rfl).lab g hg
    have b := ((h.part .prf).1 rfl).lab g e
    rw [a] at b
    cases b
  · have a := ((h.part (.pc k)).1 rfl).lab g hg
    have b := ((h.part (.pc j)).1 rfl).lab g e
    rw [a] at b
    cases b
    exact hjk rfl
theorem proofAt_nil (lo : Nat) (w : World) : ProofAt lo w (.slice none 0 0) [] :=
  ⟨fun _ => .slice none 0 0, World.ownsRow_nil _ _ _ _, fun k p hp => by simp at hp, fun k hk => by simp at hk⟩
theorem seek_wf {n : Nat} : ∀ (f : Nat) {S : Sz} {budget conf limit left : Int} {r : Int × Sz}, WF n S → seekF f S budget conf limit left = some r → WF n r.2
  | 0, _, _, _, _, _, _, _, h => by cases h
  | f + 1, S, budget, conf, limit, left, r, wf, h => by
    obtain ⟨k', r1, ek, _, hsp, _, _, hA, hB⟩ := seek_eq h
    cases ek
    obtain ⟨wf1, _⟩ := spread_wf wf hsp
    cases hr : r1.1 with
    | some c =>
      obtain ⟨a1, a2⟩ := hA c hr
      by_cases h0 : r1.2.st.length = 0
      · rw [a1 h0]; exact wf1
      · obtain ⟨a3, a4⟩ := a2 h0
        by_cases hb : budget < conf + 1
        · rw [a3 hb]; exact wf1
        · obtain ⟨_, q, p, hq, hp, b1, b2⟩ := a4 hb
          have wfq := (learn_wf wf1 hq).1
          have wfp := (log_wf wfq hp).1
          cases hp9 : p.1 with
          | false => rw [b1 hp9]; exact wfp
          | true =>
            obtain ⟨_, _, S4, a, hbk, ha, l1, l2⟩ := b2 hp9
            have wf4 := (back_wf wfp hbk).1
            by_cases hL : q.2.1.length = 1
            · obtain ⟨t, ht, hs⟩ := l1 hL
              exact seek_wf f (letO_facts wf4 ht).1 hs
            · obtain ⟨_, S6, t, hpu, _, _, ht, hs⟩ := l2 hL
              have wf5 : WF n { S4 with cls := S4.cls ++ [⟨q.2.1, true, false, 1⟩] } := ⟨⟨wf4.ord.big, wf4.ord.sc, wf4.ord.pl, wf4.ord.ov, wf4.ord.ovl⟩, wf4.vals, wf4.lev, wf4.rea, wf4.sav, wf4.seen, wf4.watch, wf4.bump, wf4.scp⟩
              have wf6 := (put_wf wf5 hpu).1
              have wf7 : WF n { S6 with learned := S6.learned + 1 } := ⟨⟨wf6.ord.big, wf6.ord.sc, wf6.ord.pl, wf6.ord.ov, wf6.ord.ovl⟩, wf6.vals, wf6.lev, wf6.rea, wf6.sav, wf6.seen, wf6.watch, wf6.bump, wf6.scp⟩
              exact seek_wf f (letO_facts wf7 ht).1 hs
    | none =>
      obtain ⟨b1, b2⟩ := hB hr
      by_cases hl : left ≤ 0
      · obtain ⟨S4, hbk, _, hs⟩ := b1 hl
        exact seek_wf f (back_wf wf1 hbk).1 hs
      · obtain ⟨q, hd, c1, c2⟩ := b2 hl
        have wf2 := (decide_wf wf1 hd).1
        by_cases h0 : q.1 = 0
        · rw [c1 h0]; exact wf2
        · obtain ⟨sv, t, _, ht, hs⟩ := c2 h0
          have wf3 : WF n { q.2 with st := q.2.st ++ [(q.2.tr.length : Int)] } := ⟨⟨wf2.ord.big, wf2.ord.sc, wf2.ord.pl, wf2.ord.ov, wf2.ord.ovl⟩, wf2.vals, wf2.lev, wf2.rea, wf2.sav, wf2.seen, wf2.watch, wf2.bump, wf2.scp⟩
          exact seek_wf f (letO_facts wf3 ht).1 hs
/-- the two boxes of Solve: the formula, and the answer to come -/
structure Boxes (s : Nat) (vars : Int) (v : Value) (w : World) : Prop where
  c0 : w.cell? ⟨s, 0, none⟩ = some (.int .i64 vars)
  c1 : w.cell? ⟨s, 0 + 1, none⟩ = some v
  r0 : w.cell? ⟨s + 1, 0, none⟩ = some (.int .i64 0)
  r1 : w.cell? ⟨s + 1, 1, none⟩ = some (.slice none 0 0)
  r2 : w.cell? ⟨s + 1, 2, none⟩ = some (.slice none 0 0)
  f0 : w.frozen? ⟨s + 1, 0, none⟩ = false
  f1 : w.frozen? ⟨s + 1, 1, none⟩ = false
  f2 : w.frozen? ⟨s + 1, 2, none⟩ = false
  size : s + 2 ≤ w.heap.size
theorem Boxes.below {s : Nat} {vars : Int} {v : Value} {w w' : World} (h : Boxes s vars v w) (hb : Below w.heap.size w w') : Boxes s vars v w' := by
  have hs := h.size
  have e : ∀ b, b < s + 2 → w'.heap[b]? = w.heap[b]? := fun b h => hb.block b (by omega)
  have c : ∀ b m, b < s + 2 → w'.cell? ⟨b, m, none⟩ = w.cell? ⟨b, m, none⟩ := fun b m h => World.cell?_of_block (a := ⟨b, m, none⟩) (e b h)
  have f : ∀ b m, b < s + 2 → w'.frozen? ⟨b, m, none⟩ = w.frozen? ⟨b, m, none⟩ := fun b m h => World.frozen?_of_block (a := ⟨b, m, none⟩) (e b h)
  exact ⟨(c _ _ (by omega)).trans h.c0, (c _ _ (by omega)).trans h.c1, (c _ _ (by omega)).trans h.r0, (c _ _ (by omega)).trans h.r1, (c _ _ (by omega)).trans h.r2, (f _ _ (by omega)).trans h.f0, (f _ _ (by omega)).trans h.f1, (f _ _ (by omega)).trans h.f2, Nat.le_trans h.size hb.size⟩
theorem Boxes.below2 {s : Nat} {vars : Int} {v : Value} {w w' : World} (h : Boxes s vars v w) (hb : Below (s + 2) w w') : Boxes s vars v w' := by
  have e : ∀ b, b < s + 2 → w'.heap[b]? = w.heap[b]? := fun b h => hb.block b h
  have c : ∀ b m, b < s + 2 → w'.cell? ⟨b, m, none⟩ = w.cell? ⟨b, m, none⟩ := fun b m h => World.cell?_of_block (a := ⟨b, m, none⟩) (e b h)
  have f : ∀ b m, b < s + 2 → w'.frozen? ⟨b, m, none⟩ = w.frozen? ⟨b, m, none⟩ := fun b m h => World.frozen?_of_block (a := ⟨b, m, none⟩) (e b h)
  exact ⟨(c _ _ (by omega)).trans h.c0, (c _ _ (by omega)).trans h.c1, (c _ _ (by omega)).trans h.r0, (c _ _ (by omega)).trans h.r1, (c _ _ (by omega)).trans h.r2, (f _ _ (by omega)).trans h.f0, (f _ _ (by omega)).trans h.f1, (f _ _ (by omega)).trans h.f2, Nat.le_trans h.size hb.size⟩
theorem boxes_new (w : World) (vars : Int) (v : Value) : Boxes w.heap.size vars v ((w.alloc (.cells #[Value.int .i64 vars, v] 24)).alloc (.cells #[.int .i64 0, .slice none 0 0, .slice none 0 0] 30)) := by
  have s1 : (w.alloc (.cells #[Value.int .i64 vars, v] 24)).heap.size = w.heap.size + 1 := by show (w.heap.push _).size = _; simp
  have h1 : ((w.alloc (.cells #[Value.int .i64 vars, v] 24)).alloc (.cells #[.int .i64 0, .slice none 0 0, .slice none 0 0] 30)).heap[w.heap.size]? = some (.cells #[Value.int .i64 vars, v] 24) := (heap_old (heap_new w _)).1
  have h2 := heap_new (w.alloc (.cells #[Value.int .i64 vars, v] 24)) (.cells #[.int .i64 0, .slice none 0 0, .slice none 0 0] 30)
  rw [s1] at h2
  exact ⟨(block_cell h1 0).1.trans rfl, (block_cell h1 1).1.trans rfl, (block_cell h2 0).1.trans rfl, (block_cell h2 1).1.trans rfl, (block_cell h2 2).1.trans rfl, (block_cell h2 0).2, (block_cell h2 1).2, (block_cell h2 2).2, by show _ ≤ (Array.push _ _).size; rw [Array.size_push, s1]; omega⟩
theorem below3 {n b : Nat} {w w1 : World} (h : Below n w w1) (hb : n ≤ b) (x y z : Value) : Below n w (((w1.setCell ⟨b, 0, none⟩ x).setCell ⟨b, 1, none⟩ y).setCell ⟨b, 2, none⟩ z) := by
  have h1 : Below n w (w1.setCell ⟨b, 0, none⟩ x) := h.setCell hb x
  have h2 : Below n w ((w1.setCell ⟨b, 0, none⟩ x).setCell ⟨b, 1, none⟩ y) := h1.setCell hb y
  exact h2.setCell hb z
set_option maxHeartbeats 8000000 in
set_option maxRecDepth 1000000 in
/-- a formula that is none: its errno -/
theorem solve_bad (a : Option Addr) (n c : Nat) (cs : List D.Cl) (vars budget : Int) (w : World) (hn : cs.length = n) (hlen : n ≤ 1000000) (hl : ∀ j, j < n → (cs.getD j default).zs.length ≤ 1000000) (hz : D.Rows' w a cs) (hc : D.checkZ vars cs ≠ 0) :
    Calls Try.prog 10 #[.agg #[.int .i64 vars, .slice a n c], .int .i64 budget] w fun e w' => e = .returned (.tuple #[.agg #[.int .i64 0, .slice none 0 0, .slice none 0 0], .int .i64 (D.checkZ vars cs)]) ∧ Below w.heap.size w w' := by
  have hb0 := (Below.refl w.heap.size w).alloc (Nat.le_refl _) (.cells #[Value.int .i64 vars, Value.slice a n c] 24)
  have hb1 := hb0.alloc hb0.size (.cells #[.int .i64 0, .slice none 0 0, .slice none 0 0] 30)
  have hcw := D.cnf_walk a n c cs vars _ hn (by omega) (fun j hj => by have := hl j hj; omega) (hz.below hb1)
  have hc' : (D.checkZ vars cs == 0) = false := beq_false_of_ne hc
  have hbx := boxes_new w vars (.slice a n c)
  have hcw2 := hcw.mono (R' := fun e w1 => e = .returned (.int .i64 (D.checkZ vars cs)) ∧ Below w.heap.size w w1 ∧ Boxes w.heap.size vars (.slice a n c) w1) (by
    rintro e w1 ⟨p1, h1⟩
    exact ⟨p1, hb1.trans (h1.mono hb1.size), hbx.below h1⟩)
  clear hcw hbx
  go_enter Try.func10, Try.ntmps10
  go_wp2_with (go_at_call 15; refine hcw2.mono ?_; rintro e w1 ⟨p1, h1, ⟨c0, c1, r0, r1, r2, f0, f1, f2, sz⟩⟩; rw [p1]; clear p1)
  refine bodyPost_ret (v := .tuple #[.agg #[.int .i64 0, .slice none 0 0, .slice none 0 0], .int .i64 (D.checkZ vars cs)]) ?_ rfl ?_
  · simp [results, Try.f10, go_sem, r0, r1, r2]
  · exact ⟨rfl, below3 h1 (by omega) _ _ _⟩
theorem keep3 {lo : Nat} {e : TypeId} {sz b n : Nat} {w : World} {v : Value} {xs : List Value} (h : w.ownsRow lo e sz v n xs) (hb : b < lo) (x y z : Value) : (((w.setCell ⟨b, 0, none⟩ x).setCell ⟨b, 1, none⟩ y).setCell ⟨b, 2, none⟩ z).ownsRow lo e sz v n xs :=
  owns_keep h fun g hg => by
    have := (h.lt g hg).1
    rw [Below.heap_setCell _ _ _ _ (show g ≠ b by omega), Below.heap_setCell _ _ _ _ (show g ≠ b by omega), Below.heap_setCell _ _ _ _ (show g ≠ b by omega)]
theorem ProofAt.keep3 {lo b : Nat} {w : World} {pv : Value} {ls : List (Bool × List Int)} (h : ProofAt lo w pv ls) (hb : b < lo) (x y z : Value) : ProofAt lo (((w.setCell ⟨b, 0, none⟩ x).setCell ⟨b, 1, none⟩ y).setCell ⟨b, 2, none⟩ z) pv ls := by
  obtain ⟨f, h1, h2, h3⟩ := h
  exact ⟨f, Ytkpppmldbhgcgaa.keep3 h1 hb _ _ _, fun k p hp => Ytkpppmldbhgcgaa.keep3 (h2 k p hp) hb _ _ _, h3⟩
theorem owns_base {lo l0 : Nat} {e : TypeId} {sz n : Nat} {w : World} {v : Value} {xs : List Value} (h : w.ownsRow lo e sz v n xs) (hl : l0 ≤ lo) : w.ownsRow l0 e sz v n xs :=
  ⟨h.1, h.2.imp id fun ⟨g, cap, cur, a1, a2, a3⟩ => ⟨g, cap, cur, a1, Nat.le_trans hl a2, a3⟩⟩
theorem ProofAt.base {lo l0 : Nat} {w : World} {pv : Value} {ls : List (Bool × List Int)} (h : ProofAt lo w pv ls) (hl : l0 ≤ lo) : ProofAt l0 w pv ls := by
  obtain ⟨f, h1, h2, h3⟩ := h
  exact ⟨f, owns_base h1 hl, fun k p hp => owns_base (h2 k p hp) hl, h3⟩
/-- the model, of which k values are told -/
def modelAt (V k : Nat) (vals : List Int) : List Bool := (List.range (V + 1)).map fun v => v != 0 && (decide (v ≤ k) && decide (vals.getD v 0 = 1))
theorem modelAt_zero (V : Nat) (vals : List Int) : modelAt V 0 vals = List.replicate (V + 1) false := by
  unfold modelAt
  apply List.ext_getElem?
  intro k
  rw [List.getElem?_map, List.getElem?_replicate]
  by_cases hk : k < V + 1
  · rw [List.getElem?_range hk, if_pos hk]
    cases k with
    | zero => rfl
    | succ k => simp
  · rw [List.getElem?_eq_none (by rw [List.length_range]; omega), if_neg hk]; rfl
theorem modelAt_succ {V k : Nat} (hk : k < V) (vals : List Int) : modelAt V (k + 1) vals = (modelAt V k vals).set (k + 1) (decide (vals.getD (k + 1) 0 = 1)) := by
  unfold modelAt
  apply List.ext_getElem?
  intro j
  rw [List.getElem?_set, List.getElem?_map, List.getElem?_map, List.length_map, List.length_range]
  by_cases hj : j < V + 1
  · rw [List.getElem?_range hj]
    by_cases e : k + 1 = j
    · subst e
      rw [if_pos rfl, if_pos hj]
      simp
    · rw [if_neg e]
      simp only [Option.map_some, Option.some.injEq]
      have : decide (j ≤ k + 1) = decide (j ≤ k) := by
        rw [decide_eq_decide]; omega
      rw [this]
  · rw [List.getElem?_eq_none (by rw [List.length_range]; omega)]
    by_cases e : k + 1 = j
    · omega
    · rw [if_neg e]; rfl
theorem modelAt_end (V : Nat) (vals : List Int) : modelAt V V vals = (List.range (V + 1)).map fun v => v != 0 && decide (vals.getD v 0 = 1) := by
  unfold modelAt
  apply List.map_congr_left
  intro v hv
  have : v ≤ V := by have := List.mem_range.1 hv; omega
  simp [this]
theorem modelAt_len (V k : Nat) (vals : List Int) : (modelAt V k vals).length = V + 1 := by unfold modelAt; simp
set_option maxHeartbeats 8000000 in
set_option maxRecDepth 1000000 in
theorem solve_walk (a : Option Addr) (n c : Nat) (cs : List D.Cl) (V : Nat) (budget : Int) (w : World) (hn : cs.length = n) (hlen : n ≤ 1000000) (hl : ∀ j, j < n → (cs.getD j default).zs.length ≤ 1000000) (hb : ∀ j, j < n → ∀ x ∈ (cs.getD j default).zs, x.natAbs ≤ 1000000) (hz : D.Rows' w a cs) (hc : D.checkZ V cs = 0) (hV : V ≤ 900000) {f : Nat} {ans : Ans} (hr : solveK f V (cs.map D.Cl.zs) budget = some ans) :
    Calls Try.prog 10 #[.agg #[.int .i64 (V : Int), .slice a n c], .int .i64 budget] w (SolveOut w ans) := by
  have hb0 := (Below.refl w.heap.size w).alloc (Nat.le_refl _) (.cells #[Value.int .i64 (V : Int), Value.slice a n c] 24)
  have hb1 := hb0.alloc hb0.size (.cells #[.int .i64 0, .slice none 0 0, .slice none 0 0] 30)
  obtain ⟨s, hs⟩ : ∃ s, w.heap.size = s := ⟨_, rfl⟩
  have hcw := D.cnf_walk a n c cs (V : Int) _ hn (by omega) (fun j hj => by have := hl j hj; omega) (hz.below hb1)
  rw [hc] at hcw
  have hbx := boxes_new w (V : Int) (.slice a n c)
  obtain ⟨r, hr1, hr⟩ := Option.bind_eq_some_iff.1 hr
  obtain ⟨q, hq, hr⟩ := Option.bind_eq_some_iff.1 hr
  obtain ⟨rb, hrb⟩ : ∃ rb, r.1 = rb := ⟨_, rfl⟩
  rw [hrb] at hq
  -- what making leaves
  have hmk : ∀ w1, Below s w w1 → Boxes s (V : Int) (.slice a n c) w1 → Calls Try.prog 16 #[.agg #[.int .i64 (V : Int), .slice a n c]] w1 fun e w2 => ∃ b own rv, e = .returned (.tuple #[.pointer (some ⟨b, 0, none⟩), .bool rb]) ∧ Boxes s (V : Int) (.slice a n c) w2 ∧ Below s w w2 ∧ Sol (w1.heap.size + 1) w2 own rv r.2 ∧ rv .x = .pointer (some ⟨b, 0, none⟩) ∧ WF (V + 1) r.2 := by
    intro w1 h1 h2
    subst hs
    refine (made_walk a n c cs V w1 hn hlen hl hb (hz.below h1) hV hr1).mono ?_
    rintro e w2 ⟨b, own, rv, p1, p2, p3, p4, p5⟩
    rw [hrb] at p1
    exact ⟨b, own, rv, p1, h2.below p4.toBelow, h1.trans (p4.toBelow.mono h1.size), p2, p3, p5⟩
  have hcw2 := hcw.mono (R' := fun e w1 => e = .returned (.int .i64 0) ∧ Below s w w1 ∧ Boxes s (V : Int) (.slice a n c) w1) (by
    subst hs
    rintro e w1 ⟨p1, h1⟩
    exact ⟨p1, hb1.trans (h1.mono hb1.size), hbx.below h1⟩)
  rw [hs] at hbx
  clear hcw hbx
  go_enter Try.func10, Try.ntmps10
  go_upto_region 6 with (first | (go_at_call 15; refine hcw2.mono ?_; rintro e w1 ⟨p1, h1, hB1⟩; rw [p1]; clear p1; have c0 := hB1.c0; have c1 := hB1.c1) | (go_at_call 16; refine (hmk _ h1 hB1).mono ?_; rintro e w2 ⟨xb, own, rv, p1, hB2, h2, hS, hx, hwf⟩; rw [p1]; clear p1))
  obtain ⟨lo, hlo⟩ : ∃ lo, w1.heap.size + 1 = lo := ⟨_, rfl⟩
  have hlo2 : s + 3 ≤ lo := by have := hB1.size; omega
  rw [hlo] at hS
  clear hmk hcw2 c0 c1 hB1 h1 hb0 hb1 hr1 hlo
  go_cut [23] from 24 (fun what wx => what = .bool rb ∧ wx = w2)
  case first =>
    go_wp2
    go_meet
    exact ⟨rfl, rfl⟩
  obtain ⟨rfl, e2⟩ := hcut
  have e2 := e2.symm
  subst e2
  rename_i K1 hK1 K2 hK2
  refine hK2 _ _ ?_
  clear hK2 K2
  go_cut [9] from 24 (fun what wx => what = .int .i64 q.1 ∧ Boxes s (V : Int) (.slice a n c) wx ∧ Below s w wx ∧ WF (V + 1) q.2 ∧ ∃ own rv, Sol lo wx own rv q.2 ∧ rv .x = .pointer (some ⟨xb, 0, none⟩))
  case first =>
    cases rb with
    | false =>
      have hq2 : q = (2, r.2) := by
        exact (Option.some.inj hq).symm
      go_wp2
      go_meet
      rw [hq2]
      exact ⟨rfl, hB2, h2, hwf, _, _, hS, hx⟩
    | true =>
      have hq2 : seekF f r.2 (max 0 budget) 0 100 100 = some q := by
        exact hq
      have hsk := seek_walk hS hwf (by omega) hq2
      have hwq := seek_wf f hwf hq2
      rw [hx] at hsk
      have hsk2 := hsk.mono (R' := fun e wx => e = .returned (.int .i64 q.1) ∧ Boxes s (V : Int) (.slice a n c) wx ∧ Below s w wx ∧ ∃ own rv, Sol lo wx own rv q.2 ∧ rv .x = .pointer (some ⟨xb, 0, none⟩)) (by
        rintro e wx ⟨p1, own', rv', p2, p3, p4⟩
        have hb3 : Below s w2 wx := ⟨p3.os, p3.tape, p3.output, p3.size, fun k hk => p3.keep k (by have := hB2.size; omega) (by
          cases ho : own k with
          | none => rfl
          | some t => have := (hS.dom k t ho).1; omega)⟩
        have hb4 : Below (s + 2) w2 wx := ⟨p3.os, p3.tape, p3.output, p3.size, fun k hk => p3.keep k (by have := hB2.size; omega) (by
          cases ho : own k with
          | none => rfl
          | some t => have := (hS.dom k t ho).1; omega)⟩
        exact ⟨p1, hB2.below2 hb4, h2.trans hb3, own', rv', p2, p4⟩)
      have hwq' := Hid'.mk hwq
      clear hsk hS hwq hq2 hB2 h2 hwf
      go_wp2_with (go_at_call 17; refine hsk2.mono ?_; rintro e w3 ⟨p1, hB3, h3, hS3⟩; rw [p1]; clear p1)
      go_meet
      exact ⟨rfl, hB3, h3, hwq'.h, hS3⟩
  case rest =>
    clear hq hS hx hwf hB2 h2
    obtain ⟨rfl, hB, hw, hwf, own, rv, hS, hx⟩ := hcut
    obtain ⟨qw, hqw⟩ : ∃ x, q.1 = x := ⟨_, rfl⟩
    rw [hqw] at hr ⊢
    have r0 := hB.r0
    have r1 := hB.r1
    have r2 := hB.r2
    have f0 := hB.f0
    have f1 := hB.f1
    have f2 := hB.f2
    have hsz := hB.size
    by_cases h3 : qw = 3
    · -- [A
      subst h3
      have ha : ans = ⟨3, [], []⟩ := (Option.some.inj hr).symm
      clear hS hx hwf hr
      go_wp2
      (try simp only [Exit.inBlock, Exit.then, Exit.jump])
      refine bodyPost_ret (v := .tuple #[.agg #[.int .i64 3, .slice none 0 0, .slice none 0 0], .int .i64 0]) ?_ rfl ?_
      · simp [results, Try.f10, go_sem, r0, r1, r2]
      · try rw [ha]
        exact ⟨_, _, rfl, by rw [hs]; exact below3 hw (by omega) _ _ _, World.ownsRow_nil _ _ _ _, proofAt_nil _ _⟩
      -- A]
    · have h3' : (qw == 3) = false := beq_false_of_ne h3
      rw [if_neg h3] at hr
      by_cases h1 : qw = 1
      · -- [B
        subst h1
        have ha : ans = ⟨1, modelAt V V q.2.vals, []⟩ := by rw [modelAt_end]; exact (Option.some.inj hr).symm
        have hmk27 := fun w => run_make_row' (P := Try.prog) 27 4 (.bool false) 1 Try.underlying27 info4m rfl .i64 .i64 (V + 1) (by omega) (by omega) w
        have hcast1 : ((V + 1 : Nat) : Int) = (V : Int) + 1 := by omega
        simp only [hcast1] at hmk27
        have c0 := hB.c0
        have hrow := made_row (lo := s + 2) (n := V + 1) (heap_new wc (.cells (madeCells #[.bool false] (V + 1)) 4)) hsz (by unfold maxLen; omega)
        have hgn : own wc.heap.size = none := by
          cases ho : own wc.heap.size with
          | none => rfl
          | some t => have := (hS.dom _ t ho).2; omega
        have hS2 := hS.alloc (.cells (madeCells #[.bool false] (V + 1)) 4)
        have hB2 := hB.below2 ((Below.refl (s + 2) wc).alloc hsz (.cells (madeCells #[.bool false] (V + 1)) 4))
        have hw2 := hw.trans ((Below.refl s wc).alloc (by omega) (.cells (madeCells #[.bool false] (V + 1)) 4))
        have hrow' : (wc.alloc (.cells (madeCells #[.bool false] (V + 1)) 4)).ownsRow (s + 2) 4 1 (.slice (some ⟨wc.heap.size, 0, none⟩) (V + 1) (V + 1)) (V + 1) ((modelAt V 0 q.2.vals).map Value.bool) := by
          rw [modelAt_zero, List.map_replicate]; exact hrow
        clear hS hB hw hrow r0 r1 r2 f0 f1 f2 hr
        go_wp2
        go_loopw [11] (fun i wx => ∃ (k : Nat), k ≤ V ∧ i = .int .i64 (k + 1 : Nat) ∧ wx.ownsRow (s + 2) 4 1 (.slice (some ⟨wc.heap.size, 0, none⟩) (V + 1) (V + 1)) (V + 1) ((modelAt V k q.2.vals).map Value.bool) ∧ Sol lo wx own rv q.2 ∧ Boxes s (V : Int) (.slice a n c) wx ∧ Below s w wx) (fun i _ => V + 1 - (intOf i).toNat)
        case atStart => exact ⟨0, Nat.zero_le _, rfl, hrow', hS2, hB2, hw2⟩
        case round =>
          clear hrow' hS2 hB2 hw2 c0 hmk27
          obtain ⟨k, hk, rfl, hrow, hS, hB, hw⟩ := hrel
          have c0 := hB.c0
          have hkI : ((k + 1 : Nat) : Int) = (k : Int) + 1 := by omega
          by_cases hkV : k < V
          · obtain ⟨gv, cv, H6, q6⟩ := hS.headN (T := .vals) (m := 6) (n := V + 1) hx rfl rfl (by show (q.2.vals.map _).length = V + 1; rw [List.length_map]; exact hwf.vals.1) (by omega)
            have c6 := H6.cell
            have l6 := H6.le
            have l6I : ((V + 1 : Nat) : Int) ≤ cv := by omega
            obtain ⟨y, hy⟩ : ∃ y, q.2.vals.getD (k + 1) 0 = y := ⟨_, rfl⟩
            have cy := (hS.hcell H6.val (map_get (f := fun v => .val (.int .i8 v)) (list_get 0 (l := q.2.vals) (i := k + 1) (by rw [hwf.vals.1]; omega)))).1
            rw [hy] at cy
            replace cy : wr.cell? ⟨gv, k + 1, none⟩ = some (.int .i8 y) := cy
            have cg := hrow.cellAt (k + 1) (by omega)
            have cf := hrow.frozenAt (k + 1)
            rw [List.getElem?_map, List.getElem?_eq_getElem (by rw [modelAt_len]; omega)] at cg
            replace cg : wr.cell? ⟨wc.heap.size, k + 1, none⟩ = some (.bool ((modelAt V k q.2.vals)[k + 1]'(by rw [modelAt_len]; omega))) := cg
            have hst := (hrow.stored (k + 1) (.bool (decide (y = 1)))).1
            have hms := modelAt_succ hkV q.2.vals
            rw [hy] at hms
            rw [← List.map_set, ← hms] at hst
            have hS3 := hS.foreign hgn (m := k + 1) (.bool (decide (y = 1)))
            have hgs : s + 2 ≤ wc.heap.size := by omega
            have hB3 := hB.below2 ((Below.refl (s + 2) wr).setCell (p := ⟨wc.heap.size, k + 1, none⟩) hgs (.bool (decide (y = 1))))
            have hw3 := hw.trans ((Below.refl s wr).setCell (p := ⟨wc.heap.size, k + 1, none⟩) (show s ≤ wc.heap.size by omega) (.bool (decide (y = 1))))
            have hkI2 : (k : Int) + 1 ≤ V := by omega
            have hdec : (y == 1) = decide (y = 1) := by rw [Bool.eq_iff_iff]; simp
            clear hrow hS hB hw
            simp only [hkI]
            go_wp2
            exact ⟨⟨k + 1, hkV, by go_num, hst, hS3, hB3, hw3⟩, by simp only [intOf]; omega⟩
          · have hkV2 : k = V := by omega
            subst hkV2
            have r0 := hB.r0
            have r1 := hB.r1
            have r2 := hB.r2
            have f0 := hB.f0
            have f1 := hB.f1
            have f2 := hB.f2
            have hkI2 : ¬ ((k : Int) + 1 ≤ k) := by omega
            simp only [hkI]
            clear hS hB
            go_wp2
            (try simp only [Exit.inBlock, Exit.then, Exit.jump])
            refine bodyPost_ret (v := .tuple #[.agg #[.int .i64 1, .slice (some ⟨wc.heap.size, 0, none⟩) (k + 1) (k + 1), .slice none 0 0], .int .i64 0]) ?_ rfl ?_
            · simp [results, Try.f10, go_sem, r0, r1, r2]
            · try rw [ha]
              have hrow2 := (Ytkpppmldbhgcgaa.keep3 hrow (show s + 1 < s + 2 by omega) (.int .i64 1) (.slice (some ⟨wc.heap.size, 0, none⟩) (k + 1) (k + 1)) (.slice none 0 0))
              have e1 : (modelAt k k q.2.vals).length = k + 1 := modelAt_len _ _ _
              refine ⟨_, _, rfl, by rw [hs]; exact below3 hw (by omega) _ _ _, ?_, proofAt_nil _ _⟩
              show World.ownsRow _ w.heap.size 4 1 _ (modelAt k k q.2.vals).length _
              rw [e1]
              exact owns_base hrow2 (by omega)
        -- B]
      · have h1' : (qw == 1) = false := beq_false_of_ne h1
        rw [if_neg h1] at hr
        obtain ⟨p, hp, hr⟩ := Option.bind_eq_some_iff.1 hr
        -- [C
        have hlg := log_walk hS hx (cloneOK_nil wc xb 0) hp
        rw [hx] at hlg
        obtain ⟨pb, hpb⟩ : ∃ pb, p.1 = pb := ⟨_, rfl⟩
        rw [hpb] at hlg hr
        have hlg2 := hlg.mono (R' := fun e wx => e = .returned (.bool pb) ∧ Boxes s (V : Int) (.slice a n c) wx ∧ Below s w wx ∧ ∃ a14 k14 c14, wx.cell? ⟨xb, 14, none⟩ = some (.slice a14 k14 c14) ∧ ProofAt (s + 2) wx (.slice a14 k14 c14) p.2.prf) (by
          rintro e wx ⟨p1, own', rv', p2, p3, p4⟩
          have hb4 : Below (s + 2) wc wx := ⟨p3.os, p3.tape, p3.output, p3.size, fun k hk => p3.keep k (by omega) (by
            cases ho : own k with
            | none => rfl
            | some t => have := (hS.dom k t ho).1; omega)⟩
          have hx' : rv' .x = .pointer (some ⟨xb, 0, none⟩) := (p4 .x (by intro e; cases e) (by intro k e; cases e)).trans hx
          obtain ⟨a14, c14, H14⟩ := p2.headX (T := .prf) (m := 14) (k := p.2.prf.length) hx' rfl rfl rfl
          have hpa := p2.proofAt (l0 := s + 2) (by omega)
          rw [H14.val] at hpa
          exact ⟨p1, hB.below2 hb4, hw.trans (hb4.mono (by omega)), a14, _, c14, H14.cell, hpa⟩)
        clear hS hx hwf hlg hp r0 r1 r2 f0 f1 f2
        cases pb with
        | false =>
          have ha : ans = ⟨3, [], []⟩ := (Option.some.inj hr).symm
          clear hr
          go_wp2_with (go_at_call 18; refine hlg2.mono ?_; rintro e w3 ⟨p1, ⟨_, _, r0, r1, r2, f0, f1, f2, _⟩, h3, _⟩; rw [p1]; clear p1)
          (try simp only [Exit.inBlock, Exit.then, Exit.jump])
          refine bodyPost_ret (v := .tuple #[.agg #[.int .i64 3, .slice none 0 0, .slice none 0 0], .int .i64 0]) ?_ rfl ?_
          · simp [results, Try.f10, go_sem, r0, r1, r2]
          · try rw [ha]
            exact ⟨_, _, rfl, by rw [hs]; exact below3 h3 (by omega) _ _ _, World.ownsRow_nil _ _ _ _, proofAt_nil _ _⟩
        | true =>
          have ha : ans = ⟨2, [], p.2.prf⟩ := (Option.some.inj hr).symm
          clear hr
          go_wp2_with (go_at_call 18; refine hlg2.mono ?_; rintro e w3 ⟨p1, ⟨_, _, r0, r1, r2, f0, f1, f2, _⟩, h3, a14, k14, c14, c14', hpa⟩; rw [p1]; clear p1)
          (try simp only [Exit.inBlock, Exit.then, Exit.jump])
          refine bodyPost_ret (v := .tuple #[.agg #[.int .i64 2, .slice none 0 0, .slice a14 k14 c14], .int .i64 0]) ?_ rfl ?_
          · simp [results, Try.f10, go_sem, r0, r1, r2]
          · try rw [ha]
            exact ⟨_, _, rfl, by rw [hs]; exact below3 h3 (by omega) _ _ _, World.ownsRow_nil _ _ _ _, (hpa.keep3 (by omega) _ _ _).base (by omega)⟩
        -- C]
end Go.Proofs.Ytkpppmldbhgcgaa

/- Sat: the program is alive, walked. -/
import Derived.Test.YtkpppmldbhgcgaaScItoScJ
import Derived.Test.YtkpppmldbhgcgaaDpPDtoDpQA
import Derived.Test.YtkpppmldbhgcgaaRows
import Derived.WalkKit
import Derived.ProofKit
import Derived.OpenShut
set_option linter.unusedVariables false
set_option linter.unusedSimpArgs false
set_option autoImplicit false
set_option linter.unusedVariables false
set_option linter.unusedSimpArgs false
namespace Go.Proofs.Ytkpppmldbhgcgaa
open Go Go.Shelf Go.RowKit
/-- it answers true, and old memory is as it was -/
def AlOut (w : World) (e : Ending) (w' : World) : Prop := e = .returned (.bool true) ∧ Below w.heap.size w w'
def al1 (w : World) (s : Nat) : World := ((w.alloc (.cells #[.int .i64 1, .int .i64 2] 3)).alloc (.cells #[.int .i64 (-1)] 3)).alloc (.cells #[.slice (some ⟨s, 0, none⟩) 2 2, .slice (some ⟨s + 1, 0, none⟩) 1 1] 40)
def al2 (w : World) (s : Nat) : World := ((w.alloc (.cells #[.int .i64 1] 3)).alloc (.cells #[.int .i64 (-1)] 3)).alloc (.cells #[.slice (some ⟨s, 0, none⟩) 1 1, .slice (some ⟨s + 1, 0, none⟩) 1 1] 40)
theorem below_3 (w : World) (o1 o2 o3 : Obj) : Below w.heap.size w (((w.alloc o1).alloc o2).alloc o3) := by
  have h := below2 w o1 o2
  exact h.alloc h.size o3
theorem solve1 (w : World) (s : Nat) (hs : w.heap.size = s) : Calls Try.prog 10 #[.agg #[.int .i64 2, .slice (some ⟨s + 2, 0, none⟩) 2 2], .int .i64 1000000] (al1 w s) fun e w' => ∃ (g cm : Nat) (pa : Option Addr) (pc : Nat), e = .returned (.tuple #[.agg #[.int .i64 1, .slice (some ⟨g, 0, none⟩) 3 cm, .slice pa 0 pc], .int .i64 0]) ∧ Below s w w' ∧ 3 ≤ cm ∧ w'.cell? ⟨g, 1, none⟩ = some (.bool false) ∧ w'.cell? ⟨g, 2, none⟩ = some (.bool true) ∧ g < w'.heap.size := by
  have hr := two_rows w [1, 2] [-1] s hs
  have hb : Below w.heap.size w (al1 w s) := below_3 w _ _ _
  have := solve_walk (some ⟨s + 2, 0, none⟩) 2 2 [⟨some ⟨s, 0, none⟩, 2, [1, 2]⟩, ⟨some ⟨s + 1, 0, none⟩, 1, [-1]⟩] 2 1000000 (al1 w s) rfl (by omega) (fun j hj => by
    match j, hj with
    | 0, _ => exact (by decide : 2 ≤ 1000000)
    | 1, _ => exact (by decide : 1 ≤ 1000000)) (fun j hj x hx => by
    match j, hj with
    | 0, _ =>
      have hx : x ∈ [(1 : Int), 2] := hx
      simp at hx
      omega
    | 1, _ =>
      have hx : x ∈ [(-1 : Int)] := hx
      simp at hx
      omega) hr rfl (by omega) alive1
  refine this.mono ?_
  rintro e w' ⟨mv, pv, p1, p2, p3, p4⟩
  obtain ⟨am, cm, e1, hc, hB, hg⟩ := bools_of p3 rfl
  obtain ⟨g, rfl, _⟩ := hg (by decide)
  obtain ⟨pa, pc, lns, e2, _, _, _⟩ := lines_of p4
  subst e1 e2
  obtain ⟨b1, o1, q1, q2, q3⟩ := hB 1 (by decide)
  obtain ⟨b2, o2, q4, q5, q6⟩ := hB 2 (by decide)
  cases q1
  cases q4
  subst hs
  exact ⟨g, cm, pa, pc, p1, hb.trans (p2.mono hb.size), hc, q3, q6, q2⟩
theorem solve2 (w : World) (s : Nat) (hs : w.heap.size = s) : Calls Try.prog 10 #[.agg #[.int .i64 1, .slice (some ⟨s + 2, 0, none⟩) 2 2], .int .i64 1000000] (al2 w s) fun e w' => ∃ (am : Option Addr) (cm : Nat) (pa : Option Addr) (pc : Nat), e = .returned (.tuple #[.agg #[.int .i64 2, .slice am 0 cm, .slice pa 1 pc], .int .i64 0]) ∧ Below s w w' := by
  have hr := two_rows w [1] [-1] s hs
  have hb : Below w.heap.size w (al2 w s) := below_3 w _ _ _
  have := solve_walk (some ⟨s + 2, 0, none⟩) 2 2 [⟨some ⟨s, 0, none⟩, 1, [1]⟩, ⟨some ⟨s + 1, 0, none⟩, 1, [-1]⟩] 1 1000000 (al2 w s) rfl (by omega) (fun j hj => by
    match j, hj with
    | 0, _ => exact (by decide : 1 ≤ 1000000)
    | 1, _ => exact (by decide : 1 ≤ 1000000)) (fun j hj x hx => by
    match j, hj with
    | 0, _ =>
      have hx : x ∈ [(1 : Int)] := hx
      simp at hx
      omega
    | 1, _ =>
      have hx : x ∈ [(-1 : Int)] := hx
      simp at hx
      omega) hr rfl (by omega) alive2
  refine this.mono ?_
  rintro e w' ⟨mv, pv, p1, p2, p3, p4⟩
  obtain ⟨am, cm, e1, _, _, _⟩ := bools_of p3 rfl
  obtain ⟨pa, pc, lns, e2, _, _, _⟩ := lines_of p4
  subst hs e1 e2
  exact ⟨am, cm, pa, pc, p1, hb.trans (p2.mono hb.size)⟩
set_option maxHeartbeats 8000000 in
set_option maxRecDepth 1000000 in
theorem alive_walk (w : World) : Calls Try.prog 8 #[] w (AlOut w) := by
  obtain ⟨s, hs⟩ : ∃ s, w.heap.size = s := ⟨_, rfl⟩
  have h1 := solve1 w s hs
  unfold al1 at h1
  have h2 := solve2
  unfold al2 at h2
  have hn := fun x w => D.num_walk x w
  go_enter Try.func8, Try.ntmps8
  go_upto_region 2 with (go_at_call 10; refine h1.mono ?_; rintro e w1 ⟨g, cm, pa, pc, p1, b1, hcm, c1, c2, hg⟩; rw [p1]; clear p1)
  obtain ⟨W1, hW1⟩ : ∃ W, w1.alloc (Obj.cells #[Value.int .i64 1, .slice (some ⟨g, 0, none⟩) 3 cm, .slice pa 0 pc] 30) = W := ⟨_, rfl⟩
  rw [hW1]
  have hnew : W1.heap[w1.heap.size]? = some (Obj.cells #[Value.int .i64 1, .slice (some ⟨g, 0, none⟩) 3 cm, .slice pa 0 pc] 30) := by rw [← hW1]; exact heap_new w1 _
  have hbW : Below w1.heap.size w1 W1 := by rw [← hW1]; exact (Below.refl _ _).alloc (Nat.le_refl _) _
  have hsW : W1.heap.size = w1.heap.size + 1 := by rw [← hW1]; show (w1.heap.push _).size = _; simp
  have k0 := (block_cell hnew 0).1
  have k1 := (block_cell hnew 1).1
  have k3 := (hbW.cell (p := ⟨g, 1, none⟩) hg).trans c1
  have k4 := (hbW.cell (p := ⟨g, 2, none⟩) hg).trans c2
  replace k0 : W1.cell? ⟨w1.heap.size, 0, none⟩ = some (.int .i64 1) := k0
  replace k1 : W1.cell? ⟨w1.heap.size, 1, none⟩ = some (.slice (some ⟨g, 0, none⟩) 3 cm) := k1
  have hB1 : Below s w W1 := b1.trans (hbW.mono (by have := b1.size; omega))
  obtain ⟨b0, hb0⟩ : ∃ b, w1.heap.size = b := ⟨_, rfl⟩
  rw [hb0] at k0 k1 hsW ⊢
  have hgb : g < b0 := by omega
  obtain ⟨b1', hb1'⟩ : ∃ b, b0 + 1 = b := ⟨_, rfl⟩
  rw [hb1'] at hsW
  have h22 := (h2 W1 b1' hsW).mono (R' := fun e w2 => ∃ (am : Option Addr) (cm' : Nat) (pa : Option Addr) (pc : Nat), e = .returned (.tuple #[.agg #[.int .i64 2, .slice am 0 cm', .slice pa 1 pc], .int .i64 0]) ∧ Below s w w2 ∧ (w2.cell? ⟨b0, 0, none⟩ = some (.int .i64 1) ∧ w2.cell? ⟨b0, 1, none⟩ = some (.slice (some ⟨g, 0, none⟩) 3 cm) ∧ w2.cell? ⟨g, 1, none⟩ = some (.bool false) ∧ w2.cell? ⟨g, 2, none⟩ = some (.bool true)) ∧ b0 < w2.heap.size ∧ g < w2.heap.size) (by
    rintro e w2 ⟨am, cm', pa, pc, p1, p2⟩
    have hs2 := p2.size
    exact ⟨am, cm', pa, pc, p1, hB1.trans (p2.mono (by have := hB1.size; omega)), ⟨(p2.cell (p := ⟨b0, 0, none⟩) (by show b0 < _; omega)).trans k0, (p2.cell (p := ⟨b0, 1, none⟩) (by show b0 < _; omega)).trans k1, (p2.cell (p := ⟨g, 1, none⟩) (by show g < _; omega)).trans k3, (p2.cell (p := ⟨g, 2, none⟩) (by show g < _; omega)).trans k4⟩, by omega, by omega⟩)
  have hcmI : (3 : Int) ≤ cm := by omega
  clear h1 h2 hnew hbW c1 c2 hg k0 k1 k3 k4 hW1
  go_upto_region 3 with (go_at_call 10; refine h22.mono ?_; rintro e w2 ⟨am, cm', pa', pc', p1, b2, ⟨k0, k1, k3, k4⟩, h3, h4⟩; rw [p1]; clear p1)
  go_wp2_with (go_at_call 12; refine (hn _ _).mono ?_; rintro e w3 ⟨p1, p2⟩; rw [p1, p2]; clear p1 p2)
  go_ret
  subst hs
  exact ⟨rfl, b2.trans ((Below.refl _ _).alloc b2.size _)⟩
end Go.Proofs.Ytkpppmldbhgcgaa
/- Sat: a formula that a law builds, as it grows in memory; CheckFormula over lists. -/
set_option autoImplicit false
set_option linter.unusedVariables false
set_option linter.unusedSimpArgs false
namespace Go.Proofs.Ytkpppmldbhgcgaa
open Go Go.Shelf Go.RowKit
theorem add_plain' (b m j : Nat) : (⟨b, m, none⟩ : Addr).add j = ⟨b, m + j, none⟩ := D.add_plain b m j
/-- clauses v and, being made, a clause cv -/
structure HSt (base : Nat) (w : World) (v cv : Value) (cs : List D.Cl) (zs : List Int) : Prop where
  rows : w.ownsRow base 40 1 v cs.length (cs.map D.rowV)
  cls : ∀ c ∈ cs, w.ownsRow base 3 1 (D.rowV c) c.zs.length (c.zs.map (Value.int .i64))
  cur : w.ownsRow base 3 1 cv zs.length (zs.map (Value.int .i64))
  sep : ∀ c ∈ cs, ∀ g, (D.rowV c).ownBlock = some g → cv.ownBlock ≠ some g
/-- a row of one kind stays where a row of another kind grows -/
theorem own_grown {w w' : World} {base base' e e' size size' n n' : Nat} {v v' : Value} {xs xs' : List Value} (h : w.ownsRow base e size v n xs) (hv : w.ownsRow base' e' size' v' n' xs') (hne : e ≠ e') (hg : w.grownBy w' v'.ownBlock) : w'.ownsRow base e size v n xs := by
  refine owns_keep h fun g hgv => hg.block g (h.lt g hgv).2 fun e2 => ?_
  rcases h.2 with ⟨e4, _⟩ | ⟨g1, cap1, cur1, e4, _, e5, _⟩
  · rw [e4] at hgv; cases hgv
  · rw [e4] at hgv
    cases hgv
    rcases hv.2 with ⟨e6, _⟩ | ⟨g2, cap2, cur2, e6, _, e7, _⟩
    · rw [e6] at e2; cases e2
    · rw [e6] at e2
      cases e2
      rw [e5] at e7
      cases e7
      exact hne rfl
theorem own_below' {w w' : World} {base e size n : Nat} {v : Value} {xs : List Value} (h : w.ownsRow base e size v n xs) (hb : Below w.heap.size w w') : w'.ownsRow base e size v n xs := owns_keep h fun g hg => hb.block g (h.lt g hg).2
theorem HSt.below {base : Nat} {w w' : World} {v cv : Value} {cs : List D.Cl} {zs : List Int} (h : HSt base w v cv cs zs) (hb : Below w.heap.size w w') : HSt base w' v cv cs zs :=
  ⟨own_below' h.rows hb, fun c hc => own_below' (h.cls c hc) hb, own_below' h.cur hb, h.sep⟩
theorem HSt.set {base : Nat} {w : World} {v cv : Value} {cs : List D.Cl} {zs : List Int} (h : HSt base w v cv cs zs) {b m : Nat} (hb : b < base) (u : Value) : HSt base (w.setCell ⟨b, m, none⟩ u) v cv cs zs := by
  have k : ∀ {e size n : Nat} {v : Value} {xs : List Value}, w.ownsRow base e size v n xs → (w.setCell ⟨b, m, none⟩ u).ownsRow base e size v n xs := fun {e size n v xs} h => owns_keep h fun g hg => by
    have := (h.lt g hg).1
    exact Below.heap_setCell _ _ _ _ (show g ≠ b by omega)
  exact ⟨k h.rows, fun c hc => k (h.cls c hc), k h.cur, h.sep⟩
theorem HSt.start (base : Nat) (w : World) : HSt base w (.slice none 0 0) (.slice none 0 0) [] [] :=
  ⟨World.ownsRow_nil _ _ _ _, fun c hc => (by cases hc), World.ownsRow_nil _ _ _ _, fun c hc => (by cases hc)⟩
theorem HSt.fresh {base : Nat} {w : World} {v cv : Value} {cs : List D.Cl} {zs : List Int} (h : HSt base w v cv cs zs) : HSt base w v (.slice none 0 0) cs [] :=
  ⟨h.rows, h.cls, World.ownsRow_nil _ _ _ _, fun c hc g hg e => by cases e⟩
theorem HSt.len {base : Nat} {w : World} {v cv : Value} {cs : List D.Cl} {zs : List Int} (h : HSt base w v cv cs zs) : ∃ a c, v = .slice a cs.length c ∧ cs.length ≤ c := by
  rcases h.rows.2 with ⟨e1, e2⟩ | ⟨g, cap, cur, e1, _, _, hc, _⟩
  · exact ⟨none, 0, by rw [e1, e2], by omega⟩
  · exact ⟨_, cap, e1, hc⟩
theorem HSt.rows' {base : Nat} {w : World} {v cv : Value} {cs : List D.Cl} {zs : List Int} (h : HSt base w v cv cs zs) {a : Option Addr} {n c : Nat} (e : v = .slice a n c) : D.Rows' w a cs := by
  have h1 : D.OwnCl w base v cs := h.rows
  refine h1.rows e fun x hx => ?_
  obtain ⟨e1, e2⟩ := ints_own (h.cls x hx) rfl
  have : adOf (D.rowV x) = x.a := rfl
  rw [this] at e2
  exact e2
/-- a clause that is just made is put behind them -/
theorem HSt.put {base : Nat} {w W : World} {v cv : Value} {cs : List D.Cl} {zs : List Int} (h : HSt base w v cv cs zs) (hlo : base ≤ w.heap.size) (ys : List Int) {g : Nat} {ob : Obj}
    (hW : W = (w.alloc (.cells (ys.map (Value.int .i64)).toArray 3)).alloc ob) (hg : g = w.heap.size) (hy : ys.length ≤ 100) :
    W.ownsRow base 40 1 v cs.length (cs.map D.rowV) ∧ ∀ v' w3, w3.ownsRow base 40 1 v' (cs.length + 1) (cs.map D.rowV ++ [.slice (some ⟨g, 0, none⟩) ys.length ys.length]) → W.grownBy w3 v.ownBlock →
      HSt base w3 v' cv (cs ++ [⟨some ⟨g, 0, none⟩, ys.length, ys⟩]) zs ∧ Below base w w3 := by
  subst hg
  have hb : Below w.heap.size w W := by rw [hW]; exact below2 w _ _
  have hrow := own_below' h.rows hb
  refine ⟨hrow, fun v' w3 q1 q2 => ⟨⟨?_, fun c hc => ?_, own_grown (own_below' h.cur hb) hrow (by decide) q2, fun c hc g hg => ?_⟩, ?_⟩⟩
  · rw [List.length_append, List.map_append]
    exact q1
  · rcases List.mem_append.1 hc with hc | hc
    · exact own_grown (own_below' (h.cls c hc) hb) hrow (by decide) q2
    · rw [List.mem_singleton.1 hc]
      refine own_grown ?_ hrow (by decide) q2
      have hn : W.heap[w.heap.size]? = some (.cells (ys.map (Value.int .i64)).toArray 3) := by rw [hW]; exact (heap_old (heap_new w _)).1
      refine ⟨by simp, .inr ⟨w.heap.size, ys.length, _, rfl, hlo, hn, Nat.le_refl _, by unfold maxLen; show ys.length ≤ _; omega, by simp, by rw [Nat.mul_one, List.take_of_length_le (by simp)]⟩⟩
  · rcases List.mem_append.1 hc with hc | hc
    · exact h.sep c hc g hg
    · rw [List.mem_singleton.1 hc] at hg
      cases hg
      intro e
      have := (h.cur.lt w.heap.size e).2
      omega
  · exact (hb.mono hlo).grown q2 (Nat.le_trans hlo hb.size) fun g hg => (hrow.lt g hg).1
/-- the clause that is being made grows -/
theorem HSt.grow {base : Nat} {w W : World} {v cv : Value} {cs : List D.Cl} {zs : List Int} (h : HSt base w v cv cs zs) (hlo : base ≤ w.heap.size) (x : Int) {ob : Obj} (hW : W = w.alloc ob) :
    W.ownsRow base 3 1 cv zs.length (zs.map (Value.int .i64)) ∧ ∀ v' w3, w3.ownsRow base 3 1 v' (zs.length + 1) (zs.map (Value.int .i64) ++ [.int .i64 x]) → W.grownBy w3 cv.ownBlock → (∃ g, v'.ownBlock = some g ∧ (cv.ownBlock = some g ∨ W.heap.size ≤ g)) →
      HSt base w3 v v' cs (zs ++ [x]) ∧ Below base w w3 := by
  have hb : Below w.heap.size w W := by rw [hW]; exact (Below.refl _ _).alloc (Nat.le_refl _) _
  have hcur := own_below' h.cur hb
  refine ⟨hcur, fun v' w3 q1 q2 q3 => ⟨⟨own_grown (own_below' h.rows hb) hcur (by decide) q2, fun c hc => ?_, ?_, fun c hc g hg e => ?_⟩, ?_⟩⟩
  · refine owns_keep (own_below' (h.cls c hc) hb) fun g hg => q2.block g (((own_below' (h.cls c hc) hb)).lt g hg).2 fun e => h.sep c hc g hg e.symm
  · rw [List.length_append, List.map_append]
    exact q1
  · obtain ⟨g', e1, e2⟩ := q3
    rw [e] at e1
    cases e1
    rcases e2 with e2 | e2
    · exact h.sep c hc g hg e2
    · have := ((h.cls c hc).lt g hg).2
      have := hb.size
      omega
  · exact (hb.mono hlo).grown q2 (Nat.le_trans hlo hb.size) fun g hg => (hcur.lt g hg).1
/-- it is put behind them -/
theorem HSt.done {base : Nat} {w W : World} {v cv : Value} {cs : List D.Cl} {zs : List Int} (h : HSt base w v cv cs zs) (hlo : base ≤ w.heap.size) {ob : Obj} (hW : W = w.alloc ob) {a : Option Addr} {c : Nat} (hcv : cv = .slice a zs.length c) :
    W.ownsRow base 40 1 v cs.length (cs.map D.rowV) ∧ ∀ v' w3, w3.ownsRow base 40 1 v' (cs.length + 1) (cs.map D.rowV ++ [cv]) → W.grownBy w3 v.ownBlock →
      HSt base w3 v' (.slice none 0 0) (cs ++ [⟨a, c, zs⟩]) [] ∧ Below base w w3 := by
  have hb : Below w.heap.size w W := by rw [hW]; exact (Below.refl _ _).alloc (Nat.le_refl _) _
  have hrow := own_below' h.rows hb
  refine ⟨hrow, fun v' w3 q1 q2 => ⟨⟨?_, fun c' hc => ?_, World.ownsRow_nil _ _ _ _, fun c' hc g hg e => by cases e⟩, (hb.mono hlo).grown q2 (Nat.le_trans hlo hb.size) fun g hg => (hrow.lt g hg).1⟩⟩
  · rw [List.length_append, List.map_append]
    rw [hcv] at q1
    exact q1
  · rcases List.mem_append.1 hc with hc | hc
    · exact own_grown (own_below' (h.cls c' hc) hb) hrow (by decide) q2
    · rw [List.mem_singleton.1 hc]
      have := own_grown (own_below' h.cur hb) hrow (by decide) q2
      rw [hcv] at this
      exact this
/-! ### CheckFormula over lists -/
def sizeL (cs : List (List Int)) : Nat := (cs.map fun c => 1 + c.length).sum
theorem total_take (cs : List D.Cl) : ∀ k, k ≤ cs.length → D.total cs k = sizeL ((cs.take k).map D.Cl.zs)
  | 0, _ => by simp [D.total, sizeL]
  | k + 1, hk => by
    unfold D.total
    rw [total_take cs k (by omega), List.take_add_one, List.getElem?_eq_getElem (by omega), List.getD_eq_getElem?_getD, List.getElem?_eq_getElem (by omega)]
    rw [List.map_append]
    unfold sizeL
    rw [List.map_append, List.sum_append]
    simp
    omega
def checkL (vars : Int) (cs : List (List Int)) : Int := if 200000 < vars ∨ 200000 < sizeL cs then 2 else if vars < 0 then 40 else if cs.all (D.fairZ vars) = true then 0 else 40
theorem checkZ_eq (vars : Int) (cs : List D.Cl) : D.checkZ vars cs = checkL vars (cs.map D.Cl.zs) := by
  unfold D.checkZ checkL
  rw [total_take cs cs.length (Nat.le_refl _), List.take_length]
  have : D.fairs vars cs = (cs.map D.Cl.zs).all (D.fairZ vars) := by unfold D.fairs; rw [List.all_map]; rfl
  rw [this]
end Go.Proofs.Ytkpppmldbhgcgaa
/- Sat: from a walk to the given row: what is of no one law. -/
set_option autoImplicit false
set_option linter.unusedVariables false
namespace Go.Proofs.Ytkpppmldbhgcgaa
open Go.ChangeShapes Go.WideShapes Go.ChangeAt Go.RowKit
theorem own_ : ownKnob Try.prog.godebug = none := by kernel_rfl
/-- the row's end, where nothing that was there has changed -/
theorem post_below {H : Type} {enc : TypeId × Value → H} {P : Program} {f : Func} {s : ChangeSpec} {apart fresh handsOn again : Bool} {W W' : World} {args : Array Value} {v : Value} {ds gs : List (DataW H)} {before pa pv : List MemPlace}
    (hW : DataW.Whole enc P f.params.toList s.vars apart W args.toList ds gs before)
    (hres : ∀ (b : Nat) (sp : Nat → Bool) (hd : Bool), DataW.TrodAll enc P W' b sp hd f.resultTypes.toList (v.resultList f.resultTypes.size) (s.fn H (ds ++ gs)).results [])
    (hargs : ∀ sp : Nat → Bool, (∀ p ∈ before, sp p.block = true) → DataW.TrodAll enc P W' 0 sp true f.params.toList args.toList (s.fn H (ds ++ gs)).args pa)
    (hvars : ∀ sp : Nat → Bool, (∀ p ∈ before, sp p.block = true) → DataW.TrodVars enc P W' sp s.vars (s.fn H (ds ++ gs)).vars pv)
    (hps : before = pa ++ pv) (q : Below W.heap.size W W')
    (hok : ∀ (j : Nat) (t : TypeId) (r : Value), f.resultTypes[j]? = some t → (v.resultList f.resultTypes.size)[j]? = some r → Value.okWide P W' .any 0 t r) :
    s.post enc P f apart fresh handsOn again W args v W' := by
  have old : ∀ p ∈ before, p.block < W.heap.size := hW.lt
  have seen : ∀ p ∈ before, (fun b => decide (b < W.heap.size)) p.block = true := fun p hp => decide_eq_true (old p hp)
  have kept : ∀ may : MemPlace → Prop, W.keptBut W' may := fun may => ⟨q.os, q.output, fun i hi => by
    rw [q.block i hi]
    cases W.heap[i]? with
    | none => rfl
    | some o => cases o with
      | cells c t fr => exact ⟨rfl, rfl, rfl, fun _ _ => rfl⟩
      | map es clock => exact .inr ⟨rfl, rfl⟩
      | _ => rfl⟩
  refine ⟨ds, gs, before, [], pa, pv, hW, hres _ _ _, hargs _ seen, hvars _ seen, kept _, fun _ => ⟨hok, (s.fn H (ds ++ gs)).results ++ (s.fn H (ds ++ gs)).args, (s.fn H (ds ++ gs)).vars, [] ++ pa ++ pv, ?_, ?_⟩⟩
  · obtain ⟨_, _, _, _, _, hz, hn⟩ := hW
    subst hps
    refine ⟨[] ++ pa, pv, trodAll_append (hargs _ (fun _ _ => rfl)) (hres _ _ _), hvars _ (fun _ _ => rfl), rfl, fun b off hp => ?_, fun ha => by simpa using hn ha⟩
    have hp : MemPlace.cell b off ∈ pa ++ pv := by simpa using hp
    rw [World.frozen?_of_block (q.block b (old (.cell b off) (by subst_vars; exact hp)))]
    exact hz b off hp
  · intro p hp _
    subst hps
    simpa using hp
end Go.Proofs.Ytkpppmldbhgcgaa

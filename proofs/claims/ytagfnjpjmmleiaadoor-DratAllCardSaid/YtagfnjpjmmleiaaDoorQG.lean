/- Drat: the checker makes a literal true. -/
import Derived.Test.YtagfnjpjmmleiaaDoorQD
set_option linter.unusedVariables false
set_option linter.unusedSimpArgs false
set_option autoImplicit false
set_option linter.unusedVariables false
set_option linter.unusedSimpArgs false
namespace Go.Proofs.YtagfnjpjmmleiaaDoor
open Go.Shelf Go.RowKit
/-- the trail of the checker in block xb -/
structure HasTrail (w : World) (xb base : Nat) (tv : Value) (tr : List Int) : Prop where
  fld : w.cell? ⟨xb, 8, none⟩ = some tv
  free : w.frozen? ⟨xb, 8, none⟩ = false
  own : w.ownsRow base 3 1 tv tr.length (tr.map (Value.int .i64))
/-- what let leaves -/
def LetOK (xb vb n cv base : Nat) (vs : List Int) (tv : Value) (tr : List Int) (x : Int) (w : World) (e : Ending) (w' : World) : Prop :=
  (litV vs x = 1 ∧ e = .returned (.bool true) ∧ w' = w) ∨ (litV vs x = -1 ∧ e = .returned (.bool false) ∧ w' = w) ∨
  (litV vs x = 0 ∧ e = .returned (.bool true) ∧ HasVals w' xb vb n cv (setV vs x) ∧ ∃ tv', HasTrail w' xb base tv' (tr ++ [x]) ∧ (∃ g, tv'.ownBlock = some g ∧ (tv.ownBlock = some g ∨ w.heap.size ≤ g)) ∧ ∀ bs : List Nat, xb ∈ bs → vb ∈ bs → (∀ g, tv.ownBlock = some g → g ∈ bs) → Only bs w w')
/-- the block that a slice owns, as a list -/
def ownL (v : Value) : List Nat := match v.ownBlock with
  | some g => [g]
  | none => []
theorem ownL_iff {v : Value} {g : Nat} : g ∈ ownL v ↔ v.ownBlock = some g := by
  unfold ownL
  cases h : v.ownBlock with
  | none => simp
  | some k => simp [eq_comm]
/-- a store into the values, an append to the trail, a store of it: put together -/
theorem let_end {xb vb n cv base : Nat} {vs : List Int} {tv tv' : Value} {tr : List Int} {x y : Int} {m : Nat} {w w1 : World} {o : Obj} (h : HasVals w xb vb n cv vs) (ht : HasTrail w xb base tv tr) (hm : x.natAbs = m) (hx : m < n) (hy : setV vs x = vs.set m y)
    (hxv : xb ≠ vb) (hxb : xb < w.heap.size) (hd : ∀ g, tv.ownBlock = some g → g ≠ xb ∧ g ≠ vb) (hL : litV vs x = 0)
    (hown : w1.ownsRow base 3 1 tv' (tr.length + 1) (tr.map (Value.int .i64) ++ [.int .i64 x])) (hg : ((w.setCell ⟨vb, m, none⟩ (.int .i8 y)).alloc o).grownBy w1 tv.ownBlock) (hloc : ∃ g, tv'.ownBlock = some g ∧ (tv.ownBlock = some g ∨ w.heap.size + 1 ≤ g)) :
    (w1.cell? ⟨xb, 8, none⟩ = some tv ∧ w1.frozen? ⟨xb, 8, none⟩ = false) ∧ LetOK xb vb n cv base vs tv tr x w (.returned (.bool true)) (w1.setCell ⟨xb, 8, none⟩ tv') := by
  have o2 : Only [vb] w ((w.setCell ⟨vb, m, none⟩ (.int .i8 y)).alloc o) := ((Only.refl _ w).setCell (.inl (by simp)) _).alloc o
  have hsz : (w.setCell ⟨vb, m, none⟩ (.int .i8 y)).heap.size = w.heap.size := by simp
  have o3 : Only (vb :: ownL tv) w w1 := (o2.mono (by simp)).grown hg fun k hk => .inl (List.mem_cons_of_mem _ (ownL_iff.2 hk))
  have nx : xb ∉ vb :: ownL tv := by
    intro e
    rcases List.mem_cons.1 e with e | e
    · exact hxv e
    · exact (hd _ (ownL_iff.1 e)).1 rfl
  have c8 := (o3.cell (p := ⟨xb, 8, none⟩) hxb nx).trans ht.fld
  have f8 := (o3.frozen (p := ⟨xb, 8, none⟩) hxb nx).trans ht.free
  have c7 := (o3.cell (p := ⟨xb, 7, none⟩) hxb nx).trans h.fld
  refine ⟨⟨c8, f8⟩, .inr (.inr ⟨hL, rfl, ⟨?_, ?_, ?_, ?_⟩, tv', ⟨?_, ?_, ?_⟩, ?_, ?_⟩)⟩
  · exact (World.cell?_setCell_other w1 ⟨xb, 8, none⟩ ⟨xb, 7, none⟩ _ (by intro e; injection e; omega)).trans c7
  · rw [World.size_setCell]; exact Nat.lt_of_lt_of_le h.lt o3.size
  · intro k hk
    have hb : w1.heap[vb]? = ((w.setCell ⟨vb, m, none⟩ (.int .i8 y)).alloc o).heap[vb]? := hg.block vb (Nat.lt_of_lt_of_le h.lt o2.size) fun e => (hd vb e.symm).2 rfl
    have hb2 : w1.heap[vb]? = (w.setCell ⟨vb, m, none⟩ (.int .i8 y)).heap[vb]? := hb.trans (Below.heap_alloc _ _ _ (by rw [hsz]; exact h.lt))
    refine ⟨?_, ?_⟩
    · rw [World.cell?_setCell_other w1 ⟨xb, 8, none⟩ ⟨vb, k, none⟩ _ (by intro e; injection e; omega), World.cell?_of_block (w := w.setCell ⟨vb, m, none⟩ (.int .i8 y)) (a := ⟨vb, k, none⟩) hb2, hy]
      by_cases e : k = m
      · subst e
        rw [World.cell?_setCell_same w _ _ (h.cell k hk).1, List.getD_eq_getElem?_getD, List.getElem?_set_self (by rw [h.fine.1]; exact hk)]; rfl
      · rw [World.cell?_setCell_other w ⟨vb, m, none⟩ ⟨vb, k, none⟩ _ (by intro e2; injection e2; omega), (h.cell k hk).1, List.getD_eq_getElem?_getD, List.getD_eq_getElem?_getD, List.getElem?_set_ne (fun e2 => e e2.symm)]
    · rw [World.frozen?_setCell, World.frozen?_of_block (w := w.setCell ⟨vb, m, none⟩ (.int .i8 y)) (a := ⟨vb, k, none⟩) hb2, World.frozen?_setCell]
      exact (h.cell k hk).2
  · exact h.fine.setV x
  · exact World.cell?_setCell_same w1 _ _ c8
  · rw [World.frozen?_setCell]; exact f8
  · have ho : w1.ownsRow base 3 1 tv' (tr ++ [x]).length ((tr ++ [x]).map (Value.int .i64)) := by
      rw [List.length_append, List.map_append]; exact hown
    refine Only.owns (bs := [xb]) ((Only.refl _ w1).setCell (.inl (by simp)) _) ho fun g hgo => ?_
    obtain ⟨g', k1, k2⟩ := hloc
    rw [k1] at hgo; cases hgo
    rw [List.mem_singleton]
    rcases k2 with k2 | k2
    · exact (hd _ k2).1
    · omega
  · obtain ⟨g', k1, k2⟩ := hloc
    exact ⟨g', k1, k2.imp (fun e => e) (fun e => by omega)⟩
  · intro bs b1 b2 b3
    exact (o3.mono fun k hk => by
      rcases List.mem_cons.1 hk with e | e
      · exact e ▸ b2
      · exact b3 _ (ownL_iff.1 e)).setCell (.inl b1) _
set_option maxHeartbeats 8000000 in
set_option maxRecDepth 1000000 in
theorem let_walk (xb vb n cv base : Nat) (vs : List Int) (tv : Value) (tr : List Int) (x : Int) (w : World) (h : HasVals w xb vb n cv vs) (ht : HasTrail w xb base tv tr) (hx : x.natAbs < n) (hx0 : x ≠ 0) (hn : n ≤ 1000000000)
    (hxv : xb ≠ vb) (hxb : xb < w.heap.size) (hd : ∀ g, tv.ownBlock = some g → g ≠ xb ∧ g ≠ vb) (hbase : base ≤ w.heap.size) (htl : tr.length ≤ 1000000000) :
    Calls Tryd.prog 49 #[.pointer (some ⟨xb, 0, none⟩), .int .i64 x] w (LetOK xb vb n cv base vs tv tr x w) := by
  obtain ⟨i0, hi0, hz0, hz1, hz2⟩ := info_parts info3
  have hv := value_walk xb vb n cv vs x
  rcases litV_fine h.fine x with hL | hL | hL
  · have hR : LetOK xb vb n cv base vs tv tr x w (.returned (.bool false)) w := .inr (.inl ⟨hL, rfl, rfl⟩)
    rw [hL] at hv
    go_enter Tryd.func49, Tryd.ntmps49
    go_wp2_with (go_at_call 55; refine (hv _ h hx hn).mono ?_)
    try rintro e w1 ⟨rfl, rfl⟩
    try go_wp2
    go_ret
    exact hR
  · obtain ⟨m, hm⟩ : ∃ m, x.natAbs = m := ⟨_, rfl⟩
    have hmn : m < n := hm ▸ hx
    have hmn' : (m : Int) < n := by omega
    obtain ⟨hvm, hvf⟩ := h.cell m hmn
    have hf7 := h.fld
    rcases (show (0 < x ∧ x = (m : Int)) ∨ (¬ 0 < x ∧ x = -(m : Int)) by omega) with ⟨hp, rfl⟩ | ⟨hp, rfl⟩
    · have hset : setV vs ((m : Int)) = vs.set m (1) := by unfold setV; rw [if_pos hp, hm]
      have hE := fun tv' w1 o h1 h2 h3 => let_end (tv' := tv') (w1 := w1) (o := o) h ht hm hmn hset hxv hxb hd hL h1 h2 h3
      have c8 : (w.setCell ⟨vb, m, none⟩ (.int .i8 (1))).cell? ⟨xb, 8, none⟩ = some tv := (World.cell?_setCell_other w ⟨vb, m, none⟩ ⟨xb, 8, none⟩ _ (by intro e; injection e; omega)).trans ht.fld
      have own2 : (w.setCell ⟨vb, m, none⟩ (.int .i8 (1))).ownsRow base 3 1 tv tr.length (tr.map (Value.int .i64)) := Only.owns (bs := [vb]) ((Only.refl _ w).setCell (.inl (by simp)) _) ht.own (fun g hg e => (hd g hg).2 (List.mem_singleton.1 e))
      have cn := cell_new (w.setCell ⟨vb, m, none⟩ (.int .i8 (1))) #[.int .i64 ((m : Int))] 3 (0, 0) 0
      rw [World.size_setCell] at cn
      rw [hL] at hv
      go_enter Tryd.func49, Tryd.ntmps49
      go_wp2_with (first | (go_at_call 55; refine (hv _ h hx hn).mono ?_) | (at_builtin; refine wpList_append_told _ rfl _ _ 33 rfl base 3 i0 (.int .i64 0) 1 8 Tryd.underlying33 hi0 hz0 hz1 hz2 rfl (by decide) _ _ _ rfl (own2.alloc _) ⟨w.heap.size, 0, none⟩ 1 1 [.int .i64 ((m : Int))] rfl rfl ?c1 ?c2 (by decide) ?c3 ?c4 ?c5 ?_))
      rintro e w1 ⟨h1, h2⟩
      rw [h1, h2]
      clear h1 h2 w1
      go_wp2_with (first | (go_at_call 55; refine (hv _ h hx hn).mono ?_) | (at_builtin; refine wpList_append_told _ rfl _ _ 33 rfl base 3 i0 (.int .i64 0) 1 8 Tryd.underlying33 hi0 hz0 hz1 hz2 rfl (by decide) _ _ _ rfl (own2.alloc _) ⟨w.heap.size, 0, none⟩ 1 1 [.int .i64 ((m : Int))] rfl rfl ?c1 ?c2 (by decide) ?c3 ?c4 ?c5 ?_))
      case c1 =>
        intro j u hj
        match j, hj with
        | 0, hj =>
          simp at hj
          subst hj
          rw [add_plain]
          exact cn
      case c2 => intro u hu; simp at hu; subst hu; rfl
      case c3 => unfold maxLen; omega
      case c4 => omega
      case c5 => simp; omega
      intro v' w1 hown' hgrow gg hl1 hl2
      obtain ⟨⟨d1, d2⟩, hR⟩ := hE v' w1 _ hown' hgrow ⟨gg, hl1, hl2⟩
      clear hE hgrow hl1 hl2
      rcases hown'.2 with ⟨_, e2⟩ | ⟨g2, cap2, cur2, rfl, _⟩
      · omega
      clear hown'
      go_wp2
      go_ret
      exact hR
    · have hset : setV vs (-(m : Int)) = vs.set m (-1) := by unfold setV; rw [if_neg hp, hm]
      have hE := fun tv' w1 o h1 h2 h3 => let_end (tv' := tv') (w1 := w1) (o := o) h ht hm hmn hset hxv hxb hd hL h1 h2 h3
      have c8 : (w.setCell ⟨vb, m, none⟩ (.int .i8 (-1))).cell? ⟨xb, 8, none⟩ = some tv := (World.cell?_setCell_other w ⟨vb, m, none⟩ ⟨xb, 8, none⟩ _ (by intro e; injection e; omega)).trans ht.fld
      have own2 : (w.setCell ⟨vb, m, none⟩ (.int .i8 (-1))).ownsRow base 3 1 tv tr.length (tr.map (Value.int .i64)) := Only.owns (bs := [vb]) ((Only.refl _ w).setCell (.inl (by simp)) _) ht.own (fun g hg e => (hd g hg).2 (List.mem_singleton.1 e))
      have cn := cell_new (w.setCell ⟨vb, m, none⟩ (.int .i8 (-1))) #[.int .i64 (-(m : Int))] 3 (0, 0) 0
      rw [World.size_setCell] at cn
      rw [hL] at hv
      go_enter Tryd.func49, Tryd.ntmps49
      go_wp2_with (first | (go_at_call 55; refine (hv _ h hx hn).mono ?_) | (at_builtin; refine wpList_append_told _ rfl _ _ 33 rfl base 3 i0 (.int .i64 0) 1 8 Tryd.underlying33 hi0 hz0 hz1 hz2 rfl (by decide) _ _ _ rfl (own2.alloc _) ⟨w.heap.size, 0, none⟩ 1 1 [.int .i64 (-(m : Int))] rfl rfl ?c1 ?c2 (by decide) ?c3 ?c4 ?c5 ?_))
      case c1 =>
        intro j u hj
        match j, hj with
        | 0, hj =>
          simp at hj
          subst hj
          rw [add_plain]
          exact cn
      case c2 => intro u hu; simp at hu; subst hu; rfl
      case c3 => unfold maxLen; omega
      case c4 => omega
      case c5 => simp; omega
      intro v' w1 hown' hgrow gg hl1 hl2
      obtain ⟨⟨d1, d2⟩, hR⟩ := hE v' w1 _ hown' hgrow ⟨gg, hl1, hl2⟩
      clear hE hgrow hl1 hl2
      rcases hown'.2 with ⟨_, e2⟩ | ⟨g2, cap2, cur2, rfl, _⟩
      · omega
      clear hown'
      go_wp2
      go_ret
      exact hR
  · have hR : LetOK xb vb n cv base vs tv tr x w (.returned (.bool true)) w := .inl ⟨hL, rfl, rfl⟩
    rw [hL] at hv
    go_enter Tryd.func49, Tryd.ntmps49
    go_wp2_with (go_at_call 55; refine (hv _ h hx hn).mono ?_)
    try rintro e w1 ⟨rfl, rfl⟩
    try go_wp2
    go_ret
    exact hR
end Go.Proofs.YtagfnjpjmmleiaaDoor

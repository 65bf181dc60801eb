/- Drat: rows of clauses and of lines, each in memory of its own. -/
import Derived.Test.YtagfnjpjmmleiaaDoorXA
import Derived.Test.YtagfnjpjmmleiaaDoorWA
import Derived.Test.YtagfnjpjmmleiaaDoorWC
set_option linter.unusedVariables false
set_option linter.unusedSimpArgs false
set_option autoImplicit false
set_option linter.unusedVariables false
set_option linter.unusedSimpArgs false
namespace Go.Proofs.YtagfnjpjmmleiaaDoor
open Go.Shelf Go.RowKit
/-- a clause in memory of its own -/
def OwnZ (w : World) (base : Nat) (c : Cl) : Prop := w.ownsRow base 3 1 (rowV c) c.zs.length (intC c.zs)
def CState (w : World) (base : Nat) (v : Value) (cs : List Cl) : Prop := OwnCl w base v cs ∧ ∀ c ∈ cs, OwnZ w base c
def DState (w : World) (base : Nat) (v : Value) (ls : List Ln) : Prop := w.ownsRow base 35 2 v ls.length (ls.flatMap lnV) ∧ ∀ x ∈ ls, OwnZ w base x.cl
theorem CState.below {w w' : World} {base : Nat} {v : Value} {cs : List Cl} (h : CState w base v cs) (hb : Below w.heap.size w w') : CState w' base v cs := ⟨own_below h.1 hb, fun c hc => own_below (h.2 c hc) hb⟩
theorem DState.below {w w' : World} {base : Nat} {v : Value} {ls : List Ln} (h : DState w base v ls) (hb : Below w.heap.size w w') : DState w' base v ls := ⟨own_below h.1 hb, fun c hc => own_below (h.2 c hc) hb⟩
/-- a row of one kind stays where a row of another kind grows -/
theorem own_grown {w w' : World} {base base' e e' size size' n n' : Nat} {v v' : Value} {xs xs' : List Value} (h : w.ownsRow base e size v n xs) (hv : w.ownsRow base' e' size' v' n' xs') (hne : e ≠ e') (hg : w.grownBy w' v'.ownBlock) : w'.ownsRow base e size v n xs := by
  obtain ⟨h1, h2⟩ := h
  refine ⟨h1, h2.imp (fun e => e) ?_⟩
  rintro ⟨g', cap, cur, e1, e2, e3, r⟩
  refine ⟨g', _, cur, e1, e2, (hg.block g' (Array.getElem?_eq_some_iff.1 e3).1 fun e => ?_).trans e3, r⟩
  rcases hv.2 with ⟨e4, _⟩ | ⟨g2, cap2, cur2, e4, _, e5, _⟩
  · rw [e4] at e; cases e
  · rw [e4] at e
    cases e
    rw [e3] at e5
    cases e5
    exact hne rfl
/-- a row stays where a cell of another block is written -/
theorem own_setCell {w : World} {base e size n : Nat} {v : Value} {xs : List Value} (h : w.ownsRow base e size v n xs) {b m : Nat} (hb : b < base) (u : Value) : (w.setCell ⟨b, m, none⟩ u).ownsRow base e size v n xs := by
  obtain ⟨h1, h2⟩ := h
  refine ⟨h1, h2.imp (fun e => e) ?_⟩
  rintro ⟨g', cap, cur, e1, e2, e3, r⟩
  exact ⟨g', _, cur, e1, e2, (Below.heap_setCell _ _ _ _ (show g' ≠ b by omega)).trans e3, r⟩
theorem CState.set {w : World} {base : Nat} {v : Value} {cs : List Cl} (h : CState w base v cs) {b m : Nat} (hb : b < base) (u : Value) : CState (w.setCell ⟨b, m, none⟩ u) base v cs := ⟨own_setCell h.1 hb u, fun c hc => own_setCell (h.2 c hc) hb u⟩
theorem OwnZ.ints {w : World} {base : Nat} {c : Cl} (h : OwnZ w base c) : Ints w c.a c.zs := by
  obtain ⟨a, cap, e, _, hi, _⟩ := owns_ints h
  unfold rowV at e
  cases e
  exact hi
theorem CState.rows {w : World} {base : Nat} {v : Value} {cs : List Cl} (h : CState w base v cs) {a : Option Addr} {n c : Nat} (e : v = .slice a n c) : Rows' w a cs := h.1.rows e fun x hx => (h.2 x hx).ints
theorem flat_get : ∀ (ls : List Ln) (j : Nat), j < ls.length → (ls.flatMap lnV)[j * 2]? = some (.bool (ls.getD j default).gone) ∧ (ls.flatMap lnV)[j * 2 + 1]? = some (.slice (ls.getD j default).cl.a (ls.getD j default).cl.zs.length (ls.getD j default).cl.c)
  | [], j, hj => by cases hj
  | x :: ls, 0, _ => ⟨rfl, rfl⟩
  | x :: ls, j + 1, hj => by
    obtain ⟨a1, a2⟩ := flat_get ls j (by simpa using hj)
    refine ⟨?_, ?_⟩
    · rw [List.flatMap_cons, List.getElem?_append_right (by simp [lnV]; omega), show (j + 1) * 2 - (lnV x).length = j * 2 by simp [lnV]; omega]; exact a1
    · rw [List.flatMap_cons, List.getElem?_append_right (by simp [lnV]; omega), show (j + 1) * 2 + 1 - (lnV x).length = j * 2 + 1 by simp [lnV]; omega]; exact a2
theorem DState.lines {w : World} {base : Nat} {v : Value} {ls : List Ln} (h : DState w base v ls) : ∃ a c, v = .slice a ls.length c ∧ ls.length ≤ c ∧ Lines w a ls ∧ (a = none → c = 0) ∧ ∀ ad, a = some ad → ∃ g, ad = ⟨g, 0, none⟩ ∧ base ≤ g ∧ g < w.heap.size ∧ ∀ i u, (ls.flatMap lnV)[i]? = some u → w.cell? ⟨g, i, none⟩ = some u := by
  have hr := h.1
  rcases hr.2 with ⟨e1, e2⟩ | ⟨g, cap, cur, e1, hb, hg, hc, _⟩
  · exact ⟨none, 0, by rw [e1, e2], by omega, fun j hj => by omega, fun _ => rfl, fun ad e => by cases e⟩
  · rw [e1] at hr
    have hcell : ∀ i u, (ls.flatMap lnV)[i]? = some u → w.cell? ⟨g, i, none⟩ = some u := fun i u hu => by
      have hi := (List.getElem?_eq_some_iff.1 hu).1
      rw [lnV_len] at hi
      rw [hr.cellAt i hi, hu]
    refine ⟨_, cap, e1, hc, fun j hj => ?_, fun e => (by cases e), fun ad e => by cases e; exact ⟨g, rfl, hb, (Array.getElem?_eq_some_iff.1 hg).1, hcell⟩⟩
    obtain ⟨k1, k2⟩ := flat_get ls j hj
    have c1 := hcell _ _ k1
    have c2 := hcell _ _ k2
    exact ⟨g, 0, rfl, cellLt c1, by rw [Nat.zero_add]; exact c1, by rw [Nat.zero_add]; exact c2, (h.2 (ls.getD j default) (by rw [List.getD_eq_getElem?_getD, List.getElem?_eq_getElem hj]; exact List.getElem_mem _)).ints⟩
theorem flat_len (ls : List Ln) : (ls.flatMap lnV).length = ls.length * 2 := lnV_len ls
theorem flat_one (ls : List Ln) : ∀ u ∈ ls.flatMap lnV, u.oneCell' = true := fun u hu => by
  obtain ⟨x, _, h⟩ := List.mem_flatMap.1 hu
  simp [lnV] at h
  rcases h with rfl | rfl <;> rfl
theorem flat_drop : ∀ (ls : List Ln) (j : Nat), (ls.drop j).flatMap lnV = (ls.flatMap lnV).drop (j * 2)
  | ls, 0 => by simp
  | [], j + 1 => by simp
  | x :: ls, j + 1 => by
    rw [List.drop_succ_cons, flat_drop ls j, List.flatMap_cons, show (j + 1) * 2 = (lnV x).length + j * 2 by simp [lnV]; omega, List.drop_append]
    simp
theorem flat_take : ∀ (ls : List Ln) (j : Nat), (ls.take j).flatMap lnV = (ls.flatMap lnV).take (j * 2)
  | ls, 0 => by simp
  | [], j + 1 => by simp
  | x :: ls, j + 1 => by
    rw [List.take_succ_cons, List.flatMap_cons, flat_take ls j, List.flatMap_cons, show (j + 1) * 2 = (lnV x).length + j * 2 by simp [lnV]; omega, List.take_append, List.take_of_length_le (l := lnV x) (by omega), Nat.add_sub_cancel_left]
end Go.Proofs.YtagfnjpjmmleiaaDoor

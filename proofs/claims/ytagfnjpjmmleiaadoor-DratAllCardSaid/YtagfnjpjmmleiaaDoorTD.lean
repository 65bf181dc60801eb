/- Drat: what a call of the checker's leaves as it was; the checker makes a literal true. -/
import Derived.Test.YtagfnjpjmmleiaaDoorTC
set_option linter.unusedVariables false
set_option linter.unusedSimpArgs false
set_option autoImplicit false
set_option linter.unusedVariables false
set_option linter.unusedSimpArgs false
namespace Go.Proofs.YtagfnjpjmmleiaaDoor
open Go.Shelf Go.RowKit
/-- of what there was only the checker's own blocks have turned; no block that there was has come to be the checker's -/
structure Frm (own own' : Nat → Option Tag) (w w' : World) : Prop where
  os : w'.os = w.os
  tape : w'.tape = w.tape
  output : w'.output = w.output
  size : w.heap.size ≤ w'.heap.size
  lab : ∀ k, k < w.heap.size → own' k = own k
  keep : ∀ k, k < w.heap.size → own k = none → w'.heap[k]? = w.heap[k]?
theorem Frm.refl (own : Nat → Option Tag) (w : World) : Frm own own w w := ⟨rfl, rfl, rfl, Nat.le_refl _, fun _ _ => rfl, fun _ _ _ => rfl⟩
theorem Frm.trans {a b c : Nat → Option Tag} {u v w : World} (h : Frm a b u v) (k : Frm b c v w) : Frm a c u w :=
  ⟨k.os.trans h.os, k.tape.trans h.tape, k.output.trans h.output, Nat.le_trans h.size k.size, fun i hi => (k.lab i (Nat.lt_of_lt_of_le hi h.size)).trans (h.lab i hi), fun i hi e => (k.keep i (Nat.lt_of_lt_of_le hi h.size) ((h.lab i hi).trans e)).trans (h.keep i hi e)⟩
theorem Frm.setCell {a b : Nat → Option Tag} {u v : World} (h : Frm a b u v) {p : Addr} {t : Tag} (hp : b p.block = some t) (x : Value) : Frm a b u (v.setCell p x) :=
  ⟨h.os, h.tape, h.output, by rw [World.size_setCell]; exact h.size, h.lab, fun i hi e => by
    rw [Below.heap_setCell _ _ _ _ (fun e2 => by rw [← e2, h.lab i hi, e] at hp; cases hp)]
    exact h.keep i hi e⟩
theorem Frm.alloc {a b : Nat → Option Tag} {u v : World} (h : Frm a b u v) (o : Obj) : Frm a b u (v.alloc o) :=
  ⟨h.os, h.tape, h.output, Nat.le_trans h.size (by simp), h.lab, fun i hi e => by
    rw [Below.heap_alloc _ _ _ (Nat.lt_of_lt_of_le hi h.size)]
    exact h.keep i hi e⟩
theorem Frm.drewN {a b : Nat → Option Tag} {u v : World} (h : Frm a b u v) (q : Nat) : Frm a b u (v.drewN q) := ⟨h.os, h.tape, h.output, h.size, h.lab, h.keep⟩
theorem Frm.drew {a b : Nat → Option Tag} {u v : World} (h : Frm a b u v) : Frm a b u v.drew := ⟨h.os, h.tape, h.output, h.size, h.lab, h.keep⟩
/-- a call that reads and makes blocks of its own -/
theorem Frm.below {a b : Nat → Option Tag} {u v w : World} (h : Frm a b u v) {B : Nat} (k : Below B v w) (hB : v.heap.size ≤ B) : Frm a b u w :=
  ⟨k.os.trans h.os, k.tape.trans h.tape, k.output.trans h.output, Nat.le_trans h.size k.size, h.lab, fun i hi e => (k.block i (by have := h.size; omega)).trans (h.keep i hi e)⟩
theorem Frm.cell {a b : Nat → Option Tag} {u v : World} (h : Frm a b u v) {p : Addr} (hp : p.block < u.heap.size) (hn : a p.block = none) : v.cell? p = u.cell? p := World.cell?_of_block (h.keep p.block hp hn)
theorem Frm.frozen {a b : Nat → Option Tag} {u v : World} (h : Frm a b u v) {p : Addr} (hp : p.block < u.heap.size) (hn : a p.block = none) : v.frozen? p = u.frozen? p := World.frozen?_of_block (h.keep p.block hp hn)
theorem Frm.toBelow {cx : Cx} {own own' : Nat → Option Tag} {rv : Tag → Value} {S : St} {w w' : World} (h : Frm own own' w w') (R : Rep cx w own rv S) : Below cx.lo w w' :=
  ⟨h.os, h.tape, h.output, h.size, fun k hk => by
    by_cases hs : k < w.heap.size
    · refine h.keep k hs ?_
      cases e : own k with
      | none => rfl
      | some t => have := (R.dom k t e).1; omega
    · have h1 := (R.dom _ _ R.x.lab)
      omega⟩
theorem AppOut.frm {cx : Cx} {w w1 : World} {own : Nat → Option Tag} {rv : Tag → Value} {S : St} (h : Rep cx w own rv S) {T : Tag} (hT : isRow T = true) {g cap n' : Nat} {xs' : List Value} (A : AppOut cx.lo w T (rv T) g cap n' xs' w1) : Frm own (lab own g T) w w1 := by
  have hrow := h.rows T hT
  refine ⟨A.grow.os, A.grow.tape, A.grow.output, A.grow.size, fun k hk => ?_, fun k hk e => ?_⟩
  · by_cases e : k = g
    · subst e
      rw [lab_same]
      rcases A.loc with e | e
      · exact (hrow.lab k e).symm
      · omega
    · exact lab_other _ _ e
  · refine A.grow.block k hk fun e2 => ?_
    have := hrow.lab k e2.symm
    rw [e] at this; cases this
theorem Rep.lo_le {cx : Cx} {w : World} {own : Nat → Option Tag} {rv : Tag → Value} {S : St} (h : Rep cx w own rv S) : cx.lo ≤ w.heap.size := by
  have := h.dom _ _ h.x.lab
  omega
/-- what let does -/
def LetR (S : St) (x : Int) (b : Bool) (S' : St) : Prop := (litV S.vals x = 1 ∧ b = true ∧ S' = S) ∨ (litV S.vals x = -1 ∧ b = false ∧ S' = S) ∨ (litV S.vals x = 0 ∧ b = true ∧ S' = { S with vals := setV S.vals x, trail := S.trail ++ [x] })
def LetOut (cx : Cx) (own : Nat → Option Tag) (rv : Tag → Value) (S : St) (x : Int) (w : World) (e : Ending) (w' : World) : Prop :=
  ∃ b S' own' rv', LetR S x b S' ∧ e = .returned (.bool b) ∧ Rep cx w' own' rv' S' ∧ Frm own own' w w' ∧ ∀ t, t ≠ .trail → rv' t = rv t
theorem Rep.vals {cx : Cx} {w : World} {own : Nat → Option Tag} {rv : Tag → Value} {S : St} (h : Rep cx w own rv S) (hf : Fine (cx.V + 1) S.vals) : HasVals w cx.xb cx.vb (cx.V + 1) cx.vc S.vals :=
  ⟨(h.x.cell 7 (by decide)).1, (h.dom _ _ h.vt.lab).2, h.vt.cell, hf⟩
set_option maxHeartbeats 8000000 in
set_option maxRecDepth 1000000 in
theorem let_rep (cx : Cx) (own : Nat → Option Tag) (rv : Tag → Value) (S : St) (x : Int) (w : World) (h : Rep cx w own rv S) (hf : Fine (cx.V + 1) S.vals) (hx : x.natAbs < cx.V + 1) (hx0 : x ≠ 0) (hn : cx.V ≤ 999999999) (htl : S.trail.length ≤ 1000000000) :
    Calls Tryd.prog 49 #[.pointer (some ⟨cx.xb, 0, none⟩), .int .i64 x] w (LetOut cx own rv S x w) := by
  obtain ⟨i0, hi0, hz0, hz1, hz2⟩ := info_parts info3
  have hv := value_walk cx.xb cx.vb (cx.V + 1) cx.vc S.vals x
  have hV := h.vals hf
  rcases litV_fine hf x with hL | hL | hL
  · have hR : LetOut cx own rv S x w (.returned (.bool false)) w := ⟨false, S, own, rv, .inr (.inl ⟨hL, rfl, rfl⟩), rfl, h, Frm.refl _ _, fun _ _ => rfl⟩
    rw [hL] at hv
    go_enter Tryd.func49, Tryd.ntmps49
    go_wp2_with (go_at_call 55; refine (hv _ hV hx (by omega)).mono ?_)
    try rintro e w1 ⟨rfl, rfl⟩
    try go_wp2
    go_ret
    exact hR
  · obtain ⟨m, hm⟩ : ∃ m, x.natAbs = m := ⟨_, rfl⟩
    have hmn : m < cx.V + 1 := hm ▸ hx
    have hmn' : (m : Int) < (cx.V + 1 : Nat) := by omega
    obtain ⟨hvm, hvf⟩ := h.vt.cell m hmn
    have hf7 : w.cell? ⟨cx.xb, 7, none⟩ = some (.slice (some ⟨cx.vb, 0, none⟩) (cx.V + 1) cx.vc) := (h.x.cell 7 (by decide)).1
    have key : ∀ y : Int, setV S.vals x = S.vals.set m y → (∃ tv, tv = rv .trail ∧ (w.setCell ⟨cx.vb, m, none⟩ (.int .i8 y)).cell? ⟨cx.xb, 8, none⟩ = some tv ∧ (w.setCell ⟨cx.vb, m, none⟩ (.int .i8 y)).ownsRow cx.lo 3 1 tv S.trail.length (intC S.trail)) ∧ ∀ o g cap w1, AppOut cx.lo ((w.setCell ⟨cx.vb, m, none⟩ (.int .i8 y)).alloc o) .trail (rv .trail) g cap (S.trail.length + 1) (intC S.trail ++ [.int .i64 x]) w1 →
        (w1.cell? ⟨cx.xb, 8, none⟩ = some (rv .trail) ∧ w1.frozen? ⟨cx.xb, 8, none⟩ = false) ∧ LetOut cx own rv S x w (.returned (.bool true)) (w1.setCell ⟨cx.xb, 8, none⟩ (.slice (some ⟨g, 0, none⟩) (S.trail.length + 1) cap)) := by
      intro y hy
      have h2 := h.setVal hf.1 hmn y
      refine ⟨⟨rv .trail, rfl, (h2.x.cell 8 (by decide)).1, (h2.rows .trail rfl).row⟩, fun o g cap w1 A => ?_⟩
      have h3 := h2.alloc o
      have F := A.facts h3 rfl
      have hx1 := h3.x.keep F.ext fun k hk => F.kept k _ hk (by intro e; cases e)
      have h4 := h3.appTrail A
      refine ⟨⟨(hx1.cell 8 (by decide)).1, (hx1.cell 8 (by decide)).2⟩, true, _, _, _, .inr (.inr ⟨hL, rfl, rfl⟩), rfl, by rw [hy]; exact h4, ?_, fun t ht => upd_other _ _ ht⟩
      exact ((((Frm.refl own w).setCell (p := ⟨cx.vb, m, none⟩) h.vt.lab _).alloc o).trans (A.frm h3 rfl)).setCell (p := ⟨cx.xb, 8, none⟩) (F.ext _ _ h.x.lab) _
    rcases (show (0 < x ∧ x = (m : Int)) ∨ (¬ 0 < x ∧ x = -(m : Int)) by omega) with ⟨hp, hxm⟩ | ⟨hp, hxm⟩
    · have hset : setV S.vals x = S.vals.set m (1) := by unfold setV; rw [if_pos hp, hm]
      obtain ⟨⟨tv, htv, c8, own2⟩, hE⟩ := key 1 hset
      clear key
      rw [← htv] at hE
      clear htv
      subst hxm
      have cn := cell_new (w.setCell ⟨cx.vb, m, none⟩ (.int .i8 (1))) #[.int .i64 ((m : Int))] 3 (0, 0) 0
      rw [World.size_setCell] at cn
      rw [hL] at hv
      go_enter Tryd.func49, Tryd.ntmps49
      go_wp2_with (first | (go_at_call 55; refine (hv _ hV hx (by omega)).mono ?_) | (at_builtin; refine wpList_append_lies _ rfl _ _ 33 rfl cx.lo 3 i0 (.int .i64 0) 1 8 Tryd.underlying33 hi0 hz0 hz1 hz2 rfl (by decide) _ _ _ rfl (own2.alloc _) ⟨w.heap.size, 0, none⟩ 1 1 [.int .i64 ((m : Int))] rfl rfl ?c1 ?c2 (by decide) ?c3 ?c4 ?c5 _ rfl ?_))
      rintro e w1 ⟨h1, h2⟩
      rw [h1, h2]
      clear h1 h2 w1
      go_wp2_with (first | (go_at_call 55; refine (hv _ hV hx (by omega)).mono ?_) | (at_builtin; refine wpList_append_lies _ rfl _ _ 33 rfl cx.lo 3 i0 (.int .i64 0) 1 8 Tryd.underlying33 hi0 hz0 hz1 hz2 rfl (by decide) _ _ _ rfl (own2.alloc _) ⟨w.heap.size, 0, none⟩ 1 1 [.int .i64 ((m : Int))] rfl rfl ?c1 ?c2 (by decide) ?c3 ?c4 ?c5 _ rfl ?_))
      case c1 =>
        intro j u hj
        match j, hj with
        | 0, hj =>
          simp at hj
          subst hj
          rw [add_plain]
          exact cn
      case c2 => intro u hu; simp at hu; subst hu; rfl
      case c3 => unfold maxLen; omega
      case c4 => omega
      case c5 => have := h.lo_le; simp; omega
      intro g cap w1 hown' hgrow hat hlt
      obtain ⟨⟨d1, d2⟩, hR⟩ := hE _ g cap w1 ⟨hown', hgrow, hat.imp id (fun e => e.trans (by simp)), hlt⟩
      clear hE hgrow hat hlt hown'
      go_wp2
      go_ret
      exact hR
    · have hset : setV S.vals x = S.vals.set m (-1) := by unfold setV; rw [if_neg hp, hm]
      obtain ⟨⟨tv, htv, c8, own2⟩, hE⟩ := key (-1) hset
      clear key
      rw [← htv] at hE
      clear htv
      subst hxm
      have cn := cell_new (w.setCell ⟨cx.vb, m, none⟩ (.int .i8 (-1))) #[.int .i64 (-(m : Int))] 3 (0, 0) 0
      rw [World.size_setCell] at cn
      rw [hL] at hv
      go_enter Tryd.func49, Tryd.ntmps49
      go_wp2_with (first | (go_at_call 55; refine (hv _ hV hx (by omega)).mono ?_) | (at_builtin; refine wpList_append_lies _ rfl _ _ 33 rfl cx.lo 3 i0 (.int .i64 0) 1 8 Tryd.underlying33 hi0 hz0 hz1 hz2 rfl (by decide) _ _ _ rfl (own2.alloc _) ⟨w.heap.size, 0, none⟩ 1 1 [.int .i64 (-(m : Int))] rfl rfl ?c1 ?c2 (by decide) ?c3 ?c4 ?c5 _ rfl ?_))
      case c1 =>
        intro j u hj
        match j, hj with
        | 0, hj =>
          simp at hj
          subst hj
          rw [add_plain]
          exact cn
      case c2 => intro u hu; simp at hu; subst hu; rfl
      case c3 => unfold maxLen; omega
      case c4 => omega
      case c5 => have := h.lo_le; simp; omega
      intro g cap w1 hown' hgrow hat hlt
      obtain ⟨⟨d1, d2⟩, hR⟩ := hE _ g cap w1 ⟨hown', hgrow, hat.imp id (fun e => e.trans (by simp)), hlt⟩
      clear hE hgrow hat hlt hown'
      go_wp2
      go_ret
      exact hR
  · have hR : LetOut cx own rv S x w (.returned (.bool true)) w := ⟨true, S, own, rv, .inl ⟨hL, rfl, rfl⟩, rfl, h, Frm.refl _ _, fun _ _ => rfl⟩
    rw [hL] at hv
    go_enter Tryd.func49, Tryd.ntmps49
    go_wp2_with (go_at_call 55; refine (hv _ hV hx (by omega)).mono ?_)
    try rintro e w1 ⟨rfl, rfl⟩
    try go_wp2
    go_ret
    exact hR
end Go.Proofs.YtagfnjpjmmleiaaDoor

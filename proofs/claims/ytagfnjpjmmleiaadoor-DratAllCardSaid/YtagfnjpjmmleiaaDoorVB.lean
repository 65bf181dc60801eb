/- Drat: the program itself is alive. -/
import Derived.Test.YtagfnjpjmmleiaaDoorUE
import Derived.Test.YtagfnjpjmmleiaaDoorTR
set_option linter.unusedVariables false
set_option linter.unusedSimpArgs false
set_option autoImplicit false
set_option linter.unusedVariables false
set_option linter.unusedSimpArgs false
namespace Go.Proofs.YtagfnjpjmmleiaaDoor
open Go.Shelf Go.RowKit
def sq : List (List Int) := [[1, 2], [1, -2], [-1, 2], [-1, -2]]
theorem sq_one : Fol sq [1] := by
  have h1 : Der sq (Negs [1]) (-1) := .init _ ⟨by decide, by decide⟩
  have h2 : Der sq (Negs [1]) 2 := .unit [1, 2] 2 (by decide) (by decide) fun y hy hne => by
    rcases List.mem_cons.1 hy with rfl | hy
    · exact h1
    · exact absurd (List.mem_singleton.1 hy) hne
  refine .inr ⟨[1, -2], by decide, fun y hy => ?_⟩
  rcases List.mem_cons.1 hy with rfl | hy
  · exact h1
  · rw [List.mem_singleton.1 hy]; exact h2
theorem sq_two : Fol (sq ++ [[1]]) [] := by
  have h1 : Der (sq ++ [[1]]) (Negs []) 1 := .unit [1] 1 (by decide) (by decide) fun y hy hne => absurd (List.mem_singleton.1 hy) hne
  have h2 : Der (sq ++ [[1]]) (Negs []) 2 := .unit [-1, 2] 2 (by decide) (by decide) fun y hy hne => by
    rcases List.mem_cons.1 hy with rfl | hy
    · exact h1
    · exact absurd (List.mem_singleton.1 hy) hne
  refine .inr ⟨[-1, -2], by decide, fun y hy => ?_⟩
  rcases List.mem_cons.1 hy with rfl | hy
  · exact h1
  · rw [List.mem_singleton.1 hy]; exact h2
theorem sq_none {x : Int} (h : Der sq (Negs []) x) : False := by
  induction h with
  | init x h => cases h.2
  | unit c x hc hx _ ih =>
    have key : ∃ y ∈ c, y ≠ x := by
      have : c = [1, 2] ∨ c = [1, -2] ∨ c = [-1, 2] ∨ c = [-1, -2] := by simpa [sq] using hc
      by_cases e : x = 1
      · subst e
        rcases this with rfl | rfl | rfl | rfl
        · exact ⟨2, by decide, by decide⟩
        · exact ⟨-2, by decide, by decide⟩
        · exact ⟨2, by decide, by decide⟩
        · exact ⟨-2, by decide, by decide⟩
      · by_cases e2 : x = -1
        · subst e2
          rcases this with rfl | rfl | rfl | rfl
          · exact ⟨2, by decide, by decide⟩
          · exact ⟨-2, by decide, by decide⟩
          · exact ⟨2, by decide, by decide⟩
          · exact ⟨-2, by decide, by decide⟩
        · rcases this with rfl | rfl | rfl | rfl
          · exact ⟨1, by decide, fun h => e h.symm⟩
          · exact ⟨1, by decide, fun h => e h.symm⟩
          · exact ⟨-1, by decide, fun h => e2 h.symm⟩
          · exact ⟨-1, by decide, fun h => e2 h.symm⟩
    obtain ⟨y, hy, hne⟩ := key
    exact ih y hy hne
theorem sq_not : ¬ Fol sq [] := by
  rintro (⟨y, h, _⟩ | ⟨c, hc, h⟩)
  · cases h
  · have : c = [1, 2] ∨ c = [1, -2] ∨ c = [-1, 2] ∨ c = [-1, -2] := by simpa [sq] using hc
    rcases this with rfl | rfl | rfl | rfl <;> exact sq_none (h _ (List.mem_cons_self ..))
theorem sq_check {cs : List Cl} (h : cs.map Cl.zs = sq) : checkZ 2 cs = 0 := by
  have hl : cs.length = 4 := by have := congrArg List.length h; simpa [sq] using this
  match cs, hl with
  | [⟨a1, c1, z1⟩, ⟨a2, c2, z2⟩, ⟨a3, c3, z3⟩, ⟨a4, c4, z4⟩], _ =>
    simp only [List.map_cons, List.map_nil, sq, List.cons.injEq] at h
    obtain ⟨rfl, rfl, rfl, rfl, _⟩ := h
    rfl
theorem sq_proof {cs : List Cl} (h : cs.map Cl.zs = sq) : answerZ 2 (cs.map Cl.zs) (checkZ 2 cs) [(false, [1]), (false, [])] = (-1, 0) := by
  unfold answerZ
  rw [if_pos (sq_check h), h, show (sq.any fun c => c.isEmpty) = false from rfl]
  have h1 : Line1 (sq.map setZ) [1] := line1_set.2 (.inl sq_one)
  have h2 : Line1 (sq.map setZ ++ [setZ [1]]) [] := by
    have : sq.map setZ ++ [setZ [1]] = (sq ++ [[1]]).map setZ := by rw [List.map_append]; rfl
    rw [this]
    exact line1_set.2 (.inl sq_two)
  rw [play_add (by decide) (by decide) h1 (by decide)]
  exact play_here (by decide) h2
theorem sq_less {cs : List Cl} (h : cs.map Cl.zs = sq) : answerZ 2 (cs.map Cl.zs) (checkZ 2 cs) [(false, [])] = (0, 60) := by
  unfold answerZ
  rw [if_pos (sq_check h), h, show (sq.any fun c => c.isEmpty) = false from rfl]
  refine play_no (by decide) (by decide) fun e => ?_
  rcases line1_set.1 e with e | ⟨z, e, _⟩
  · exact sq_not e
  · cases e
def SqOut (w : World) (e : Ending) (w' : World) : Prop := ∃ a c cs, e = .returned (.agg #[.int .i64 2, .slice a 4 c]) ∧ cs.map Cl.zs = sq ∧ Rows' w' a cs ∧ Below w.heap.size w w'
theorem ints_new (W : World) (zs : List Int) : Ints (W.alloc (.cells (zs.map (Value.int .i64)).toArray 3)) (some ⟨W.heap.size, 0, none⟩) zs := fun j hj => by
  refine ⟨W.heap.size, 0, rfl, by simp, ?_⟩
  rw [Nat.zero_add, cell_new]
  rw [List.getElem?_toArray, List.getElem?_map, List.getD_eq_getElem?_getD, List.getElem?_eq_getElem hj]; rfl
theorem sq_end (w : World) (o : Obj) (W6 : World) (e0 : W6 = ((((((w.alloc o).alloc (.cells #[.int .i64 1, .int .i64 2] 3)).alloc (.cells #[.int .i64 1, .int .i64 (-2)] 3)).alloc (.cells #[.int .i64 (-1), .int .i64 2] 3)).alloc (.cells #[.int .i64 (-1), .int .i64 (-2)] 3)).alloc
      (.cells #[.slice (some ⟨w.heap.size + 1, 0, none⟩) 2 2, .slice (some ⟨w.heap.size + 1 + 1, 0, none⟩) 2 2, .slice (some ⟨w.heap.size + 1 + 1 + 1, 0, none⟩) 2 2, .slice (some ⟨w.heap.size + 1 + 1 + 1 + 1, 0, none⟩) 2 2] 33))) : W6.heap[w.heap.size]? = some o ∧ SqOut w (.returned (.agg #[.int .i64 2, .slice (some ⟨w.heap.size + 1 + 1 + 1 + 1 + 1, 0, none⟩) 4 4])) W6 := by
  obtain ⟨W1, e1⟩ : ∃ W, w.alloc o = W := ⟨_, rfl⟩
  obtain ⟨W2, e2⟩ : ∃ W, W1.alloc (.cells #[.int .i64 1, .int .i64 2] 3) = W := ⟨_, rfl⟩
  obtain ⟨W3, e3⟩ : ∃ W, W2.alloc (.cells #[.int .i64 1, .int .i64 (-2)] 3) = W := ⟨_, rfl⟩
  obtain ⟨W4, e4⟩ : ∃ W, W3.alloc (.cells #[.int .i64 (-1), .int .i64 2] 3) = W := ⟨_, rfl⟩
  obtain ⟨W5, e5⟩ : ∃ W, W4.alloc (.cells #[.int .i64 (-1), .int .i64 (-2)] 3) = W := ⟨_, rfl⟩
  have s1 : W1.heap.size = w.heap.size + 1 := by rw [← e1]; simp
  have s2 : W2.heap.size = w.heap.size + 1 + 1 := by rw [← e2]; simp [s1]
  have s3 : W3.heap.size = w.heap.size + 1 + 1 + 1 := by rw [← e3]; simp [s2]
  have s4 : W4.heap.size = w.heap.size + 1 + 1 + 1 + 1 := by rw [← e4]; simp [s3]
  have s5 : W5.heap.size = w.heap.size + 1 + 1 + 1 + 1 + 1 := by rw [← e5]; simp [s4]
  have i1 : Ints W2 (some ⟨W1.heap.size, 0, none⟩) [1, 2] := by rw [← e2]; exact ints_new W1 [1, 2]
  have i2 : Ints W3 (some ⟨W2.heap.size, 0, none⟩) [1, -2] := by rw [← e3]; exact ints_new W2 [1, -2]
  have i3 : Ints W4 (some ⟨W3.heap.size, 0, none⟩) [-1, 2] := by rw [← e4]; exact ints_new W3 [-1, 2]
  have i4 : Ints W5 (some ⟨W4.heap.size, 0, none⟩) [-1, -2] := by rw [← e5]; exact ints_new W4 [-1, -2]
  rw [s1] at i1
  rw [s2] at i2
  rw [s3] at i3
  rw [s4] at i4
  have b1 : Below w.heap.size w W1 := by rw [← e1]; exact (Below.refl _ _).alloc (Nat.le_refl _) _
  have b2 : Below W1.heap.size W1 W2 := by rw [← e2]; exact (Below.refl _ _).alloc (Nat.le_refl _) _
  have b3 : Below W2.heap.size W2 W3 := by rw [← e3]; exact (Below.refl _ _).alloc (Nat.le_refl _) _
  have b4 : Below W3.heap.size W3 W4 := by rw [← e4]; exact (Below.refl _ _).alloc (Nat.le_refl _) _
  have b5 : Below W4.heap.size W4 W5 := by rw [← e5]; exact (Below.refl _ _).alloc (Nat.le_refl _) _
  rw [e1, e2, e3, e4, e5] at e0
  have e6 := e0.symm
  clear e0
  have b6 : Below W5.heap.size W5 W6 := by rw [← e6]; exact (Below.refl _ _).alloc (Nat.le_refl _) _
  have k := fun j => cell_new W5 #[.slice (some ⟨w.heap.size + 1, 0, none⟩) 2 2, .slice (some ⟨w.heap.size + 1 + 1, 0, none⟩) 2 2, .slice (some ⟨w.heap.size + 1 + 1 + 1, 0, none⟩) 2 2, .slice (some ⟨w.heap.size + 1 + 1 + 1 + 1, 0, none⟩) 2 2] 33 (0, 0) j
  rw [e6, s5] at k
  have hs : w.heap.size + 1 + 1 + 1 + 1 + 1 < W6.heap.size := by rw [← e6]; simp [s5]
  have b56 := b6
  have b46 : Below W4.heap.size W4 W6 := b5.trans (b6.mono (by omega))
  have b36 : Below W3.heap.size W3 W6 := b4.trans (b46.mono (by omega))
  have b26 : Below W2.heap.size W2 W6 := b3.trans (b36.mono (by omega))
  have b16 : Below W1.heap.size W1 W6 := b2.trans (b26.mono (by omega))
  refine ⟨(b16.block _ (by omega)).trans (by rw [← e1]; exact heap_alloc_new w o), _, 4, [⟨some ⟨w.heap.size + 1, 0, none⟩, 2, [1, 2]⟩, ⟨some ⟨w.heap.size + 1 + 1, 0, none⟩, 2, [1, -2]⟩, ⟨some ⟨w.heap.size + 1 + 1 + 1, 0, none⟩, 2, [-1, 2]⟩, ⟨some ⟨w.heap.size + 1 + 1 + 1 + 1, 0, none⟩, 2, [-1, -2]⟩], rfl, rfl, fun j hj => ?_, b1.trans (b16.mono (by omega))⟩
  refine ⟨_, 0, rfl, hs, ?_, ?_⟩
  · rw [Nat.zero_add, k j]
    match j, hj with
    | 0, _ => rfl
    | 1, _ => rfl
    | 2, _ => rfl
    | 3, _ => rfl
  · match j, hj with
    | 0, _ => exact i1.below b26
    | 1, _ => exact i2.below b36
    | 2, _ => exact i3.below b46
    | 3, _ => exact i4.below b56
set_option maxHeartbeats 8000000 in
set_option maxRecDepth 1000000 in
theorem square_walk (w : World) : Calls Tryd.prog 22 #[] w (SqOut w) := by
  go_enter Tryd.func22, Tryd.ntmps22
  go_wp2
  obtain ⟨h1, h2⟩ := sq_end w (.cells #[.int .i64 2, .slice (some ⟨w.heap.size + 1 + 1 + 1 + 1 + 1, 0, none⟩) 4 4] 24) _ rfl
  exact bodyPost_ret (results_cell_row (P := Tryd.prog) (d := _) rfl _ _ w.heap.size 24 _ _ rfl h1 Tryd.underlying24 rfl (by kernel_rfl)) rfl h2
theorem sq_len {cs : List Cl} (h : cs.map Cl.zs = sq) : cs.length = 4 := by have := congrArg List.length h; simpa [sq] using this
theorem sq_small {cs : List Cl} (h : cs.map Cl.zs = sq) : ∀ j, j < 4 → (cs.getD j default).zs.length ≤ 1000000000 := fun j hj => by
  have hl := sq_len h
  have hm : (cs.getD j default).zs ∈ sq := by
    rw [← h, List.getD_eq_getElem?_getD, List.getElem?_eq_getElem (by omega)]
    exact List.mem_map_of_mem (List.getElem_mem _)
  have : ∀ d ∈ sq, d.length ≤ 1000000000 := by decide
  exact this _ hm
theorem ints_nil (W : World) (a : Option Addr) : Ints W a [] := fun j hj => absurd hj (Nat.not_lt_zero _)
theorem lines_one (w X : World) (e : X = (w.alloc (.cells #[.int .i64 1] 3)).alloc (.cells #[.bool false, .slice (some ⟨w.heap.size, 0, none⟩) 1 1, .bool false, .slice none 0 0] 35)) :
    Below w.heap.size w X ∧ Lines X (some ⟨w.heap.size + 1, 0, none⟩) [⟨false, ⟨some ⟨w.heap.size, 0, none⟩, 1, [1]⟩⟩, ⟨false, ⟨none, 0, []⟩⟩] := by
  subst e
  have i1 := ints_new w [1]
  have b0 : Below w.heap.size w (w.alloc (.cells #[.int .i64 1] 3)) := (Below.refl _ _).alloc (Nat.le_refl _) _
  have k := fun j => cell_new (w.alloc (.cells #[.int .i64 1] 3)) #[.bool false, .slice (some ⟨w.heap.size, 0, none⟩) 1 1, .bool false, .slice none 0 0] 35 (0, 0) j
  have hs : (w.alloc (.cells #[.int .i64 1] 3)).heap.size = w.heap.size + 1 := by simp
  have b1 := (Below.refl (w.alloc (.cells #[.int .i64 1] 3)).heap.size (w.alloc (.cells #[.int .i64 1] 3))).alloc (Nat.le_refl _) (.cells #[.bool false, .slice (some ⟨w.heap.size, 0, none⟩) 1 1, .bool false, .slice none 0 0] 35)
  refine ⟨b0.trans (b1.mono (by simp)), fun j hj => ?_⟩
  rw [hs] at k
  match j, hj with
  | 0, _ => exact ⟨_, 0, rfl, by simp, k 0, k 1, i1.below b1⟩
  | 1, _ => exact ⟨_, 0, rfl, by simp, k 2, k 3, ints_nil _ _⟩
theorem lines_two (w X : World) (e : X = w.alloc (.cells #[.bool false, .slice none 0 0] 35)) : Below w.heap.size w X ∧ Lines X (some ⟨w.heap.size, 0, none⟩) [⟨false, ⟨none, 0, []⟩⟩] := by
  subst e
  have k := fun j => cell_new w #[.bool false, .slice none 0 0] 35 (0, 0) j
  refine ⟨(Below.refl _ _).alloc (Nat.le_refl _) _, fun j hj => ?_⟩
  match j, hj with
  | 0, _ => exact ⟨_, 0, rfl, by simp, k 0, k 1, ints_nil _ _⟩
theorem chk_one (w X : World) (e : X = (w.alloc (.cells #[.int .i64 1] 3)).alloc (.cells #[.bool false, .slice (some ⟨w.heap.size, 0, none⟩) 1 1, .bool false, .slice none 0 0] 35)) (a : Option Addr) (c : Nat) (cs : List Cl) (hcs : cs.map Cl.zs = sq) (hz : Rows' w a cs) (ht : Tab w.heap.size w) :
    Calls Tryd.prog 12 #[.agg #[.int .i64 2, .slice a 4 c], .slice (some ⟨w.heap.size + 1, 0, none⟩) 2 2] X (ChkOut (-1, 0) w) := by
  obtain ⟨hbX, hL⟩ := lines_one w X e
  have hc := checkC_walk add_law a 4 c cs 2 (some ⟨w.heap.size + 1, 0, none⟩) 2 2 [⟨false, ⟨some ⟨w.heap.size, 0, none⟩, 1, [1]⟩⟩, ⟨false, ⟨none, 0, []⟩⟩] X (sq_len hcs) (by decide) (sq_small hcs) (hz.below hbX) rfl (by decide) (fun j hj => by
    match j, hj with
    | 0, _ => exact (show (1 : Nat) ≤ 1000000000 by decide)
    | 1, _ => exact (show (0 : Nat) ≤ 1000000000 by decide)) hL (ht.grow hbX)
  refine hc.mono ?_
  rintro e' w' ⟨h1, h2⟩
  refine ⟨h1.trans ?_, hbX.trans (h2.mono hbX.size)⟩
  rw [show answerZ 2 (cs.map Cl.zs) (checkZ 2 cs) ([(⟨false, ⟨some ⟨w.heap.size, 0, none⟩, 1, [1]⟩⟩ : Ln), ⟨false, ⟨none, 0, []⟩⟩].map lnz) = (-1, 0) from sq_proof hcs]
theorem chk_two (w X : World) (e : X = w.alloc (.cells #[.bool false, .slice none 0 0] 35)) (a : Option Addr) (c : Nat) (cs : List Cl) (hcs : cs.map Cl.zs = sq) (hz : Rows' w a cs) (ht : Tab w.heap.size w) :
    Calls Tryd.prog 12 #[.agg #[.int .i64 2, .slice a 4 c], .slice (some ⟨w.heap.size, 0, none⟩) 1 1] X (ChkOut (0, 60) w) := by
  obtain ⟨hbX, hL⟩ := lines_two w X e
  have hc := checkC_walk add_law a 4 c cs 2 (some ⟨w.heap.size, 0, none⟩) 1 1 [⟨false, ⟨none, 0, []⟩⟩] X (sq_len hcs) (by decide) (sq_small hcs) (hz.below hbX) rfl (by decide) (fun j hj => by
    match j, hj with
    | 0, _ => exact (show (0 : Nat) ≤ 1000000000 by decide)) hL (ht.grow hbX)
  refine hc.mono ?_
  rintro e' w' ⟨h1, h2⟩
  refine ⟨h1.trans ?_, hbX.trans (h2.mono hbX.size)⟩
  rw [show answerZ 2 (cs.map Cl.zs) (checkZ 2 cs) ([(⟨false, ⟨none, 0, []⟩⟩ : Ln)].map lnz) = (0, 60) from sq_less hcs]
theorem imp_one (w X : World) (e : X = w.alloc (.cells #[.int .i64 1] 3)) (a : Option Addr) (c : Nat) (cs : List Cl) (hcs : cs.map Cl.zs = sq) (hz : Rows' w a cs) (ht : Tab w.heap.size w) :
    Calls Tryd.prog 18 #[.agg #[.int .i64 2, .slice a 4 c], .slice (some ⟨w.heap.size, 0, none⟩) 1 1] X fun e w' => e = .returned (.bool true) ∧ Below w.heap.size w w' := by
  have hbX : Below w.heap.size w X := by rw [e]; exact (Below.refl _ _).alloc (Nat.le_refl _) _
  have hi := implied_walk a 4 c cs 2 (some ⟨w.heap.size, 0, none⟩) 1 1 [1] X (sq_len hcs) (by decide) (sq_small hcs) (hz.below hbX) rfl (by decide) (by rw [e]; exact ints_new w [1]) (ht.grow hbX)
  refine hi.mono ?_
  rintro e' w' ⟨⟨b, h1, h2⟩, h3⟩
  have : b = true := h2.2 ⟨sq_check hcs, by decide, by rw [hcs]; exact sq_one⟩
  subst this
  exact ⟨h1, hbX.trans (h3.mono hbX.size)⟩
theorem imp_two (w : World) (a : Option Addr) (c : Nat) (cs : List Cl) (hcs : cs.map Cl.zs = sq) (hz : Rows' w a cs) (ht : Tab w.heap.size w) :
    Calls Tryd.prog 18 #[.agg #[.int .i64 2, .slice a 4 c], .slice none 0 0] w fun e w' => e = .returned (.bool false) ∧ Below w.heap.size w w' := by
  have hi := implied_walk a 4 c cs 2 none 0 0 [] w (sq_len hcs) (by decide) (sq_small hcs) hz rfl (by decide) (ints_nil _ _) ht
  refine hi.mono ?_
  rintro e' w' ⟨⟨b, h1, h2⟩, h3⟩
  have : b = false := by
    cases b with
    | false => rfl
    | true =>
      have := (h2.1 rfl).2.2
      rw [hcs] at this
      exact absurd this sq_not
  subst this
  exact ⟨h1, h3⟩
def AlOut (w : World) (e : Ending) (w' : World) : Prop := e = .returned (.bool true) ∧ Below w.heap.size w w'
set_option maxHeartbeats 16000000 in
set_option maxRecDepth 1000000 in
theorem alive_walk (w : World) (ht : Tab w.heap.size w) : Calls Tryd.prog 8 #[] w (AlOut w) := by
  have hsq := square_walk
  go_enter Tryd.func8, Tryd.ntmps8
  go_wp2_with (go_at_call 22; refine (hsq _).mono ?_)
  rintro e w1 ⟨a, c, cs, rfl, hcs, hz, hb1⟩
  have hc1 := chk_one w1 _ rfl a c cs hcs hz (ht.grow hb1)
  go_wp2_with (go_at_call 12; refine hc1.mono ?_)
  rintro e w2 ⟨rfl, hb2⟩
  have hB2 := hb1.trans (hb2.mono hb1.size)
  clear hc1 hz hcs hb1 hb2
  go_wp2_with (go_at_call 22; refine (hsq _).mono ?_)
  rintro e w3 ⟨a, c, cs, rfl, hcs, hz, hb3⟩
  have hB3 := hB2.trans (hb3.mono hB2.size)
  have hc1 := chk_two w3 _ rfl a c cs hcs hz (ht.grow hB3)
  go_wp2_with (go_at_call 12; refine hc1.mono ?_)
  rintro e w4 ⟨rfl, hb4⟩
  have hB4 := hB3.trans (hb4.mono hB3.size)
  clear hc1 hz hcs hb3 hb4
  go_wp2_with (first | (go_at_call 14; refine (num_walk _ _).mono ?_; rintro e w6 ⟨p1, p2⟩; rw [p1, p2]; clear p1 p2) | (go_at_call 22; refine (hsq _).mono ?_))
  rintro e w5 ⟨a, c, cs, rfl, hcs, hz, hb5⟩
  have hB5 := hB4.trans (hb5.mono hB4.size)
  have hc1 := imp_one w5 _ rfl a c cs hcs hz (ht.grow hB5)
  go_wp2_with (go_at_call 18; refine hc1.mono ?_)
  rintro e w6 ⟨rfl, hb6⟩
  have hB6 := hB5.trans (hb6.mono hB5.size)
  clear hc1 hz hcs hb5 hb6
  go_wp2_with (go_at_call 22; refine (hsq _).mono ?_)
  rintro e w7 ⟨a, c, cs, rfl, hcs, hz, hb7⟩
  have hB7 := hB6.trans (hb7.mono hB6.size)
  have hc1 := imp_two w7 a c cs hcs hz (ht.grow hB7)
  go_wp2_with (go_at_call 18; refine hc1.mono ?_)
  rintro e w8 ⟨rfl, hb8⟩
  have hE : AlOut w (.returned (.bool true)) w8 := ⟨rfl, hB7.trans (hb8.mono hB7.size)⟩
  clear hc1
  go_wp2
  go_ret
  exact hE
end Go.Proofs.YtagfnjpjmmleiaaDoor

/- Regions that draw their order, II: what holds while a region runs in any order. -/
import Derived.Test.YtjhbegfkeppcbaaXP
set_option autoImplicit false
set_option linter.unusedVariables false
namespace Go.X
noncomputable section
section
variable {P : Program} {m : Bool}

/-! The order of the table -/
def Before (es : List Ent) (x e : Ent) : Prop := ∃ pre post, es = pre ++ e :: post ∧ x ∈ pre
theorem Before.cons {es : List Ent} {x y : Ent} (z : Ent) (h : Before es x y) : Before (z :: es) x y := by
  obtain ⟨a, b, e, h⟩ := h
  exact ⟨z :: a, b, by rw [e]; rfl, List.mem_cons_of_mem _ h⟩
theorem Before.head {es : List Ent} {x y : Ent} (h : y ∈ es) : Before (x :: es) x y := by
  obtain ⟨a, b, e⟩ := List.append_of_mem h
  exact ⟨x :: a, b, by rw [e]; rfl, List.mem_cons_self⟩
theorem trich {x y : Ent} {es : List Ent} : x ∈ es → y ∈ es → x = y ∨ Before es x y ∨ Before es y x := by
  induction es with
  | nil => intro h; cases h
  | cons z es ih =>
    intro hx hy
    cases hx with
    | head => cases hy with
      | head => exact .inl rfl
      | tail _ hy => exact .inr (.inl (.head hy))
    | tail _ hx => cases hy with
      | head => exact .inr (.inr (.head hx))
      | tail _ hy => exact (ih hx hy).imp id fun h => h.imp (.cons z) (.cons z)
theorem before_app {es xs ys : List Ent} (h : es = xs ++ ys) {x y : Ent} (hx : x ∈ xs) (hy : y ∈ ys) : Before es x y := by
  obtain ⟨a, b, e⟩ := List.append_of_mem hy
  exact ⟨xs ++ a, b, by rw [h, e, List.append_assoc], by simp [hx]⟩
theorem Before.mem {es : List Ent} {x y : Ent} (h : Before es x y) : x ∈ es ∧ y ∈ es := by
  obtain ⟨a, b, e, h⟩ := h
  rw [e]; exact ⟨by simp [h], by simp⟩
theorem link_app : ∀ {xs ys : List Ent} {s t : St}, Link (xs ++ ys) s t ↔ ∃ u, Link xs s u ∧ Link ys u t
  | [], ys, s, t => ⟨fun h => ⟨s, rfl, h⟩, fun ⟨u, a, b⟩ => by cases a; exact b⟩
  | x :: xs, ys, s, t => ⟨fun ⟨a, b⟩ => let ⟨u, c, d⟩ := link_app.1 b; ⟨u, ⟨a, c⟩, d⟩, fun ⟨u, ⟨a, c⟩, d⟩ => ⟨a, link_app.2 ⟨u, c, d⟩⟩⟩
section
variable {call : XCall} {n : Nat} {env : Env} {all : List Oper} {anc : List Nat}
theorem link_next : ∀ {es : List Ent} {s t : St}, Link es s t → (∀ e ∈ es, EntOK m P call n env all anc e) → s.h.next ≤ t.h.next ∧ ∀ e ∈ es, s.h.next ≤ e.s.h.next ∧ e.t.h.next ≤ t.h.next
  | [], s, t, h, ok => by cases h; exact ⟨Nat.le_refl _, by simp⟩
  | e :: es, s, t, h, ok => by
    obtain ⟨rfl, h⟩ := h
    obtain ⟨a, b⟩ := link_next h fun e he => ok e (List.mem_cons_of_mem _ he)
    have := (ok e List.mem_cons_self).next
    refine ⟨by omega, fun x hx => ?_⟩
    rcases List.mem_cons.1 hx with rfl | hx
    · exact ⟨Nat.le_refl _, a⟩
    · obtain ⟨c, d⟩ := b x hx
      exact ⟨by omega, d⟩
theorem before_next {es : List Ent} {s t : St} (h : Link es s t) (ok : ∀ e ∈ es, EntOK m P call n env all anc e) {x y : Ent} (hb : Before es x y) : x.t.h.next ≤ y.s.h.next := by
  obtain ⟨a, b, rfl, hx⟩ := hb
  obtain ⟨u, h1, h2⟩ := link_app.1 h
  obtain ⟨e2, h2⟩ := h2
  rw [e2]
  exact ((link_next h1 fun e he => ok e (by simp [he])).2 x hx).2
theorem look_putD (dst : Option Nat) (v : AV) (loc : Lo) (x : Nat) : look (putD dst v loc) env x = if dst = some x then v else look loc env x := by
  cases dst with
  | none => simp [putD]
  | some d => rw [putD, look_cons]; simp
theorem link_look {x : Nat} : ∀ {es : List Ent} {s t : St}, Link es s t → (∀ e ∈ es, EntOK m P call n env all anc e) →
    (∃ e ∈ es, e.o.dst = some x ∧ look t.loc env x = e.v) ∨ ((∀ e ∈ es, e.o.dst ≠ some x) ∧ look t.loc env x = look s.loc env x)
  | [], s, t, h, ok => by cases h; exact .inr ⟨by simp, rfl⟩
  | e :: es, s, t, h, ok => by
    obtain ⟨rfl, h⟩ := h
    rcases link_look (x := x) h fun e he => ok e (List.mem_cons_of_mem _ he) with ⟨y, a, b, c⟩ | ⟨a, b⟩
    · exact .inl ⟨y, by simp [a], b, c⟩
    · rw [(ok e List.mem_cons_self).loc, look_putD] at b
      by_cases hd : e.o.dst = some x
      · rw [if_pos hd] at b; exact .inl ⟨e, by simp, hd, b⟩
      · rw [if_neg hd] at b
        refine .inr ⟨fun y hy => ?_, b⟩
        rcases List.mem_cons.1 hy with rfl | hy
        · exact hd
        · exact a y hy
theorem link_rl {z : Nat × TypeId × AV × AV} : ∀ {es : List Ent} {s t : St}, Link es s t → (∀ e ∈ es, EntOK m P call n env all anc e) → (z ∈ s.rl ∨ ∃ e ∈ es, z ∈ e.t.rl) → z ∈ t.rl
  | [], s, t, h, ok, hz => by
    cases h
    rcases hz with h | ⟨e, h, _⟩
    · exact h
    · cases h
  | e :: es, s, t, h, ok, hz => by
    obtain ⟨rfl, h⟩ := h
    refine link_rl h (fun e he => ok e (List.mem_cons_of_mem _ he)) ?_
    rcases hz with hz | ⟨x, hx, hz⟩
    · exact .inl ((ok e List.mem_cons_self).rl z hz)
    · rcases List.mem_cons.1 hx with rfl | hx
      · exact .inl hz
      · exact .inr ⟨x, hx, hz⟩
end

/-! Blocks that were made ahead of their time -/
def Pend (L : LM) (B0 : Nat) (w : World) (id : Nat) (k : Blk) : Prop := ∃ p, L id = some p ∧ RB L k w p ∧ B0 ≤ p.B ∧ ∀ j q, L j = some q → q.B = p.B → j = id
structure Mid (L0 : LM) (h0 : H) (w0 : World) (N : Nat) (L : LM) (h : H) (w : World) : Prop where
  rh : RH L h w 0
  ext : Ext L0 L
  size : w0.heap.size ≤ w.heap.size
  keep : ∀ B, B < w0.heap.size → ¬ Own L0 h0 B → w.heap[B]? = w0.heap[B]?
  own : ∀ B, Own L h B → B < w0.heap.size → Own L0 h0 B
  new : ∀ i p, L i = some p → L0 i = some p ∨ (h0.next ≤ i ∧ i < N ∧ (w0.heap.size ≤ p.B ∨ Own L0 h0 p.B))
  next : h0.next ≤ h.next
  os : w.os = w0.os
  output : w.output = w0.output
  tape : w.tape = w0.tape
  fro : ∀ a, w.frozen? a = w0.frozen? a
section
variable {L0 L L' : LM} {h0 h h' : H} {w0 w w' : World} {N : Nat}
theorem rh_zero {U : Nat} (r : RH L h w U) : RH L h w 0 := ⟨r.mem, r.sep, fun _ _ h => by omega, r.below, r.live⟩
theorem rh_fresh {U V : Nat} (r : RH L h w U) (hf : ∀ i, h.next ≤ i → i < V → L i = none) : RH L h w V := ⟨r.mem, r.sep, hf, r.below, r.live⟩
theorem Mid.start {U : Nat} (r : RH L h w U) : Mid L h w N L h w :=
  ⟨rh_zero r, Ext.refl L, Nat.le_refl _, fun _ _ _ => rfl, fun _ h _ => h, fun _ _ h => .inl h, Nat.le_refl _, rfl, rfl, rfl, fun _ => rfl⟩
theorem Mid.addA (M : Mid L0 h0 w0 N L h w) {k : Blk} (hp : L h.next = none ∨ Pend L w0.heap.size w h.next k) : Mid L0 h0 w0 N L (hnew h k) w where
  ext := M.ext
  size := M.size
  keep := M.keep
  new := M.new
  next := Nat.le_succ_of_le M.next
  os := M.os
  output := M.output
  tape := M.tape
  fro := M.fro
  own := by
    rintro B ⟨i, ki, p, hi, hw, hL, rfl⟩ hB
    rcases T.get_set hi with ⟨rfl, rfl⟩ | ⟨hne, hi⟩
    · rcases hp with hp | ⟨q, a, _, b, _⟩
      · rw [hp] at hL; cases hL
      · rw [a] at hL; cases hL; omega
    · exact M.own _ ⟨i, ki, p, hi, hw, hL, rfl⟩ hB
  rh := {
    mem := by
      intro i ki p hi hL
      rcases T.get_set hi with ⟨rfl, rfl⟩ | ⟨hne, hi⟩
      · rcases hp with hp | ⟨q, a, b, _⟩
        · rw [hp] at hL; cases hL
        · rw [a] at hL; cases hL; exact b
      · exact M.rh.mem i ki p hi hL
    sep := by
      intro i j ki kj p q hi hj hLi hLj hij hw hB
      rcases T.get_set hi with ⟨rfl, rfl⟩ | ⟨hne, hi⟩
      · rcases hp with hp | ⟨q', a, _, _, u⟩
        · rw [hp] at hLi; cases hLi
        · rw [a] at hLi; cases hLi
          exact absurd (u j q hLj hB.symm).symm hij
      · rcases T.get_set hj with ⟨rfl, rfl⟩ | ⟨hne', hj⟩
        · rcases hp with hp | ⟨q', a, _, _, u⟩
          · rw [hp] at hLj; cases hLj
          · rw [a] at hLj; cases hLj
            exact absurd (u i p hLi hB) hij
        · exact M.rh.sep i j ki kj p q hi hj hLi hLj hij hw hB
    fresh := fun _ _ h => by omega
    below := M.rh.below
    live := by
      intro i ki hi
      rcases T.get_set hi with ⟨rfl, _⟩ | ⟨_, hi⟩
      · exact Nat.lt_succ_self _
      · exact Nat.lt_succ_of_lt (M.rh.live _ _ hi) }
theorem Mid.step (M : Mid L0 h0 w0 N L h w) {U : Nat} (s : Step L L' h h' w w') (r : RH L' h' w' U) (hN : h'.next ≤ N) : Mid L0 h0 w0 N L' h' w' where
  rh := rh_zero r
  ext := M.ext.trans s.ext
  size := Nat.le_trans M.size s.size
  keep := fun B hB ho => (s.keep B (Nat.lt_of_lt_of_le hB M.size) fun h => ho (M.own B h hB)).trans (M.keep B hB ho)
  own := fun B h hB => M.own B (s.own B h (Nat.lt_of_lt_of_le hB M.size)) hB
  new := fun i p hp => by
    have n1 := M.next
    have n3 := M.size
    rcases s.new i p hp with h1 | ⟨h1, h2, h3⟩
    · exact M.new i p h1
    · refine .inr ⟨by omega, by omega, ?_⟩
      rcases h3 with h3 | h3
      · exact .inl (by omega)
      · rcases Nat.lt_or_ge p.B w0.heap.size with h7 | h7
        · exact .inr (M.own _ h3 h7)
        · exact .inl h7
  next := Nat.le_trans M.next s.next
  os := s.os.trans M.os
  output := s.output.trans M.output
  tape := s.tape.trans M.tape
  fro := fun a => (s.fro a).trans (M.fro a)
theorem Pend.step {B0 id : Nat} {k : Blk} (p : Pend L B0 w id k) {U : Nat} (r : RH L h w U) (s : Step L L' h h' w w') (hid : h.b.get id = none) : Pend L' B0 w' id k := by
  obtain ⟨p, a, b, c, u⟩ := p
  have hlt := r.below _ _ a
  have hno : ¬ Own L h p.B := by
    rintro ⟨i, ki, q, hi, _, hq, e⟩
    have := u i q hq e
    subst this; rw [hid] at hi; cases hi
  refine ⟨p, s.ext _ _ a, (b.keep (s.keep _ hlt hno)).mono s.ext, c, fun j q hj e => ?_⟩
  rcases s.new j q hj with h1 | ⟨_, _, h2⟩
  · exact u j q h1 e
  · rcases h2 with h2 | h2
    · omega
    · rw [e] at h2; exact absurd h2 hno
/-- what is made aside -/
structure Side (N : Nat) (L L' : LM) (h : H) (w w' : World) : Prop where
  ext : Ext L L'
  below : ∀ i p, L' i = some p → p.B < w'.heap.size
  size : w.heap.size ≤ w'.heap.size
  keep : ∀ B, B < w.heap.size → w'.heap[B]? = w.heap[B]?
  new : ∀ i p, L' i = some p → L i = some p ∨ (h.next ≤ i ∧ i < N ∧ w.heap.size ≤ p.B)
  os : w'.os = w.os
  output : w'.output = w.output
  tape : w'.tape = w.tape
  fro : ∀ a, w'.frozen? a = w.frozen? a
theorem Side.refl {U : Nat} (r : RH L h w U) : Side N L L h w w := ⟨Ext.refl L, r.below, Nat.le_refl _, fun _ _ => rfl, fun _ _ h => .inl h, rfl, rfl, rfl, fun _ => rfl⟩
theorem Side.back (s : Side N L L' h w w') {i : Nat} {p : Loc} (hi : i < h.next) (hp : L' i = some p) : L i = some p := by
  rcases s.new i p hp with h | ⟨h, _⟩
  · exact h
  · omega
theorem Mid.side (M : Mid L0 h0 w0 N L h w) (s : Side N L L' h w w') : Mid L0 h0 w0 N L' h w' where
  rh := {
    mem := fun i k p hi hp => by
      have hp' := s.back (M.rh.live i k hi) hp
      exact ((M.rh.mem i k p hi hp').keep (s.keep _ (M.rh.below _ _ hp'))).mono s.ext
    sep := fun i j ki kj p q hi hj hp hq => M.rh.sep i j ki kj p q hi hj (s.back (M.rh.live i ki hi) hp) (s.back (M.rh.live j kj hj) hq)
    fresh := fun _ _ h => by omega
    below := s.below
    live := M.rh.live }
  ext := M.ext.trans s.ext
  size := Nat.le_trans M.size s.size
  keep := fun B hB ho => (s.keep B (Nat.lt_of_lt_of_le hB M.size)).trans (M.keep B hB ho)
  own := by
    rintro B ⟨i, k, p, hi, hw, hp, e⟩ hB
    exact M.own B ⟨i, k, p, hi, hw, s.back (M.rh.live i k hi) hp, e⟩ hB
  new := fun i p hp => by
    have n1 := M.next
    have n3 := M.size
    rcases s.new i p hp with h1 | ⟨h1, h2, h3⟩
    · exact M.new i p h1
    · exact .inr ⟨by omega, h2, .inl (by omega)⟩
  next := M.next
  os := s.os.trans M.os
  output := s.output.trans M.output
  tape := s.tape.trans M.tape
  fro := fun a => (s.fro a).trans (M.fro a)
theorem Pend.side {B0 id : Nat} {k : Blk} (p : Pend L B0 w id k) {U : Nat} (r : RH L h w U) (s : Side N L L' h w w') : Pend L' B0 w' id k := by
  obtain ⟨p, a, b, c, u⟩ := p
  have hlt := r.below _ _ a
  refine ⟨p, s.ext _ _ a, (b.keep (s.keep _ hlt)).mono s.ext, c, fun j q hj e => ?_⟩
  rcases s.new j q hj with h1 | ⟨_, _, h2⟩
  · exact u j q h1 e
  · omega
theorem leaf_none {α : Type} {i : Nat} {k : α} (h : (T.leaf : T α).get i = some k) : False := by rw [T.get_leaf] at h; cases h
/-- the empty heap's steps are aside -/
theorem side_of {id : Nat} {h1 : H} {U : Nat} (s : Step L L' ⟨T.leaf, id⟩ h1 w w') (r : RH L' h1 w' U) (hid : h.next ≤ id) (hN : h1.next ≤ N) : Side N L L' h w w' where
  ext := s.ext
  below := r.below
  size := s.size
  keep := fun B hB => s.keep B hB (by rintro ⟨i, k, p, hi, _⟩; exact leaf_none hi)
  new := fun i p hp => by
    rcases s.new i p hp with h1 | ⟨h1, h2, h3⟩
    · exact .inl h1
    · refine .inr ⟨Nat.le_trans hid h1, by omega, ?_⟩
      rcases h3 with h3 | ⟨i, k, p, hi, _⟩
      · exact h3
      · exact (leaf_none hi).elim
  os := s.os
  output := s.output
  tape := s.tape
  fro := s.fro
theorem rh_leaf {U id V : Nat} (r : RH L h w U) (hf : ∀ i, id ≤ i → i < V → L i = none) : RH L ⟨T.leaf, id⟩ w V :=
  ⟨fun i k p hi => (leaf_none hi).elim, fun i j ki kj p q hi => (leaf_none hi).elim, hf, r.below, fun i k hi => (leaf_none hi).elim⟩
theorem hnew_inj {k k' : Blk} (e : hnew h k = hnew h k') : k = k' := by
  have := congrArg (fun x => x.b.get h.next) e
  simp only [hnew] at this
  rw [T.get_set_same, T.get_set_same] at this
  exact Option.some.inj this
end
end
end
end Go.X

/- Drat: the checker's values. -/
import Derived.Test.YtagfnjpjmmleiaaDoorQA
import Derived.Test.YtagfnjpjmmleiaaDoorPF
import Derived.Test.YtagfnjpjmmleiaaDoorPE
import Derived.OwnWalk
import Derived.ArgAppend
set_option linter.unusedVariables false
set_option linter.unusedSimpArgs false
set_option autoImplicit false
set_option linter.unusedVariables false
set_option linter.unusedSimpArgs false
namespace Go.Proofs.YtagfnjpjmmleiaaDoor
open Go.Shelf Go.RowKit
/-- the values of the checker in block xb: a row of its own, block vb -/
structure HasVals (w : World) (xb vb n cv : Nat) (vs : List Int) : Prop where
  fld : w.cell? ⟨xb, 7, none⟩ = some (.slice (some ⟨vb, 0, none⟩) n cv)
  lt : vb < w.heap.size
  cell : ∀ m, m < n → w.cell? ⟨vb, m, none⟩ = some (.int .i8 (vs.getD m 0)) ∧ w.frozen? ⟨vb, m, none⟩ = false
  fine : Fine n vs
set_option maxHeartbeats 4000000 in
set_option maxRecDepth 1000000 in
theorem value_walk (xb vb n cv : Nat) (vs : List Int) (x : Int) (w : World) (h : HasVals w xb vb n cv vs) (hx : x.natAbs < n) (hn : n ≤ 1000000000) :
    Calls Tryd.prog 55 #[.pointer (some ⟨xb, 0, none⟩), .int .i64 x] w fun e w' => e = .returned (.int .i8 (litV vs x)) ∧ w' = w := by
  obtain ⟨m, hm⟩ : ∃ m, x.natAbs = m := ⟨_, rfl⟩
  rw [hm] at hx
  obtain ⟨hc, _⟩ := h.cell m hx
  have hb := h.fine.get m
  have hf := h.fld
  obtain ⟨y, hy⟩ : ∃ y, vs.getD m 0 = y := ⟨_, rfl⟩
  rw [hy] at hc hb
  have hmn : (m : Int) < n := by omega
  rcases (show (x < 0 ∧ x = -(m : Int)) ∨ (¬ x < 0 ∧ x = (m : Int)) by omega) with ⟨h0, rfl⟩ | ⟨h0, rfl⟩
  · have hL : litV vs (-(m : Int)) = -y := by unfold litV; rw [hm, hy]; exact if_pos h0
    go_enter Tryd.func55, Tryd.ntmps55
    go_wp2
    go_ret
    exact ⟨by first | rfl | (simp [hL]; done) | (rw [hL]; rfl), by trivial⟩
  · have hL : litV vs (m : Int) = y := by unfold litV; rw [hm, hy]; exact if_neg h0
    go_enter Tryd.func55, Tryd.ntmps55
    go_wp2
    go_ret
    exact ⟨by first | rfl | (simp [hL]; done) | (rw [hL]; rfl), by trivial⟩
end Go.Proofs.YtagfnjpjmmleiaaDoor
/- Drat: what a call of the checker's may turn: some blocks, named; and blocks of its own making. -/
set_option autoImplicit false
set_option linter.unusedVariables false
set_option linter.unusedSimpArgs false
namespace Go.Proofs.YtagfnjpjmmleiaaDoor
open Go.Shelf Go.RowKit
/-- of what there was only blocks of a list have turned -/
structure Only (bs : List Nat) (w w' : World) : Prop where
  os : w'.os = w.os
  tape : w'.tape = w.tape
  output : w'.output = w.output
  size : w.heap.size ≤ w'.heap.size
  block : ∀ k, k < w.heap.size → k ∉ bs → w'.heap[k]? = w.heap[k]?
theorem Only.refl (bs : List Nat) (w : World) : Only bs w w := ⟨rfl, rfl, rfl, Nat.le_refl _, fun _ _ _ => rfl⟩
theorem Only.trans {bs : List Nat} {a b c : World} (h : Only bs a b) (k : Only bs b c) : Only bs a c :=
  ⟨k.os.trans h.os, k.tape.trans h.tape, k.output.trans h.output, Nat.le_trans h.size k.size, fun i hi hn => (k.block i (Nat.lt_of_lt_of_le hi h.size) hn).trans (h.block i hi hn)⟩
theorem Only.mono {bs bs' : List Nat} {a b : World} (h : Only bs a b) (hs : ∀ x ∈ bs, x ∈ bs') : Only bs' a b := ⟨h.os, h.tape, h.output, h.size, fun i hi hn => h.block i hi fun e => hn (hs i e)⟩
theorem Only.setCell {bs : List Nat} {a w : World} (h : Only bs a w) {p : Addr} (hp : p.block ∈ bs ∨ a.heap.size ≤ p.block) (u : Value) : Only bs a (w.setCell p u) :=
  ⟨h.os, h.tape, h.output, by rw [World.size_setCell]; exact h.size, fun k hk hn => by
    rw [Below.heap_setCell _ _ _ _ (fun e => by rcases hp with hp | hp; exact hn (e ▸ hp); omega)]
    exact h.block k hk hn⟩
theorem Only.alloc {bs : List Nat} {a w : World} (h : Only bs a w) (o : Obj) : Only bs a (w.alloc o) :=
  ⟨h.os, h.tape, h.output, Nat.le_trans h.size (by simp), fun k hk hn => by
    rw [Below.heap_alloc _ _ _ (Nat.lt_of_lt_of_le hk h.size)]
    exact h.block k hk hn⟩
theorem Only.drewN {bs : List Nat} {a w : World} (h : Only bs a w) (q : Nat) : Only bs a (w.drewN q) := ⟨h.os, h.tape, h.output, h.size, h.block⟩
theorem Only.grown {bs : List Nat} {a w w' : World} {row : Option Nat} (h : Only bs a w) (hg : w.grownBy w' row) (hr : ∀ k, row = some k → k ∈ bs ∨ a.heap.size ≤ k) : Only bs a w' :=
  ⟨hg.os.trans h.os, hg.tape.trans h.tape, hg.output.trans h.output, Nat.le_trans h.size hg.size, fun k hk hn => by
    rw [hg.block k (Nat.lt_of_lt_of_le hk h.size) (fun e => by
      rcases hr k e.symm with e | e
      · exact hn e
      · omega)]
    exact h.block k hk hn⟩
theorem Only.cell {bs : List Nat} {w w' : World} (h : Only bs w w') {p : Addr} (hp : p.block < w.heap.size) (hn : p.block ∉ bs) : w'.cell? p = w.cell? p := World.cell?_of_block (w := w) (h.block p.block hp hn)
theorem Only.frozen {bs : List Nat} {w w' : World} (h : Only bs w w') {p : Addr} (hp : p.block < w.heap.size) (hn : p.block ∉ bs) : w'.frozen? p = w.frozen? p := World.frozen?_of_block (w := w) (h.block p.block hp hn)
theorem Only.ints {bs : List Nat} {w w' : World} (h : Only bs w w') {b o : Nat} {zs : List Int} (hi : Ints w (some ⟨b, o, none⟩) zs) (hn : b ∉ bs) : Ints w' (some ⟨b, o, none⟩) zs := fun j hj => by
  obtain ⟨b', o', e1, e2, e3⟩ := hi j hj
  cases e1
  exact ⟨b, o, rfl, Nat.lt_of_lt_of_le e2 h.size, (h.cell (p := ⟨b, o + j, none⟩) e2 hn).trans e3⟩
theorem Only.owns {bs : List Nat} {w w' : World} (h : Only bs w w') {base : Nat} {e : TypeId} {size : Nat} {v : Value} {n : Nat} {xs : List Value} (ho : w.ownsRow base e size v n xs) (hn : ∀ g, v.ownBlock = some g → g ∉ bs) : w'.ownsRow base e size v n xs := by
  obtain ⟨h1, h2⟩ := ho
  refine ⟨h1, h2.imp (fun x => x) ?_⟩
  rintro ⟨g, cap, cur, rfl, hb, hg, r⟩
  exact ⟨g, cap, cur, rfl, hb, (h.block g (Array.getElem?_eq_some_iff.1 hg).1 (hn g rfl)).trans hg, r⟩
theorem Only.below {bs : List Nat} {w w' : World} {B : Nat} (h : Only bs w w') (hB : B ≤ w.heap.size) (hb : ∀ x ∈ bs, B ≤ x) : Below B w w' :=
  ⟨h.os, h.tape, h.output, h.size, fun k hk => h.block k (Nat.lt_of_lt_of_le hk hB) fun e => by have := hb k e; omega⟩
end Go.Proofs.YtagfnjpjmmleiaaDoor
/- Drat: append to a row of one's own, which tells where the row lies behind it: where it lay, or in a new block. -/
set_option autoImplicit false
set_option linter.unusedVariables false
namespace Go.Proofs.YtagfnjpjmmleiaaDoor
open Go.Shelf Go.RowKit
theorem grownBy_any {w w' : World} {row : Option Nat} (h : w.grownBy w' none) : w.grownBy w' row := ⟨h.os, h.tape, h.output, h.size, fun k hk _ => h.block k hk (by intro e; cases e)⟩
theorem owns_new {w : World} {base b2 : Nat} {e : TypeId} {size : Nat} {v : Value} {n : Nat} {xs : List Value} (h : w.ownsRow b2 e size v n xs) (hb : base ≤ b2) (hn : 0 < n) : w.ownsRow base e size v n xs ∧ ∃ g, v.ownBlock = some g ∧ b2 ≤ g := by
  obtain ⟨h1, h2⟩ := h
  rcases h2 with ⟨_, h0⟩ | ⟨g, cap, cur, rfl, hbg, r⟩
  · omega
  · exact ⟨⟨h1, .inr ⟨g, cap, cur, rfl, Nat.le_trans hb hbg, r⟩⟩, g, rfl, hbg⟩
theorem wpList_append_told {P : Program} (w : World) {ops : Array Oper} {rest : List Oper} {o : Oper} {a : Act} {Q : Exit → Act → World → Prop}
    (hgd : o.guard = none) (s x : Operand) (t : TypeId) (ho : o.op = .call { callee := .builtin .append, args := #[s, x], argTypes := #[t, t] })
    (base : Nat) (e : TypeId) (i : TypeInfo) (z : Value) (size bytes : Nat) (ht : P.underlying t = some (.slice e)) (hi : P.info? e = some i) (hz : i.zero = some z)
    (hsize : i.size = size) (hby : i.bytes = bytes) (hzs : z.cells.size = size) (hsz : 0 < size)
    (v : Value) (n : Nat) (xs : List Value) (hs : a.eval s = v) (hown : w.ownsRow base e size v n xs)
    (ad : Addr) (m c : Nat) (news : List Value) (hx : a.eval x = .slice (some ad) m c) (hl : news.length = m * size) (hnews : ∀ j u, news[j]? = some u → w.cell? (ad.add j) = some u) (h1 : ∀ u ∈ news, u.oneCell' = true)
    (hm : 0 < m) (h63 : n + m ≤ maxLen) (hbytes : (n + m) * bytes ≤ 140737488355328) (hbase : base ≤ w.heap.size)
    (h : ∀ v' w', w'.ownsRow base e size v' (n + m) (xs ++ news) → w.grownBy w' v.ownBlock → (∃ g, v'.ownBlock = some g ∧ (v.ownBlock = some g ∨ w.heap.size ≤ g)) → wpList P ops Q rest (a.put o.dst v') w') : wpList P ops Q (o :: rest) a w := by
  rcases hown.2 with ⟨e1, e2⟩ | ⟨g, cap, cur, e1, hbg, hg, hnc, hcm, hcs, htake⟩
  · subst e2
    have hxs : xs = [] := List.eq_nil_of_length_eq_zero (by simpa using hown.1)
    subst hxs
    refine wpList_append_grows w hgd s x t ho e i z size bytes ht hi hz hsize hby hzs hsz none 0 0 [] (hs.trans e1) (fun _ => ⟨rfl, rfl⟩) (by simp) (fun b hb => by cases hb) ad m c news hx hl hnews h1 (by omega) h63 hbytes fun v' w' k1 k2 => ?_
    obtain ⟨k3, g', k4, k5⟩ := owns_new k1 hbase (by omega)
    exact h v' w' k3 (grownBy_any k2) ⟨g', k4, .inr k5⟩
  · by_cases hroom : n + m ≤ cap
    · refine wpList_append_fits w hgd s x t ho base e i size ht hi hsize g n cap xs (hs.trans e1) (by rw [← e1]; exact hown) ad m c news hx hl hnews h1 hroom fun w' k1 k2 => ?_
      refine h _ w' k1 (by rw [e1]; exact k2) ⟨g, rfl, .inl (by rw [e1]; rfl)⟩
    · have hob : v.ownBlock = some g := by rw [e1]; rfl
      refine wpList_append_grows w hgd s x t ho e i z size bytes ht hi hz hsize hby hzs hsz (some ⟨g, 0, none⟩) n cap xs (hs.trans e1) (fun e => by cases e) hown.1 (fun b hb => by cases hb; exact hown.cells hob) ad m c news hx hl hnews h1 (by omega) h63 hbytes fun v' w' k1 k2 => ?_
      obtain ⟨k3, g', k4, k5⟩ := owns_new k1 hbase (by omega)
      exact h v' w' k3 (grownBy_any k2) ⟨g', k4, .inr k5⟩
end Go.Proofs.YtagfnjpjmmleiaaDoor

/- Drat: append to a row of one's own, which tells where the row lies behind it: where it lay, or in a new block. -/
import Derived.Test.YtagfnjpjmmleiaaDoorQE
import Derived.OwnWalk
import Derived.ArgAppend
set_option linter.unusedVariables false
set_option linter.unusedSimpArgs false
set_option autoImplicit false
set_option linter.unusedVariables false
namespace Go.Proofs.YtagfnjpjmmleiaaDoor
open Go.Shelf Go.RowKit
theorem grownBy_any {w w' : World} {row : Option Nat} (h : w.grownBy w' none) : w.grownBy w' row := ⟨h.os, h.tape, h.output, h.size, fun k hk _ => h.block k hk (by intro e; cases e)⟩
theorem owns_new {w : World} {base b2 : Nat} {e : TypeId} {size : Nat} {v : Value} {n : Nat} {xs : List Value} (h : w.ownsRow b2 e size v n xs) (hb : base ≤ b2) (hn : 0 < n) : w.ownsRow base e size v n xs ∧ ∃ g, v.ownBlock = some g ∧ b2 ≤ g := by
  obtain ⟨h1, h2⟩ := h
  rcases h2 with ⟨_, h0⟩ | ⟨g, cap, cur, rfl, hbg, r⟩
  · omega
  · exact ⟨⟨h1, .inr ⟨g, cap, cur, rfl, Nat.le_trans hb hbg, r⟩⟩, g, rfl, hbg⟩
theorem wpList_append_told {P : Program} (w : World) {ops : Array Oper} {rest : List Oper} {o : Oper} {a : Act} {Q : Exit → Act → World → Prop}
    (hgd : o.guard = none) (s x : Operand) (t : TypeId) (ho : o.op = .call { callee := .builtin .append, args := #[s, x], argTypes := #[t, t] })
    (base : Nat) (e : TypeId) (i : TypeInfo) (z : Value) (size bytes : Nat) (ht : P.underlying t = some (.slice e)) (hi : P.info? e = some i) (hz : i.zero = some z)
    (hsize : i.size = size) (hby : i.bytes = bytes) (hzs : z.cells.size = size) (hsz : 0 < size)
    (v : Value) (n : Nat) (xs : List Value) (hs : a.eval s = v) (hown : w.ownsRow base e size v n xs)
    (ad : Addr) (m c : Nat) (news : List Value) (hx : a.eval x = .slice (some ad) m c) (hl : news.length = m * size) (hnews : ∀ j u, news[j]? = some u → w.cell? (ad.add j) = some u) (h1 : ∀ u ∈ news, u.oneCell' = true)
    (hm : 0 < m) (h63 : n + m ≤ maxLen) (hbytes : (n + m) * bytes ≤ 140737488355328) (hbase : base ≤ w.heap.size)
    (h : ∀ v' w', w'.ownsRow base e size v' (n + m) (xs ++ news) → w.grownBy w' v.ownBlock → (∃ g, v'.ownBlock = some g ∧ (v.ownBlock = some g ∨ w.heap.size ≤ g)) → wpList P ops Q rest (a.put o.dst v') w') : wpList P ops Q (o :: rest) a w := by
  rcases hown.2 with ⟨e1, e2⟩ | ⟨g, cap, cur, e1, hbg, hg, hnc, hcm, hcs, htake⟩
  · subst e2
    have hxs : xs = [] := List.eq_nil_of_length_eq_zero (by simpa using hown.1)
    subst hxs
    refine wpList_append_grows w hgd s x t ho e i z size bytes ht hi hz hsize hby hzs hsz none 0 0 [] (hs.trans e1) (fun _ => ⟨rfl, rfl⟩) (by simp) (fun b hb => by cases hb) ad m c news hx hl hnews h1 (by omega) h63 hbytes fun v' w' k1 k2 => ?_
    obtain ⟨k3, g', k4, k5⟩ := owns_new k1 hbase (by omega)
    exact h v' w' k3 (grownBy_any k2) ⟨g', k4, .inr k5⟩
  · by_cases hroom : n + m ≤ cap
    · refine wpList_append_fits w hgd s x t ho base e i size ht hi hsize g n cap xs (hs.trans e1) (by rw [← e1]; exact hown) ad m c news hx hl hnews h1 hroom fun w' k1 k2 => ?_
      refine h _ w' k1 (by rw [e1]; exact k2) ⟨g, rfl, .inl (by rw [e1]; rfl)⟩
    · have hob : v.ownBlock = some g := by rw [e1]; rfl
      refine wpList_append_grows w hgd s x t ho e i z size bytes ht hi hz hsize hby hzs hsz (some ⟨g, 0, none⟩) n cap xs (hs.trans e1) (fun e => by cases e) hown.1 (fun b hb => by cases hb; exact hown.cells hob) ad m c news hx hl hnews h1 (by omega) h63 hbytes fun v' w' k1 k2 => ?_
      obtain ⟨k3, g', k4, k5⟩ := owns_new k1 hbase (by omega)
      exact h v' w' k3 (grownBy_any k2) ⟨g', k4, .inr k5⟩
end Go.Proofs.YtagfnjpjmmleiaaDoor

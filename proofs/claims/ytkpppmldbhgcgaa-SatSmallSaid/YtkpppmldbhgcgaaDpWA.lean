/- Sat: rows of clauses that a call owns. -/
import Derived.Test.YtkpppmldbhgcgaaDpPHtoDpUA
import Derived.Test.YtkpppmldbhgcgaaDpTOtoDpTP
import Derived.Test.YtkpppmldbhgcgaaDpPDtoDpQA
import Derived.Laws.AppendOwnNone
set_option linter.unusedVariables false
set_option linter.unusedSimpArgs false
set_option autoImplicit false
set_option linter.unusedVariables false
set_option linter.unusedSimpArgs false
namespace Go.Proofs.Ytkpppmldbhgcgaa.D
open Go.Proofs Go
open Go.Shelf Go.RowKit
theorem info33 : (Try.prog.info? 40).map (fun i => (i.zero, i.size, i.bytes)) = some (some (.slice none 0 0), 1, 24) := by kernel_rfl
open Go.Shelf Go.RowKit
def rowV (c : Cl) : Value := .slice c.a c.zs.length c.c
/-- a row of clauses, of the call's own -/
def OwnCl (w : World) (base : Nat) (v : Value) (cs : List Cl) : Prop := w.ownsRow base 40 1 v cs.length (cs.map rowV)
theorem own_below {w w' : World} {base e size n : Nat} {v : Value} {xs : List Value} (h : w.ownsRow base e size v n xs) (hb : Below w.heap.size w w') : w'.ownsRow base e size v n xs := by
  obtain ⟨h1, h2⟩ := h
  refine ⟨h1, h2.imp (fun x => x) ?_⟩
  rintro ⟨g, cap, cur, e1, e2, hg, r⟩
  exact ⟨g, cap, cur, e1, e2, (hb.block g (Array.getElem?_eq_some_iff.1 hg).1).trans hg, r⟩
theorem OwnCl.below {w w' : World} {base : Nat} {v : Value} {cs : List Cl} (h : OwnCl w base v cs) (hb : Below w.heap.size w w') : OwnCl w' base v cs := own_below h hb
theorem OwnCl.form {w : World} {base : Nat} {v : Value} {cs : List Cl} (h : OwnCl w base v cs) : ∃ a c, v = .slice a cs.length c ∧ cs.length ≤ c ∧ (a = none → c = 0) ∧ ∀ ad, a = some ad → ∃ g, ad = ⟨g, 0, none⟩ := by
  rcases h.2 with ⟨e1, e2⟩ | ⟨g, cap, cur, e1, hb, hg, hc, _⟩
  · exact ⟨none, 0, by rw [e1, e2], by omega, fun _ => rfl, fun ad e => by cases e⟩
  · exact ⟨_, cap, e1, hc, fun e => (by cases e), fun ad e => by cases e; exact ⟨g, rfl⟩⟩
theorem OwnCl.cell {w : World} {base g n c : Nat} {cs : List Cl} (h : OwnCl w base (.slice (some ⟨g, 0, none⟩) n c) cs) {j : Nat} (hj : j < cs.length) : w.cell? ⟨g, j, none⟩ = some (rowV (cs.getD j default)) := by
  have hr : w.ownsRow base 40 1 (.slice (some ⟨g, 0, none⟩) n c) cs.length (cs.map rowV) := h
  have e := hr.1
  rw [List.length_map] at e
  have hn : n = cs.length := by
    rcases hr.2 with ⟨e1, _⟩ | ⟨_, _, _, e1, _⟩
    · cases e1
    · cases e1; rfl
  subst hn
  rw [hr.cellAt j (by omega), List.getElem?_map, List.getD_eq_getElem?_getD, List.getElem?_eq_getElem hj]; rfl
theorem OwnCl.rows {w : World} {base : Nat} {v : Value} {cs : List Cl} (h : OwnCl w base v cs) {a : Option Addr} {n c : Nat} (e : v = .slice a n c) (hi : ∀ x ∈ cs, Ints w x.a x.zs) : Rows' w a cs := fun j hj => by
  have hr := h
  obtain ⟨a', c', e1, _, _, hg⟩ := h.form
  rw [e] at e1
  cases e1
  cases a with
  | none =>
    rcases h.2 with ⟨e1, e2⟩ | ⟨g, cap, cur, e1, _⟩
    · omega
    · rw [e] at e1; cases e1
  | some ad =>
    obtain ⟨g, rfl⟩ := hg ad rfl
    subst e
    have hc := h.cell hj
    exact ⟨g, 0, rfl, cellLt hc, by rw [Nat.zero_add]; exact hc, hi _ (by rw [List.getD_eq_getElem?_getD, List.getElem?_eq_getElem hj]; exact List.getElem_mem _)⟩
theorem step_append_own {P : Program} {w : World} {ops : Array Oper} {o : Oper} {a : Act} {K : Act → World → Prop} {Q : Exit → Act → World → Prop} {E : Prop} (hgd : o.guard = none) (s x : Operand) (t : TypeId)
    (ho : o.op = .call { callee := .builtin .append, args := #[s, x], argTypes := #[t, t] })
    (base : Nat) (e : TypeId) (i : TypeInfo) (z : Value) (size bytes : Nat) (ht : P.underlying t = some (.slice e)) (hi : P.info? e = some i) (hz : i.zero = some z)
    (hsize : i.size = size) (hby : i.bytes = bytes) (hzs : z.cells.size = size) (hsz : 0 < size)
    (v : Value) (n : Nat) (xs : List Value) (hs : a.eval s = v) (hown : w.ownsRow base e size v n xs)
    (ad : Addr) (m c : Nat) (news : List Value) (hx : a.eval x = .slice (some ad) m c) (hl : news.length = m * size) (hnews : ∀ j u, news[j]? = some u → w.cell? (ad.add j) = some u) (h1 : ∀ u ∈ news, u.oneCell' = true)
    (h63 : n + m ≤ maxLen) (hbytes : (n + m) * bytes ≤ 140737488355328) (hbase : base ≤ w.heap.size)
    (h : ∀ v' w', w'.ownsRow base e size v' (n + m) (xs ++ news) → w.grownBy w' v.ownBlock → K (a.put o.dst v') w') :
    if Region.wanted o (yielded ops a.tmps) = true then Oper.wp P o a w K Q else E := by
  have hw : Region.wanted o (yielded ops a.tmps) = true := by simp [Region.wanted, hgd]
  rw [if_pos hw]
  exact wp_append_own w s x t ho base e i z size bytes ht hi hz hsize hby hzs hsz v n xs hs hown ad m c news hx hl hnews h1 h63 hbytes hbase fun v' w' a b _ => h v' w' a b
theorem wpList_append_any {P : Program} {w : World} {ops : Array Oper} {rest : List Oper} {o : Oper} {a : Act} {Q : Exit → Act → World → Prop} (hgd : o.guard = none) (s x : Operand) (t : TypeId)
    (ho : o.op = .call { callee := .builtin .append, args := #[s, x], argTypes := #[t, t] })
    (base : Nat) (e : TypeId) (i : TypeInfo) (z : Value) (size bytes : Nat) (ht : P.underlying t = some (.slice e)) (hi : P.info? e = some i) (hz : i.zero = some z)
    (hsize : i.size = size) (hby : i.bytes = bytes) (hzs : z.cells.size = size) (hsz : 0 < size)
    (v : Value) (n : Nat) (xs : List Value) (hs : a.eval s = v) (hown : w.ownsRow base e size v n xs)
    (A : Option Addr) (m c : Nat) (news : List Value) (hx : a.eval x = .slice A m c) (hA : A = none → m = 0 ∧ c = 0) (hl : news.length = m * size) (hnews : ∀ ad, A = some ad → ∀ j u, news[j]? = some u → w.cell? (ad.add j) = some u) (h1 : ∀ u ∈ news, u.oneCell' = true)
    (h63 : n + m ≤ maxLen) (hbytes : (n + m) * bytes ≤ 140737488355328) (hbase : base ≤ w.heap.size)
    (h : ∀ v' w', w'.ownsRow base e size v' (n + m) (xs ++ news) → w.grownBy w' v.ownBlock → wpList P ops Q rest (a.put o.dst v') w') : wpList P ops Q (o :: rest) a w := by
  cases A with
  | none =>
    obtain ⟨rfl, rfl⟩ := hA rfl
    have hn : news = [] := List.eq_nil_of_length_eq_zero (by omega)
    subst hn
    refine wpList_append_own_none hgd s x t ho base e i size ht hi v n xs hs hown hx (h v w ?_ (World.grownBy.refl _ _))
    rw [List.append_nil]
    exact hown
  | some ad => exact wpList_append_own w hgd s x t ho base e i z size bytes ht hi hz hsize hby hzs hsz v n xs hs hown ad m c news hx hl (hnews ad rfl) h1 h63 hbytes hbase fun v' w' a b _ => h v' w' a b
set_option maxHeartbeats 4000000 in
set_option maxRecDepth 1000000 in
theorem byf_nil (l : Value) (la : Option Addr) (lc : Nat) (v : Int) (w : World) : Calls Try.prog 38 #[l, .slice la 0 lc, .int .i64 v] w fun e w' => e = .returned (.bool false) ∧ w' = w := by
  go_enter Try.func38, Try.ntmps38
  go_wp2
  go_ret
  exact ⟨rfl, by trivial⟩
end Go.Proofs.Ytkpppmldbhgcgaa.D

/- Sat: the solver is made: its first rows (made, regions 2 and 3). -/
import Derived.Test.YtkpppmldbhgcgaaSaBtoSaE
import Derived.Test.YtkpppmldbhgcgaaSbX
import Derived.Deep.OwnRows
import Derived.Deep.RegionLaw
import Derived.Deep.Cut
set_option linter.unusedVariables false
set_option linter.unusedSimpArgs false
set_option autoImplicit false
set_option linter.unusedVariables false
namespace Go.Proofs.Ytkpppmldbhgcgaa
open Go Go.RowKit
theorem exec_make {P : Program} {ρ : Operand → Value} {o : Oper} {T : TypeId} {l c : Operand} (ho : o.op = .makeSlice T l c) {x y r : Value} {w w1 : World} (hx : ρ l = x) (hy : ρ c = y) (h : (Instr.makeSlice T x y).run P w = .ok r w1) : (execOp ρ o).run P w = .ok (.value r) w1 := by
  unfold execOp
  rw [ho]
  simp only [hx, hy, Sem.run_bind, h, Result.andThen_ok, Sem.run_pure]
theorem isAgg3 (w : World) : (isAgg 3).run Try.prog w = .ok false w := by
  have h : Try.prog.underlying 3 = some (.int .i64) := Try.underlying3
  unfold isAgg
  go_simp
theorem exec_load {ρ : Operand → Value} {o : Oper} {l : Operand} (ho : o.op = .load 3 l) {b : Nat} {v : Value} {w : World} (hx : ρ l = .pointer (some ⟨b, 0, none⟩)) (h : w.cell? ⟨b, 0, none⟩ = some v) : (execOp ρ o).run Try.prog w = .ok (.value v) w := by
  unfold execOp
  rw [ho]
  simp only [hx, go_sem, Sem.run_bind, isAgg3, Result.andThen_ok, Sem.run_pure, Bool.false_eq_true, if_false, run_load, h]

theorem info54m : (Try.prog.info? 54).map (fun i => (i.zero, i.size, i.bytes)) = some (some (.slice none 0 0), 1, 24) := by kernel_rfl
theorem info50m : (Try.prog.info? 50).map (fun i => (i.zero, i.size, i.bytes)) = some (some (.int .i8 0), 1, 1) := by kernel_rfl
theorem info3' : (Try.prog.info? 3).map (fun i => (i.zero, i.size, i.bytes)) = some (some (.int .i64 0), 1, 8) := by kernel_rfl
theorem info76m : (Try.prog.info? 76).map (fun i => (i.zero, i.size, i.bytes)) = some (some (.pointer none), 1, 8) := by kernel_rfl
theorem info4m : (Try.prog.info? 4).map (fun i => (i.zero, i.size, i.bytes)) = some (some (.bool false), 1, 1) := by kernel_rfl
theorem info57m : (Try.prog.info? 57).map (fun i => (i.zero, i.size, i.bytes)) = some (some (.float .f64 0), 1, 8) := by kernel_rfl
def ens (V : Nat) : List En := [⟨4, 23, some (.cells (madeCells #[.slice none 0 0] (2 * V + 2)) 54, 2 * V + 2), undef⟩, ⟨6, 25, some (.cells (madeCells #[.int .i8 0] (V + 1)) 50, V + 1), undef⟩, ⟨8, 27, some (.cells (madeCells #[.int .i64 0] (V + 1)) 3, V + 1), undef⟩,
  ⟨10, 29, some (.cells (madeCells #[.pointer none] (V + 1)) 76, V + 1), undef⟩, ⟨12, 31, some (.cells (madeCells #[.bool false] (V + 1)) 4, V + 1), undef⟩, ⟨14, 33, some (.cells (madeCells #[.bool false] (V + 1)) 4, V + 1), undef⟩, ⟨1, 20, none, .int .i64 V⟩]
theorem wpAny_act {P : Program} {md : Region.Mode} {ops : Array Oper} {Q : Exit → Act → World → Prop} {f : Nat} {L : Array Bool} {a a' : Act} {w : World} (e : a = a') (h : wpAny P md ops Q f L a' w) : wpAny P md ops Q f L a w := e ▸ h
theorem wpAny_only {P : Program} {md : Region.Mode} {ops : Array Oper} {Q : Exit → Act → World → Prop} {f i : Nat} {L : Array Bool} {a : Act} {w w1 : World} {o : Oper} {v : Value} (hr : Region.ready md ops L = [i]) (ho : ops[i]? = some o) (hg : o.guard = none)
    (hrun : (execOp a.eval o).run P w = .ok (.value v) w1) (h : wpAny P md ops Q f (L.setIfInBounds i true) (a.put o.dst v) w1) : wpAny P md ops Q (f + 1) L a w := by
  refine ⟨fun h0 => (by rw [hr] at h0; cases h0), fun j hj => ?_⟩
  rw [hr] at hj
  have hj : j = i := by simpa using hj
  subst hj
  have hw : Region.wanted o (yielded ops a.tmps) = true := by unfold Region.wanted; rw [hg]
  unfold wpOp
  simp only [ho, hw, if_true, Oper.wp, hrun, Oper.upon]
  exact .inl h
/-- the cells of a solver that is just made -/
def x0 (V : Nat) (v0 v1 v2 v3 v4 v5 v6 : Value) : Array Value := #[.slice none 0 0, .slice none 0 0, .slice none 0 0, v6, .slice none 0 0, v0, v1, v2, v3, v4, .slice none 0 0, .slice none 0 0, .int .i64 0, .float .f64 4607182418800017408, .slice none 0 0, .int .i64 0, v5, .int .i64 0]
structure Beg (V : Nat) (w0 w : World) (xb g5 g6 g7 g8 g9 g16 : Nat) : Prop where
  bel : Below w0.heap.size w0 w
  ne : [xb, g5, g6, g7, g8, g9, g16].Nodup
  lt : ∀ b ∈ [xb, g5, g6, g7, g8, g9, g16], w0.heap.size ≤ b ∧ b < w.heap.size
  hx : w.heap[xb]? = some (.cells (x0 V (.slice (some ⟨g5, 0, none⟩) (2 * V + 2) (2 * V + 2)) (.slice (some ⟨g6, 0, none⟩) (V + 1) (V + 1)) (.slice (some ⟨g7, 0, none⟩) (V + 1) (V + 1)) (.slice (some ⟨g8, 0, none⟩) (V + 1) (V + 1)) (.slice (some ⟨g9, 0, none⟩) (V + 1) (V + 1)) (.slice (some ⟨g16, 0, none⟩) (V + 1) (V + 1)) (.int .i64 V)) 59)
  h5 : w.heap[g5]? = some (.cells (madeCells #[.slice none 0 0] (2 * V + 2)) 54)
  h6 : w.heap[g6]? = some (.cells (madeCells #[.int .i8 0] (V + 1)) 50)
  h7 : w.heap[g7]? = some (.cells (madeCells #[.int .i64 0] (V + 1)) 3)
  h8 : w.heap[g8]? = some (.cells (madeCells #[.pointer none] (V + 1)) 76)
  h9 : w.heap[g9]? = some (.cells (madeCells #[.bool false] (V + 1)) 4)
  h16 : w.heap[g16]? = some (.cells (madeCells #[.bool false] (V + 1)) 4)
def a2 (V : Nat) (a : Option Addr) (n c t : Nat) (v0 v1 v2 v3 v4 v5 v6 : Value) : Act := ⟨#[Value.agg #[Value.int IntKind.i64 ↑V, Value.slice a n c], .pointer (some ⟨t, 0, none⟩), .pointer none, .bool false, .int .i64 ((V : Int) + 1), undef, undef, undef, undef, undef, undef, undef, undef, undef, undef, undef, .pointer (some ⟨t, 0, none⟩), .int .i64 V, .int .i64 ((V : Int) + 1), .pointer (some ⟨t, 0, none⟩), v6, .int .i64 ((V : Int) + 1), .int .i64 (2 * (V : Int) + 2), v0, .int .i64 ((V : Int) + 1), v1, .int .i64 ((V : Int) + 1), v2, .int .i64 ((V : Int) + 1), v3, .int .i64 ((V : Int) + 1), v4, .int .i64 ((V : Int) + 1), v5, undef, undef, undef, undef, undef, undef, undef, undef, undef, undef, undef, undef, undef, undef, undef, undef, undef, undef, undef, undef, undef, undef, undef, undef, undef, undef, undef, undef, undef, undef, undef, undef, undef, undef, undef, undef, undef, undef, undef, undef, undef, undef, undef, undef, undef, undef, undef, undef, undef, undef, undef, undef, undef, undef, undef, undef, undef, undef, undef, undef, undef, undef, undef, undef, undef, undef, undef, undef, undef, undef, undef, undef, undef, undef, undef, undef, undef, undef, undef, undef, undef, undef, undef, undef, undef, undef, undef, undef, undef, undef, undef], []⟩
def a3 (V : Nat) (a : Option Addr) (n c t xb : Nat) (v0 v1 v2 v3 v4 v5 v6 : Value) : Act := ⟨#[Value.agg #[Value.int IntKind.i64 ↑V, Value.slice a n c], .pointer (some ⟨t, 0, none⟩), .pointer none, .bool false, .int .i64 ((V : Int) + 1), .pointer (some ⟨xb, 0, none⟩), undef, undef, undef, undef, undef, undef, undef, undef, undef, undef, .pointer (some ⟨t, 0, none⟩), .int .i64 V, .int .i64 ((V : Int) + 1), .pointer (some ⟨t, 0, none⟩), v6, .int .i64 ((V : Int) + 1), .int .i64 (2 * (V : Int) + 2), v0, .int .i64 ((V : Int) + 1), v1, .int .i64 ((V : Int) + 1), v2, .int .i64 ((V : Int) + 1), v3, .int .i64 ((V : Int) + 1), v4, .int .i64 ((V : Int) + 1), v5, .agg (x0 V v0 v1 v2 v3 v4 v5 v6), .pointer (some ⟨xb, 0, none⟩), undef, undef, undef, undef, undef, undef, undef, undef, undef, undef, undef, undef, undef, undef, undef, undef, undef, undef, undef, undef, undef, undef, undef, undef, undef, undef, undef, undef, undef, undef, undef, undef, undef, undef, undef, undef, undef, undef, undef, undef, undef, undef, undef, undef, undef, undef, undef, undef, undef, undef, undef, undef, undef, undef, undef, undef, undef, undef, undef, undef, undef, undef, undef, undef, undef, undef, undef, undef, undef, undef, undef, undef, undef, undef, undef, undef, undef, undef, undef, undef, undef, undef, undef, undef, undef, undef, undef, undef, undef], []⟩
/-- .. and with its places and scores -/
structure Beg2 (V : Nat) (w0 w : World) (xb g5 g6 g7 g8 g9 g16 g1 g2 : Nat) : Prop where
  bel : Below w0.heap.size w0 w
  ne : [xb, g5, g6, g7, g8, g9, g16, g1, g2].Nodup
  lt : ∀ b ∈ [xb, g5, g6, g7, g8, g9, g16, g1, g2], w0.heap.size ≤ b ∧ b < w.heap.size
  hx : ∀ m u, (#[.slice none 0 0, .slice (some ⟨g1, 0, none⟩) (V + 1) (V + 1), .slice (some ⟨g2, 0, none⟩) (V + 1) (V + 1), .int .i64 V, .slice none 0 0, .slice (some ⟨g5, 0, none⟩) (2 * V + 2) (2 * V + 2), .slice (some ⟨g6, 0, none⟩) (V + 1) (V + 1), .slice (some ⟨g7, 0, none⟩) (V + 1) (V + 1), .slice (some ⟨g8, 0, none⟩) (V + 1) (V + 1), .slice (some ⟨g9, 0, none⟩) (V + 1) (V + 1), .slice none 0 0, .slice none 0 0, .int .i64 0, .float .f64 4607182418800017408, .slice none 0 0, .int .i64 0, .slice (some ⟨g16, 0, none⟩) (V + 1) (V + 1), .int .i64 0] : Array Value)[m]? = some u → w.cell? ⟨xb, m, none⟩ = some u ∧ w.frozen? ⟨xb, m, none⟩ = false
  h5 : w.heap[g5]? = some (.cells (madeCells #[.slice none 0 0] (2 * V + 2)) 54)
  h6 : w.heap[g6]? = some (.cells (madeCells #[.int .i8 0] (V + 1)) 50)
  h7 : w.heap[g7]? = some (.cells (madeCells #[.int .i64 0] (V + 1)) 3)
  h8 : w.heap[g8]? = some (.cells (madeCells #[.pointer none] (V + 1)) 76)
  h9 : w.heap[g9]? = some (.cells (madeCells #[.bool false] (V + 1)) 4)
  h16 : w.heap[g16]? = some (.cells (madeCells #[.bool false] (V + 1)) 4)
  h1 : w.heap[g1]? = some (.cells (madeCells #[.int .i64 0] (V + 1)) 3)
  h2 : w.heap[g2]? = some (.cells (madeCells #[.float .f64 0] (V + 1)) 57)
theorem block_cell {w : World} {b : Nat} {cs : Array Value} {e : TypeId} (h : w.heap[b]? = some (.cells cs e)) (m : Nat) : w.cell? ⟨b, m, none⟩ = cs[m]? ∧ w.frozen? ⟨b, m, none⟩ = false := by
  refine ⟨?_, by unfold World.frozen?; rw [h]; simp⟩
  unfold World.cell?
  rw [h]
  simp
end Go.Proofs.Ytkpppmldbhgcgaa
/- Sat: the solver that is just made, as memory. -/
set_option autoImplicit false
set_option linter.unusedVariables false
set_option linter.unusedSimpArgs false
namespace Go.Proofs.Ytkpppmldbhgcgaa
open Go Go.RowKit
theorem made_row {w : World} {lo g n : Nat} {z : Value} {e : TypeId} (h : w.heap[g]? = some (.cells (madeCells #[z] n) e)) (hl : lo ≤ g) (hn : n ≤ maxLen) : w.ownsRow lo e 1 (.slice (some ⟨g, 0, none⟩) n n) n (List.replicate n z) := by
  refine ⟨by rw [List.length_replicate, Nat.mul_one], .inr ⟨g, n, _, rfl, hl, h, Nat.le_refl _, hn, by simp [madeCells], ?_⟩⟩
  apply List.ext_getElem?
  intro k
  rw [Nat.mul_one, List.getElem?_take, List.getElem?_replicate]
  by_cases hk : k < n
  · rw [if_pos hk, if_pos hk]
    simp [madeCells, hk, Nat.mod_one]
  · rw [if_neg hk, if_neg hk]
theorem old2 {w : World} {g : Nat} {o o1 o2 : Obj} {xb : Nat} {u v : Value} (h : w.heap[g]? = some o) (hx : g ≠ xb) : (Go.World.drew ((((w.setCell ⟨xb, 1, none⟩ u).setCell ⟨xb, 2, none⟩ v).alloc o1).alloc o2)).heap[g]? = some o := by
  refine (heap_old (heap_old ?_).1).1
  rw [Below.heap_setCell _ _ _ _ hx, Below.heap_setCell _ _ _ _ hx]
  exact h
theorem Beg.two {V : Nat} {w0 wc : World} {xb g5 g6 g7 g8 g9 g16 : Nat} (B : Beg V w0 wc xb g5 g6 g7 g8 g9 g16) {g1 g2 : Nat} {o1 o2 : Obj}
    (hg : (g1 = wc.heap.size ∧ g2 = wc.heap.size + 1 ∧ o1 = .cells (madeCells #[.int .i64 0] (V + 1)) 3 ∧ o2 = .cells (madeCells #[.float .f64 0] (V + 1)) 57) ∨ (g1 = wc.heap.size + 1 ∧ g2 = wc.heap.size ∧ o1 = .cells (madeCells #[.float .f64 0] (V + 1)) 57 ∧ o2 = .cells (madeCells #[.int .i64 0] (V + 1)) 3)) :
    Beg2 V w0 (Go.World.drew ((((wc.setCell ⟨xb, 1, none⟩ (.slice (some ⟨g1, 0, none⟩) (V + 1) (V + 1))).setCell ⟨xb, 2, none⟩ (.slice (some ⟨g2, 0, none⟩) (V + 1) (V + 1))).alloc o1).alloc o2)) xb g5 g6 g7 g8 g9 g16 g1 g2 := by
  have hne := B.ne
  have hlt := B.lt
  have hxl := (hlt xb (by simp)).2
  have hlo := (hlt xb (by simp)).1
  have hs : (Go.World.drew ((((wc.setCell ⟨xb, 1, none⟩ (.slice (some ⟨g1, 0, none⟩) (V + 1) (V + 1))).setCell ⟨xb, 2, none⟩ (.slice (some ⟨g2, 0, none⟩) (V + 1) (V + 1))).alloc o1).alloc o2)).heap.size = wc.heap.size + 2 := by
    show ((Array.push _ _).push _).size = _
    rw [Array.size_push, Array.size_push, World.size_setCell, World.size_setCell]
  have hge : g1 ≥ wc.heap.size ∧ g2 ≥ wc.heap.size ∧ g1 ≠ g2 ∧ g1 < wc.heap.size + 2 ∧ g2 < wc.heap.size + 2 := by
    rcases hg with ⟨rfl, rfl, _⟩ | ⟨rfl, rfl, _⟩ <;> omega
  have h2 : ∀ (W : World) (o o' : Obj), (Go.World.drew ((W.alloc o).alloc o')).heap[W.heap.size]? = some o ∧ (Go.World.drew ((W.alloc o).alloc o')).heap[W.heap.size + 1]? = some o' := fun W o o' => by
    refine ⟨(heap_old (heap_new W o)).1, ?_⟩
    have := heap_new (W.alloc o) o'
    have e : (W.alloc o).heap.size = W.heap.size + 1 := by show (W.heap.push _).size = _; simp
    rw [e] at this
    exact this
  have h3 := h2 ((wc.setCell ⟨xb, 1, none⟩ (.slice (some ⟨g1, 0, none⟩) (V + 1) (V + 1))).setCell ⟨xb, 2, none⟩ (.slice (some ⟨g2, 0, none⟩) (V + 1) (V + 1))) o1 o2
  rw [World.size_setCell, World.size_setCell] at h3
  have hh : ∀ g ∈ [g5, g6, g7, g8, g9, g16], g ≠ xb := fun g hg e => by
    subst e
    exact (List.nodup_cons.1 hne).1 hg
  refine ⟨?_, ?_, fun b hb => ?_, fun m u hu => ?_, old2 B.h5 (hh _ (by simp)), old2 B.h6 (hh _ (by simp)), old2 B.h7 (hh _ (by simp)), old2 B.h8 (hh _ (by simp)), old2 B.h9 (hh _ (by simp)), old2 B.h16 (hh _ (by simp)), ?_, ?_⟩
  · have b1 : Below w0.heap.size wc (wc.setCell ⟨xb, 1, none⟩ (.slice (some ⟨g1, 0, none⟩) (V + 1) (V + 1))) := (Below.refl _ _).setCell hlo _
    have b2 := b1.setCell (p := ⟨xb, 2, none⟩) hlo (.slice (some ⟨g2, 0, none⟩) (V + 1) (V + 1))
    have hb := B.bel.size
    exact B.bel.trans (((b2.alloc (by rw [World.size_setCell, World.size_setCell]; exact hb) o1).alloc (by show _ ≤ (Array.push _ _).size; rw [Array.size_push, World.size_setCell, World.size_setCell]; omega) o2).drew)
  · have h7 : ∀ b ∈ [xb, g5, g6, g7, g8, g9, g16], b < wc.heap.size := fun b hb => (hlt b hb).2
    have : [xb, g5, g6, g7, g8, g9, g16, g1, g2] = [xb, g5, g6, g7, g8, g9, g16] ++ [g1, g2] := rfl
    rw [this, List.nodup_append]
    refine ⟨hne, by simp [hge.2.2.1], fun a ha b hb => ?_⟩
    have := h7 a ha
    simp only [List.mem_cons, List.not_mem_nil, or_false] at hb
    omega
  · rw [hs]
    have : [xb, g5, g6, g7, g8, g9, g16, g1, g2] = [xb, g5, g6, g7, g8, g9, g16] ++ [g1, g2] := rfl
    rw [this, List.mem_append] at hb
    have hsz := B.bel.size
    rcases hb with hb | hb
    · have := hlt b hb; omega
    · simp only [List.mem_cons, List.not_mem_nil, or_false] at hb; omega
  · obtain ⟨c1, c2⟩ := block_cell B.hx m
    have f1 : ∀ (W : World) (o o' : Obj), xb < W.heap.size → (Go.World.drew ((W.alloc o).alloc o')).cell? ⟨xb, m, none⟩ = W.cell? ⟨xb, m, none⟩ ∧ (Go.World.drew ((W.alloc o).alloc o')).frozen? ⟨xb, m, none⟩ = W.frozen? ⟨xb, m, none⟩ := fun W o o' h => by
      have e : (Go.World.drew ((W.alloc o).alloc o')).heap[xb]? = W.heap[xb]? := by
        show ((W.alloc o).alloc o').heap[xb]? = _
        rw [Below.heap_alloc _ _ _ (by simp; omega), Below.heap_alloc _ _ _ h]
      exact ⟨World.cell?_of_block e, World.frozen?_of_block e⟩
    obtain ⟨f2, f3⟩ := f1 ((wc.setCell ⟨xb, 1, none⟩ (.slice (some ⟨g1, 0, none⟩) (V + 1) (V + 1))).setCell ⟨xb, 2, none⟩ (.slice (some ⟨g2, 0, none⟩) (V + 1) (V + 1))) o1 o2 (by rw [World.size_setCell, World.size_setCell]; exact hxl)
    refine ⟨f2.trans ?_, f3.trans (by rw [World.frozen?_setCell, World.frozen?_setCell]; exact c2)⟩
    by_cases e2 : m = 2
    · subst e2
      refine (World.cell?_setCell_same _ _ _ (u := .slice none 0 0) ?_).trans hu
      rw [World.cell?_setCell_other _ _ _ _ (by intro e; injection e; omega)]
      exact c1.trans rfl
    · rw [World.cell?_setCell_other _ _ _ _ (by intro e; injection e; omega)]
      by_cases e1 : m = 1
      · subst e1
        exact (World.cell?_setCell_same _ _ _ (u := .slice none 0 0) (c1.trans rfl)).trans hu
      · rw [World.cell?_setCell_other _ _ _ _ (by intro e; injection e; omega), c1]
        unfold x0
        match m, hu, e1, e2 with
        | 0, hu, _, _ => exact hu
        | 1, _, e1, _ => exact absurd rfl e1
        | 2, _, _, e2 => exact absurd rfl e2
        | 3, hu, _, _ => exact hu
        | 4, hu, _, _ => exact hu
        | 5, hu, _, _ => exact hu
        | 6, hu, _, _ => exact hu
        | 7, hu, _, _ => exact hu
        | 8, hu, _, _ => exact hu
        | 9, hu, _, _ => exact hu
        | 10, hu, _, _ => exact hu
        | 11, hu, _, _ => exact hu
        | 12, hu, _, _ => exact hu
        | 13, hu, _, _ => exact hu
        | 14, hu, _, _ => exact hu
        | 15, hu, _, _ => exact hu
        | 16, hu, _, _ => exact hu
        | 17, hu, _, _ => exact hu
        | k + 18, hu, _, _ => simp at hu
  · rcases hg with ⟨rfl, rfl, rfl, rfl⟩ | ⟨rfl, rfl, rfl, rfl⟩
    · exact h3.1
    · exact h3.2
  · rcases hg with ⟨rfl, rfl, rfl, rfl⟩ | ⟨rfl, rfl, rfl, rfl⟩
    · exact h3.2
    · exact h3.1
end Go.Proofs.Ytkpppmldbhgcgaa

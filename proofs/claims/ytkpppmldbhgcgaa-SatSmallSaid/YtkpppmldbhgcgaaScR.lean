/- Sat: a formula as data that comes in. -/
import Derived.WideKeyArgs
import Derived.Deep.Matrix
import Derived.Deep.SlicePairs
import Derived.Deep.Grids
import Derived.Test.YtkpppmldbhgcgaaScKtoScZ
set_option linter.unusedVariables false
set_option linter.unusedSimpArgs false
set_option autoImplicit false
namespace Go.Proofs.Ytkpppmldbhgcgaa
open Go.ChangeShapes Go.WideShapes Go.ChangeAt Go.RowKit Go.Deep
set_option maxRecDepth 100000
set_option linter.unusedVariables false
set_option linter.unusedSimpArgs false
/-- what a clause is in a world -/
theorem clause_of {W : World} {A : Option Addr} {L C : Nat} {zs : List Int} (hl : L ≤ C) (hz : zs.length = C) (hn : A = none → C = 0) (hc : ∀ a', A = some a' → ∀ c, c < C → W.cell? (a'.add c) = some (.int .i64 (zs.getD c 0))) : D.Ints W A (zs.take L) := fun j hj => by
  rw [List.length_take] at hj
  cases A with
  | none => have := hn rfl; omega
  | some a' =>
    have h := hc a' rfl j (by omega)
    have h00 := hc a' rfl 0 (by omega)
    obtain ⟨b, off, spot⟩ := a'
    have hs : spot = none := by simpa [Addr.add] using World.cell?_spot h00
    subst hs
    rw [D.add_plain] at h
    refine ⟨b, off, rfl, D.cellLt h, ?_⟩
    rw [h]
    simp [List.getD_eq_getElem?_getD, List.getElem?_take]
    rw [if_pos (by omega)]
theorem c40 : Try.prog.cellsOf 40 = 1 := by kernel_rfl
theorem c3 : Try.prog.cellsOf 3 = 1 := by kernel_rfl
theorem c22 : Try.prog.cellsOf 22 = 1 := by kernel_rfl
theorem c24 : Try.prog.cellsOf 24 = 2 := by kernel_rfl
theorem clause_open {H : Type} {enc : TypeId × Value → H} {W : World} {v : Value} {d : DataW H} {p : List MemPlace} {held : Bool} {r : Reach} {b0 : Nat} (hval : Value.okWide Try.prog W r b0 40 v) (h : DataW.Trod enc Try.prog W 0 (fun _ => true) held 40 v d p) (hs : ∀ n ∈ d.weights Try.prog 40, n ≤ reachBytes) : ∃ la ln lc zl, v = .slice la ln lc ∧ zl.length = ln ∧ ln ≤ 4611686018427387904 ∧ D.Ints W la zl := by
  obtain ⟨la, ln, lc, rfl⟩ := okWide_slice Try.underlying40 hval
  obtain ⟨fu, hf⟩ := h
  rcases open_ints Try.underlying40 Try.underlying3 c3 hf with ⟨e, _⟩ | ⟨a, len, cap, zs, e, _, h1, h2, h3, hd, h4, _⟩
  · simp [Value.cells] at e
    obtain ⟨rfl, rfl, rfl⟩ := e
    exact ⟨none, 0, 0, [], rfl, rfl, by omega, fun j hj => absurd hj (Nat.not_lt_zero _)⟩
  · simp only [if_true] at h3
    simp [Value.cells] at e
    obtain ⟨rfl, rfl, rfl⟩ := e
    simp only [Prod.mk.injEq] at hd
    have hw := hs ((zs.take ln).length * 8 + (zs.drop ln).length * 8) (by
      rw [hd.1]
      simp only [DataW.weights, Try.underlying40, List.mem_cons]
      left
      rw [show Try.prog.bytesOf 3 = 8 by kernel_rfl]
      simp [lits]
      omega)
    have hr : reachBytes = 140737488351232 := rfl
    rw [List.length_take, List.length_drop, hr] at hw
    exact ⟨some a, ln, lc, zs.take ln, rfl, by rw [List.length_take]; omega, by omega, clause_of h1 h3 (fun e => by cases e) (fun a' e c hc => by cases e; exact h4 c (by omega))⟩
theorem int_row_w {H : Type} {A : Option Addr} {L C : Nat} {zs : List Int} (hz : zs.length = C) (hl : L ≤ C) (hA : A = none → C = 0) (h : ∀ n ∈ (intRow (H := H) .i64 A L zs).weights Try.prog 40, n ≤ reachBytes) : L ≤ 4611686018427387904 := by
  cases A with
  | none => have := hA rfl; omega
  | some a =>
    have hw := h ((zs.take L).length * 8 + (zs.drop L).length * 8) (by
      simp only [intRow, DataW.weights, Try.underlying40, List.mem_cons]
      left
      rw [show Try.prog.bytesOf 3 = 8 by kernel_rfl]
      simp [lits]
      omega)
    have hr : reachBytes = 140737488351232 := rfl
    rw [List.length_take, List.length_drop, hr] at hw
    omega
theorem weightsAll_mem {H : Type} {P : Program} {e : TypeId} : ∀ {l : List (DataW H)} {d : DataW H}, d ∈ l → ∀ n ∈ d.weights P e, n ∈ DataW.weightsAll P e l
  | d' :: r, d, hd, n, hn => by
    simp only [DataW.weightsAll, List.mem_append]
    rcases List.mem_cons.1 hd with rfl | h
    · exact Or.inl hn
    · exact Or.inr (weightsAll_mem h n hn)
theorem form_open {H : Type} {enc : TypeId × Value → H} {W : World} {v : Value} {d : DataW H} {p : List MemPlace} {held : Bool} {r : Reach} {b0 : Nat} (hval : Value.okWide Try.prog W r b0 24 v) (h : DataW.Trod enc Try.prog W 0 (fun _ => true) held 24 v d p) (hs : ∀ n ∈ d.weights Try.prog 24, n ≤ reachBytes) :
    ∃ vars a n c cs, v = .agg #[.int .i64 vars, .slice a n c] ∧ cs.length = n ∧ n ≤ 4611686018427387904 ∧ (∀ j, j < n → (cs.getD j default).zs.length ≤ 4611686018427387904) ∧ D.Rows' W a cs := by
  obtain ⟨xs, rfl, hsz⟩ := okWide_struct Try.underlying24 hval
  rw [c24] at hsz
  obtain ⟨x0, x1, rfl⟩ : ∃ x0 x1, xs = #[x0, x1] := by
    obtain ⟨l⟩ := xs
    match l, hsz with
    | [x0, x1], _ => exact ⟨x0, x1, rfl⟩
  obtain ⟨fu, hf⟩ := h
  obtain ⟨y0, y1, n, hd, hl, g0, g1⟩ := trod_struct2 Try.underlying24 hf
  simp only [Prod.mk.injEq] at hd
  rw [hd.1] at hs
  rw [c3] at g0
  rw [c22] at g1
  obtain ⟨vars, e0, _, _⟩ := DataW.trod_int Try.underlying3 g0
  have e0' : x0 = .int .i64 vars := by simpa [Value.cells] using e0
  subst e0'
  have hs1 : ∀ n ∈ y1.1.weights Try.prog 22, n ≤ reachBytes := fun n hn => hs n (by
    simp only [DataW.weights, Try.underlying24]
    simp [DataW.weightsEach, hn])
  rcases open_int_rows Try.underlying22 Try.underlying40 Try.underlying3 c40 c3 g1 with ⟨e, hx⟩ | ⟨a, len, cap, A, L, C, Z, e, _, h1, h2, hx, h3⟩
  · have e1 : x1 = .slice none 0 0 := by simpa [Value.cells] using e
    subst e1
    exact ⟨vars, none, 0, 0, [], rfl, rfl, by omega, fun j hj => absurd hj (Nat.not_lt_zero _), fun j hj => absurd hj (Nat.not_lt_zero _)⟩
  · have e1 : x1 = .slice (some a) len cap := by simpa [Value.cells] using e
    subst e1
    have hy : y1.1 = .slice ((List.range len).map fun r => intRow .i64 (A r) (L r) (Z r)) ((List.range (cap - len)).map fun j => intRow .i64 (A (len + j)) (L (len + j)) (Z (len + j))) := by rw [hx]
    rw [hy] at hs1
    have hr : reachBytes = 140737488351232 := rfl
    have hn9 : len ≤ 4611686018427387904 := by
      have hw := hs1 ((len + (cap - len)) * 24) (by
        simp only [DataW.weights, Try.underlying22, List.mem_cons]
        left
        rw [show Try.prog.bytesOf 40 = 24 by kernel_rfl]
        simp)
      rw [hr] at hw
      omega
    have hL9 : ∀ j, j < len → L j ≤ 4611686018427387904 := fun j hj => by
      obtain ⟨_, q1, q2, q3, _, q4, _⟩ := h3 j (by omega)
      refine int_row_w (H := H) q3 q1 q4 (fun n hn => hs1 n ?_)
      simp only [DataW.weights, Try.underlying22, List.mem_cons, List.mem_append]
      exact .inr (.inl (weightsAll_mem (List.mem_map.2 ⟨j, List.mem_range.2 hj, rfl⟩) n hn))
    obtain ⟨cs, hcs⟩ : ∃ cs : List D.Cl, cs = (List.range len).map fun r => ⟨A r, C r, (Z r).take (L r)⟩ := ⟨_, rfl⟩
    have hlen : cs.length = len := by rw [hcs]; simp
    have hget : ∀ j, j < len → cs.getD j default = ⟨A j, C j, (Z j).take (L j)⟩ := fun j hj => by
      rw [hcs, List.getD_eq_getElem?_getD]
      simp [hj]
    have hzl : ∀ j, j < len → ((Z j).take (L j)).length = L j := fun j hj => by
      obtain ⟨_, q1, q2, q3, _⟩ := h3 j (by omega)
      rw [List.length_take]; omega
    refine ⟨vars, some a, len, cap, cs, rfl, hlen, hn9, fun j hj => ?_, fun j hj => ?_⟩
    · rw [hget j hj]
      show ((Z j).take (L j)).length ≤ _
      rw [hzl j hj]; exact hL9 j hj
    · rw [hlen] at hj
      obtain ⟨q0, q1, q2, q3, _, q4, q5⟩ := h3 j (by omega)
      obtain ⟨q00, _⟩ := h3 0 (by omega)
      rw [hget j hj]
      show ∃ b off, some a = some ⟨b, off, none⟩ ∧ b < W.heap.size ∧ W.cell? ⟨b, off + j, none⟩ = some (.slice (A j) ((Z j).take (L j)).length (C j)) ∧ D.Ints W (A j) ((Z j).take (L j))
      rw [hzl j hj]
      obtain ⟨b, off, spot⟩ := a
      have hsp : spot = none := by simpa [Addr.add] using World.cell?_spot q00
      subst hsp
      rw [D.add_plain] at q0
      exact ⟨b, off, rfl, D.cellLt q0, q0, clause_of q1 q3 q4 (fun a' e c hc => (q5 a' e).2 c hc)⟩
theorem same_below {W W' : World} (hb : Below W.heap.size W W') {p : MemPlace} (h : p.block < W.heap.size) : W.sameAt W' p := by
  cases p with
  | cell b off => exact hb.cell (p := ⟨b, off, none⟩) h
  | map b => exact hb.block b h
theorem laidOut_ : laidOutB Try.prog = true := by kernel_rfl
end Go.Proofs.Ytkpppmldbhgcgaa

/- Kind: from a contract to the given row: what is laid, a system as data that comes in. -/
import Derived.Test.YtdgnafjllokioaaGreatDoorRows
import Derived.Test.YtdgnafjllokioaaGreatDoorTie
import Derived.Test.YtdgnafjllokioaaGreatDoorCards
import Derived.WalkKit
import Derived.ProofKit
import Derived.LaidMore
import Derived.OpenShut
import Derived.Stop.Joined
import Derived.SevenTiedAt
import Derived.Lib.LaidTab
import Derived.WideKeyArgs
import Derived.Deep.Slices
import Derived.Deep.Grids
import Derived.Test.YtdgnafjllokioaaGreatDoorKG
import Derived.ChangeSame
import Derived.Deep.Strs
set_option linter.unusedVariables false
set_option linter.unusedSimpArgs false
set_option autoImplicit false
set_option linter.unusedVariables false
set_option maxRecDepth 100000
namespace Go.Proofs.YtdgnafjllokioaaGreatDoor
open Go.ChangeShapes Go.WideShapes Go.ChangeAt Go.RowKit Go.Deep Kb
theorem own : ownKnob Tryz.prog.godebug = none := by kernel_rfl
/-- what the rows list -/
noncomputable def laidL : List (String × DataW Unit) := [("math/bits.deBruijn32tab", Rows.laid_math_bits_deBruijn32tab), ("math/bits.deBruijn64tab", Rows.laid_math_bits_deBruijn64tab), ("internal/strconv.uint64pow10", Rows.laid_internal_strconv_uint64pow10)]
theorem laidOut : laidOutB Tryz.prog = true := by kernel_rfl
/-- the door's own heap meets the condition -/
theorem door_met (os : Os) (args : Array Value) : laidMetH Tryz.prog laidL ((World.doorLaid Tryz.prog 65 os).forCall (fun _ _ => 0) ⟨#[], args, []⟩).memory :=
  laidMetH_of_parts3 (fuel := 8) (laidMet_of_run' 8 (by kernel_rfl) (by kernel_rfl)) (by kernel_rfl) (by kernel_rfl)
theorem same_below {W W' : World} (hb : Below W.heap.size W W') {p : MemPlace} (h : p.block < W.heap.size) : W.sameAt W' p := by
  cases p with
  | cell b off => exact hb.cell (p := ⟨b, off, none⟩) h
  | map b => exact hb.block b h
/-- the row's end, where nothing that was there has changed -/
theorem post_below {H : Type} {enc : TypeId × Value → H} {P : Program} {f : Func} {s : ChangeSpec} {apart fresh handsOn again : Bool} {W W' : World} {args : Array Value} {v : Value} {ds gs : List (DataW H)} {before pa pv : List MemPlace}
    (hW : DataW.Whole enc P f.params.toList s.vars apart W args.toList ds gs before)
    (hres : ∀ (b : Nat) (sp : Nat → Bool) (hd : Bool), DataW.TrodAll enc P W' b sp hd f.resultTypes.toList (v.resultList f.resultTypes.size) (s.fn H (ds ++ gs)).results [])
    (hargs : ∀ sp : Nat → Bool, (∀ p ∈ before, sp p.block = true) → DataW.TrodAll enc P W' 0 sp true f.params.toList args.toList (s.fn H (ds ++ gs)).args pa)
    (hvars : ∀ sp : Nat → Bool, (∀ p ∈ before, sp p.block = true) → DataW.TrodVars enc P W' sp s.vars (s.fn H (ds ++ gs)).vars pv)
    (hps : before = pa ++ pv) (q : Below W.heap.size W W')
    (hok : ∀ (j : Nat) (t : TypeId) (r : Value), f.resultTypes[j]? = some t → (v.resultList f.resultTypes.size)[j]? = some r → Value.okWide P W' .any 0 t r) :
    s.post enc P f apart fresh handsOn again W args v W' := by
  have old : ∀ p ∈ before, p.block < W.heap.size := hW.lt
  have seen : ∀ p ∈ before, (fun b => decide (b < W.heap.size)) p.block = true := fun p hp => decide_eq_true (old p hp)
  have kept : ∀ may : MemPlace → Prop, W.keptBut W' may := fun may => ⟨q.os, q.output, fun i hi => by
    rw [q.block i hi]
    cases W.heap[i]? with
    | none => rfl
    | some o => cases o with
      | cells c t fr => exact ⟨rfl, rfl, rfl, fun _ _ => rfl⟩
      | map es clock => exact .inr ⟨rfl, rfl⟩
      | _ => rfl⟩
  refine ⟨ds, gs, before, [], pa, pv, hW, hres _ _ _, hargs _ seen, hvars _ seen, kept _, fun _ => ⟨hok, (s.fn H (ds ++ gs)).results ++ (s.fn H (ds ++ gs)).args, (s.fn H (ds ++ gs)).vars, [] ++ pa ++ pv, ?_, ?_⟩⟩
  · obtain ⟨_, _, _, _, _, hz, hn⟩ := hW
    subst hps
    refine ⟨[] ++ pa, pv, trodAll_append (hargs _ (fun _ _ => rfl)) (hres _ _ _), hvars _ (fun _ _ => rfl), rfl, fun b off hp => ?_, fun ha => by simpa using hn ha⟩
    have hp : MemPlace.cell b off ∈ pa ++ pv := by simpa using hp
    rw [World.frozen?_of_block (q.block b (old (.cell b off) (by subst_vars; exact hp)))]
    exact hz b off hp
  · intro p hp _
    subst hps
    simpa using hp
/-! ### a system as data -/
theorem c3 : Tryz.prog.cellsOf 3 = 1 := by kernel_rfl
theorem c4 : Tryz.prog.cellsOf 4 = 1 := by kernel_rfl
theorem c22 : Tryz.prog.cellsOf 22 = 1 := by kernel_rfl
theorem c24 : Tryz.prog.cellsOf 24 = 1 := by kernel_rfl
theorem c25 : Tryz.prog.cellsOf 25 = 1 := by kernel_rfl
theorem c26 : Tryz.prog.cellsOf 26 = 1 := by kernel_rfl
theorem c28 : Tryz.prog.cellsOf 28 = 7 := by kernel_rfl
/-- numbers of a slice, by its cells -/
theorem ints_cells {W : World} {A : Option Addr} {L C : Nat} {zs : List Int} (hl : L ≤ C) (hz : zs.length = C) (hn : A = none → C = 0) (hc : ∀ a', A = some a' → ∀ c, c < C → W.cell? (a'.add c) = some (.int .i64 (zs.getD c 0))) : Ints W A (zs.take L) := fun j hj => by
  rw [List.length_take] at hj
  cases A with
  | none => have := hn rfl; omega
  | some a' =>
    have h := hc a' rfl j (by omega)
    obtain ⟨b, off, spot⟩ := a'
    have h00 := hc ⟨b, off, spot⟩ rfl 0 (by omega)
    have hs : spot = none := by simpa [Addr.add] using World.cell?_spot h00
    subst hs
    rw [add_plain] at h
    refine ⟨b, off, rfl, cellLt h, ?_⟩
    rw [h]
    simp [List.getD_eq_getElem?_getD, List.getElem?_take]
    rw [if_pos (by omega)]
theorem row_ints {H : Type} {enc : TypeId × Value → H} {W : World} {held : Bool} {n : Nat} {x : Value} {y : DataW H × List MemPlace} (h : DataW.trod enc Tryz.prog W 0 (fun _ => true) held n 25 [x] = some y) : ∃ a c zs, x = .slice a zs.length c ∧ Ints W a zs ∧ (a = none → zs.length = 0 ∧ c = 0) := by
  rcases open_ints Tryz.underlying25 Tryz.underlying3 c3 h with ⟨e, _⟩ | ⟨a, len, cap, zs, e, _, h1, h2, h3, hd, h4, _⟩
  · have e : x = .slice none 0 0 := by simpa using e
    exact ⟨none, 0, [], e, fun j hj => absurd hj (Nat.not_lt_zero _), fun _ => ⟨rfl, rfl⟩⟩
  · have e : x = .slice (some a) len cap := by simpa using e
    simp only [if_true] at h3
    exact ⟨some a, cap, zs.take len, by rw [e, List.length_take, Nat.min_eq_left (by omega)], ints_cells h1 h3 (fun e => by cases e) (fun a' e c hc => by cases e; exact h4 c (by omega)), fun e => by cases e⟩
theorem row_bools {H : Type} {enc : TypeId × Value → H} {W : World} {held : Bool} {n : Nat} {x : Value} {y : DataW H × List MemPlace} (h : DataW.trod enc Tryz.prog W 0 (fun _ => true) held n 26 [x] = some y) : ∃ a c ms, x = .slice a ms.length c ∧ Bools W a ms ∧ (a = none → ms.length = 0 ∧ c = 0) := by
  rcases open_bools Tryz.underlying26 Tryz.underlying4 c4 h with ⟨e, _⟩ | ⟨a, len, cap, B, e, _, h1, h2, hd, h4⟩
  · have e : x = .slice none 0 0 := by simpa using e
    exact ⟨none, 0, [], e, fun j hj => absurd hj (Nat.not_lt_zero _), fun _ => ⟨rfl, rfl⟩⟩
  · have e : x = .slice (some a) len cap := by simpa using e
    refine ⟨some a, cap, (List.range len).map B, by rw [e]; simp, fun j hj => ?_, fun e => by cases e⟩
    simp at hj
    have h := h4 j (by omega)
    have h00 := h4 0 (by omega)
    obtain ⟨b, off, spot⟩ := a
    have hs : spot = none := by simpa [Addr.add] using World.cell?_spot h00
    subst hs
    rw [add_plain] at h
    refine ⟨b, off, rfl, cellLt h, ?_⟩
    rw [h, List.getD_eq_getElem?_getD, List.getElem?_map, List.getElem?_range hj]
    rfl
end Go.Proofs.YtdgnafjllokioaaGreatDoor
/- Kind: a system as data that comes in. -/
set_option autoImplicit false
set_option linter.unusedVariables false
set_option maxRecDepth 100000
namespace Go.Proofs.YtdgnafjllokioaaGreatDoor
open Go.ChangeShapes Go.WideShapes Go.ChangeAt Go.RowKit Go.Deep Kb
theorem c51 : Tryz.prog.cellsOf 51 = 3 := by kernel_rfl
theorem row_gates {H : Type} {enc : TypeId × Value → H} {W : World} {held : Bool} {n : Nat} {x : Value} {y : DataW H × List MemPlace} (h : DataW.trod enc Tryz.prog W 0 (fun _ => true) held n 22 [x] = some y) : ∃ a c gs, x = .slice a gs.length c ∧ Gates W a gs := by
  rcases open_slice Tryz.underlying22 h with ⟨e, _⟩ | ⟨a, len, cap, m, n', D, Pl, e, _, h1, h2, h3, _, h4⟩
  · have e : x = .slice none 0 0 := by simpa using e
    exact ⟨none, 0, [], e, fun j hj => absurd hj (Nat.not_lt_zero _)⟩
  · have e : x = .slice (some a) len cap := by simpa using e
    simp only [if_true] at h3
    have each : ∀ i, i < len → ∃ g : Int × Int × Int, W.cell? (a.add (i * 3)) = some (.int .i64 g.1) ∧ W.cell? (a.add (i * 3 + 1)) = some (.int .i64 g.2.1) ∧ W.cell? (a.add (i * 3 + 2)) = some (.int .i64 g.2.2) := by
      intro i hi
      obtain ⟨cs', k1, k2⟩ := h4 i (by omega)
      rw [c51] at k1
      obtain ⟨_, hlen, hcell⟩ := World.cells?_some k1
      obtain ⟨y0, y1, y2, q, _, _, g0, g1, g2⟩ := trod_struct3 Tryz.underlying51 k2
      match cs', hlen with
      | [v0, v1, v2], _ =>
        rw [c3] at g0 g1 g2
        have e0 := hcell 0 (by omega)
        have e1 := hcell 1 (by omega)
        have e2 := hcell 2 (by omega)
        rw [add_add] at e0 e1 e2
        obtain ⟨z0, j0, _, _⟩ := DataW.trod_int Tryz.underlying3 g0
        obtain ⟨z1, j1, _, _⟩ := DataW.trod_int Tryz.underlying3 g1
        obtain ⟨z2, j2, _, _⟩ := DataW.trod_int Tryz.underlying3 g2
        have j0 : v0 = .int .i64 z0 := by simpa using j0
        have j1 : v1 = .int .i64 z1 := by simpa using j1
        have j2 : v2 = .int .i64 z2 := by simpa using j2
        exact ⟨(z0, z1, z2), by rw [← j0]; simpa using e0, by rw [← j1]; simpa using e1, by rw [← j2]; simpa using e2⟩
    obtain ⟨f, hf⟩ := choose_lt each
    refine ⟨some a, cap, (List.range len).map f, by rw [e]; simp, fun j hj => ?_⟩
    simp at hj
    obtain ⟨g0, g1, g2⟩ := hf j hj
    obtain ⟨b, off, spot⟩ := a
    obtain ⟨g00, _⟩ := hf 0 (by omega)
    have hs : spot = none := by simpa [Addr.add] using World.cell?_spot g00
    subst hs
    have hg : ((List.range len).map f).getD j (0, 0, 0) = f j := by rw [List.getD_eq_getElem?_getD, List.getElem?_map, List.getElem?_range hj]; rfl
    rw [add_plain] at g0 g1 g2
    unfold opZ aZ bZ
    rw [hg]
    exact ⟨b, off, rfl, cellLt g0, g0, by rw [← Nat.add_assoc] at g1; exact g1, by rw [← Nat.add_assoc] at g2; exact g2⟩
theorem system_open {H : Type} {enc : TypeId × Value → H} {W : World} {v : Value} {d : DataW H} {p : List MemPlace} {held : Bool} {r : Reach} {b0 : Nat} (hval : Value.okWide Tryz.prog W r b0 28 v) (h : DataW.Trod enc Tryz.prog W 0 (fun _ => true) held 28 v d p) :
    ∃ (D : SA) (y : Sy), v = .agg #[.slice D.ga y.gates.length D.gc, .slice D.na y.now.length D.nc, .slice D.xa y.next.length D.xc, .slice D.ia y.ins.length D.ic, .slice D.ba y.init.length D.bc, .int .i64 y.ok, .int .i64 y.asm] ∧ SysAt W D y ∧ (D.na = none → y.now.length = 0 ∧ D.nc = 0) ∧ (D.xa = none → y.next.length = 0 ∧ D.xc = 0) ∧ (D.ia = none → y.ins.length = 0 ∧ D.ic = 0) ∧ (D.ba = none → y.init.length = 0 ∧ D.bc = 0) := by
  obtain ⟨xs, rfl, hsz⟩ := okWide_struct Tryz.underlying28 hval
  rw [c28] at hsz
  obtain ⟨x0, x1, x2, x3, x4, x5, x6, rfl⟩ : ∃ x0 x1 x2 x3 x4 x5 x6, xs = #[x0, x1, x2, x3, x4, x5, x6] := by
    obtain ⟨l⟩ := xs
    match l, hsz with
    | [x0, x1, x2, x3, x4, x5, x6], _ => exact ⟨x0, x1, x2, x3, x4, x5, x6, rfl⟩
  obtain ⟨fu, hf⟩ := h
  obtain ⟨ys, n, _, _, _, hlen, hfs⟩ := DataW.trod_struct Tryz.underlying28 hf
  match ys, hlen with
  | [y0, y1, y2, y3, y4, y5, y6], _ =>
    have g0 : DataW.trod enc Tryz.prog W 0 (fun _ => true) held n 24 [x0] = some y0 := by
      have := hfs 0 _ rfl
      simpa [c24, Value.cells] using this
    have g1 : DataW.trod enc Tryz.prog W 0 (fun _ => true) held n 25 [x1] = some y1 := by
      have := hfs 1 _ rfl
      simpa [c25, Value.cells] using this
    have g2 : DataW.trod enc Tryz.prog W 0 (fun _ => true) held n 25 [x2] = some y2 := by
      have := hfs 2 _ rfl
      simpa [c25, Value.cells] using this
    have g3 : DataW.trod enc Tryz.prog W 0 (fun _ => true) held n 25 [x3] = some y3 := by
      have := hfs 3 _ rfl
      simpa [c25, Value.cells] using this
    have g4 : DataW.trod enc Tryz.prog W 0 (fun _ => true) held n 26 [x4] = some y4 := by
      have := hfs 4 _ rfl
      simpa [c26, Value.cells] using this
    have g5 : DataW.trod enc Tryz.prog W 0 (fun _ => true) held n 3 [x5] = some y5 := by
      have := hfs 5 _ rfl
      simpa [c3, Value.cells] using this
    have g6 : DataW.trod enc Tryz.prog W 0 (fun _ => true) held n 3 [x6] = some y6 := by
      have := hfs 6 _ rfl
      simpa [c3, Value.cells] using this
    obtain ⟨z0, n0, _, _, k0⟩ := trod_struct1 Tryz.underlying24 g0
    rw [c22] at k0
    simp at k0
    obtain ⟨ga, gc, gs, rfl, hg⟩ := row_gates k0
    obtain ⟨na, nc, ns, rfl, hn, hn0⟩ := row_ints g1
    obtain ⟨xa, xc, xs, rfl, hx, hx0⟩ := row_ints g2
    obtain ⟨ia, ic, is, rfl, hi, hi0⟩ := row_ints g3
    obtain ⟨ba, bc, bs, rfl, hb, hb0⟩ := row_bools g4
    obtain ⟨ok, j5, _, _⟩ := DataW.trod_int Tryz.underlying3 g5
    obtain ⟨asm, j6, _, _⟩ := DataW.trod_int Tryz.underlying3 g6
    have j5 : x5 = .int .i64 ok := by simpa using j5
    have j6 : x6 = .int .i64 asm := by simpa using j6
    subst j5 j6
    exact ⟨⟨ga, na, xa, ia, ba, gc, nc, xc, ic, bc⟩, ⟨gs, ns, xs, is, bs, ok, asm⟩, rfl, ⟨hg, hn, hx, hi, hb⟩, hn0, hx0, hi0, hb0⟩
end Go.Proofs.YtdgnafjllokioaaGreatDoor

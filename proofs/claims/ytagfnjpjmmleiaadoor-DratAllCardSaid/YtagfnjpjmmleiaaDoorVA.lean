/- Drat: from a contract to the given row: what is laid, and the row's end. -/
import Derived.Test.YtagfnjpjmmleiaaDoorRows
import Derived.Test.YtagfnjpjmmleiaaDoorTie
import Derived.WalkKit
import Derived.ProofKit
import Derived.LaidMore
import Derived.OpenShut
import Derived.Stop.Joined
import Derived.SevenTiedAt
import Derived.Lib.LaidTab
import Derived.Lib.AppendIntMem
import Derived.Test.YtagfnjpjmmleiaaDoorTL
set_option linter.unusedVariables false
set_option linter.unusedSimpArgs false
set_option autoImplicit false
set_option linter.unusedVariables false
set_option maxRecDepth 100000
namespace Go.Proofs.YtagfnjpjmmleiaaDoor
open Go.ChangeShapes Go.WideShapes Go.ChangeAt Go.RowKit
def powL : List Int := [1, 10, 100, 1000, 10000, 100000, 1000000, 10000000, 100000000, 1000000000, 10000000000, 100000000000, 1000000000000, 10000000000000, 100000000000000, 1000000000000000, 10000000000000000, 100000000000000000, 1000000000000000000, 10000000000000000000]
theorem powL_eq : powL = Lib.pow10Tab := by decide
theorem gPow : Tryd.prog.globalNamed "internal/strconv.uint64pow10" = some 0 := by kernel_rfl
theorem own : ownKnob Tryd.prog.godebug = none := by kernel_rfl
theorem tyPow : (Tryd.prog.globals[0]?).map (·.type) = some 124 := by kernel_rfl
theorem uPow : Tryd.prog.underlying 124 = some (.array 20 107) := by kernel_rfl
theorem uU64 : Tryd.prog.underlying 107 = some (.int .u64) := by kernel_rfl
theorem cU64 : Tryd.prog.cellsOf 107 = 1 := by kernel_rfl
theorem cPow : Tryd.prog.cellsOf 124 = 20 := by kernel_rfl
/-- what the rows list -/
noncomputable def laidL : List (String × DataW Unit) := [("math/bits.deBruijn32tab", Rows.laid_math_bits_deBruijn32tab), ("math/bits.deBruijn64tab", Rows.laid_math_bits_deBruijn64tab), ("internal/strconv.uint64pow10", Rows.laid_internal_strconv_uint64pow10)]
theorem powD : (Rows.laid_internal_strconv_uint64pow10 : DataW Unit) = Lib.tabData .u64 powL := by kernel_rfl
/-- the door's own heap meets the condition -/
theorem door_met (os : Os) (args : Array Value) : laidMetH Tryd.prog laidL ((World.doorLaid Tryd.prog 65 os).forCall (fun _ _ => 0) ⟨#[], args, []⟩).memory :=
  laidMetH_of_parts3 (fuel := 8) (laidMet_of_run' 8 (by kernel_rfl) (by kernel_rfl)) (by kernel_rfl) (by kernel_rfl)
/-- what the condition gives: the table's cells -/
theorem of_laid {W : World} (h : laidMetH Tryd.prog laidL W) : ∃ c e fz, W.heap[0]? = some (.cells c e fz) ∧ c = (powL.map fun z => Value.int .u64 z).toArray := by
  rw [MakeChecks.laidMetH_plain _ _ _ (by kernel_rfl)] at h
  obtain ⟨ps, ⟨g0, t0, cs0, f0, p0, q0, hg0, ht0, hv0, hd0, ⟨g1, t1, cs1, f1, p1, q1, hg1, ht1, hv1, hd1, ⟨g2, t2, cs2, f2, p2, q2, hg2, ht2, hv2, hd2, _, _⟩, _⟩, _⟩, _, _⟩ := h
  obtain rfl := Option.some.inj (gPow.symm.trans hg2)
  obtain rfl := Option.some.inj (tyPow.symm.trans ht2)
  rw [powD] at hd2
  have hc := Lib.cells_of_tab uPow uU64 cU64 cPow hd2
  simp only [World.var?, gPow, Option.bind_some] at hv2
  split at hv2
  · rename_i cs t fr hw
    obtain rfl := Option.some.inj hv2
    exact ⟨cs, t, fr, hw, by rw [← hc]⟩
  · cases hv2
theorem tab_at {W : World} {c : Array Value} {e : TypeId} {fz : Nat × Nat} (hw : W.heap[0]? = some (.cells c e fz)) (hc : c = (powL.map fun z => Value.int .u64 z).toArray) : Tab W.heap.size W := by
  refine Lib.tabBelow_of_tabIs ?_
  unfold Lib.TabIs
  simp only [World.var?, gPow, Option.bind_some, hw]
  rw [hc, powL_eq]
theorem same_below {W W' : World} (hb : Below W.heap.size W W') {p : MemPlace} (h : p.block < W.heap.size) : W.sameAt W' p := by
  cases p with
  | cell b off => exact hb.cell (p := ⟨b, off, none⟩) h
  | map b => exact hb.block b h
theorem below_alloc0 {W W' : World} {c : Array Value} {e : TypeId} {fz : Nat × Nat} (hw : W.heap[0]? = some (.cells c e fz)) (hb : Below W.heap.size W W') : W'.heap[0]? = some (.cells c e fz) := by
  have h0 : 0 < W.heap.size := by
    by_cases h : 0 < W.heap.size
    · exact h
    · rw [Array.getElem?_eq_none (by omega)] at hw; cases hw
  exact (hb.block 0 h0).trans hw
/-- the row's end, where nothing that was there has changed -/
theorem post_below {H : Type} {enc : TypeId × Value → H} {P : Program} {f : Func} {s : ChangeSpec} {apart fresh handsOn again : Bool} {W W' : World} {args : Array Value} {v : Value} {ds gs : List (DataW H)} {before pa pv : List MemPlace}
    (hW : DataW.Whole enc P f.params.toList s.vars apart W args.toList ds gs before)
    (hres : ∀ (b : Nat) (sp : Nat → Bool) (hd : Bool), DataW.TrodAll enc P W' b sp hd f.resultTypes.toList (v.resultList f.resultTypes.size) (s.fn H (ds ++ gs)).results [])
    (hargs : ∀ sp : Nat → Bool, (∀ p ∈ before, sp p.block = true) → DataW.TrodAll enc P W' 0 sp true f.params.toList args.toList (s.fn H (ds ++ gs)).args pa)
    (hvars : ∀ sp : Nat → Bool, (∀ p ∈ before, sp p.block = true) → DataW.TrodVars enc P W' sp s.vars (s.fn H (ds ++ gs)).vars pv)
    (hps : before = pa ++ pv) (q : Below W.heap.size W W')
    (hok : ∀ (j : Nat) (t : TypeId) (r : Value), f.resultTypes[j]? = some t → (v.resultList f.resultTypes.size)[j]? = some r → Value.okWide P W' .any 0 t r) :
    s.post enc P f apart fresh handsOn again W args v W' := by
  have old : ∀ p ∈ before, p.block < W.heap.size := hW.lt
  have seen : ∀ p ∈ before, (fun b => decide (b < W.heap.size)) p.block = true := fun p hp => decide_eq_true (old p hp)
  have kept : ∀ may : MemPlace → Prop, W.keptBut W' may := fun may => ⟨q.os, q.output, fun i hi => by
    rw [q.block i hi]
    cases W.heap[i]? with
    | none => rfl
    | some o => cases o with
      | cells c t fr => exact ⟨rfl, rfl, rfl, fun _ _ => rfl⟩
      | map es clock => exact .inr ⟨rfl, rfl⟩
      | _ => rfl⟩
  refine ⟨ds, gs, before, [], pa, pv, hW, hres _ _ _, hargs _ seen, hvars _ seen, kept _, fun _ => ⟨hok, (s.fn H (ds ++ gs)).results ++ (s.fn H (ds ++ gs)).args, (s.fn H (ds ++ gs)).vars, [] ++ pa ++ pv, ?_, ?_⟩⟩
  · obtain ⟨_, _, _, _, _, hz, hn⟩ := hW
    subst hps
    refine ⟨[] ++ pa, pv, trodAll_append (hargs _ (fun _ _ => rfl)) (hres _ _ _), hvars _ (fun _ _ => rfl), rfl, fun b off hp => ?_, fun ha => by simpa using hn ha⟩
    have hp : MemPlace.cell b off ∈ pa ++ pv := by simpa using hp
    rw [World.frozen?_of_block (q.block b (old (.cell b off) (by subst_vars; exact hp)))]
    exact hz b off hp
  · intro p hp _
    subst hps
    simpa using hp
end Go.Proofs.YtagfnjpjmmleiaaDoor

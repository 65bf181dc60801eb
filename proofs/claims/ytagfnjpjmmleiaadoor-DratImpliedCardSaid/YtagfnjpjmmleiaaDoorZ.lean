/- Drat: from a run of the executor to the given row. -/
import Derived.Test.YtagfnjpjmmleiaaDoorRows
import Derived.Test.YtagfnjpjmmleiaaDoorTie
import Derived.WalkKit
import Derived.ProofKit
import Derived.LaidMore
import Derived.OpenShut
import Derived.Stop.Joined
import Derived.SevenTiedAt
import Derived.Lib.LaidTab
import Derived.Test.YtagfnjpjmmleiaaDoorC
set_option linter.unusedVariables false
set_option linter.unusedSimpArgs false
set_option autoImplicit false
set_option linter.unusedVariables false
set_option maxRecDepth 100000
namespace Go.Proofs.YtagfnjpjmmleiaaDoor
open Go.ChangeShapes Go.WideShapes Go.ChangeAt Go.RowKit
theorem own : ownKnob Tryd.prog.godebug = none := by kernel_rfl
theorem tyPow : (Tryd.prog.globals[0]?).map (·.type) = some 124 := by kernel_rfl
theorem uPow : Tryd.prog.underlying 124 = some (.array 20 107) := by kernel_rfl
theorem uU64 : Tryd.prog.underlying 107 = some (.int .u64) := by kernel_rfl
theorem cU64 : Tryd.prog.cellsOf 107 = 1 := by kernel_rfl
theorem cPow : Tryd.prog.cellsOf 124 = 20 := by kernel_rfl
/-- what the rows list -/
noncomputable def laidL : List (String × DataW Unit) := [("math/bits.deBruijn32tab", Rows.laid_math_bits_deBruijn32tab), ("math/bits.deBruijn64tab", Rows.laid_math_bits_deBruijn64tab), ("internal/strconv.uint64pow10", Rows.laid_internal_strconv_uint64pow10)]
theorem powD : (Rows.laid_internal_strconv_uint64pow10 : DataW Unit) = Lib.tabData .u64 powL := by kernel_rfl
theorem powA : POW = powL.map fun z => Go.X.AV.int .u64 z := by kernel_rfl
/-- the door's own heap meets the condition -/
theorem door_met (os : Os) (args : Array Value) : laidMetH Tryd.prog laidL ((World.doorLaid Tryd.prog 65 os).forCall (fun _ _ => 0) ⟨#[], args, []⟩).memory :=
  laidMetH_of_parts3 (fuel := 8) (laidMet_of_run' 8 (by kernel_rfl) (by kernel_rfl)) (by kernel_rfl) (by kernel_rfl)
/-- what the condition gives: the table's cells -/
theorem of_laid {W : World} (h : laidMetH Tryd.prog laidL W) : ∃ c e fz, W.heap[0]? = some (.cells c e fz) ∧ c = (powL.map fun z => Value.int .u64 z).toArray := by
  rw [MakeChecks.laidMetH_plain _ _ _ (by kernel_rfl)] at h
  obtain ⟨ps, ⟨g0, t0, cs0, f0, p0, q0, hg0, ht0, hv0, hd0, ⟨g1, t1, cs1, f1, p1, q1, hg1, ht1, hv1, hd1, ⟨g2, t2, cs2, f2, p2, q2, hg2, ht2, hv2, hd2, _, _⟩, _⟩, _⟩, _, _⟩ := h
  obtain rfl := Option.some.inj (gPow.symm.trans hg2)
  obtain rfl := Option.some.inj (tyPow.symm.trans ht2)
  rw [powD] at hd2
  have hc := Lib.cells_of_tab uPow uU64 cU64 cPow hd2
  simp only [World.var?, gPow, Option.bind_some] at hv2
  split at hv2
  · rename_i cs t fr hw
    obtain rfl := Option.some.inj hv2
    exact ⟨cs, t, fr, hw, by rw [← hc]⟩
  · cases hv2
/-- where the table is -/
def L0 : Go.X.LM := fun i => match i with
  | 0 => some ⟨0, 0, 20⟩
  | _ => none
theorem glA_get {g i : Nat} (h : glA g = some i) : g = 0 ∧ i = 0 := by
  unfold glA at h
  cases hb : Nat.beq g 0 with
  | false => rw [hb] at h; cases h
  | true => rw [hb] at h; cases h; exact ⟨Nat.eq_of_beq_eq_true hb, rfl⟩
theorem rg0 : Go.X.RG L0 glA := by
  intro g i h
  obtain ⟨rfl, rfl⟩ := glA_get h
  rfl
theorem hA_get {e : TypeId} : ∀ {i k}, (hA e).b.get i = some k → i = 0 ∧ k = .row POW e false [] := by
  intro i k hi
  have hi : Go.X.T.get (Go.X.T.set Go.X.T.leaf (Go.X.Blk.row POW e false []) 0) i = some k := hi
  rcases Go.X.T.get_set hi with ⟨rfl, rfl⟩ | ⟨_, hi⟩
  · exact ⟨rfl, rfl⟩
  · exact (Go.X.leaf_none hi).elim
theorem rh0 {W : World} {c : Array Value} {e : TypeId} {fz : Nat × Nat} (hw : W.heap[0]? = some (.cells c e fz)) (hc : c = (powL.map fun z => Value.int .u64 z).toArray) (U : Nat) : Go.X.RH L0 (hA e) W U := by
  have hs : 0 < W.heap.size := (Array.getElem?_eq_some_iff.1 hw).1
  refine ⟨?_, ?_, ?_, ?_, ?_⟩
  · intro i k p hi hp
    obtain ⟨rfl, rfl⟩ := hA_get hi
    cases hp
    refine ⟨c, fz, hw, ⟨by rw [hc]; rfl, Nat.zero_le _⟩, (fun h => by cases h), fun k v hk => ?_⟩
    rw [powA, List.getElem?_map, Option.map_eq_some_iff] at hk
    obtain ⟨z, hz, rfl⟩ := hk
    refine ⟨.int .u64 z, ?_, .int _ _⟩
    rw [hc, Nat.zero_add, List.getElem?_toArray, List.getElem?_map, hz]; rfl
  · intro i j ki kj p q hi hj _ _ hij
    exact absurd ((hA_get hi).1.trans (hA_get hj).1.symm) hij
  · intro i h1 _
    match i, h1 with
    | i + 1, _ => rfl
  · intro i p hp
    match i with
    | 0 => cases hp; exact hs
    | i + 1 => cases hp
  · intro i k hi
    obtain ⟨rfl, _⟩ := hA_get hi
    exact Nat.lt_succ_self _
theorem ro0 {e : TypeId} (B : Nat) : ¬ Go.X.Own L0 (hA e) B := by
  rintro ⟨i, k, p, hi, hw, _⟩
  obtain ⟨rfl, rfl⟩ := hA_get hi
  cases hw
/-- a law's run, over what is laid -/
theorem law_call {C : Go.X.Cfg} (G : Go.X.Good C Tryd.prog) (hgl : C.gl = glA) {f : Nat} {args : List Go.X.AV} {W : World} (hl : laidMetH Tryd.prog laidL W)
    (hk : ∀ e, Go.X.Ran (Go.X.xfun C Tryd.prog (Go.X.xcode C Tryd.prog F) f args (hA e) [] (fun v _ _ => v = .bool true))) {args' : Array Value} (hargs : Go.X.RVs L0 args args'.toList) (hfk : Nat.ble (Nat.succ f) Go.X.YK = true := by rfl) :
    Calls Tryd.prog f args' W fun e w' => e = .returned (.bool true) ∧ Go.X.Quiet W w' := by
  obtain ⟨c, e, fz, hw, hc⟩ := of_laid hl
  refine (Go.X.xrun_ro G.ok G.spl (hk e) (rh0 hw hc) ro0 (by rw [hgl]; exact rg0) hargs (hfk := hfk)).mono ?_
  rintro e w' ⟨v, v', L', rfl, rfl, r, q⟩
  cases r
  exact ⟨rfl, q⟩
/-- the row's end, where nothing that was there has changed -/
theorem post_quiet {H : Type} {enc : TypeId × Value → H} {P : Program} {f : Func} {s : ChangeSpec} {apart fresh handsOn again : Bool} {W W' : World} {args : Array Value} {v : Value} {ds gs : List (DataW H)} {before pa pv : List MemPlace}
    (hW : DataW.Whole enc P f.params.toList s.vars apart W args.toList ds gs before)
    (hres : ∀ (b : Nat) (sp : Nat → Bool) (hd : Bool), DataW.TrodAll enc P W' b sp hd f.resultTypes.toList (v.resultList f.resultTypes.size) (s.fn H (ds ++ gs)).results [])
    (hargs : ∀ sp : Nat → Bool, (∀ p ∈ before, sp p.block = true) → DataW.TrodAll enc P W' 0 sp true f.params.toList args.toList (s.fn H (ds ++ gs)).args pa)
    (hvars : ∀ sp : Nat → Bool, (∀ p ∈ before, sp p.block = true) → DataW.TrodVars enc P W' sp s.vars (s.fn H (ds ++ gs)).vars pv)
    (hps : before = pa ++ pv) (q : Go.X.Quiet W W')
    (hok : ∀ (j : Nat) (t : TypeId) (r : Value), f.resultTypes[j]? = some t → (v.resultList f.resultTypes.size)[j]? = some r → Value.okWide P W' .any 0 t r) :
    s.post enc P f apart fresh handsOn again W args v W' := by
  have old : ∀ p ∈ before, p.block < W.heap.size := hW.lt
  have seen : ∀ p ∈ before, (fun b => decide (b < W.heap.size)) p.block = true := fun p hp => decide_eq_true (old p hp)
  have kept : ∀ may : MemPlace → Prop, W.keptBut W' may := fun may => ⟨q.os, q.output, fun i hi => by
    rw [q.keep i hi]
    cases W.heap[i]? with
    | none => rfl
    | some o => cases o with
      | cells c t fr => exact ⟨rfl, rfl, rfl, fun _ _ => rfl⟩
      | map es clock => exact .inr ⟨rfl, rfl⟩
      | _ => rfl⟩
  refine ⟨ds, gs, before, [], pa, pv, hW, hres _ _ _, hargs _ seen, hvars _ seen, kept _, fun _ => ⟨hok, (s.fn H (ds ++ gs)).results ++ (s.fn H (ds ++ gs)).args, (s.fn H (ds ++ gs)).vars, [] ++ pa ++ pv, ?_, ?_⟩⟩
  · obtain ⟨_, _, _, _, _, hz, hn⟩ := hW
    subst hps
    refine ⟨[] ++ pa, pv, trodAll_append (hargs _ (fun _ _ => rfl)) (hres _ _ _), hvars _ (fun _ _ => rfl), rfl, fun b off hp => ?_, fun ha => by simpa using hn ha⟩
    have hp : MemPlace.cell b off ∈ pa ++ pv := by simpa using hp
    rw [q.fro _ (old _ hp)]
    exact hz b off hp
  · intro p hp _
    subst hps
    simpa using hp
end Go.Proofs.YtagfnjpjmmleiaaDoor

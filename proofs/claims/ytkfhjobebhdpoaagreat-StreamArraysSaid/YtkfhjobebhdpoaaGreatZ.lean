/- Stream: from a run of the executor to the given row: what is of no one law. -/
import Derived.Test.YtkfhjobebhdpoaaGreatRows
import Derived.WalkKit
import Derived.ProofKit
import Derived.OpenShut
import Derived.Carry
import Derived.SliceStrings
import Derived.Deep.Grids
import Derived.Test.YtkfhjobebhdpoaaGreatAG
set_option linter.unusedVariables false
set_option linter.unusedSimpArgs false
set_option autoImplicit false
set_option linter.unusedVariables false
set_option maxRecDepth 100000
namespace Go.Proofs.YtkfhjobebhdpoaaGreat
open Go.ChangeShapes Go.WideShapes Go.ChangeAt Go.RowKit Go.ChangeMaps
theorem own : ownKnob Tryz.prog.godebug = none := by kernel_rfl
theorem laidOut : laidOutB Tryz.prog = true := by kernel_rfl
theorem no_spot {W : World} {a : Addr} {v : Value} (h : W.cell? (a.add 0) = some v) : a.spot = none := by
  have e : a.add 0 = a := rfl
  rw [e] at h
  unfold World.cell? at h
  split at h
  · cases hs : a.spot with
    | none => rfl
    | some x => rw [hs] at h; cases h
  · cases h
theorem cell_at {W : World} {a : Addr} (ha : a.spot = none) {i : Nat} {v : Value} (h : W.cell? (a.add i) = some v) {c : Array Value} {e : TypeId} {fz : Nat × Nat} (hw : W.heap[a.block]? = some (.cells c e fz)) : c[a.off + i]? = some v := by
  obtain ⟨B, o, s⟩ := a
  have ha : s = none := ha
  subst ha
  rw [Go.X.add_at, Go.X.cell_row hw] at h
  exact h
theorem cells_of {W : World} {a : Addr} {i : Nat} {v : Value} (h : W.cell? (a.add i) = some v) : ∃ c e fz, W.heap[a.block]? = some (.cells c e fz) := by
  have hb : (a.add i).block = a.block := by unfold Addr.add; split <;> rfl
  unfold World.cell? at h
  rw [hb] at h
  split at h
  · exact ⟨_, _, _, by assumption⟩
  · cases h
/-- a slice argument's cells -/
theorem slice_cells {W : World} {a : Addr} {cap : Nat} {f : Nat → Value} (h0 : 0 < cap) (h : ∀ i, i < cap → W.cell? (a.add i) = some (f i)) : a.spot = none ∧ a.block < W.heap.size ∧ ∃ c e fz, W.heap[a.block]? = some (.cells c e fz) ∧ a.off + cap ≤ c.size ∧ ∀ i, i < cap → c[a.off + i]? = some (f i) := by
  have hs := no_spot (h 0 h0)
  obtain ⟨c, e, fz, hw⟩ := cells_of (h 0 h0)
  have hc : ∀ i, i < cap → c[a.off + i]? = some (f i) := fun i hi => cell_at hs (h i hi) hw
  refine ⟨hs, (Array.getElem?_eq_some_iff.1 hw).1, c, e, fz, hw, ?_, hc⟩
  have := (Array.getElem?_eq_some_iff.1 (hc (cap - 1) (by omega))).1
  omega
theorem addr_eta {a : Addr} (h : a.spot = none) : a = ⟨a.block, a.off + 0, none⟩ := by
  obtain ⟨B, o, s⟩ := a
  have h : s = none := h
  subst h; rfl
/-- where the argument lies -/
def L1 (p : Option Go.X.Loc) : Go.X.LM := fun i => match i with
  | 0 => p
  | _ => none
open Go.X in
theorem rhB {W : World} {a : Addr} {c1 : Array Value} {e1 : TypeId} {fz1 : Nat × Nat} {n N : Nat} (hN : 0 < N) {B : Nat → Bool} {P0 : Nat → PV} (hP : ∀ k, P0 k = .bool (B k)) (h1 : W.heap[a.block]? = some (.cells c1 e1 fz1)) (o1 : a.off ≤ c1.size) (r1 : ∀ k, k < n → c1[a.off + k]? = some (.bool (B k))) (U : Nat) :
    RH (L1 (some (Go.X.Loc.mk a.block a.off c1.size))) ⟨T.set T.leaf (.pur P0 n e1) 0, N⟩ W U := by
  have get : ∀ {i : Nat} {k : Blk}, (T.set T.leaf (Blk.pur P0 n e1) 0).get i = some k → i = 0 ∧ k = .pur P0 n e1 := by
    intro i k hi
    rcases T.get_set hi with ⟨rfl, rfl⟩ | ⟨_, hi⟩
    · exact ⟨rfl, rfl⟩
    · cases hi
  refine ⟨?_, ?_, ?_, ?_, ?_⟩
  · intro i k p hi hp
    obtain ⟨rfl, rfl⟩ := get hi
    cases hp
    refine ⟨c1, fz1, h1, ⟨rfl, o1⟩, fun k hk => ⟨_, r1 k hk, ?_⟩⟩
    rw [hP]; exact .bool _
  · intro i j ki kj p q hi hj _ _ _ hwr
    obtain ⟨rfl, rfl⟩ := get hi
    cases hwr
  · intro i h _
    match i, h with
    | 0, h => exact absurd h (by show ¬ N ≤ 0; omega)
    | i + 1, _ => rfl
  · intro i p hp
    match i with
    | 0 => cases hp; exact (Array.getElem?_eq_some_iff.1 h1).1
    | i + 1 => cases hp
  · intro i k hi
    obtain ⟨rfl, rfl⟩ := get hi
    exact hN
open Go.X in
theorem roB {p : Option Go.X.Loc} {e : TypeId} {n N : Nat} {P0 : Nat → PV} (B : Nat) : ¬ Own (L1 p) ⟨T.set T.leaf (.pur P0 n e) 0, N⟩ B := by
  rintro ⟨i, k, r, hi, hw, _⟩
  have hi : (T.set T.leaf (Blk.pur P0 n e) 0).get i = some k := hi
  rcases T.get_set hi with ⟨rfl, rfl⟩ | ⟨_, hi⟩
  · cases hw
  · cases hi
/-- a call from what a run says -/
theorem call_of {C : Go.X.Cfg} (G : Go.X.Good C Tryz.prog) (hgl : C.gl = fun _ => none) {f : Nat} {args : List Go.X.AV} {h : Go.X.H} {L : Go.X.LM} {W : World} {ds : List Bool} (rh : ∀ U, Go.X.RH L h W U) (ro : ∀ B, ¬ Go.X.Own L h B)
    (hk : Go.X.Ran (Go.X.xfun C Tryz.prog (Go.X.xcode C Tryz.prog F) f args h ds (fun v _ _ => v = .bool true))) {args' : Array Value} (hargs : Go.X.RVs L args args'.toList) (hfk : Nat.ble (Nat.succ f) Go.X.YK = true := by rfl) :
    Calls Tryz.prog f args' W fun e w' => e = .returned (.bool true) ∧ Go.X.Quiet W w' := by
  refine (Go.X.xrun_ro (hfk := hfk) G.ok G.spl hk rh ro (by rw [hgl]; intro g i h; cases h) hargs).mono ?_
  rintro e w' ⟨v, v', L', rfl, rfl, r, q⟩
  cases r
  exact ⟨rfl, q⟩
/-- the row's end, of a call that is quiet -/
theorem post_quiet {H : Type} {enc : TypeId × Value → H} {P : Program} {f : Func} {s : ChangeSpec} {apart fresh handsOn again : Bool} {W W' : World} {args : Array Value} {v : Value} {ds gs : List (DataW H)} {before pa pv : List MemPlace}
    (hW : DataW.Whole enc P f.params.toList s.vars apart W args.toList ds gs before)
    (hres : ∀ (b : Nat) (sp : Nat → Bool) (hd : Bool), DataW.TrodAll enc P W' b sp hd f.resultTypes.toList (v.resultList f.resultTypes.size) (s.fn H (ds ++ gs)).results [])
    (hargs : ∀ sp : Nat → Bool, (∀ p ∈ before, sp p.block = true) → DataW.TrodAll enc P W' 0 sp true f.params.toList args.toList (s.fn H (ds ++ gs)).args pa)
    (hvars : ∀ sp : Nat → Bool, (∀ p ∈ before, sp p.block = true) → DataW.TrodVars enc P W' sp s.vars (s.fn H (ds ++ gs)).vars pv)
    (hps : before = pa ++ pv) (q : Go.X.Quiet W W')
    (hok : ∀ (j : Nat) (t : TypeId) (r : Value), f.resultTypes[j]? = some t → (v.resultList f.resultTypes.size)[j]? = some r → Value.okWide P W' .any 0 t r) :
    s.post enc P f apart fresh handsOn again W args v W' := by
  have old : ∀ p ∈ before, p.block < W.heap.size := hW.lt
  have seen : ∀ p ∈ before, (fun b => decide (b < W.heap.size)) p.block = true := fun p hp => decide_eq_true (old p hp)
  have kept : ∀ may : MemPlace → Prop, W.keptBut W' may := fun may => ⟨q.os, q.output, fun i hi => by
    rw [q.keep i hi]
    cases W.heap[i]? with
    | none => rfl
    | some o => cases o with
      | cells c t fr => exact ⟨rfl, rfl, rfl, fun _ _ => rfl⟩
      | map es clock => exact .inr ⟨rfl, rfl⟩
      | _ => rfl⟩
  refine ⟨ds, gs, before, [], pa, pv, hW, hres _ _ _, hargs _ seen, hvars _ seen, kept _, fun _ => ⟨hok, (s.fn H (ds ++ gs)).results ++ (s.fn H (ds ++ gs)).args, (s.fn H (ds ++ gs)).vars, [] ++ pa ++ pv, ?_, ?_⟩⟩
  · obtain ⟨_, _, _, _, _, hz, hn⟩ := hW
    subst hps
    refine ⟨[] ++ pa, pv, trodAll_append (hargs _ (fun _ _ => rfl)) (hres _ _ _), hvars _ (fun _ _ => rfl), rfl, fun b off hp => ?_, fun ha => by simpa using hn ha⟩
    have hp : MemPlace.cell b off ∈ pa ++ pv := by simpa using hp
    rw [q.fro _ (old _ hp)]
    exact hz b off hp
  · intro p hp _
    subst hps
    simpa using hp
end Go.Proofs.YtkfhjobebhdpoaaGreat

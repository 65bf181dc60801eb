/- Proved: for every list of numbers, StreamSums answers true; and its input reads as it did. No condition. -/
import Derived.Test.YtkfhjobebhdpoaaGreatZ
import Derived.Test.YtkfhjobebhdpoaaGreatSXC
import Derived.Test.YtkfhjobebhdpoaaGreatJX
import Derived.ChangeSlices
set_option linter.unusedVariables false
set_option autoImplicit false
set_option linter.unusedVariables false
set_option maxRecDepth 100000
namespace Go.Proofs.YtkfhjobebhdpoaaGreat
open Go.ChangeShapes Go.WideShapes Go.ChangeAt Go.RowKit Go.ChangeMaps
open Go.X in
theorem rhI {W : World} {a : Addr} {c1 : Array Value} {e1 : TypeId} {fz1 : Nat × Nat} {n N : Nat} (hN : 0 < N) {B : Nat → Int} {P0 : Nat → PV} (hP : ∀ k, P0 k = .int .i64 (B k)) (h1 : W.heap[a.block]? = some (.cells c1 e1 fz1)) (o1 : a.off ≤ c1.size) (r1 : ∀ k, k < n → c1[a.off + k]? = some (.int .i64 (B k))) (U : Nat) :
    RH (L1 (some (Go.X.Loc.mk a.block a.off c1.size))) ⟨T.set T.leaf (.pur P0 n e1) 0, N⟩ W U := by
  have get : ∀ {i : Nat} {k : Blk}, (T.set T.leaf (Blk.pur P0 n e1) 0).get i = some k → i = 0 ∧ k = .pur P0 n e1 := by
    intro i k hi
    rcases T.get_set hi with ⟨rfl, rfl⟩ | ⟨_, hi⟩
    · exact ⟨rfl, rfl⟩
    · cases hi
  refine ⟨?_, ?_, ?_, ?_, ?_⟩
  · intro i k p hi hp
    obtain ⟨rfl, rfl⟩ := get hi
    cases hp
    refine ⟨c1, fz1, h1, ⟨rfl, o1⟩, fun k hk => ⟨_, r1 k hk, ?_⟩⟩
    rw [hP]; exact .int _ _
  · intro i j ki kj p q hi hj _ _ _ hwr
    obtain ⟨rfl, rfl⟩ := get hi
    cases hwr
  · intro i h _
    match i, h with
    | 0, h => exact absurd h (by show ¬ N ≤ 0; omega)
    | i + 1, _ => rfl
  · intro i p hp
    match i with
    | 0 => cases hp; exact (Array.getElem?_eq_some_iff.1 h1).1
    | i + 1 => cases hp
  · intro i k hi
    obtain ⟨rfl, rfl⟩ := get hi
    exact hN
theorem lawX_none (a : Option Addr) (c : Nat) {W : World} : Calls Tryz.prog 3 #[.slice a 0 c] W fun e w' => e = .returned (.bool true) ∧ Go.X.Quiet W w' := by
  refine (Go.X.xrun_nil CL0X_good.ok CL0X_good.spl rfl law0X_run (args := [.emp]) (args' := #[.slice a 0 c]) (.cons _ _ _ _ (.emp _ _) .nil) W).mono ?_
  rintro e w' ⟨v, v', L', rfl, rfl, r, q⟩
  cases r
  exact ⟨rfl, q⟩
theorem lawX_call {a : Addr} {len cap : Nat} {B : Nat → Int} (h0 : 0 < len) (hlen : len ≤ cap) {W : World} (hw : ∀ i, i < cap → W.cell? (a.add i) = some (.int .i64 (B i))) :
    Calls Tryz.prog 3 #[.slice (some a) len cap] W fun e w' => e = .returned (.bool true) ∧ Go.X.Quiet W w' := by
  obtain ⟨s1, b1, c1, e1, fz1, w1, z1, q1⟩ := slice_cells (f := fun i => .int .i64 (B i)) (by omega) hw
  have hv : Go.X.RVs (L1 (some (Go.X.Loc.mk a.block a.off c1.size))) [Go.X.AV.slc 0 0 len len false 1] (#[Value.slice (some a) len cap] : Array Value).toList := by
    refine .cons _ _ _ _ ?_ .nil
    have := Go.X.RV.slc (L := L1 (some (Go.X.Loc.mk a.block a.off c1.size))) 0 0 len len false 1 (Go.X.Loc.mk a.block a.off c1.size) cap rfl hlen (Nat.le_refl _) (fun h => by cases h) (by show a.off + 0 + cap * 1 ≤ c1.size; omega)
    rw [addr_eta s1]; exact this
  by_cases hn : len ≤ 40
  · exact call_of (CL3X_good e1 (l := B) (n := len) h0 hn) rfl (rhI (N := 1) (by decide) (P0 := pvI B) (fun _ => rfl) w1 (by omega) (fun k hk => q1 k (by omega))) roB (lawX_run e1 h0 hn) hv
  · exact call_of CL1X_good rfl (rhI (N := 1) (by decide) (P0 := pvI B) (fun _ => rfl) w1 (by omega) (fun k hk => q1 k (by omega))) roB (bigX_run e1 (l := B) (by omega)) hv
set_option maxRecDepth 100000 in
theorem liftedX (os : Os) (started : os.Started) (H : Type) (enc : TypeId × Value → H) :
    ReturnsInHanded {} Tryz.checked os 3 .any (Rows.streamSumsSpec.pre6 enc Tryz.prog Tryz.f3 Rows.streamSumsRow.domain false) (Rows.streamSumsSpec.post enc Tryz.prog Tryz.f3 false true false false) := by
  refine returnsInHanded_of_change (C := Tryz.checked) own started (by kernel_rfl) Tryz.func3
    (ChangeSpec.witness6 (enc := enc) (C := Tryz.checked) false ⟨#[], #[.slice none 0 0], []⟩ 8 (by kernel_rfl) (by kernel_rfl) (by kernel_rfl) (by kernel_rfl)) ?_
  intro W base args ds gs before hval0 hW hcnd _
  have hval : ∀ (j : Nat) t v, Tryz.f3.params[j]? = some t → args[j]? = some v → Value.okWide Tryz.prog W .any base t v := hval0
  have hW' := hW
  obtain ⟨p, q, hA0, hV, rfl, hfz, hnd⟩ := hW
  have hA : DataW.TrodAll enc Tryz.prog W 0 (fun _ => true) true Tryz.f3.params.toList args.toList ds p := hA0
  rw [Tryz.params3] at hA hval
  obtain ⟨v0, vs0, d0, ds0, p0, q0, hargs, rfl, rfl, h0, r0⟩ := trodAll_cons hA
  obtain ⟨rfl, rfl, rfl⟩ := trodAll_nil r0
  obtain rfl : args = #[v0] := by cases args; simp_all
  obtain ⟨rfl, rfl⟩ := trodVars_none hV
  obtain ⟨a0, len, cap, rfl⟩ := Go.WideShapes.okWide_slice Tryz.underlying22 (hval 0 22 v0 rfl rfl)
  have h0k := h0
  obtain ⟨fu0, hf0⟩ := h0
  have hcall : Calls Tryz.prog 3 #[.slice a0 len cap] W fun e w' => e = .returned (.bool true) ∧ Go.X.Quiet W w' := by
    rcases open_ints Tryz.underlying22 Tryz.underlying3 (by kernel_rfl) hf0 with ⟨hcs, _⟩ | ⟨a, l1, c1, zs, hcs, _, hl1, _, hz, _, hcell, _⟩
    · have e : Value.slice a0 len cap = .slice none 0 0 := by simpa [Value.cells] using hcs
      rw [e]; exact lawX_none _ _
    · have e : Value.slice a0 len cap = .slice (some a) l1 c1 := by simpa [Value.cells] using hcs
      rw [e]
      rcases Nat.eq_zero_or_pos l1 with hz0 | hz0
      · subst hz0; exact lawX_none _ _
      · rw [if_pos rfl] at hz; exact lawX_call (B := fun i => zs.getD i 0) hz0 hl1 (fun i hi => hcell i (by omega))
  clear hA0 hval0
  simp only [List.append_nil] at hW'
  refine hcall.mono fun e W' ⟨he, hg⟩ => ?_
  subst he
  have hb : Below W.heap.size W W' := ⟨hg.os, hg.tape, hg.output, hg.size, fun k hk => hg.keep k hk⟩
  have hlt : ∀ p ∈ p0, p.block < W.heap.size := fun p hp => hW'.lt p hp
  refine ⟨_, rfl, post_quiet (pa := p0 ++ []) (pv := []) hW' (fun _ _ _ => (trodAll_cons_mk (shut_bool Tryz.underlying4 _) trodAll_mk0)) (fun sp hsp => ?_) (fun _ _ => rfl) (by simp)
    hg (ok_one (by kernel_rfl) rfl (okWide_bool_mk Tryz.underlying4 _))⟩
  have t0 := Go.WideElems.Trod_stays (sp' := sp) laidOut (by kernel_rfl) (of_decide_eq_true (by kernel_rfl)) h0k (fun x hx => hb.same (hlt x hx)) (fun x hx => hsp x hx)
  exact trodAll_cons_mk t0 trodAll_mk0
theorem overX : Rows.streamSumsRow.holds Tryz.pinned (OpenSpec.ofChange Rows.streamSumsSpec) :=
  OpenClaim.holds_of_wide 3 Tryz.f3 rfl rfl rfl rfl rfl rfl rfl ⟨rfl, rfl, rfl, rfl, rfl⟩ rfl rfl rfl rfl rfl (by kernel_rfl) Tryz.func3 rjfX
    (of_decide_eq_true (by kernel_rfl)) (by unfold Func.isWrapper; first | (rw [if_pos (by decide +kernel)]; kernel_rfl) | (rw [if_neg (by decide +kernel)]; exact ⟨rfl, rfl⟩))
    (fun os started H enc _ => liftedX os started H enc)
/-- the statement -/
theorem streamSums_holds : Rows.StreamSumsSaid := overX
#print axioms streamSums_holds
end Go.Proofs.YtkfhjobebhdpoaaGreat

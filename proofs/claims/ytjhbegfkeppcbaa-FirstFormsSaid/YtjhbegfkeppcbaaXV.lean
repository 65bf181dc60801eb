/- What a run of the executor says of a call. -/
import Derived.Test.YtjhbegfkeppcbaaXR
set_option autoImplicit false
set_option linter.unusedVariables false
namespace Go.X
noncomputable section
section
variable {P : Program}

/-- the heap of one who has nothing -/
def hNil : H := ⟨T.leaf, 0⟩
theorem rh_nil (w : World) (U : Nat) : RH (fun _ => none) hNil w U :=
  ⟨fun i k p hi => (leaf_none hi).elim, fun i j ki kj p q hi => (leaf_none hi).elim, fun _ _ _ => rfl, fun i p h => (by cases h), fun i k hi => (leaf_none hi).elim⟩
theorem own_nil {L : LM} {B : Nat} (h : Own L hNil B) : False := by
  obtain ⟨i, k, p, hi, _⟩ := h; exact leaf_none hi

/-- what was there is there, and nothing else of the world has changed -/
structure Quiet (w w' : World) : Prop where
  size : w.heap.size ≤ w'.heap.size
  keep : ∀ B, B < w.heap.size → w'.heap[B]? = w.heap[B]?
  os : w'.os = w.os
  output : w'.output = w.output
  tape : w'.tape = w.tape
  fro : ∀ a, w'.frozen? a = w.frozen? a
theorem Step.quiet {L L' : LM} {h' : H} {w w' : World} (s : Step L L' hNil h' w w') : Quiet w w' :=
  ⟨s.size, fun B hB => s.keep B hB own_nil, s.os, s.output, s.tape, s.fro⟩
theorem Quiet.rh {L : LM} {h : H} {w w' : World} {U : Nat} (q : Quiet w w') (r : RH L h w U) : RH L h w' U ∧ Step L L h h w w' :=
  ⟨⟨fun i k p hi hp => (r.mem i k p hi hp).keep (q.keep _ (r.below _ _ hp)), r.sep, r.fresh, fun i p hp => Nat.lt_of_lt_of_le (r.below i p hp) q.size, r.live⟩,
   ⟨Ext.refl L, q.size, fun B hB _ => q.keep B hB, fun _ h _ => h, fun _ _ h => .inl h, Nat.le_refl _, q.os, q.output, q.tape, q.fro⟩⟩

theorem xcode_code {C : Cfg} (hC : ConOK C P) (hS : SplCon C) (fuel : Nat) : CodeOK P (xcode C P fuel) := (xcode_both hC hS drawOK fuel).1
theorem xrun_call {C : Cfg} (hC : ConOK C P) (hS : SplCon C) {fuel f : Nat} {args : List AV} {h : H} {ds : List Bool} {K : KV} (hk : xfun C P (xcode C P fuel) f args h ds K) : CallOK P f args h K :=
  (xfun_sound hC (xcode_code hC hS fuel) _ _ _ _ _ hk).2
/-- a call that is given nothing of the heap -/
theorem xrun_nil {C : Cfg} (hC : ConOK C P) (hS : SplCon C) {fuel f : Nat} {args : List AV} {ds : List Bool} {Q : AV → Prop} (hk : xfun C P (xcode C P fuel) f args hNil ds (fun v _ _ => Q v))
    {args' : Array Value} (hargs : RVs (fun _ => none) args args'.toList) (w : World) : Calls P f args' w fun e w' => ∃ v v' L', e = .returned v' ∧ Q v ∧ RV L' v v' ∧ Quiet w w' := by
  obtain ⟨v, h', ds', hq, _, back⟩ := xfun_spl hS (xcode_spl hS fuel) f args hNil ds _ hk
  have hk2 := back (fun v2 h2 _ => v2 = v ∧ h2 = h') ⟨rfl, rfl⟩
  refine Calls.mono (xrun_call hC hS hk2 (fun _ => none) w args' h'.next hargs (rh_nil w _) fun _ _ _ h => by rw [h.2]; exact Nat.le_refl _) ?_
  rintro e w' ⟨v2, h2, ds2, L', v', rfl, ⟨rfl, rfl⟩, k1, k2, k3⟩
  exact ⟨_, v', L', rfl, hq, k1, k3.quiet⟩

/-! Contracts -/
abbrev Con := List AV → H → List Bool → KV → Prop
/-- takes nothing, answers true, leaves the heap as it is -/
def conTrue : Con := fun args h ds K => match args with
  | [] => K (.bool true) h ds
  | _ => False
theorem conTrue_spl (args : List AV) (h : H) (ds : List Bool) : Spl h (fun K => conTrue args h ds K) := by
  intro K hk
  cases args with
  | nil => exact ⟨_, _, _, hk, Nat.le_refl _, fun _ h => h⟩
  | cons a as => exact hk.elim
theorem conTrue_ok {f : Nat} (hf : ∀ w, Calls P f #[] w fun e w' => e = .returned (.bool true) ∧ Quiet w w') (args : List AV) (h : H) (ds : List Bool) (K : KV) (hk : conTrue args h ds K) : CallOK P f args h K := by
  cases args with
  | cons a as => exact hk.elim
  | nil =>
    intro L w args' U hargs r hU
    have : args' = #[] := by
      cases args' with
      | mk l => cases hargs; rfl
    subst this
    refine (hf w).mono ?_
    rintro e w' ⟨rfl, q⟩
    obtain ⟨r', s⟩ := q.rh r
    exact ⟨.bool true, h, ds, L, .bool true, rfl, hk, .bool _, r', s⟩
/-- contracts for none -/
def cfg0 (mode : Bool) (mask : Nat → Nat) : Cfg := ⟨mode, mask, fun _ => none⟩
theorem cfg0_ok (mode : Bool) (mask : Nat → Nat) : ConOK (cfg0 mode mask) P := fun f c h => by cases h
theorem cfg0_spl (mode : Bool) (mask : Nat → Nat) : SplCon (cfg0 mode mask) := fun f c h => by cases h
/-- one contract -/
def cfg1 (mode : Bool) (mask : Nat → Nat) (g : Nat) (c : Con) : Cfg := ⟨mode, mask, fun f => Bool.rec none (some c) (Nat.beq f g)⟩
theorem cfg1_con {mode : Bool} {mask : Nat → Nat} {g : Nat} {c : Con} {f : Nat} {c' : Con} (h : (cfg1 mode mask g c).con f = some c') : f = g ∧ c' = c := by
  have h : (Bool.rec none (some c) (Nat.beq f g) : Option Con) = some c' := h
  cases hb : Nat.beq f g with
  | false => rw [hb] at h; cases h
  | true => rw [hb] at h; cases h; exact ⟨natBeq_iff.1 hb, rfl⟩
theorem cfg1_spl {mode : Bool} {mask : Nat → Nat} {g : Nat} {c : Con} (hc : ∀ args h ds, Spl h (fun K => c args h ds K)) : SplCon (cfg1 mode mask g c) := fun f c' h => by
  obtain ⟨_, rfl⟩ := cfg1_con h; exact hc
theorem cfg1_ok {mode : Bool} {mask : Nat → Nat} {g : Nat} {c : Con} (hc : ∀ args h ds K, c args h ds K → CallOK P g args h K) : ConOK (cfg1 mode mask g c) P := fun f c' h => by
  obtain ⟨rfl, rfl⟩ := cfg1_con h; exact hc
end
end
end Go.X

/- Stream: stream.Run on the program of StreamDeep, as a contract. -/
import Derived.Test.YtkfhjobebhdpoaaGreatD3
import Derived.Test.YtkfhjobebhdpoaaGreatDy
set_option linter.unusedVariables false
set_option autoImplicit false
set_option maxRecDepth 1000000
set_option maxHeartbeats 2000000
set_option linter.unusedVariables false
namespace Go.Proofs.YtkfhjobebhdpoaaGreat
noncomputable section
open Go.X
def pD : List (Nat × Blk) := (25, .row [.slc 1 0 3 3 false 6] 26 true []) :: pFrom gDt 1
def hRunD (n : Nat) (z : T Blk) : H := ⟨mkB z (lapp (rr0D (zrowsT 0 1 n) (zrowsT 100 3 n)) pD), 1048576⟩
def conAskD (n : Nat) (z : T Blk) (g : Nat → CV) : Con := fun args h ds K => (args = [.slc 1049642 0 1 1 false 1, .vs 30 0 n g] ∧ h.next = 1049643 ∧ lmap (fun a => T.get h.b a) [1049642, 30] = [some (.row [.int .i64 1] 3 true []), some (.row (zrowsT 0 1 n) 22 true [])] ∧ zget h.b 12 = z) ∧ K (.int .i64 (Int.ofNat 0)) h ds
theorem conAskD_good {l : Nat → Bool} {n : Nat} (hn : n ≤ 60) {z : T Blk} (Zs : ZinD l n z) (g : Nat → CV) : X.Good (C0.addCon 24 (conAskD n z g)) Tryz.prog :=
  good0.addCon 24 _ (fun args h ds K hk => ⟨_, _, _, hk.2, Nat.le_refl _, fun K' hk' => ⟨hk.1, hk'⟩⟩) (fun args h ds K hk => by
    obtain ⟨⟨rfl, h1, h2, h3⟩, hk⟩ := hk
    refine ask_ok (l := l) h1 (by decide) (by decide) hn g (fun x k h => ?_) (belL_slc _ (fun j => zn (0 + j)) _ _ _ fun j hj => by have := List.mem_range.1 hj; rw [zn_eq]; omega) (by decide) h2 h3 (by decide) (fun j hj => Zs.ins j hj) hk
    obtain ⟨a, b⟩ := Zs.only x k h
    exact ⟨b, by rw [zn_eq]; omega, by rw [zn_eq]; show _ < 1000000000000; omega⟩)
def lcD (l : Nat → Bool) (n : Nat) (z : T Blk) (g : Nat → CV) : LCon := lcZ (S0 := Unit) (fun _ => True) (lmap (fun p => p.1) (eD n g .nils 0)) (lmap (fun p => p.1) (lapp (rr0D (zrowsT 0 1 n) (zrowsT 100 3 n)) bD0)) (fun _ => SD.st l n z (.s0 g)) (fun _ => (.ext 2, finD l n z))
def CRunD (l : Nat → Bool) (n : Nat) (z : T Blk) (g : Nat → CV) : Cfg := (C0.addCon 24 (conAskD n z g)).addLc 14 22 (lcD l n z g)
theorem runD_key (l : Nat → Bool) (n : Nat) (z : T Blk) (g : Nat → CV) (K : KV) : xfun (CRunD l n z g) Tryz.prog (xcode (CRunD l n z g) Tryz.prog F) 14 [.agg [.slc 1 0 3 3 false 6], .str 1 102, .vs 30 0 n g] (hRunD n z) [] K =
    ((([AV.slc 1049642 0 1 1 false 1, .vs 30 0 n g] = [.slc 1049642 0 1 1 false 1, .vs 30 0 n g] ∧ 1049643 = 1049643 ∧ [some (Blk.row [.int .i64 1] 3 true []), some (.row (zrowsT 0 1 n) 22 true [])] = [some (.row [.int .i64 1] 3 true []), some (.row (zrowsT 0 1 n) 22 true [])] ∧ z = z) ∧
      ∃ _ : Unit, True ∧ (SD.st l n z (.s0 g)).o0 = (SD.st l n z (.s0 g)).o0 ∧ K (.tup [.slc n0D 0 n n false 1, .int .i64 (Int.ofNat 0)]) (finD l n z).h [])) := by kernel_rfl
theorem runD_ok {l : Nat → Bool} {n : Nat} (hn1 : 1 ≤ n) (hn : n ≤ 60) {z : T Blk} (Zs : ZinD l n z) {cap : Nat} {ex : Bool} {ds : List Bool} {K : KV} (hK : K (.tup [.slc n0D 0 n n false 1, .int .i64 (Int.ofNat 0)]) (finD l n z).h ds) :
    CallOK Tryz.prog (fun _ => none) 14 [.agg [.slc 1 0 3 3 false 6], .str 1 102, .slc 30 0 n cap ex 1] (hRunD n z) K := by
  refine call_args (args2 := [.agg [.slc 1 0 3 3 false 6], .str 1 102, .vs 30 0 n (fun _ => .sc 0)]) (fun L vs hv => ?_) ?_
  · cases hv with
    | cons _ _ _ _ a b => cases b with
      | cons _ _ _ _ b c => cases c with
        | cons _ _ _ _ c d => exact .cons _ _ _ _ a (.cons _ _ _ _ b (.cons _ _ _ _ (rv_vs c) d))
  · have G : X.Good (CRunD l n z (fun _ => .sc 0)) Tryz.prog := loopD_good (conAskD_good hn Zs _) rfl rfl hn1 hn Zs _
    exact call_ds (ds := ds) (xrun_call G.ok G.spl (fuel := F) (ds := []) (Eq.mpr (runD_key l n z _ _) ⟨⟨rfl, rfl, rfl, rfl⟩, (), trivial, rfl, hK⟩))
end
end Go.Proofs.YtkfhjobebhdpoaaGreat

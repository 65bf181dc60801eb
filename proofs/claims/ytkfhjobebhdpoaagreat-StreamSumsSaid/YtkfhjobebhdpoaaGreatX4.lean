/- Stream: stream.Run on the program of StreamSums, as a contract. -/
import Derived.Test.YtkfhjobebhdpoaaGreatSXB
import Derived.Test.YtkfhjobebhdpoaaGreatXy
import Derived.Test.YtkfhjobebhdpoaaGreatKX
set_option linter.unusedVariables false
set_option autoImplicit false
set_option maxRecDepth 1000000
set_option maxHeartbeats 2000000
set_option linter.unusedVariables false
namespace Go.Proofs.YtkfhjobebhdpoaaGreat
noncomputable section
open Go.X
def pX : List (Nat × Blk) := (31, .row [.slc 1 0 3 3 false 6] 26 true []) :: pFrom gXt 1
def hRunX (n : Nat) (z : T Blk) : H := ⟨mkB z (lapp (rr0X (zrowsT 0 1 n) (zrowsT 100 4 n)) pX), 1048576⟩
def conAskX (n : Nat) (z : T Blk) (g : Nat → CV) : Con := fun args h ds K => (args = [.slc 1050026 0 1 1 false 1, .vs 50 0 n g] ∧ h.next = 1050027 ∧ lmap (fun a => T.get h.b a) [1050026, 50] = [some (.row [.int .i64 2] 3 true []), some (.row (zrowsT 0 1 n) 22 true [])] ∧ zget h.b 12 = z) ∧ K (.int .i64 (Int.ofNat 0)) h ds
theorem conAskX_good {l : Nat → Int} {n : Nat} (hn : n ≤ 40) {z : T Blk} (Zs : ZinX l n z) (g : Nat → CV) : X.Good (C0.addCon 24 (conAskX n z g)) Tryz.prog :=
  good0.addCon 24 _ (fun args h ds K hk => ⟨_, _, _, hk.2, Nat.le_refl _, fun K' hk' => ⟨hk.1, hk'⟩⟩) (fun args h ds K hk => by
    obtain ⟨⟨rfl, h1, h2, h3⟩, hk⟩ := hk
    refine askI_ok (l := xX l) h1 (by decide) (by decide) hn g (fun x k h => ?_) (belL_slc _ (fun j => zn (0 + j)) _ _ _ fun j hj => by have := List.mem_range.1 hj; rw [zn_eq]; omega) (by decide) h2 h3 (by decide) (fun j hj => Zs.ins j hj) (xX_le l) hk
    obtain ⟨a, b⟩ := Zs.only x k h
    exact ⟨b, by rw [zn_eq]; omega, by rw [zn_eq]; show _ < 1000000000000; omega⟩)
def lcX (l : Nat → Int) (n : Nat) (z : T Blk) (g : Nat → CV) : LCon := lcZ (S0 := Unit) (fun _ => True) (lmap (fun p => p.1) (eX n g .nils 0)) (lmap (fun p => p.1) (lapp (rr0X (zrowsT 0 1 n) (zrowsT 100 4 n)) bX0)) (fun _ => SX.st l n z (.s0 g)) (fun _ => (.ext 2, finX l n z))
def CRunX (l : Nat → Int) (n : Nat) (z : T Blk) (g : Nat → CV) : Cfg := (C0.addCon 24 (conAskX n z g)).addLc 14 22 (lcX l n z g)
theorem runX_key (l : Nat → Int) (n : Nat) (z : T Blk) (g : Nat → CV) (K : KV) : xfun (CRunX l n z g) Tryz.prog (xcode (CRunX l n z g) Tryz.prog F) 14 [.agg [.slc 1 0 3 3 false 6], .str 1 102, .vs 50 0 n g] (hRunX n z) [] K =
    ((([AV.slc 1050026 0 1 1 false 1, .vs 50 0 n g] = [.slc 1050026 0 1 1 false 1, .vs 50 0 n g] ∧ 1050027 = 1050027 ∧ [some (Blk.row [.int .i64 2] 3 true []), some (.row (zrowsT 0 1 n) 22 true [])] = [some (.row [.int .i64 2] 3 true []), some (.row (zrowsT 0 1 n) 22 true [])] ∧ z = z) ∧
      ∃ _ : Unit, True ∧ (SX.st l n z (.s0 g)).o0 = (SX.st l n z (.s0 g)).o0 ∧ K (.tup [.slc n0X 0 n n false 1, .int .i64 (Int.ofNat 0)]) (finX l n z).h [])) := by kernel_rfl
theorem runX_ok {l : Nat → Int} {n : Nat} (hn1 : 1 ≤ n) (hn : n ≤ 40) {z : T Blk} (Zs : ZinX l n z) {cap : Nat} {ex : Bool} {ds : List Bool} {K : KV} (hK : K (.tup [.slc n0X 0 n n false 1, .int .i64 (Int.ofNat 0)]) (finX l n z).h ds) :
    CallOK Tryz.prog (fun _ => none) 14 [.agg [.slc 1 0 3 3 false 6], .str 1 102, .slc 50 0 n cap ex 1] (hRunX n z) K := by
  refine call_args (args2 := [.agg [.slc 1 0 3 3 false 6], .str 1 102, .vs 50 0 n (fun _ => .sc 0)]) (fun L vs hv => ?_) ?_
  · cases hv with
    | cons _ _ _ _ a b => cases b with
      | cons _ _ _ _ b c => cases c with
        | cons _ _ _ _ c d => exact .cons _ _ _ _ a (.cons _ _ _ _ b (.cons _ _ _ _ (rv_vs c) d))
  · have G : X.Good (CRunX l n z (fun _ => .sc 0)) Tryz.prog := loopX_good (conAskX_good hn Zs _) rfl rfl hn1 hn Zs _
    exact call_ds (ds := ds) (xrun_call G.ok G.spl (fuel := F) (ds := []) (Eq.mpr (runX_key l n z _ _) ⟨⟨rfl, rfl, rfl, rfl⟩, (), trivial, rfl, hK⟩))
end
end Go.Proofs.YtkfhjobebhdpoaaGreat

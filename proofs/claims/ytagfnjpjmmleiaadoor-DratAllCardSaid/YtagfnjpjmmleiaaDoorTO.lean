/- Drat: the formula's own check, a range over a function. -/
import Derived.Test.YtagfnjpjmmleiaaDoorR
import Derived.Test.YtagfnjpjmmleiaaDoorQA
import Derived.RangeFuncNested
import Derived.RangeFuncBound
import Derived.RangeFuncCalls
import Derived.RangeFuncLeaves
import Derived.RangeFuncFrom
import Derived.Shelf.Abstract
import Derived.Shelf.RegionOpen
import Derived.WalkKit
import Derived.OwnWalkIn
import Derived.TacticsInMore
import Derived.LoopNIn
import Derived.LoopIn
set_option linter.unusedVariables false
set_option linter.unusedSimpArgs false
set_option autoImplicit false
set_option linter.unusedVariables false
set_option linter.unusedSimpArgs false
namespace Go.Proofs.YtagfnjpjmmleiaaDoor
open Go.Shelf Go.RowKit
attribute [local go_sem] Oper.semAt_some
def encC (cs : List Cl) (j : Nat) : Array Value := #[.slice (cs.getD j default).a (cs.getD j default).zs.length (cs.getD j default).c]
set_option maxRecDepth 100000 in
set_option maxHeartbeats 4000000 in
/-- the iterator's body -/
theorem clauses1_in (F : Fence) (n : Nat) (h7 : F.fn 40) (hro : F.round = none) (hn : 1 ≤ n) (l Bs n₀ len cap : Nat) (a : Option Addr) (V : Int) (cs : List Cl) (hlen : cs.length = len) (hl9 : len ≤ 1000000000) (W0 : World) (hz : Rows' W0 a cs) (hn0 : W0.heap.size ≤ n₀) (J Jx : List Nat → World → Prop)
    (hY : ∀ pre x W, J pre W → pre.length < len → YieldAt F (n - 1) Tryd.prog l (encC cs x) W fun e W' =>
      (e = .returned (.bool true) ∧ J (pre ++ [x]) W' ∧ Below n₀ W W') ∨ (e = .returned (.bool false) ∧ Jx (pre ++ [x]) W'))
    (W : World) (hB : Below W0.heap.size W0 W) (hBs : W.cell? ⟨Bs, 1, none⟩ = some (.slice a len cap)) (h0 : J [] W) :
    CallsIn F n Tryd.prog 40 #[.func (.yield l) #[] #[], .pointer (some ⟨Bs, 0, none⟩)] W fun e W' => (∃ v, e = .returned v) ∧
      ((∃ ys, ys = List.range len ∧ J ys W') ∨ (∃ pre, (∃ k, k ≤ len ∧ pre = List.range k) ∧ Jx pre W')) := by
  refine callsIn_of_wp Tryd.func40 rfl h7 ?_ hro
  simp only [Tryd.ntmps40, List.size_toArray, List.length_cons, List.length_nil, Nat.reduceAdd, Nat.reduceSub, Array.replicate_succ, Array.replicate_zero, List.push_toArray, List.append_toArray, List.nil_append, List.cons_append]
  gi_wp2
  gi_loopw [8] (fun i wr => ∃ k : Nat, k ≤ len ∧ i = .int .i64 k ∧ J (List.range k) wr ∧ Below W0.heap.size W0 wr)
    (fun i _ => len - (intOf i).toNat)
  case atStart => exact ⟨0, Nat.zero_le _, rfl, h0, hB⟩
  case round =>
    obtain ⟨k, hk, rfl, hJs, hnx⟩ := hrel
    by_cases hlt : k < len
    · have hltI : (k : Int) < (len : Int) := by omega
      obtain ⟨rb, ro, rfl, hrb, hrc, hri⟩ := hz.below hnx k (by omega)
      obtain ⟨fn, tmps, assign, body, hy, hR⟩ := hY _ k wr hJs (by simp; exact hlt)
      unfold encC at hy
      obtain ⟨cl, hcl⟩ : ∃ c, cs.getD k default = c := ⟨_, rfl⟩
      rw [hcl] at hrc hy
      gi_wp2
      refine hR.mono ?_
      rintro e W3 (⟨rfl, hJ3, hk3⟩ | ⟨rfl, hJx3⟩)
      · gi_wp2
        go_roundw
        case rel => exact ⟨k + 1, by omega, by simp, by rw [List.range_succ]; exact hJ3, hnx.trans (hk3.mono hn0)⟩
        case measure => simp [intOf]; omega
      · gi_wp2
        refine bodyPost_ret (results_none rfl _ _ _) rfl ?_
        exact ⟨⟨_, rfl⟩, .inr ⟨_, ⟨k + 1, by omega, by rw [List.range_succ]⟩, hJx3⟩⟩
    · obtain rfl : k = len := by omega
      gi_wp2
      go_end0
      exact ⟨⟨_, rfl⟩, .inl ⟨_, rfl, hJs⟩⟩
set_option maxHeartbeats 1000000 in
/-- the iterator -/
theorem clauses_in (F : Fence) (n : Nat) (h5 : F.fn 34) (hro : F.round = none) (vars : Value) (s : Value) (w : World) :
    CallsIn F n Tryd.prog 34 #[.agg #[vars, s]] w fun e w' => e = .returned (.func (.func 40) #[] #[.pointer (some ⟨w.heap.size, 0, none⟩)]) ∧ w' = w.alloc (.cells #[vars, s] 24) := by
  refine callsIn_of_wp Tryd.func34 rfl h5 ?_ hro
  simp only [Tryd.ntmps34, List.size_toArray, List.length_cons, List.length_nil, Nat.reduceAdd, Nat.reduceSub, Array.replicate_succ, Array.replicate_zero, List.push_toArray, List.append_toArray, List.nil_append, List.cons_append]
  gi_wp2
  go_ret
  exact ⟨rfl, rfl⟩
theorem clauses_stops (F : Fence) (n : Nat) (h7 : F.fn 40) (hro : F.round = none) (hn : 1 ≤ n) (Bs n₀ len cap : Nat) (a : Option Addr) (V : Int) (cs : List Cl) (hlen : cs.length = len) (hl9 : len ≤ 1000000000) (W0 w : World) (hz : Rows' W0 a cs) (hn0 : W0.heap.size ≤ n₀) (hB : Below W0.heap.size W0 w) (hBs : Bs < w.heap.size) (hn₀ : n₀ ≤ w.heap.size) (hc : w.cell? ⟨Bs, 1, none⟩ = some (.slice a len cap)) :
    SeqStopsK F n Tryd.prog 40 #[.pointer (some ⟨Bs, 0, none⟩)] (encC cs) (Below n₀) (fun ys => ys = List.range len) (fun pre => pre <+: List.range len) len w := fun l J Jx W hW _ _ hY h0 => by
  have hc' := (hW.cell (p := ⟨Bs, 1, none⟩) hBs).trans hc
  refine (clauses1_in F n h7 hro hn l Bs n₀ len cap a V cs hlen hl9 W0 hz hn0 J Jx hY W (hB.trans (hW.mono (Nat.le_trans hn0 hn₀))) hc' h0).mono ?_
  rintro e W' ⟨he, ⟨ys, rfl, hj⟩ | ⟨pre, ⟨k, hk, rfl⟩, hj⟩⟩
  · exact ⟨he, .inl ⟨_, rfl, hj⟩⟩
  · exact ⟨he, .inr ⟨_, ⟨(List.range len).drop k, by rw [show List.range k = (List.range len).take k from by rw [List.take_range]; congr 1; omega]; exact List.take_append_drop ..⟩, hj⟩⟩
end Go.Proofs.YtagfnjpjmmleiaaDoor

/- Drat: the formula's own check, a range over a function. -/
import Derived.Test.YtkpppmldbhgcgaaDpRCtoDpPA
import Derived.Test.YtkpppmldbhgcgaaDpPDtoDpQA
import Derived.RangeFuncNested
import Derived.RangeFuncBound
import Derived.RangeFuncCalls
import Derived.RangeFuncLeaves
import Derived.RangeFuncFrom
import Derived.Shelf.Abstract
import Derived.Shelf.RegionOpen
import Derived.WalkKit
import Derived.OwnWalkIn
import Derived.TacticsInMore
import Derived.LoopNIn
import Derived.LoopIn
set_option linter.unusedVariables false
set_option linter.unusedSimpArgs false
set_option autoImplicit false
set_option linter.unusedVariables false
set_option linter.unusedSimpArgs false
namespace Go.Proofs.Ytkpppmldbhgcgaa.D
open Go.Proofs Go
open Go.Shelf Go.RowKit
attribute [local go_sem] Oper.semAt_some
def encC (cs : List Cl) (j : Nat) : Array Value := #[.slice (cs.getD j default).a (cs.getD j default).zs.length (cs.getD j default).c]
set_option maxRecDepth 100000 in
set_option maxHeartbeats 4000000 in
/-- the iterator's body -/
theorem clauses1_in (F : Fence) (n : Nat) (h7 : F.fn 39) (hro : F.round = none) (hn : 1 ≤ n) (l Bs n₀ len cap : Nat) (a : Option Addr) (V : Int) (cs : List Cl) (hlen : cs.length = len) (hl9 : len ≤ 1000000000) (W0 : World) (hz : Rows' W0 a cs) (hn0 : W0.heap.size ≤ n₀) (J Jx : List Nat → World → Prop)
    (hY : ∀ pre x W, J pre W → pre.length < len → YieldAt F (n - 1) Try.prog l (encC cs x) W fun e W' =>
      (e = .returned (.bool true) ∧ J (pre ++ [x]) W' ∧ Below n₀ W W') ∨ (e = .returned (.bool false) ∧ Jx (pre ++ [x]) W'))
    (W : World) (hB : Below W0.heap.size W0 W) (hBs : W.cell? ⟨Bs, 1, none⟩ = some (.slice a len cap)) (h0 : J [] W) :
    CallsIn F n Try.prog 39 #[.func (.yield l) #[] #[], .pointer (some ⟨Bs, 0, none⟩)] W fun e W' => (∃ v, e = .returned v) ∧
      ((∃ ys, ys = List.range len ∧ J ys W') ∨ (∃ pre, (∃ k, k ≤ len ∧ pre = List.range k) ∧ Jx pre W')) := by
  refine callsIn_of_wp Try.func39 rfl h7 ?_ hro
  simp only [Try.ntmps39, List.size_toArray, List.length_cons, List.length_nil, Nat.reduceAdd, Nat.reduceSub, Array.replicate_succ, Array.replicate_zero, List.push_toArray, List.append_toArray, List.nil_append, List.cons_append]
  gi_wp2
  gi_loopw [8] (fun i wr => ∃ k : Nat, k ≤ len ∧ i = .int .i64 k ∧ J (List.range k) wr ∧ Below W0.heap.size W0 wr)
    (fun i _ => len - (intOf i).toNat)
  case atStart => exact ⟨0, Nat.zero_le _, rfl, h0, hB⟩
  case round =>
    obtain ⟨k, hk, rfl, hJs, hnx⟩ := hrel
    by_cases hlt : k < len
    · have hltI : (k : Int) < (len : Int) := by omega
      obtain ⟨rb, ro, rfl, hrb, hrc, hri⟩ := hz.below hnx k (by omega)
      obtain ⟨fn, tmps, assign, body, hy, hR⟩ := hY _ k wr hJs (by simp; exact hlt)
      unfold encC at hy
      obtain ⟨cl, hcl⟩ : ∃ c, cs.getD k default = c := ⟨_, rfl⟩
      rw [hcl] at hrc hy
      gi_wp2
      refine hR.mono ?_
      rintro e W3 (⟨rfl, hJ3, hk3⟩ | ⟨rfl, hJx3⟩)
      · gi_wp2
        go_roundw
        case rel => exact ⟨k + 1, by omega, by simp, by rw [List.range_succ]; exact hJ3, hnx.trans (hk3.mono hn0)⟩
        case measure => simp [intOf]; omega
      · gi_wp2
        refine bodyPost_ret (results_none rfl _ _ _) rfl ?_
        exact ⟨⟨_, rfl⟩, .inr ⟨_, ⟨k + 1, by omega, by rw [List.range_succ]⟩, hJx3⟩⟩
    · obtain rfl : k = len := by omega
      gi_wp2
      go_end0
      exact ⟨⟨_, rfl⟩, .inl ⟨_, rfl, hJs⟩⟩
set_option maxHeartbeats 1000000 in
/-- the iterator -/
theorem clauses_in (F : Fence) (n : Nat) (h5 : F.fn 22) (hro : F.round = none) (vars : Value) (s : Value) (w : World) :
    CallsIn F n Try.prog 22 #[.agg #[vars, s]] w fun e w' => e = .returned (.func (.func 39) #[] #[.pointer (some ⟨w.heap.size, 0, none⟩)]) ∧ w' = w.alloc (.cells #[vars, s] 24) := by
  refine callsIn_of_wp Try.func22 rfl h5 ?_ hro
  simp only [Try.ntmps22, List.size_toArray, List.length_cons, List.length_nil, Nat.reduceAdd, Nat.reduceSub, Array.replicate_succ, Array.replicate_zero, List.push_toArray, List.append_toArray, List.nil_append, List.cons_append]
  gi_wp2
  go_ret
  exact ⟨rfl, rfl⟩
theorem clauses_stops (F : Fence) (n : Nat) (h7 : F.fn 39) (hro : F.round = none) (hn : 1 ≤ n) (Bs n₀ len cap : Nat) (a : Option Addr) (V : Int) (cs : List Cl) (hlen : cs.length = len) (hl9 : len ≤ 1000000000) (W0 w : World) (hz : Rows' W0 a cs) (hn0 : W0.heap.size ≤ n₀) (hB : Below W0.heap.size W0 w) (hBs : Bs < w.heap.size) (hn₀ : n₀ ≤ w.heap.size) (hc : w.cell? ⟨Bs, 1, none⟩ = some (.slice a len cap)) :
    SeqStopsK F n Try.prog 39 #[.pointer (some ⟨Bs, 0, none⟩)] (encC cs) (Below n₀) (fun ys => ys = List.range len) (fun pre => pre <+: List.range len) len w := fun l J Jx W hW _ _ hY h0 => by
  have hc' := (hW.cell (p := ⟨Bs, 1, none⟩) hBs).trans hc
  refine (clauses1_in F n h7 hro hn l Bs n₀ len cap a V cs hlen hl9 W0 hz hn0 J Jx hY W (hB.trans (hW.mono (Nat.le_trans hn0 hn₀))) hc' h0).mono ?_
  rintro e W' ⟨he, ⟨ys, rfl, hj⟩ | ⟨pre, ⟨k, hk, rfl⟩, hj⟩⟩
  · exact ⟨he, .inl ⟨_, rfl, hj⟩⟩
  · exact ⟨he, .inr ⟨_, ⟨(List.range len).drop k, by rw [show List.range k = (List.range len).take k from by rw [List.take_range]; congr 1; omega]; exact List.take_append_drop ..⟩, hj⟩⟩
end Go.Proofs.Ytkpppmldbhgcgaa.D
/- Drat: the formula's own check, walked. -/
set_option autoImplicit false
set_option linter.unusedVariables false
set_option linter.unusedSimpArgs false
namespace Go.Proofs.Ytkpppmldbhgcgaa.D
open Go.Proofs Go
open Go.Shelf Go.RowKit
attribute [local go_sem] Oper.semAt_some
theorem cellAl {W : World} {a : Addr} {v : Value} (o : Obj) (h : W.cell? a = some v) : (W.alloc o).cell? a = some v := cell_kept h (World.grownBy_alloc W o none) (fun r e => by cases e)
theorem cellBox (W : World) (v : Value) (t : TypeId) : (W.alloc (.cells #[v] t)).cell? ⟨W.heap.size, 0, none⟩ = some v ∧ (W.alloc (.cells #[v] t)).frozen? ⟨W.heap.size, 0, none⟩ = false := by
  have h : (W.alloc (.cells #[v] t)).heap[W.heap.size]? = some (.cells #[v] t (0, 0)) := World.alloc_heap_new W _
  exact ⟨by unfold World.cell?; rw [h]; rfl, by unfold World.frozen?; rw [h]; rfl⟩
theorem cellLt {W : World} {b off : Nat} {v : Value} (h : W.cell? ⟨b, off, none⟩ = some v) : b < W.heap.size := by
  by_cases e : b < W.heap.size
  · exact e
  · unfold World.cell? at h
    rw [Array.getElem?_eq_none (by simpa using e)] at h
    cases h
theorem keepsOf {W W' : World} (h : Below W.heap.size W W') : KeepsOthers W W' := ⟨h.size, fun k o hk ho => by
  have hlt : k < W.heap.size := by
    by_cases e : k < W.heap.size
    · exact e
    · rw [Array.getElem?_eq_none (by omega)] at hk; cases hk
  exact (h.block k hlt).trans hk⟩
set_option maxRecDepth 1000000 in
set_option maxHeartbeats 8000000 in
theorem cnf_walk (a : Option Addr) (n c : Nat) (cs : List Cl) (vars : Int) (w : World) (hn : cs.length = n) (hlen : n ≤ 1000000000) (hl : ∀ j, j < n → (cs.getD j default).zs.length ≤ 1000000000) (hz : Rows' w a cs) :
    Calls Try.prog 15 #[.agg #[.int .i64 vars, .slice a n c]] w fun e w' => e = .returned (.int .i64 (checkZ vars cs)) ∧ Below w.heap.size w w' := by
  refine (callsIn_wide (n := 3)).1 ?_
  refine callsIn_of_wp_marks Try.func15 rfl trivial ?_ rfl
  simp only [Try.ntmps15, List.size_toArray, List.length_cons, List.length_nil, Nat.reduceAdd, Nat.reduceSub, Array.replicate_succ, Array.replicate_zero, List.push_toArray, List.append_toArray, List.nil_append, List.cons_append]
  have hzf : (zeroValue 31).run Try.prog w = .ok (.int .i64 0) w := by kernel_rfl
  have b0 : ∀ v, ((w.alloc (.cells #[.int .i64 vars, .slice a n c] 24)).alloc v).cell? ⟨w.heap.size, 0, none⟩ = some (.int .i64 vars) := fun v => cellAl _ ((cell_new ..).trans rfl)
  have b1 : ∀ v, ((w.alloc (.cells #[.int .i64 vars, .slice a n c] 24)).alloc v).cell? ⟨w.heap.size, 1, none⟩ = some (.slice a n c) := fun v => cellAl _ ((cell_new ..).trans rfl)
  have b2 := cellBox (w.alloc (.cells #[.int .i64 vars, .slice a n c] 24)) (.int .i64 0) 31
  simp only [World.size_alloc] at b2
  have hB0 : ∀ v, Below w.heap.size w ((w.alloc (.cells #[.int .i64 vars, .slice a n c] 24)).alloc v) := fun v => ((Below.refl _ w).alloc (Nat.le_refl _) _).alloc (by simp) _
  by_cases hbV : (200000 : Int) < vars
  · have hC : checkZ vars cs = 2 := by unfold checkZ; rw [if_pos (.inl hbV)]
    gi_wp2
    have b3 := cellBox (w.alloc (.cells #[.int .i64 vars, .slice a n c] 24)) (.int .i64 2) 31
    simp only [World.size_alloc] at b3
    have hc5 := b3.1
    refine ⟨.int .i64 2, ?_, by rw [hC], hB0 _⟩
    simp [results, Try.f15, go_sem, hc5]
  · gi_wp2
    obtain ⟨W0, hW0⟩ : ∃ W0, (w.alloc (.cells #[.int .i64 vars, .slice a n c] 24)).alloc (.cells #[.int .i64 0] 31) = W0 := ⟨_, rfl⟩
    have c0 := b0 (.cells #[.int .i64 0] 31)
    have c1 := b1 (.cells #[.int .i64 0] 31)
    have hBW := hB0 (.cells #[.int .i64 0] 31)
    clear b0 b1 hB0
    have hsz : W0.heap.size = w.heap.size + 1 + 1 := by rw [← hW0]; simp
    rw [hW0] at b2 c0 c1 hBW ⊢
    gi_loopw [3, 15] (fun m i wr => ∃ k : Nat, k ≤ n ∧ i = .int .i64 k ∧ m = .int .i64 (total cs k) ∧ total cs k ≤ 200000 ∧ wr = W0) (fun _ i _ => n - (intOf i).toNat)
    case atStart => exact ⟨0, Nat.zero_le _, rfl, rfl, Nat.zero_le _, rfl⟩
    case round =>
      obtain ⟨k, hk, rfl, rfl, hm, rfl⟩ := hrel
      obtain ⟨t, ht0⟩ : ∃ t, total cs k = t := ⟨_, rfl⟩
      by_cases hlt : k < n
      · obtain ⟨b, off, rfl, hb, hc, hi⟩ := hz k (by omega)
        have hc := (hBW.cell (by exact hb)).trans hc
        have hll := hl k hlt
        have ht : total cs (k + 1) = total cs k + 1 + (cs.getD k default).zs.length := rfl
        obtain ⟨x, hx⟩ : ∃ x, cs.getD k default = x := ⟨_, rfl⟩
        rw [hx] at hc hll ht
        rw [ht0] at hm ht
        simp only [ht0]
        by_cases hbig : (200000 : Int) < (t : Int) + ((x.zs.length : Int) + 1)
        · have hmono := total_mono cs (k := k + 1) (m := n) (by omega)
          have hC : checkZ vars cs = 2 := by unfold checkZ; rw [hn, if_pos (.inr (by omega))]
          gi_wp2
          have hc5 := World.cell?_setCell_same' wr ⟨w.heap.size + 1, 0, none⟩ (.int .i64 2) (by rw [b2.1]; rfl)
          refine ⟨.int .i64 2, ?_, by rw [hC], hBW.setCell (p := ⟨w.heap.size + 1, 0, none⟩) (by simp) _⟩
          simp [results, Try.f15, go_sem, hc5]
        · gi_wp2
          go_roundw
          case rel => exact ⟨k + 1, hlt, by simp, by rw [ht]; simp; omega, by rw [ht]; omega, by first | rfl | trivial⟩
          case measure => simp [intOf]; omega
      · have e0 : k = n := by omega
        subst e0
        rw [ht0] at hm
        simp only [ht0]
        by_cases hv0 : vars < 0
        · have hC : checkZ vars cs = 40 := by unfold checkZ; rw [hn, ht0, if_neg (by omega), if_pos hv0]
          gi_wp2
          have hc5 := World.cell?_setCell_same' wr ⟨w.heap.size + 1, 0, none⟩ (.int .i64 40) (by rw [b2.1]; rfl)
          refine ⟨.int .i64 40, ?_, by rw [hC], hBW.setCell (p := ⟨w.heap.size + 1, 0, none⟩) (by simp) _⟩
          simp [results, Try.f15, go_sem, hc5]
        · have hC : checkZ vars cs = if fairs vars cs = true then 0 else 40 := by unfold checkZ; rw [hn, ht0, if_neg (by omega), if_neg hv0]
          gi_wp2_with (refine ⟨trivial, ?_⟩; gi_at_call 22; refine (clauses_in Fence.wide _ trivial rfl _ _ _).mono ?_; rintro e w' ⟨p1, p2⟩; rw [p1, p2]; clear p1 p2)
          have hsz2 : (wr.alloc (Obj.cells #[Value.int IntKind.i64 vars, Value.slice a k c] 24)).heap.size = w.heap.size + 1 + 1 + 1 := by simp [hsz]
          have hBs := (cell_new wr #[.int .i64 vars, .slice a k c] 24 (0, 0) 1).trans rfl
          rw [hsz] at hBs
          have hBx : Below w.heap.size w (wr.alloc (Obj.cells #[Value.int IntKind.i64 vars, Value.slice a k c] 24)) := hBW.alloc (by omega) _
          refine wpIn_rangeFunc_ownF rfl (by decide) (gf := 39) (lb := #[.pointer (some ⟨w.heap.size + 1 + 1, 0, none⟩)]) rfl trivial (enters_of Try.func39 (by kernel_rfl) rfl)
            (clauses_stops Fence.wide 2 trivial rfl (by decide) (w.heap.size + 1 + 1) w.heap.size k c a vars cs hn hlen w _ hz (Nat.le_refl _) hBx (by rw [hsz2]; omega) (by rw [hsz2]; omega) hBs) belowK_t (belowK_b (by rw [hsz2]; omega)) (Below.refl _ _) (fun _ => rfl)
            (fun pre W => ((∀ j ∈ pre, fairZ vars (cs.getD j default).zs = true) ∧ W.cell? ⟨w.heap.size, 0, none⟩ = some (.int .i64 vars) ∧ W.cell? ⟨w.heap.size, 1, none⟩ = some (.slice a k c) ∧ W.cell? ⟨w.heap.size + 1, 0, none⟩ = some (.int .i64 0) ∧ W.frozen? ⟨w.heap.size + 1, 0, none⟩ = false) ∧ Below w.heap.size w W)
            (fun cc pre W => (cc = .ret ∧ (∃ j ∈ pre, fairZ vars (cs.getD j default).zs = false) ∧ W.cell? ⟨w.heap.size + 1, 0, none⟩ = some (.int .i64 40)) ∧ Below w.heap.size w W)
            (OwnFrom.and (Own.from (fun s A B row hs hg hr => ⟨hs.1, cell_kept hs.2.1 hg hr, cell_kept hs.2.2.1 hg hr, cell_kept hs.2.2.2.1 hg hr, (frozen_kept hs.2.2.2.1 hg hr).trans hs.2.2.2.2⟩) _) (ownFrom_below (Nat.le_refl _) (by rw [hsz2]; omega)))
            (fun cc => OwnFrom.and (Own.from (fun s A B row hs hg hr => ⟨hs.1, hs.2.1, cell_kept hs.2.2 hg hr⟩) _) (ownFrom_below (Nat.le_refl _) (by rw [hsz2]; omega)))
            ⟨⟨by simp, cellAl _ c0, cellAl _ c1, cellAl _ b2.1, (frozen_kept b2.1 (World.grownBy_alloc wr _ none) (fun r e => by cases e)).trans b2.2⟩, hBx⟩
            (fun x => { tmps := #[.agg #[.int .i64 vars, .slice a k c], .pointer (some ⟨w.heap.size, 0, none⟩), .pointer (some ⟨w.heap.size + 1, 0, none⟩), .int .i64 t, undef, u5, .slice (cs.getD x default).a (cs.getD x default).zs.length (cs.getD x default).c, undef, undef, .pointer (some ⟨w.heap.size, 0, none⟩), .int .i64 vars, .bool false, .pointer (some ⟨w.heap.size, 1, none⟩), .slice a k c, .int .i64 k, .int .i64 k, .bool false, u17, u18, u19, u20, u21, u22, u23, u24, u25, u26, .pointer (some ⟨w.heap.size, 0, none⟩), .int .i64 vars, .bool false, .agg #[.int .i64 vars, .slice a k c], .func (.func 39) #[] #[.pointer (some ⟨w.heap.size + 1 + 1, 0, none⟩)], .slice (cs.getD x default).a (cs.getD x default).zs.length (cs.getD x default).c, undef, undef, undef, undef, undef, undef, undef, undef, undef, undef, undef], defers := [] }) ?assign ?body ?done ?stop
          case assign =>
            intro l x W K hK
            unfold encC
            gi_wp2
            exact hK
          case body =>
            rintro l pre x W ⟨⟨hp, q0, q1, q2, q3⟩, hB⟩ _
            have hri : Ints W (cs.getD x default).a (cs.getD x default).zs := by
              by_cases hxk : x < k
              · obtain ⟨_, _, _, _, _, hri⟩ := hz.below hB x (by omega)
                exact hri
              · have e : cs.getD x default = default := by rw [List.getD_eq_getElem?_getD, List.getElem?_eq_none (by omega)]; rfl
                rw [e]
                exact fun j hj => absurd hj (Nat.not_lt_zero _)
            have hlx : (cs.getD x default).zs.length ≤ 1000000000 := by
              by_cases hxk : x < k
              · exact hl x hxk
              · have e : cs.getD x default = default := by rw [List.getD_eq_getElem?_getD, List.getElem?_eq_none (by omega)]; rfl
                rw [e]; exact Nat.zero_le _
            have hp' : ∀ b, fairZ vars (cs.getD x default).zs = b → (b = true → ∀ j ∈ pre ++ [x], fairZ vars (cs.getD j default).zs = true) ∧ (b = false → ∃ j ∈ pre ++ [x], fairZ vars (cs.getD j default).zs = false) := fun b hb => ⟨fun e j hj => (List.mem_append.1 hj).elim (hp j) (fun h => by simp at h; subst h; rw [hb, e]), fun e => ⟨x, by simp, by rw [hb, e]⟩⟩
            obtain ⟨cl, hcl⟩ : ∃ cl, cs.getD x default = cl := ⟨_, rfl⟩
            rw [hcl] at hri hlx hp'
            simp only [hcl]
            obtain ⟨m, hm⟩ : ∃ m, cl.zs.length = m := ⟨_, rfl⟩
            rw [hm] at hlx
            simp only [hm]
            gi_wp2
            gi_loopw [35] (fun i wz => ∃ j : Nat, j ≤ m ∧ i = .int .i64 j ∧ fairZ vars (cl.zs.take j) = true ∧ Below W.heap.size W wz) (fun i _ => m - (intOf i).toNat)
            case atStart => exact ⟨0, Nat.zero_le _, rfl, by simp [fairZ], Below.refl _ _⟩
            case round =>
              obtain ⟨j, hj, rfl, hfj, hbz⟩ := hrel
              have kc : ∀ {b off : Nat} {v : Value} {W1 W2 : World}, Below W1.heap.size W1 W2 → W1.cell? ⟨b, off, none⟩ = some v → W2.cell? ⟨b, off, none⟩ = some v := fun {b off v W1 W2} h2 h => (h2.cell (p := ⟨b, off, none⟩) (cellLt h)).trans h
              have kf : ∀ {b off : Nat} {v : Value} {W1 W2 : World}, Below W1.heap.size W1 W2 → W1.cell? ⟨b, off, none⟩ = some v → W1.frozen? ⟨b, off, none⟩ = false → W2.frozen? ⟨b, off, none⟩ = false := fun {b off v W1 W2} h2 h hf => (World.frozen?_of_block (a := ⟨b, off, none⟩) (h2.block b (cellLt h))).trans hf
              have z0 := kc hbz q0
              have z1 := kc hbz q1
              have z2 := kc hbz q2
              have z3 := kf hbz q2 q3
              by_cases hlt : j < m
              · have hltI : (j : Int) < (m : Int) := by omega
                obtain ⟨ib, io, hae, hib, hic⟩ := (hri.below hbz) j (by omega)
                have hsq := take_snoc (zs := cl.zs) (k := j) (by omega)
                obtain ⟨y, hy⟩ : ∃ y, cl.zs.getD j 0 = y := ⟨_, rfl⟩
                rw [hy] at hic hsq
                simp only [hae]
                have hlit := fun u => literal_walk vars y (.slice a k c) u (by omega) (by omega)
                by_cases hfy : fair1 vars y = true
                · gi_wp2_with (refine ⟨trivial, ?_⟩; gi_at_call 23; refine (CallsIn.inRound l (callsIn_wide.2 (hlit _))).mono ?_; rintro e w1 ⟨p1, hb1⟩; rw [p1, hfy]; clear p1)
                  go_roundw
                  case rel => exact ⟨j + 1, hlt, by simp, by rw [hsq, fairZ_snoc, hfj, hfy]; rfl, hbz.trans (hb1.mono hbz.size)⟩
                  case measure => simp [intOf]; omega
                · have hfy' : fair1 vars y = false := by simpa using hfy
                  gi_wp2_with (refine ⟨trivial, ?_⟩; gi_at_call 23; refine (CallsIn.inRound l (callsIn_wide.2 (hlit _))).mono ?_; rintro e w1 ⟨p1, hb1⟩; rw [p1, hfy']; clear p1; have y2 := kc hb1 z2; have y3 := kf hb1 z2 z3)
                  have hF : fairZ vars cl.zs = false := by
                    unfold fairZ
                    rw [List.all_eq_false]
                    exact ⟨y, by rw [← hy, List.getD_eq_getElem?_getD, List.getElem?_eq_getElem (by omega)]; exact List.getElem_mem _, by simpa using hfy'⟩
                  have y2 := kc hb1 z2
                  exact ⟨((keepsOf hbz).trans (keepsOf hb1)).trans (KeepsOthers.setCell _ _ _), ⟨rfl, (hp' false hF).2 rfl, World.cell?_setCell_same' _ _ _ (by rw [y2]; rfl)⟩, (hB.trans ((hbz.trans (hb1.mono hbz.size)).mono hB.size)).setCell (p := ⟨w.heap.size + 1, 0, none⟩) (by simp) _⟩
              · obtain rfl : j = m := by omega
                gi_wp2
                have hT : fairZ vars cl.zs = true := by rw [← hfj, List.take_of_length_le (by omega)]
                exact ⟨keepsOf hbz, hbz.mono hB.size, ⟨(hp' true hT).1 rfl, z0, z1, z2, z3⟩, hB.trans (hbz.mono hB.size)⟩
          case done =>
            rintro D ys W hD rfl ⟨⟨hne, _, _, hcr, hfr⟩, hB⟩ hK
            have hfs : fairs vars cs = true := by
              unfold fairs
              rw [List.all_eq_true]
              intro cl hcl
              obtain ⟨j, hj, rfl⟩ := List.getElem_of_mem hcl
              have := hne j (List.mem_range.2 (by omega))
              rwa [List.getD_eq_getElem?_getD, List.getElem?_eq_getElem hj] at this
            gi_wp2
            have hK' := (KeepsOthers.setCell W ⟨w.heap.size + 1, 0, none⟩ (.int .i64 0)).same D _ hK rfl
            refine ⟨by simp, .inl ⟨_, _, rfl, run_takeDeferred hK', ?_⟩⟩
            have hc5 := cell_kept (World.cell?_setCell_same' W ⟨w.heap.size + 1, 0, none⟩ (.int .i64 0) (by rw [hcr]; rfl)) (grownBy_putObj' _ D (.deferred none)) (fun r e => by cases e; exact ⟨_, hK', rfl⟩)
            refine ⟨.int .i64 0, ?_, by rw [hC, if_pos hfs], (hB.setCell (p := ⟨w.heap.size + 1, 0, none⟩) (by simp) _).trans (belowK_b (w := w) (Nat.le_refl _) _ D _ _ (by rw [hsz2] at hD; omega) hK' rfl rfl)⟩
            simp [results, Try.f15, go_sem, hc5]
          case stop =>
            rintro D cc pre W hD hpre ⟨⟨rfl, ⟨j, hj, hfj⟩, hcr⟩, hB⟩ hK
            have hjk : j < k := List.mem_range.1 (hpre.subset hj)
            have hfs := fairs_not (cs := cs) (k := j) (by omega) hfj
            gi_wp2
            refine ⟨by simp, .inl ⟨_, _, rfl, run_takeDeferred hK, ?_⟩⟩
            have hc5 := cell_kept hcr (grownBy_putObj' _ D (.deferred none)) (fun r e => by cases e; exact ⟨_, hK, rfl⟩)
            refine ⟨.int .i64 40, ?_, by rw [hC, hfs]; rfl, hB.trans (belowK_b (w := w) (Nat.le_refl _) W D _ _ (by rw [hsz2] at hD; omega) hK rfl rfl)⟩
            simp [results, Try.f15, go_sem, hc5]
end Go.Proofs.Ytkpppmldbhgcgaa.D

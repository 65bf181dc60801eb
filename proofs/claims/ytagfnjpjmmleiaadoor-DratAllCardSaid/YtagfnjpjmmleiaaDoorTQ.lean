/- Drat: does a formula imply a clause: the checker's answer. -/
import Derived.Test.YtagfnjpjmmleiaaDoorTN
import Derived.Test.YtagfnjpjmmleiaaDoorTI2
import Derived.Test.YtagfnjpjmmleiaaDoorTP
set_option linter.unusedVariables false
set_option linter.unusedSimpArgs false
set_option autoImplicit false
set_option linter.unusedVariables false
set_option linter.unusedSimpArgs false
namespace Go.Proofs.YtagfnjpjmmleiaaDoor
open Go.Shelf Go.RowKit
set_option maxHeartbeats 4000000 in
set_option maxRecDepth 1000000 in
theorem plain_walk (cx : Cx) (own : Nat → Option Tag) (rv : Tag → Value) (S : St) (w : World) (la : Option Addr) (ln lc : Nat) (zl : List Int) (h : Rep cx w own rv S) (hp : RestS cx.V S) (hN : S.n ≤ 1000000000) (hL : ∀ i, i < S.n → (S.lits i).length ≤ 1000000000) (hV : cx.V ≤ 999999990)
    (hln : zl.length = ln) (hl9 : ln ≤ 1000000000) (hli : Ints w la zl) (hlf : Free2 own la zl) (hll : Lits (cx.V + 1) zl) :
    Calls Tryd.prog 27 #[.pointer (some ⟨cx.xb, 0, none⟩), .slice la ln lc] w (FolOut cx.V S zl cx own rv w) := by
  have hf := followsC_walk2 cx own rv S w la none ln lc 0 0 zl [] h hp hN hL hV hln rfl hl9 (by omega) hli (fun j hj => absurd hj (Nat.not_lt_zero _)) hlf (fun ad e _ => by cases e) hll (fun y hy => by cases hy)
  rw [List.append_nil] at hf
  go_enter Tryd.func27, Tryd.ntmps27
  go_wp2_with (go_at_call 37; refine hf.mono ?_)
  rintro e w1 ⟨b, S', own', rv', rfl, h1, h2, h3, h4, hk, h5⟩
  go_wp2
  go_ret
  exact ⟨b, S', own', rv', rfl, h1, h2, h3, h4, hk, h5⟩
/-! ### what a formula that is in order is -/
theorem total_len (cs : List Cl) : ∀ k, k ≤ total cs k ∧ ∀ j, j < k → (cs.getD j default).zs.length ≤ total cs k
  | 0 => ⟨Nat.le_refl _, fun j hj => absurd hj (Nat.not_lt_zero _)⟩
  | k + 1 => by
    obtain ⟨h1, h2⟩ := total_len cs k
    show k + 1 ≤ total cs k + 1 + (cs.getD k default).zs.length ∧ ∀ j, j < k + 1 → (cs.getD j default).zs.length ≤ total cs k + 1 + (cs.getD k default).zs.length
    refine ⟨by omega, fun j hj => ?_⟩
    by_cases e : j = k
    · subst e; omega
    · have := h2 j (by omega); omega
theorem fair_lits {V : Nat} {zs : List Int} (h : fairZ (V : Int) zs = true) : Lits (V + 1) zs := by
  unfold fairZ at h
  rw [List.all_eq_true] at h
  intro x hx
  have := h x hx
  simp only [fair1, Bool.not_eq_true', Bool.or_eq_false_iff, decide_eq_false_iff_not] at this
  omega
theorem check_ok {vars : Int} {cs : List Cl} (h : checkZ vars cs = 0) : ∃ V : Nat, vars = V ∧ V ≤ 200000 ∧ cs.length ≤ 200000 ∧ (∀ j, j < cs.length → (cs.getD j default).zs.length ≤ 200000) ∧ ∀ j, j < cs.length → Lits (V + 1) (cs.getD j default).zs := by
  unfold checkZ at h
  split at h
  · cases h
  · split at h
    · cases h
    · split at h
      · rename_i h1 h2 h3
        obtain ⟨V, rfl⟩ : ∃ V : Nat, vars = V := ⟨vars.toNat, by omega⟩
        obtain ⟨t1, t2⟩ := total_len cs cs.length
        refine ⟨V, rfl, by omega, by omega, fun j hj => by have := t2 j hj; omega, fun j hj => ?_⟩
        unfold fairs at h3
        rw [List.all_eq_true] at h3
        refine fair_lits (h3 _ ?_)
        rw [List.getD_eq_getElem?_getD, List.getElem?_eq_getElem hj]
        exact List.getElem_mem _
      · cases h
theorem made_lits {S : St} {cs : List (List Int)} (hc : cls S = cs.map setZ) (hn : S.n = cs.length) {i : Nat} (hi : i < S.n) : ∃ zs ∈ cs, S.lits i = setZ zs := by
  have hl : (alive S).length = S.n := by
    have := congrArg List.length hc
    simp only [cls, List.length_map] at this
    omega
  have ha : i ∈ alive S := by
    unfold alive at hl ⊢
    have hr : ((List.range S.n).filter fun i => !S.gone i).length = (List.range S.n).length := by rw [hl, List.length_range]
    rw [List.length_filter_eq_length_iff] at hr
    exact List.mem_filter.2 ⟨List.mem_range.2 hi, hr i (List.mem_range.2 hi)⟩
  have hm : S.lits i ∈ cls S := by unfold cls; exact List.mem_map_of_mem ha
  rw [hc] at hm
  obtain ⟨zs, h1, h2⟩ := List.mem_map.1 hm
  exact ⟨zs, h1, h2.symm⟩
theorem made_fol {cs : List (List Int)} {zs : List Int} : Fol (cs.map setZ) zs ↔ Fol cs zs := by
  refine fol_same (fun c hc => ?_) (fun c hc => ⟨setZ c, List.mem_map_of_mem hc, fun x => ((setZ_spec c).2 x).symm⟩) (fun _ => Iff.rfl)
  obtain ⟨c', h1, rfl⟩ := List.mem_map.1 hc
  exact ⟨c', h1, (setZ_spec c').2⟩
end Go.Proofs.YtagfnjpjmmleiaaDoor

/- Proved: for every list of numbers and every n, StreamArrays answers true; and its input reads as it did. No condition. -/
import Derived.Test.YtkfhjobebhdpoaaGreatZ
import Derived.Test.YtkfhjobebhdpoaaGreatF1
import Derived.Test.YtkfhjobebhdpoaaGreatF2
import Derived.Test.YtkfhjobebhdpoaaGreatF3
import Derived.Test.YtkfhjobebhdpoaaGreatF4
import Derived.Test.YtkfhjobebhdpoaaGreatF5
import Derived.Test.YtkfhjobebhdpoaaGreatF6
import Derived.Test.YtkfhjobebhdpoaaGreatF7
import Derived.Test.YtkfhjobebhdpoaaGreatF8
import Derived.Test.YtkfhjobebhdpoaaGreatJR
import Derived.ChangeSlices
set_option linter.unusedVariables false
set_option linter.unusedSimpArgs false
set_option autoImplicit false
set_option linter.unusedVariables false
set_option maxRecDepth 100000
namespace Go.Proofs.YtkfhjobebhdpoaaGreat
open Go.ChangeShapes Go.WideShapes Go.ChangeAt Go.RowKit Go.ChangeMaps
open Go.X in
theorem rhI {W : World} {a : Addr} {c1 : Array Value} {e1 : TypeId} {fz1 : Nat × Nat} {n N : Nat} (hN : 0 < N) {B : Nat → Int} {P0 : Nat → PV} (hP : ∀ k, P0 k = .int .i64 (B k)) (h1 : W.heap[a.block]? = some (.cells c1 e1 fz1)) (o1 : a.off ≤ c1.size) (r1 : ∀ k, k < n → c1[a.off + k]? = some (.int .i64 (B k))) (U : Nat) :
    RH (L1 (some (Go.X.Loc.mk a.block a.off c1.size))) ⟨T.set T.leaf (.pur P0 n e1) 0, N⟩ W U := by
  have get : ∀ {i : Nat} {k : Blk}, (T.set T.leaf (Blk.pur P0 n e1) 0).get i = some k → i = 0 ∧ k = .pur P0 n e1 := by
    intro i k hi
    rcases T.get_set hi with ⟨rfl, rfl⟩ | ⟨_, hi⟩
    · exact ⟨rfl, rfl⟩
    · cases hi
  refine ⟨?_, ?_, ?_, ?_, ?_⟩
  · intro i k p hi hp
    obtain ⟨rfl, rfl⟩ := get hi
    cases hp
    refine ⟨c1, fz1, h1, ⟨rfl, o1⟩, fun k hk => ⟨_, r1 k hk, ?_⟩⟩
    rw [hP]; exact .int _ _
  · intro i j ki kj p q hi hj _ _ _ hwr
    obtain ⟨rfl, rfl⟩ := get hi
    cases hwr
  · intro i h _
    match i, h with
    | 0, h => exact absurd h (by show ¬ N ≤ 0; omega)
    | i + 1, _ => rfl
  · intro i p hp
    match i with
    | 0 => cases hp; exact (Array.getElem?_eq_some_iff.1 h1).1
    | i + 1 => cases hp
  · intro i k hi
    obtain ⟨rfl, rfl⟩ := get hi
    exact hN
theorem rvI {a : Addr} {len cap sz : Nat} (h0 : 0 < len) (hlen : len ≤ cap) (s1 : a.spot = none) (o : a.off + cap ≤ sz) (n : Int) :
    Go.X.RVs (L1 (some (Go.X.Loc.mk a.block a.off sz))) [Go.X.AV.slc 0 0 len len false 1, .int .i64 n] (#[Value.slice (some a) len cap, .int .i64 n] : Array Value).toList := by
  refine .cons _ _ _ _ ?_ (.cons _ _ _ _ (.int _ _) .nil)
  have := Go.X.RV.slc (L := L1 (some (Go.X.Loc.mk a.block a.off sz))) 0 0 len len false 1 (Go.X.Loc.mk a.block a.off sz) cap rfl hlen (Nat.le_refl _) (fun h => by cases h) (by show a.off + 0 + cap * 1 ≤ sz; omega)
  rw [addr_eta s1]; exact this
theorem out_call {a : Option Addr} {len cap : Nat} {n : Int} (h : n < 1 ∨ 8 < n) {W : World} : Calls Tryz.prog 7 #[.slice a len cap, .int .i64 n] W fun e w' => e = .returned (.bool true) ∧ Go.X.Quiet W w' := by
  have hv : Go.X.RVs (fun _ => none) [Go.X.AV.any, .int .i64 n] (#[Value.slice a len cap, .int .i64 n] : Array Value).toList := .cons _ _ _ _ (.any _) (.cons _ _ _ _ (.int _ _) .nil)
  have G := CL1R_good (d := 1) (by decide) (by decide)
  rcases h with h | h
  · refine (Go.X.xrun_nil G.ok G.spl rfl (lowA_run h) hv W).mono ?_
    rintro e w' ⟨v, v', L', rfl, rfl, r, q⟩
    cases r
    exact ⟨rfl, q⟩
  · refine (Go.X.xrun_nil G.ok G.spl rfl (highA_run h) hv W).mono ?_
    rintro e w' ⟨v, v', L', rfl, rfl, r, q⟩
    cases r
    exact ⟨rfl, q⟩
theorem rhE {U : Nat} {W : World} : Go.X.RH (fun _ => none) ⟨.leaf, 8⟩ W U :=
  ⟨fun i k p hi => (by cases hi), fun i j ki kj p q hi => (by cases hi), fun _ _ _ => rfl, fun i p hp => (by cases hp), fun i k hi => (by cases hi)⟩
theorem none_call {d : Nat} (G : Go.X.Good (CFew d) Tryz.prog) (hk : NoneKey d) (a : Option Addr) (c : Nat) {W : World} : Calls Tryz.prog 7 #[.slice a 0 c, .int .i64 (Int.ofNat d)] W fun e w' => e = .returned (.bool true) ∧ Go.X.Quiet W w' :=
  call_of G rfl (L := fun _ => none) (h := ⟨.leaf, 8⟩) (fun U => rhE) (fun B => by rintro ⟨i, k, r, hi, _⟩; cases hi) (none_run hk) (.cons _ _ _ _ (.emp _ _) (.cons _ _ _ _ (.int _ _) .nil))
theorem some_call {pa : AP} {df ds : List Bool} (A : AllRes pa (dpA pa.d) df ds) (hk : LawKey pa (dpA pa.d)) (G : Go.X.Good (CFew pa.d) Tryz.prog) (hf : FewKey pa.d)
    {a : Addr} {len cap : Nat} {B : Nat → Int} (h0 : 0 < len) (hlen : len ≤ cap) {W : World} (hw : ∀ i, i < cap → W.cell? (a.add i) = some (.int .i64 (B i))) :
    Calls Tryz.prog 7 #[.slice (some a) len cap, .int .i64 (Int.ofNat pa.d)] W fun e w' => e = .returned (.bool true) ∧ Go.X.Quiet W w' := by
  obtain ⟨s1, b1, c1, e1, fz1, w1, z1, q1⟩ := slice_cells (f := fun i => .int .i64 (B i)) (by omega) hw
  have hv := rvI (sz := c1.size) h0 hlen s1 (by omega) (Int.ofNat pa.d)
  have rh : ∀ U, Go.X.RH (L1 (some (Go.X.Loc.mk a.block a.off c1.size))) (hLawR e1 B len) W U := rhI (N := 8) (by decide) (P0 := pvI B) (fun _ => rfl) w1 (by omega) (fun k hk => q1 k (by omega))
  have hd1 := A.loop.hd1
  have hd8 := A.loop.hd8
  by_cases hn : len ≤ 80
  · by_cases hfew : len < pa.d
    · exact call_of G rfl rh roB (few_run hf e1 hfew hn) hv
    · have hq := Nat.div_add_mod len pa.d
      have hm := Nat.mod_lt len (show 0 < pa.d by omega)
      have hp : 1 ≤ len / pa.d := (Nat.le_div_iff_mul_le (by omega)).2 (by omega)
      have hc : len / pa.d * pa.d = pa.d * (len / pa.d) := Nat.mul_comm _ _
      exact call_of (CL3R_good A e1 (n := len / pa.d) hp (by omega) (by omega) hn) rfl rh roB (lawR_run hk e1 hn) hv
  · exact call_of (CL1R_good (d := 1) (by decide) (by decide)) rfl rh roB (longA_run e1 (n := Int.ofNat pa.d) (by show (1 : Int) ≤ (pa.d : Int); omega) (by show (pa.d : Int) ≤ 8; omega) (by omega)) hv
theorem lawA_none (a : Option Addr) (c : Nat) (n : Int) {W : World} : Calls Tryz.prog 7 #[.slice a 0 c, .int .i64 n] W fun e w' => e = .returned (.bool true) ∧ Go.X.Quiet W w' := by
  by_cases h : n < 1 ∨ 8 < n
  · exact out_call h
  · have : n = 1 ∨ n = 2 ∨ n = 3 ∨ n = 4 ∨ n = 5 ∨ n = 6 ∨ n = 7 ∨ n = 8 := by omega
    rcases this with rfl | rfl | rfl | rfl | rfl | rfl | rfl | rfl
    · exact none_call (d := 1) cfewA1 noneA1 a c
    · exact none_call (d := 2) cfewA2 noneA2 a c
    · exact none_call (d := 3) cfewA3 noneA3 a c
    · exact none_call (d := 4) cfewA4 noneA4 a c
    · exact none_call (d := 5) cfewA5 noneA5 a c
    · exact none_call (d := 6) cfewA6 noneA6 a c
    · exact none_call (d := 7) cfewA7 noneA7 a c
    · exact none_call (d := 8) cfewA8 noneA8 a c
theorem lawA_some {a : Addr} {len cap : Nat} {B : Nat → Int} (n : Int) (h0 : 0 < len) (hlen : len ≤ cap) {W : World} (hw : ∀ i, i < cap → W.cell? (a.add i) = some (.int .i64 (B i))) :
    Calls Tryz.prog 7 #[.slice (some a) len cap, .int .i64 n] W fun e w' => e = .returned (.bool true) ∧ Go.X.Quiet W w' := by
  by_cases h : n < 1 ∨ 8 < n
  · exact out_call h
  · have : n = 1 ∨ n = 2 ∨ n = 3 ∨ n = 4 ∨ n = 5 ∨ n = 6 ∨ n = 7 ∨ n = 8 := by omega
    rcases this with rfl | rfl | rfl | rfl | rfl | rfl | rfl | rfl
    · exact some_call allA1 lawA1 cfewA1 fewA1 h0 hlen hw
    · exact some_call allA2 lawA2 cfewA2 fewA2 h0 hlen hw
    · exact some_call allA3 lawA3 cfewA3 fewA3 h0 hlen hw
    · exact some_call allA4 lawA4 cfewA4 fewA4 h0 hlen hw
    · exact some_call allA5 lawA5 cfewA5 fewA5 h0 hlen hw
    · exact some_call allA6 lawA6 cfewA6 fewA6 h0 hlen hw
    · exact some_call allA7 lawA7 cfewA7 fewA7 h0 hlen hw
    · exact some_call allA8 lawA8 cfewA8 fewA8 h0 hlen hw
set_option maxRecDepth 100000 in
theorem liftedR (os : Os) (started : os.Started) (H : Type) (enc : TypeId × Value → H) :
    ReturnsInHanded {} Tryz.checked os 7 .any (Rows.streamArraysSpec.pre6 enc Tryz.prog Tryz.f7 Rows.streamArraysRow.domain false) (Rows.streamArraysSpec.post enc Tryz.prog Tryz.f7 false true false false) := by
  refine returnsInHanded_of_change (C := Tryz.checked) own started (by kernel_rfl) Tryz.func7
    (ChangeSpec.witness6 (enc := enc) (C := Tryz.checked) false ⟨#[], #[.slice none 0 0, .int .i64 0], []⟩ 8 (by kernel_rfl) (by kernel_rfl) (by kernel_rfl) (by kernel_rfl)) ?_
  intro W base args ds gs before hval0 hW hcnd _
  have hval : ∀ (j : Nat) t v, Tryz.f7.params[j]? = some t → args[j]? = some v → Value.okWide Tryz.prog W .any base t v := hval0
  have hW' := hW
  obtain ⟨p, q, hA0, hV, rfl, hfz, hnd⟩ := hW
  have hA : DataW.TrodAll enc Tryz.prog W 0 (fun _ => true) true Tryz.f7.params.toList args.toList ds p := hA0
  rw [Tryz.params7] at hA hval
  obtain ⟨v0, vs0, d0, ds0, p0, q0, hargs, rfl, rfl, h0, r0⟩ := trodAll_cons hA
  obtain ⟨v1, vs1, d1, ds1, p1, q1, rfl, rfl, rfl, h1, r1⟩ := trodAll_cons r0
  obtain ⟨rfl, rfl, rfl⟩ := trodAll_nil r1
  obtain rfl : args = #[v0, v1] := by cases args; simp_all
  obtain ⟨rfl, rfl⟩ := trodVars_none hV
  obtain ⟨a0, len, cap, rfl⟩ := Go.WideShapes.okWide_slice Tryz.underlying22 (hval 0 22 v0 rfl rfl)
  obtain ⟨n, rfl, rfl, rfl, w1⟩ := open_int Tryz.underlying3 (hval 1 3 v1 rfl rfl) h1
  have h0k := h0
  obtain ⟨fu0, hf0⟩ := h0
  have hcall : Calls Tryz.prog 7 #[.slice a0 len cap, .int .i64 n] W fun e w' => e = .returned (.bool true) ∧ Go.X.Quiet W w' := by
    rcases open_ints Tryz.underlying22 Tryz.underlying3 (by kernel_rfl) hf0 with ⟨hcs, _⟩ | ⟨a, l1, c1, zs, hcs, _, hl1, _, hz, _, hcell, _⟩
    · have e : Value.slice a0 len cap = .slice none 0 0 := by simpa [Value.cells] using hcs
      rw [e]; exact lawA_none _ _ _
    · have e : Value.slice a0 len cap = .slice (some a) l1 c1 := by simpa [Value.cells] using hcs
      rw [e]
      rcases Nat.eq_zero_or_pos l1 with hz0 | hz0
      · subst hz0; exact lawA_none _ _ _
      · rw [if_pos rfl] at hz; exact lawA_some (B := fun i => zs.getD i 0) n hz0 hl1 (fun i hi => hcell i (by omega))
  clear hA0 hval0
  simp only [List.append_nil] at hW'
  refine hcall.mono fun e W' ⟨he, hg⟩ => ?_
  subst he
  have hb : Below W.heap.size W W' := ⟨hg.os, hg.tape, hg.output, hg.size, fun k hk => hg.keep k hk⟩
  have hlt : ∀ p ∈ p0, p.block < W.heap.size := fun p hp => hW'.lt p hp
  refine ⟨_, rfl, post_quiet (pa := p0 ++ []) (pv := []) hW' (fun _ _ _ => (trodAll_cons_mk (shut_bool Tryz.underlying4 _) trodAll_mk0)) (fun sp hsp => ?_) (fun _ _ => rfl) (by simp)
    hg (ok_one (by kernel_rfl) rfl (okWide_bool_mk Tryz.underlying4 _))⟩
  have t0 := Go.WideElems.Trod_stays (sp' := sp) laidOut (by kernel_rfl) (of_decide_eq_true (by kernel_rfl)) h0k (fun x hx => hb.same (hlt x hx)) (fun x hx => hsp x hx)
  exact trodAll_cons_mk t0 (trodAll_cons_mk (shut_int Tryz.underlying3 w1) trodAll_mk0)
theorem overR : Rows.streamArraysRow.holds Tryz.pinned (OpenSpec.ofChange Rows.streamArraysSpec) :=
  OpenClaim.holds_of_wide 7 Tryz.f7 rfl rfl rfl rfl rfl rfl rfl ⟨rfl, rfl, rfl, rfl, rfl⟩ rfl rfl rfl rfl rfl (by kernel_rfl) Tryz.func7 rjfR
    (of_decide_eq_true (by kernel_rfl)) (by unfold Func.isWrapper; first | (rw [if_pos (by decide +kernel)]; kernel_rfl) | (rw [if_neg (by decide +kernel)]; exact ⟨rfl, rfl⟩))
    (fun os started H enc _ => liftedR os started H enc)
/-- the statement -/
theorem streamArrays_holds : Rows.StreamArraysSaid := overR
#print axioms streamArrays_holds
end Go.Proofs.YtkfhjobebhdpoaaGreat

/- Sat, plain: Solve answers, right, and is not given up. -/
import Derived.Test.YtkpppmldbhgcgaaPlW
import Derived.Test.YtkpppmldbhgcgaaPlTtoPlU
import Derived.Test.YtkpppmldbhgcgaaDpPHtoDpUA
import Derived.Test.YtkpppmldbhgcgaaScVtoPlV
set_option linter.unusedVariables false
set_option linter.unusedSimpArgs false
set_option autoImplicit false
set_option linter.unusedVariables false
set_option linter.unusedSimpArgs false
namespace Go.Proofs.Ytkpppmldbhgcgaa
open Go
theorem fair_rng {V : Nat} {c : List Int} (h : D.fairZ (V : Int) c = true) : ∀ x ∈ c, 1 ≤ x.natAbs ∧ x.natAbs < V + 1 := fun x hx => by
  have := List.all_eq_true.1 h x hx
  unfold D.fair1 at this
  simp only [Bool.not_eq_true', Bool.or_eq_false_iff, decide_eq_false_iff_not] at this
  omega
theorem fair_nonz {V : Int} {c : List Int} (h : D.fairZ V c = true) : D.NonZ c := fun x hx => by
  have := List.all_eq_true.1 h x hx
  unfold D.fair1 at this
  simp only [Bool.not_eq_true', Bool.or_eq_false_iff, decide_eq_false_iff_not] at this
  omega
/-- each line holds in each model -/
theorem lns_sound {V : Int} {t : Int → Prop} (hm : D.Mod t) : ∀ (ls : List (Bool × List Int)) {N : List (List Int)}, Lns V N ls → (∀ c ∈ N, D.HoldsC t c) → (∀ c ∈ N, D.NonZ c) → (∀ c ∈ N ++ ls.map Prod.snd, D.HoldsC t c) ∧ ∀ c ∈ N ++ ls.map Prod.snd, D.NonZ c
  | [], N, _, h1, h2 => by
    rw [List.map_nil, List.append_nil]
    exact ⟨h1, h2⟩
  | p :: r, N, ⟨a1, a2, a3, a4, a5⟩, h1, h2 => by
    have hz := fair_nonz a2
    have hh := D.fol_sound hm h1 h2 hz a3
    have := lns_sound hm r a5 (fun c hc => by
      rcases List.mem_append.1 hc with e | e
      · exact h1 c e
      · rw [List.mem_singleton.1 e]; exact hh) (fun c hc => by
      rcases List.mem_append.1 hc with e | e
      · exact h2 c e
      · rw [List.mem_singleton.1 e]; exact hz)
    rw [List.append_assoc] at this
    exact this
theorem solveK_gen {V b : Nat} {budget : Int} {cs : List (List Int)} {J : Nat → Sz → Int → Int → Prop} (hV : V + 1 ≤ 100000) (hbud : (b : Int) ≤ budget) (hb : b ≤ 2000) (hpr : b * (V + 1 + 1) + (V + 1) + 2 ≤ 200000) (hJ : Keep (V + 1) b J)
    (hJ0 : ∀ q, makeK V cs = some q → q.2.st = [] → J 0 q.2 100 100) (hlen : cs.length + b < 1000000) (hcs : ∀ c ∈ cs, D.fairZ (V : Int) c = true) {f : Nat} (hf : fuelK V b ≤ f) :
    ∃ ans, solveK f V cs budget = some ans ∧ RightZ (V : Int) cs ans ∧ (ans.what = 1 ∨ ans.what = 2 ∧ ∀ t : Int → Prop, D.Mod t → ¬ ∀ c ∈ cs, D.HoldsC t c) ∧ ans.model.length ≤ V + 1 ∧ ans.proof.length ≤ 200001 ∧ ∀ p ∈ ans.proof, p.2.length ≤ 200000 := by
  have hcs' : ∀ c ∈ cs, ∀ x ∈ c, 1 ≤ x.natAbs ∧ x.natAbs < V + 1 := fun c hc => fair_rng (hcs c hc)
  obtain ⟨S0, m1, m2⟩ := mk_start hV cs
  obtain ⟨q, k1, k2⟩ := makeC_ok (by omega) hcs' cs (ds := []) rfl m2
  have hmk : makeK V cs = some q := by unfold makeK; rw [m1]; exact k1
  unfold solveK
  rw [hmk, Option.bind_some]
  have hmax : max 0 budget = budget := by omega
  have hrun : ∃ r, (if q.1 then seekF f q.2 (max 0 budget) 0 100 100 else some (2, q.2)) = some r ∧ OutT (V : Int) cs (b * (V + 1 + 1)) r := by
    cases hq : q.1 with
    | true =>
      rw [if_pos rfl, hmax]
      have hS : Sk (V + 1) (V : Int) cs 0 q.2 0 := by
        refine ⟨k2.at_, ?_, fun k hk => ?_, fun k hk => ?_, ⟨k2.seen, by rw [k2.prf]; exact trivial, by rw [k2.nl, k2.prf]; rfl, by rw [k2.prf]; exact Nat.zero_le _, k2.all, k2.allK, k2.rea, k2.len, by rw [k2.learned]; exact ⟨Int.le_refl _, Int.le_refl _⟩, k2.rep hq⟩⟩
        · rw [k2.prf, List.map_nil, List.append_nil]
          have e : ((V + 1 : Nat) : Int) * ((0 : Nat) : Int) + 1 = 1 := by simp
          rw [e]
          exact k2.mid
        · rw [k2.st] at hk; simp at hk
        · rw [k2.st] at hk; simp at hk
      refine seek_gen (n := V + 1) (by omega) hb hbud hpr hJ hlen hcs' f hS (hJ0 q hmk k2.st) (by rw [k2.prf]; exact Nat.zero_le _) rfl (Nat.zero_le _) (by omega) (by omega) (by omega) ?_
      rw [if_neg (by omega)]
      unfold fuelK at hf
      rw [Nat.sub_zero]
      omega
    | false =>
      exact ⟨_, rfl, .inr ⟨rfl, by rw [k2.prf]; exact trivial, by rw [k2.prf, List.map_nil, List.append_nil]; exact k2.fol hq, by rw [k2.nl, k2.prf]; rfl, by rw [k2.prf]; exact Nat.zero_le _⟩⟩
  obtain ⟨r, r1, r2⟩ := hrun
  rw [r1, Option.bind_some]
  rcases r2 with ⟨e, hs⟩ | ⟨e, hl, hfol, hnl, hsz⟩
  · rw [if_neg (by omega), if_pos e]
    refine ⟨_, rfl, .inl ⟨rfl, rfl, by simp, ?_⟩, .inl rfl, by simp, Nat.zero_le _, fun p hp => by cases hp⟩
    rw [List.all_eq_true]
    intro c hc
    obtain ⟨x, hx, hv⟩ := hs c hc
    have := hcs' c hc x hx
    exact List.any_eq_true.2 ⟨x, hx, sat_of this.1 this.2 hv⟩
  · rw [if_neg (by omega), if_neg (by omega)]
    have hpl := sizeP_len r.2.prf
    unfold logO
    rw [if_pos ⟨by omega, by omega, rfl, by unfold roomy; exact decide_eq_true (by omega)⟩]
    have hnf : ¬ 200000 < r.2.nl + ((([] : List Int).length : Int) + 1) := by
      have : r.2.nl + ((([] : List Int).length : Int) + 1) = r.2.nl + 1 := rfl
      omega
    rw [if_neg hnf]
    refine ⟨_, rfl, .inr (.inl ⟨rfl, rfl, ?_⟩), .inr ⟨rfl, fun t hm hall => ?_⟩, Nat.zero_le _, ?_, fun p hp => ?_⟩
    · show (D.answerZ (V : Int) cs 0 (r.2.prf ++ [(false, [])])).2 = 0
      rw [answer_rup (hl.rup _ 0 hfol (by omega))]
    · obtain ⟨a1, a2⟩ := lns_sound hm r.2.prf hl hall fun c hc => fair_nonz (hcs c hc)
      exact D.not_holds_nil t (D.fol_sound hm a1 a2 (fun y hy => by cases hy) hfol)
    · show (r.2.prf ++ [(false, [])]).length ≤ _
      rw [List.length_append, List.length_singleton]
      omega
    · rcases List.mem_append.1 hp with hp | hp
      · have := sizeP_mem hp
        omega
      · rw [List.mem_singleton.1 hp]
        exact Nat.zero_le _
/-! ### of clauses of two literals at most -/
theorem letO_cls {S : Sz} {l : Int} {rn : Option Nat} {q : Bool × Sz} (h : letO S l rn = some q) : q.2.cls = S.cls := by
  unfold letO at h
  obtain ⟨v, _, h⟩ := Option.bind_eq_some_iff.1 h
  split at h
  · cases h; rfl
  · split at h
    · cases h; rfl
    · split at h
      · cases h; rfl
      · cases h
theorem addO_cls {S S' : Sz} {l : Int} {c : Nat} (h : addO S l c = some S') : S'.cls = S.cls := by
  unfold addO at h
  obtain ⟨_, _, h⟩ := Option.bind_eq_some_iff.1 h
  obtain ⟨_, _, h⟩ := Option.bind_eq_some_iff.1 h
  split at h
  · cases h; rfl
  · cases h
theorem putO_cls {S S' : Sz} {c : Nat} (h : putO S c = some S') : S'.cls = S.cls := by
  unfold putO at h
  obtain ⟨_, _, h⟩ := Option.bind_eq_some_iff.1 h
  obtain ⟨_, _, h⟩ := Option.bind_eq_some_iff.1 h
  obtain ⟨_, _, h⟩ := Option.bind_eq_some_iff.1 h
  split at h
  · obtain ⟨S1, h1, h2⟩ := Option.bind_eq_some_iff.1 h
    have e1 : S1.cls = S.cls := addO_cls (S := { S with all := S.all ++ [c] }) h1
    exact (addO_cls h2).trans e1
  · cases h
theorem makeC_two : ∀ (r : List (List Int)) {ok : Bool} {S : Sz} {q : Bool × Sz}, (∀ c ∈ r, c.length ≤ 2) → twoC S → makeC r ok S = some q → twoC q.2
  | [], ok, S, q, _, h, e => by cases e; exact h
  | c :: r, ok, S, q, hr, h, e => by
    have hr' : ∀ c ∈ r, c.length ≤ 2 := fun d hd => hr d (List.mem_cons_of_mem _ hd)
    have hlc := hr c (List.mem_cons_self ..)
    have hle : (normK c).length ≤ c.length := Nat.le_trans (Lib.compact_length_le _) (Nat.le_of_eq (sortI_perm c).length_eq)
    have keep : ∀ {S' : Sz}, S'.cls = S.cls → twoC S' := fun {S'} e c z hz => h c z (by rw [← e]; exact hz)
    unfold makeC at e
    split at e
    · exact makeC_two r hr' h e
    · split at e
      · exact makeC_two r hr' h e
      · split at e
        · split at e
          · obtain ⟨a, _, e⟩ := Option.bind_eq_some_iff.1 e
            obtain ⟨t, ht, e⟩ := Option.bind_eq_some_iff.1 e
            exact makeC_two r hr' (keep (letO_cls ht)) e
          · exact makeC_two r hr' h e
        · split at e
          · obtain ⟨S1, h1, e⟩ := Option.bind_eq_some_iff.1 e
            refine makeC_two r hr' (fun i z hz => ?_) e
            have hcl : S1.cls = S.cls ++ [⟨normK c, false, false, 0⟩] := putO_cls h1
            rw [hcl, snoc_get] at hz
            split at hz
            · cases hz
              show (normK c).length = 2
              omega
            · exact h i z hz
          · cases e
theorem madeV_cls : ∀ (k : Nat) {S0 S : Sz}, madeV k S0 = some S → S.cls = S0.cls
  | 0, S0, S, h => by cases h; rfl
  | k + 1, S0, S, h => by
    unfold madeV at h
    obtain ⟨S1, h1, h2⟩ := Option.bind_eq_some_iff.1 h
    rw [← madeV_cls k h1]
    unfold hpushO at h2
    split at h2
    · cases h2
      exact (sameO_get (up_same (pushZ { S1 with pl := S1.pl.set (k + 1) (-1) } (k + 1)) S1.ov.length)).1
    · cases h2
theorem makeK_two {V : Nat} {cs : List (List Int)} {q : Bool × Sz} (hr : ∀ c ∈ cs, c.length ≤ 2) (h : makeK V cs = some q) : twoC q.2 := by
  unfold makeK at h
  obtain ⟨S, h1, h2⟩ := Option.bind_eq_some_iff.1 h
  refine makeC_two cs hr (fun c z hz => ?_) h2
  rw [madeV_cls V h1] at hz
  cases hz
/-- Solve of clauses of at most two literals -/
theorem solve_pairs {V : Nat} {cs : List (List Int)} (hV : V ≤ 60) (hlen : cs.length ≤ 1000) (hr : ∀ c ∈ cs, c.length ≤ 2) (hcs : ∀ c ∈ cs, D.fairZ (V : Int) c = true) :
    ∃ f ans, solveK f V cs 1000000 = some ans ∧ RightZ (V : Int) cs ans ∧ ans.what ≠ 3 ∧ ans.model.length ≤ 1000000 ∧ ans.proof.length ≤ 1000000 ∧ ∀ p ∈ ans.proof, p.2.length ≤ 1000000 := by
  have hm : (V + 1) * (V + 1 + 1) ≤ 61 * 62 := Nat.mul_le_mul (by omega) (by omega)
  obtain ⟨ans, h1, h2, h3, h4, h5, h6⟩ := solveK_gen (V := V) (b := V + 1) (budget := 1000000) (cs := cs) (J := JP) (by omega) (by omega) (by omega) (by omega) (keepP (V + 1)) (fun q hq hst => ⟨makeK_two hr hq, Nat.zero_le _⟩) (by omega) hcs (Nat.le_refl _)
  exact ⟨_, ans, h1, h2, by rcases h3 with h3 | ⟨h3, _⟩ <;> omega, by omega, by omega, fun p hp => by have := h6 p hp; omega⟩
/-- Solve of a formula of few variables -/
theorem solve_small {V : Nat} {cs : List (List Int)} (hV : V ≤ 10) (hlen : cs.length ≤ 1000) (hcs : ∀ c ∈ cs, D.fairZ (V : Int) c = true) :
    ∃ f ans, solveK f V cs 1000000 = some ans ∧ RightZ (V : Int) cs ans ∧ (ans.what = 1 ∨ ans.what = 2 ∧ ∀ t : Int → Prop, D.Mod t → ¬ ∀ c ∈ cs, D.HoldsC t c) ∧ ans.model.length ≤ 1000000 ∧ ans.proof.length ≤ 1000000 ∧ ∀ p ∈ ans.proof, p.2.length ≤ 1000000 := by
  obtain ⟨ans, h1, h2, h3, h4, h5, h6⟩ := solveK_gen (V := V) (b := 2000) (budget := 1000000) (cs := cs) (J := JS) (by omega) (by omega) (by omega) (by omega) (keepS (V + 1) (by omega)) (fun q hq hst => ⟨0, 0, 0, rfl, rfl, by omega, Nat.zero_le _, by rw [hst]; decide, .inl ⟨rfl, Nat.le_refl _⟩⟩) (by omega) hcs (Nat.le_refl _)
  exact ⟨_, ans, h1, h2, h3, by omega, by omega, fun p hp => by have := h6 p hp; omega⟩
end Go.Proofs.Ytkpppmldbhgcgaa
/- Sat: the law of few variables (SatSmall), walked. -/
set_option autoImplicit false
set_option linter.unusedVariables false
set_option linter.unusedSimpArgs false
namespace Go.Proofs.Ytkpppmldbhgcgaa
open Go Go.Shelf Go.RowKit
theorem sat_tail {ms : List Bool} {x : Int} (hx : x ≠ 0) (h : D.sat ms x = true) (hl : 0 < ms.length) : D.sat (false :: ms.drop 1) x = true := by
  obtain ⟨k, hk⟩ : ∃ k, x.natAbs = k + 1 := ⟨x.natAbs - 1, by omega⟩
  unfold D.sat at h ⊢
  rw [hk] at h ⊢
  cases ms with
  | nil => simp at hl
  | cons b r => exact h
theorem sat_mod (ms : List Bool) : D.Mod fun x => D.sat ms x = true := fun x hx => by
  show D.sat ms (-x) = true ↔ ¬ D.sat ms x = true
  unfold D.sat
  rw [Int.natAbs_neg]
  obtain ⟨u, hu⟩ : ∃ u, ms.getD x.natAbs false = u := ⟨_, rfl⟩
  rw [hu]
  rcases Int.lt_or_gt_of_ne hx with h | h
  · rw [decide_eq_true (show 0 < -x by omega), decide_eq_false (show ¬ -x < 0 by omega), decide_eq_false (show ¬ 0 < x by omega), decide_eq_true h]
    cases u <;> decide
  · rw [decide_eq_false (show ¬ 0 < -x by omega), decide_eq_true (show -x < 0 by omega), decide_eq_true h, decide_eq_false (show ¬ x < 0 by omega)]
    cases u <;> decide
/-- what Model tells is what Solve tells -/
theorem want_of {V : Nat} {cs : List D.Cl} {ans : Ans} {b : Bool} (hfair : ∀ c ∈ cs.map D.Cl.zs, D.fairZ (V : Int) c = true) (hR : RightZ (V : Int) (cs.map D.Cl.zs) ans) (h : ans.what = 1 ∨ ans.what = 2 ∧ ∀ t : Int → Prop, D.Mod t → ¬ ∀ c ∈ cs.map D.Cl.zs, D.HoldsC t c) (hM : ModelIs V cs b) :
    (ans.what = 1 ∧ b = true) ∨ (ans.what = 2 ∧ b = false) := by
  rcases h with h | ⟨h, hno⟩
  · refine .inl ⟨h, ?_⟩
    rcases hR with ⟨_, _, hl, hs⟩ | ⟨e, _⟩ | ⟨e, _⟩
    · cases b with
      | true => rfl
      | false =>
        have := hM.2 rfl (ans.model.drop 1) (by rw [List.length_drop]; omega)
        have hy : D.sats (false :: ans.model.drop 1) cs = true := by
          unfold D.sats
          rw [List.all_eq_true] at hs ⊢
          intro c hc
          have hcm : c.zs ∈ cs.map D.Cl.zs := List.mem_map_of_mem hc
          obtain ⟨x, hx, hxs⟩ := List.any_eq_true.1 (hs _ hcm)
          exact List.any_eq_true.2 ⟨x, hx, sat_tail (by have := fair_rng (hfair _ hcm) x hx; omega) hxs (by omega)⟩
        rw [this] at hy
        cases hy
    · omega
    · omega
  · refine .inr ⟨h, ?_⟩
    cases b with
    | false => rfl
    | true =>
      obtain ⟨ms, _, hs⟩ := hM.1 rfl
      refine (hno _ (sat_mod ms) fun c hc => ?_).elim
      obtain ⟨d, hd, rfl⟩ := List.mem_map.1 hc
      unfold D.sats at hs
      rw [List.all_eq_true] at hs
      obtain ⟨x, hx, hxs⟩ := List.any_eq_true.1 (hs d hd)
      exact ⟨x, hx, hxs⟩
theorem check_fair {V : Nat} {cs : List D.Cl} (hck : D.checkZ (V : Int) cs = 0) : ∀ c ∈ cs.map D.Cl.zs, D.fairZ (V : Int) c = true := by
  rw [checkZ_eq] at hck
  unfold checkL at hck
  split at hck
  · cases hck
  · split at hck
    · cases hck
    · split at hck
      · rename_i h
        exact List.all_eq_true.1 h
      · cases hck
set_option maxHeartbeats 16000000 in
set_option maxRecDepth 1000000 in
theorem small_walk (a : Option Addr) (n c : Nat) (cs : List D.Cl) (vars : Int) (w : World) (hn : cs.length = n) (hlen : n ≤ 4611686018427387904) (hl : ∀ j, j < n → (cs.getD j default).zs.length ≤ 4611686018427387904) (hz : D.Rows' w a cs) :
    Calls Try.prog 4 #[.agg #[.int .i64 vars, .slice a n c]] w (AlOut w) := by
  have hb0 := (Below.refl w.heap.size w).alloc (Nat.le_refl _) (.cells #[Value.int .i64 vars, .slice a n c] 24)
  have k0 : (w.alloc (.cells #[Value.int .i64 vars, .slice a n c] 24)).cell? ⟨w.heap.size, 0, none⟩ = some (.int .i64 vars) := (cell_new ..).trans rfl
  have k1 : (w.alloc (.cells #[Value.int .i64 vars, .slice a n c] 24)).cell? ⟨w.heap.size, 1, none⟩ = some (.slice a n c) := (cell_new ..).trans rfl
  have hal0 := alive_walk (w.alloc (.cells #[Value.int .i64 vars, .slice a n c] 24))
  go_enter Try.func4, Try.ntmps4
  go_wp2_with (go_at_call 8; refine hal0.mono ?_; rintro e w1 ⟨p1, hb1⟩; rw [p1]; clear p1; have c0 := cell_b hb1 k0; have c1 := cell_b hb1 k1)
  have hbw1 := hb0.trans (hb1.mono hb0.size)
  clear k0 k1 hal0
  have hbg := D.big_walk a n c cs vars w1 hn hlen hl (hz.below hbw1)
  obtain ⟨B, hB⟩ : ∃ B, D.bigZ vars cs = B := ⟨_, rfl⟩
  rw [hB] at hbg
  have hbg2 := hbg.mono (R' := fun e w2 => e = .returned (.bool B) ∧ Below w.heap.size w w2 ∧ w2.cell? ⟨w.heap.size, 0, none⟩ = some (.int .i64 vars) ∧ w2.cell? ⟨w.heap.size, 1, none⟩ = some (.slice a n c) ∧ D.Rows' w2 a cs) (by
    rintro e w2 ⟨p1, hb2⟩
    have h2 := hbw1.trans (hb2.mono hbw1.size)
    exact ⟨p1, h2, cell_b hb2 c0, cell_b hb2 c1, hz.below h2⟩)
  clear hbg c0 c1 hz hl hlen hb0 hbw1 hb1
  cases B with
  | true =>
    go_wp2_with (go_at_call 9; refine hbg2.mono ?_; rintro e w2 ⟨p1, hb2, c0, c1, hz2⟩; rw [p1]; clear p1)
    go_ret
    exact ⟨rfl, hb2⟩
  | false =>
  by_cases h80 : (80 : Int) < n
  · go_wp2_with (go_at_call 9; refine hbg2.mono ?_; rintro e w2 ⟨p1, hb2, c0, c1, hz2⟩; rw [p1]; clear p1)
    go_ret
    exact ⟨rfl, hb2⟩
  by_cases h10 : 10 < vars
  · go_wp2_with (go_at_call 9; refine hbg2.mono ?_; rintro e w2 ⟨p1, hb2, c0, c1, hz2⟩; rw [p1]; clear p1)
    go_ret
    exact ⟨rfl, hb2⟩
  have hB' : ¬ (6000 < D.total cs cs.length) := by
    unfold D.bigZ at hB
    simp only [Bool.or_eq_false_iff, decide_eq_false_iff_not] at hB
    exact hB.1
  have hlj : ∀ j, j < n → (cs.getD j default).zs.length ≤ 6000 := fun j hj => by
    have := (D.total_len cs cs.length).2 j (by omega)
    omega
  have hnum := fun x w => D.num_walk x w
  have hchk := fun (W : World) (hW : D.Rows' W a cs) => D.check_walk a n c cs vars W hn (by omega) (fun j hj => by have := hlj j hj; omega) hW
  obtain ⟨q, hq⟩ : ∃ q, D.checkZ vars cs = q := ⟨_, rfl⟩
  by_cases h0 : q = 0
  · subst h0
    obtain ⟨V, rfl, hV1, _, _, hV4⟩ := D.check_ok hq
    have hfair := check_fair hq
    obtain ⟨f, ans, hsol, ha2, ha1, ha3, ha4, ha5⟩ := solve_small (V := V) (cs := cs.map D.Cl.zs) (by omega) (by rw [List.length_map]; omega) hfair
    have hsw := fun (W : World) (hW : D.Rows' W a cs) => (solve_walk a n c cs V 1000000 W hn (by omega) (fun j hj => by have := hlj j hj; omega) (fun j hj x hx => by have := hV4 j (by omega) x hx; omega) hW hq (by omega) hsol).mono (R' := fun e w' => ∃ (am : Option Addr) (cm : Nat) (pa : Option Addr) (pc : Nat) (lns : List D.Ln), e = .returned (.tuple #[.agg #[.int .i64 ans.what, .slice am ans.model.length cm, .slice pa ans.proof.length pc], .int .i64 0]) ∧ Below W.heap.size W w' ∧ D.Bools w' am ans.model ∧ lns.map D.lnz = ans.proof ∧ D.Lines w' pa lns) (fun e w' h => solve_out h)
    have hri := fun {w5 : World} {am : Option Addr} {cm : Nat} {pa : Option Addr} {pc : Nat} {lns : List D.Ln} (h1 : Below w.heap.size w w5) (h2 : D.Bools w5 am ans.model) (h3 : lns.map D.lnz = ans.proof) (h4 : D.Lines w5 pa lns) (h5 : D.Rows' w5 a cs) => right_of (V := V) (cvp := c) (cm := cm) (pc := pc) hn (by omega) (fun j hj => by have := hlj j hj; omega) hq ha3 ha4 ha5 ha2 h1 h2 h3 h4 h5
    have hmo := fun (W : World) (hW : D.Rows' W a cs) => (model_walk a n c cs V W hn (by omega) (fun j hj => by have := hlj j hj; omega) hW hq (by omega)).mono (R' := fun e w' => ∃ b, e = .returned (.bool b) ∧ Below W.heap.size W w' ∧ ((ans.what = 1 ∧ b = true) ∨ (ans.what = 2 ∧ b = false))) (fun e w' ⟨b, h1, h2, h3⟩ => ⟨b, h1, h2, want_of hfair ha2 ha1 h3⟩)
    rw [hq] at hchk
    have hwh : ans.what = 1 ∨ ans.what = 2 := ha1.imp id fun h => h.1
    clear hlj hB' hB hq hV4 hsol ha2 ha5 ha1 hfair
    obtain ⟨what, hwhat⟩ : ∃ x, ans.what = x := ⟨_, rfl⟩
    obtain ⟨ml, hml⟩ : ∃ x, ans.model.length = x := ⟨_, rfl⟩
    obtain ⟨pl, hpl⟩ : ∃ x, ans.proof.length = x := ⟨_, rfl⟩
    rw [hwhat] at hwh
    rw [hwhat, hml, hpl] at hsw hri
    rw [hwhat] at hmo
    obtain ⟨b, hmo2⟩ : ∃ b : Bool, (what = 1 ∧ b = true ∨ what = 2 ∧ b = false) ∧ ∀ (W : World), D.Rows' W a cs → Calls Try.prog 14 #[.agg #[.int .i64 (V : Int), .slice a n c]] W fun e w' => e = .returned (.bool b) ∧ Below W.heap.size W w' := by
      rcases hwh with e | e
      · refine ⟨true, .inl ⟨e, rfl⟩, fun W hW => (hmo W hW).mono ?_⟩
        rintro e2 w' ⟨b, h1, h2, h3 | h3⟩
        · rw [h3.2] at h1; exact ⟨h1, h2⟩
        · omega
      · refine ⟨false, .inr ⟨e, rfl⟩, fun W hW => (hmo W hW).mono ?_⟩
        rintro e2 w' ⟨b, h1, h2, h3 | h3⟩
        · omega
        · rw [h3.2] at h1; exact ⟨h1, h2⟩
    obtain ⟨hwb, hmod⟩ := hmo2
    clear hmo hwh
    rcases hwb with ⟨rfl, rfl⟩ | ⟨rfl, rfl⟩
    · go_upto_region 5 with (first | (go_at_call 9; refine hbg2.mono ?_; rintro e w2 ⟨p1, hb2, c0, c1, hz2⟩; rw [p1]; clear p1) | (go_at_call 11; refine (hchk _ hz2).mono ?_; rintro e w4 ⟨p1, hb4⟩; rw [p1]; clear p1; replace c0 := cell_b hb4 c0; replace c1 := cell_b hb4 c1; replace hz2 := hz2.below hb4; replace hb2 := hb2.trans (hb4.mono hb2.size)))
      go_wp2_with (first | (go_at_call 10; refine (hsw _ hz2).mono ?_; rintro e w3 ⟨am, cm, pa, pc, lns, p1, hb3, hB3, hlz, hL3⟩; rw [p1]; clear p1; replace c0 := cell_b hb3 c0; replace c1 := cell_b hb3 c1; replace hz2 := hz2.below hb3; replace hb3 := hb2.trans (hb3.mono hb2.size); have s3 := D.cellLt c0; have hbx := (Below.refl w3.heap.size w3).alloc (Nat.le_refl _) (.cells #[.int .i64 1, .slice am ml cm, .slice pa pl pc] 30); have g0 := cell_b hbx c0; have g1 := cell_b hbx c1; replace hz2 := hz2.below hbx; replace hB3 := hB3.below hbx; replace hL3 := hL3.below hbx; replace hbx := hb3.trans (hbx.mono hb3.size)) | (go_at_call 12; refine (hnum _ _).mono ?_; rintro e w6 ⟨p1, p2⟩; rw [p1, p2]; clear p1 p2) | (go_at_call 14; refine (hmod _ hz2).mono ?_; rintro e w5 ⟨p1, hb5⟩; rw [p1]; clear p1; replace g0 := cell_b hb5 g0; replace g1 := cell_b hb5 g1; have x0 := cell_b hb5 ((cell_new ..).trans rfl : (w3.alloc (.cells #[.int .i64 1, .slice am ml cm, .slice pa pl pc] 30)).cell? ⟨w3.heap.size, 0, none⟩ = some (.int .i64 1)); have x1 := cell_b hb5 ((cell_new ..).trans rfl : (w3.alloc (.cells #[.int .i64 1, .slice am ml cm, .slice pa pl pc] 30)).cell? ⟨w3.heap.size, 1, none⟩ = some (.slice am ml cm)); have x2 := cell_b hb5 ((cell_new ..).trans rfl : (w3.alloc (.cells #[.int .i64 1, .slice am ml cm, .slice pa pl pc] 30)).cell? ⟨w3.heap.size, 2, none⟩ = some (.slice pa pl pc)); replace hz2 := hz2.below hb5; replace hB3 := hB3.below hb5; replace hL3 := hL3.below hb5; replace hbx := hbx.trans (hb5.mono hbx.size)) | (go_at_call 13; refine (hri hbx hB3 hlz hL3 hz2).mono ?_; rintro e w7 ⟨p1, p2⟩; rw [p1]; clear p1))
      go_ret
      exact ⟨rfl, p2⟩
    · go_upto_region 5 with (first | (go_at_call 9; refine hbg2.mono ?_; rintro e w2 ⟨p1, hb2, c0, c1, hz2⟩; rw [p1]; clear p1) | (go_at_call 11; refine (hchk _ hz2).mono ?_; rintro e w4 ⟨p1, hb4⟩; rw [p1]; clear p1; replace c0 := cell_b hb4 c0; replace c1 := cell_b hb4 c1; replace hz2 := hz2.below hb4; replace hb2 := hb2.trans (hb4.mono hb2.size)))
      go_wp2_with (first | (go_at_call 10; refine (hsw _ hz2).mono ?_; rintro e w3 ⟨am, cm, pa, pc, lns, p1, hb3, hB3, hlz, hL3⟩; rw [p1]; clear p1; replace c0 := cell_b hb3 c0; replace c1 := cell_b hb3 c1; replace hz2 := hz2.below hb3; replace hb3 := hb2.trans (hb3.mono hb2.size); have s3 := D.cellLt c0; have hbx := (Below.refl w3.heap.size w3).alloc (Nat.le_refl _) (.cells #[.int .i64 2, .slice am ml cm, .slice pa pl pc] 30); have g0 := cell_b hbx c0; have g1 := cell_b hbx c1; replace hz2 := hz2.below hbx; replace hB3 := hB3.below hbx; replace hL3 := hL3.below hbx; replace hbx := hb3.trans (hbx.mono hb3.size)) | (go_at_call 12; refine (hnum _ _).mono ?_; rintro e w6 ⟨p1, p2⟩; rw [p1, p2]; clear p1 p2) | (go_at_call 14; refine (hmod _ hz2).mono ?_; rintro e w5 ⟨p1, hb5⟩; rw [p1]; clear p1; replace g0 := cell_b hb5 g0; replace g1 := cell_b hb5 g1; have x0 := cell_b hb5 ((cell_new ..).trans rfl : (w3.alloc (.cells #[.int .i64 2, .slice am ml cm, .slice pa pl pc] 30)).cell? ⟨w3.heap.size, 0, none⟩ = some (.int .i64 2)); have x1 := cell_b hb5 ((cell_new ..).trans rfl : (w3.alloc (.cells #[.int .i64 2, .slice am ml cm, .slice pa pl pc] 30)).cell? ⟨w3.heap.size, 1, none⟩ = some (.slice am ml cm)); have x2 := cell_b hb5 ((cell_new ..).trans rfl : (w3.alloc (.cells #[.int .i64 2, .slice am ml cm, .slice pa pl pc] 30)).cell? ⟨w3.heap.size, 2, none⟩ = some (.slice pa pl pc)); replace hz2 := hz2.below hb5; replace hB3 := hB3.below hb5; replace hL3 := hL3.below hb5; replace hbx := hbx.trans (hb5.mono hbx.size)) | (go_at_call 13; refine (hri hbx hB3 hlz hL3 hz2).mono ?_; rintro e w7 ⟨p1, p2⟩; rw [p1]; clear p1))
      go_ret
      exact ⟨rfl, p2⟩
  · rw [hq] at hchk
    have hq0 : (q != 0) = true := by simpa using h0
    clear hlj hB' hB hq
    go_wp2_with (first | (go_at_call 9; refine hbg2.mono ?_; rintro e w2 ⟨p1, hb2, c0, c1, hz2⟩; rw [p1]; clear p1) | (go_at_call 11; refine (hchk _ hz2).mono ?_; rintro e w4 ⟨p1, hb4⟩; rw [p1]; clear p1; replace hb2 := hb2.trans (hb4.mono hb2.size)))
    go_ret
    exact ⟨rfl, hb2⟩
end Go.Proofs.Ytkpppmldbhgcgaa

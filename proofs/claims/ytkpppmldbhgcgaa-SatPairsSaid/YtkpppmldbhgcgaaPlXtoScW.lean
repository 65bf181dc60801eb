/- Sat, plain: Solve answers, right, and is not given up. -/
import Derived.Test.YtkpppmldbhgcgaaPlW
import Derived.Test.YtkpppmldbhgcgaaPlTtoPlU
import Derived.Test.YtkpppmldbhgcgaaDpPHtoDpUA
import Derived.Test.YtkpppmldbhgcgaaScQtoPlV
import Derived.Deep.Cut
set_option linter.unusedVariables false
set_option linter.unusedSimpArgs false
set_option autoImplicit false
set_option linter.unusedVariables false
set_option linter.unusedSimpArgs false
namespace Go.Proofs.Ytkpppmldbhgcgaa
open Go
theorem fair_rng {V : Nat} {c : List Int} (h : D.fairZ (V : Int) c = true) : ∀ x ∈ c, 1 ≤ x.natAbs ∧ x.natAbs < V + 1 := fun x hx => by
  have := List.all_eq_true.1 h x hx
  unfold D.fair1 at this
  simp only [Bool.not_eq_true', Bool.or_eq_false_iff, decide_eq_false_iff_not] at this
  omega
theorem fair_nonz {V : Int} {c : List Int} (h : D.fairZ V c = true) : D.NonZ c := fun x hx => by
  have := List.all_eq_true.1 h x hx
  unfold D.fair1 at this
  simp only [Bool.not_eq_true', Bool.or_eq_false_iff, decide_eq_false_iff_not] at this
  omega
/-- each line holds in each model -/
theorem lns_sound {V : Int} {t : Int → Prop} (hm : D.Mod t) : ∀ (ls : List (Bool × List Int)) {N : List (List Int)}, Lns V N ls → (∀ c ∈ N, D.HoldsC t c) → (∀ c ∈ N, D.NonZ c) → (∀ c ∈ N ++ ls.map Prod.snd, D.HoldsC t c) ∧ ∀ c ∈ N ++ ls.map Prod.snd, D.NonZ c
  | [], N, _, h1, h2 => by
    rw [List.map_nil, List.append_nil]
    exact ⟨h1, h2⟩
  | p :: r, N, ⟨a1, a2, a3, a4, a5⟩, h1, h2 => by
    have hz := fair_nonz a2
    have hh := D.fol_sound hm h1 h2 hz a3
    have := lns_sound hm r a5 (fun c hc => by
      rcases List.mem_append.1 hc with e | e
      · exact h1 c e
      · rw [List.mem_singleton.1 e]; exact hh) (fun c hc => by
      rcases List.mem_append.1 hc with e | e
      · exact h2 c e
      · rw [List.mem_singleton.1 e]; exact hz)
    rw [List.append_assoc] at this
    exact this
theorem solveK_gen {V b : Nat} {budget : Int} {cs : List (List Int)} {J : Nat → Sz → Int → Int → Prop} (hV : V + 1 ≤ 100000) (hbud : (b : Int) ≤ budget) (hb : b ≤ 2000) (hpr : b * (V + 1 + 1) + (V + 1) + 2 ≤ 200000) (hJ : Keep (V + 1) b J)
    (hJ0 : ∀ q, makeK V cs = some q → q.2.st = [] → J 0 q.2 100 100) (hlen : cs.length + b < 1000000) (hcs : ∀ c ∈ cs, D.fairZ (V : Int) c = true) {f : Nat} (hf : fuelK V b ≤ f) :
    ∃ ans, solveK f V cs budget = some ans ∧ RightZ (V : Int) cs ans ∧ (ans.what = 1 ∨ ans.what = 2 ∧ ∀ t : Int → Prop, D.Mod t → ¬ ∀ c ∈ cs, D.HoldsC t c) ∧ ans.model.length ≤ V + 1 ∧ ans.proof.length ≤ 200001 ∧ ∀ p ∈ ans.proof, p.2.length ≤ 200000 := by
  have hcs' : ∀ c ∈ cs, ∀ x ∈ c, 1 ≤ x.natAbs ∧ x.natAbs < V + 1 := fun c hc => fair_rng (hcs c hc)
  obtain ⟨S0, m1, m2⟩ := mk_start hV cs
  obtain ⟨q, k1, k2⟩ := makeC_ok (by omega) hcs' cs (ds := []) rfl m2
  have hmk : makeK V cs = some q := by unfold makeK; rw [m1]; exact k1
  unfold solveK
  rw [hmk, Option.bind_some]
  have hmax : max 0 budget = budget := by omega
  have hrun : ∃ r, (if q.1 then seekF f q.2 (max 0 budget) 0 100 100 else some (2, q.2)) = some r ∧ OutT (V : Int) cs (b * (V + 1 + 1)) r := by
    cases hq : q.1 with
    | true =>
      rw [if_pos rfl, hmax]
      have hS : Sk (V + 1) (V : Int) cs 0 q.2 0 := by
        refine ⟨k2.at_, ?_, fun k hk => ?_, fun k hk => ?_, ⟨k2.seen, by rw [k2.prf]; exact trivial, by rw [k2.nl, k2.prf]; rfl, by rw [k2.prf]; exact Nat.zero_le _, k2.all, k2.allK, k2.rea, k2.len, by rw [k2.learned]; exact ⟨Int.le_refl _, Int.le_refl _⟩, k2.rep hq⟩⟩
        · rw [k2.prf, List.map_nil, List.append_nil]
          have e : ((V + 1 : Nat) : Int) * ((0 : Nat) : Int) + 1 = 1 := by simp
          rw [e]
          exact k2.mid
        · rw [k2.st] at hk; simp at hk
        · rw [k2.st] at hk; simp at hk
      refine seek_gen (n := V + 1) (by omega) hb hbud hpr hJ hlen hcs' f hS (hJ0 q hmk k2.st) (by rw [k2.prf]; exact Nat.zero_le _) rfl (Nat.zero_le _) (by omega) (by omega) (by omega) ?_
      rw [if_neg (by omega)]
      unfold fuelK at hf
      rw [Nat.sub_zero]
      omega
    | false =>
      exact ⟨_, rfl, .inr ⟨rfl, by rw [k2.prf]; exact trivial, by rw [k2.prf, List.map_nil, List.append_nil]; exact k2.fol hq, by rw [k2.nl, k2.prf]; rfl, by rw [k2.prf]; exact Nat.zero_le _⟩⟩
  obtain ⟨r, r1, r2⟩ := hrun
  rw [r1, Option.bind_some]
  rcases r2 with ⟨e, hs⟩ | ⟨e, hl, hfol, hnl, hsz⟩
  · rw [if_neg (by omega), if_pos e]
    refine ⟨_, rfl, .inl ⟨rfl, rfl, by simp, ?_⟩, .inl rfl, by simp, Nat.zero_le _, fun p hp => by cases hp⟩
    rw [List.all_eq_true]
    intro c hc
    obtain ⟨x, hx, hv⟩ := hs c hc
    have := hcs' c hc x hx
    exact List.any_eq_true.2 ⟨x, hx, sat_of this.1 this.2 hv⟩
  · rw [if_neg (by omega), if_neg (by omega)]
    have hpl := sizeP_len r.2.prf
    unfold logO
    rw [if_pos ⟨by omega, by omega, rfl, by unfold roomy; exact decide_eq_true (by omega)⟩]
    have hnf : ¬ 200000 < r.2.nl + ((([] : List Int).length : Int) + 1) := by
      have : r.2.nl + ((([] : List Int).length : Int) + 1) = r.2.nl + 1 := rfl
      omega
    rw [if_neg hnf]
    refine ⟨_, rfl, .inr (.inl ⟨rfl, rfl, ?_⟩), .inr ⟨rfl, fun t hm hall => ?_⟩, Nat.zero_le _, ?_, fun p hp => ?_⟩
    · show (D.answerZ (V : Int) cs 0 (r.2.prf ++ [(false, [])])).2 = 0
      rw [answer_rup (hl.rup _ 0 hfol (by omega))]
    · obtain ⟨a1, a2⟩ := lns_sound hm r.2.prf hl hall fun c hc => fair_nonz (hcs c hc)
      exact D.not_holds_nil t (D.fol_sound hm a1 a2 (fun y hy => by cases hy) hfol)
    · show (r.2.prf ++ [(false, [])]).length ≤ _
      rw [List.length_append, List.length_singleton]
      omega
    · rcases List.mem_append.1 hp with hp | hp
      · have := sizeP_mem hp
        omega
      · rw [List.mem_singleton.1 hp]
        exact Nat.zero_le _
/-! ### of clauses of two literals at most -/
theorem letO_cls {S : Sz} {l : Int} {rn : Option Nat} {q : Bool × Sz} (h : letO S l rn = some q) : q.2.cls = S.cls := by
  unfold letO at h
  obtain ⟨v, _, h⟩ := Option.bind_eq_some_iff.1 h
  split at h
  · cases h; rfl
  · split at h
    · cases h; rfl
    · split at h
      · cases h; rfl
      · cases h
theorem addO_cls {S S' : Sz} {l : Int} {c : Nat} (h : addO S l c = some S') : S'.cls = S.cls := by
  unfold addO at h
  obtain ⟨_, _, h⟩ := Option.bind_eq_some_iff.1 h
  obtain ⟨_, _, h⟩ := Option.bind_eq_some_iff.1 h
  split at h
  · cases h; rfl
  · cases h
theorem putO_cls {S S' : Sz} {c : Nat} (h : putO S c = some S') : S'.cls = S.cls := by
  unfold putO at h
  obtain ⟨_, _, h⟩ := Option.bind_eq_some_iff.1 h
  obtain ⟨_, _, h⟩ := Option.bind_eq_some_iff.1 h
  obtain ⟨_, _, h⟩ := Option.bind_eq_some_iff.1 h
  split at h
  · obtain ⟨S1, h1, h2⟩ := Option.bind_eq_some_iff.1 h
    have e1 : S1.cls = S.cls := addO_cls (S := { S with all := S.all ++ [c] }) h1
    exact (addO_cls h2).trans e1
  · cases h
theorem makeC_two : ∀ (r : List (List Int)) {ok : Bool} {S : Sz} {q : Bool × Sz}, (∀ c ∈ r, c.length ≤ 2) → twoC S → makeC r ok S = some q → twoC q.2
  | [], ok, S, q, _, h, e => by cases e; exact h
  | c :: r, ok, S, q, hr, h, e => by
    have hr' : ∀ c ∈ r, c.length ≤ 2 := fun d hd => hr d (List.mem_cons_of_mem _ hd)
    have hlc := hr c (List.mem_cons_self ..)
    have hle : (normK c).length ≤ c.length := Nat.le_trans (Lib.compact_length_le _) (Nat.le_of_eq (sortI_perm c).length_eq)
    have keep : ∀ {S' : Sz}, S'.cls = S.cls → twoC S' := fun {S'} e c z hz => h c z (by rw [← e]; exact hz)
    unfold makeC at e
    split at e
    · exact makeC_two r hr' h e
    · split at e
      · exact makeC_two r hr' h e
      · split at e
        · split at e
          · obtain ⟨a, _, e⟩ := Option.bind_eq_some_iff.1 e
            obtain ⟨t, ht, e⟩ := Option.bind_eq_some_iff.1 e
            exact makeC_two r hr' (keep (letO_cls ht)) e
          · exact makeC_two r hr' h e
        · split at e
          · obtain ⟨S1, h1, e⟩ := Option.bind_eq_some_iff.1 e
            refine makeC_two r hr' (fun i z hz => ?_) e
            have hcl : S1.cls = S.cls ++ [⟨normK c, false, false, 0⟩] := putO_cls h1
            rw [hcl, snoc_get] at hz
            split at hz
            · cases hz
              show (normK c).length = 2
              omega
            · exact h i z hz
          · cases e
theorem madeV_cls : ∀ (k : Nat) {S0 S : Sz}, madeV k S0 = some S → S.cls = S0.cls
  | 0, S0, S, h => by cases h; rfl
  | k + 1, S0, S, h => by
    unfold madeV at h
    obtain ⟨S1, h1, h2⟩ := Option.bind_eq_some_iff.1 h
    rw [← madeV_cls k h1]
    unfold hpushO at h2
    split at h2
    · cases h2
      exact (sameO_get (up_same (pushZ { S1 with pl := S1.pl.set (k + 1) (-1) } (k + 1)) S1.ov.length)).1
    · cases h2
theorem makeK_two {V : Nat} {cs : List (List Int)} {q : Bool × Sz} (hr : ∀ c ∈ cs, c.length ≤ 2) (h : makeK V cs = some q) : twoC q.2 := by
  unfold makeK at h
  obtain ⟨S, h1, h2⟩ := Option.bind_eq_some_iff.1 h
  refine makeC_two cs hr (fun c z hz => ?_) h2
  rw [madeV_cls V h1] at hz
  cases hz
/-- Solve of clauses of at most two literals -/
theorem solve_pairs {V : Nat} {cs : List (List Int)} (hV : V ≤ 60) (hlen : cs.length ≤ 1000) (hr : ∀ c ∈ cs, c.length ≤ 2) (hcs : ∀ c ∈ cs, D.fairZ (V : Int) c = true) :
    ∃ f ans, solveK f V cs 1000000 = some ans ∧ RightZ (V : Int) cs ans ∧ ans.what ≠ 3 ∧ ans.model.length ≤ 1000000 ∧ ans.proof.length ≤ 1000000 ∧ ∀ p ∈ ans.proof, p.2.length ≤ 1000000 := by
  have hm : (V + 1) * (V + 1 + 1) ≤ 61 * 62 := Nat.mul_le_mul (by omega) (by omega)
  obtain ⟨ans, h1, h2, h3, h4, h5, h6⟩ := solveK_gen (V := V) (b := V + 1) (budget := 1000000) (cs := cs) (J := JP) (by omega) (by omega) (by omega) (by omega) (keepP (V + 1)) (fun q hq hst => ⟨makeK_two hr hq, Nat.zero_le _⟩) (by omega) hcs (Nat.le_refl _)
  exact ⟨_, ans, h1, h2, by rcases h3 with h3 | ⟨h3, _⟩ <;> omega, by omega, by omega, fun p hp => by have := h6 p hp; omega⟩
/-- Solve of a formula of few variables -/
theorem solve_small {V : Nat} {cs : List (List Int)} (hV : V ≤ 10) (hlen : cs.length ≤ 1000) (hcs : ∀ c ∈ cs, D.fairZ (V : Int) c = true) :
    ∃ f ans, solveK f V cs 1000000 = some ans ∧ RightZ (V : Int) cs ans ∧ (ans.what = 1 ∨ ans.what = 2 ∧ ∀ t : Int → Prop, D.Mod t → ¬ ∀ c ∈ cs, D.HoldsC t c) ∧ ans.model.length ≤ 1000000 ∧ ans.proof.length ≤ 1000000 ∧ ∀ p ∈ ans.proof, p.2.length ≤ 1000000 := by
  obtain ⟨ans, h1, h2, h3, h4, h5, h6⟩ := solveK_gen (V := V) (b := 2000) (budget := 1000000) (cs := cs) (J := JS) (by omega) (by omega) (by omega) (by omega) (keepS (V + 1) (by omega)) (fun q hq hst => ⟨0, 0, 0, rfl, rfl, by omega, Nat.zero_le _, by rw [hst]; decide, .inl ⟨rfl, Nat.le_refl _⟩⟩) (by omega) hcs (Nat.le_refl _)
  exact ⟨_, ans, h1, h2, h3, by omega, by omega, fun p hp => by have := h6 p hp; omega⟩
end Go.Proofs.Ytkpppmldbhgcgaa
/- Sat: the law of clauses of two literals (SatPairs), walked. -/
set_option autoImplicit false
set_option linter.unusedVariables false
set_option linter.unusedSimpArgs false
namespace Go.Proofs.Ytkpppmldbhgcgaa
open Go Go.Shelf Go.RowKit
/-- a slice of pairs of numbers, as it stands in a world -/
def PairsAt (w : World) (a : Option Addr) (ps : List (Int × Int)) : Prop := ∀ j, j < ps.length → ∃ b off, a = some ⟨b, off, none⟩ ∧ b < w.heap.size ∧ w.cell? ⟨b, off + j * 2, none⟩ = some (.int .i64 (ps.getD j (0, 0)).1) ∧ w.cell? ⟨b, off + j * 2 + 1, none⟩ = some (.int .i64 (ps.getD j (0, 0)).2)
def pairL (ps : List (Int × Int)) : List (List Int) := ps.map fun p => [p.1, p.2]
theorem pairL_snoc {ps : List (Int × Int)} {k : Nat} (hk : k < ps.length) : pairL (ps.take (k + 1)) = pairL (ps.take k) ++ [[(ps.getD k (0, 0)).1, (ps.getD k (0, 0)).2]] := by
  unfold pairL
  rw [List.take_add_one, List.getElem?_eq_getElem hk, List.map_append, List.getD_eq_getElem?_getD, List.getElem?_eq_getElem hk]
  rfl
theorem pair_fair {V : Int} {x y : Int} (h1 : x ≠ 0) (h2 : ¬ V < x) (h3 : ¬ x < -V) (h4 : y ≠ 0) (h5 : ¬ V < y) (h6 : ¬ y < -V) : D.fairZ V [x, y] = true := by
  have e : ∀ z : Int, z ≠ 0 → ¬ V < z → ¬ z < -V → D.fair1 V z = true := fun z a b c => by
    unfold D.fair1
    rw [decide_eq_false a, decide_eq_false b, decide_eq_false c]
    rfl
  unfold D.fairZ
  rw [List.all_cons, List.all_cons, e x h1 h2 h3, e y h4 h5 h6]
  rfl
theorem sizeL_two : ∀ (cs : List (List Int)), (∀ c ∈ cs, c.length = 2) → sizeL cs = 3 * cs.length
  | [], _ => rfl
  | c :: r, h => by
    have := sizeL_two r fun d hd => h d (List.mem_cons_of_mem _ hd)
    have hc := h c (List.mem_cons_self ..)
    have e : sizeL (c :: r) = 1 + c.length + sizeL r := rfl
    rw [e, List.length_cons]
    omega
set_option maxHeartbeats 16000000 in
set_option maxRecDepth 1000000 in
theorem pairs_walk (a : Option Addr) (n c : Nat) (ps : List (Int × Int)) (vars : Int) (w : World) (hn : ps.length = n) (hlen : n ≤ 4611686018427387904) (hz : PairsAt w a ps) : Calls Try.prog 5 #[.slice a n c, .int .i64 vars] w (AlOut w) := by
  have hal := alive_walk w
  obtain ⟨i3, hi3, hz30, hz31, hz32⟩ := info_parts' D.info33
  go_enter Try.func5, Try.ntmps5
  by_cases h1 : vars < 1
  · go_wp2_with (go_at_call 8; refine hal.mono ?_; rintro e w1 ⟨p1, hb1⟩; rw [p1]; clear p1)
    go_ret
    exact ⟨rfl, hb1⟩
  by_cases h60 : 60 < vars
  · go_wp2_with (go_at_call 8; refine hal.mono ?_; rintro e w1 ⟨p1, hb1⟩; rw [p1]; clear p1)
    go_ret
    exact ⟨rfl, hb1⟩
  by_cases h120 : (120 : Int) < n
  · go_wp2_with (go_at_call 8; refine hal.mono ?_; rintro e w1 ⟨p1, hb1⟩; rw [p1]; clear p1)
    go_ret
    exact ⟨rfl, hb1⟩
  obtain ⟨V, rfl⟩ : ∃ V : Nat, vars = V := ⟨vars.toNat, by omega⟩
  go_upto_region 5 with (go_at_call 8; refine hal.mono ?_; rintro e w1 ⟨p1, hb1⟩; rw [p1]; clear p1)
  obtain ⟨fb, hfb⟩ : ∃ b, w1.heap.size = b := ⟨_, rfl⟩
  obtain ⟨W0, hW0⟩ : ∃ W, w1.alloc (.cells #[.int .i64 (V : Int), .slice none 0 0] 24) = W := ⟨_, rfl⟩
  have hs0 : W0.heap.size = fb + 1 := by rw [← hW0, ← hfb]; show (w1.heap.push _).size = _; simp
  have hn0 : W0.heap[fb]? = some (.cells #[.int .i64 (V : Int), .slice none 0 0] 24) := by rw [← hW0, ← hfb]; exact heap_new w1 _
  have hfB : FB fb (fb + 1) V (.slice none 0 0) W0 := ⟨(block_cell hn0 0).1.trans rfl, (block_cell hn0 1).1.trans rfl, (block_cell hn0 1).2, by omega, by omega⟩
  have hb0 : Below w.heap.size w W0 := by rw [← hW0]; exact hb1.trans ((Below.refl w.heap.size w1).alloc hb1.size _)
  rw [hW0, hfb]
  have hsW : fb + 1 ≤ W0.heap.size := by omega
  have hwf0 : w.heap.size ≤ fb := by have := hb1.size; omega
  have hwf : w.heap.size ≤ fb + 1 := by have := hb1.size; omega
  clear hW0 hfb hs0 hn0 hb1 hal
  go_wp2
  go_loopw [7, 8, 9] (fun iv _ _ wr => ∃ (k : Nat) (v : Value) (cs : List D.Cl), k ≤ n ∧ iv = .int .i64 k ∧ HSt (fb + 1) wr v (.slice none 0 0) cs [] ∧ cs.map D.Cl.zs = pairL (ps.take k) ∧ (∀ d ∈ pairL (ps.take k), D.fairZ (V : Int) d = true) ∧ FB fb (fb + 1) V v wr ∧ Below w.heap.size w wr) (fun iv _ _ _ => n - (intOf iv).toNat)
  case atStart => exact ⟨0, _, [], Nat.zero_le _, rfl, HSt.start _ _, rfl, fun d hd => (by cases hd), hfB, hb0⟩
  case round =>
    clear hfB hb0 hsW
    obtain ⟨k, v, cs, hk, rfl, hst, hmap, hfair, hfb, hbw⟩ := hrel
    by_cases hkn : k < n
    · have hknI : (k : Int) < n := by omega
      obtain ⟨pb, po, rfl, hpb, hx0, hy0⟩ := hz k (by omega)
      have hsn := pairL_snoc (ps := ps) (k := k) (by omega)
      obtain ⟨x, hx⟩ : ∃ x, (ps.getD k (0, 0)).1 = x := ⟨_, rfl⟩
      obtain ⟨y, hy⟩ : ∃ x, (ps.getD k (0, 0)).2 = x := ⟨_, rfl⟩
      rw [hx] at hx0
      rw [hy] at hy0
      rw [hx, hy] at hsn
      have hx1 := cell_b hbw hx0
      have hy1 := cell_b hbw hy0
      clear hx0 hy0 hx hy
      by_cases b1 : x = 0
      · subst b1
        go_wp2
        go_ret
        exact ⟨rfl, hbw⟩
      have e1 : (x == 0) = false := beq_false_of_ne b1
      by_cases b2 : (V : Int) < x
      · go_wp2
        go_ret
        exact ⟨rfl, hbw⟩
      by_cases b3 : x < -(V : Int)
      · go_wp2
        go_ret
        exact ⟨rfl, hbw⟩
      by_cases b4 : y = 0
      · subst b4
        go_wp2
        go_ret
        exact ⟨rfl, hbw⟩
      have e4 : (y == 0) = false := beq_false_of_ne b4
      by_cases b5 : (V : Int) < y
      · go_wp2
        go_ret
        exact ⟨rfl, hbw⟩
      by_cases b6 : y < -(V : Int)
      · go_wp2
        go_ret
        exact ⟨rfl, hbw⟩
      -- [P
      have hff : ∀ d ∈ pairL (ps.take (k + 1)), D.fairZ (V : Int) d = true := fun d hd => by
        rw [hsn] at hd
        rcases List.mem_append.1 hd with hd | hd
        · exact hfair d hd
        · rw [List.mem_singleton.1 hd]
          exact pair_fair b1 b2 b3 b4 b5 b6
      obtain ⟨hrow, hpt⟩ := hst.put hfb.size [x, y] (W := (wr.alloc (.cells #[.int .i64 x, .int .i64 y] 3)).alloc (.cells #[.slice (some ⟨wr.heap.size, 0, none⟩) 2 2] 40)) rfl rfl (by show 2 ≤ 100; omega)
      have c1 := hfb.c1
      have f1 := hfb.f1
      have hsz := hfb.size
      have hfl := hfb.lt
      have hwz : (wr.alloc (.cells #[.int .i64 x, .int .i64 y] 3)).heap.size = wr.heap.size + 1 := by show (wr.heap.push _).size = _; simp
      have hnew := cell_new (wr.alloc (.cells #[.int .i64 x, .int .i64 y] 3)) #[.slice (some ⟨wr.heap.size, 0, none⟩) 2 2] 40 (0, 0) 0
      rw [hwz] at hnew
      have hlc : cs.length ≤ 200 := by
        have := congrArg List.length hmap
        rw [List.length_map] at this
        rw [this]
        unfold pairL
        rw [List.length_map, List.length_take]
        omega
      have hk1 : ∀ (j : Nat) (u : Value), [Value.slice (some ⟨wr.heap.size, 0, none⟩) 2 2][j]? = some u → ((wr.alloc (.cells #[.int .i64 x, .int .i64 y] 3)).alloc (.cells #[.slice (some ⟨wr.heap.size, 0, none⟩) 2 2] 40)).cell? ((⟨wr.heap.size + 1, 0, none⟩ : Addr).add j) = some u := by
        intro j u hj
        match j, hj with
        | 0, hj =>
          simp at hj
          subst hj
          rw [add_plain']
          exact hnew
      have hk2 : ∀ u ∈ [Value.slice (some ⟨wr.heap.size, 0, none⟩) 2 2], u.oneCell' = true := by
        intro u hu
        rw [List.mem_singleton.1 hu]
        rfl
      have hk3 : cs.length + 1 ≤ maxLen := by unfold maxLen; omega
      have hk4 : (cs.length + 1) * 24 ≤ 140737488355328 := by omega
      have hk5 : fb + 1 ≤ ((wr.alloc (.cells #[.int .i64 x, .int .i64 y] 3)).alloc (.cells #[.slice (some ⟨wr.heap.size, 0, none⟩) 2 2] 40)).heap.size := Nat.le_trans hsz (below2 wr _ _).size
      have hK := Hid'.mk (And.intro hk1 (And.intro hk2 (And.intro hk3 (And.intro hk4 hk5))))
      clear hk1 hk2 hk3 hk4 hk5
      have hA := Hid'.mk (And.intro hff (And.intro hsn hmap))
      clear hst hff hsn hmap hfair b1 b4
      go_wp2_with (first | (at_builtin; refine wpList_append_own _ rfl _ _ 22 rfl (fb + 1) 40 i3 (.slice none 0 0) 1 24 Try.underlying22 hi3 hz30 hz31 hz32 rfl (by decide) _ _ _ rfl hrow ⟨wr.heap.size + 1, 0, none⟩ 1 1 [.slice (some ⟨wr.heap.size, 0, none⟩) 2 2] rfl rfl hK.h.1 hK.h.2.1 hK.h.2.2.1 hK.h.2.2.2.1 hK.h.2.2.2.2 ?_))
      intro v2 w5 hown hgrow hnn
      obtain ⟨hst2, hb5⟩ := hpt v2 w5 hown hgrow
      have hfb5 := hfb.below hb5
      have hbw5 := hbw.trans (hb5.mono hwf)
      have hst3 := hst2.set (m := 1) hfl v2
      have hfb6 := hfb5.set v2
      have hbw6 : Below w.heap.size w (w5.setCell ⟨fb, 1, none⟩ v2) := hbw5.setCell (p := ⟨fb, 1, none⟩) (by show w.heap.size ≤ fb; omega) v2
      have hmap2 : (cs ++ [(⟨some ⟨wr.heap.size, 0, none⟩, 2, [x, y]⟩ : D.Cl)]).map D.Cl.zs = pairL (ps.take (k + 1)) := by rw [List.map_append, hA.h.2.2, hA.h.2.1]; rfl
      have d1 := hfb5.c1
      have d2 := hfb5.f1
      obtain ⟨a9, c9, e9, _⟩ := hst2.len
      generalize (cs ++ [(⟨some ⟨wr.heap.size, 0, none⟩, [x, y].length, [x, y]⟩ : D.Cl)]).length = N9 at e9
      subst e9
      have hG := Hid'.mk (And.intro hst3 (And.intro hmap2 (And.intro hA.h.1 (And.intro hfb6 hbw6))))
      clear hst2 hst3 hfb5 hfb6 hbw5 hbw6 hb5 hmap2 hown hgrow hnn hrow hpt hnew hfb hbw hA
      go_wp2
      obtain ⟨g1, g2, g3, g4, g5⟩ := hG.h
      exact ⟨⟨k + 1, _, _, hkn, by go_num, g1, g2, g3, g4, g5⟩, by simp only [intOf]; omega⟩
      -- P]
    · -- [E
      have hkn2 : k = n := by omega
      subst hkn2
      have hlt' : ¬ ((k : Int) < k) := by omega
      have htk : ps.take k = ps := List.take_of_length_le (by omega)
      rw [htk] at hmap hfair
      obtain ⟨av, cvp, ev, _⟩ := hst.len
      have hrows := hst.rows' ev
      have c0 := hfb.c0
      have c1 := hfb.c1
      have f1 := hfb.f1
      rw [ev] at c1
      obtain ⟨N, hN⟩ : ∃ N, cs.length = N := ⟨_, rfl⟩
      rw [hN] at c1 ev
      have hNl : N ≤ 120 := by
        have := congrArg List.length hmap
        rw [List.length_map, hN] at this
        rw [this]
        unfold pairL
        rw [List.length_map]
        omega
      have htwo : ∀ d ∈ cs.map D.Cl.zs, d.length = 2 := fun d hd => by
        rw [hmap] at hd
        obtain ⟨p, _, rfl⟩ := List.mem_map.1 hd
        rfl
      rw [← hmap] at hfair
      obtain ⟨fu, ans, hsol, ha2, ha1, ha3, ha4, ha5⟩ := solve_pairs (V := V) (cs := cs.map D.Cl.zs) (by omega) (by rw [List.length_map]; omega) (fun d hd => by have := htwo d hd; omega) hfair
      have hck : D.checkZ (V : Int) cs = 0 := by
        rw [checkZ_eq]
        unfold checkL
        rw [if_neg, if_neg (by omega), if_pos (List.all_eq_true.2 hfair)]
        rw [sizeL_two _ htwo, List.length_map]
        omega
      have hcl : ∀ j, j < N → (cs.getD j default).zs ∈ cs.map D.Cl.zs := fun j hj => by
        rw [List.getD_eq_getElem?_getD, List.getElem?_eq_getElem (by omega)]
        exact List.mem_map_of_mem (List.getElem_mem _)
      have hl2 : ∀ j, j < N → (cs.getD j default).zs.length ≤ 1000000 := fun j hj => by have := htwo _ (hcl j hj); omega
      have hsw := solve_walk av N cvp cs V 1000000 wr hN (by omega) hl2 (fun j hj x hx => by have := fair_rng (hfair _ (hcl j hj)) x hx; omega) hrows hck (by omega) hsol
      obtain ⟨what, hwhat⟩ : ∃ x, ans.what = x := ⟨_, rfl⟩
      rw [hwhat] at ha1
      have hsw2 := hsw.mono (R' := fun e w5 => ∃ (am : Option Addr) (cm : Nat) (pa : Option Addr) (pc : Nat) (lns : List D.Ln), e = .returned (.tuple #[.agg #[.int .i64 what, .slice am ans.model.length cm, .slice pa ans.proof.length pc], .int .i64 0]) ∧ Below w.heap.size w w5 ∧ D.Bools w5 am ans.model ∧ lns.map D.lnz = ans.proof ∧ D.Lines w5 pa lns ∧ D.Rows' w5 av cs ∧ w5.cell? ⟨fb, 0, none⟩ = some (.int .i64 V) ∧ w5.cell? ⟨fb, 0 + 1, none⟩ = some (.slice av N cvp) ∧ fb < w5.heap.size) (by
        rintro e w5 ⟨mv, pv, p1, p2, p3, p4⟩
        obtain ⟨am, cm, e1, _, hB, _⟩ := bools_of p3 rfl
        obtain ⟨pa, pc, lns, e2, _, hlz, hL⟩ := lines_of p4
        subst e1 e2
        rw [hwhat] at p1
        have h0 := hfb.lt
        have h1 := hfb.size
        have h2 := p2.size
        exact ⟨am, cm, pa, pc, lns, p1, hbw.trans (p2.mono hbw.size), hB, hlz, hL, hrows.below p2, (p2.cell (p := ⟨fb, 0, none⟩) (by show fb < _; omega)).trans c0, (p2.cell (p := ⟨fb, 0 + 1, none⟩) (by show fb < _; omega)).trans c1, by omega⟩)
      have hnum := fun x w => D.num_walk x w
      have hright : ∀ {w5 : World} {am : Option Addr} {cm : Nat} {pa : Option Addr} {pc : Nat} {lns : List D.Ln}, Below w.heap.size w w5 → D.Bools w5 am ans.model → lns.map D.lnz = ans.proof → D.Lines w5 pa lns → D.Rows' w5 av cs → Calls Try.prog 13 #[.agg #[.int .i64 (V : Int), .slice av N cvp], .agg #[.int .i64 what, .slice am ans.model.length cm, .slice pa ans.proof.length pc]] w5 (AlOut w) := by
        intro w5 am cm pa pc lns h1 h2 h3 h4 h5
        have := right_of (V := V) (cvp := cvp) (cm := cm) (pc := pc) hN (by omega) hl2 hck ha3 ha4 ha5 ha2 h1 h2 h3 h4 h5
        rw [hwhat] at this
        exact this
      clear hsw hst hmap hcl hl2 htwo hfair hsol hck hrows ev hN hbw hfb ha2 ha5 hwhat hz
      go_upto_region 14 with (go_at_call 10; refine hsw2.mono ?_; rintro e w5 ⟨am, cm, pa, pc, lns, p1, z1, z2, z3, z4, z5, z6, z7, z8⟩; rw [p1]; clear p1)
      have hr13 : ∀ (w6 : World), Below w5.heap.size w5 w6 → Calls Try.prog 13 #[.agg #[.int .i64 (V : Int), .slice av N cvp], .agg #[.int .i64 what, .slice am ans.model.length cm, .slice pa ans.proof.length pc]] w6 (AlOut w) := fun w6 h6 => hright (z1.trans (h6.mono z1.size)) (z2.below h6) z3 (z4.below h6) (z5.below h6)
      have hbx := (Below.refl w5.heap.size w5).alloc (Nat.le_refl _) (.cells #[.int .i64 what, .slice am ans.model.length cm, .slice pa ans.proof.length pc] 30)
      have hr14 := hr13 _ hbx
      have hw3 : (what != 3) = true := by simpa using ha1
      clear hr13 hright hbx z1 z2 z3 z4 z5 hsw2 ha1
      go_wp2_with (first | (go_at_call 12; refine (hnum _ _).mono ?_; rintro e w6 ⟨p1, p2⟩; rw [p1, p2]; clear p1 p2) | (go_at_call 13; refine hr14.mono ?_; rintro e w7 ⟨p1, p2⟩; rw [p1]; clear p1))
      go_ret
      exact ⟨rfl, p2⟩
      -- E]
end Go.Proofs.Ytkpppmldbhgcgaa

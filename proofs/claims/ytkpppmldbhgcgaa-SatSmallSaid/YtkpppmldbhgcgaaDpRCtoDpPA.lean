/- Drat: the document's own answer: is it a formula? -/
import Derived.Test.YtkpppmldbhgcgaaScDtoSbZ2
import Derived.Deep.QuietTactic
import Derived.BigQuiet
set_option linter.unusedVariables false
set_option linter.unusedSimpArgs false
set_option autoImplicit false
set_option linter.unusedVariables false
namespace Go.Proofs.Ytkpppmldbhgcgaa.D
open Go.Proofs Go
open Go.Shelf Go.RowKit
theorem below_drewN {B : Nat} {w wr : World} (h : Below B w wr) (q : Nat) : Below B w (wr.drewN q) := ⟨h.os, h.tape, h.output, h.size, h.block⟩
def fairs (vars : Int) (cs : List Cl) : Bool := cs.all fun c => fairZ vars c.zs
def checkZ (vars : Int) (cs : List Cl) : Int := if 200000 < vars ∨ 200000 < total cs cs.length then 2 else if vars < 0 then 40 else if fairs vars cs = true then 0 else 40
theorem ctake_snoc {cs : List Cl} {k : Nat} (h : k < cs.length) : cs.take (k + 1) = cs.take k ++ [cs.getD k default] := by
  rw [List.take_add_one, List.getD_eq_getElem?_getD, List.getElem?_eq_getElem h]; rfl
theorem fairs_snoc {vars : Int} {cs : List Cl} {c : Cl} : fairs vars (cs ++ [c]) = (fairs vars cs && fairZ vars c.zs) := by simp [fairs]
theorem fairs_not {vars : Int} {cs : List Cl} {k : Nat} (hk : k < cs.length) (h : fairZ vars (cs.getD k default).zs = false) : fairs vars cs = false := by
  unfold fairs
  rw [List.all_eq_false]
  rw [List.getD_eq_getElem?_getD, List.getElem?_eq_getElem hk] at h
  exact ⟨_, List.getElem_mem hk, by simpa using h⟩
set_option maxHeartbeats 4000000 in
set_option maxRecDepth 1000000 in
theorem check_walk (a : Option Addr) (n c : Nat) (cs : List Cl) (vars : Int) (w : World) (hn : cs.length = n) (hlen : n ≤ 4611686018427387904) (hl : ∀ j, j < n → (cs.getD j default).zs.length ≤ 1000000000) (hz : Rows' w a cs) :
    Calls Try.prog 11 #[.agg #[.int .i64 vars, .slice a n c]] w fun e w' => e = .returned (.int .i64 (checkZ vars cs)) ∧ Below w.heap.size w w' := by
  go_enter Try.func11, Try.ntmps11
  go_wp2
  go_loopw [3, 4] (fun m i wr => ∃ k : Nat, k ≤ n ∧ i = .int .i64 k ∧ m = .int .i64 (total cs k) ∧ total cs k ≤ 200000 ∧ Below w.heap.size w wr ∧ wr.cell? ⟨w.heap.size, 0, none⟩ = some (.int .i64 vars) ∧ wr.cell? ⟨w.heap.size, 0 + 1, none⟩ = some (.slice a n c)) (fun _ i _ => n - (intOf i).toNat)
  case atStart =>
    exact ⟨0, Nat.zero_le _, rfl, rfl, Nat.zero_le _, (Below.refl _ w).alloc (Nat.le_refl _) _, (cell_new ..).trans rfl, (cell_new ..).trans rfl⟩
  case round =>
    obtain ⟨k, hk, rfl, rfl, hm, hbw, hc0, hc1⟩ := hrel
    obtain ⟨t, ht0⟩ : ∃ t, total cs k = t := ⟨_, rfl⟩
    by_cases hlt : k < n
    · obtain ⟨b, off, rfl, hb, hc, hi⟩ := hz k (by omega)
      have hc := (hbw.cell (by exact hb)).trans hc
      have hll := hl k hlt
      have ht : total cs (k + 1) = total cs k + 1 + (cs.getD k default).zs.length := rfl
      obtain ⟨x, hx⟩ : ∃ x, cs.getD k default = x := ⟨_, rfl⟩
      rw [hx] at hc hll ht
      rw [ht0] at hm ht
      simp only [ht0]
      by_cases hbig : (200000 : Int) < t + 1 + x.zs.length
      · have hmono := total_mono cs (k := k + 1) (m := n) (by omega)
        have hB : checkZ vars cs = 2 := by unfold checkZ; rw [hn, if_pos (.inr (by omega))]
        by_cases hv : (200000 : Int) < vars
        · go_wp2
          go_ret
          exact ⟨by first | rfl | (rw [hB]; rfl) | (simp [hB]; done), hbw⟩
        · go_wp2
          go_ret
          exact ⟨by first | rfl | (rw [hB]; rfl) | (simp [hB]; done), hbw⟩
      · go_wp2
        go_roundw
        case rel => exact ⟨k + 1, hlt, by simp, by rw [ht]; simp, by rw [ht]; omega, hbw, hc0, hc1⟩
        case measure => simp [intOf]; omega
    · have e0 : k = n := by omega
      subst e0
      rw [ht0] at hm
      simp only [ht0]
      by_cases hv : (200000 : Int) < vars
      · have hB : checkZ vars cs = 2 := by unfold checkZ; rw [if_pos (.inl hv)]
        go_wp2
        go_ret
        exact ⟨by first | rfl | (rw [hB]; rfl) | (simp [hB]; done), hbw⟩
      · have hm' : ¬ (200000 : Int) < t := by omega
        by_cases hv0 : vars < 0
        · have hB : checkZ vars cs = 40 := by unfold checkZ; rw [hn, ht0, if_neg (by omega), if_pos hv0]
          go_wp2
          go_ret
          exact ⟨by first | rfl | (rw [hB]; rfl) | (simp [hB]; done), hbw⟩
        · have hB : checkZ vars cs = if fairs vars cs = true then 0 else 40 := by unfold checkZ; rw [hn, ht0, if_neg (by omega), if_neg hv0]
          go_wp2
          go_loopw [5, 6] (fun i _ wr => ∃ j : Nat, j ≤ k ∧ i = .int .i64 j ∧ fairs vars (cs.take j) = true ∧ Below w.heap.size w wr ∧ wr.cell? ⟨w.heap.size, 0, none⟩ = some (.int .i64 vars) ∧ wr.cell? ⟨w.heap.size, 0 + 1, none⟩ = some (.slice a k c)) (fun i _ _ => k - (intOf i).toNat)
          case atStart => exact ⟨0, Nat.zero_le _, rfl, rfl, hbw, hc0, hc1⟩
          case round =>
            obtain ⟨j, hj, rfl, hf, hbw, hc0, hc1⟩ := hrel
            by_cases hlt : j < k
            · obtain ⟨b, off, rfl, hb, hc, hi⟩ := hz j (by omega)
              have hc := (hbw.cell (by exact hb)).trans hc
              have hll := hl j hlt
              have hs := ctake_snoc (cs := cs) (k := j) (by omega)
              have ht := fun h => fairs_not (vars := vars) (cs := cs) (k := j) (by omega) h
              obtain ⟨x, hx⟩ : ∃ x, cs.getD j default = x := ⟨_, rfl⟩
              rw [hx] at hc hll hs ht hi
              have hi' := hi.below hbw
              go_wp2
              go_quiet (first | (go_at_call 19; refine Calls.quiet_of_same (fair_walk x.a x.zs.length x.c x.zs vars _ rfl (by omega) (by omega) (by omega) hi')))
              by_cases hfair : fairZ vars x.zs = true
              · simp only [hfair]
                go_wp2
                go_roundw
                case rel => exact ⟨j + 1, hlt, by simp, (by rw [hs, fairs_snoc, hf, hfair]; rfl), below_drewN hbw _, hc0, hc1⟩
                case measure => simp [intOf]; omega
              · have hfair : fairZ vars x.zs = false := by simpa using hfair
                rw [ht hfair] at hB
                go_wp2
                go_ret
                exact ⟨by first | rfl | (rw [hB]; rfl) | (simp [hB]; done), below_drewN hbw _⟩
            · have e0 : j = k := by omega
              subst e0
              rw [← hn, List.take_length] at hf
              rw [hf] at hB
              go_wp2
              go_ret
              exact ⟨by first | rfl | (rw [hB]; rfl) | (simp [hB]; done), hbw⟩
end Go.Proofs.Ytkpppmldbhgcgaa.D
/- Drat: the document's own propagating, as a plain law. -/
set_option autoImplicit false
set_option linter.unusedVariables false
namespace Go.Proofs.Ytkpppmldbhgcgaa.D
open Go.Proofs Go
/-- what a literal is -/
def litV (vs : List Int) (x : Int) : Int := if x < 0 then -(vs.getD x.natAbs 0) else vs.getD x.natAbs 0
/-- one literal of a clause: open, more, holds -/
def scan1 (vs : List Int) (s : Int × Bool × Bool) (x : Int) : Int × Bool × Bool :=
  (if litV vs x = 0 then x else s.1, s.2.1 || (decide (litV vs x = 0) && (decide (s.1 ≠ 0) && decide (s.1 ≠ x))), s.2.2 || decide (litV vs x = 1))
def scan (vs : List Int) (zs : List Int) : Int × Bool × Bool := zs.foldl (scan1 vs) (0, false, false)
theorem scan_snoc {vs zs : List Int} {x : Int} : scan vs (zs ++ [x]) = scan1 vs (scan vs zs) x := by simp [scan]
/-- a literal is made true -/
def setV (vs : List Int) (x : Int) : List Int := if 0 < x then vs.set x.natAbs 1 else vs.set x.natAbs (-1)
/-- one clause: values, and has something been set? -/
def pass1 (s : Option (List Int × Bool)) (zs : List Int) : Option (List Int × Bool) :=
  s.bind fun (vs, b) => let (o, m, h) := scan vs zs
    if (h || m) = true then some (vs, b) else if o = 0 then none else some (setV vs o, true)
def pass (vs : List Int) (cs : List (List Int)) : Option (List Int × Bool) := cs.foldl pass1 (some (vs, false))
theorem pass_snoc {vs : List Int} {cs : List (List Int)} {zs : List Int} : pass vs (cs ++ [zs]) = pass1 (pass vs cs) zs := by simp [pass]
theorem pass_none : ∀ (cs : List (List Int)), cs.foldl pass1 none = none
  | [] => rfl
  | c :: cs => pass_none cs
/-- a pass that ends early ends so -/
theorem pass_fail {vs : List Int} {cs : List (List Int)} {k : Nat} (h : pass vs (cs.take k) = none) : pass vs cs = none := by
  have : cs = cs.take k ++ cs.drop k := (List.take_append_drop k cs).symm
  unfold pass at h ⊢
  rw [this, List.foldl_append, h, pass_none]
/-- is there a conflict? -/
inductive Prp (cs : List (List Int)) : List Int → Bool → Prop
  | conf (vs : List Int) : pass vs cs = none → Prp cs vs true
  | done (vs vs' : List Int) : pass vs cs = some (vs', false) → Prp cs vs false
  | more (vs vs' : List Int) (b : Bool) : pass vs cs = some (vs', true) → Prp cs vs' b → Prp cs vs b
/-- values that may be -/
def Fine (n : Nat) (vs : List Int) : Prop := vs.length = n ∧ ∀ y ∈ vs, -1 ≤ y ∧ y ≤ 1
theorem Fine.get {n : Nat} {vs : List Int} (h : Fine n vs) (m : Nat) : -1 ≤ vs.getD m 0 ∧ vs.getD m 0 ≤ 1 := by
  by_cases hm : m < vs.length
  · rw [List.getD_eq_getElem?_getD, List.getElem?_eq_getElem hm]
    exact h.2 _ (List.getElem_mem hm)
  · rw [List.getD_eq_getElem?_getD, List.getElem?_eq_none (by omega)]
    exact ⟨by decide, by decide⟩
theorem Fine.set {n : Nat} {vs : List Int} (h : Fine n vs) (m : Nat) {y : Int} (hy : -1 ≤ y ∧ y ≤ 1) : Fine n (vs.set m y) := by
  refine ⟨by rw [List.length_set]; exact h.1, fun z hz => ?_⟩
  rcases List.mem_or_eq_of_mem_set hz with h1 | rfl
  · exact h.2 z h1
  · exact hy
theorem Fine.setV {n : Nat} {vs : List Int} (h : Fine n vs) (x : Int) : Fine n (setV vs x) := by
  unfold Ytkpppmldbhgcgaa.D.setV
  split
  · exact h.set _ (by decide)
  · exact h.set _ (by decide)
/-- literals that may be -/
def Lits (n : Nat) (zs : List Int) : Prop := ∀ x ∈ zs, x ≠ 0 ∧ x.natAbs < n
/-- what is open is a literal of the clause that is not known -/
theorem scan_open {vs zs : List Int} (h : (scan vs zs).1 ≠ 0) : (scan vs zs).1 ∈ zs ∧ litV vs (scan vs zs).1 = 0 := by
  have key : ∀ (ys : List Int) (s : Int × Bool × Bool), (ys.foldl (scan1 vs) s).1 ≠ 0 → (ys.foldl (scan1 vs) s).1 = s.1 ∨ ((ys.foldl (scan1 vs) s).1 ∈ ys ∧ litV vs (ys.foldl (scan1 vs) s).1 = 0) := by
    intro ys
    induction ys with
    | nil => intro s _; exact .inl rfl
    | cons y ys ih =>
      intro s hs
      rcases ih (scan1 vs s y) hs with e | ⟨e1, e2⟩
      · have e : (List.foldl (scan1 vs) s (y :: ys)).1 = (scan1 vs s y).1 := e
        by_cases hy : litV vs y = 0
        · have : (scan1 vs s y).1 = y := if_pos hy
          rw [this] at e
          exact .inr (by rw [e]; exact ⟨List.mem_cons_self .., hy⟩)
        · have : (scan1 vs s y).1 = s.1 := if_neg hy
          rw [this] at e
          exact .inl e
      · exact .inr ⟨List.mem_cons_of_mem _ e1, e2⟩
  rcases key zs (0, false, false) h with e | e
  · exact absurd e h
  · exact e
/-- how many are not known -/
def zeros (vs : List Int) : Nat := vs.count 0
theorem zeros_set {vs : List Int} {m : Nat} {y : Int} (hm : m < vs.length) (h0 : vs.getD m 0 = 0) (hy : y ≠ 0) : zeros (vs.set m y) < zeros vs := by
  unfold zeros
  rw [List.count_set hm]
  rw [List.getD_eq_getElem?_getD, List.getElem?_eq_getElem hm] at h0
  have h0 : vs[m] = 0 := h0
  have hp : 0 < vs.count 0 := List.count_pos_iff.2 (h0 ▸ List.getElem_mem hm)
  simp [h0, hy]
  omega
theorem litV_zero {vs : List Int} {x : Int} (h : litV vs x = 0) : vs.getD x.natAbs 0 = 0 := by
  unfold litV at h
  split at h <;> omega
theorem zeros_setV {n : Nat} {vs : List Int} {x : Int} (hf : Fine n vs) (hx : x.natAbs < n) (h : litV vs x = 0) : zeros (setV vs x) < zeros vs := by
  have h0 := litV_zero h
  unfold setV
  split
  · exact zeros_set (by rw [hf.1]; exact hx) h0 (by decide)
  · exact zeros_set (by rw [hf.1]; exact hx) h0 (by decide)
/-- what a pass leaves -/
theorem pass_fine {n : Nat} {vs : List Int} (hf : Fine n vs) : ∀ {cs : List (List Int)} {vs' : List Int} {b : Bool}, (∀ c ∈ cs, Lits n c) → pass vs cs = some (vs', b) → Fine n vs' ∧ (if b = true then zeros vs' < zeros vs else vs' = vs) := by
  have key : ∀ (cs : List (List Int)) (v1 : List Int) (b1 : Bool) (vs' : List Int) (b : Bool), (∀ c ∈ cs, Lits n c) → Fine n v1 → (if b1 = true then zeros v1 < zeros vs else v1 = vs) → cs.foldl pass1 (some (v1, b1)) = some (vs', b) → Fine n vs' ∧ (if b = true then zeros vs' < zeros vs else vs' = vs) := by
    intro cs
    induction cs with
    | nil => intro v1 b1 vs' b _ h1 h2 h; cases h; exact ⟨h1, h2⟩
    | cons c cs ih =>
      intro v1 b1 vs' b hl h1 h2 h
      have hlc := hl c (List.mem_cons_self ..)
      have hl' : ∀ c ∈ cs, Lits n c := fun d hd => hl d (List.mem_cons_of_mem _ hd)
      have h : cs.foldl pass1 (pass1 (some (v1, b1)) c) = some (vs', b) := h
      have so := scan_open (vs := v1) (zs := c)
      have e : pass1 (some (v1, b1)) c = if ((scan v1 c).2.2 || (scan v1 c).2.1) = true then some (v1, b1) else if (scan v1 c).1 = 0 then none else some (setV v1 (scan v1 c).1, true) := rfl
      rw [e] at h
      split at h
      · exact ih _ _ _ _ hl' h1 h2 h
      · split at h
        · rw [pass_none] at h; cases h
        · rename_i hne
          obtain ⟨m1, m2⟩ := so hne
          have z := zeros_setV h1 (hlc _ m1).2 m2
          refine ih _ _ _ _ hl' (h1.setV _) ?_ h
          rw [if_pos rfl]
          cases b1 with
          | true => rw [if_pos rfl] at h2; omega
          | false => rw [if_neg (by decide)] at h2; rw [h2] at z ⊢; exact z
  intro cs vs' b hl h
  exact key cs vs false vs' b hl hf (by rw [if_neg (by decide)]) h
end Go.Proofs.Ytkpppmldbhgcgaa.D

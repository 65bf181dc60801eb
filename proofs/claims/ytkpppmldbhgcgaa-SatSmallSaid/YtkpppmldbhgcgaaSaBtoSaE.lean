/- Sat: small functions that read. -/
import Derived.Test.YtkpppmldbhgcgaaSaMtoSaA
import Derived.Test.YtkpppmldbhgcgaaChecked
import Derived.WalkKit
import Derived.Orders
set_option linter.unusedVariables false
set_option linter.unusedSimpArgs false
set_option autoImplicit false
set_option linter.unusedVariables false
set_option linter.unusedSimpArgs false
namespace Go.Proofs.Ytkpppmldbhgcgaa
open Go Go.RowKit
def codeZ (x : Int) : Nat := if x < 0 then (-2 * x + 1).toNat else (2 * x).toNat
def litV (vs : List Int) (x : Int) : Int := if x < 0 then -(vs.getD x.natAbs 0) else vs.getD x.natAbs 0
set_option maxHeartbeats 4000000 in
set_option maxRecDepth 1000000 in
theorem abs_walk (x : Int) (h0 : -1000000000 ≤ x) (h1 : x ≤ 1000000000) (w : World) :
    Calls Try.prog 46 #[.int .i64 x] w fun e w' => e = .returned (.int .i64 (x.natAbs : Int)) ∧ w' = w := by
  go_enter Try.func46, Try.ntmps46
  by_cases h : x < 0
  · have e : (x.natAbs : Int) = -x := by omega
    go_wp2
    go_ret
    exact ⟨by first | rfl | (simp [e]; done) | (rw [e]; rfl) | (simp [e]; omega), by trivial⟩
  · have e : (x.natAbs : Int) = x := by omega
    go_wp2
    go_ret
    exact ⟨by first | rfl | (simp [e]; done) | (rw [e]; rfl) | (simp [e]; omega), by trivial⟩
set_option maxHeartbeats 4000000 in
set_option maxRecDepth 1000000 in
theorem code_walk (x : Int) (h0 : -1000000000 ≤ x) (h1 : x ≤ 1000000000) (w : World) :
    Calls Try.prog 48 #[.int .i64 x] w fun e w' => e = .returned (.int .i64 (codeZ x : Int)) ∧ w' = w := by
  go_enter Try.func48, Try.ntmps48
  by_cases h : x < 0
  · have hc : ((codeZ x : Nat) : Int) = -2 * x + 1 := by unfold codeZ; rw [if_pos h]; omega
    go_wp2
    go_ret
    exact ⟨by first | rfl | (simp [hc]; done) | (rw [hc]; rfl), by trivial⟩
  · have hc : ((codeZ x : Nat) : Int) = 2 * x := by unfold codeZ; rw [if_neg h]; omega
    go_wp2
    go_ret
    exact ⟨by first | rfl | (simp [hc]; done) | (rw [hc]; rfl), by trivial⟩
/-- values are -1, 0, 1 -/
def Fine (n : Nat) (vs : List Int) : Prop := vs.length = n ∧ ∀ m, -1 ≤ vs.getD m 0 ∧ vs.getD m 0 ≤ 1
set_option maxHeartbeats 4000000 in
set_option maxRecDepth 1000000 in
theorem value_walk {lo n : Nat} {w : World} {own : Nat → Option Tg} {rv : Tg → Value} {S : Sz} (x : Int) (h : Sol lo w own rv S) (hf : Fine n S.vals) (hx : x.natAbs < n) (hn : n ≤ 1000000000) :
    Calls Try.prog 45 #[rv .x, .int .i64 x] w fun e w' => e = .returned (.int .i8 (litV S.vals x)) ∧ w' = w := by
  obtain ⟨b, hb, _, _, _⟩ := h.xb
  obtain ⟨m, hm⟩ : ∃ m, x.natAbs = m := ⟨_, rfl⟩
  rw [hm] at hx
  have hl : (mem S .vals).n = n := by show (S.vals.map _).length = n; rw [List.length_map]; exact hf.1
  obtain ⟨g, cap, hv, _, _, _, hcap, _⟩ := h.head (t := .vals) rfl (by omega)
  obtain ⟨y, hy⟩ : ∃ y, S.vals.getD m 0 = y := ⟨_, rfl⟩
  have hyl : S.vals[m]? = some y := by rw [← hy, List.getD_eq_getElem?_getD, List.getElem?_eq_getElem (by rw [hf.1]; exact hx)]; rfl
  have c1 := (h.fld hb (m := 6) rfl).1
  have c2 := (h.rcell hv (m := m) (map_get hyl)).1
  rw [hl] at hv hcap
  rw [show conc rv (AC.ref Tg.vals) = _ from hv] at c1
  replace c2 : w.cell? ⟨g, m, none⟩ = some (.int .i8 y) := c2
  have hbd := hf.2 m
  rw [hy] at hbd
  rw [hb]
  have hmn : (m : Int) < n := by omega
  rcases (show (x < 0 ∧ x = -(m : Int)) ∨ (¬ x < 0 ∧ x = (m : Int)) by omega) with ⟨h0, rfl⟩ | ⟨h0, rfl⟩
  · have hL : litV S.vals (-(m : Int)) = -y := by unfold litV; rw [hm, hy]; exact if_pos h0
    go_enter Try.func45, Try.ntmps45
    go_wp2
    go_ret
    exact ⟨by first | rfl | (simp [hL]; done) | (rw [hL]; rfl), by trivial⟩
  · have hL : litV S.vals (m : Int) = y := by unfold litV; rw [hm, hy]; exact if_neg h0
    go_enter Try.func45, Try.ntmps45
    go_wp2
    go_ret
    exact ⟨by first | rfl | (simp [hL]; done) | (rw [hL]; rfl), by trivial⟩
end Go.Proofs.Ytkpppmldbhgcgaa
/- Sat: a region whose makes come in any order. -/
set_option autoImplicit false
set_option linter.unusedVariables false
set_option linter.unusedSimpArgs false
namespace Go.Proofs.Ytkpppmldbhgcgaa
open Go Go.RowKit
/-- an operation that makes a row, or reads: its number, its slot, the row that it makes, what it yields if it makes none -/
structure En where
  i : Nat
  d : Nat
  rw_ : Option (Obj × Nat)
  v : Value
def actOf : List En → List (Option Value) → Act → Act
  | e :: es, some v :: vs, a => actOf es vs (a.put (some e.d) v)
  | e :: es, none :: vs, a => actOf es vs a
  | _, _, a => a
def listOf : List En → List (Option Value) → Array Bool → Array Bool
  | e :: es, some v :: vs, L => listOf es vs (L.setIfInBounds e.i true)
  | e :: es, none :: vs, L => listOf es vs L
  | _, _, L => L
theorem actOf_put : ∀ (es : List En) (vs : List (Option Value)) (a : Act) (d : Nat) (v : Value), (∀ e ∈ es, e.d ≠ d) → actOf es vs (a.put (some d) v) = (actOf es vs a).put (some d) v
  | [], vs, a, d, v, h => by cases vs <;> rfl
  | e :: es, [], a, d, v, h => rfl
  | e :: es, none :: vs, a, d, v, h => actOf_put es vs a d v fun x hx => h x (List.mem_cons_of_mem _ hx)
  | e :: es, some u :: vs, a, d, v, h => by
    show actOf es vs ((a.put (some d) v).put (some e.d) u) = (actOf es vs (a.put (some e.d) u)).put (some d) v
    rw [Act.put_comm a v u (fun x hx hy => h e (by simp) (by cases hx; cases hy; rfl)), actOf_put es vs _ d v fun x hx => h x (List.mem_cons_of_mem _ hx)]
theorem actOf_set : ∀ (es : List En) (vs : List (Option Value)) (a : Act) (j : Nat) (e : En) (v : Value), (es.map (·.d)).Nodup → es[j]? = some e → vs[j]? = some none → (actOf es vs a).put (some e.d) v = actOf es (vs.set j (some v)) a
  | [], vs, a, j, e, v, hn, he, hv => by simp at he
  | x :: es, [], a, j, e, v, hn, he, hv => by simp at hv
  | x :: es, y :: vs, a, 0, e, v, hn, he, hv => by
    have he : x = e := by simpa using he
    have hv : y = none := by simpa using hv
    subst he hv
    show (actOf es vs a).put (some x.d) v = actOf es vs (a.put (some x.d) v)
    rw [actOf_put es vs a x.d v fun z hz e => by
      have := (List.nodup_cons.1 hn).1
      exact this (List.mem_map.2 ⟨z, hz, e⟩)]
  | x :: es, none :: vs, a, j + 1, e, v, hn, he, hv => actOf_set es vs a j e v (List.nodup_cons.1 hn).2 (by simpa using he) (by simpa using hv)
  | x :: es, some u :: vs, a, j + 1, e, v, hn, he, hv => actOf_set es vs _ j e v (List.nodup_cons.1 hn).2 (by simpa using he) (by simpa using hv)
theorem put_eval {a : Act} {d t : Nat} {v : Value} (h : d ≠ t) : (a.put (some d) v).eval (.tmp t) = a.eval (.tmp t) := Act.eval_put fun x hx hy => by cases hx; cases hy; exact h rfl
theorem actOf_eval : ∀ (es : List En) (vs : List (Option Value)) (a : Act) (t : Nat), (∀ e ∈ es, e.d ≠ t) → (actOf es vs a).eval (.tmp t) = a.eval (.tmp t)
  | [], vs, a, t, h => by cases vs <;> rfl
  | e :: es, [], a, t, h => rfl
  | e :: es, none :: vs, a, t, h => actOf_eval es vs a t fun x hx => h x (List.mem_cons_of_mem _ hx)
  | e :: es, some u :: vs, a, t, h => (actOf_eval es vs _ t fun x hx => h x (List.mem_cons_of_mem _ hx)).trans (put_eval (h e (by simp)))
theorem listOf_put : ∀ (es : List En) (vs : List (Option Value)) (L : Array Bool) (i : Nat), listOf es vs (L.setIfInBounds i true) = (listOf es vs L).setIfInBounds i true
  | [], vs, L, i => by cases vs <;> rfl
  | e :: es, [], L, i => rfl
  | e :: es, none :: vs, L, i => listOf_put es vs L i
  | e :: es, some u :: vs, L, i => by
    show listOf es vs ((L.setIfInBounds i true).setIfInBounds e.i true) = (listOf es vs (L.setIfInBounds e.i true)).setIfInBounds i true
    rw [← listOf_put es vs _ i]
    by_cases h : i = e.i
    · rw [h]
    · rw [Array.setIfInBounds_comm _ _ h]
theorem listOf_set : ∀ (es : List En) (vs : List (Option Value)) (L : Array Bool) (j : Nat) (e : En) (v : Value), es[j]? = some e → vs[j]? = some none → (listOf es vs L).setIfInBounds e.i true = listOf es (vs.set j (some v)) L
  | [], vs, L, j, e, v, he, hv => by simp at he
  | x :: es, [], L, j, e, v, he, hv => by simp at hv
  | x :: es, y :: vs, L, 0, e, v, he, hv => by
    have he : x = e := by simpa using he
    have hv : y = none := by simpa using hv
    subst he hv
    exact (listOf_put es vs L x.i).symm
  | x :: es, none :: vs, L, j + 1, e, v, he, hv => listOf_set es vs L j e v (by simpa using he) (by simpa using hv)
  | x :: es, some u :: vs, L, j + 1, e, v, he, hv => listOf_set es vs _ j e v (by simpa using he) (by simpa using hv)
/-- whichever of them are done, what may come next is one of the others -/
def chk (md : Region.Mode) (ops : Array Oper) : List En → Array Bool → List Nat → Bool
  | [], L, un => un.isEmpty || (!(Region.ready md ops L).isEmpty && (Region.ready md ops L).all (fun i => un.contains i))
  | e :: es, L, un => chk md ops es (L.setIfInBounds e.i true) un && chk md ops es L (e.i :: un)
theorem chk_spec {md : Region.Mode} {ops : Array Oper} : ∀ (es : List En) (vs : List (Option Value)) (L : Array Bool) (un : List Nat), vs.length = es.length → chk md ops es L un = true → (un ≠ [] ∨ ∃ j : Nat, vs[j]? = some none) →
    Region.ready md ops (listOf es vs L) ≠ [] ∧ ∀ i ∈ Region.ready md ops (listOf es vs L), i ∈ un ∨ ∃ (j : Nat) (e : En), es[j]? = some e ∧ vs[j]? = some none ∧ e.i = i
  | [], [], L, un, _, h, hu => by
    have hu : un ≠ [] := by
      rcases hu with h | ⟨j, h⟩
      · exact h
      · simp at h
    unfold chk at h
    simp only [Bool.or_eq_true, Bool.and_eq_true, List.isEmpty_iff] at h
    rcases h with h | ⟨h1, h2⟩
    · exact absurd h hu
    · refine ⟨fun e => ?_, fun i hi => .inl ?_⟩
      · have e : Region.ready md ops L = [] := e
        rw [e] at h1; cases h1
      have := List.all_eq_true.1 h2 i hi
      simpa using this
  | e :: es, v :: vs, L, un, hl, h, hu => by
    unfold chk at h
    rw [Bool.and_eq_true] at h
    cases v with
    | some v =>
      obtain ⟨r1, r2⟩ := chk_spec es vs (L.setIfInBounds e.i true) un (by simpa using hl) h.1 (hu.imp id fun ⟨j, hj⟩ => by
        cases j with
        | zero => simp at hj
        | succ j => exact ⟨j, by simpa using hj⟩)
      refine ⟨r1, fun i hi => (r2 i hi).imp id ?_⟩
      rintro ⟨j, e', h1, h2, h3⟩
      exact ⟨j + 1, e', by simpa using h1, by simpa using h2, h3⟩
    | none =>
      obtain ⟨r1, r2⟩ := chk_spec es vs L (e.i :: un) (by simpa using hl) h.2 (.inl (by simp))
      refine ⟨r1, fun i hi => ?_⟩
      rcases r2 i hi with h1 | ⟨j, e', h1, h2, h3⟩
      · rcases List.mem_cons.1 h1 with h1 | h1
        · exact .inr ⟨0, e, rfl, rfl, h1.symm⟩
        · exact .inl h1
      · exact .inr ⟨j + 1, e', by simpa using h1, by simpa using h2, h3⟩
def mkv (e : En) (w : World) : Value := match e.rw_ with | none => e.v | some (_, n) => .slice (some ⟨w.heap.size, 0, none⟩) n n
def mkw (e : En) (w : World) : World := match e.rw_ with | none => w | some (o, _) => w.alloc o
/-- what has been made so far -/
structure Mk (es : List En) (vs : List (Option Value)) (w0 w : World) : Prop where
  len : vs.length = es.length
  bel : Below w0.heap.size w0 w
  at_ : ∀ (j : Nat) (e : En) (v : Value), es[j]? = some e → vs[j]? = some (some v) → match e.rw_ with | none => v = e.v | some (o, n) => ∃ g, v = .slice (some ⟨g, 0, none⟩) n n ∧ w0.heap.size ≤ g ∧ w.heap[g]? = some o
  ne : ∀ (j k : Nat) (e e' : En) (v v' : Value), es[j]? = some e → es[k]? = some e' → vs[j]? = some (some v) → vs[k]? = some (some v') → j ≠ k → e.rw_ ≠ none → e'.rw_ ≠ none → blkOf v ≠ blkOf v'
theorem heap_old {w : World} {o o' : Obj} {g : Nat} (h : w.heap[g]? = some o) : (w.alloc o').heap[g]? = some o ∧ g < w.heap.size := by
  have hb : g < w.heap.size := (Array.getElem?_eq_some_iff.1 h).1
  exact ⟨(Below.heap_alloc _ _ _ hb).trans h, hb⟩
theorem heap_new (w : World) (o : Obj) : (w.alloc o).heap[w.heap.size]? = some o := by
  show (w.heap.push _)[w.heap.size]? = _
  simp
theorem Mk.step {es : List En} {vs : List (Option Value)} {w0 w : World} (h : Mk es vs w0 w) {j : Nat} {e : En} (he : es[j]? = some e) (hv : vs[j]? = some none) : Mk es (vs.set j (some (mkv e w))) w0 (mkw e w) := by
  have hj : j < vs.length := (List.getElem?_eq_some_iff.1 hv).1
  have hget : ∀ (k : Nat) (v : Value), (vs.set j (some (mkv e w)))[k]? = some (some v) → (k = j ∧ v = mkv e w) ∨ (k ≠ j ∧ vs[k]? = some (some v)) := fun k v hk => by
    rw [List.getElem?_set] at hk
    by_cases e2 : j = k
    · rw [if_pos e2, if_pos (e2 ▸ hj)] at hk
      exact .inl ⟨e2.symm, by simpa using hk.symm⟩
    · rw [if_neg e2] at hk
      exact .inr ⟨fun e3 => e2 e3.symm, hk⟩
  cases hm : e.rw_ with
  | none =>
    have e1 : mkv e w = e.v := by unfold mkv; rw [hm]
    have e2 : mkw e w = w := by unfold mkw; rw [hm]
    rw [e2]
    refine ⟨by rw [List.length_set]; exact h.len, h.bel, fun k e' v hk hkv => ?_, fun k l e' e'' v v' hk hl hkv hlv hne h1 h2 => ?_⟩
    · rcases hget k v hkv with ⟨rfl, rfl⟩ | ⟨_, h3⟩
      · rw [he] at hk
        cases hk
        rw [hm]
        exact e1
      · exact h.at_ k e' v hk h3
    · rcases hget k v hkv with ⟨rfl, rfl⟩ | ⟨_, h3⟩
      · rw [he] at hk; cases hk; exact absurd hm h1
      · rcases hget l v' hlv with ⟨rfl, rfl⟩ | ⟨_, h4⟩
        · rw [he] at hl; cases hl; exact absurd hm h2
        · exact h.ne k l e' e'' v v' hk hl h3 h4 hne h1 h2
  | some p =>
    obtain ⟨o, n⟩ := p
    have e1 : mkv e w = .slice (some ⟨w.heap.size, 0, none⟩) n n := by unfold mkv; rw [hm]
    have e2 : mkw e w = w.alloc o := by unfold mkw; rw [hm]
    rw [e2]
    have hold : ∀ (k : Nat) (e' : En) (v : Value), es[k]? = some e' → vs[k]? = some (some v) → e'.rw_ ≠ none → blkOf v ≠ some w.heap.size := fun k e' v hk hkv h1 h2 => by
      have := h.at_ k e' v hk hkv
      cases hm' : e'.rw_ with
      | none => exact h1 hm'
      | some p =>
        rw [hm'] at this
        obtain ⟨g, rfl, _, hg⟩ := this
        have hb := (heap_old (o' := o) hg).2
        have h2 : some g = some w.heap.size := h2
        cases h2
        omega
    refine ⟨by rw [List.length_set]; exact h.len, h.bel.trans ((Below.refl _ _).alloc (Nat.le_refl _) o |>.mono h.bel.size), fun k e' v hk hkv => ?_, fun k l e' e'' v v' hk hl hkv hlv hne h1 h2 => ?_⟩
    · rcases hget k v hkv with ⟨rfl, rfl⟩ | ⟨_, h3⟩
      · rw [he] at hk
        cases hk
        rw [hm]
        exact ⟨_, e1, h.bel.size, heap_new w o⟩
      · have := h.at_ k e' v hk h3
        cases hm' : e'.rw_ with
        | none => rw [hm'] at this; exact this
        | some p =>
          rw [hm'] at this
          obtain ⟨g, h4, h5, hg⟩ := this
          exact ⟨g, h4, h5, (heap_old hg).1⟩
    · rcases hget k v hkv with ⟨rfl, rfl⟩ | ⟨_, h3⟩
      · rcases hget l v' hlv with ⟨rfl, rfl⟩ | ⟨_, h4⟩
        · exact absurd rfl hne
        · rw [e1]
          exact fun e3 => hold l e'' v' hl h4 h2 e3.symm
      · rcases hget l v' hlv with ⟨rfl, rfl⟩ | ⟨_, h4⟩
        · rw [e1]
          exact hold k e' v hk h3 h1
        · exact h.ne k l e' e'' v v' hk hl h3 h4 hne h1 h2
/-- what each of the operations does, whatever of the others is done -/
def Does (P : Program) (ops : Array Oper) (es : List En) (a : Act) (w0 : World) : Prop :=
  ∀ (j : Nat) (e : En), es[j]? = some e → ∃ o, ops[e.i]? = some o ∧ o.dst = some e.d ∧ o.guard = none ∧ ∀ (vs : List (Option Value)) (w' : World), Below w0.heap.size w0 w' → (execOp (actOf es vs a).eval o).run P w' = .ok (.value (mkv e w')) (mkw e w')
theorem wpAny_makes {P : Program} {md : Region.Mode} {ops : Array Oper} {Q : Exit → Act → World → Prop} {es : List En} {a : Act} {L : Array Bool} {w0 : World} {f : Nat} (hd : (es.map (·.d)).Nodup) (hc : chk md ops es L [] = true) (hD : Does P ops es a w0)
    (hfin : ∀ (vs : List Value) (w' : World), Mk es (vs.map some) w0 w' → wpAny P md ops Q f (listOf es (vs.map some) L) (actOf es (vs.map some) a) w') :
    ∀ (k : Nat) (vs : List (Option Value)) (w : World), Mk es vs w0 w → vs.countP (·.isNone) = k → wpAny P md ops Q (k + f) (listOf es vs L) (actOf es vs a) w
  | 0, vs, w, h, hk => by
    rw [Nat.zero_add]
    have hall : ∀ v ∈ vs, v.isNone = false := fun v hv => by
      have := List.countP_eq_zero.1 hk v hv
      cases v with
      | none => exact absurd rfl this
      | some v => rfl
    have hvs : vs = (vs.map fun v => v.getD undef).map some := by
      rw [List.map_map]
      conv => lhs; rw [← List.map_id vs]
      apply List.map_congr_left
      intro v hv
      have := hall v hv
      cases v with
      | none => cases this
      | some v => rfl
    rw [hvs] at h ⊢
    exact hfin _ _ h
  | k + 1, vs, w, h, hk => by
    have hsome : ∃ j : Nat, vs[j]? = some none := by
      have : 0 < vs.countP (·.isNone) := by omega
      obtain ⟨v, hv, h1⟩ := List.countP_pos_iff.1 this
      obtain ⟨j, hj, e⟩ := List.getElem_of_mem hv
      refine ⟨j, ?_⟩
      rw [List.getElem?_eq_getElem hj, e]
      cases v with
      | none => rfl
      | some v => cases h1
    obtain ⟨r1, r2⟩ := chk_spec es vs L [] h.len hc (.inr hsome)
    rw [show k + 1 + f = (k + f) + 1 by omega]
    refine ⟨fun h0 => absurd h0 r1, fun i hi => ?_⟩
    rcases r2 i hi with h1 | ⟨j, e, he, hv, rfl⟩
    · cases h1
    obtain ⟨o, ho, hdst, hg, hrun⟩ := hD j e he
    have hw : Region.wanted o (yielded ops (actOf es vs a).tmps) = true := by unfold Region.wanted; rw [hg]
    unfold wpOp
    simp only [ho, hw, if_true, Oper.wp, hrun vs w h.bel, Oper.upon]
    refine .inl ?_
    rw [hdst, actOf_set es vs a j e (mkv e w) hd he hv, listOf_set es vs L j e (mkv e w) he hv]
    refine wpAny_makes hd hc hD hfin k _ _ (h.step he hv) ?_
    have hj : j < vs.length := (List.getElem?_eq_some_iff.1 hv).1
    have hx : vs[j] = none := by
      have := List.getElem?_eq_getElem hj
      rw [hv] at this
      exact (Option.some.inj this).symm
    rw [List.countP_set hj, hx]
    show vs.countP _ - 1 + 0 = k
    omega
theorem mk_none (es : List En) (w : World) : Mk es (List.replicate es.length none) w w := by
  have hno : ∀ (j : Nat) (v : Value), (List.replicate es.length (none : Option Value))[j]? ≠ some (some v) := fun j v h => by
    rw [List.getElem?_replicate] at h
    split at h <;> cases h
  exact ⟨by rw [List.length_replicate], Below.refl _ _, fun j e v _ h => absurd h (hno j v), fun j k e e' v v' _ _ h => absurd h (hno j v)⟩
theorem act_none : ∀ (es : List En) (a : Act), actOf es (List.replicate es.length none) a = a
  | [], a => rfl
  | e :: es, a => act_none es a
theorem list_none : ∀ (es : List En) (L : Array Bool), listOf es (List.replicate es.length none) L = L
  | [], a => rfl
  | e :: es, a => list_none es a
/-- the region, from where nothing of them is done -/
theorem wpAny_made {P : Program} {md : Region.Mode} {ops : Array Oper} {Q : Exit → Act → World → Prop} {es : List En} {a : Act} {L : Array Bool} {w : World} {f : Nat} (hd : (es.map (·.d)).Nodup) (hc : chk md ops es L [] = true) (hD : Does P ops es a w)
    (hfin : ∀ (vs : List Value) (w' : World), Mk es (vs.map some) w w' → wpAny P md ops Q f (listOf es (vs.map some) L) (actOf es (vs.map some) a) w') : wpAny P md ops Q (es.length + f) L a w := by
  have := wpAny_makes hd hc hD hfin es.length (List.replicate es.length none) w (mk_none es w) (by rw [List.countP_replicate]; rfl)
  rw [act_none, list_none] at this
  exact this
end Go.Proofs.Ytkpppmldbhgcgaa
/- Sat: a row is cut short; a row grows. -/
set_option autoImplicit false
set_option linter.unusedVariables false
set_option linter.unusedSimpArgs false
namespace Go.Proofs.Ytkpppmldbhgcgaa
open Go Go.RowKit
theorem own_cut {w : World} {base sz g n cap k : Nat} {e : TypeId} {xs : List Value} (h : w.ownsRow base e sz (.slice (some ⟨g, 0, none⟩) n cap) n xs) (hk : k ≤ n) : w.ownsRow base e sz (.slice (some ⟨g, 0, none⟩) k cap) k (xs.take (k * sz)) := by
  obtain ⟨h1, h2⟩ := h
  rcases h2 with ⟨e1, _⟩ | ⟨g', cap', cur, e1, hb, hg, hc, hm, hs, ht⟩
  · cases e1
  · cases e1
    refine ⟨by rw [List.length_take, h1]; exact Nat.min_eq_left (Nat.mul_le_mul_right _ hk), .inr ⟨g, cap, cur, rfl, hb, hg, by omega, hm, hs, ?_⟩⟩
    rw [← ht, List.take_take, Nat.min_eq_left (Nat.mul_le_mul_right _ hk)]
theorem grown_refl (w : World) (row : Option Nat) : w.grownBy w row := ⟨rfl, rfl, rfl, Nat.le_refl _, fun _ _ _ => rfl⟩
section
variable {τ : Type} {K : Kd τ} {lo : Nat} {w : World} {own : Nat → Option τ} {rv : τ → Value} {M : τ → Ob τ}
theorem lab_self {g : Nat} {t : τ} (h : own g = some t) : lab own g t = own := by
  funext k
  by_cases e : k = g
  · subst e; rw [lab_same, h]
  · exact lab_other _ _ e
/-- a row is cut short, and its head stored -/
theorem Rep.cut (h : Rep K lo w own rv M) {T p : τ} (hT : K.row T = true) {b m g cap k : Nat} (hv : rv T = .slice (some ⟨g, 0, none⟩) (M T).n cap) (hk : k ≤ (M T).n) (hpT : p ≠ T) (hb : blkOf (rv p) = some b)
    (hm : (M p).cs[m]? = some (AC.ref T)) (hu : ∀ q (k : Nat), (M q).cs[k]? = some (AC.ref T) → q = p ∧ k = m) :
    Rep K lo (w.setCell ⟨b, m, none⟩ (.slice (some ⟨g, 0, none⟩) k cap)) own (upd rv T (.slice (some ⟨g, 0, none⟩) k cap)) (upd M T ⟨k, (M T).cs.take (k * K.esz T)⟩) := by
  have hrow := (h.part T).1 hT
  have hr := hrow.row
  rw [hv] at hr
  have hlg : own g = some T := hrow.lab g (by rw [hv]; rfl)
  have A : Moved K lo w w own rv T g cap k ((M T).cs.take (k * K.esz T)) := ⟨by
    have := own_cut hr hk
    unfold concs at this ⊢
    rw [List.map_take]
    exact this, grown_refl _ _, .inl (by rw [hv]; rfl)⟩
  have := h.move hT A hpT hb hm hu fun j hj => by
    rw [List.getElem?_take] at hj
    split at hj
    · exact hpT (hu T j hj).1.symm
    · cases hj
  rw [lab_self hlg] at this
  exact this
end
end Go.Proofs.Ytkpppmldbhgcgaa

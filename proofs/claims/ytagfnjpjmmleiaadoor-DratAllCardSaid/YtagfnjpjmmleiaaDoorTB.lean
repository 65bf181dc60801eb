/- Drat: what the checker keeps (plain law): its lists, and what is true of its literals. -/
import Derived.Test.YtagfnjpjmmleiaaDoorTA
import Derived.Test.YtagfnjpjmmleiaaDoorPG
import Derived.Test.YtagfnjpjmmleiaaDoorK
set_option linter.unusedVariables false
set_option linter.unusedSimpArgs false
set_option autoImplicit false
set_option linter.unusedVariables false
set_option linter.unusedSimpArgs false
namespace Go.Proofs.YtagfnjpjmmleiaaDoor
theorem codeZ_inj {x y : Int} (hx : x ≠ 0) (hy : y ≠ 0) (h : codeZ x = codeZ y) : x = y := by
  unfold codeZ at h
  split at h <;> split at h <;> omega
theorem codeZ_lt {x : Int} {V : Nat} (h : x.natAbs < V + 1) : codeZ x < 2 * V + 2 := by
  unfold codeZ
  split <;> omega
def alive (S : St) : List Nat := (List.range S.n).filter fun i => !S.gone i
def cls (S : St) : List (List Int) := (alive S).map S.lits
theorem mem_alive {S : St} {i : Nat} : i ∈ alive S ↔ i < S.n ∧ S.gone i = false := by simp [alive]
theorem mem_cls {S : St} {c : List Int} : c ∈ cls S ↔ ∃ i, i < S.n ∧ S.gone i = false ∧ S.lits i = c := by
  unfold cls
  rw [List.mem_map]
  constructor
  · rintro ⟨i, hi, rfl⟩
    obtain ⟨a, b⟩ := mem_alive.1 hi
    exact ⟨i, a, b, rfl⟩
  · rintro ⟨i, a, b, rfl⟩
    exact ⟨i, mem_alive.2 ⟨a, b⟩, rfl⟩
/-- rising -/
def Rise (zs : List Int) : Prop := zs.Pairwise (· < ·)
def keyL (zs : List Int) : Lit := .string (keyOf zs)
/-- how many clauses are empty -/
def empties (S : St) : Nat := ((alive S).filter fun i => (S.lits i).length == 0).length
/-- what is always so, but for the lists of those that watch -/
structure Core (V : Nat) (S : St) : Prop where
  vl : Fine (V + 1) S.vals
  nd : ∀ i, i < S.n → (S.lits i).Nodup
  li : ∀ i, i < S.n → Lits (V + 1) (S.lits i)
  un : ∀ i, i ∈ S.units ↔ i < S.n ∧ (S.lits i).length = 1
  hs : ∀ c i, i ∈ S.has c ↔ i < S.n ∧ ∃ l ∈ S.lits i, codeZ l = c
  em : S.empty = empties S
  kn : ∀ k, (S.K k).Nodup
  ks : ∀ k i, i ∈ S.K k ↔ i < S.n ∧ S.gone i = false ∧ ∃ zs, Rise zs ∧ SameM zs (S.lits i) ∧ k = keyL zs
  ud : S.units.Nodup
  hd : ∀ c, (S.has c).Nodup
/-- those that watch -/
structure Wt (S : St) : Prop where
  wn : ∀ c, (S.watch c).Nodup
  wi : ∀ c i, i ∈ S.watch c → i < S.n
  w1 : ∀ i, i < S.n → S.gone i = false → ∀ a b r, S.lits i = a :: b :: r → i ∈ S.watch (codeZ a) ∧ i ∈ S.watch (codeZ b)
  w2 : ∀ c i, i ∈ S.watch c → S.gone i = false → ∃ a b r, S.lits i = a :: b :: r ∧ (c = codeZ a ∨ c = codeZ b)
/-- the clauses are what they were, in whatever order their literals stand -/
structure Sim (S S' : St) : Prop where
  n : S'.n = S.n
  gone : S'.gone = S.gone
  has : S'.has = S.has
  units : S'.units = S.units
  empty : S'.empty = S.empty
  K : S'.K = S.K
  m : S'.m = S.m
  lits : ∀ i, (S'.lits i).Perm (S.lits i)
theorem Sim.refl (S : St) : Sim S S := ⟨rfl, rfl, rfl, rfl, rfl, rfl, rfl, fun _ => .refl _⟩
theorem Sim.trans {a b c : St} (h : Sim a b) (k : Sim b c) : Sim a c := ⟨k.n.trans h.n, k.gone.trans h.gone, k.has.trans h.has, k.units.trans h.units, k.empty.trans h.empty, k.K.trans h.K, k.m.trans h.m, fun i => (k.lits i).trans (h.lits i)⟩
theorem Sim.alive {S S' : St} (h : Sim S S') : alive S' = alive S := by unfold YtagfnjpjmmleiaaDoor.alive; rw [h.n, h.gone]
theorem sameM_perm {a b : List Int} (h : a.Perm b) : SameM a b := fun x => h.mem_iff
theorem SameM.trans {a b c : List Int} (h : SameM a b) (k : SameM b c) : SameM a c := fun x => (h x).trans (k x)
theorem Core.sim {V : Nat} {S S' : St} (h : Core V S) (k : Sim S S') (hv : Fine (V + 1) S'.vals) : Core V S' := by
  refine ⟨hv, fun i hi => (k.lits i).nodup_iff.2 (h.nd i (k.n ▸ hi)), fun i hi x hx => h.li i (k.n ▸ hi) x ((k.lits i).mem_iff.1 hx), fun i => ?_, fun c i => ?_, ?_, fun c => by rw [k.K]; exact h.kn c, fun c i => ?_, by rw [k.units]; exact h.ud, fun c => by rw [k.has]; exact h.hd c⟩
  · rw [k.units, k.n, h.un, (k.lits i).length_eq]
  · rw [k.has, k.n, h.hs]
    constructor
    · rintro ⟨a, l, b, c⟩
      exact ⟨a, l, (k.lits i).mem_iff.2 b, c⟩
    · rintro ⟨a, l, b, c⟩
      exact ⟨a, l, (k.lits i).mem_iff.1 b, c⟩
  · rw [k.empty, h.em]
    unfold empties
    rw [k.alive]
    congr 1
    apply List.filter_congr
    intro i _
    rw [(k.lits i).length_eq]
  · rw [k.K, k.n, k.gone, h.ks]
    constructor
    · rintro ⟨a, b, zs, c, d, e⟩
      exact ⟨a, b, zs, c, d.trans (sameM_perm (k.lits i)).symm, e⟩
    · rintro ⟨a, b, zs, c, d, e⟩
      exact ⟨a, b, zs, c, d.trans (sameM_perm (k.lits i)), e⟩
/-- a clause's two first literals are a and l -/
def Two (zs : List Int) (a l : Int) (r : List Int) : Prop := zs = a :: l :: r ∨ zs = l :: a :: r
theorem Two.perm {zs : List Int} {a l : Int} {r : List Int} (h : Two zs a l r) : (a :: l :: r).Perm zs := by
  rcases h with rfl | rfl
  · exact .refl _
  · exact .swap ..
/-- what a visit does -/
inductive VisitR (S : St) (i : Nat) (l : Int) : St → Bool → Bool → Prop
  | tr (a : Int) (r : List Int) : Two (S.lits i) a l r → litV S.vals a = 1 → VisitR S i l { S with lits := upd S.lits i (a :: l :: r) } true true
  | mv (a x : Int) (r : List Int) (k : Nat) : Two (S.lits i) a l r → litV S.vals a ≠ 1 → k < r.length → r.getD k 0 = x → litV S.vals x ≠ -1 → VisitR S i l { S with lits := upd S.lits i (a :: x :: r.set k l), watch := upd S.watch (codeZ x) (S.watch (codeZ x) ++ [i]) } false true
  | no (a : Int) (r : List Int) : Two (S.lits i) a l r → (∀ y ∈ r, litV S.vals y = -1) → litV S.vals a = -1 → VisitR S i l { S with lits := upd S.lits i (a :: l :: r) } true false
  | un (a : Int) (r : List Int) : Two (S.lits i) a l r → (∀ y ∈ r, litV S.vals y = -1) → litV S.vals a = 0 → VisitR S i l { S with lits := upd S.lits i (a :: l :: r), vals := setV S.vals a, trail := S.trail ++ [a] } true true
theorem sim_lits {S : St} {i : Nat} {zs : List Int} (h : zs.Perm (S.lits i)) : ∀ j, (upd S.lits i zs j).Perm (S.lits j) := fun j => by
  by_cases e : j = i
  · subst e; rw [upd_same]; exact h
  · rw [upd_other _ _ e]
theorem set_perm : ∀ (r : List Int) (k : Nat) (l : Int), k < r.length → ((r.getD k 0) :: r.set k l).Perm (l :: r)
  | y :: r, 0, l, _ => .swap ..
  | y :: r, k + 1, l, h => by
    have ih := set_perm r k l (by simpa using h)
    show (r.getD k 0 :: y :: r.set k l).Perm (l :: y :: r)
    exact (List.Perm.swap ..).trans ((ih.cons y).trans (List.Perm.swap ..))
theorem VisitR.sim {S S' : St} {i : Nat} {l : Int} {st ok : Bool} (h : VisitR S i l S' st ok) : Sim S S' := by
  cases h with
  | tr a r h1 h2 => exact ⟨rfl, rfl, rfl, rfl, rfl, rfl, rfl, sim_lits h1.perm⟩
  | mv a x r k h1 h2 h3 h4 h5 =>
    refine ⟨rfl, rfl, rfl, rfl, rfl, rfl, rfl, sim_lits (List.Perm.trans ?_ h1.perm)⟩
    rw [← h4]
    exact (set_perm r k l h3).cons a
  | no a r h1 h2 h3 => exact ⟨rfl, rfl, rfl, rfl, rfl, rfl, rfl, sim_lits h1.perm⟩
  | un a r h1 h2 h3 => exact ⟨rfl, rfl, rfl, rfl, rfl, rfl, rfl, sim_lits h1.perm⟩
/-- a list that a visit does not turn may be another one -/
theorem VisitR.watch {V : Nat} {S S' : St} {i : Nat} {l : Int} {st ok : Bool} (h : VisitR S i l S' st ok) (hnd : (S.lits i).Nodup) (hl : Lits (V + 1) (S.lits i)) (u : List Nat) :
    VisitR { S with watch := upd S.watch (codeZ l) u } i l { S' with watch := upd S'.watch (codeZ l) u } st ok ∧ S'.watch (codeZ l) = S.watch (codeZ l) := by
  cases h with
  | tr a r h1 h2 => exact ⟨.tr (S := { S with watch := upd S.watch (codeZ l) u }) a r h1 h2, rfl⟩
  | mv a x r k h1 h2 h3 h4 h5 =>
    have hx : x ∈ r := by rw [← h4, List.getD_eq_getElem?_getD, List.getElem?_eq_getElem h3]; exact List.getElem_mem _
    have hnd' := h1.perm.nodup_iff.2 hnd
    have hxl : x ≠ l := by
      rintro rfl
      have := (List.nodup_cons.1 (List.nodup_cons.1 hnd').2).1
      exact this hx
    have hc : codeZ x ≠ codeZ l := fun e => hxl (codeZ_inj (hl x (h1.perm.mem_iff.1 (by simp [hx]))).1 (hl l (h1.perm.mem_iff.1 (by simp))).1 e)
    refine ⟨?_, upd_other _ _ fun e => hc e.symm⟩
    have := VisitR.mv (S := { S with watch := upd S.watch (codeZ l) u }) a x r k h1 h2 h3 h4 h5
    have e : upd (upd S.watch (codeZ l) u) (codeZ x) (upd S.watch (codeZ l) u (codeZ x) ++ [i]) = upd (upd S.watch (codeZ x) (S.watch (codeZ x) ++ [i])) (codeZ l) u := by
      rw [upd_other S.watch u hc]
      funext c
      by_cases e1 : c = codeZ x
      · rw [e1, upd_same, upd_other _ _ hc, upd_same]
      · rw [upd_other _ _ e1]
        by_cases e2 : c = codeZ l
        · rw [e2, upd_same, upd_same]
        · rw [upd_other _ _ e2, upd_other _ _ e2, upd_other _ _ e1]
    simpa only [e] using this
  | no a r h1 h2 h3 => exact ⟨.no (S := { S with watch := upd S.watch (codeZ l) u }) a r h1 h2 h3, rfl⟩
  | un a r h1 h2 h3 => exact ⟨.un (S := { S with watch := upd S.watch (codeZ l) u }) a r h1 h2 h3, rfl⟩
/-- while it propagates: q: the literals that are false and have been looked at -/
structure Pr (V : Nat) (As : Int → Prop) (S0 S : St) (q : Int → Prop) : Prop where
  core : Core V S
  wt : Wt S
  sim : Sim S0 S
  snd : ∀ x, x ≠ 0 → litV S.vals x = 1 → Der (cls S0) As x
  tr : ∀ x, x ≠ 0 → (litV S.vals x = 1 ↔ x ∈ S.trail)
  tl : Lits (V + 1) S.trail
  tz : zeros S.vals + S.trail.length ≤ V + 1
  up : ∀ x, x ≠ 0 → As x → litV S.vals x = 1
  ut : ∀ i, i < S.n → S.gone i = false → ∀ a, S.lits i = [a] → litV S.vals a = 1
  qd : ∀ l, q l → l ≠ 0 ∧ litV S.vals l = -1
  qq : ∀ l, q l → ∀ i, i < S.n → S.gone i = false → ∀ a r, Two (S.lits i) a l r → litV S.vals a = 1
structure Inn (V : Nat) (As : Int → Prop) (S0 S : St) (q : Int → Prop) (l : Int) (kept rest : List Nat) : Prop where
  pr : Pr V As S0 S q
  w : S.watch (codeZ l) = kept ++ rest
  l0 : l ≠ 0
  ll : l.natAbs < V + 1
  lf : litV S.vals l = -1
  ql : ∀ i ∈ kept, S.gone i = false → ∀ a r, Two (S.lits i) a l r → litV S.vals a = 1
theorem Inn.start {V : Nat} {As : Int → Prop} {S0 S : St} {q : Int → Prop} (h : Pr V As S0 S q) {l : Int} (l0 : l ≠ 0) (ll : l.natAbs < V + 1) (lf : litV S.vals l = -1) : Inn V As S0 S q l [] (S.watch (codeZ l)) :=
  ⟨h, rfl, l0, ll, lf, fun i hi => by cases hi⟩
theorem Inn.finish {V : Nat} {As : Int → Prop} {S0 S : St} {q : Int → Prop} {l : Int} {kept : List Nat} (h : Inn V As S0 S q l kept []) : Pr V As S0 S (fun y => q y ∨ y = l) := by
  refine ⟨h.pr.core, h.pr.wt, h.pr.sim, h.pr.snd, h.pr.tr, h.pr.tl, h.pr.tz, h.pr.up, h.pr.ut, ?_, ?_⟩
  · rintro y (e | rfl)
    · exact h.pr.qd y e
    · exact ⟨h.l0, h.lf⟩
  · rintro y (e | rfl) i hi hg a r ht
    · exact h.pr.qq y e i hi hg a r ht
    · refine h.ql i ?_ hg a r ht
      have hw := h.w
      rw [List.append_nil] at hw
      rw [← hw]
      rcases ht with e | e
      · exact (h.pr.wt.w1 i hi hg _ _ _ e).2
      · exact (h.pr.wt.w1 i hi hg _ _ _ e).1
theorem nodup_drop {u v : List Nat} {i : Nat} (h : (u ++ i :: v).Nodup) : (u ++ v).Nodup ∧ i ∉ u ++ v := by
  have := (List.perm_middle (l₁ := u) (l₂ := v) (a := i)).nodup_iff.1 h
  obtain ⟨a, b⟩ := List.nodup_cons.1 this
  exact ⟨b, a⟩
theorem mem_drop {u v : List Nat} {i j : Nat} (h : j ∈ u ++ i :: v) (hne : j ≠ i) : j ∈ u ++ v := by
  have := (List.perm_middle (l₁ := u) (l₂ := v) (a := i)).mem_iff.1 h
  rcases List.mem_cons.1 this with e | e
  · exact absurd e hne
  · exact e
/-- a clause that is gone falls out -/
theorem Inn.gone {V : Nat} {As : Int → Prop} {S0 S : St} {q : Int → Prop} {l : Int} {kept rest : List Nat} {i : Nat} (h : Inn V As S0 S q l kept (i :: rest)) (hg : S.gone i = true) :
    Inn V As S0 { S with watch := upd S.watch (codeZ l) (kept ++ rest) } q l kept rest := by
  obtain ⟨hp, hw, h0, hl, hf, hq⟩ := h
  have hnd := hp.wt.wn (codeZ l)
  rw [hw] at hnd
  have hsub : ∀ c j, j ∈ upd S.watch (codeZ l) (kept ++ rest) c → j ∈ S.watch c := fun c j hj => by
    by_cases e : c = codeZ l
    · subst e
      rw [upd_same] at hj
      rw [hw]
      rcases List.mem_append.1 hj with e | e
      · exact List.mem_append_left _ e
      · exact List.mem_append_right _ (List.mem_cons_of_mem _ e)
    · rwa [upd_other _ _ e] at hj
  have hbk : ∀ c j, j ∈ S.watch c → j ≠ i → j ∈ upd S.watch (codeZ l) (kept ++ rest) c := fun c j hj hne => by
    by_cases e : c = codeZ l
    · subst e
      rw [hw] at hj
      rw [upd_same]
      exact mem_drop hj hne
    · rwa [upd_other _ _ e]
  have hsim : Sim S { S with watch := upd S.watch (codeZ l) (kept ++ rest) } := ⟨rfl, rfl, rfl, rfl, rfl, rfl, rfl, fun _ => .refl _⟩
  refine ⟨⟨hp.core.sim hsim hp.core.vl, ⟨fun c => ?_, fun c j hj => hp.wt.wi c j (hsub c j hj), fun j hj hgj a b r e => ?_, fun c j hj hgj => hp.wt.w2 c j (hsub c j hj) hgj⟩, hp.sim.trans hsim, hp.snd, hp.tr, hp.tl, hp.tz, hp.up, hp.ut, hp.qd, hp.qq⟩, upd_same .., h0, hl, hf, hq⟩
  · by_cases e : c = codeZ l
    · subst e
      show (upd S.watch (codeZ l) (kept ++ rest) (codeZ l)).Nodup
      rw [upd_same]; exact (nodup_drop hnd).1
    · show (upd S.watch (codeZ l) (kept ++ rest) c).Nodup
      rw [upd_other _ _ e]; exact hp.wt.wn c
  · have hne : j ≠ i := by rintro rfl; rw [hg] at hgj; cases hgj
    obtain ⟨e1, e2⟩ := hp.wt.w1 j hj hgj a b r e
    exact ⟨hbk _ _ e1 hne, hbk _ _ e2 hne⟩
end Go.Proofs.YtagfnjpjmmleiaaDoor

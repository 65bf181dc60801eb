/- Sat, plain: reasons name clauses that there are. -/
import Derived.Test.YtkpppmldbhgcgaaPlMtoPlN
set_option linter.unusedVariables false
set_option linter.unusedSimpArgs false
set_option autoImplicit false
set_option linter.unusedVariables false
set_option linter.unusedSimpArgs false
namespace Go.Proofs.Ytkpppmldbhgcgaa
open Go
def ReaK (S : Sz) : Prop := ∀ (v c : Nat), S.rea.getD v none = some c → c < S.cls.length
theorem ReaK.of {S S' : Sz} (h : ReaK S) (e1 : S'.rea = S.rea) (e2 : S.cls.length ≤ S'.cls.length) : ReaK S' := fun v c hc => by
  rw [e1] at hc
  exact Nat.lt_of_lt_of_le (h v c hc) e2
theorem getD_set_cases {α : Type} {l : List α} {i k : Nat} {a d : α} : (l.set i a).getD k d = a ∨ (l.set i a).getD k d = l.getD k d := by
  by_cases hi : i < l.length
  · rw [getD_set hi]
    split
    · exact .inl rfl
    · exact .inr rfl
  · rw [List.set_eq_of_length_le (by omega)]
    exact .inr rfl
theorem letO_rea {S : Sz} {l : Int} {rn : Option Nat} {q : Bool × Sz} (h : letO S l rn = some q) (hr : ReaK S) (hn : ∀ c, rn = some c → c < S.cls.length) : ReaK q.2 ∧ q.2.cls = S.cls := by
  unfold letO at h
  obtain ⟨v, _, h⟩ := Option.bind_eq_some_iff.1 h
  split at h
  · cases h; exact ⟨hr, rfl⟩
  · split at h
    · cases h; exact ⟨hr, rfl⟩
    · split at h
      · cases h
        refine ⟨fun v c hc => ?_, rfl⟩
        have hc : (S.rea.set l.natAbs rn).getD v none = some c := hc
        rcases getD_set_cases (l := S.rea) (i := l.natAbs) (k := v) (a := rn) (d := none) with e | e
        · rw [e] at hc; exact hn c hc
        · rw [e] at hc; exact hr v c hc
      · cases h
theorem addO_rea {S S' : Sz} {l : Int} {c : Nat} (h : addO S l c = some S') : S'.rea = S.rea ∧ S'.cls = S.cls := by
  unfold addO at h
  obtain ⟨_, _, h⟩ := Option.bind_eq_some_iff.1 h
  obtain ⟨_, _, h⟩ := Option.bind_eq_some_iff.1 h
  split at h
  · cases h; exact ⟨rfl, rfl⟩
  · cases h
theorem movesF_rea {c : Nat} {z : Cz} {p : Nat} : ∀ (f : Nat) {S : Sz} {k : Nat} {r : Bool × Sz}, movesF f S c z p k = some r → r.2.rea = S.rea ∧ r.2.cls.length = S.cls.length
  | 0, S, k, r, h => by cases h
  | f + 1, S, k, r, h => by
    unfold movesF at h
    split at h
    · obtain ⟨x, _, h⟩ := Option.bind_eq_some_iff.1 h
      obtain ⟨v, _, h⟩ := Option.bind_eq_some_iff.1 h
      split at h
      · exact movesF_rea f h
      · split at h
        · cases h
        · obtain ⟨S1, h1, h⟩ := Option.bind_eq_some_iff.1 h
          cases h
          obtain ⟨a1, a2⟩ := addO_rea h1
          exact ⟨a1, by dsimp only; rw [a2]; show (S.cls.set _ _).length = _; rw [List.length_set]⟩
    · cases h; exact ⟨rfl, rfl⟩
theorem movesO_rea {S : Sz} {c p : Nat} {r : Bool × Sz} (h : movesO S c p = some r) : r.2.rea = S.rea ∧ r.2.cls.length = S.cls.length := by
  unfold movesO at h
  obtain ⟨z, _, h⟩ := Option.bind_eq_some_iff.1 h
  split at h
  · exact movesF_rea _ h
  · cases h
theorem visitO_rea {S : Sz} {l : Int} {c : Nat} {r : Option Int × Sz} (h : visitO S l c = some r) : r.2.rea = S.rea ∧ r.2.cls.length = S.cls.length ∧ c < S.cls.length := by
  unfold visitO at h
  obtain ⟨z, hz, h⟩ := Option.bind_eq_some_iff.1 h
  have hc := (List.getElem?_eq_some_iff.1 hz).1
  split at h
  · cases h; exact ⟨rfl, rfl, hc⟩
  · obtain ⟨a, _, h⟩ := Option.bind_eq_some_iff.1 h
    obtain ⟨b, _, h⟩ := Option.bind_eq_some_iff.1 h
    dsimp only at h
    have hS1 : (if a = l then setLits S c z (swapV z.lits 0 1) else S).rea = S.rea ∧ (if a = l then setLits S c z (swapV z.lits 0 1) else S).cls.length = S.cls.length := by
      split
      · exact ⟨rfl, by show (S.cls.set _ _).length = _; rw [List.length_set]⟩
      · exact ⟨rfl, rfl⟩
    revert h hS1
    generalize (if a = l then setLits S c z (swapV z.lits 0 1) else S) = S1
    intro h hS1
    obtain ⟨v, _, h⟩ := Option.bind_eq_some_iff.1 h
    split at h
    · cases h; exact ⟨hS1.1, hS1.2, hc⟩
    · obtain ⟨q, hq, h⟩ := Option.bind_eq_some_iff.1 h
      have := movesO_rea hq
      split at h
      · cases h; exact ⟨this.1.trans hS1.1, this.2.trans hS1.2, hc⟩
      · cases h; exact ⟨this.1.trans hS1.1, this.2.trans hS1.2, hc⟩
theorem rowF_rea {l : Int} : ∀ (f : Nat) {S : Sz} {k j : Nat} {r : Option Nat × Sz}, rowF f S l k j = some r → ReaK S → ReaK r.2
  | 0, S, k, j, r, h, _ => by cases h
  | f + 1, S, k, j, r, h, hr => by
    unfold rowF at h
    split at h
    · obtain ⟨c, _, h⟩ := Option.bind_eq_some_iff.1 h
      obtain ⟨q, hq, h⟩ := Option.bind_eq_some_iff.1 h
      obtain ⟨a1, a2, a3⟩ := visitO_rea hq
      have hr2 : ReaK q.2 := hr.of a1 (by omega)
      split at h
      · exact rowF_rea f h hr2
      · obtain ⟨t, ht, h⟩ := Option.bind_eq_some_iff.1 h
        obtain ⟨b1, b2⟩ := letO_rea ht (S := setW q.2 (codeZ l) j c) hr2 fun c' e => by
          cases e
          show c < q.2.cls.length
          omega
        split at h
        · exact rowF_rea f h b1
        · split at h
          · cases h; exact b1
          · cases h
    · cases h; exact hr
theorem spreadF_rea : ∀ (f : Nat) {S : Sz} {r : Option Nat × Sz}, spreadF f S = some r → ReaK S → ReaK r.2
  | 0, S, r, h, _ => by cases h
  | f + 1, S, r, h, hr => by
    unfold spreadF at h
    split at h
    · split at h
      · cases h
      · obtain ⟨x, _, h⟩ := Option.bind_eq_some_iff.1 h
        obtain ⟨ws, _, h⟩ := Option.bind_eq_some_iff.1 h
        split at h
        · obtain ⟨q, hq, h⟩ := Option.bind_eq_some_iff.1 h
          have hr2 : ReaK q.2 := rowF_rea _ hq (S := { S with at' := S.at' + 1 }) hr
          split at h
          · cases h; exact hr2
          · exact spreadF_rea f h hr2
        · cases h
    · cases h; exact hr
theorem spreadO_rea {S : Sz} {r : Option Nat × Sz} (h : spreadO S = some r) (hr : ReaK S) : ReaK r.2 := spreadF_rea _ h hr
theorem sameO_rea {S S' : Sz} (h : SameO S S') (hr : ReaK S) : ReaK S' := by
  have h1 : S'.rea = S.rea := (congrArg Sz.rea h : _)
  have h2 : S'.cls = S.cls := (congrArg Sz.cls h : _)
  exact hr.of h1 (by rw [h2]; exact Nat.le_refl _)
theorem backL_rea {n : Nat} : ∀ (ls : List Int) {S S' : Sz}, WF n S → backL ls S = some S' → ReaK S → ReaK S'
  | [], S, S', _, h, hr => by cases h; exact hr
  | l :: ls, S, S', wf, h, hr => by
    unfold backL at h
    obtain ⟨S1, h1, h⟩ := Option.bind_eq_some_iff.1 h
    obtain ⟨w1, w2⟩ := backV_wf wf h1
    refine backL_rea ls w1 h (sameO_rea w2 fun v c hc => ?_)
    have hc : (S.rea.set l.natAbs none).getD v none = some c := hc
    rcases getD_set_cases (l := S.rea) (i := l.natAbs) (k := v) (a := (none : Option Nat)) (d := none) with e | e
    · rw [e] at hc; cases hc
    · rw [e] at hc; exact hr v c hc
theorem backO_rea {n : Nat} {S S' : Sz} {level : Nat} (wf : WF n S) (h : backO S level = some S') (hr : ReaK S) : ReaK S' := by
  unfold backO at h
  split at h
  · cases h; exact hr
  · obtain ⟨fr, _, h⟩ := Option.bind_eq_some_iff.1 h
    split at h
    · obtain ⟨S1, h1, h⟩ := Option.bind_eq_some_iff.1 h
      cases h
      have h9 : ReaK S1 := backL_rea _ wf h1 hr
      exact h9
    · cases h
end Go.Proofs.Ytkpppmldbhgcgaa
/- Sat, plain: a variable is decided. -/
set_option autoImplicit false
set_option linter.unusedVariables false
set_option linter.unusedSimpArgs false
namespace Go.Proofs.Ytkpppmldbhgcgaa
open Go
section
variable {n : Nat} {N : List (List Int)} {U : Int} {S : Sz} {a : Nat} {E : Nat → Int → Prop} {wI : List (List Nat)}
/-- the order of variables is another -/
theorem Mid.heap (h : Mid n N U S a E wI) {o p : List Int} (wf : WF n { S with ov := o, pl := p }) (hp : HpS n { S with ov := o, pl := p }) (hf : ∀ v : Nat, 1 ≤ v → v < n → S.vals.getD v 0 = 0 → 0 ≤ p.getD v 0) : Mid n N U { S with ov := o, pl := p } a E wI :=
  ⟨h.n1, h.n2, wf, hp, hf, h.trl, h.cla, h.wat, h.rsn, h.pro, h.wl, h.ale, h.big⟩
/-- a level is begun -/
theorem Mid.start (h : Mid n N U S a E wI) (hs : ∀ k, k < S.st.length → S.st.getD k 0 < S.tr.length) : Mid n N U { S with st := S.st ++ [(S.tr.length : Int)] } a E wI :=
  ⟨h.n1, h.n2, ⟨⟨h.wf.ord.big, h.wf.ord.sc, h.wf.ord.pl, h.wf.ord.ov, h.wf.ord.ovl⟩, h.wf.vals, h.wf.lev, h.wf.rea, h.wf.sav, h.wf.seen, h.wf.watch, h.wf.bump, h.wf.scp⟩, h.hp, h.free, h.trl.start hs, h.cla, h.wat, ⟨h.rsn.by_, fun i l hi hr => by
    have hi2 : i < S.tr.length := (List.getElem?_eq_some_iff.1 hi).1
    rcases h.rsn.no i l hi hr with ⟨k, hk, e⟩ | ⟨hA, hd⟩
    · refine .inl ⟨k, by show k < (S.st ++ _).length; rw [List.length_append]; omega, ?_⟩
      show (S.st ++ _).getD k 0 = _
      rw [getD_snoc, if_pos hk]
      exact e
    · refine .inr ⟨⟨Nat.zero_le _, fun k hk => ?_⟩, hd⟩
      have hk : k < (S.st ++ [(S.tr.length : Int)]).length := hk
      show (S.st ++ [(S.tr.length : Int)]).getD k 0 ≤ (i : Int) ↔ k < 0
      rw [List.length_append, List.length_singleton] at hk
      rw [getD_snoc]
      by_cases e : k < S.st.length
      · rw [if_pos e]; exact hA.2 k e
      · rw [if_neg e, if_pos (by omega)]
        omega⟩, h.pro, h.wl, h.ale, h.big⟩
/-- what a decision leaves -/
structure DecR (n : Nat) (N : List (List Int)) (U : Int) (S : Sz) (a : Nat) (S' : Sz) : Prop where
  mid : Mid n N U S' a noE S'.watch
  at_ : S'.at' = S.at'
  tr : ∃ l, S'.tr = S.tr ++ [l]
  st : S'.st = S.st ++ [(S.tr.length : Int)]
  cls : S'.cls = S.cls
  all : S'.all = S.all
  prf : S'.prf = S.prf
  nl : S'.nl = S.nl
  seen : S'.seen = S.seen
  learned : S'.learned = S.learned
  rea : ReaK S'
theorem letO_heap {S : Sz} {l : Int} {rn : Option Nat} {S1 : Sz} (o p : List Int) (h : letO S l rn = some (true, S1)) (hS : S1 = letS S l rn) (h0 : litO S l = some 0) : letO { S with ov := o, pl := p } l rn = some (true, { S1 with ov := o, pl := p }) := by
  unfold letO at h ⊢
  have h0' : litO { S with ov := o, pl := p } l = some 0 := h0
  rw [h0', Option.bind_some]
  rw [h0, Option.bind_some] at h
  rw [if_neg (by decide), if_neg (by decide)] at h ⊢
  split at h
  · rename_i hr
    rw [if_pos hr]
    subst hS
    rfl
  · cases h
theorem decide_ok (h : Mid n N U S a noE S.watch) (hs : ∀ k, k < S.st.length → S.st.getD k 0 < S.tr.length) (hrea : ReaK S) :
    ∃ q, decideO S = some q ∧ ((q.1 = 0 ∧ q.2.vals = S.vals ∧ ∀ v : Nat, 1 ≤ v → v < n → S.vals.getD v 0 ≠ 0) ∨
      (q.1 ≠ 0 ∧ ∃ (sv : Bool) (S' : Sz), q.2.sav[q.1.toNat]? = some sv ∧ letO { q.2 with st := q.2.st ++ [(q.2.tr.length : Int)] } (if sv then q.1 else -q.1) none = some (true, S') ∧ DecR n N U S a S')) := by
  obtain ⟨q, e1, wf2, hp2, hO, hq, hf⟩ := decideF_ok h.n1 (S.ov.length + 1) (Nat.lt_succ_self _) h.wf h.hp
  refine ⟨q, e1, ?_⟩
  obtain ⟨q1, Q⟩ := q
  dsimp only at wf2 hp2 hO hq hf ⊢
  have hQ : Q = { S with ov := Q.ov, pl := Q.pl } := hO
  rcases hq with ⟨e, e2⟩ | ⟨v, e, v1, v2, v3⟩
  · refine .inl ⟨e, by rw [hQ], fun v v1 v2 v3 => ?_⟩
    have h1 := hf v v1 v2 v3 (h.free v v1 v2 v3) (by omega)
    rcases hp2.bwd v v1 v2 with e3 | ⟨k, hk, _⟩
    · omega
    · omega
  · right
    subst e
    refine ⟨by omega, ?_⟩
    have hsl : Q.sav.length = n := wf2.sav
    obtain ⟨sv, hsv⟩ : ∃ x, Q.sav[v]? = some x := ⟨_, List.getElem?_eq_getElem (by omega)⟩
    obtain ⟨l, hl⟩ : ∃ l : Int, (if sv then (v : Int) else -(v : Int)) = l := ⟨_, rfl⟩
    have hla : l.natAbs = v := by rw [← hl]; cases sv <;> simp
    have hM := h.start hs
    have h0 : litV S.vals l = 0 := litV_abs.2 (by rw [hla]; exact v3)
    obtain ⟨a1, a2⟩ := hM.let_ (l := l) (rn := none) (by omega) (by omega) h0 (.inl ⟨S.st.length, by show _ < (S.st ++ _).length; rw [List.length_append, List.length_singleton]; omega, by show (S.st ++ _).getD _ 0 = _; rw [getD_snoc, if_neg (by omega), if_pos rfl]⟩)
    have a3 := letO_heap Q.ov Q.pl a1 rfl (by rw [litO_val hM.wf (by omega)]; exact congrArg some h0)
    have hvl : S.vals.length = n := h.wf.vals.1
    have hwfT : WF n { S with ov := Q.ov, pl := Q.pl, st := S.st ++ [(S.tr.length : Int)] } := by
      rw [hQ] at wf2
      exact ⟨⟨wf2.ord.big, wf2.ord.sc, wf2.ord.pl, wf2.ord.ov, wf2.ord.ovl⟩, wf2.vals, wf2.lev, wf2.rea, wf2.sav, wf2.seen, wf2.watch, wf2.bump, wf2.scp⟩
    have hM2 := a2.heap (o := Q.ov) (p := Q.pl) (let_wf hwfT l none) hp2 (fun w w1 w2 w3 => by
      have w3 : (S.vals.set l.natAbs (if l < 0 then -1 else 1)).getD w 0 = 0 := w3
      rw [getD_set (by omega)] at w3
      split at w3
      · split at w3 <;> omega
      · rename_i hne
        exact hf w w1 w2 w3 (h.free w w1 w2 w3) (by omega))
    refine ⟨sv, _, by rw [show ((v : Int)).toNat = v from Int.toNat_natCast v]; exact hsv, ?_, ⟨hM2, rfl, ⟨l, rfl⟩, rfl, rfl, rfl, rfl, rfl, rfl, rfl, ?_⟩⟩
    · rw [hl]
      conv => lhs; rw [hQ]
      exact a3
    · exact (letO_rea a1 hrea (fun c e => by cases e)).1
end
end Go.Proofs.Ytkpppmldbhgcgaa
/- Sat, plain: lines of a proof; all else that holds of the solver in the search. -/
set_option autoImplicit false
set_option linter.unusedVariables false
set_option linter.unusedSimpArgs false
namespace Go.Proofs.Ytkpppmldbhgcgaa
open Go
/-! ### lines -/
def Lns (V : Int) (N : List (List Int)) : List (Bool × List Int) → Prop
  | [] => True
  | p :: r => p.1 = false ∧ D.fairZ V p.2 = true ∧ D.Fol N p.2 ∧ p.2 ≠ [] ∧ Lns V (N ++ [p.2]) r
def sizeP (ls : List (Bool × List Int)) : Nat := (ls.map fun p => 1 + p.2.length).sum
theorem sizeP_snoc (ls : List (Bool × List Int)) (p : Bool × List Int) : sizeP (ls ++ [p]) = sizeP ls + (1 + p.2.length) := by
  unfold sizeP
  rw [List.map_append, List.sum_append]
  simp
theorem sizeP_len (ls : List (Bool × List Int)) : ls.length ≤ sizeP ls := by
  induction ls with
  | nil => exact Nat.zero_le _
  | cons p r ih =>
    unfold sizeP at ih ⊢
    rw [List.map_cons, List.sum_cons, List.length_cons]
    omega
theorem Lns.snoc {V : Int} : ∀ (ls : List (Bool × List Int)) {N : List (List Int)} {p : Bool × List Int}, Lns V N ls → p.1 = false → D.fairZ V p.2 = true → D.Fol (N ++ ls.map Prod.snd) p.2 → p.2 ≠ [] → Lns V N (ls ++ [p])
  | [], N, p, _, h1, h2, h3, h4 => ⟨h1, h2, by rw [List.map_nil, List.append_nil] at h3; exact h3, h4, trivial⟩
  | q :: r, N, p, ⟨a1, a2, a3, a4, a5⟩, h1, h2, h3, h4 => ⟨a1, a2, a3, a4, Lns.snoc r a5 h1 h2 (by rw [List.append_assoc]; exact h3) h4⟩
theorem Lns.rup {V : Int} : ∀ (ls : List (Bool × List Int)) {N : List (List Int)} (n : Nat), Lns V N ls → D.Fol (N ++ ls.map Prod.snd) [] → n + sizeP ls + 1 ≤ 200000 → Rup V n N (ls ++ [(false, [])])
  | [], N, n, _, h, hs => ⟨rfl, by show n + 1 + 0 ≤ _; have : sizeP [] = 0 := rfl; omega, rfl, by rw [List.map_nil, List.append_nil] at h; exact h, .inl rfl⟩
  | q :: r, N, n, ⟨a1, a2, a3, a4, a5⟩, h, hs => by
    have e : sizeP (q :: r) = 1 + q.2.length + sizeP r := rfl
    exact ⟨a1, by omega, a2, a3, .inr (Lns.rup r _ a5 (by rw [List.append_assoc]; exact h) (by omega))⟩
/-! ### what a literal of level nought is -/
def Low (tr st : List Int) (x : Int) : Prop := ∃ i : Nat, tr[i]? = some x ∧ ∀ k : Nat, k < st.length → (i : Int) < st.getD k 0
theorem Low.pre {tr tr' st : List Int} {x : Int} (h : Low tr st x) (hp : tr <+: tr') : Low tr' st x := by
  obtain ⟨i, hi, hk⟩ := h
  obtain ⟨e, rfl⟩ := hp
  exact ⟨i, by rw [List.getElem?_append_left (List.getElem?_eq_some_iff.1 hi).1]; exact hi, hk⟩
theorem Low.start {tr st : List Int} {x : Int} (h : Low tr st x) : Low tr (st ++ [(tr.length : Int)]) x := by
  obtain ⟨i, hi, hk⟩ := h
  have := (List.getElem?_eq_some_iff.1 hi).1
  refine ⟨i, hi, fun k hk2 => ?_⟩
  rw [List.length_append, List.length_singleton] at hk2
  rw [getD_snoc]
  by_cases e : k < st.length
  · rw [if_pos e]; exact hk k e
  · rw [if_neg e, if_pos (by omega)]; omega
theorem Low.back {tr st : List Int} {x : Int} {level fr : Nat} (h : Low tr st x) (hl : level < st.length) (hf : st.getD level 0 = (fr : Int)) : Low (tr.take fr) (st.take level) x := by
  obtain ⟨i, hi, hk⟩ := h
  have := hk level hl
  refine ⟨i, by rw [List.getElem?_take, if_pos (by omega)]; exact hi, fun k hk2 => ?_⟩
  rw [List.length_take] at hk2
  rw [getD_take, if_pos (by omega)]
  exact hk k (by omega)
/-- a clause of the formula is there -/
def RepC (S : Sz) (c : List Int) : Prop := (∃ x ∈ c, -x ∈ c) ∨ (∃ (i : Nat) (z : Cz), S.cls[i]? = some z ∧ ∀ y, y ∈ z.lits ↔ y ∈ c) ∨ ∃ x ∈ c, Low S.tr S.st x
theorem RepC.step {S S' : Sz} {c : List Int} (h : RepC S c) (hp : SameP S S') (hl : ∀ x, Low S.tr S.st x → Low S'.tr S'.st x) : RepC S' c := by
  rcases h with h | ⟨i, z, hz, hs⟩ | ⟨x, hx, h⟩
  · exact .inl h
  · obtain ⟨z', hz', hpm⟩ := hp i z hz
    exact .inr (.inl ⟨i, z', hz', fun y => hpm.mem_iff.trans (hs y)⟩)
  · exact .inr (.inr ⟨x, hx, hl x h⟩)
/-- all else that holds, after m conflicts -/
structure Aux (V : Int) (cs : List (List Int)) (m : Nat) (S : Sz) : Prop where
  seen : ∀ v : Nat, S.seen.getD v false = false
  prf : Lns V cs S.prf
  nl : S.nl = (sizeP S.prf : Int)
  nl2 : sizeP S.prf ≤ 200000
  all : S.all.length ≤ S.cls.length
  allK : ∀ i ∈ S.all, i < S.cls.length
  rea : ReaK S
  len : S.cls.length ≤ cs.length + m
  lrn : 0 ≤ S.learned ∧ S.learned ≤ (m : Int)
  rep : ∀ c ∈ cs, RepC S c
theorem Aux.step {V : Int} {cs : List (List Int)} {m : Nat} {S S' : Sz} (h : Aux V cs m S) (e1 : S'.seen = S.seen) (e2 : S'.prf = S.prf) (e3 : S'.nl = S.nl) (e4 : S'.all = S.all) (e5 : S'.cls.length = S.cls.length) (e6 : ReaK S') (e7 : S'.learned = S.learned) (e8 : SameP S S') (e9 : ∀ x, Low S.tr S.st x → Low S'.tr S'.st x) : Aux V cs m S' :=
  ⟨by rw [e1]; exact h.seen, by rw [e2]; exact h.prf, by rw [e3, e2]; exact h.nl, by rw [e2]; exact h.nl2, by rw [e4, e5]; exact h.all, by rw [e4, e5]; exact h.allK, e6, by rw [e5]; exact h.len, by rw [e7]; exact h.lrn, fun c hc => (h.rep c hc).step e8 e9⟩
theorem sameP_cls {S S' : Sz} (e : S'.cls = S.cls) : SameP S S' := fun c z hz => ⟨z, by rw [e]; exact hz, List.Perm.refl _⟩
/-- all that holds at the head of the search -/
structure Sk (n : Nat) (V : Int) (cs : List (List Int)) (m : Nat) (S : Sz) (A : Nat) : Prop where
  at_ : S.at' = (A : Int)
  mid : Mid n (cs ++ S.prf.map Prod.snd) ((n : Int) * m + 1) S A noE S.watch
  stA : ∀ k : Nat, k < S.st.length → S.st.getD k 0 ≤ (A : Int)
  stT : ∀ k : Nat, k < S.st.length → S.st.getD k 0 < S.tr.length
  aux : Aux V cs m S
/-- the bounds of a row that is logged -/
theorem nd_short {n : Nat} {L : List Int} (hn : (L.map Int.natAbs).Nodup) (hl : ∀ y ∈ L, y.natAbs < n) : L.length ≤ n := by
  have := List.Nodup.length_le_of_subset hn (fun v hv => by
    obtain ⟨y, hy, rfl⟩ := List.mem_map.1 hv
    exact List.mem_range.2 (hl y hy) : L.map Int.natAbs ⊆ List.range n)
  simpa using this
section
variable {n : Nat} {V : Int} {cs : List (List Int)} {m : Nat} {S : Sz} {A : Nat}
/-- all is propagated, then there is no conflict: what is left -/
theorem Sk.spread (h : Sk n V cs m S A) : ∃ r, spreadO S = some r ∧ Aux V cs m r.2 ∧ r.2.prf = S.prf ∧ r.2.st = S.st ∧ S.tr.length ≤ r.2.tr.length ∧ (∀ k : Nat, k < r.2.st.length → r.2.st.getD k 0 < r.2.tr.length) ∧
    (r.1 = none → Sk n V cs m r.2 r.2.tr.length) ∧ (∀ c, r.1 = some c → Cfl r.2 c ∧ ∃ B : Nat, (∀ k : Nat, k < r.2.st.length → r.2.st.getD k 0 ≤ (B : Int)) ∧ Mid n (cs ++ r.2.prf.map Prod.snd) ((n : Int) * m + 1) r.2 B noE r.2.watch) ∧ S.tr <+: r.2.tr ∧ SameP S r.2 ∧ r.2.cls.length = S.cls.length := by
  obtain ⟨r, e1, e2, e3, e4⟩ := spread_ok h.at_ h.mid h.stA
  have hst := e2.st
  have hpl : S.tr.length ≤ r.2.tr.length := by obtain ⟨x, hx⟩ := e2.pre; rw [← hx, List.length_append]; omega
  have hT : ∀ k : Nat, k < r.2.st.length → r.2.st.getD k 0 < r.2.tr.length := fun k hk => by
    rw [hst] at hk ⊢
    have := h.stT k hk
    omega
  have hA := h.aux.step e2.seen e2.prf e2.nl e2.all e2.len (spreadO_rea e1 h.aux.rea) e2.learned e2.prs (fun x hx => by rw [hst]; exact hx.pre e2.pre)
  refine ⟨r, e1, hA, e2.prf, hst, hpl, hT, fun e => ?_, fun c e => ?_, e2.pre, e2.prs, e2.len⟩
  · obtain ⟨a1, a2⟩ := e3 e
    exact ⟨a1, by rw [e2.prf]; exact a2, fun k hk => Int.le_of_lt (hT k hk), hT, hA⟩
  · obtain ⟨a1, B, a2, a3⟩ := e4 c e
    exact ⟨a1, B, a2, by rw [e2.prf]; exact a3⟩
/-- a restart -/
theorem Sk.restart (h : Sk n V cs m S A) : ∃ S', backO S 0 = some S' ∧ (∃ A', Sk n V cs m S' A') ∧ (S.st.length = 0 → S' = S) ∧ (0 < S.st.length → ∃ fr : Nat, S.st.getD 0 0 = (fr : Int) ∧ fr ≤ S.tr.length ∧ S'.tr = S.tr.take fr ∧ S'.st = []) ∧ S'.cls = S.cls ∧ S'.prf = S.prf := by
  by_cases h0 : S.st.length = 0
  · exact ⟨S, by unfold backO; rw [if_pos (by omega)], ⟨A, h⟩, fun _ => rfl, fun e => by omega, rfl, rfl⟩
  · obtain ⟨fr, S', a1, a2, a3, b⟩ := back_ok h.mid h.stA h.stT (level := 0) (by omega)
    refine ⟨S', a3, ⟨fr, b.at_, by rw [b.prf]; exact b.mid, fun k hk => Int.le_of_lt (b.lt k hk), fun k hk => ?_, ?_⟩, fun e => absurd e h0, fun _ => ⟨fr, a1, by have := h.stT 0 (by omega); omega, b.tr, by rw [b.st]; simp⟩, b.cls, b.prf⟩
    · rw [b.st] at hk
      simp at hk
    · exact h.aux.step b.seen b.prf b.nl b.all (by rw [b.cls]) (backO_rea h.mid.wf a3 h.aux.rea) b.learned (sameP_cls b.cls) (fun x hx => by rw [b.tr, b.st]; exact hx.back (by omega) a1)
/-- a decision -/
theorem Sk.decide_ (h : Sk n V cs m S S.tr.length) : ∃ q, decideO S = some q ∧ ((q.1 = 0 ∧ q.2.vals = S.vals ∧ ∀ v : Nat, 1 ≤ v → v < n → S.vals.getD v 0 ≠ 0) ∨
      (q.1 ≠ 0 ∧ ∃ (sv : Bool) (S' : Sz), q.2.sav[q.1.toNat]? = some sv ∧ letO { q.2 with st := q.2.st ++ [(q.2.tr.length : Int)] } (if sv then q.1 else -q.1) none = some (true, S') ∧ Sk n V cs m S' S.tr.length ∧ S'.tr.length = S.tr.length + 1 ∧ (∃ l, S'.tr = S.tr ++ [l]) ∧ S'.st = S.st ++ [(S.tr.length : Int)] ∧ S'.cls = S.cls ∧ S'.prf = S.prf)) := by
  obtain ⟨q, e1, e2⟩ := decide_ok h.mid h.stT h.aux.rea
  refine ⟨q, e1, e2.imp id ?_⟩
  rintro ⟨a1, sv, S', a2, a3, d⟩
  obtain ⟨l, hl⟩ := d.tr
  have hlen : S'.tr.length = S.tr.length + 1 := by rw [hl, List.length_append, List.length_singleton]
  have hst : ∀ k : Nat, k < S'.st.length → S'.st.getD k 0 ≤ (S.tr.length : Int) := fun k hk => by
    rw [d.st, List.length_append, List.length_singleton] at hk
    rw [d.st, getD_snoc]
    by_cases e : k < S.st.length
    · rw [if_pos e]; exact Int.le_of_lt (h.stT k e)
    · rw [if_neg e, if_pos (by omega)]; exact Int.le_refl _
  refine ⟨a1, sv, S', a2, a3, ⟨d.at_.trans h.at_, by rw [d.prf]; exact d.mid, hst, fun k hk => by have := hst k hk; omega, ?_⟩, hlen, ⟨l, hl⟩, d.st, d.cls, d.prf⟩
  exact h.aux.step d.seen d.prf d.nl d.all (by rw [d.cls]) d.rea d.learned (sameP_cls d.cls) (fun x hx => by rw [d.st, hl]; exact hx.start.pre (List.prefix_append _ _))
end
end Go.Proofs.Ytkpppmldbhgcgaa

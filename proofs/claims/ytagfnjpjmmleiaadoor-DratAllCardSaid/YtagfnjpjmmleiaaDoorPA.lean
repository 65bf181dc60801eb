/- Drat: the document's own propagating, as a plain law. -/
import Derived.Test.YtagfnjpjmmleiaaDoorR
set_option linter.unusedVariables false
set_option linter.unusedSimpArgs false
set_option autoImplicit false
set_option linter.unusedVariables false
namespace Go.Proofs.YtagfnjpjmmleiaaDoor
/-- what a literal is -/
def litV (vs : List Int) (x : Int) : Int := if x < 0 then -(vs.getD x.natAbs 0) else vs.getD x.natAbs 0
/-- one literal of a clause: open, more, holds -/
def scan1 (vs : List Int) (s : Int × Bool × Bool) (x : Int) : Int × Bool × Bool :=
  (if litV vs x = 0 then x else s.1, s.2.1 || (decide (litV vs x = 0) && (decide (s.1 ≠ 0) && decide (s.1 ≠ x))), s.2.2 || decide (litV vs x = 1))
def scan (vs : List Int) (zs : List Int) : Int × Bool × Bool := zs.foldl (scan1 vs) (0, false, false)
theorem scan_snoc {vs zs : List Int} {x : Int} : scan vs (zs ++ [x]) = scan1 vs (scan vs zs) x := by simp [scan]
/-- a literal is made true -/
def setV (vs : List Int) (x : Int) : List Int := if 0 < x then vs.set x.natAbs 1 else vs.set x.natAbs (-1)
/-- one clause: values, and has something been set? -/
def pass1 (s : Option (List Int × Bool)) (zs : List Int) : Option (List Int × Bool) :=
  s.bind fun (vs, b) => let (o, m, h) := scan vs zs
    if (h || m) = true then some (vs, b) else if o = 0 then none else some (setV vs o, true)
def pass (vs : List Int) (cs : List (List Int)) : Option (List Int × Bool) := cs.foldl pass1 (some (vs, false))
theorem pass_snoc {vs : List Int} {cs : List (List Int)} {zs : List Int} : pass vs (cs ++ [zs]) = pass1 (pass vs cs) zs := by simp [pass]
theorem pass_none : ∀ (cs : List (List Int)), cs.foldl pass1 none = none
  | [] => rfl
  | c :: cs => pass_none cs
/-- a pass that ends early ends so -/
theorem pass_fail {vs : List Int} {cs : List (List Int)} {k : Nat} (h : pass vs (cs.take k) = none) : pass vs cs = none := by
  have : cs = cs.take k ++ cs.drop k := (List.take_append_drop k cs).symm
  unfold pass at h ⊢
  rw [this, List.foldl_append, h, pass_none]
/-- is there a conflict? -/
inductive Prp (cs : List (List Int)) : List Int → Bool → Prop
  | conf (vs : List Int) : pass vs cs = none → Prp cs vs true
  | done (vs vs' : List Int) : pass vs cs = some (vs', false) → Prp cs vs false
  | more (vs vs' : List Int) (b : Bool) : pass vs cs = some (vs', true) → Prp cs vs' b → Prp cs vs b
/-- values that may be -/
def Fine (n : Nat) (vs : List Int) : Prop := vs.length = n ∧ ∀ y ∈ vs, -1 ≤ y ∧ y ≤ 1
theorem Fine.get {n : Nat} {vs : List Int} (h : Fine n vs) (m : Nat) : -1 ≤ vs.getD m 0 ∧ vs.getD m 0 ≤ 1 := by
  by_cases hm : m < vs.length
  · rw [List.getD_eq_getElem?_getD, List.getElem?_eq_getElem hm]
    exact h.2 _ (List.getElem_mem hm)
  · rw [List.getD_eq_getElem?_getD, List.getElem?_eq_none (by omega)]
    exact ⟨by decide, by decide⟩
theorem Fine.set {n : Nat} {vs : List Int} (h : Fine n vs) (m : Nat) {y : Int} (hy : -1 ≤ y ∧ y ≤ 1) : Fine n (vs.set m y) := by
  refine ⟨by rw [List.length_set]; exact h.1, fun z hz => ?_⟩
  rcases List.mem_or_eq_of_mem_set hz with h1 | rfl
  · exact h.2 z h1
  · exact hy
theorem Fine.setV {n : Nat} {vs : List Int} (h : Fine n vs) (x : Int) : Fine n (setV vs x) := by
  unfold YtagfnjpjmmleiaaDoor.setV
  split
  · exact h.set _ (by decide)
  · exact h.set _ (by decide)
/-- literals that may be -/
def Lits (n : Nat) (zs : List Int) : Prop := ∀ x ∈ zs, x ≠ 0 ∧ x.natAbs < n
/-- what is open is a literal of the clause that is not known -/
theorem scan_open {vs zs : List Int} (h : (scan vs zs).1 ≠ 0) : (scan vs zs).1 ∈ zs ∧ litV vs (scan vs zs).1 = 0 := by
  have key : ∀ (ys : List Int) (s : Int × Bool × Bool), (ys.foldl (scan1 vs) s).1 ≠ 0 → (ys.foldl (scan1 vs) s).1 = s.1 ∨ ((ys.foldl (scan1 vs) s).1 ∈ ys ∧ litV vs (ys.foldl (scan1 vs) s).1 = 0) := by
    intro ys
    induction ys with
    | nil => intro s _; exact .inl rfl
    | cons y ys ih =>
      intro s hs
      rcases ih (scan1 vs s y) hs with e | ⟨e1, e2⟩
      · have e : (List.foldl (scan1 vs) s (y :: ys)).1 = (scan1 vs s y).1 := e
        by_cases hy : litV vs y = 0
        · have : (scan1 vs s y).1 = y := if_pos hy
          rw [this] at e
          exact .inr (by rw [e]; exact ⟨List.mem_cons_self .., hy⟩)
        · have : (scan1 vs s y).1 = s.1 := if_neg hy
          rw [this] at e
          exact .inl e
      · exact .inr ⟨List.mem_cons_of_mem _ e1, e2⟩
  rcases key zs (0, false, false) h with e | e
  · exact absurd e h
  · exact e
/-- how many are not known -/
def zeros (vs : List Int) : Nat := vs.count 0
theorem zeros_set {vs : List Int} {m : Nat} {y : Int} (hm : m < vs.length) (h0 : vs.getD m 0 = 0) (hy : y ≠ 0) : zeros (vs.set m y) < zeros vs := by
  unfold zeros
  rw [List.count_set hm]
  rw [List.getD_eq_getElem?_getD, List.getElem?_eq_getElem hm] at h0
  have h0 : vs[m] = 0 := h0
  have hp : 0 < vs.count 0 := List.count_pos_iff.2 (h0 ▸ List.getElem_mem hm)
  simp [h0, hy]
  omega
theorem litV_zero {vs : List Int} {x : Int} (h : litV vs x = 0) : vs.getD x.natAbs 0 = 0 := by
  unfold litV at h
  split at h <;> omega
theorem zeros_setV {n : Nat} {vs : List Int} {x : Int} (hf : Fine n vs) (hx : x.natAbs < n) (h : litV vs x = 0) : zeros (setV vs x) < zeros vs := by
  have h0 := litV_zero h
  unfold setV
  split
  · exact zeros_set (by rw [hf.1]; exact hx) h0 (by decide)
  · exact zeros_set (by rw [hf.1]; exact hx) h0 (by decide)
/-- what a pass leaves -/
theorem pass_fine {n : Nat} {vs : List Int} (hf : Fine n vs) : ∀ {cs : List (List Int)} {vs' : List Int} {b : Bool}, (∀ c ∈ cs, Lits n c) → pass vs cs = some (vs', b) → Fine n vs' ∧ (if b = true then zeros vs' < zeros vs else vs' = vs) := by
  have key : ∀ (cs : List (List Int)) (v1 : List Int) (b1 : Bool) (vs' : List Int) (b : Bool), (∀ c ∈ cs, Lits n c) → Fine n v1 → (if b1 = true then zeros v1 < zeros vs else v1 = vs) → cs.foldl pass1 (some (v1, b1)) = some (vs', b) → Fine n vs' ∧ (if b = true then zeros vs' < zeros vs else vs' = vs) := by
    intro cs
    induction cs with
    | nil => intro v1 b1 vs' b _ h1 h2 h; cases h; exact ⟨h1, h2⟩
    | cons c cs ih =>
      intro v1 b1 vs' b hl h1 h2 h
      have hlc := hl c (List.mem_cons_self ..)
      have hl' : ∀ c ∈ cs, Lits n c := fun d hd => hl d (List.mem_cons_of_mem _ hd)
      have h : cs.foldl pass1 (pass1 (some (v1, b1)) c) = some (vs', b) := h
      have so := scan_open (vs := v1) (zs := c)
      have e : pass1 (some (v1, b1)) c = if ((scan v1 c).2.2 || (scan v1 c).2.1) = true then some (v1, b1) else if (scan v1 c).1 = 0 then none else some (setV v1 (scan v1 c).1, true) := rfl
      rw [e] at h
      split at h
      · exact ih _ _ _ _ hl' h1 h2 h
      · split at h
        · rw [pass_none] at h; cases h
        · rename_i hne
          obtain ⟨m1, m2⟩ := so hne
          have z := zeros_setV h1 (hlc _ m1).2 m2
          refine ih _ _ _ _ hl' (h1.setV _) ?_ h
          rw [if_pos rfl]
          cases b1 with
          | true => rw [if_pos rfl] at h2; omega
          | false => rw [if_neg (by decide)] at h2; rw [h2] at z ⊢; exact z
  intro cs vs' b hl h
  exact key cs vs false vs' b hl hf (by rw [if_neg (by decide)]) h
end Go.Proofs.YtagfnjpjmmleiaaDoor

/- Drat: propagating ends alike in whatever order: there is a conflict just where all of a clause's literals are derived to be false. -/
import Derived.Test.YtkpppmldbhgcgaaDpPBtoDpPC
import Derived.Test.YtkpppmldbhgcgaaDpPDtoDpQA
set_option linter.unusedVariables false
set_option linter.unusedSimpArgs false
set_option autoImplicit false
set_option linter.unusedVariables false
namespace Go.Proofs.Ytkpppmldbhgcgaa.D
open Go.Proofs Go
/-- what unit propagation derives -/
inductive Der (cs : List (List Int)) (S : Int → Prop) : Int → Prop
  | init (x : Int) : S x → Der cs S x
  | unit (c : List Int) (x : Int) : c ∈ cs → x ∈ c → (∀ y ∈ c, y ≠ x → Der cs S (-y)) → Der cs S x
/-- a clause that can't hold -/
def Confl (cs : List (List Int)) (S : Int → Prop) : Prop := ∃ c ∈ cs, ∀ y ∈ c, Der cs S (-y)
theorem foldl_inv {α σ : Type} {f : σ → α → σ} {P : List α → σ → Prop} (hs : ∀ pre x s, P pre s → P (pre ++ [x]) (f s x)) : ∀ (zs pre : List α) (s : σ), P pre s → P (pre ++ zs) (zs.foldl f s)
  | [], pre, s, h => by rw [List.append_nil]; exact h
  | z :: zs, pre, s, h => by
    have := foldl_inv hs zs (pre ++ [z]) (f s z) (hs pre z s h)
    rwa [List.append_assoc] at this
theorem litV_neg {vs : List Int} {x : Int} (hx : x ≠ 0) : litV vs (-x) = -litV vs x := by
  unfold litV
  rw [Int.natAbs_neg]
  by_cases h : x < 0
  · rw [if_pos h, if_neg (by omega), Int.neg_neg]
  · rw [if_neg h, if_pos (by omega)]
theorem litV_fine {n : Nat} {vs : List Int} (hf : Fine n vs) (x : Int) : litV vs x = -1 ∨ litV vs x = 0 ∨ litV vs x = 1 := by
  have := hf.get x.natAbs
  unfold litV
  split <;> omega
theorem litV_setV {n : Nat} {vs : List Int} {o : Int} (hf : Fine n vs) (ho : o ≠ 0) (hn : o.natAbs < n) (x : Int) : litV (setV vs o) x = if x = o then 1 else if x = -o then -1 else litV vs x := by
  have key : ∀ (y : Int), (vs.set o.natAbs y).getD x.natAbs 0 = if x.natAbs = o.natAbs then y else vs.getD x.natAbs 0 := by
    intro y
    by_cases h : x.natAbs = o.natAbs
    · rw [if_pos h, h, List.getD_eq_getElem?_getD, List.getElem?_set_self (by rw [hf.1]; exact hn)]; rfl
    · rw [if_neg h, List.getD_eq_getElem?_getD, List.getElem?_set_ne (fun e => h e.symm), List.getD_eq_getElem?_getD]
  unfold litV setV
  by_cases hp : 0 < o
  · rw [if_pos hp, key]
    by_cases h1 : x = o
    · subst h1; rw [if_pos rfl, if_neg (by omega), if_pos rfl]
    · rw [if_neg h1]
      by_cases h2 : x = -o
      · subst h2; rw [if_pos rfl, if_pos (by omega), if_pos (by omega)]
      · rw [if_neg h2, if_neg (show ¬ x.natAbs = o.natAbs by omega)]
  · rw [if_neg hp, key]
    by_cases h1 : x = o
    · subst h1; rw [if_pos rfl, if_pos (by omega), if_pos rfl]; rfl
    · rw [if_neg h1]
      by_cases h2 : x = -o
      · subst h2; rw [if_pos rfl, if_neg (by omega), if_pos (by omega)]
      · rw [if_neg h2, if_neg (show ¬ x.natAbs = o.natAbs by omega)]
/-- what a clause's look tells -/
theorem scan_spec (vs zs : List Int) : ((scan vs zs).2.2 = true ↔ ∃ y ∈ zs, litV vs y = 1) ∧ ((scan vs zs).2.1 = false → ∀ y ∈ zs, litV vs y = 0 → y ≠ 0 → y = (scan vs zs).1) ∧ ((scan vs zs).2.1 = true → ∃ y1 ∈ zs, ∃ y2 ∈ zs, y1 ≠ y2 ∧ litV vs y1 = 0 ∧ litV vs y2 = 0) := by
  have := foldl_inv (f := scan1 vs) (P := fun pre s => (s.2.2 = true ↔ ∃ y ∈ pre, litV vs y = 1) ∧ (s.2.1 = false → ∀ y ∈ pre, litV vs y = 0 → y ≠ 0 → y = s.1) ∧ (s.2.1 = true → ∃ y1 ∈ pre, ∃ y2 ∈ pre, y1 ≠ y2 ∧ litV vs y1 = 0 ∧ litV vs y2 = 0) ∧ (s.1 ≠ 0 → s.1 ∈ pre ∧ litV vs s.1 = 0)) (fun pre x s ⟨h1, h2, h3, h4⟩ => ?_) zs [] (0, false, false) ⟨by simp, by simp, by simp, by simp⟩
  · obtain ⟨a, b, c, _⟩ := this
    exact ⟨a, b, c⟩
  · obtain ⟨o, m, h⟩ := s
    refine ⟨?_, ?_, ?_, ?_⟩
    · simp only [scan1, Bool.or_eq_true, decide_eq_true_eq]
      constructor
      · rintro (e | e)
        · obtain ⟨y, hy, e⟩ := h1.1 e
          exact ⟨y, List.mem_append_left _ hy, e⟩
        · exact ⟨x, by simp, e⟩
      · rintro ⟨y, hy, e⟩
        rcases List.mem_append.1 hy with hy | hy
        · exact .inl (h1.2 ⟨y, hy, e⟩)
        · rw [List.mem_singleton] at hy
          exact .inr (hy ▸ e)
    · intro hm y hy e hy0
      simp only [scan1] at hm ⊢
      have hm0 : m = false := by cases m with
        | false => rfl
        | true => simp at hm
      rcases List.mem_append.1 hy with hy | hy
      · have e2 : y = o := h2 hm0 y hy e hy0
        by_cases hx : litV vs x = 0
        · rw [if_pos hx]
          rw [hm0] at hm
          have ho : o ≠ 0 := e2 ▸ hy0
          simp [hx, ho] at hm
          rw [e2, hm]
        · rw [if_neg hx]; exact e2
      · rw [List.mem_singleton] at hy
        subst hy
        rw [if_pos e]
    · intro hm
      simp only [scan1, Bool.or_eq_true, Bool.and_eq_true, decide_eq_true_eq] at hm
      rcases hm with e | ⟨e1, e2, e3⟩
      · obtain ⟨y1, a1, y2, a2, a3⟩ := h3 e
        exact ⟨y1, List.mem_append_left _ a1, y2, List.mem_append_left _ a2, a3⟩
      · obtain ⟨a1, a2⟩ := h4 e2
        exact ⟨o, List.mem_append_left _ a1, x, by simp, e3, a2, e1⟩
    · intro ho
      simp only [scan1] at ho ⊢
      by_cases hx : litV vs x = 0
      · rw [if_pos hx]; exact ⟨by simp, hx⟩
      · rw [if_neg hx] at ho ⊢
        obtain ⟨a1, a2⟩ := h4 ho
        exact ⟨List.mem_append_left _ a1, a2⟩
/-- what propagating keeps: what is given is true; what is true is derived -/
structure Inv (cs : List (List Int)) (S : Int → Prop) (vs : List Int) : Prop where
  up : ∀ x, x ≠ 0 → S x → litV vs x = 1
  down : ∀ x, x ≠ 0 → litV vs x = 1 → Der cs S x
theorem pass1_eq (v : List Int) (b : Bool) (zs : List Int) : pass1 (some (v, b)) zs = if ((scan v zs).2.2 || (scan v zs).2.1) = true then some (v, b) else if (scan v zs).1 = 0 then none else some (setV v (scan v zs).1, true) := rfl
/-- one clause -/
theorem pass1_inv {n : Nat} {cs : List (List Int)} {S : Int → Prop} {v : List Int} {b : Bool} {c : List Int} (hf : Fine n v) (hi : Inv cs S v) (hc : c ∈ cs) (hl : Lits n c) :
    (pass1 (some (v, b)) c = none → Confl cs S) ∧ ∀ v' b', pass1 (some (v, b)) c = some (v', b') → Fine n v' ∧ Inv cs S v' ∧ (b' = false → b = false ∧ v' = v ∧ ((scan v c).2.2 || (scan v c).2.1) = true) := by
  rw [pass1_eq]
  obtain ⟨s1, s2, s3⟩ := scan_spec v c
  have so := scan_open (vs := v) (zs := c)
  by_cases hh : ((scan v c).2.2 || (scan v c).2.1) = true
  · rw [if_pos hh]
    exact ⟨fun h => (by cases h), fun v' b' h => (by cases h; exact ⟨hf, hi, fun e => ⟨e, rfl, hh⟩⟩)⟩
  · rw [if_neg hh]
    have hh2 : (scan v c).2.2 = false ∧ (scan v c).2.1 = false := by
      cases e1 : (scan v c).2.2 <;> cases e2 : (scan v c).2.1 <;> simp_all
    obtain ⟨e1, e2⟩ := hh2
    have n1 : ∀ y ∈ c, litV v y ≠ 1 := fun y hy e => by
      have := s1.2 ⟨y, hy, e⟩
      rw [e1] at this; cases this
    have n2 := s2 e2
    have neg : ∀ y ∈ c, litV v y = -1 → Der cs S (-y) := fun y hy e => hi.down (-y) (by have := (hl y hy).1; omega) (by rw [litV_neg (hl y hy).1, e]; rfl)
    by_cases ho : (scan v c).1 = 0
    · rw [if_pos ho]
      refine ⟨fun _ => ⟨c, hc, fun y hy => neg y hy ?_⟩, fun v' b' h => (by cases h)⟩
      rcases litV_fine hf y with e | e | e
      · exact e
      · exact absurd ((n2 y hy e (hl y hy).1).trans ho) (hl y hy).1
      · exact absurd e (n1 y hy)
    · rw [if_neg ho]
      obtain ⟨o1, o2⟩ := so ho
      obtain ⟨l1, l2⟩ := hl _ o1
      refine ⟨fun h => (by cases h), fun v' b' h => ?_⟩
      cases h
      refine ⟨hf.setV _, ⟨fun x hx hs => ?_, fun x hx e => ?_⟩, fun e => (by cases e)⟩
      · rw [litV_setV hf l1 l2]
        have hx1 := hi.up x hx hs
        by_cases h1 : x = (scan v c).1
        · rw [if_pos h1]
        · rw [if_neg h1]
          by_cases h2 : x = -(scan v c).1
          · rw [h2, litV_neg l1, o2] at hx1; omega
          · rw [if_neg h2]; exact hx1
      · rw [litV_setV hf l1 l2] at e
        by_cases h1 : x = (scan v c).1
        · rw [h1]
          refine .unit c _ hc o1 fun y hy hne => neg y hy ?_
          rcases litV_fine hf y with e | e | e
          · exact e
          · exact absurd (n2 y hy e (hl y hy).1) hne
          · exact absurd e (n1 y hy)
        · rw [if_neg h1] at e
          by_cases h2 : x = -(scan v c).1
          · rw [if_pos h2] at e; omega
          · rw [if_neg h2] at e; exact hi.down x hx e
/-- a pass -/
theorem pass_inv {n : Nat} {cs : List (List Int)} {S : Int → Prop} : ∀ (ds : List (List Int)) (v : List Int) (b : Bool), Fine n v → Inv cs S v → (∀ d ∈ ds, d ∈ cs) → (∀ d ∈ ds, Lits n d) →
    (ds.foldl pass1 (some (v, b)) = none → Confl cs S) ∧ ∀ v' b', ds.foldl pass1 (some (v, b)) = some (v', b') → Fine n v' ∧ Inv cs S v' ∧ (b' = false → b = false ∧ v' = v ∧ ∀ d ∈ ds, ((scan v d).2.2 || (scan v d).2.1) = true)
  | [], v, b, hf, hi, hc, hl => ⟨fun h => (by cases h), fun v' b' h => (by cases h; exact ⟨hf, hi, fun e => ⟨e, rfl, fun d hd => (by cases hd)⟩⟩)⟩
  | d :: ds, v, b, hf, hi, hc, hl => by
    obtain ⟨p1, p2⟩ := pass1_inv (b := b) hf hi (hc d (List.mem_cons_self ..)) (hl d (List.mem_cons_self ..))
    show (ds.foldl pass1 (pass1 (some (v, b)) d) = none → _) ∧ ∀ v' b', ds.foldl pass1 (pass1 (some (v, b)) d) = some (v', b') → _
    cases hp : pass1 (some (v, b)) d with
    | none =>
      rw [pass_none]
      exact ⟨fun _ => p1 hp, fun v' b' h => (by cases h)⟩
    | some r =>
      obtain ⟨v1, b1⟩ := r
      obtain ⟨q1, q2, q3⟩ := p2 v1 b1 hp
      obtain ⟨r1, r2⟩ := pass_inv ds v1 b1 q1 q2 (fun e he => hc e (List.mem_cons_of_mem _ he)) (fun e he => hl e (List.mem_cons_of_mem _ he))
      refine ⟨r1, fun v' b' h => ?_⟩
      obtain ⟨t1, t2, t3⟩ := r2 v' b' h
      refine ⟨t1, t2, fun e => ?_⟩
      obtain ⟨u1, u2, u3⟩ := t3 e
      obtain ⟨w1, w2, w3⟩ := q3 u1
      subst w2
      refine ⟨w1, u2, fun e he => ?_⟩
      rcases List.mem_cons.1 he with rfl | he
      · exact w3
      · exact u3 e he
/-- THE LAW: there is a conflict just where a clause's literals are all derived to be false -/
theorem prp_iff {n : Nat} {cs : List (List Int)} {S : Int → Prop} (hl : ∀ d ∈ cs, Lits n d) (hS : ∀ x, S x → x ≠ 0) {vs : List Int} {b : Bool} (h : Prp cs vs b) : Fine n vs → Inv cs S vs → (b = true ↔ Confl cs S) := by
  induction h with
  | conf vs h =>
    intro hf hi
    exact ⟨fun _ => (pass_inv cs vs false hf hi (fun d hd => hd) hl).1 h, fun _ => rfl⟩
  | more vs vs' b h _ ih =>
    intro hf hi
    obtain ⟨f1, f2, _⟩ := (pass_inv cs vs false hf hi (fun d hd => hd) hl).2 _ _ h
    exact ih f1 f2
  | done vs vs' h =>
    intro hf hi
    obtain ⟨_, _, f3⟩ := (pass_inv cs vs false hf hi (fun d hd => hd) hl).2 _ _ h
    obtain ⟨_, _, hcl⟩ := f3 rfl
    have key : ∀ x, Der cs S x → x ≠ 0 → litV vs x = 1 := by
      intro x hx
      induction hx with
      | init x hs => intro h0; exact hi.up x h0 hs
      | unit c x hc hxc _ ih =>
        intro h0
        have hall : ∀ y ∈ c, y ≠ x → litV vs y = -1 := fun y hy hne => by
          have hy0 := (hl c hc y hy).1
          have := ih y hy hne (by omega)
          rw [litV_neg hy0] at this
          omega
        obtain ⟨s1, s2, s3⟩ := scan_spec vs c
        have := hcl c hc
        rw [Bool.or_eq_true] at this
        rcases this with e | e
        · obtain ⟨y, hy, ey⟩ := s1.1 e
          by_cases hyx : y = x
          · rw [← hyx]; exact ey
          · have := hall y hy hyx; omega
        · obtain ⟨y1, a1, y2, a2, hne, z1, z2⟩ := s3 e
          by_cases h1 : y1 = x
          · have := hall y2 a2 (fun e => hne (h1.trans e.symm)); omega
          · have := hall y1 a1 h1; omega
    refine ⟨fun e => (by cases e), ?_⟩
    rintro ⟨c, hc, hD⟩
    have hall : ∀ y ∈ c, litV vs y = -1 := fun y hy => by
      have hy0 := (hl c hc y hy).1
      have := key _ (hD y hy) (by omega)
      rw [litV_neg hy0] at this
      omega
    obtain ⟨s1, s2, s3⟩ := scan_spec vs c
    have := hcl c hc
    rw [Bool.or_eq_true] at this
    rcases this with e | e
    · obtain ⟨y, hy, ey⟩ := s1.1 e
      have := hall y hy; omega
    · obtain ⟨y1, a1, y2, a2, hne, z1, z2⟩ := s3 e
      have := hall y1 a1; omega
end Go.Proofs.Ytkpppmldbhgcgaa.D
/- Drat: the document's Follows: there is a conflict of what the clause's negation derives. -/
set_option autoImplicit false
set_option linter.unusedVariables false
namespace Go.Proofs.Ytkpppmldbhgcgaa.D
open Go.Proofs Go
/-- a clause with a literal and its negation -/
def Taut (zs : List Int) : Prop := ∃ y ∈ zs, -y ∈ zs
/-- what is given where a clause is false -/
def Negs (zs : List Int) (x : Int) : Prop := x ≠ 0 ∧ -x ∈ zs
theorem fol1_eq {n : Nat} {vs : List Int} {x : Int} (hx : x ≠ 0) : fol1 (some vs) x = if litV vs x = 1 then none else some (setV vs (-x)) := by
  have e : fol1 (some vs) x = if vs.getD x.natAbs 0 = (if x < 0 then -1 else 1) then none else some (vs.set x.natAbs (if x < 0 then 1 else -1)) := rfl
  rw [e]
  unfold litV setV
  rw [Int.natAbs_neg]
  by_cases h : x < 0
  · rw [if_pos h, if_pos h, if_pos h, if_pos (show 0 < -x by omega)]
    by_cases h2 : vs.getD x.natAbs 0 = -1
    · rw [if_pos h2, if_pos (by omega)]
    · rw [if_neg h2, if_neg (by omega)]
  · rw [if_neg h, if_neg h, if_neg h, if_neg (show ¬ 0 < -x by omega)]
theorem folV_spec {n : Nat} {zs : List Int} (hl : Lits n zs) : match folV n zs with
    | none => Taut zs
    | some vs => ∀ x, x ≠ 0 → (litV vs x = 1 ↔ -x ∈ zs) := by
  have := foldl_inv (f := fol1) (P := fun pre s => Lits n pre → match s with
    | none => Taut pre
    | some vs => Fine n vs ∧ ∀ x, x ≠ 0 → (litV vs x = 1 ↔ -x ∈ pre)) (fun pre x s ih hlp => ?_) zs [] (some (List.replicate n 0)) (fun _ => ⟨⟨List.length_replicate, fun y hy => by rw [List.eq_of_mem_replicate hy]; decide⟩, fun x hx => ?_⟩) (by simpa using hl)
  · unfold folV
    rw [List.nil_append] at this
    cases h : zs.foldl fol1 (some (List.replicate n 0)) with
    | none => rw [h] at this; exact this
    | some vs => rw [h] at this; exact this.2
  · have hx := hlp x (by simp)
    have ih := ih fun y hy => hlp y (List.mem_append_left _ hy)
    cases s with
    | none =>
      obtain ⟨y, a, b⟩ := ih
      exact ⟨y, List.mem_append_left _ a, List.mem_append_left _ b⟩
    | some vs =>
      obtain ⟨hf, hi⟩ := ih
      rw [fol1_eq (n := n) hx.1]
      by_cases h1 : litV vs x = 1
      · rw [if_pos h1]
        exact ⟨x, by simp, List.mem_append_left _ ((hi x hx.1).1 h1)⟩
      · rw [if_neg h1]
        refine ⟨hf.setV _, fun y hy => ?_⟩
        have hnx : -x ≠ 0 := by omega
        rw [litV_setV hf hnx (by rw [Int.natAbs_neg]; exact hx.2), Int.neg_neg]
        by_cases e1 : y = -x
        · rw [if_pos e1]
          exact ⟨fun _ => by rw [e1, Int.neg_neg]; simp, fun _ => rfl⟩
        · rw [if_neg e1]
          by_cases e2 : y = x
          · rw [if_pos e2]
            refine ⟨fun e => by omega, fun e => ?_⟩
            rcases List.mem_append.1 e with e | e
            · rw [e2] at e
              exact absurd ((hi x hx.1).2 e) h1
            · rw [List.mem_singleton] at e
              omega
          · rw [if_neg e2, hi y hy]
            refine ⟨fun e => List.mem_append_left _ e, fun e => ?_⟩
            rcases List.mem_append.1 e with e | e
            · exact e
            · rw [List.mem_singleton] at e
              omega
  · have : litV (List.replicate n 0) x = 0 := by
      unfold litV
      have : (List.replicate n (0 : Int)).getD x.natAbs 0 = 0 := by
        rw [List.getD_eq_getElem?_getD, List.getElem?_replicate]
        split <;> rfl
      rw [this]
      split <;> rfl
    rw [this]
    simp
/-- THE LAW of Follows -/
theorem fol_iff {n : Nat} {cs : List (List Int)} {zs : List Int} {b : Bool} (hcs : ∀ d ∈ cs, Lits n d) (hl : Lits n zs) (h : FolR cs n zs b) : b = true ↔ Taut zs ∨ (¬ Taut zs ∧ Confl cs (Negs zs)) := by
  have sp := folV_spec hl
  unfold FolR at h
  cases hv : folV n zs with
  | none =>
    rw [hv] at sp h
    exact ⟨fun _ => .inl sp, fun _ => h⟩
  | some vs =>
    rw [hv] at sp h
    have hf := folV_fine hv
    have hnt : ¬ Taut zs := by
      rintro ⟨y, a, b⟩
      have hy := (hl y a).1
      have e1 := (sp y hy).2 b
      have e2 := (sp (-y) (by omega)).2 (by rw [Int.neg_neg]; exact a)
      rw [litV_neg hy] at e2
      omega
    have := prp_iff (S := Negs zs) hcs (fun x hx => hx.1) h hf ⟨fun x hx hs => (sp x hx).2 hs.2, fun x hx e => .init x ⟨hx, (sp x hx).1 e⟩⟩
    rw [this]
    exact ⟨fun h => .inr ⟨hnt, h⟩, fun h => h.elim (fun h => absurd h hnt) (fun h => h.2)⟩
/-- does a clause follow? -/
def Fol (cs : List (List Int)) (zs : List Int) : Prop := Taut zs ∨ Confl cs (Negs zs)
theorem fol_iff' {n : Nat} {cs : List (List Int)} {zs : List Int} {b : Bool} (hcs : ∀ d ∈ cs, Lits n d) (hl : Lits n zs) (h : FolR cs n zs b) : b = true ↔ Fol cs zs := by
  rw [fol_iff hcs hl h]
  unfold Fol
  constructor
  · rintro (h | ⟨_, h⟩)
    · exact .inl h
    · exact .inr h
  · rintro (h | h)
    · exact .inl h
    · by_cases ht : Taut zs
      · exact .inl ht
      · exact .inr ⟨ht, h⟩
theorem anyN_iff {z : Int} {d : List Int} : anyN z d = true ↔ -z ∈ d := by simp [anyN]
theorem others_mem {z y : Int} {d : List Int} : y ∈ others z d ↔ y ∈ d ∧ y ≠ -z := by simp [others]
/-- THE LAW of byFirst -/
theorem by_iff {n : Nat} {cs : List (List Int)} {zs : List Int} {z : Int} {ds : List (List Int)} {b : Bool} (hcs : ∀ d ∈ cs, Lits n d) (hl : Lits n zs) (h : ByR cs n zs z ds b) : (∀ d ∈ ds, Lits n d) → (b = true ↔ ∀ d ∈ ds, -z ∈ d → Fol cs (zs ++ others z d)) := by
  have hlo : ∀ d, Lits n d → Lits n (zs ++ others z d) := fun d hd y hy => by
    rcases List.mem_append.1 hy with h | h
    · exact hl y h
    · exact hd y (others_mem.1 h).1
  induction h with
  | nil => intro _; simp
  | skip d ds b h0 _ ih =>
    intro hd
    rw [ih fun e he => hd e (List.mem_cons_of_mem _ he)]
    constructor
    · intro h e he hz
      rcases List.mem_cons.1 he with rfl | he
      · rw [anyN_iff.2 hz] at h0; cases h0
      · exact h e he hz
    · exact fun h e he => h e (List.mem_cons_of_mem _ he)
  | no d ds h0 hF =>
    intro hd
    have := fol_iff' hcs (hlo d (hd d (List.mem_cons_self ..))) hF
    refine ⟨fun e => (by cases e), fun h => ?_⟩
    exact this.2 (h d (List.mem_cons_self ..) (anyN_iff.1 h0))
  | yes d ds b h0 hF _ ih =>
    intro hd
    have hF := (fol_iff' hcs (hlo d (hd d (List.mem_cons_self ..))) hF).1 rfl
    rw [ih fun e he => hd e (List.mem_cons_of_mem _ he)]
    constructor
    · intro h e he hz
      rcases List.mem_cons.1 he with rfl | he
      · exact hF
      · exact h e he hz
    · exact fun h e he => h e (List.mem_cons_of_mem _ he)
/-! What follows hangs on the sets alone -/
def SameM (a b : List Int) : Prop := ∀ x, x ∈ a ↔ x ∈ b
def SubS (cs cs' : List (List Int)) : Prop := ∀ c ∈ cs, ∃ c' ∈ cs', SameM c c'
theorem Der.sub {cs cs' : List (List Int)} {S S' : Int → Prop} (hc : SubS cs cs') (hS : ∀ x, S x → S' x) {x : Int} (h : Der cs S x) : Der cs' S' x := by
  induction h with
  | init x h => exact .init x (hS x h)
  | unit c x hm hx _ ih =>
    obtain ⟨c', h1, h2⟩ := hc c hm
    exact .unit c' x h1 ((h2 x).1 hx) fun y hy hne => ih y ((h2 y).2 hy) hne
theorem Confl.sub {cs cs' : List (List Int)} {S S' : Int → Prop} (hc : SubS cs cs') (hS : ∀ x, S x → S' x) (h : Confl cs S) : Confl cs' S' := by
  obtain ⟨c, hm, hD⟩ := h
  obtain ⟨c', h1, h2⟩ := hc c hm
  exact ⟨c', h1, fun y hy => (hD y ((h2 y).2 hy)).sub hc hS⟩
theorem Fol.sub {cs cs' : List (List Int)} {zs zs' : List Int} (hc : SubS cs cs') (hz : SameM zs zs') (h : Fol cs zs) : Fol cs' zs' := by
  rcases h with ⟨y, a, b⟩ | h
  · exact .inl ⟨y, (hz y).1 a, (hz _).1 b⟩
  · exact .inr (h.sub hc fun x hx => ⟨hx.1, (hz _).1 hx.2⟩)
theorem SameM.symm {a b : List Int} (h : SameM a b) : SameM b a := fun x => (h x).symm
theorem fol_same {cs cs' : List (List Int)} {zs zs' : List Int} (h1 : SubS cs cs') (h2 : SubS cs' cs) (hz : SameM zs zs') : Fol cs zs ↔ Fol cs' zs' := ⟨fun h => h.sub h1 hz, fun h => h.sub h2 hz.symm⟩
theorem withinZ_iff {a b : List Int} : withinZ a b = true ↔ ∀ x ∈ a, x ∈ b := by simp [withinZ, anyZ]
/-- THE LAW of sameSet -/
theorem sameZ_iff {a b : List Int} : sameZ a b = true ↔ SameM a b := by
  unfold sameZ
  rw [Bool.and_eq_true, withinZ_iff, withinZ_iff]
  exact ⟨fun ⟨h1, h2⟩ x => ⟨h1 x, h2 x⟩, fun h => ⟨fun x hx => (h x).1 hx, fun x hx => (h x).2 hx⟩⟩
end Go.Proofs.Ytkpppmldbhgcgaa.D

/- Drat: the document's Follows: there is a conflict of what the clause's negation derives. -/
import Derived.Test.YtagfnjpjmmleiaaDoorPE
import Derived.Test.YtagfnjpjmmleiaaDoorPF
set_option linter.unusedVariables false
set_option linter.unusedSimpArgs false
set_option autoImplicit false
set_option linter.unusedVariables false
namespace Go.Proofs.YtagfnjpjmmleiaaDoor
/-- a clause with a literal and its negation -/
def Taut (zs : List Int) : Prop := ∃ y ∈ zs, -y ∈ zs
/-- what is given where a clause is false -/
def Negs (zs : List Int) (x : Int) : Prop := x ≠ 0 ∧ -x ∈ zs
theorem fol1_eq {n : Nat} {vs : List Int} {x : Int} (hx : x ≠ 0) : fol1 (some vs) x = if litV vs x = 1 then none else some (setV vs (-x)) := by
  have e : fol1 (some vs) x = if vs.getD x.natAbs 0 = (if x < 0 then -1 else 1) then none else some (vs.set x.natAbs (if x < 0 then 1 else -1)) := rfl
  rw [e]
  unfold litV setV
  rw [Int.natAbs_neg]
  by_cases h : x < 0
  · rw [if_pos h, if_pos h, if_pos h, if_pos (show 0 < -x by omega)]
    by_cases h2 : vs.getD x.natAbs 0 = -1
    · rw [if_pos h2, if_pos (by omega)]
    · rw [if_neg h2, if_neg (by omega)]
  · rw [if_neg h, if_neg h, if_neg h, if_neg (show ¬ 0 < -x by omega)]
theorem folV_spec {n : Nat} {zs : List Int} (hl : Lits n zs) : match folV n zs with
    | none => Taut zs
    | some vs => ∀ x, x ≠ 0 → (litV vs x = 1 ↔ -x ∈ zs) := by
  have := foldl_inv (f := fol1) (P := fun pre s => Lits n pre → match s with
    | none => Taut pre
    | some vs => Fine n vs ∧ ∀ x, x ≠ 0 → (litV vs x = 1 ↔ -x ∈ pre)) (fun pre x s ih hlp => ?_) zs [] (some (List.replicate n 0)) (fun _ => ⟨⟨List.length_replicate, fun y hy => by rw [List.eq_of_mem_replicate hy]; decide⟩, fun x hx => ?_⟩) (by simpa using hl)
  · unfold folV
    rw [List.nil_append] at this
    cases h : zs.foldl fol1 (some (List.replicate n 0)) with
    | none => rw [h] at this; exact this
    | some vs => rw [h] at this; exact this.2
  · have hx := hlp x (by simp)
    have ih := ih fun y hy => hlp y (List.mem_append_left _ hy)
    cases s with
    | none =>
      obtain ⟨y, a, b⟩ := ih
      exact ⟨y, List.mem_append_left _ a, List.mem_append_left _ b⟩
    | some vs =>
      obtain ⟨hf, hi⟩ := ih
      rw [fol1_eq (n := n) hx.1]
      by_cases h1 : litV vs x = 1
      · rw [if_pos h1]
        exact ⟨x, by simp, List.mem_append_left _ ((hi x hx.1).1 h1)⟩
      · rw [if_neg h1]
        refine ⟨hf.setV _, fun y hy => ?_⟩
        have hnx : -x ≠ 0 := by omega
        rw [litV_setV hf hnx (by rw [Int.natAbs_neg]; exact hx.2), Int.neg_neg]
        by_cases e1 : y = -x
        · rw [if_pos e1]
          exact ⟨fun _ => by rw [e1, Int.neg_neg]; simp, fun _ => rfl⟩
        · rw [if_neg e1]
          by_cases e2 : y = x
          · rw [if_pos e2]
            refine ⟨fun e => by omega, fun e => ?_⟩
            rcases List.mem_append.1 e with e | e
            · rw [e2] at e
              exact absurd ((hi x hx.1).2 e) h1
            · rw [List.mem_singleton] at e
              omega
          · rw [if_neg e2, hi y hy]
            refine ⟨fun e => List.mem_append_left _ e, fun e => ?_⟩
            rcases List.mem_append.1 e with e | e
            · exact e
            · rw [List.mem_singleton] at e
              omega
  · have : litV (List.replicate n 0) x = 0 := by
      unfold litV
      have : (List.replicate n (0 : Int)).getD x.natAbs 0 = 0 := by
        rw [List.getD_eq_getElem?_getD, List.getElem?_replicate]
        split <;> rfl
      rw [this]
      split <;> rfl
    rw [this]
    simp
/-- THE LAW of Follows -/
theorem fol_iff {n : Nat} {cs : List (List Int)} {zs : List Int} {b : Bool} (hcs : ∀ d ∈ cs, Lits n d) (hl : Lits n zs) (h : FolR cs n zs b) : b = true ↔ Taut zs ∨ (¬ Taut zs ∧ Confl cs (Negs zs)) := by
  have sp := folV_spec hl
  unfold FolR at h
  cases hv : folV n zs with
  | none =>
    rw [hv] at sp h
    exact ⟨fun _ => .inl sp, fun _ => h⟩
  | some vs =>
    rw [hv] at sp h
    have hf := folV_fine hv
    have hnt : ¬ Taut zs := by
      rintro ⟨y, a, b⟩
      have hy := (hl y a).1
      have e1 := (sp y hy).2 b
      have e2 := (sp (-y) (by omega)).2 (by rw [Int.neg_neg]; exact a)
      rw [litV_neg hy] at e2
      omega
    have := prp_iff (S := Negs zs) hcs (fun x hx => hx.1) h hf ⟨fun x hx hs => (sp x hx).2 hs.2, fun x hx e => .init x ⟨hx, (sp x hx).1 e⟩⟩
    rw [this]
    exact ⟨fun h => .inr ⟨hnt, h⟩, fun h => h.elim (fun h => absurd h hnt) (fun h => h.2)⟩
/-- does a clause follow? -/
def Fol (cs : List (List Int)) (zs : List Int) : Prop := Taut zs ∨ Confl cs (Negs zs)
theorem fol_iff' {n : Nat} {cs : List (List Int)} {zs : List Int} {b : Bool} (hcs : ∀ d ∈ cs, Lits n d) (hl : Lits n zs) (h : FolR cs n zs b) : b = true ↔ Fol cs zs := by
  rw [fol_iff hcs hl h]
  unfold Fol
  constructor
  · rintro (h | ⟨_, h⟩)
    · exact .inl h
    · exact .inr h
  · rintro (h | h)
    · exact .inl h
    · by_cases ht : Taut zs
      · exact .inl ht
      · exact .inr ⟨ht, h⟩
theorem anyN_iff {z : Int} {d : List Int} : anyN z d = true ↔ -z ∈ d := by simp [anyN]
theorem others_mem {z y : Int} {d : List Int} : y ∈ others z d ↔ y ∈ d ∧ y ≠ -z := by simp [others]
/-- THE LAW of byFirst -/
theorem by_iff {n : Nat} {cs : List (List Int)} {zs : List Int} {z : Int} {ds : List (List Int)} {b : Bool} (hcs : ∀ d ∈ cs, Lits n d) (hl : Lits n zs) (h : ByR cs n zs z ds b) : (∀ d ∈ ds, Lits n d) → (b = true ↔ ∀ d ∈ ds, -z ∈ d → Fol cs (zs ++ others z d)) := by
  have hlo : ∀ d, Lits n d → Lits n (zs ++ others z d) := fun d hd y hy => by
    rcases List.mem_append.1 hy with h | h
    · exact hl y h
    · exact hd y (others_mem.1 h).1
  induction h with
  | nil => intro _; simp
  | skip d ds b h0 _ ih =>
    intro hd
    rw [ih fun e he => hd e (List.mem_cons_of_mem _ he)]
    constructor
    · intro h e he hz
      rcases List.mem_cons.1 he with rfl | he
      · rw [anyN_iff.2 hz] at h0; cases h0
      · exact h e he hz
    · exact fun h e he => h e (List.mem_cons_of_mem _ he)
  | no d ds h0 hF =>
    intro hd
    have := fol_iff' hcs (hlo d (hd d (List.mem_cons_self ..))) hF
    refine ⟨fun e => (by cases e), fun h => ?_⟩
    exact this.2 (h d (List.mem_cons_self ..) (anyN_iff.1 h0))
  | yes d ds b h0 hF _ ih =>
    intro hd
    have hF := (fol_iff' hcs (hlo d (hd d (List.mem_cons_self ..))) hF).1 rfl
    rw [ih fun e he => hd e (List.mem_cons_of_mem _ he)]
    constructor
    · intro h e he hz
      rcases List.mem_cons.1 he with rfl | he
      · exact hF
      · exact h e he hz
    · exact fun h e he => h e (List.mem_cons_of_mem _ he)
/-! What follows hangs on the sets alone -/
def SameM (a b : List Int) : Prop := ∀ x, x ∈ a ↔ x ∈ b
def SubS (cs cs' : List (List Int)) : Prop := ∀ c ∈ cs, ∃ c' ∈ cs', SameM c c'
theorem Der.sub {cs cs' : List (List Int)} {S S' : Int → Prop} (hc : SubS cs cs') (hS : ∀ x, S x → S' x) {x : Int} (h : Der cs S x) : Der cs' S' x := by
  induction h with
  | init x h => exact .init x (hS x h)
  | unit c x hm hx _ ih =>
    obtain ⟨c', h1, h2⟩ := hc c hm
    exact .unit c' x h1 ((h2 x).1 hx) fun y hy hne => ih y ((h2 y).2 hy) hne
theorem Confl.sub {cs cs' : List (List Int)} {S S' : Int → Prop} (hc : SubS cs cs') (hS : ∀ x, S x → S' x) (h : Confl cs S) : Confl cs' S' := by
  obtain ⟨c, hm, hD⟩ := h
  obtain ⟨c', h1, h2⟩ := hc c hm
  exact ⟨c', h1, fun y hy => (hD y ((h2 y).2 hy)).sub hc hS⟩
theorem Fol.sub {cs cs' : List (List Int)} {zs zs' : List Int} (hc : SubS cs cs') (hz : SameM zs zs') (h : Fol cs zs) : Fol cs' zs' := by
  rcases h with ⟨y, a, b⟩ | h
  · exact .inl ⟨y, (hz y).1 a, (hz _).1 b⟩
  · exact .inr (h.sub hc fun x hx => ⟨hx.1, (hz _).1 hx.2⟩)
theorem SameM.symm {a b : List Int} (h : SameM a b) : SameM b a := fun x => (h x).symm
theorem fol_same {cs cs' : List (List Int)} {zs zs' : List Int} (h1 : SubS cs cs') (h2 : SubS cs' cs) (hz : SameM zs zs') : Fol cs zs ↔ Fol cs' zs' := ⟨fun h => h.sub h1 hz, fun h => h.sub h2 hz.symm⟩
theorem withinZ_iff {a b : List Int} : withinZ a b = true ↔ ∀ x ∈ a, x ∈ b := by simp [withinZ, anyZ]
/-- THE LAW of sameSet -/
theorem sameZ_iff {a b : List Int} : sameZ a b = true ↔ SameM a b := by
  unfold sameZ
  rw [Bool.and_eq_true, withinZ_iff, withinZ_iff]
  exact ⟨fun ⟨h1, h2⟩ x => ⟨h1 x, h2 x⟩, fun h => ⟨fun x hx => (h x).1 hx, fun x hx => (h x).2 hx⟩⟩
end Go.Proofs.YtagfnjpjmmleiaaDoor

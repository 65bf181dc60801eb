/- Drat: what a line of a proof tells is so: a line that follows holds in each model; one that follows by its first literal leaves a model (plain law). -/
import Derived.Test.YtagfnjpjmmleiaaDoorPG
set_option linter.unusedVariables false
set_option linter.unusedSimpArgs false
set_option autoImplicit false
set_option linter.unusedVariables false
namespace Go.Proofs.YtagfnjpjmmleiaaDoor
/-- a model: of each literal and its negation just one is true -/
def Mod (t : Int → Prop) : Prop := ∀ x, x ≠ 0 → (t (-x) ↔ ¬ t x)
def HoldsC (t : Int → Prop) (c : List Int) : Prop := ∃ y ∈ c, t y
def NonZ (c : List Int) : Prop := ∀ y ∈ c, y ≠ 0
theorem Lits.nonz {n : Nat} {c : List Int} (h : Lits n c) : NonZ c := fun y hy => (h y hy).1
theorem der_sound {cs : List (List Int)} {S : Int → Prop} {t : Int → Prop} (hm : Mod t) (hc : ∀ c ∈ cs, HoldsC t c) (hn : ∀ c ∈ cs, NonZ c) (hS : ∀ x, S x → t x) {x : Int} (h : Der cs S x) : t x := by
  induction h with
  | init x h => exact hS x h
  | unit c x hcc hx _ ih =>
    obtain ⟨y, hy, ht⟩ := hc c hcc
    by_cases e : y = x
    · rw [← e]; exact ht
    · exact absurd ht ((hm y (hn c hcc y hy)).1 (ih y hy e))
theorem confl_not {cs : List (List Int)} {S : Int → Prop} {t : Int → Prop} (hm : Mod t) (hc : ∀ c ∈ cs, HoldsC t c) (hn : ∀ c ∈ cs, NonZ c) (hS : ∀ x, S x → t x) : ¬ Confl cs S := by
  rintro ⟨c, hcc, hD⟩
  obtain ⟨y, hy, ht⟩ := hc c hcc
  exact (hm y (hn c hcc y hy)).1 (der_sound hm hc hn hS (hD y hy)) ht
/-- a line that follows holds in each model -/
theorem fol_sound {cs : List (List Int)} {zs : List Int} {t : Int → Prop} (hm : Mod t) (hc : ∀ c ∈ cs, HoldsC t c) (hn : ∀ c ∈ cs, NonZ c) (hz : NonZ zs) (h : Fol cs zs) : HoldsC t zs := by
  by_cases ht : HoldsC t zs
  · exact ht
  · have hno : ∀ y ∈ zs, ¬ t y := fun y hy e => ht ⟨y, hy, e⟩
    rcases h with ⟨y, a, b⟩ | h
    · exact absurd ((hm y (hz y a)).2 (hno y a)) (hno _ b)
    · refine absurd h (confl_not hm hc hn fun x hx => ?_)
      have := hno _ hx.2
      exact Classical.byContradiction fun e => this ((hm x hx.1).2 e)
/-- a line that follows by its first literal leaves a model -/
theorem by_sound {cs : List (List Int)} {zs : List Int} {z : Int} {t : Int → Prop} (hm : Mod t) (hc : ∀ c ∈ cs, HoldsC t c) (hn : ∀ c ∈ cs, NonZ c) (hz : NonZ zs) (hzz : z ∈ zs) (h : ∀ d ∈ cs, -z ∈ d → Fol cs (zs ++ others z d)) :
    ∃ t', Mod t' ∧ (∀ c ∈ cs, HoldsC t' c) ∧ HoldsC t' zs := by
  by_cases ht : HoldsC t zs
  · exact ⟨t, hm, hc, ht⟩
  · have hz0 := hz z hzz
    have keep : ∀ y, y ≠ -z → t y → (y = z ∨ (y ≠ -z ∧ t y)) := fun y h1 h2 => .inr ⟨h1, h2⟩
    refine ⟨fun y => y = z ∨ (y ≠ -z ∧ t y), fun x hx => ?_, fun d hd => ?_, ⟨z, hzz, .inl rfl⟩⟩
    · have hx2 := hm x hx
      by_cases e1 : x = z
      · subst e1
        constructor
        · rintro (e | ⟨e, _⟩)
          · omega
          · exact absurd rfl e
        · exact fun e => absurd (.inl rfl) e
      · by_cases e2 : x = -z
        · subst e2
          constructor
          · rintro _ (e | ⟨e, _⟩)
            · exact e1 e
            · exact e rfl
          · exact fun _ => .inl (by omega)
        · constructor
          · rintro (e | ⟨_, e⟩)
            · omega
            · rintro (e3 | ⟨_, e3⟩)
              · exact e1 e3
              · exact hx2.1 e e3
          · intro e
            refine .inr ⟨by omega, hx2.2 fun e3 => e (.inr ⟨e2, e3⟩)⟩
    · by_cases hneg : -z ∈ d
      · have hzd : NonZ (zs ++ others z d) := fun y hy => by
          rcases List.mem_append.1 hy with e | e
          · exact hz y e
          · exact hn d hd y (others_mem.1 e).1
        obtain ⟨y, hy, hty⟩ := fol_sound hm hc hn hzd (h d hd hneg)
        rcases List.mem_append.1 hy with e | e
        · exact absurd ⟨y, e, hty⟩ ht
        · obtain ⟨a, b⟩ := others_mem.1 e
          exact ⟨y, a, keep y b hty⟩
      · obtain ⟨y, hy, hty⟩ := hc d hd
        exact ⟨y, hy, keep y (fun e => hneg (e ▸ hy)) hty⟩
/-- the empty line does not hold -/
theorem not_holds_nil (t : Int → Prop) : ¬ HoldsC t [] := by
  rintro ⟨y, hy, _⟩
  cases hy
/-- may a line be added? -/
def Line1 (cs : List (List Int)) (zs : List Int) : Prop := Fol cs zs ∨ ∃ z, zs.head? = some z ∧ ∀ d ∈ cs, -z ∈ d → Fol cs (zs ++ others z d)
/-- a proof that is taken: the empty line comes at last; what is taken away is of the clauses that there are -/
inductive Taken : List (List Int) → List (Bool × List Int) → Prop
  | here (cs : List (List Int)) (rest : List (Bool × List Int)) : Line1 cs [] → Taken cs ((false, []) :: rest)
  | add (cs : List (List Int)) (zs : List Int) (rest : List (Bool × List Int)) : Line1 cs zs → Taken (cs ++ [zs]) rest → Taken cs ((false, zs) :: rest)
  | gone (cs cs' : List (List Int)) (zs : List Int) (rest : List (Bool × List Int)) : (∀ c ∈ cs', c ∈ cs) → Taken cs' rest → Taken cs ((true, zs) :: rest)
theorem line1_sound {cs : List (List Int)} {zs : List Int} {t : Int → Prop} (hm : Mod t) (hc : ∀ c ∈ cs, HoldsC t c) (hn : ∀ c ∈ cs, NonZ c) (hz : NonZ zs) (h : Line1 cs zs) : ∃ t', Mod t' ∧ (∀ c ∈ cs, HoldsC t' c) ∧ HoldsC t' zs := by
  rcases h with h | ⟨z, h0, h⟩
  · exact ⟨t, hm, hc, fol_sound hm hc hn hz h⟩
  · exact by_sound hm hc hn hz (List.mem_of_mem_head? h0) h
/-- THE LAW of DratSound: clauses that have a model have no proof -/
theorem taken_no_model {cs : List (List Int)} {ls : List (Bool × List Int)} (h : Taken cs ls) : (∀ c ∈ cs, NonZ c) → (∀ l ∈ ls, NonZ l.2) → ∀ t : Int → Prop, Mod t → ¬ ∀ c ∈ cs, HoldsC t c := by
  induction h with
  | here cs rest h =>
    intro hn _ t hm hc
    obtain ⟨t', _, _, hh⟩ := line1_sound hm hc hn (fun y hy => (by cases hy)) h
    exact not_holds_nil t' hh
  | add cs zs rest h _ ih =>
    intro hn hl t hm hc
    have hz : NonZ zs := hl _ (List.mem_cons_self ..)
    obtain ⟨t', h1, h2, h3⟩ := line1_sound hm hc hn hz h
    refine ih (fun c hc => ?_) (fun l hl' => hl l (List.mem_cons_of_mem _ hl')) t' h1 fun c hc => ?_
    · rcases List.mem_append.1 hc with e | e
      · exact hn c e
      · rw [List.mem_singleton.1 e]; exact hz
    · rcases List.mem_append.1 hc with e | e
      · exact h2 c e
      · rw [List.mem_singleton.1 e]; exact h3
  | gone cs cs' zs rest hsub _ ih =>
    intro hn hl t hm hc
    exact ih (fun c h => hn c (hsub c h)) (fun l hl' => hl l (List.mem_cons_of_mem _ hl')) t hm fun c h => hc c (hsub c h)
end Go.Proofs.YtagfnjpjmmleiaaDoor

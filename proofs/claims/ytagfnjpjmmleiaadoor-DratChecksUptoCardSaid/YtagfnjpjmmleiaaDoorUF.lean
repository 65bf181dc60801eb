/- Drat: what a proof tells is so (plain law): a formula that has a model has no proof. -/
import Derived.Test.YtagfnjpjmmleiaaDoorUA
import Derived.Test.YtagfnjpjmmleiaaDoorQC
import Derived.Test.YtagfnjpjmmleiaaDoorTQ
set_option linter.unusedVariables false
set_option linter.unusedSimpArgs false
set_option autoImplicit false
set_option linter.unusedVariables false
set_option linter.unusedSimpArgs false
namespace Go.Proofs.YtagfnjpjmmleiaaDoor
theorem holdsC_same {t : Int → Prop} {a b : List Int} (h : SameM a b) (k : HoldsC t a) : HoldsC t b := by
  obtain ⟨y, h1, h2⟩ := k
  exact ⟨y, (h y).1 h1, h2⟩
theorem play_sound (V : Nat) : ∀ (ls : List (Bool × List Int)) (i n : Nat) (N : List (List Int)), (∀ c ∈ N, NonZ c) → (playZ (V : Int) false ls i n N).2 = 0 → ∀ t : Int → Prop, Mod t → ¬ ∀ c ∈ N, HoldsC t c
  | [], i, n, N, hn, h, t, hm => by
    rw [play_nil, if_neg (by decide)] at h
    cases h
  | (g, c) :: ls, i, n, N, hn, h, t, hm => by
    intro hc
    by_cases h1 : 200000 < n + 1 + c.length
    · rw [play_long h1] at h; cases h
    · cases hf : fairZ (V : Int) c with
      | false => rw [play_form h1 hf] at h; cases h
      | true =>
        have hz : NonZ c := (fair_lits hf).nonz
        cases g with
        | true =>
          rw [play_gone h1 hf] at h
          exact play_sound V ls _ _ _ (fun d hd => hn d (List.mem_of_mem_erase hd)) h t hm fun d hd => hc d (List.mem_of_mem_erase hd)
        | false =>
          by_cases hl : Line1 N c
          · obtain ⟨t', h2, h3, h4⟩ := line1_sound hm hc hn hz hl
            by_cases hcn : c = []
            · subst hcn
              exact not_holds_nil t' h4
            · rw [play_add h1 hf hl hcn] at h
              refine play_sound V ls _ _ _ (fun d hd => ?_) h t' h2 fun d hd => ?_
              · rcases List.mem_append.1 hd with e | e
                · exact hn d e
                · rw [List.mem_singleton.1 e]
                  exact fun y hy => hz y (((setZ_spec c).2 y).1 hy)
              · rcases List.mem_append.1 hd with e | e
                · exact h3 d e
                · rw [List.mem_singleton.1 e]
                  exact holdsC_same (setZ_spec c).2.symm h4
          · rw [play_no h1 hf hl] at h; cases h
theorem sat_mod (ms : List Bool) : Mod fun x => sat ms x = true := fun x hx => by
  show sat ms (-x) = true ↔ ¬ sat ms x = true
  unfold sat
  rw [Int.natAbs_neg]
  rcases Int.lt_or_gt_of_ne hx with h | h
  · have a1 : decide (0 < x) = false := decide_eq_false (by omega)
    have a2 : decide (x < 0) = true := decide_eq_true h
    have a3 : decide (0 < -x) = true := decide_eq_true (by omega)
    have a4 : decide (-x < 0) = false := decide_eq_false (by omega)
    rw [a1, a2, a3, a4]
    cases ms.getD x.natAbs false <;> simp
  · have a1 : decide (0 < x) = true := decide_eq_true h
    have a2 : decide (x < 0) = false := decide_eq_false (by omega)
    have a3 : decide (0 < -x) = false := decide_eq_false (by omega)
    have a4 : decide (-x < 0) = true := decide_eq_true (by omega)
    rw [a1, a2, a3, a4]
    cases ms.getD x.natAbs false <;> simp
/-- THE PLAIN LAW of DratSound -/
theorem answer_sound {vars : Int} {cs : List Cl} {ms : List Bool} (h : holdsZ vars cs ms = true) (ls : List (Bool × List Int)) : (answerZ vars (cs.map Cl.zs) (checkZ vars cs) ls).2 ≠ 0 := by
  intro hA
  unfold holdsZ at h
  simp only [Bool.and_eq_true, decide_eq_true_eq, List.all_eq_true] at h
  obtain ⟨h0, _, hs⟩ := h
  obtain ⟨V, rfl, g1, g2, g3, g4⟩ := check_ok h0
  have hc : ∀ c ∈ cs.map Cl.zs, HoldsC (fun x => sat ms x = true) c := fun c hc => by
    obtain ⟨cl, h1, rfl⟩ := List.mem_map.1 hc
    have := hs cl h1
    unfold satC at this
    obtain ⟨y, h2, h3⟩ := List.any_eq_true.1 this
    exact ⟨y, h2, h3⟩
  unfold answerZ at hA
  rw [if_pos h0] at hA
  have hf : ((cs.map Cl.zs).any fun c => c.isEmpty) = false := by
    refine List.any_eq_false.2 fun c hcm he => ?_
    obtain rfl : c = [] := by simpa using he
    exact not_holds_nil _ (hc _ hcm)
  rw [hf] at hA
  refine play_sound V ls 0 0 _ (fun c hcm y hy => ?_) hA _ (sat_mod ms) fun c hcm => ?_
  · obtain ⟨d, hd, rfl⟩ := List.mem_map.1 hcm
    obtain ⟨cl, h1, rfl⟩ := List.mem_map.1 hd
    obtain ⟨j, hj, rfl⟩ := List.getElem_of_mem h1
    have := g4 j hj
    rw [List.getD_eq_getElem?_getD, List.getElem?_eq_getElem hj] at this
    exact (this y (((setZ_spec _).2 y).1 hy)).1
  · obtain ⟨d, hd, rfl⟩ := List.mem_map.1 hcm
    exact holdsC_same (setZ_spec d).2.symm (hc d hd)
end Go.Proofs.YtagfnjpjmmleiaaDoor

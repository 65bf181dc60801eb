/- Sat, plain: what a conflict teaches (learn): the marks; a clause's literals. -/
import Derived.Test.YtkpppmldbhgcgaaPlItoPlJ
set_option linter.unusedVariables false
set_option linter.unusedSimpArgs false
set_option autoImplicit false
set_option linter.unusedVariables false
set_option linter.unusedSimpArgs false
namespace Go.Proofs.Ytkpppmldbhgcgaa
open Go
/-- what is marked: literals of lower levels (outs), variables of the level that is open (M), all of them ahead of e in the trail -/
structure Lm (n : Nat) (S : Sz) (outs : List Int) (M : List Nat) (e : Nat) : Prop where
  out : ∀ y ∈ outs, litV S.vals y = -1 ∧ 1 ≤ y.natAbs ∧ y.natAbs < n ∧ 1 ≤ S.lev.getD y.natAbs 0 ∧ S.lev.getD y.natAbs 0 < S.st.length
  ond : (outs.map Int.natAbs).Nodup
  mnd : M.Nodup
  mem : ∀ v ∈ M, ∃ (i : Nat) (l : Int), i < e ∧ S.tr[i]? = some l ∧ l.natAbs = v ∧ S.lev.getD v 0 = S.st.length
  seen : ∀ v : Nat, S.seen.getD v false = true ↔ (∃ y ∈ outs, y.natAbs = v) ∨ v ∈ M
section
variable {n : Nat} {N : List (List Int)} {U : Int} {S : Sz} {a : Nat} {E : Nat → Int → Prop} {wI : List (List Nat)} {e : Nat}
theorem Lm.same {S' : Sz} {outs : List Int} {M : List Nat} (h : Lm n S outs M e) (j : SameJ S S') (hs : S'.seen = S.seen) : Lm n S' outs M e :=
  ⟨by rw [j.vals, j.lev, j.st]; exact h.out, h.ond, h.mnd, by rw [j.tr, j.lev, j.st]; exact h.mem, by rw [hs]; exact h.seen⟩
theorem Lm.outLen {outs : List Int} {M : List Nat} (h : Lm n S outs M e) : outs.length ≤ n := by
  have hsub : ∀ x ∈ outs.map Int.natAbs, x ∈ List.range n := by
    intro x hx
    obtain ⟨y, hy, rfl⟩ := List.mem_map.1 hx
    exact List.mem_range.2 (h.out y hy).2.2.1
  have := List.Nodup.length_le_of_subset h.ond hsub
  simpa using this
theorem Lm.mLen {outs : List Int} {M : List Nat} (h : Lm n S outs M e) (hM : Mid n N U S a E wI) : M.length ≤ n := by
  have hsub : ∀ x ∈ M, x ∈ List.range n := by
    intro x hx
    obtain ⟨i, l, _, hi, e1, _⟩ := h.mem x hx
    have := (hM.trl.lit i l hi).2.1
    exact List.mem_range.2 (by omega)
  have := List.Nodup.length_le_of_subset h.mnd hsub
  simpa using this
theorem same_false {vs : List Int} {x y : Int} (hx : litV vs x = -1) (hy : litV vs y = -1) (hxy : x.natAbs = y.natAbs) (h0 : x ≠ 0) : x = y := by
  apply Classical.byContradiction
  intro hne
  have : y = -x := by omega
  rw [this, litV_neg h0, hx] at hy
  omega
theorem learnL_ok (first : Int) : ∀ (ls : List Int) {S : Sz} {outs : List Int} {M : List Nat}, Mid n N U S a E wI → Lm n S outs M e → (∀ y ∈ ls, y ≠ first → litV S.vals y = -1 ∧ 1 ≤ y.natAbs ∧ y.natAbs < n ∧ -y ∈ S.tr.take e) →
    ∃ (S' : Sz) (outs' : List Int) (M' : List Nat), learnL ls S first (0 :: outs) M.length = some (S', 0 :: outs', (M'.length : Int)) ∧ Mid n N U S' a E wI ∧ SameJ S S' ∧ Lm n S' outs' M' e ∧ (∀ y ∈ outs, y ∈ outs') ∧ (∀ v ∈ M, v ∈ M') ∧ S'.cls = S.cls ∧
      (∀ y ∈ ls, y ≠ first → S.lev.getD y.natAbs 0 = 0 ∨ y ∈ outs' ∨ y.natAbs ∈ M') ∧ ∀ y ∈ outs', y ∈ outs ∨ (y ∈ ls ∧ y ≠ first)
  | [], S, outs, M, hM, h, _ => ⟨S, outs, M, rfl, hM, SameJ.refl S, h, fun y hy => hy, fun v hv => hv, rfl, fun y hy => (by cases hy), fun y hy => .inl hy⟩
  | l :: ls, S, outs, M, hM, h, hls => by
    have hrest := fun y hy => hls y (List.mem_cons_of_mem _ hy)
    unfold learnL
    by_cases hf : l = first
    · rw [if_pos hf]
      obtain ⟨S', outs', M', e1, e2, e3, e4, e5, e6, e7, e8, e9⟩ := learnL_ok first ls hM h hrest
      refine ⟨S', outs', M', e1, e2, e3, e4, e5, e6, e7, fun y hy hne => ?_, fun y hy => (e9 y hy).imp id fun h => ⟨List.mem_cons_of_mem _ h.1, h.2⟩⟩
      rcases List.mem_cons.1 hy with rfl | hy
      · exact absurd hf hne
      · exact e8 y hy hne
    · rw [if_neg hf]
      obtain ⟨l1, l2, l3, l4⟩ := hls l (by simp) hf
      have hsl : S.seen.length = n := hM.wf.seen
      have hll : S.lev.length = n := hM.wf.lev
      rw [list_get false (by omega), Option.bind_some, list_get 0 (by omega), Option.bind_some]
      have hl0 : l ≠ 0 := by omega
      by_cases hskip : (S.seen.getD l.natAbs false || S.lev.getD l.natAbs 0 == 0) = true
      · rw [if_pos hskip]
        obtain ⟨S', outs', M', e1, e2, e3, e4, e5, e6, e7, e8, e9⟩ := learnL_ok first ls hM h hrest
        refine ⟨S', outs', M', e1, e2, e3, e4, e5, e6, e7, fun y hy hne => ?_, fun y hy => (e9 y hy).imp id fun h => ⟨List.mem_cons_of_mem _ h.1, h.2⟩⟩
        rcases List.mem_cons.1 hy with rfl | hy
        · rw [Bool.or_eq_true] at hskip
          rcases hskip with hk | hk
          · rcases (h.seen y.natAbs).1 hk with ⟨x, hx, ex⟩ | hk
            · have : y = x := same_false l1 (h.out x hx).1 ex.symm hl0
              exact .inr (.inl (e5 y (this ▸ hx)))
            · exact .inr (.inr (e6 _ hk))
          · exact .inl (by simpa using hk)
        · exact e8 y hy hne
      · rw [if_neg hskip]
        have hs0 : S.seen.getD l.natAbs false = false := by
          cases hb : S.seen.getD l.natAbs false with
          | false => rfl
          | true => exact absurd (by rw [hb]; rfl) hskip
        have hd0 : S.lev.getD l.natAbs 0 ≠ 0 := fun hd => hskip (by rw [hd]; simp)
        have hno : ¬ ((∃ y ∈ outs, y.natAbs = l.natAbs) ∨ l.natAbs ∈ M) := fun hc => by
          have := (h.seen l.natAbs).2 hc
          rw [hs0] at this
          cases this
        obtain ⟨S1, r1, r2, r3, r4⟩ := (hM.seen_ l.natAbs true).raise_ l2 l3
        rw [r1, Option.bind_some]
        have j1 : SameJ S S1 := (sameJ_seen S _).trans r3
        have hseen1 : ∀ v : Nat, S1.seen.getD v false = if v = l.natAbs then true else S.seen.getD v false := fun v => by
          rw [r4]
          exact getD_set (by omega)
        have hlevD := hM.level l2 l3 (by omega)
        have hol := h.outLen
        have hml := h.mLen hM
        have hn2 := hM.n2
        obtain ⟨S1cls⟩ : S1.cls = S.cls ∧ True := by
          refine ⟨?_, trivial⟩
          have : S1.cls = ({ S with seen := S.seen.set l.natAbs true } : Sz).cls := by
            unfold raiseO at r1
            obtain ⟨s, hs, r1⟩ := Option.bind_eq_some_iff.1 r1
            obtain ⟨p, hp, r1⟩ := Option.bind_eq_some_iff.1 r1
            have hR : (raiseS { S with seen := S.seen.set l.natAbs true } l.natAbs s).cls = S.cls := by unfold raiseS; split <;> rfl
            split at r1
            · split at r1
              · cases r1
                exact (sameO_get (fix_same _ _)).1.trans hR
              · cases r1
            · cases r1
              exact hR
          exact this
        have hrest1 : ∀ y ∈ ls, y ≠ first → litV S1.vals y = -1 ∧ 1 ≤ y.natAbs ∧ y.natAbs < n ∧ -y ∈ S1.tr.take e := by
          rw [j1.vals, j1.tr]; exact hrest
        by_cases hD : S.lev.getD l.natAbs 0 = S.st.length
        · have hD1 : S.lev.getD l.natAbs 0 = (({ S with seen := S.seen.set l.natAbs true } : Sz)).st.length := hD
          rw [if_pos (by exact hD), if_pos (by unfold roomy; exact decide_eq_true (by omega))]
          have hLm : Lm n S1 outs (M ++ [l.natAbs]) e := by
            refine ⟨by rw [j1.vals, j1.lev, j1.st]; exact h.out, h.ond, ?_, fun v hv => ?_, fun v => ?_⟩
            · rw [List.nodup_append]
              exact ⟨h.mnd, by simp, fun x hx y hy exy => hno (.inr (by rw [List.mem_singleton.1 hy] at exy; exact exy ▸ hx))⟩
            · rw [j1.tr, j1.lev, j1.st]
              rcases List.mem_append.1 hv with hv | hv
              · exact h.mem v hv
              · rw [List.mem_singleton.1 hv]
                obtain ⟨i, hi⟩ := List.getElem?_of_mem l4
                rw [List.getElem?_take] at hi
                split at hi
                · rename_i hie
                  exact ⟨i, -l, hie, hi, Int.natAbs_neg l, hD⟩
                · cases hi
            · rw [hseen1]
              by_cases ev : v = l.natAbs
              · rw [if_pos ev]
                exact ⟨fun _ => .inr (by rw [ev]; simp), fun _ => rfl⟩
              · rw [if_neg ev, h.seen v]
                constructor
                · exact fun hc => hc.imp id fun hc => List.mem_append_left _ hc
                · rintro (hc | hc)
                  · exact .inl hc
                  · rcases List.mem_append.1 hc with hc | hc
                    · exact .inr hc
                    · exact absurd (List.mem_singleton.1 hc) ev
          have hlen : ((M ++ [l.natAbs]).length : Int) = (M.length : Int) + 1 := by simp
          obtain ⟨S', outs', M', e1, e2, e3, e4, e5, e6, e7, e8, e9⟩ := learnL_ok first ls r2 hLm hrest1
          rw [hlen] at e1
          refine ⟨S', outs', M', e1, e2, j1.trans e3, e4, e5, fun v hv => e6 v (List.mem_append_left _ hv), e7.trans S1cls, fun y hy hne => ?_, fun y hy => (e9 y hy).imp id fun h => ⟨List.mem_cons_of_mem _ h.1, h.2⟩⟩
          rcases List.mem_cons.1 hy with rfl | hy
          · exact .inr (.inr (e6 _ (by simp)))
          · rw [← j1.lev]; exact e8 y hy hne
        · rw [if_neg (by exact hD), if_pos (by unfold roomy; exact decide_eq_true (by simp; omega))]
          have hLm : Lm n S1 (outs ++ [l]) M e := by
            refine ⟨fun y hy => ?_, ?_, h.mnd, by rw [j1.tr, j1.lev, j1.st]; exact h.mem, fun v => ?_⟩
            · rw [j1.vals, j1.lev, j1.st]
              rcases List.mem_append.1 hy with hy | hy
              · exact h.out y hy
              · rw [List.mem_singleton.1 hy]
                exact ⟨l1, l2, l3, by omega, by omega⟩
            · rw [List.map_append, List.nodup_append]
              refine ⟨h.ond, by simp, fun x hx y hy exy => ?_⟩
              obtain ⟨x', hx', e1⟩ := List.mem_map.1 hx
              have : y = l.natAbs := by simpa using hy
              exact hno (.inl ⟨x', hx', by omega⟩)
            · rw [hseen1]
              by_cases ev : v = l.natAbs
              · rw [if_pos ev]
                exact ⟨fun _ => .inl ⟨l, by simp, ev.symm⟩, fun _ => rfl⟩
              · rw [if_neg ev, h.seen v]
                constructor
                · exact fun hc => hc.imp (fun ⟨y, hy, e1⟩ => ⟨y, List.mem_append_left _ hy, e1⟩) id
                · rintro (⟨y, hy, e1⟩ | hc)
                  · rcases List.mem_append.1 hy with hy | hy
                    · exact .inl ⟨y, hy, e1⟩
                    · rw [List.mem_singleton.1 hy] at e1
                      exact absurd e1.symm ev
                  · exact .inr hc
          obtain ⟨S', outs', M', e1, e2, e3, e4, e5, e6, e7, e8, e9⟩ := learnL_ok first ls r2 hLm hrest1
          refine ⟨S', outs', M', e1, e2, j1.trans e3, e4, fun y hy => e5 y (List.mem_append_left _ hy), e6, e7.trans S1cls, fun y hy hne => ?_, fun y hy => ?_⟩
          case refine_2 =>
            rcases e9 y hy with h9 | h9
            · rcases List.mem_append.1 h9 with h9 | h9
              · exact .inl h9
              · exact .inr ⟨by rw [List.mem_singleton.1 h9]; simp, by rw [List.mem_singleton.1 h9]; exact hf⟩
            · exact .inr ⟨List.mem_cons_of_mem _ h9.1, h9.2⟩
          rcases List.mem_cons.1 hy with rfl | hy
          · exact .inr (.inl (e5 _ (by simp)))
          · rw [← j1.lev]; exact e8 y hy hne
end
end Go.Proofs.Ytkpppmldbhgcgaa
/- Sat, plain: what a conflict teaches (learn): from clause to clause. -/
set_option autoImplicit false
set_option linter.unusedVariables false
set_option linter.unusedSimpArgs false
namespace Go.Proofs.Ytkpppmldbhgcgaa
open Go
section
variable {n : Nat} {N : List (List Int)} {U : Int} {S : Sz} {a : Nat} {wI : List (List Nat)}
theorem scan_ok {E : Nat → Int → Prop} (hM : Mid n N U S a E wI) : ∀ (e : Nat), e ≤ S.tr.length → (∃ (i : Nat) (l : Int), i < e ∧ S.tr[i]? = some l ∧ S.seen.getD l.natAbs false = true) →
    ∃ (k : Nat) (x : Int), scanO S e = some (k, x) ∧ k < e ∧ S.tr[k]? = some x ∧ S.seen.getD x.natAbs false = true ∧ ∀ (i : Nat) (l : Int), k < i → i < e → S.tr[i]? = some l → S.seen.getD l.natAbs false = false
  | 0, _, ⟨i, l, hi, _⟩ => by omega
  | e + 1, he, ⟨i, l, hi, hl, hs⟩ => by
    obtain ⟨x, hx⟩ : ∃ x, S.tr[e]? = some x := ⟨_, List.getElem?_eq_getElem (by omega)⟩
    have hxn := (hM.trl.lit e x hx).2.1
    have hsl : S.seen.length = n := hM.wf.seen
    unfold scanO
    rw [hx, Option.bind_some, list_get false (by omega), Option.bind_some]
    cases hb : S.seen.getD x.natAbs false with
    | true =>
      exact ⟨e, x, rfl, by omega, hx, hb, fun j m h1 h2 _ => by omega⟩
    | false =>
      have hie : i ≠ e := fun h => by
        subst h
        rw [hx] at hl
        cases hl
        rw [hb] at hs
        cases hs
      obtain ⟨k, y, h1, h2, h3, h4, h5⟩ := scan_ok hM e (by omega) ⟨i, l, by omega, hl, hs⟩
      refine ⟨k, y, h1, by omega, h3, h4, fun j m h6 h7 h8 => ?_⟩
      by_cases hj : j = e
      · subst hj
        rw [hx] at h8
        cases h8
        exact hb
      · exact h5 j m h6 (by omega) h8
/-- each reason of a literal of the open level is of that level alone -/
def BinR (S : Sz) : Prop := ∀ (i : Nat) (l : Int) (c : Nat) (z : Cz), S.tr[i]? = some l → S.rea.getD l.natAbs none = some c → S.cls[c]? = some z → S.lev.getD l.natAbs 0 = S.st.length → ∀ y ∈ z.lits, y ≠ l → S.lev.getD y.natAbs 0 = S.st.length
theorem BinR.same {S S' : Sz} (h : BinR S) (j : SameJ S S') : BinR S' := fun i l c z hi hr hc hl y hy => by
  rw [j.tr] at hi
  rw [j.rea] at hr
  rw [j.lev, j.st] at hl ⊢
  obtain ⟨z0, hz0⟩ : ∃ z0, S.cls[c]? = some z0 := ⟨_, List.getElem?_eq_getElem (by rw [← j.len]; exact (List.getElem?_eq_some_iff.1 hc).1)⟩
  obtain ⟨z', hz', e⟩ := j.cls c z0 hz0
  rw [hc] at hz'
  cases hz'
  exact h i l c z0 hi hr hz0 hl y (by rw [← e]; exact hy)
theorem learnF_ok : ∀ (f : Nat) {U : Int} {S : Sz} {c : Nat} {z : Cz} {first : Int} {outs : List Int} {M : List Nat} {e : Nat}, e + 1 ≤ f → Mid n N U S a noE wI → U + f ≤ 1000000000 → S.cls[c]? = some z → (∀ y ∈ z.lits, y ≠ first → litV S.vals y = -1 ∧ 1 ≤ y.natAbs ∧ y.natAbs < n ∧ -y ∈ S.tr.take e) →
    Lm n S outs M e → e ≤ S.tr.length → 0 < S.st.length → (M ≠ [] ∨ ∃ y ∈ z.lits, y ≠ first ∧ S.lev.getD y.natAbs 0 = S.st.length) →
    (∀ H : Int → Prop, (∀ y ∈ z.lits, y ≠ first → D.Der N H (-y)) → (∀ y ∈ outs, D.Der N H (-y)) → (∀ l ∈ S.tr, l.natAbs ∈ M → D.Der N H l) → D.Confl N H) →
    ∃ (S' : Sz) (outs' : List Int) (x : Int), learnF f S c first (0 :: outs) M.length e = some (S', 0 :: outs', x) ∧ Mid n N (U + f) S' a noE wI ∧ SameJ S S' ∧ (∃ e', Lm n S' outs' [] e') ∧ litV S.vals x = 1 ∧ 1 ≤ x.natAbs ∧ x.natAbs < n ∧ S.lev.getD x.natAbs 0 = S.st.length ∧
      (∀ H : Int → Prop, (∀ y ∈ outs', D.Der N H (-y)) → D.Der N H x → D.Confl N H) ∧ (BinR S → (∀ y ∈ z.lits, y ≠ first → S.lev.getD y.natAbs 0 = S.st.length) → outs = [] → outs' = [])
  | 0, U, S, c, z, first, outs, M, e, hf, _, _, _, _, _, _, _, _, _ => by omega
  | f + 1, U, S, c, z, first, outs, M, e, hf, hM, hU, hz, hls, h, he, hD, hne, pre => by
    have hok := hM.cla c z hz
    have hn2 := hM.n2
    have hu := hok.use
    have hsh := hok.short
    have hsl : S.seen.length = n := hM.wf.seen
    have hM1 := hM.use_ hz
    have j0 := sameJ_use hz (z.use + 1)
    have hL1 : Lm n { S with cls := S.cls.set c { z with use := z.use + 1 } } outs M e := h.same j0 rfl
    obtain ⟨S1, outs', M', e1, e2, e3, e4, e5, e6, e7, e8, e9⟩ := learnL_ok first z.lits hM1 hL1 hls
    have j1 : SameJ S S1 := j0.trans e3
    have hbin : (∀ y ∈ z.lits, y ≠ first → S.lev.getD y.natAbs 0 = S.st.length) → outs = [] → outs' = [] := fun k1 k2 => by
      apply Classical.byContradiction
      intro hc
      obtain ⟨y, hy⟩ := List.exists_mem_of_ne_nil outs' hc
      rcases e9 y hy with q | q
      · rw [k2] at q; cases q
      · have := (e4.out y hy).2.2.2.2
        rw [j1.lev, j1.st, k1 y q.1 q.2] at this
        omega
    unfold learnF
    rw [hz, Option.bind_some, if_pos ⟨by omega, by omega, by unfold roomy; exact decide_eq_true (by omega)⟩, e1, Option.bind_some]
    have hMpos : M' ≠ [] := by
      rcases hne with hne | ⟨y, hy, hyf, hyl⟩
      · obtain ⟨v, hv⟩ := List.exists_mem_of_ne_nil M hne
        exact List.ne_nil_of_mem (e6 v hv)
      · rcases e8 y hy hyf with h0 | h0 | h0
        · have h0 : S.lev.getD y.natAbs 0 = 0 := h0
          omega
        · have := (e4.out y h0).2.2.2.2
          rw [j1.lev, j1.st] at this
          omega
        · exact List.ne_nil_of_mem h0
    have hMl : 0 < M'.length := List.length_pos_iff.2 hMpos
    have hMn := e4.mLen e2
    have he1 : e ≤ S1.tr.length := by rw [j1.tr]; exact he
    -- a marked one stands ahead of e
    obtain ⟨v0, hv0⟩ := List.exists_mem_of_ne_nil M' hMpos
    obtain ⟨i0, l0, hi0, hl0, hlv0, hlev0⟩ := e4.mem v0 hv0
    obtain ⟨k, x, s1, s2, s3, s4, s5⟩ := scan_ok e2 e he1 ⟨i0, l0, hi0, hl0, by rw [hlv0]; exact (e4.seen v0).2 (.inr hv0)⟩
    have hxl := e2.trl.lit k x s3
    -- whatever is marked of the open level stands at k or before
    have hbefore : ∀ v ∈ M', ∃ (i : Nat) (l : Int), i ≤ k ∧ S1.tr[i]? = some l ∧ l.natAbs = v ∧ S1.lev.getD v 0 = S1.st.length := fun v hv => by
      obtain ⟨i, l, hi, hl, hlv, hle⟩ := e4.mem v hv
      refine ⟨i, l, ?_, hl, hlv, hle⟩
      apply Classical.byContradiction
      intro hc
      have := s5 i l (by omega) hi hl
      rw [hlv] at this
      rw [(e4.seen v).2 (.inr hv)] at this
      cases this
    have hxM : x.natAbs ∈ M' := by
      rcases (e4.seen x.natAbs).1 s4 with ⟨y, hy, exy⟩ | hx
      · -- of a lower level: no, as a marked one of the open level stands before
        obtain ⟨_, _, _, _, hlt⟩ := e4.out y hy
        obtain ⟨i, l, hik, hl, hlv, hle⟩ := hbefore v0 hv0
        obtain ⟨L, hL, hA⟩ := e2.trl.lev k x s3
        obtain ⟨L2, hL2, hA2⟩ := e2.trl.lev i l hl
        have := hA2.mono hA hik
        rw [exy, hL] at hlt
        rw [hlv, hle] at hL2
        omega
      · exact hx
    have hlevx : S1.lev.getD x.natAbs 0 = S1.st.length := by
      obtain ⟨_, _, _, _, _, h5⟩ := e4.mem _ hxM
      exact h5
    obtain ⟨S2, hS2⟩ : ∃ S2 : Sz, { S1 with seen := S1.seen.set x.natAbs false } = S2 := ⟨_, rfl⟩
    have hM2 : Mid n N (U + 1) S2 a noE wI := by rw [← hS2]; exact e2.seen_ _ _
    have j2 : SameJ S S2 := by rw [← hS2]; exact j1.trans (sameJ_seen S1 _)
    have hsl1 : S1.seen.length = n := e2.wf.seen
    have hseen2 : ∀ v : Nat, S2.seen.getD v false = if v = x.natAbs then false else S1.seen.getD v false := fun v => by rw [← hS2]; exact getD_set (by omega)
    have hnd := e4.mnd
    have hLm2 : Lm n S2 outs' (M'.erase x.natAbs) k := by
      have t1 : S2.vals = S1.vals := by rw [← hS2]
      have t2 : S2.lev = S1.lev := by rw [← hS2]
      have t3 : S2.st = S1.st := by rw [← hS2]
      have t4 : S2.tr = S1.tr := by rw [← hS2]
      refine ⟨by rw [t1, t2, t3]; exact e4.out, e4.ond, hnd.erase _, fun v hv => ?_, fun v => ?_⟩
      · rw [t4, t2, t3]
        have hv' := (hnd.mem_erase_iff).1 hv
        obtain ⟨i, l, hik, hl, hlv, hle⟩ := hbefore v hv'.2
        refine ⟨i, l, ?_, hl, hlv, hle⟩
        rcases Nat.lt_or_eq_of_le hik with h6 | h6
        · exact h6
        · subst h6
          rw [s3] at hl
          cases hl
          exact absurd hlv.symm hv'.1
      · rw [hseen2]
        by_cases hv : v = x.natAbs
        · rw [if_pos hv]
          refine ⟨fun hc => (by cases hc), fun hc => ?_⟩
          rcases hc with ⟨y, hy, ey⟩ | hc
          · obtain ⟨_, _, _, _, hlt⟩ := e4.out y hy
            rw [ey, hv, hlevx] at hlt
            omega
          · exact absurd hv ((hnd.mem_erase_iff).1 hc).1
        · rw [if_neg hv, e4.seen v]
          constructor
          · exact fun hc => hc.imp id fun hc => (hnd.mem_erase_iff).2 ⟨hv, hc⟩
          · exact fun hc => hc.imp id fun hc => ((hnd.mem_erase_iff).1 hc).2
    have hel : ((M'.erase x.natAbs).length : Int) = (M'.length : Int) - 1 := by
      rw [List.length_erase_of_mem hxM]
      omega
    -- with what is marked and the literal itself there is a conflict
    have hcf : ∀ H : Int → Prop, (∀ y ∈ outs', D.Der N H (-y)) → (∀ l ∈ S1.tr, l.natAbs ∈ M'.erase x.natAbs → D.Der N H l) → D.Der N H x → D.Confl N H := by
      intro H h1 h2 h3
      have hMd : ∀ l ∈ S.tr, l.natAbs ∈ M' → D.Der N H l := fun l hl hlm => by
        rw [← j1.tr] at hl
        by_cases hxx : l.natAbs = x.natAbs
        · obtain ⟨i, hi⟩ := List.getElem?_of_mem hl
          have hik := e2.trl.nd i k l x hi s3 hxx
          subst hik
          rw [s3] at hi
          cases hi
          exact h3
        · exact h2 l hl ((hnd.mem_erase_iff).2 ⟨hxx, hlm⟩)
      refine pre H (fun y hy hyf => ?_) (fun y hy => h1 y (e5 y hy)) (fun l hl hlm => hMd l hl (e6 _ hlm))
      obtain ⟨y1, y2, y3, y4⟩ := hls y hy hyf
      rcases e8 y hy hyf with h0 | h0 | h0
      · -- of level nought
        obtain ⟨i, hi⟩ := List.getElem?_of_mem (List.mem_of_mem_take y4)
        obtain ⟨L, hL, hA⟩ := hM.trl.lev i (-y) hi
        rw [Int.natAbs_neg] at hL
        have h0 : S.lev.getD y.natAbs 0 = 0 := h0
        have : L = 0 := by omega
        subst this
        exact der_zero hM H i (-y) hi hA
      · exact h1 y h0
      · exact hMd (-y) (List.mem_of_mem_take y4) (by rw [Int.natAbs_neg]; exact h0)
    dsimp only
    rw [if_pos ⟨by omega, by omega⟩, s1, Option.bind_some]
    dsimp only
    rw [hS2]
    have hvx : litV S.vals x = 1 := by rw [← j1.vals]; exact hxl.2.2
    have hlx : S.lev.getD x.natAbs 0 = S.st.length := by rw [← j1.lev, ← j1.st]; exact hlevx
    by_cases hend : (M'.length : Int) - 1 = 0
    · rw [if_pos hend]
      have hnil : M'.erase x.natAbs = [] := List.eq_nil_of_length_eq_zero (by omega)
      rw [hnil] at hLm2 hcf
      exact ⟨S2, outs', x, rfl, hM2.more (by omega), j2, ⟨k, hLm2⟩, hvx, hxl.1, hxl.2.1, hlx, fun H h1 h2 => hcf H h1 (fun l _ hl => by cases hl) h2, fun _ k1 k2 => hbin k1 k2⟩
    · rw [if_neg hend]
      have hMe : M'.erase x.natAbs ≠ [] := fun hc => by rw [hc] at hel; simp at hel; omega
      -- the literal was made true by a clause
      obtain ⟨v1, hv1⟩ := List.exists_mem_of_ne_nil _ hMe
      obtain ⟨i1, l1, hi1, hl1, hlv1, hle1⟩ := hLm2.mem v1 hv1
      obtain ⟨Lx, hLx, hAx⟩ := e2.trl.lev k x s3
      have t2 : S2.lev = S1.lev := by rw [← hS2]
      have t3 : S2.st = S1.st := by rw [← hS2]
      have t4 : S2.tr = S1.tr := by rw [← hS2]
      have t5 : S2.rea = S1.rea := by rw [← hS2]
      have t6 : S2.cls = S1.cls := by rw [← hS2]
      have t7 : S2.vals = S1.vals := by rw [← hS2]
      rw [t4] at hl1
      rw [t2, t3] at hle1
      obtain ⟨L1, hL1', hA1⟩ := e2.trl.lev i1 l1 hl1
      have hst1 : S1.st.length = S.st.length := by rw [j1.st]
      have hreason : ∃ c1, S1.rea.getD x.natAbs none = some c1 := by
        cases hr : S1.rea.getD x.natAbs none with
        | some c1 => exact ⟨c1, rfl⟩
        | none =>
          exfalso
          rcases e2.rsn.no k x s3 hr with ⟨kk, hkk, ekk⟩ | ⟨h0, _⟩
          · have q1 := (hAx.2 kk hkk).1 (by omega)
            have q2 := (hA1.2 (S1.st.length - 1) (by omega)).2 (by rw [hlv1] at hL1'; omega)
            have q3 := st_mono e2.trl (i := kk) (j := S1.st.length - 1) (by omega) (by omega)
            omega
          · have := hAx.uniq h0
            rw [hlevx] at hLx
            omega
      obtain ⟨c1, hc1⟩ := hreason
      have hrl : S1.rea.length = n := e2.wf.rea
      rw [list_get none (by omega), Option.bind_some, hc1, Option.bind_some]
      obtain ⟨z1, hz1, hz10, hz1y⟩ := e2.rsn.by_ k x c1 s3 hc1
      have hok1 := e2.cla c1 z1 hz1
      have htail : ∀ y ∈ z1.lits, y ≠ x → -y ∈ S1.tr.take k := fun y hy hyx => by
        obtain ⟨j, hj⟩ := List.getElem?_of_mem hy
        have hj0 : j ≠ 0 := fun hc => by
          subst hc
          rw [hz10] at hj
          exact hyx (Option.some.inj hj).symm
        exact hz1y y (List.mem_of_getElem? (i := j - 1) (by rw [List.getElem?_drop, show 1 + (j - 1) = j by omega]; exact hj))
      obtain ⟨S', outs'', x', g1, g2, g3, g4, g5, g6, g7, g8, g9, g10⟩ := learnF_ok f (U := U + 1) (S := S2) (c := c1) (z := z1) (first := x) (outs := outs') (M := M'.erase x.natAbs) (e := k) (by omega) hM2 (by omega) (by rw [t6]; exact hz1) (fun y hy hyx => by
        have hm := htail y hy hyx
        obtain ⟨j, hj⟩ := List.getElem?_of_mem (List.mem_of_mem_take hm)
        rw [t7, t4]
        exact ⟨e2.trl.in_false hj, (hok1.rng y hy).1, (hok1.rng y hy).2, hm⟩) hLm2 (by rw [t4]; omega) (by rw [t3]; omega) (.inl hMe) (fun H h1 h2 h3 => by
        rw [t4] at h3
        refine hcf H h2 h3 ?_
        obtain ⟨d, hd, hs⟩ := hok1.in_
        exact .unit d x hd ((hs x).2 (List.mem_of_getElem? hz10)) fun y hy hyx => h1 y ((hs y).1 hy) hyx)
      rw [← hel]
      refine ⟨S', outs'', x', g1, by rw [show U + ((f + 1 : Nat) : Int) = U + 1 + f by omega]; exact g2, j2.trans g3, g4, ?_, g6, g7, ?_, g9, fun k0 k1 k2 => ?_⟩
      case refine_3 =>
        refine g10 (k0.same j2) (fun y hy hyx => ?_) (hbin k1 k2)
        rw [t2, t3]
        exact (k0.same j1) k x c1 z1 s3 hc1 hz1 hlevx y hy hyx
      · rw [← j2.vals]; exact g5
      · rw [← j2.lev, ← j2.st]; exact g8
end
end Go.Proofs.Ytkpppmldbhgcgaa

/- Sat, plain: a clause is looked at (visit): what comes of it. -/
import Derived.Test.YtkpppmldbhgcgaaPlCtoPlD
set_option linter.unusedVariables false
set_option linter.unusedSimpArgs false
set_option autoImplicit false
set_option linter.unusedVariables false
set_option linter.unusedSimpArgs false
namespace Go.Proofs.Ytkpppmldbhgcgaa
open Go
section
variable {n : Nat} {N : List (List Int)} {U : Int} {S : Sz} {a : Nat} {E : Nat → Int → Prop} {wI : List (List Nat)}
theorem CzOK.short {z : Cz} (h : CzOK n N U z) : z.lits.length ≤ n := by
  have hsub : ∀ x ∈ z.lits.map Int.natAbs, x ∈ List.range n := by
    intro x hx
    obtain ⟨y, hy, rfl⟩ := List.mem_map.1 hx
    exact List.mem_range.2 (h.rng y hy).2
  have := List.Nodup.length_le_of_subset h.nd hsub
  simpa using this
theorem Mid.watch (h : Mid n N U S a E wI) {w : List (List Nat)} (hw : w.length = 2 * n) : Mid n N U { S with watch := w } a E wI :=
  ⟨h.n1, h.n2, ⟨⟨h.wf.ord.big, h.wf.ord.sc, h.wf.ord.pl, h.wf.ord.ov, h.wf.ord.ovl⟩, h.wf.vals, h.wf.lev, h.wf.rea, h.wf.sav, h.wf.seen, hw, h.wf.bump, h.wf.scp⟩, h.hp, h.free, h.trl, h.cla, h.wat, h.rsn, h.pro, h.wl, h.ale, h.big⟩
theorem get_set {α : Type} {l : List α} {i k : Nat} {x : α} (hi : i < l.length) : (l.set i x)[k]? = if k = i then some x else l[k]? := by
  rw [List.getElem?_set]
  by_cases e : i = k
  · subst e; simp [hi]
  · rw [if_neg e, if_neg fun h => e h.symm]
/-- the other of the two watched literals is looked at -/
theorem visit_core {l a1 : Int} {c : Nat} {z : Cz} {kept rest : List Nat} (h : Mid n N U S a (Exc l (c :: rest)) (rowI S (codeZ l) kept (c :: rest))) (hz : S.cls[c]? = some z) (h0 : z.lits[0]? = some a1) (h1 : z.lits[1]? = some l) (hl : litV S.vals l = -1) :
    ∃ r : Option Int × Sz, ((litO S a1).bind fun v => if v = 1 then some (some a1, S) else (movesO S c (codeZ l)).bind fun r => if r.1 then some (none, r.2) else some (some a1, r.2)) = some r ∧ SameW S r.2 ∧
      (r.1 = none → Mid n N U r.2 a (Exc l rest) (rowI r.2 (codeZ l) kept rest)) ∧
      (∀ x, r.1 = some x → x = a1 ∧ r.2 = S ∧ (litV S.vals a1 = 1 ∨ ∀ y ∈ z.lits.drop 1, litV S.vals y = -1)) := by
  have hok := h.cla c z hz
  have hrl := hok.rng l (List.mem_of_getElem? h1)
  have hra := hok.rng a1 (List.mem_of_getElem? h0)
  have hv : ∀ x ∈ z.lits, litO S x = some (litV S.vals x) := fun x hx => litO_val h.wf (hok.rng x hx).2
  have hwl : S.watch.length = 2 * n := h.wf.watch
  have hpl := codeZ_lt hrl.2
  rw [hv a1 (List.mem_of_getElem? h0)]
  show ∃ r : Option Int × Sz, (if litV S.vals a1 = 1 then some (some a1, S) else _) = some r ∧ _
  by_cases ht : litV S.vals a1 = 1
  · rw [if_pos ht]
    exact ⟨_, rfl, SameW.refl S, fun e => (by cases e), fun x e => ⟨by cases e; rfl, rfl, .inl ht⟩⟩
  rw [if_neg ht]
  have hsz := hok.short
  have hn2 := h.n2
  have h2 := hok.two
  have hmv : movesO S c (codeZ l) = movesF z.lits.length S c z (codeZ l) 2 := by
    unfold movesO
    rw [hz]
    show (if 2 ≤ z.lits.length ∧ roomy z.lits.length then _ else none) = _
    rw [if_pos ⟨h2, by unfold roomy; exact decide_eq_true (by omega)⟩]
  rw [hmv]
  by_cases hall : ∀ (j : Nat) (x : Int), 2 ≤ j → z.lits[j]? = some x → litV S.vals x = -1
  · rw [movesF_false hv z.lits.length 2 (by omega) h2 hall]
    refine ⟨_, rfl, SameW.refl S, fun e => (by cases e), fun x e => ⟨by cases e; rfl, rfl, .inr fun y hy => ?_⟩⟩
    obtain ⟨j, hj⟩ := List.getElem?_of_mem hy
    rw [List.getElem?_drop] at hj
    by_cases e1 : 1 + j = 1
    · rw [e1, h1] at hj
      cases hj
      exact hl
    · exact hall (1 + j) y (by omega) hj
  · have hex : ∃ (j : Nat) (x : Int), 2 ≤ j ∧ z.lits[j]? = some x ∧ litV S.vals x ≠ -1 := by
      apply Classical.byContradiction
      intro hc
      refine hall fun j x hj hx => Classical.byContradiction fun hne => hc ⟨j, x, hj, hx, hne⟩
    obtain ⟨j, x, hj2, hx, hxv, hmf⟩ := movesF_true (p := codeZ l) hv z.lits.length 2 (by omega) h2 hex (fun j x hj hx e => by
      have hrx := hok.rng x (List.mem_of_getElem? hx)
      exact (hok.ne hx h1 (by omega)).1 (codeZ_inj (by omega) (by omega) e))
    rw [hmf]
    have hrx := hok.rng x (List.mem_of_getElem? hx)
    have hpx := codeZ_lt hrx.2
    have hxl : codeZ x ≠ codeZ l := fun e => (hok.ne hx h1 (by omega)).1 (codeZ_inj (by omega) (by omega) e)
    have hxa : codeZ x ≠ codeZ a1 := fun e => (hok.ne hx h0 (by omega)).1 (codeZ_inj (by omega) (by omega) e)
    have hal : codeZ a1 ≠ codeZ l := fun e => (hok.ne h0 h1 (by omega)).1 (codeZ_inj (by omega) (by omega) e)
    obtain ⟨wx, hwx⟩ : ∃ wx, S.watch[codeZ x]? = some wx := ⟨_, List.getElem?_eq_getElem (by omega)⟩
    have hIx : (rowI S (codeZ l) kept (c :: rest))[codeZ x]? = some wx := by unfold rowI; rw [get_set (by omega), if_neg hxl]; exact hwx
    have hIp : (rowI S (codeZ l) kept (c :: rest))[codeZ l]? = some (kept ++ c :: rest) := by unfold rowI; rw [get_set (by omega), if_pos rfl]
    have hshort := h.wat.short hIx
    have hbig := h.big
    have hnx := h.wat.nd _ _ hIx
    have hnp := h.wat.nd _ _ hIp
    have hjl : j < z.lits.length := (List.getElem?_eq_some_iff.1 hx).1
    have hperm := swapV_perm (l := z.lits) (i := 1) (j := j) (by omega) hjl
    have hat : ∀ k : Nat, (swapV z.lits 1 j)[k]? = if k = j then some l else if k = 1 then some x else z.lits[k]? := fun k => by
      rw [swapV_at (by omega) hjl, h1, hx]
    have hcx : c ∉ wx := fun hc => by
      obtain ⟨z1, e1, k, y, hk, hy, hcd⟩ := h.wat.snd _ _ _ hIx hc
      rw [hz] at e1
      cases e1
      have hry := hok.rng y (List.mem_of_getElem? hy)
      exact (hok.ne hy hx (by omega)).1 (codeZ_inj (by omega) (by omega) hcd)
    have hck : c ∉ kept ++ rest := by
      rw [List.nodup_append] at hnp
      obtain ⟨_, n2, n3⟩ := hnp
      intro hc
      rcases List.mem_append.1 hc with hc | hc
      · exact n3 c hc c (by simp) rfl
      · exact (List.nodup_cons.1 n2).1 hc
    have hnk : (kept ++ rest).Nodup := by
      rw [List.nodup_append] at hnp ⊢
      obtain ⟨n1, n2, n3⟩ := hnp
      exact ⟨n1, (List.nodup_cons.1 n2).2, fun a ha b hb => n3 a ha b (by simp [hb])⟩
    have hadd : addO (setLits S c z (swapV z.lits 1 j)) x c = some { setLits S c z (swapV z.lits 1 j) with watch := S.watch.set (codeZ x) (wx ++ [c]) } := by
      unfold addO
      have e1 : (setLits S c z (swapV z.lits 1 j)).cls[c]? = some { z with lits := swapV z.lits 1 j } := by
        show (S.cls.set c _)[c]? = _
        rw [cls_set hz, if_pos rfl]
      rw [e1]
      show (S.watch[codeZ x]?).bind _ = _
      rw [hwx]
      show (if roomy wx.length ∧ x.natAbs ≤ 1000000 then _ else none) = _
      rw [if_pos ⟨by unfold roomy; exact decide_eq_true (by omega), by omega⟩]
      rfl
    rw [hadd]
    refine ⟨_, rfl, ⟨rfl, sameP_set hz hperm rfl⟩, fun _ => ?_, fun y e => (by cases e)⟩
    have hlen2 : (rowI { setLits S c z (swapV z.lits 1 j) with watch := S.watch.set (codeZ x) (wx ++ [c]) } (codeZ l) kept rest).length = 2 * n := by
      show ((S.watch.set _ _).set _ _).length = _
      rw [List.length_set, List.length_set]; exact hwl
    have hrow : ∀ q : Nat, (rowI { setLits S c z (swapV z.lits 1 j) with watch := S.watch.set (codeZ x) (wx ++ [c]) } (codeZ l) kept rest)[q]? = if q = codeZ l then some (kept ++ rest) else if q = codeZ x then some (wx ++ [c]) else S.watch[q]? := fun q => by
      show ((S.watch.set (codeZ x) (wx ++ [c])).set (codeZ l) (kept ++ rest))[q]? = _
      rw [get_set (by rw [List.length_set]; omega), get_set (by omega)]
    have hold : ∀ q : Nat, q ≠ codeZ l → (rowI S (codeZ l) kept (c :: rest))[q]? = S.watch[q]? := fun q hq => by unfold rowI; rw [get_set (by omega), if_neg hq]
    refine (h.turn hz hperm (.inr (by rw [hat, if_neg (by omega), if_neg (by omega)])) (wI' := rowI { setLits S c z (swapV z.lits 1 j) with watch := S.watch.set (codeZ x) (wx ++ [c]) } (codeZ l) kept rest) (E' := Exc l rest) ?_ hlen2 ?_).watch (by rw [List.length_set]; exact hwl)
    · refine ⟨fun q ws hq => ?_, fun q ws c' hq hm => ?_, fun c' z1 k y e1 hk hy => ?_⟩
      · rw [hrow] at hq
        split at hq
        · cases hq; exact hnk
        · split at hq
          · cases hq
            rw [List.nodup_append]
            refine ⟨hnx, by simp, fun a ha b hb e => ?_⟩
            rw [List.mem_singleton.1 hb] at e
            exact hcx (e ▸ ha)
          · rename_i e _
            exact h.wat.nd q ws (by rw [hold q e]; exact hq)
      · rw [hrow] at hq
        show ∃ z1, (S.cls.set c _)[c']? = some z1 ∧ _
        rw [cls_set hz]
        split at hq
        · rename_i e
          cases hq
          have hne : c' ≠ c := fun e2 => hck (e2 ▸ hm)
          obtain ⟨z1, e1, k, y, hk, hy, hcd⟩ := h.wat.snd _ _ c' hIp (by
            rcases List.mem_append.1 hm with hm | hm
            · exact List.mem_append_left _ hm
            · exact List.mem_append_right _ (List.mem_cons_of_mem _ hm))
          exact ⟨z1, by rw [if_neg hne]; exact e1, k, y, hk, hy, by rw [e]; exact hcd⟩
        · split at hq
          · rename_i e
            cases hq
            rcases List.mem_append.1 hm with hm | hm
            · have hne : c' ≠ c := fun e2 => hcx (e2 ▸ hm)
              obtain ⟨z1, e1, k, y, hk, hy, hcd⟩ := h.wat.snd _ _ c' hIx hm
              exact ⟨z1, by rw [if_neg hne]; exact e1, k, y, hk, hy, by rw [e]; exact hcd⟩
            · rw [List.mem_singleton.1 hm, if_pos rfl]
              refine ⟨_, rfl, 1, x, by omega, ?_, e.symm⟩
              show (swapV z.lits 1 j)[1]? = _
              rw [hat, if_neg (by omega), if_pos rfl]
          · rename_i e e3
            obtain ⟨z1, e1, k, y, hk, hy, hcd⟩ := h.wat.snd q ws c' (by rw [hold q e]; exact hq) hm
            by_cases hne : c' = c
            · rw [if_pos hne]
              rw [hne, hz] at e1
              cases e1
              have hk0 : k = 0 := by
                apply Classical.byContradiction
                intro hk0
                have : k = 1 := by omega
                subst this
                rw [h1] at hy
                cases hy
                exact e hcd.symm
              subst hk0
              refine ⟨_, rfl, 0, y, by omega, ?_, hcd⟩
              show (swapV z.lits 1 j)[0]? = _
              rw [hat, if_neg (by omega), if_neg (by omega)]
              exact hy
            · exact ⟨z1, by rw [if_neg hne]; exact e1, k, y, hk, hy, hcd⟩
      · have e1 : (S.cls.set c { z with lits := swapV z.lits 1 j })[c']? = some z1 := e1
        rw [cls_set hz] at e1
        rw [List.getD_eq_getElem?_getD, hrow]
        split at e1
        · rename_i e
          cases e1
          have hy : (swapV z.lits 1 j)[k]? = some y := hy
          rw [hat, if_neg (by omega)] at hy
          split at hy
          · cases hy
            rw [if_neg hxl, if_pos rfl, e]
            simp
          · have hk0 : k = 0 := by omega
            subst hk0
            rw [h0] at hy
            cases hy
            have := h.wat.cmp c z 0 a1 hz (by omega) h0
            rw [List.getD_eq_getElem?_getD, hold _ hal] at this
            rw [if_neg hal, if_neg (fun e => hxa e.symm), e]
            exact this
        · rename_i e
          have := h.wat.cmp c' z1 k y e1 hk hy
          rw [List.getD_eq_getElem?_getD] at this
          by_cases e2 : codeZ y = codeZ l
          · rw [e2, hIp] at this
            rw [if_pos e2]
            have this : c' ∈ kept ++ c :: rest := this
            show c' ∈ kept ++ rest
            rcases List.mem_append.1 this with hm | hm
            · exact List.mem_append_left _ hm
            · rcases List.mem_cons.1 hm with hm | hm
              · exact absurd hm e
              · exact List.mem_append_right _ hm
          · rw [hold _ e2] at this
            rw [if_neg e2]
            by_cases e3 : codeZ y = codeZ x
            · rw [if_pos e3]
              rw [e3, hwx] at this
              exact List.mem_append_left _ this
            · rw [if_neg e3]
              exact this
    · intro c' z1 k y o e1 hk hy ho hm
      have e1 : (S.cls.set c { z with lits := swapV z.lits 1 j })[c']? = some z1 := e1
      rw [cls_set hz] at e1
      split at e1
      · rename_i e
        cases e1
        have hy : (swapV z.lits 1 j)[k]? = some y := hy
        rw [hat, if_neg (by omega)] at hy
        have hfalse : litV S.vals y = -1 := by
          obtain ⟨i, hi⟩ := List.getElem?_of_mem (List.mem_of_mem_take hm)
          exact h.trl.in_false hi
        split at hy
        · cases hy
          exact absurd hfalse hxv
        · have hk0 : k = 0 := by omega
          subst hk0
          rw [h0] at hy
          cases hy
          rcases h.pro c z 0 a1 l hz (by omega) h0 h1 hm with e2 | e2
          · exact absurd e2.1 (hok.ne h0 h1 (by omega)).1
          · rw [hl] at e2
            exact absurd e2.1 (by decide)
      · rename_i e
        rcases h.pro c' z1 k y o e1 hk hy ho hm with e2 | e2
        · refine .inl ⟨e2.1, ?_⟩
          rcases List.mem_cons.1 e2.2 with e3 | e3
          · exact absurd e3 e
          · exact e3
        · exact .inr e2
end
end Go.Proofs.Ytkpppmldbhgcgaa
/- Sat, plain: a literal's row (row), all that is to be propagated (spread). -/
set_option autoImplicit false
set_option linter.unusedVariables false
set_option linter.unusedSimpArgs false
namespace Go.Proofs.Ytkpppmldbhgcgaa
open Go
section
variable {n : Nat} {N : List (List Int)} {U : Int} {S : Sz} {a : Nat} {E : Nat → Int → Prop} {wI : List (List Nat)}
theorem rowI_set {S : Sz} (c : Nat) (z : Cz) (l : List Int) (p : Nat) (kept rest : List Nat) : rowI (setLits S c z l) p kept rest = rowI S p kept rest := rfl
theorem visit_ok {l : Int} {c : Nat} {kept rest : List Nat} (h : Mid n N U S a (Exc l (c :: rest)) (rowI S (codeZ l) kept (c :: rest))) (h1 : 1 ≤ l.natAbs) (h2 : l.natAbs < n) (hl : litV S.vals l = -1) :
    ∃ r, visitO S l c = some r ∧ SameW S r.2 ∧ (r.1 = none → Mid n N U r.2 a (Exc l rest) (rowI r.2 (codeZ l) kept rest)) ∧
      (∀ x, r.1 = some x → Mid n N U r.2 a (Exc l (c :: rest)) (rowI r.2 (codeZ l) kept (c :: rest)) ∧ ∃ z, r.2.cls[c]? = some z ∧ z.lits[0]? = some x ∧ z.lits[1]? = some l ∧ (litV S.vals x = 1 ∨ ∀ y ∈ z.lits.drop 1, litV S.vals y = -1)) := by
  have hwl : S.watch.length = 2 * n := h.wf.watch
  have hpl := codeZ_lt h2
  have hIp : (rowI S (codeZ l) kept (c :: rest))[codeZ l]? = some (kept ++ c :: rest) := by unfold rowI; rw [get_set (by omega), if_pos rfl]
  obtain ⟨z, hz, k, y, hk, hy, hcd⟩ := h.wat.snd _ _ c hIp (by simp)
  have hok := h.cla c z hz
  have hry := hok.rng y (List.mem_of_getElem? hy)
  have hyl : y = l := codeZ_inj (by omega) (by omega) hcd
  subst hyl
  have ht := hok.two
  obtain ⟨a0, ha0⟩ : ∃ x, z.lits[0]? = some x := ⟨_, List.getElem?_eq_getElem (by omega)⟩
  obtain ⟨b0, hb0⟩ : ∃ x, z.lits[1]? = some x := ⟨_, List.getElem?_eq_getElem (by omega)⟩
  have hvis : visitO S y c = ((litO (if a0 = y then setLits S c z (swapV z.lits 0 1) else S) (if a0 = y then b0 else a0)).bind fun v => if v = 1 then some (some (if a0 = y then b0 else a0), if a0 = y then setLits S c z (swapV z.lits 0 1) else S) else (movesO (if a0 = y then setLits S c z (swapV z.lits 0 1) else S) c (codeZ y)).bind fun r => if r.1 then some (none, r.2) else some (some (if a0 = y then b0 else a0), r.2)) := by
    unfold visitO
    rw [hz]
    show (if z.gone = true then _ else _) = _
    rw [if_neg (by rw [hok.gone]; decide), ha0, hb0]
    rfl
  rw [hvis]
  match k, hk, hy with
  | 0, _, hy =>
    rw [hy] at ha0
    cases ha0
    rw [if_pos rfl, if_pos rfl]
    have hz1 : (setLits S c z (swapV z.lits 0 1)).cls[c]? = some { z with lits := swapV z.lits 0 1 } := by
      show (S.cls.set c _)[c]? = _
      rw [cls_set hz, if_pos rfl]
    have hat0 : (swapV z.lits 0 1)[0]? = some b0 := by rw [swapV_at (by omega) (by omega), if_neg (by omega), if_pos rfl]; exact hb0
    have hat1 : (swapV z.lits 0 1)[1]? = some y := by rw [swapV_at (by omega) (by omega), if_pos rfl]; exact hy
    have hM : Mid n N U (setLits S c z (swapV z.lits 0 1)) a (Exc y (c :: rest)) (rowI (setLits S c z (swapV z.lits 0 1)) (codeZ y) kept (c :: rest)) := by
      refine h.turn hz (swapV_perm (by omega) (by omega)) (.inl fun i hi => ?_) (h.wat.swap01 hz ht) h.wl (h.pro.swap01 hz ht)
      rw [hy] at hi
      have := (h.trl.lit i y hi).2.2
      omega
    obtain ⟨r, e1, e2, e3, e4⟩ := visit_core hM hz1 hat0 hat1 hl
    have hsw : SameW S r.2 := SameW.trans (⟨rfl, sameP_set hz (swapV_perm (by omega) (by omega)) rfl⟩ : SameW S (setLits S c z (swapV z.lits 0 1))) e2
    refine ⟨r, e1, hsw, e3, fun x hx => ?_⟩
    obtain ⟨rfl, e5, e6⟩ := e4 x hx
    rw [e5]
    exact ⟨hM, _, hz1, hat0, hat1, e6⟩
  | 1, _, hy =>
    have hne : a0 ≠ y := (hok.ne ha0 hy (by omega)).1
    rw [if_neg hne, if_neg hne]
    obtain ⟨r, e1, e2, e3, e4⟩ := visit_core h hz ha0 hy hl
    refine ⟨r, e1, e2, e3, fun x hx => ?_⟩
    obtain ⟨rfl, e5, e6⟩ := e4 x hx
    rw [e5]
    exact ⟨h, z, hz, ha0, hy, e6⟩
/-- a literal is made true by a clause of which all else is false -/
theorem Mid.let_ (h : Mid n N U S a E wI) {l : Int} {rn : Option Nat} (h1 : 1 ≤ l.natAbs) (h2 : l.natAbs < n) (h0 : litV S.vals l = 0)
    (hr : match rn with | some c => ∃ z, S.cls[c]? = some z ∧ z.lits[0]? = some l ∧ ∀ y ∈ z.lits.drop 1, litV S.vals y = -1 | none => (∃ k : Nat, k < S.st.length ∧ S.st.getD k 0 = (S.tr.length : Int)) ∨ (S.st = [] ∧ ∃ d ∈ N, ∀ y, y ∈ d ↔ y = l)) :
    letO S l rn = some (true, letS S l rn) ∧ Mid n N U (letS S l rn) a E wI := by
  have hvl : S.vals.length = n := h.wf.vals.1
  have hs1 := h.trl.short h.n1
  have hs2 := h.trl.cover
  have hn2 := h.n2
  have hnew : ∀ (i : Nat) (m : Int), (S.tr ++ [l])[i]? = some m → (i < S.tr.length ∧ S.tr[i]? = some m) ∨ (i = S.tr.length ∧ m = l) := fun i m hm => by
    by_cases e : i < S.tr.length
    · rw [List.getElem?_append_left e] at hm; exact .inl ⟨e, hm⟩
    · rw [List.getElem?_append_right (by omega)] at hm
      have e2 : i - S.tr.length = 0 := by
        have := (List.getElem?_eq_some_iff.1 hm).1
        simp at this
        omega
      rw [e2] at hm
      exact .inr ⟨by omega, by simpa using hm.symm⟩
  have hfree : ∀ (i : Nat) (m : Int), S.tr[i]? = some m → m.natAbs ≠ l.natAbs := fun i m hm e => by
    have := (h.trl.lit i m hm).2.2
    rcases litV_abs' (vs := S.vals) e with e2 | e2 <;> omega
  have hT := h.trl.push hvl h.wf.lev h1 h2 h0
  refine ⟨?_, h.n1, h.n2, let_wf h.wf l rn, h.hp, fun v hv1 hv2 hv3 => ?_, hT, h.cla, h.wat, ⟨fun i m c hm hc => ?_, fun i m hm hc => ?_⟩, fun c z k y o hz hk hy ho hm => ?_, h.wl, ?_, h.big⟩
  · unfold letO
    rw [litO_val h.wf h2, h0]
    show (if (0 : Int) = 1 then some (true, S) else if (0 : Int) = -1 then some (false, S) else if roomy S.tr.length ∧ roomy S.st.length then some (true, letS S l rn) else none) = _
    rw [if_neg (by decide), if_neg (by decide), if_pos ⟨by unfold roomy; exact decide_eq_true (by omega), by unfold roomy; exact decide_eq_true (by omega)⟩]
  · have hv3 : (S.vals.set l.natAbs (if l < 0 then -1 else 1)).getD v 0 = 0 := hv3
    rw [getD_set (by omega)] at hv3
    split at hv3
    · split at hv3 <;> omega
    · exact h.free v hv1 hv2 hv3
  · have hc : (S.rea.set l.natAbs rn).getD m.natAbs none = some c := hc
    rw [getD_set (by rw [h.wf.rea]; exact h2)] at hc
    have htk : ∀ i : Nat, i ≤ S.tr.length → (S.tr ++ [l]).take i = S.tr.take i := fun i hi => List.take_append_of_le_length hi
    rcases hnew i m hm with ⟨e1, hm⟩ | ⟨e1, e2⟩
    · rw [if_neg (hfree i m hm)] at hc
      obtain ⟨z, q1, q2, q3⟩ := h.rsn.by_ i m c hm hc
      refine ⟨z, q1, q2, fun y hy => ?_⟩
      show -y ∈ (S.tr ++ [l]).take i
      rw [htk i (by omega)]
      exact q3 y hy
    · subst e2
      rw [if_pos rfl] at hc
      subst hc
      obtain ⟨z, q1, q2, q3⟩ := hr
      refine ⟨z, q1, q2, fun y hy => ?_⟩
      show -y ∈ (S.tr ++ [m]).take i
      rw [htk i (by omega), e1, List.take_length]
      have hry := (h.cla c z q1).rng y (List.mem_of_mem_drop hy)
      obtain ⟨j, hj⟩ := h.trl.false_in hry.1 hry.2 (q3 y hy)
      exact List.mem_of_getElem? hj
  · have hc : (S.rea.set l.natAbs rn).getD m.natAbs none = none := hc
    rw [getD_set (by rw [h.wf.rea]; exact h2)] at hc
    rcases hnew i m hm with ⟨e1, hm⟩ | ⟨e1, e2⟩
    · rw [if_neg (hfree i m hm)] at hc
      exact h.rsn.no i m hm hc
    · subst e2
      rw [if_pos rfl] at hc
      subst hc
      rcases hr with ⟨k, hk, e⟩ | ⟨e, hd⟩
      · exact .inl ⟨k, hk, by rw [e1]; exact e⟩
      · refine .inr ⟨⟨Nat.zero_le _, fun k hk => ?_⟩, hd⟩
        have hk : k < S.st.length := hk
        rw [e] at hk
        simp at hk
  · have hm : -y ∈ (S.tr ++ [l]).take a := hm
    rw [List.take_append_of_le_length h.ale] at hm
    rcases h.pro c z k y o hz hk hy ho hm with e | ⟨e1, e2⟩
    · exact .inl e
    · refine .inr ⟨?_, ?_⟩
      · show litV (S.vals.set l.natAbs _) o = 1
        rw [litV_set (by omega), if_neg]
        · exact e1
        · intro e3
          rcases litV_abs' (vs := S.vals) e3 with e4 | e4 <;> omega
      · show (S.lev.set l.natAbs _).getD o.natAbs 0 ≤ (S.lev.set l.natAbs _).getD y.natAbs 0
        rw [getD_set (by rw [h.wf.lev]; exact h2), getD_set (by rw [h.wf.lev]; exact h2), if_neg, if_neg]
        · exact e2
        · intro e3
          obtain ⟨j, hj⟩ := List.getElem?_of_mem (List.mem_of_mem_take hm)
          have := hfree j _ hj
          rw [Int.natAbs_neg] at this
          exact this e3
        · intro e3
          rcases litV_abs' (vs := S.vals) e3 with e4 | e4 <;> omega
  · show a ≤ (S.tr ++ [l]).length
    rw [List.length_append]
    have := h.ale
    omega
end
end Go.Proofs.Ytkpppmldbhgcgaa

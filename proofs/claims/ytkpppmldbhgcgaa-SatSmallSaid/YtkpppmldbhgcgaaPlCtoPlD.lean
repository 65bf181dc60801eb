/- Sat, plain: clauses, watched rows, reasons, what has been propagated. -/
import Derived.Test.YtkpppmldbhgcgaaPlAtoPlB
set_option linter.unusedVariables false
set_option linter.unusedSimpArgs false
set_option autoImplicit false
set_option linter.unusedVariables false
set_option linter.unusedSimpArgs false
namespace Go.Proofs.Ytkpppmldbhgcgaa
open Go
/-- a clause is a fair one: two literals or more, of different variables; there is one of the same literals in N -/
structure CzOK (n : Nat) (N : List (List Int)) (U : Int) (z : Cz) : Prop where
  gone : z.gone = false
  two : 2 ≤ z.lits.length
  rng : ∀ y ∈ z.lits, 1 ≤ y.natAbs ∧ y.natAbs < n
  nd : (z.lits.map Int.natAbs).Nodup
  in_ : ∃ d ∈ N, ∀ y, y ∈ d ↔ y ∈ z.lits
  use : 0 ≤ z.use ∧ z.use ≤ U
def Cla (n : Nat) (N : List (List Int)) (U : Int) (cls : List Cz) : Prop := ∀ (c : Nat) (z : Cz), cls[c]? = some z → CzOK n N U z
structure Wat (cls : List Cz) (watch : List (List Nat)) : Prop where
  nd : ∀ (p : Nat) (ws : List Nat), watch[p]? = some ws → ws.Nodup
  snd : ∀ (p : Nat) (ws : List Nat) (c : Nat), watch[p]? = some ws → c ∈ ws → ∃ z, cls[c]? = some z ∧ ∃ (k : Nat) (y : Int), k < 2 ∧ z.lits[k]? = some y ∧ codeZ y = p
  cmp : ∀ (c : Nat) (z : Cz) (k : Nat) (y : Int), cls[c]? = some z → k < 2 → z.lits[k]? = some y → c ∈ watch.getD (codeZ y) []
def Pro (cls : List Cz) (vals lev tr : List Int) (a : Nat) (E : Nat → Int → Prop) : Prop :=
  ∀ (c : Nat) (z : Cz) (k : Nat) (y o : Int), cls[c]? = some z → k < 2 → z.lits[k]? = some y → z.lits[1 - k]? = some o → -y ∈ tr.take a → E c y ∨ (litV vals o = 1 ∧ lev.getD o.natAbs 0 ≤ lev.getD y.natAbs 0)
structure Rsn (N : List (List Int)) (cls : List Cz) (rea : List (Option Nat)) (tr st : List Int) : Prop where
  by_ : ∀ (i : Nat) (l : Int) (c : Nat), tr[i]? = some l → rea.getD l.natAbs none = some c → ∃ z, cls[c]? = some z ∧ z.lits[0]? = some l ∧ ∀ y ∈ z.lits.drop 1, -y ∈ tr.take i
  no : ∀ (i : Nat) (l : Int), tr[i]? = some l → rea.getD l.natAbs none = none → (∃ k : Nat, k < st.length ∧ st.getD k 0 = (i : Int)) ∨ (LvAt st i 0 ∧ ∃ d ∈ N, ∀ y, y ∈ d ↔ y = l)
theorem Wat.short {cls : List Cz} {watch : List (List Nat)} (h : Wat cls watch) {p : Nat} {ws : List Nat} (hp : watch[p]? = some ws) : ws.length ≤ cls.length := by
  have := List.Nodup.length_le_of_subset (h.nd p ws hp) (fun c hc => by
    obtain ⟨z, hz, _⟩ := h.snd p ws c hp hc
    exact List.mem_range.2 (List.getElem?_eq_some_iff.1 hz).1 : ws ⊆ List.range cls.length)
  simpa using this
theorem codeZ_inj {x y : Int} (hx : x ≠ 0) (hy : y ≠ 0) (h : codeZ x = codeZ y) : x = y := by
  unfold codeZ at h
  split at h <;> split at h <;> omega
theorem codeZ_lt {n : Nat} {x : Int} (h : x.natAbs < n) : codeZ x < 2 * n := by
  unfold codeZ
  split <;> omega
/-! ### a clause's literals are turned -/
theorem swapV_perm {l : List Int} {i j : Nat} (hi : i < l.length) (hj : j < l.length) : (swapV l i j).Perm l := by
  unfold swapV
  rw [List.getD_eq_getElem?_getD, List.getElem?_eq_getElem hj, List.getD_eq_getElem?_getD, List.getElem?_eq_getElem hi]
  exact List.set_set_perm hi hj
theorem swapV_len {l : List Int} (i j : Nat) : (swapV l i j).length = l.length := by unfold swapV; simp
theorem swapV_at {l : List Int} {i j k : Nat} (hi : i < l.length) (hj : j < l.length) : (swapV l i j)[k]? = if k = j then l[i]? else if k = i then l[j]? else l[k]? := by
  unfold swapV
  simp only [List.getD_eq_getElem?_getD, List.getElem?_set, List.length_set]
  by_cases e : j = k
  · subst e; simp [hj, hi]
  · have e' : ¬ k = j := fun h => e h.symm
    simp only [e, e', if_false]
    by_cases e2 : i = k
    · subst e2; simp [hi, hj]
    · have e3 : ¬ k = i := fun h => e2 h.symm
      simp only [e2, e3, if_false]
theorem CzOK.turn {n : Nat} {N : List (List Int)} {U : Int} {z : Cz} (h : CzOK n N U z) {l : List Int} (hl : l.Perm z.lits) : CzOK n N U { z with lits := l } := by
  refine ⟨h.gone, by show 2 ≤ l.length; rw [hl.length_eq]; exact h.two, fun y hy => h.rng y (hl.mem_iff.1 hy), ?_, ?_, h.use⟩
  · exact (hl.map _).nodup_iff.2 h.nd
  · obtain ⟨d, hd, hs⟩ := h.in_
    exact ⟨d, hd, fun y => (hs y).trans hl.mem_iff.symm⟩
theorem cls_set {cls : List Cz} {c c' : Nat} {z z' : Cz} (hc : cls[c]? = some z) : (cls.set c z')[c']? = if c' = c then some z' else cls[c']? := by
  rw [List.getElem?_set]
  by_cases e : c = c'
  · subst e
    rw [if_pos rfl, if_pos rfl, if_pos (List.getElem?_eq_some_iff.1 hc).1]
  · rw [if_neg e, if_neg fun h => e h.symm]
theorem Cla.set {n : Nat} {N : List (List Int)} {U : Int} {cls : List Cz} (h : Cla n N U cls) {c : Nat} {z z' : Cz} (hc : cls[c]? = some z) (hz : CzOK n N U z') : Cla n N U (cls.set c z') := fun c' z1 h1 => by
  rw [cls_set hc] at h1
  split at h1
  · cases h1; exact hz
  · exact h c' z1 h1
/-- two literals of a clause differ -/
theorem CzOK.ne {n : Nat} {N : List (List Int)} {U : Int} {z : Cz} (h : CzOK n N U z) {i j : Nat} {x y : Int} (hi : z.lits[i]? = some x) (hj : z.lits[j]? = some y) (hij : i ≠ j) : x ≠ y ∧ x ≠ -y := by
  have key : ∀ (i j : Nat) (x y : Int), z.lits[i]? = some x → z.lits[j]? = some y → i < j → x.natAbs ≠ y.natAbs := fun i j x y hi hj hij => by
    obtain ⟨a, e1⟩ := List.getElem?_eq_some_iff.1 hi
    obtain ⟨b, e2⟩ := List.getElem?_eq_some_iff.1 hj
    have := h.nd
    rw [List.nodup_iff_pairwise_ne, List.pairwise_map, List.pairwise_iff_getElem] at this
    have := this i j a b hij
    rw [e1, e2] at this
    exact this
  have : x.natAbs ≠ y.natAbs := by
    rcases Nat.lt_or_gt_of_ne hij with e | e
    · exact key i j x y hi hj e
    · exact fun h => key j i y x hj hi e h.symm
  exact ⟨fun e => this (by rw [e]), fun e => this (by rw [e, Int.natAbs_neg])⟩
/-- reasons stay where a clause is turned whose first literal is false, or stays -/
theorem Rsn.turn {N : List (List Int)} {cls : List Cz} {rea : List (Option Nat)} {tr st : List Int} (h : Rsn N cls rea tr st) {c : Nat} {z : Cz} {l : List Int} (hc : cls[c]? = some z) (hp : l.Perm z.lits)
    (h0 : (∀ i : Nat, tr[i]? ≠ z.lits[0]?) ∨ l[0]? = z.lits[0]?) (h2 : 2 ≤ z.lits.length) : Rsn N (cls.set c { z with lits := l }) rea tr st := by
  refine ⟨fun i m c' hi hr => ?_, h.no⟩
  obtain ⟨z1, a, b, d⟩ := h.by_ i m c' hi hr
  by_cases e : c' = c
  · subst e
    rw [hc] at a
    cases a
    rcases h0 with h0 | h0
    · exact absurd (hi.trans b.symm) (h0 i)
    · refine ⟨_, by rw [cls_set hc, if_pos rfl], h0.trans b, fun y hy => d y ?_⟩
      -- the tails have the same members
      have hlen : 2 ≤ l.length := by rw [hp.length_eq]; exact h2
      obtain ⟨x, zs, ez⟩ : ∃ x zs, z.lits = x :: zs := by
        cases hz : z.lits with
        | nil => rw [hz] at h2; simp at h2
        | cons x zs => exact ⟨x, zs, rfl⟩
      obtain ⟨x', ls, el⟩ : ∃ x' ls, l = x' :: ls := by
        cases hz : l with
        | nil => rw [hz] at hlen; simp at hlen
        | cons x zs => exact ⟨x, zs, rfl⟩
      have hy : y ∈ l.drop 1 := hy
      rw [el, ez] at h0 hp
      have hx : x' = x := by simpa using h0
      subst hx
      rw [el] at hy
      rw [ez]
      exact (List.perm_cons x').1 hp |>.mem_iff.1 hy
  · exact ⟨z1, by rw [cls_set hc, if_neg e]; exact a, b, d⟩
end Go.Proofs.Ytkpppmldbhgcgaa
/- Sat, plain: a clause is looked at (visit). -/
set_option autoImplicit false
set_option linter.unusedVariables false
set_option linter.unusedSimpArgs false
namespace Go.Proofs.Ytkpppmldbhgcgaa
open Go
/-- all that holds of a solver; a: so much of the trail is propagated, but for what E excepts; watchI: the watched rows as they are meant -/
structure Mid (n : Nat) (N : List (List Int)) (U : Int) (S : Sz) (a : Nat) (E : Nat → Int → Prop) (watchI : List (List Nat)) : Prop where
  n1 : 0 < n
  n2 : n ≤ 100000
  wf : WF n S
  hp : HpS n S
  free : ∀ v : Nat, 1 ≤ v → v < n → S.vals.getD v 0 = 0 → 0 ≤ S.pl.getD v 0
  trl : Trl n S.vals S.lev S.tr S.st
  cla : Cla n N U S.cls
  wat : Wat S.cls watchI
  rsn : Rsn N S.cls S.rea S.tr S.st
  pro : Pro S.cls S.vals S.lev S.tr a E
  wl : watchI.length = 2 * n
  ale : a ≤ S.tr.length
  big : S.cls.length ≤ 1000000
/-- each clause has the literals that it had -/
def SameP (S S' : Sz) : Prop := ∀ (c : Nat) (z : Cz), S.cls[c]? = some z → ∃ z', S'.cls[c]? = some z' ∧ z'.lits.Perm z.lits
theorem SameP.refl (S : Sz) : SameP S S := fun c z hz => ⟨z, hz, List.Perm.refl _⟩
theorem SameP.trans {a b c : Sz} (h : SameP a b) (k : SameP b c) : SameP a c := fun i z hz => by
  obtain ⟨z1, h1, p1⟩ := h i z hz
  obtain ⟨z2, h2, p2⟩ := k i z1 h1
  exact ⟨z2, h2, p2.trans p1⟩
theorem sameP_set {S S' : Sz} {c : Nat} {z : Cz} {l : List Int} (hz : S.cls[c]? = some z) (hp : l.Perm z.lits) (h : S'.cls = (setLits S c z l).cls) : SameP S S' := fun i z1 h1 => by
  rw [h]
  show ∃ z', (S.cls.set c _)[i]? = some z' ∧ _
  rw [cls_set hz]
  by_cases e : i = c
  · rw [if_pos e]
    rw [e, hz] at h1
    cases h1
    exact ⟨_, rfl, hp⟩
  · rw [if_neg e]
    exact ⟨z1, h1, List.Perm.refl _⟩
/-- the clauses and the watched rows alone have turned -/
def SameW (S S' : Sz) : Prop := S' = { S with cls := S'.cls, watch := S'.watch } ∧ SameP S S'
theorem SameW.refl (S : Sz) : SameW S S := ⟨rfl, SameP.refl S⟩
theorem SameW.trans {a b c : Sz} (h : SameW a b) (k : SameW b c) : SameW a c := by
  refine ⟨?_, h.2.trans k.2⟩
  rw [k.1, h.1]
section
variable {n : Nat} {N : List (List Int)} {U : Int} {S : Sz} {a : Nat} {E : Nat → Int → Prop} {wI : List (List Nat)}
theorem Mid.turn (h : Mid n N U S a E wI) {c : Nat} {z : Cz} {l : List Int} (hc : S.cls[c]? = some z) (hp : l.Perm z.lits) (h0 : (∀ i : Nat, S.tr[i]? ≠ z.lits[0]?) ∨ l[0]? = z.lits[0]?) {wI' : List (List Nat)} {E' : Nat → Int → Prop}
    (hw : Wat (setLits S c z l).cls wI') (hl : wI'.length = 2 * n) (hpr : Pro (setLits S c z l).cls S.vals S.lev S.tr a E') : Mid n N U (setLits S c z l) a E' wI' := by
  have hz := h.cla c z hc
  have w := h.wf
  refine ⟨h.n1, h.n2, ⟨⟨w.ord.big, w.ord.sc, w.ord.pl, w.ord.ov, w.ord.ovl⟩, w.vals, w.lev, w.rea, w.sav, w.seen, w.watch, w.bump, w.scp⟩, h.hp, h.free, h.trl, h.cla.set hc (hz.turn hp), hw, h.rsn.turn hc hp h0 hz.two, hpr, hl, h.ale, ?_⟩
  show (S.cls.set _ _).length ≤ _
  rw [List.length_set]; exact h.big
/-- the first two literals of a clause are turned round -/
theorem Wat.swap01 {cls : List Cz} {watch : List (List Nat)} (h : Wat cls watch) {c : Nat} {z : Cz} (hc : cls[c]? = some z) (h2 : 2 ≤ z.lits.length) : Wat (cls.set c { z with lits := swapV z.lits 0 1 }) watch := by
  have hat : ∀ k : Nat, k < 2 → (swapV z.lits 0 1)[k]? = z.lits[1 - k]? := fun k hk => by
    rw [swapV_at (by omega) (by omega)]
    match k, hk with
    | 0, _ => rfl
    | 1, _ => rfl
  refine ⟨h.nd, fun p ws c' hp hm => ?_, fun c' z1 k y h1 hk hy => ?_⟩
  · obtain ⟨z1, h1, k, y, hk, hy, hcd⟩ := h.snd p ws c' hp hm
    by_cases e : c' = c
    · subst e
      rw [hc] at h1
      cases h1
      refine ⟨_, by rw [cls_set hc, if_pos rfl], 1 - k, y, by omega, ?_, hcd⟩
      show (swapV z.lits 0 1)[1 - k]? = _
      rw [hat (1 - k) (by omega), show 1 - (1 - k) = k by omega]
      exact hy
    · exact ⟨z1, by rw [cls_set hc, if_neg e]; exact h1, k, y, hk, hy, hcd⟩
  · rw [cls_set hc] at h1
    split at h1
    · rename_i e
      cases h1
      have hy : (swapV z.lits 0 1)[k]? = some y := hy
      rw [hat k hk] at hy
      rw [e]
      exact h.cmp c z (1 - k) y hc (by omega) hy
    · exact h.cmp c' z1 k y h1 hk hy
theorem Pro.swap01 {cls : List Cz} {vals lev tr : List Int} (h : Pro cls vals lev tr a E) {c : Nat} {z : Cz} (hc : cls[c]? = some z) (h2 : 2 ≤ z.lits.length) : Pro (cls.set c { z with lits := swapV z.lits 0 1 }) vals lev tr a E := by
  have hat : ∀ k : Nat, k < 2 → (swapV z.lits 0 1)[k]? = z.lits[1 - k]? := fun k hk => by
    rw [swapV_at (by omega) (by omega)]
    match k, hk with
    | 0, _ => rfl
    | 1, _ => rfl
  intro c' z1 k y o h1 hk hy ho hm
  rw [cls_set hc] at h1
  split at h1
  · rename_i e
    cases h1
    have hy : (swapV z.lits 0 1)[k]? = some y := hy
    have ho : (swapV z.lits 0 1)[1 - k]? = some o := ho
    rw [hat k hk] at hy
    rw [hat (1 - k) (by omega)] at ho
    rw [e]
    exact h c z (1 - k) y o hc (by omega) hy (by rw [show 1 - (1 - k) = k by omega] at ho ⊢; exact ho) hm
  · exact h c' z1 k y o h1 hk hy ho hm
/-- the row of the literal that is propagated, in two parts: what is kept, what is to come -/
def rowI (S : Sz) (p : Nat) (kept rest : List Nat) : List (List Nat) := S.watch.set p (kept ++ rest)
/-- what is excepted: clauses to come, watched by that literal -/
def Exc (l : Int) (rest : List Nat) : Nat → Int → Prop := fun c y => y = l ∧ c ∈ rest
theorem movesF_false {c : Nat} {z : Cz} {p : Nat} (hv : ∀ x ∈ z.lits, litO S x = some (litV S.vals x)) : ∀ (f k : Nat), z.lits.length + 1 ≤ f + k → k ≤ z.lits.length → (∀ (j : Nat) (x : Int), k ≤ j → z.lits[j]? = some x → litV S.vals x = -1) → movesF f S c z p k = some (false, S)
  | 0, k, hf, hk2, hall => by omega
  | f + 1, k, hf, hk2, hall => by
    unfold movesF
    by_cases hk : k < z.lits.length
    · rw [if_pos hk]
      have hx := List.getElem?_eq_getElem hk
      rw [hx]
      have hval := hall k _ (Nat.le_refl _) hx
      show (litO S z.lits[k]).bind _ = _
      rw [hv _ (List.getElem_mem hk)]
      show (if litV S.vals z.lits[k] = -1 then _ else _) = _
      rw [if_pos hval]
      exact movesF_false hv f (k + 1) (by omega) (by omega) (fun j x hj => hall j x (by omega))
    · rw [if_neg hk]
theorem movesF_true {c : Nat} {z : Cz} {p : Nat} (hv : ∀ x ∈ z.lits, litO S x = some (litV S.vals x)) : ∀ (f k : Nat), z.lits.length + 1 ≤ f + k → k ≤ z.lits.length → (∃ (j : Nat) (x : Int), k ≤ j ∧ z.lits[j]? = some x ∧ litV S.vals x ≠ -1) → (∀ (j : Nat) (x : Int), k ≤ j → z.lits[j]? = some x → codeZ x ≠ p) →
    ∃ (j : Nat) (x : Int), k ≤ j ∧ z.lits[j]? = some x ∧ litV S.vals x ≠ -1 ∧ movesF f S c z p k = (addO (setLits S c z (swapV z.lits 1 j)) x c).bind fun S1 => some (true, S1)
  | 0, k, hf, hk2, _, _ => by omega
  | f + 1, k, hf, hk2, ⟨j, x, hkj, hx, hxv⟩, hp => by
    have hk : k < z.lits.length := by have := (List.getElem?_eq_some_iff.1 hx).1; omega
    have hy := List.getElem?_eq_getElem hk
    by_cases h1 : litV S.vals z.lits[k] = -1
    · have hne : j ≠ k := fun e => by subst e; rw [hy] at hx; cases hx; exact hxv h1
      obtain ⟨j', x', a1, a2, a3, a4⟩ := movesF_true hv f (k + 1) (by omega) (by omega) ⟨j, x, by omega, hx, hxv⟩ (fun j x hj => hp j x (by omega))
      refine ⟨j', x', by omega, a2, a3, ?_⟩
      unfold movesF
      rw [if_pos hk, hy]
      show (litO S z.lits[k]).bind _ = _
      rw [hv _ (List.getElem_mem hk)]
      show (if litV S.vals z.lits[k] = -1 then _ else _) = _
      rw [if_pos h1]
      exact a4
    · refine ⟨k, z.lits[k], Nat.le_refl _, hy, h1, ?_⟩
      unfold movesF
      rw [if_pos hk, hy]
      show (litO S z.lits[k]).bind _ = _
      rw [hv _ (List.getElem_mem hk)]
      show (if litV S.vals z.lits[k] = -1 then _ else _) = _
      rw [if_neg h1, if_neg (hp k _ (Nat.le_refl _) hy)]
end
end Go.Proofs.Ytkpppmldbhgcgaa

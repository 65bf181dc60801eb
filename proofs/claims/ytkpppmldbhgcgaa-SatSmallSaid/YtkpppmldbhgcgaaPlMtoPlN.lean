/- Sat, plain: what a conflict teaches (learn), whole. -/
import Derived.Test.YtkpppmldbhgcgaaPlKtoPlL
set_option linter.unusedVariables false
set_option linter.unusedSimpArgs false
set_option autoImplicit false
set_option linter.unusedVariables false
set_option linter.unusedSimpArgs false
namespace Go.Proofs.Ytkpppmldbhgcgaa
open Go
section
variable {n : Nat} {N : List (List Int)} {U : Int} {S : Sz} {a : Nat} {wI : List (List Nat)}
theorem levL_ok {E : Nat → Int → Prop} : ∀ (ls : List Int) {S : Sz} (i : Nat) (lv : Int) (sec : Nat), Mid n N U S a E wI → (∀ y ∈ ls, y.natAbs < n) →
    ∃ (S' : Sz) (lv' : Int) (sec' : Nat), levL ls S i lv sec = some (S', lv', sec') ∧ Mid n N U S' a E wI ∧ SameJ S S' ∧ (∀ v : Nat, (∃ y ∈ ls, y.natAbs = v) → S'.seen.getD v false = false) ∧ (∀ v : Nat, (∀ y ∈ ls, y.natAbs ≠ v) → S'.seen.getD v false = S.seen.getD v false) ∧ lv ≤ lv' ∧ (∀ y ∈ ls, S.lev.getD y.natAbs 0 ≤ lv') ∧
      ((lv' = lv ∧ sec' = sec) ∨ ∃ (j : Nat) (y : Int), ls[j]? = some y ∧ S.lev.getD y.natAbs 0 = lv' ∧ sec' = i + j + 1)
  | [], S, i, lv, sec, hM, _ => ⟨S, lv, sec, rfl, hM, SameJ.refl S, fun v ⟨y, hy, _⟩ => (by cases hy), fun v _ => rfl, Int.le_refl _, fun y hy => (by cases hy), .inl ⟨rfl, rfl⟩⟩
  | l :: ls, S, i, lv, sec, hM, hls => by
    have hsl : S.seen.length = n := hM.wf.seen
    have hll : S.lev.length = n := hM.wf.lev
    have hl := hls l (by simp)
    have hrest := fun y hy => hls y (List.mem_cons_of_mem _ hy)
    have hM1 := hM.seen_ l.natAbs false
    have j1 := sameJ_seen S (S.seen.set l.natAbs false)
    have hs1 : ∀ v : Nat, ({ S with seen := S.seen.set l.natAbs false } : Sz).seen.getD v false = if v = l.natAbs then false else S.seen.getD v false := fun v => getD_set (by omega)
    unfold levL
    rw [list_get false (by omega), Option.bind_some, list_get 0 (by omega), Option.bind_some]
    dsimp only
    have fin : ∀ (lv1 : Int) (sec1 : Nat), lv ≤ lv1 → S.lev.getD l.natAbs 0 ≤ lv1 → ((lv1 = lv ∧ sec1 = sec) ∨ (S.lev.getD l.natAbs 0 = lv1 ∧ sec1 = i + 1)) →
        ∃ (S' : Sz) (lv' : Int) (sec' : Nat), levL ls { S with seen := S.seen.set l.natAbs false } (i + 1) lv1 sec1 = some (S', lv', sec') ∧ Mid n N U S' a E wI ∧ SameJ S S' ∧ (∀ v : Nat, (∃ y ∈ l :: ls, y.natAbs = v) → S'.seen.getD v false = false) ∧ (∀ v : Nat, (∀ y ∈ l :: ls, y.natAbs ≠ v) → S'.seen.getD v false = S.seen.getD v false) ∧ lv ≤ lv' ∧ (∀ y ∈ l :: ls, S.lev.getD y.natAbs 0 ≤ lv') ∧
          ((lv' = lv ∧ sec' = sec) ∨ ∃ (j : Nat) (y : Int), (l :: ls)[j]? = some y ∧ S.lev.getD y.natAbs 0 = lv' ∧ sec' = i + j + 1) := by
      intro lv1 sec1 h1 h2 h3
      obtain ⟨S', lv', sec', e1, e2, e3, e4, e5, e6, e7, e8⟩ := levL_ok ls (i + 1) lv1 sec1 hM1 hrest
      refine ⟨S', lv', sec', e1, e2, j1.trans e3, fun v ⟨y, hy, ey⟩ => ?_, fun v hv => ?_, by omega, fun y hy => ?_, ?_⟩
      · by_cases hx : ∃ y ∈ ls, y.natAbs = v
        · exact e4 v hx
        · rw [e5 v fun y hy ey => hx ⟨y, hy, ey⟩, hs1]
          rcases List.mem_cons.1 hy with rfl | hy
          · rw [if_pos ey.symm]
          · exact absurd ⟨y, hy, ey⟩ hx
      · rw [e5 v fun y hy => hv y (List.mem_cons_of_mem _ hy), hs1, if_neg fun h => hv l (by simp) h.symm]
      · rcases List.mem_cons.1 hy with rfl | hy
        · omega
        · exact e7 y hy
      · rcases e8 with ⟨q1, q2⟩ | ⟨j, y, q1, q2, q3⟩
        · rcases h3 with ⟨q3, q4⟩ | ⟨q3, q4⟩
          · exact .inl ⟨by omega, by omega⟩
          · exact .inr ⟨0, l, rfl, by omega, by omega⟩
        · exact .inr ⟨j + 1, y, q1, q2, by omega⟩
    by_cases hlt : lv < S.lev.getD l.natAbs 0
    · rw [if_pos hlt]
      exact fin _ _ (by omega) (Int.le_refl _) (.inr ⟨rfl, rfl⟩)
    · rw [if_neg hlt]
      exact fin _ _ (Int.le_refl _) (by omega) (.inl ⟨rfl, rfl⟩)
/-- a clause that was learned, and the level to go back to -/
structure Lrnd (n : Nat) (N : List (List Int)) (S : Sz) (L : List Int) (lv : Int) : Prop where
  hd : ∃ x, L[0]? = some (-x) ∧ litV S.vals x = 1 ∧ S.lev.getD x.natAbs 0 = S.st.length
  fls : ∀ y ∈ L, litV S.vals y = -1 ∧ 1 ≤ y.natAbs ∧ y.natAbs < n
  nd : (L.map Int.natAbs).Nodup
  tl : ∀ y ∈ L.drop 1, 1 ≤ S.lev.getD y.natAbs 0 ∧ S.lev.getD y.natAbs 0 ≤ lv
  lv0 : 0 ≤ lv
  lvD : lv < S.st.length
  two : 2 ≤ L.length → ∃ y, L[1]? = some y ∧ S.lev.getD y.natAbs 0 = lv
  one : L.length = 1 → lv = 0
  fol : D.Fol N L
theorem learn_ok (h : Mid n N U S a noE S.watch) (hU : U + n ≤ 1000000000) {c : Nat} (hc : Cfl S c) (hD : 0 < S.st.length) (hseen : ∀ v : Nat, S.seen.getD v false = false) :
    ∃ (S' : Sz) (L : List Int) (lv : Int), learnO S c = some (S', L, lv) ∧ Mid n N (U + n) S' a noE S'.watch ∧ SameJ S S' ∧ (∀ v : Nat, S'.seen.getD v false = false) ∧ Lrnd n N S L lv ∧ (BinR S → (∀ z, S.cls[c]? = some z → ∀ y ∈ z.lits, S.lev.getD y.natAbs 0 = S.st.length) → L.length = 1) := by
  obtain ⟨z, hz, hfalse, yD, hyD, hlD⟩ := hc
  have hok := h.cla c z hz
  have hsh := h.trl.short h.n1
  have hn2 := h.n2
  have hL0 : Lm n S [] [] S.tr.length := ⟨fun y hy => (by cases hy), List.nodup_nil, List.nodup_nil, fun v hv => (by cases hv), fun v => by
    rw [hseen v]
    exact ⟨fun e => (by cases e), fun e => by rcases e with ⟨y, hy, _⟩ | e <;> contradiction⟩⟩
  have hz0 : ∀ y ∈ z.lits, y ≠ 0 := fun y hy e => by have := (hok.rng y hy).1; omega
  obtain ⟨S1, outs, x, e1, e2, e3, ⟨e', e4⟩, e5, e6, e7, e8, e9, e10⟩ := learnF_ok (S.tr.length + 1) (U := U) (S := S) (c := c) (z := z) (first := 0) (outs := []) (M := []) (e := S.tr.length) (Nat.le_refl _) h (by omega) hz (fun y hy _ => by
    have hr := hok.rng y hy
    obtain ⟨i, hi⟩ := h.trl.false_in hr.1 hr.2 (hfalse y hy)
    exact ⟨hfalse y hy, hr.1, hr.2, by rw [List.take_length]; exact List.mem_of_getElem? hi⟩) hL0 (Nat.le_refl _) hD (.inr ⟨yD, hyD, hz0 yD hyD, hlD⟩) (fun H h1 _ _ => by
    obtain ⟨d, hd, hs⟩ := hok.in_
    exact ⟨d, hd, fun y hy => h1 y ((hs y).1 hy) (hz0 y ((hs y).1 hy))⟩)
  have hol := e4.outLen
  have hx0 : x ≠ 0 := by omega
  obtain ⟨S2, lv, sec, f1, f2, f3, f4, f5, f6, f7, f8⟩ := levL_ok outs 0 0 0 e2 fun y hy => (e4.out y hy).2.2.1
  have hoS : ∀ y ∈ outs, litV S.vals y = -1 ∧ 1 ≤ y.natAbs ∧ y.natAbs < n ∧ 1 ≤ S.lev.getD y.natAbs 0 ∧ S.lev.getD y.natAbs 0 < S.st.length := by
    have := e4.out
    rw [e3.vals, e3.lev, e3.st] at this
    exact this
  have hlv : ∀ y ∈ outs, S.lev.getD y.natAbs 0 ≤ lv := by rw [← e3.lev]; exact f7
  -- the clause itself
  obtain ⟨L, hL⟩ : ∃ L, (if 0 < sec then swapV (-x :: outs) 1 sec else -x :: outs) = L := ⟨_, rfl⟩
  have hsec : (lv = 0 ∧ sec = 0) ∨ ∃ (j : Nat) (y : Int), outs[j]? = some y ∧ S.lev.getD y.natAbs 0 = lv ∧ sec = j + 1 := by
    rcases f8 with q | ⟨j, y, q1, q2, q3⟩
    · exact .inl q
    · exact .inr ⟨j, y, q1, by rw [← e3.lev]; exact q2, by omega⟩
  have hperm : L.Perm (-x :: outs) ∧ L[0]? = some (-x) ∧ (2 ≤ L.length → ∃ y, L[1]? = some y ∧ S.lev.getD y.natAbs 0 = lv) := by
    rcases hsec with ⟨q1, q2⟩ | ⟨j, y, q1, q2, q3⟩
    · rw [q2, if_neg (by omega)] at hL
      subst hL
      refine ⟨List.Perm.refl _, rfl, fun h2 => ?_⟩
      -- there is none of a lower level: so no second literal
      cases outs with
      | nil => simp at h2
      | cons y ys =>
        have a1 := (hoS y (by simp)).2.2.2.1
        have a2 := hlv y (by simp)
        omega
    · rw [if_pos (by omega)] at hL
      have hj : j < outs.length := (List.getElem?_eq_some_iff.1 q1).1
      subst hL
      have l1 : 1 < (-x :: outs).length := by simp; omega
      have l2 : sec < (-x :: outs).length := by simp; omega
      refine ⟨swapV_perm l1 l2, by rw [swapV_at l1 l2, if_neg (by omega), if_neg (by omega)]; rfl, fun _ => ⟨y, ?_, q2⟩⟩
      rw [swapV_at l1 l2]
      by_cases hs1 : 1 = sec
      · rw [if_pos hs1]
        have : j = 0 := by omega
        subst this
        exact q1
      · rw [if_neg hs1, if_pos rfl, q3]
        exact q1
  obtain ⟨p1, p2, p3⟩ := hperm
  have hmem : ∀ y, y ∈ L ↔ y = -x ∨ y ∈ outs := fun y => by rw [p1.mem_iff, List.mem_cons]
  have hxout : ∀ y ∈ outs, y.natAbs ≠ x.natAbs := fun y hy e => by
    have := (hoS y hy).2.2.2.2
    rw [e, e8] at this
    omega
  have hndL : (L.map Int.natAbs).Nodup := by
    rw [(p1.map Int.natAbs).nodup_iff, List.map_cons, List.nodup_cons]
    refine ⟨fun hc => ?_, e4.ond⟩
    obtain ⟨y, hy, e⟩ := List.mem_map.1 hc
    exact hxout y hy (by rw [e, Int.natAbs_neg])
  have htail : ∀ y ∈ L.drop 1, y ∈ outs := fun y hy => by
    rcases (hmem y).1 (List.mem_of_mem_drop hy) with e | e
    · -- the first literal does not stand again
      exfalso
      obtain ⟨j, hj⟩ := List.getElem?_of_mem hy
      rw [List.getElem?_drop] at hj
      have hne := hndL
      rw [List.nodup_iff_pairwise_ne, List.pairwise_map, List.pairwise_iff_getElem] at hne
      obtain ⟨b1, b2⟩ := List.getElem?_eq_some_iff.1 hj
      obtain ⟨b3, b4⟩ := List.getElem?_eq_some_iff.1 p2
      have := hne 0 (1 + j) b3 b1 (by omega)
      rw [b2, b4, e] at this
      exact this rfl
    · exact e
  have hlvD : lv < S.st.length := by
    rcases hsec with ⟨q1, _⟩ | ⟨j, y, q1, q2, _⟩
    · omega
    · have := (hoS y (List.mem_of_getElem? q1)).2.2.2.2
      omega
  have hlearn : learnO S c = some ({ S2 with bump := fDiv S2.bump c95 }, L, lv) := by
    unfold learnO
    have e1' : learnF (S.tr.length + 1) S c 0 [0] 0 S.tr.length = some (S1, 0 :: outs, x) := e1
    rw [e1', Option.bind_some, if_pos (by unfold roomy; exact decide_eq_true (by simp; omega))]
    show (levL outs S1 0 0 0).bind _ = _
    rw [f1, Option.bind_some]
    show some (_, (if 0 < sec then swapV ((0 :: outs).set 0 (-x)) 1 sec else (0 :: outs).set 0 (-x)), lv) = _
    rw [show (0 :: outs).set 0 (-x) = -x :: outs from rfl, hL]
  have j2 : SameJ S S2 := e3.trans f3
  have hM2 : Mid n N (U + n) { S2 with bump := fDiv S2.bump c95 } a noE S2.watch := by
    have m1 := f2.more (U' := U + n) (by omega)
    have m2 : Mid n N (U + n) S2 a noE S2.watch := by rw [j2.watch]; exact m1
    have w := m2.wf
    exact ⟨m2.n1, m2.n2, ⟨⟨w.ord.big, w.ord.sc, w.ord.pl, w.ord.ov, w.ord.ovl⟩, w.vals, w.lev, w.rea, w.sav, w.seen, w.watch, (fDiv_95 w.bump).2, w.scp⟩, m2.hp, m2.free, m2.trl, m2.cla, m2.wat, m2.rsn, m2.pro, m2.wl, m2.ale, m2.big⟩
  refine ⟨_, L, lv, hlearn, hM2, j2.trans ⟨rfl, rfl, rfl, rfl, rfl, rfl, rfl, rfl, rfl, rfl, rfl, rfl, fun c z hz => ⟨z, hz, rfl⟩⟩, fun v => ?_, ⟨⟨x, p2, e5, e8⟩, fun y hy => ?_, hndL, fun y hy => ?_, by omega, hlvD, p3, fun h1 => ?_, .inr ?_⟩, fun k0 k1 => ?_⟩
  case refine_6 =>
    have : outs = [] := e10 k0 (fun y hy _ => k1 z hz y hy) rfl
    rw [p1.length_eq, this]
    rfl
  · show S2.seen.getD v false = false
    by_cases hx : ∃ y ∈ outs, y.natAbs = v
    · exact f4 v hx
    · rw [f5 v fun y hy ey => hx ⟨y, hy, ey⟩]
      cases hb : S1.seen.getD v false with
      | false => rfl
      | true =>
        rcases (e4.seen v).1 hb with q | q
        · exact absurd q hx
        · cases q
  · rcases (hmem y).1 hy with e | e
    · rw [e, litV_neg hx0, e5, Int.natAbs_neg]
      exact ⟨rfl, e6, e7⟩
    · have := hoS y e
      exact ⟨this.1, this.2.1, this.2.2.1⟩
  · have hy' := htail y hy
    exact ⟨(hoS y hy').2.2.2.1, hlv y hy'⟩
  · have hlen := p1.length_eq
    rw [h1] at hlen
    have : outs = [] := List.eq_nil_of_length_eq_zero (by simpa using hlen.symm)
    subst this
    rcases hsec with ⟨q1, _⟩ | ⟨j, y, q1, _⟩
    · exact q1
    · simp at q1
  · refine e9 _ (fun y hy => .init _ ⟨?_, ?_⟩) (.init _ ⟨hx0, (hmem _).2 (.inl rfl)⟩)
    · have := (hoS y hy).2.1
      omega
    · rw [Int.neg_neg]
      exact (hmem y).2 (.inr hy)
end
end Go.Proofs.Ytkpppmldbhgcgaa
/- Sat, plain: a clause is put; the next variable; more clauses are known. -/
set_option autoImplicit false
set_option linter.unusedVariables false
set_option linter.unusedSimpArgs false
namespace Go.Proofs.Ytkpppmldbhgcgaa
open Go
section
variable {n : Nat} {N : List (List Int)} {U : Int} {S : Sz} {a : Nat} {E : Nat → Int → Prop} {wI : List (List Nat)}
theorem Mid.moreN (h : Mid n N U S a E wI) {N' : List (List Int)} (hN : ∀ d ∈ N, d ∈ N') : Mid n N' U S a E wI :=
  ⟨h.n1, h.n2, h.wf, h.hp, h.free, h.trl, fun c z hz => by
    have k := h.cla c z hz
    obtain ⟨d, hd, hs⟩ := k.in_
    exact ⟨k.gone, k.two, k.rng, k.nd, ⟨d, hN d hd, hs⟩, k.use⟩, h.wat, ⟨h.rsn.by_, fun i l hi hr => (h.rsn.no i l hi hr).imp id fun ⟨e, d, hd, hs⟩ => ⟨e, d, hN d hd, hs⟩⟩, h.pro, h.wl, h.ale, h.big⟩
theorem Mid.prf_ (h : Mid n N U S a E wI) (p : List (Bool × List Int)) (x : Int) : Mid n N U { S with prf := p, nl := x } a E wI :=
  ⟨h.n1, h.n2, ⟨⟨h.wf.ord.big, h.wf.ord.sc, h.wf.ord.pl, h.wf.ord.ov, h.wf.ord.ovl⟩, h.wf.vals, h.wf.lev, h.wf.rea, h.wf.sav, h.wf.seen, h.wf.watch, h.wf.bump, h.wf.scp⟩, h.hp, h.free, h.trl, h.cla, h.wat, h.rsn, h.pro, h.wl, h.ale, h.big⟩
theorem Mid.lrn_ (h : Mid n N U S a E wI) (x : Int) : Mid n N U { S with learned := x } a E wI :=
  ⟨h.n1, h.n2, ⟨⟨h.wf.ord.big, h.wf.ord.sc, h.wf.ord.pl, h.wf.ord.ov, h.wf.ord.ovl⟩, h.wf.vals, h.wf.lev, h.wf.rea, h.wf.sav, h.wf.seen, h.wf.watch, h.wf.bump, h.wf.scp⟩, h.hp, h.free, h.trl, h.cla, h.wat, h.rsn, h.pro, h.wl, h.ale, h.big⟩
/-- no clause is named that there is not -/
theorem Mid.fresh_ (h : Mid n N U S a E S.watch) (hr : ∀ (v c : Nat), S.rea[v]? = some (some c) → c < S.cls.length) (hall : ∀ i ∈ S.all, i < S.cls.length) : fresh S = true := by
  unfold fresh
  simp only [Bool.and_eq_true, List.all_eq_true, decide_eq_true_eq]
  refine ⟨⟨hall, fun ws hws i hi => ?_⟩, fun o ho => ?_⟩
  · obtain ⟨p, hp⟩ := List.getElem?_of_mem hws
    obtain ⟨z, hz, _⟩ := h.wat.snd p ws i hp hi
    exact (List.getElem?_eq_some_iff.1 hz).1
  · obtain ⟨v, hv⟩ := List.getElem?_of_mem ho
    cases o with
    | none => rfl
    | some c => exact decide_eq_true (hr v c hv)
/-- a clause is put -/
structure PutR (S : Sz) (z : Cz) (S' : Sz) : Prop where
  vals : S'.vals = S.vals
  lev : S'.lev = S.lev
  rea : S'.rea = S.rea
  tr : S'.tr = S.tr
  st : S'.st = S.st
  at_ : S'.at' = S.at'
  prf : S'.prf = S.prf
  nl : S'.nl = S.nl
  seen : S'.seen = S.seen
  learned : S'.learned = S.learned
  cls : S'.cls = S.cls ++ [z]
  all : S'.all = S.all ++ [S.cls.length]
theorem snoc_get {cls : List Cz} {z : Cz} (c : Nat) : (cls ++ [z])[c]? = if c = cls.length then some z else cls[c]? := by
  by_cases h : c < cls.length
  · rw [List.getElem?_append_left h, if_neg (by omega)]
  · rw [List.getElem?_append_right (by omega)]
    by_cases e : c = cls.length
    · subst e; simp
    · rw [if_neg e, List.getElem?_eq_none (by simp; omega), List.getElem?_eq_none (by omega)]
theorem put_ok (h : Mid n N U S a E S.watch) {z : Cz} (hz : CzOK n N U z) (hb : S.cls.length < 1000000) (hall : S.all.length ≤ S.cls.length) :
    ∃ S', putO { S with cls := S.cls ++ [z] } S.cls.length = some S' ∧ Mid n N U S' a (fun c y => E c y ∨ c = S.cls.length) S'.watch ∧ PutR S z S' := by
  have ht := hz.two
  obtain ⟨p, hp⟩ : ∃ x, z.lits[0]? = some x := ⟨_, List.getElem?_eq_getElem (by omega)⟩
  obtain ⟨q, hq⟩ : ∃ x, z.lits[1]? = some x := ⟨_, List.getElem?_eq_getElem (by omega)⟩
  have hrp := hz.rng p (List.mem_of_getElem? hp)
  have hrq := hz.rng q (List.mem_of_getElem? hq)
  have hpq : codeZ p ≠ codeZ q := fun e => (hz.ne hp hq (by omega)).1 (codeZ_inj (by omega) (by omega) e)
  have hwl : S.watch.length = 2 * n := h.wf.watch
  have hcp := codeZ_lt hrp.2
  have hcq := codeZ_lt hrq.2
  have hn2 := h.n2
  obtain ⟨wp, hwp⟩ : ∃ w, S.watch[codeZ p]? = some w := ⟨_, List.getElem?_eq_getElem (by omega)⟩
  obtain ⟨wq, hwq⟩ : ∃ w, S.watch[codeZ q]? = some w := ⟨_, List.getElem?_eq_getElem (by omega)⟩
  have hsp := h.wat.short hwp
  have hsq := h.wat.short hwq
  obtain ⟨id, hid⟩ : ∃ id, S.cls.length = id := ⟨_, rfl⟩
  have hget : (S.cls ++ [z])[id]? = some z := by rw [snoc_get, if_pos hid.symm]
  have hnew : ∀ (r : Nat) (ws : List Nat), S.watch[r]? = some ws → id ∉ ws := fun r ws hr hm => by
    obtain ⟨z', hz', _⟩ := h.wat.snd r ws id hr hm
    have := (List.getElem?_eq_some_iff.1 hz').1
    omega
  have hput : putO { S with cls := S.cls ++ [z] } id = some { S with cls := S.cls ++ [z], all := S.all ++ [id], watch := (S.watch.set (codeZ p) (wp ++ [id])).set (codeZ q) (wq ++ [id]) } := by
    unfold putO
    show ((S.cls ++ [z])[id]?).bind _ = _
    rw [hget, Option.bind_some, hp, Option.bind_some, hq, Option.bind_some, if_pos (by show roomy S.all.length = true; unfold roomy; exact decide_eq_true (by omega))]
    have a1 : addO { S with cls := S.cls ++ [z], all := S.all ++ [id] } p id = some { S with cls := S.cls ++ [z], all := S.all ++ [id], watch := S.watch.set (codeZ p) (wp ++ [id]) } := by
      unfold addO
      show ((S.cls ++ [z])[id]?).bind _ = _
      rw [hget, Option.bind_some]
      show (S.watch[codeZ p]?).bind _ = _
      rw [hwp, Option.bind_some, if_pos ⟨by unfold roomy; exact decide_eq_true (by omega), by omega⟩]
    have a2 : addO { S with cls := S.cls ++ [z], all := S.all ++ [id], watch := S.watch.set (codeZ p) (wp ++ [id]) } q id = some { S with cls := S.cls ++ [z], all := S.all ++ [id], watch := (S.watch.set (codeZ p) (wp ++ [id])).set (codeZ q) (wq ++ [id]) } := by
      unfold addO
      show ((S.cls ++ [z])[id]?).bind _ = _
      rw [hget, Option.bind_some]
      show ((S.watch.set (codeZ p) (wp ++ [id]))[codeZ q]?).bind _ = _
      rw [get_set (by omega), if_neg (fun e => hpq e.symm), hwq, Option.bind_some, if_pos ⟨by unfold roomy; exact decide_eq_true (by omega), by omega⟩]
    rw [a1, Option.bind_some, a2]
  have hrow : ∀ r : Nat, ((S.watch.set (codeZ p) (wp ++ [id])).set (codeZ q) (wq ++ [id]))[r]? = if r = codeZ q then some (wq ++ [id]) else if r = codeZ p then some (wp ++ [id]) else S.watch[r]? := fun r => by
    rw [get_set (by rw [List.length_set]; omega), get_set (by omega)]
  have hlen2 : ((S.watch.set (codeZ p) (wp ++ [id])).set (codeZ q) (wq ++ [id])).length = 2 * n := by rw [List.length_set, List.length_set]; exact hwl
  have hW := h.wf
  have hold : ∀ (c : Nat) (z' : Cz), S.cls[c]? = some z' → (S.cls ++ [z])[c]? = some z' := fun c z' hz' => by
    rw [snoc_get, if_neg (by have := (List.getElem?_eq_some_iff.1 hz').1; omega)]; exact hz'
  rw [hid]
  refine ⟨_, hput, ⟨h.n1, h.n2, ⟨⟨hW.ord.big, hW.ord.sc, hW.ord.pl, hW.ord.ov, hW.ord.ovl⟩, hW.vals, hW.lev, hW.rea, hW.sav, hW.seen, hlen2, hW.bump, hW.scp⟩, h.hp, h.free, h.trl, fun c z' hz' => ?_, ⟨fun r ws hr => ?_, fun r ws c hr hm => ?_, fun c z' k y hz' hk hy => ?_⟩, ⟨fun i l c hi hc => ?_, h.rsn.no⟩, fun c z' k y o hz' hk hy ho hm => ?_, hlen2, h.ale, ?_⟩, ⟨rfl, rfl, rfl, rfl, rfl, rfl, rfl, rfl, rfl, rfl, rfl, by rw [hid]⟩⟩
  · have hz' : (S.cls ++ [z])[c]? = some z' := hz'
    rw [snoc_get] at hz'
    split at hz'
    · cases hz'; exact hz
    · exact h.cla c z' hz'
  · have nd1 : ∀ (r : Nat) (w : List Nat), S.watch[r]? = some w → (w ++ [id]).Nodup := fun r w hw => by
      rw [List.nodup_append]
      exact ⟨h.wat.nd r w hw, by simp, fun x hx y hy e => hnew r w hw (by rw [List.mem_singleton.1 hy] at e; exact e ▸ hx)⟩
    rw [hrow] at hr
    split at hr
    · cases hr; exact nd1 _ _ hwq
    · split at hr
      · cases hr; exact nd1 _ _ hwp
      · exact h.wat.nd r ws hr
  · rw [hrow] at hr
    have lift : ∀ (r : Nat) (w : List Nat), S.watch[r]? = some w → c ∈ w → ∃ z', (S.cls ++ [z])[c]? = some z' ∧ ∃ (k : Nat) (y : Int), k < 2 ∧ z'.lits[k]? = some y ∧ codeZ y = r := fun r w hw hc => by
      obtain ⟨z', hz', k, y, q1, q2, q3⟩ := h.wat.snd r w c hw hc
      exact ⟨z', hold c z' hz', k, y, q1, q2, q3⟩
    split at hr
    · rename_i e
      cases hr
      rw [e]
      rcases List.mem_append.1 hm with hm | hm
      · exact lift _ _ hwq hm
      · rw [List.mem_singleton.1 hm]
        exact ⟨z, hget, 1, q, by omega, hq, rfl⟩
    · split at hr
      · rename_i e
        cases hr
        rw [e]
        rcases List.mem_append.1 hm with hm | hm
        · exact lift _ _ hwp hm
        · rw [List.mem_singleton.1 hm]
          exact ⟨z, hget, 0, p, by omega, hp, rfl⟩
      · exact lift _ _ hr hm
  · have hz' : (S.cls ++ [z])[c]? = some z' := hz'
    rw [snoc_get] at hz'
    rw [List.getD_eq_getElem?_getD, hrow]
    split at hz'
    · rename_i e
      cases hz'
      match k, hk, hy with
      | 0, _, hy =>
        rw [hp] at hy
        cases hy
        rw [if_neg hpq, if_pos rfl, e, hid]
        simp
      | 1, _, hy =>
        rw [hq] at hy
        cases hy
        rw [if_pos rfl, e, hid]
        simp
    · have := h.wat.cmp c z' k y hz' hk hy
      rw [List.getD_eq_getElem?_getD] at this
      split
      · rename_i e
        rw [e, hwq] at this
        exact List.mem_append_left _ this
      · split
        · rename_i e
          rw [e, hwp] at this
          exact List.mem_append_left _ this
        · exact this
  · obtain ⟨z', q1, q2, q3⟩ := h.rsn.by_ i l c hi hc
    exact ⟨z', hold c z' q1, q2, q3⟩
  · have hz' : (S.cls ++ [z])[c]? = some z' := hz'
    rw [snoc_get] at hz'
    split at hz'
    · rename_i e
      exact .inl (.inr (by omega))
    · rcases h.pro c z' k y o hz' hk hy ho hm with e | e
      · exact .inl (.inl e)
      · exact .inr e
  · show (S.cls ++ [z]).length ≤ _
    rw [List.length_append, List.length_singleton]; omega
/-- the next variable -/
theorem decideF_ok (hn : 0 < n) : ∀ (f : Nat) {S : Sz}, S.ov.length < f → WF n S → HpS n S →
    ∃ q, decideF f S = some q ∧ WF n q.2 ∧ HpS n q.2 ∧ SameO S q.2 ∧ ((q.1 = 0 ∧ q.2.ov.length = 0) ∨ ∃ v : Nat, q.1 = (v : Int) ∧ 1 ≤ v ∧ v < n ∧ S.vals.getD v 0 = 0) ∧
      ∀ w : Nat, 1 ≤ w → w < n → S.vals.getD w 0 = 0 → 0 ≤ S.pl.getD w 0 → q.1 ≠ (w : Int) → 0 ≤ q.2.pl.getD w 0
  | 0, S, hf, _, _ => by omega
  | f + 1, S, hf, wf, hp => by
    unfold decideF
    by_cases h0 : S.ov.length = 0
    · rw [if_pos h0]
      exact ⟨_, rfl, wf, hp, SameO.refl S, .inl ⟨rfl, h0⟩, fun w _ _ _ h _ => h⟩
    · rw [if_neg h0]
      obtain ⟨u, S', e1, e2, e3, e4, e5, e6, e7, e8⟩ := hp.popO (by omega)
      rw [e1, Option.bind_some]
      obtain ⟨w1, w2, _⟩ := hpopO_wf wf e1
      have hv : S'.vals = S.vals := (congrArg Sz.vals w2 : _)
      have hvl : S.vals.length = n := wf.vals.1
      dsimp only
      rw [show ((u : Int)).toNat = u from Int.toNat_natCast u, hv, list_get 0 (by omega), Option.bind_some]
      by_cases hu : S.vals.getD u 0 = 0
      · rw [if_pos hu]
        refine ⟨_, rfl, w1, e2, e3, .inr ⟨u, rfl, e4, e5, hu⟩, fun w h1 h2 _ h4 h5 => (e8 w h1 h2).2 ⟨fun e => h5 (by rw [e]), h4⟩⟩
      · rw [if_neg hu]
        obtain ⟨q, a1, a2, a3, a4, a5, a6⟩ := decideF_ok hn f (S := S') (by omega) w1 e2
        rw [hv] at a5 a6
        refine ⟨q, a1, a2, a3, e3.trans a4, a5, fun w h1 h2 h3 h4 h5 => a6 w h1 h2 h3 ((e8 w h1 h2).2 ⟨fun e => hu (by rw [← e]; exact h3), h4⟩) h5⟩
end
end Go.Proofs.Ytkpppmldbhgcgaa

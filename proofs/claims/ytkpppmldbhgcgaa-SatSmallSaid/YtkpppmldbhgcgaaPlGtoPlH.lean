/- Sat, plain: a literal's row (row), all that is to be propagated (spread). -/
import Derived.Test.YtkpppmldbhgcgaaPlEtoPlF
set_option linter.unusedVariables false
set_option linter.unusedSimpArgs false
set_option autoImplicit false
set_option linter.unusedVariables false
set_option linter.unusedSimpArgs false
namespace Go.Proofs.Ytkpppmldbhgcgaa
open Go
/-- what propagating does not turn -/
structure SameR (S S' : Sz) : Prop where
  st : S'.st = S.st
  ov : S'.ov = S.ov
  pl : S'.pl = S.pl
  prf : S'.prf = S.prf
  nl : S'.nl = S.nl
  seen : S'.seen = S.seen
  learned : S'.learned = S.learned
  all : S'.all = S.all
  prs : SameP S S'
  len : S'.cls.length = S.cls.length
  pre : S.tr <+: S'.tr
theorem SameR.refl (S : Sz) : SameR S S := ⟨rfl, rfl, rfl, rfl, rfl, rfl, rfl, rfl, SameP.refl S, rfl, List.prefix_refl _⟩
theorem SameR.trans {a b c : Sz} (h : SameR a b) (k : SameR b c) : SameR a c :=
  ⟨k.st.trans h.st, k.ov.trans h.ov, k.pl.trans h.pl, k.prf.trans h.prf, k.nl.trans h.nl, k.seen.trans h.seen, k.learned.trans h.learned, k.all.trans h.all, h.prs.trans k.prs, k.len.trans h.len, h.pre.trans k.pre⟩
theorem SameW.r {S S' : Sz} (h : SameW S S') (hl : S'.cls.length = S.cls.length) : SameR S S' := by
  obtain ⟨e, hp⟩ := h
  have e1 : ∀ {β : Type} (f : Sz → β), f S' = f { S with cls := S'.cls, watch := S'.watch } := fun f => congrArg f e
  exact ⟨e1 Sz.st, e1 Sz.ov, e1 Sz.pl, e1 Sz.prf, e1 Sz.nl, e1 Sz.seen, e1 Sz.learned, e1 Sz.all, hp, hl, by rw [e1 Sz.tr]; exact List.prefix_refl _⟩
theorem sameR_watch (S : Sz) (w : List (List Nat)) : SameR S { S with watch := w } := ⟨rfl, rfl, rfl, rfl, rfl, rfl, rfl, rfl, SameP.refl S, rfl, List.prefix_refl _⟩
theorem sameR_let (S : Sz) (l : Int) (rn : Option Nat) : SameR S (letS S l rn) := ⟨rfl, rfl, rfl, rfl, rfl, rfl, rfl, rfl, SameP.refl S, rfl, List.prefix_append _ _⟩
section
variable {n : Nat} {N : List (List Int)} {U : Int} {S : Sz} {a : Nat} {E : Nat → Int → Prop} {wI : List (List Nat)}
theorem Mid.exc (h : Mid n N U S a E wI) {E' : Nat → Int → Prop} {wI' : List (List Nat)} (hp : Pro S.cls S.vals S.lev S.tr a E') (e : wI' = wI) : Mid n N U S a E' wI' := by
  subst e
  exact ⟨h.n1, h.n2, h.wf, h.hp, h.free, h.trl, h.cla, h.wat, h.rsn, hp, h.wl, h.ale, h.big⟩
theorem Mid.level (h : Mid n N U S a E wI) {x : Int} (h1 : 1 ≤ x.natAbs) (h2 : x.natAbs < n) (hx : litV S.vals x ≠ 0) : 0 ≤ S.lev.getD x.natAbs 0 ∧ S.lev.getD x.natAbs 0 ≤ S.st.length := by
  obtain ⟨i, m, hi, hm⟩ := h.trl.all x.natAbs h1 h2 (fun e => hx (litV_abs.2 e))
  obtain ⟨L, hL, hA⟩ := h.trl.lev i m hi
  rw [← hm, hL]
  have := hA.1
  omega
/-- a conflict: a clause of which all literals are false, one of them of the level that is open -/
def Cfl (S : Sz) (c : Nat) : Prop := ∃ z, S.cls[c]? = some z ∧ (∀ y ∈ z.lits, litV S.vals y = -1) ∧ ∃ y ∈ z.lits, S.lev.getD y.natAbs 0 = S.st.length
theorem row_ok {l : Int} (h1 : 1 ≤ l.natAbs) (h2 : l.natAbs < n) : ∀ (rest : List Nat) (f : Nat) {S : Sz} {kept row : List Nat} {k j : Nat}, rest.length + 1 ≤ f → S.watch[codeZ l]? = some row → k + rest.length = row.length → j ≤ k → row.take j = kept → row.drop k = rest →
    Mid n N U S a (Exc l rest) (rowI S (codeZ l) kept rest) → litV S.vals l = -1 → S.lev.getD l.natAbs 0 = S.st.length →
    ∃ r, rowF f S l k j = some r ∧ SameR S r.2 ∧ r.2.at' = S.at' ∧ litV r.2.vals l = -1 ∧ (r.1 = none → Mid n N U r.2 a (fun _ _ => False) r.2.watch) ∧
      (∀ c, r.1 = some c → Cfl r.2 c ∧ ∃ rest', Mid n N U r.2 a (Exc l rest') r.2.watch)
  | [], 0, S, kept, row, k, j, hf, _, _, _, _, _, _, _, _ => by simp at hf
  | [], f + 1, S, kept, row, k, j, hf, hrow, hk, hjk, hkept, hrest, h, hl, hlD => by
    have hg : S.watch.getD (codeZ l) [] = row := by rw [List.getD_eq_getElem?_getD, hrow]; rfl
    have hk : k = row.length := by simpa using hk
    unfold rowF
    rw [hg, if_neg (by omega)]
    refine ⟨_, rfl, sameR_watch _ _, rfl, hl, fun _ => ?_, fun c e => by cases e⟩
    have hM := h.exc (E' := fun _ _ => False) (wI' := S.watch.set (codeZ l) (row.take j)) (fun c z k y o hz hk hy ho hm => by
      rcases h.pro c z k y o hz hk hy ho hm with e | e
      · exact absurd e.2 (by simp)
      · exact .inr e) (by unfold rowI; rw [hkept, List.append_nil])
    exact hM.watch (by rw [List.length_set]; exact h.wf.watch)
  | c :: rest, 0, S, kept, row, k, j, hf, _, _, _, _, _, _, _, _ => by simp at hf
  | c :: rest, f + 1, S, kept, row, k, j, hf, hrow, hk, hjk, hkept, hrest, h, hl, hlD => by
    have hg : S.watch.getD (codeZ l) [] = row := by rw [List.getD_eq_getElem?_getD, hrow]; rfl
    have hklt : k < row.length := by simp at hk; omega
    have hpl := codeZ_lt h2
    have hwl : S.watch.length = 2 * n := h.wf.watch
    have hkc : row[k]? = some c := by
      have := List.getElem?_drop (xs := row) (i := k) (j := 0)
      rw [hrest] at this
      simpa using this.symm
    have hrest' : row.drop (k + 1) = rest := by
      rw [← List.drop_drop, hrest]; rfl
    obtain ⟨r, hv, hsw, hn_, hs_⟩ := visit_ok h h1 h2 hl
    obtain ⟨wf1, hlen, hwlen, hwp, htr, hst, hat⟩ := visit_facts h.wf hv
    have hR := hsw.r hlen
    have hvals := congrArg Sz.vals hsw.1
    replace hvals : r.2.vals = S.vals := hvals
    have hlev := congrArg Sz.lev hsw.1
    replace hlev : r.2.lev = S.lev := hlev
    have hl1 : litV r.2.vals l = -1 := by rw [hvals]; exact hl
    have hlD1 : r.2.lev.getD l.natAbs 0 = r.2.st.length := by rw [hlev, hst]; exact hlD
    unfold rowF
    rw [hg, if_pos hklt, hkc]
    show ∃ q, ((visitO S l c).bind _) = some q ∧ _
    rw [hv]
    show ∃ q, (match r.1 with | none => _ | some x => _) = some q ∧ _
    cases hr1 : r.1 with
    | none =>
      dsimp only
      obtain ⟨q, e1, e2, e3, e4, e5, e6⟩ := row_ok h1 h2 rest f (S := r.2) (kept := kept) (row := row) (k := k + 1) (j := j) (by simp at hf; omega) (by rw [hwp]; exact hrow) (by simp at hk; omega) (by omega) hkept hrest' (hn_ hr1) hl1 hlD1
      exact ⟨q, e1, hR.trans e2, e3.trans hat, e4, e5, e6⟩
    | some x =>
      dsimp only
      obtain ⟨hM, z, hz, hz0, hz1, hcase⟩ := hs_ x hr1
      have hok := hM.cla c z hz
      have hrx := hok.rng x (List.mem_of_getElem? hz0)
      -- the row, turned at its j-th place
      have hw1 : r.2.watch[codeZ l]? = some row := by rw [hwp]; exact hrow
      have hg1 : r.2.watch.getD (codeZ l) [] = row := by rw [List.getD_eq_getElem?_getD, hw1]; rfl
      have hsetW : setW r.2 (codeZ l) j c = { r.2 with watch := r.2.watch.set (codeZ l) (row.set j c) } := by unfold setW; rw [hg1]
      have hwl1 : r.2.watch.length = 2 * n := wf1.watch
      have hrow2 : (r.2.watch.set (codeZ l) (row.set j c))[codeZ l]? = some (row.set j c) := by rw [get_set (by omega), if_pos rfl]
      have htk : (row.set j c).take (j + 1) = kept ++ [c] := by
        rw [List.take_add_one, List.getElem?_set, if_pos rfl, if_pos (by omega), List.take_set_of_le (Nat.le_refl _), hkept]
        rfl
      have hdr : (row.set j c).drop (k + 1) = rest := by rw [List.drop_set_of_lt (by omega), hrest']
      have hI : r.2.watch.set (codeZ l) (kept ++ c :: rest) = (r.2.watch.set (codeZ l) (row.set j c)).set (codeZ l) (kept ++ [c] ++ rest) := by rw [List.set_set, List.append_assoc]; rfl
      have hM1 : Mid n N U { r.2 with watch := r.2.watch.set (codeZ l) (row.set j c) } a (Exc l (c :: rest)) (rowI { r.2 with watch := r.2.watch.set (codeZ l) (row.set j c) } (codeZ l) (kept ++ [c]) rest) :=
        (hM.exc (wI' := rowI { r.2 with watch := r.2.watch.set (codeZ l) (row.set j c) } (codeZ l) (kept ++ [c]) rest) hM.pro hI.symm).watch (by rw [List.length_set]; exact hwl1)
      have hR1 : SameR S { r.2 with watch := r.2.watch.set (codeZ l) (row.set j c) } := hR.trans (sameR_watch _ _)
      rw [hsetW]
      -- where the literal is true, of a level that is no higher
      have drop_c : ∀ {T : Sz}, Mid n N U T a (Exc l (c :: rest)) (rowI T (codeZ l) (kept ++ [c]) rest) → T.cls = r.2.cls → litV T.vals x = 1 → T.lev.getD l.natAbs 0 = T.st.length → Mid n N U T a (Exc l rest) (rowI T (codeZ l) (kept ++ [c]) rest) := by
        intro T hT ecl hx1 hlT
        refine hT.exc (fun c' z' k' y o hz' hk' hy ho hm => ?_) rfl
        rcases hT.pro c' z' k' y o hz' hk' hy ho hm with e | e
        · obtain ⟨e1, e2⟩ := e
          rcases List.mem_cons.1 e2 with e2 | e2
          · subst e1 e2
            rw [ecl, hz] at hz'
            cases hz'
            have hk1 : k' = 1 := by
              apply Classical.byContradiction
              intro hk1
              have : k' = 0 := by omega
              subst this
              exact (hok.ne hy hz1 (by omega)).1 rfl
            subst hk1
            rw [hz0] at ho
            cases ho
            refine .inr ⟨hx1, ?_⟩
            rw [hlT]
            exact (hT.level hrx.1 hrx.2 (by omega)).2
          · exact .inl ⟨e1, e2⟩
        · exact .inr e
      have next : ∀ {T : Sz}, Mid n N U T a (Exc l rest) (rowI T (codeZ l) (kept ++ [c]) rest) → T.watch = r.2.watch.set (codeZ l) (row.set j c) → SameR S T → T.at' = r.2.at' → litV T.vals l = -1 → T.lev.getD l.natAbs 0 = T.st.length →
          ∃ q, rowF f T l (k + 1) (j + 1) = some q ∧ SameR S q.2 ∧ q.2.at' = S.at' ∧ litV q.2.vals l = -1 ∧ (q.1 = none → Mid n N U q.2 a (fun _ _ => False) q.2.watch) ∧ (∀ c, q.1 = some c → Cfl q.2 c ∧ ∃ rest', Mid n N U q.2 a (Exc l rest') q.2.watch) := by
        intro T hT ew hRT eat hlT hlDT
        obtain ⟨q, e1, e2, e3, e4, e5, e6⟩ := row_ok h1 h2 rest f (S := T) (kept := kept ++ [c]) (row := row.set j c) (k := k + 1) (j := j + 1) (by simp at hf; omega) (by rw [ew]; exact hrow2) (by rw [List.length_set]; simp at hk; omega) (by omega) htk hdr hT hlT hlDT
        exact ⟨q, e1, hRT.trans e2, e3.trans (eat.trans hat), e4, e5, e6⟩
      by_cases hx1 : litV r.2.vals x = 1
      · have hlet : letO { r.2 with watch := r.2.watch.set (codeZ l) (row.set j c) } x (some c) = some (true, { r.2 with watch := r.2.watch.set (codeZ l) (row.set j c) }) := by
          unfold letO
          rw [litO_val hM1.wf hrx.2, show litV ({ r.2 with watch := r.2.watch.set (codeZ l) (row.set j c) } : Sz).vals x = 1 from hx1]
          rfl
        rw [hlet]
        exact next (drop_c hM1 rfl hx1 hlD1) rfl hR1 rfl hl1 hlD1
      · have hall : ∀ y ∈ z.lits.drop 1, litV r.2.vals y = -1 := by
          rw [hvals] at hx1 ⊢
          exact hcase.resolve_left hx1
        rcases litV_range wf1 x with e | e | e
        · exact absurd e hx1
        · obtain ⟨q1, q2⟩ := hM1.let_ (rn := some c) hrx.1 hrx.2 e ⟨z, hz, hz0, hall⟩
          rw [q1]
          have hxl : l.natAbs ≠ x.natAbs := fun e2 => by
            rcases litV_abs' (vs := r.2.vals) e2 with e3 | e3 <;> omega
          have hxv : litV (letS { r.2 with watch := r.2.watch.set (codeZ l) (row.set j c) } x (some c)).vals x = 1 := by
            show litV (r.2.vals.set x.natAbs _) x = 1
            rw [litV_set (by rw [wf1.vals.1]; exact hrx.2), if_pos rfl]
            split <;> rfl
          have hlv : litV (letS { r.2 with watch := r.2.watch.set (codeZ l) (row.set j c) } x (some c)).vals l = -1 := by
            show litV (r.2.vals.set x.natAbs _) l = -1
            rw [litV_set (by rw [wf1.vals.1]; exact hrx.2), if_neg hxl]
            exact hl1
          have hll : (letS { r.2 with watch := r.2.watch.set (codeZ l) (row.set j c) } x (some c)).lev.getD l.natAbs 0 = (letS { r.2 with watch := r.2.watch.set (codeZ l) (row.set j c) } x (some c)).st.length := by
            show (r.2.lev.set x.natAbs _).getD l.natAbs 0 = r.2.st.length
            rw [getD_set (by rw [wf1.lev]; exact hrx.2), if_neg hxl]
            exact hlD1
          exact next (drop_c q2 rfl hxv hll) rfl (hR1.trans (sameR_let _ _ _)) rfl hlv hll
        · have hlet : letO { r.2 with watch := r.2.watch.set (codeZ l) (row.set j c) } x (some c) = some (false, { r.2 with watch := r.2.watch.set (codeZ l) (row.set j c) }) := by
            unfold letO
            rw [litO_val hM1.wf hrx.2, show litV ({ r.2 with watch := r.2.watch.set (codeZ l) (row.set j c) } : Sz).vals x = -1 from e]
            rfl
          rw [hlet]
          have hg2 : (r.2.watch.set (codeZ l) (row.set j c)).getD (codeZ l) [] = row.set j c := by rw [List.getD_eq_getElem?_getD, hrow2]; rfl
          have hids : ∀ i ∈ rest, i < r.2.cls.length := fun i hi => by
            obtain ⟨z', hz', _⟩ := hM.wat.snd (codeZ l) (kept ++ c :: rest) i (by unfold rowI; rw [get_set (by omega), if_pos rfl]) (by simp [hi])
            exact (List.getElem?_eq_some_iff.1 hz').1
          have hfin : ({ r.2 with watch := (r.2.watch.set (codeZ l) (row.set j c)).set (codeZ l) (kept ++ [c] ++ rest) } : Sz) = { r.2 with watch := r.2.watch.set (codeZ l) (kept ++ c :: rest) } := by rw [hI]
          have hMf : Mid n N U { r.2 with watch := (r.2.watch.set (codeZ l) (row.set j c)).set (codeZ l) (kept ++ [c] ++ rest) } a (Exc l (c :: rest)) ((r.2.watch.set (codeZ l) (row.set j c)).set (codeZ l) (kept ++ [c] ++ rest)) :=
            (hM.exc (wI' := (r.2.watch.set (codeZ l) (row.set j c)).set (codeZ l) (kept ++ [c] ++ rest)) hM.pro hI.symm).watch (by rw [List.length_set, List.length_set]; exact hwl1)
          refine ⟨(some c, { r.2 with watch := (r.2.watch.set (codeZ l) (row.set j c)).set (codeZ l) (kept ++ [c] ++ rest) }), ?_, hR.trans (sameR_watch _ _), hat, hl1, fun e => (by cases e), fun c' e' => ?_⟩
          · rw [Option.bind_some]
            dsimp only
            rw [if_neg (by decide), hg2, hdr, if_pos (List.all_eq_true.2 fun i hi => decide_eq_true (hids i hi)), htk]
          · cases e'
            refine ⟨⟨z, hz, fun y hy => ?_, l, List.mem_of_getElem? hz1, hlD1⟩, _, hMf⟩
            obtain ⟨i, hi⟩ := List.getElem?_of_mem hy
            match i, hi with
            | 0, hi => rw [hz0] at hi; cases hi; exact e
            | i + 1, hi => exact hall y (List.mem_of_getElem? (i := i) (by rw [List.getElem?_drop, show 1 + i = i + 1 by omega]; exact hi))
end
end Go.Proofs.Ytkpppmldbhgcgaa
/- Sat, plain: all that is to be propagated (spread). -/
set_option autoImplicit false
set_option linter.unusedVariables false
set_option linter.unusedSimpArgs false
namespace Go.Proofs.Ytkpppmldbhgcgaa
open Go
section
variable {n : Nat} {N : List (List Int)} {U : Int} {S : Sz} {a : Nat} {E : Nat → Int → Prop} {wI : List (List Nat)}
def noE : Nat → Int → Prop := fun _ _ => False
theorem Mid.at_ (h : Mid n N U S a E wI) (x : Int) : Mid n N U { S with at' := x } a E wI :=
  ⟨h.n1, h.n2, atWF h.wf x, h.hp, h.free, h.trl, h.cla, h.wat, h.rsn, h.pro, h.wl, h.ale, h.big⟩
/-- so much less is propagated -/
theorem Mid.less (h : Mid n N U S a E wI) {b : Nat} (hb : b ≤ a) {E' : Nat → Int → Prop} (he : ∀ c y, E c y → -y ∉ S.tr.take b) : Mid n N U S b E' wI :=
  ⟨h.n1, h.n2, h.wf, h.hp, h.free, h.trl, h.cla, h.wat, h.rsn, fun c z k y o hz hk hy ho hm => by
    have : -y ∈ S.tr.take a := by
      have e : S.tr.take b = (S.tr.take a).take b := by rw [List.take_take, Nat.min_eq_left hb]
      rw [e] at hm
      exact List.mem_of_mem_take hm
    rcases h.pro c z k y o hz hk hy ho this with e | e
    · exact absurd hm (he c y e)
    · exact .inr e, h.wl, Nat.le_trans hb h.ale, h.big⟩
theorem lev_top (h : Mid n N U S a E wI) {A : Nat} {x : Int} (hx : S.tr[A]? = some x) (hs : ∀ k : Nat, k < S.st.length → S.st.getD k 0 ≤ (A : Int)) : S.lev.getD x.natAbs 0 = S.st.length := by
  obtain ⟨L, hL, h1, h2⟩ := h.trl.lev A x hx
  rw [hL]
  apply Classical.byContradiction
  intro hne
  have := (h2 L (by omega)).1 (hs L (by omega))
  omega
theorem spread_ok' : ∀ (f : Nat) {S : Sz} {A : Nat}, n + 1 ≤ f + A → S.at' = (A : Int) → Mid n N U S A noE S.watch → (∀ k : Nat, k < S.st.length → S.st.getD k 0 ≤ (A : Int)) →
    ∃ r, spreadF f S = some r ∧ SameR S r.2 ∧ (r.1 = none → r.2.at' = (r.2.tr.length : Int) ∧ Mid n N U r.2 r.2.tr.length noE r.2.watch) ∧
      (∀ c, r.1 = some c → Cfl r.2 c ∧ ∃ B : Nat, (∀ k : Nat, k < r.2.st.length → r.2.st.getD k 0 ≤ (B : Int)) ∧ Mid n N U r.2 B noE r.2.watch)
  | 0, S, A, hf, hat, h, hs => by
    have := h.trl.short h.n1
    have := h.ale
    omega
  | f + 1, S, A, hf, hat, h, hs => by
    have hsh := h.trl.short h.n1
    have hale := h.ale
    have hn2 := h.n2
    unfold spreadF
    rw [hat]
    by_cases hlt : A < S.tr.length
    · rw [if_pos (by omega), if_neg (by omega)]
      obtain ⟨x, hx⟩ : ∃ x, S.tr[A]? = some x := ⟨_, List.getElem?_eq_getElem hlt⟩
      obtain ⟨x1, x2, x3⟩ := h.trl.lit A x hx
      have hxn : x ≠ 0 := by omega
      have hnl : litV S.vals (-x) = -1 := by rw [litV_neg hxn, x3]
      have hna : (-x).natAbs = x.natAbs := Int.natAbs_neg x
      have hwl : S.watch.length = 2 * n := h.wf.watch
      have hpl : codeZ (-x) < 2 * n := codeZ_lt (by rw [hna]; exact x2)
      obtain ⟨ws, hws⟩ : ∃ ws, S.watch[codeZ (-x)]? = some ws := ⟨_, List.getElem?_eq_getElem (by omega)⟩
      have hwsl := h.wat.short hws
      have hbig := h.big
      rw [show ((A : Int)).toNat = A from Int.toNat_natCast A, hx, Option.bind_some, hws, Option.bind_some, if_pos ⟨by omega, by unfold roomy; exact decide_eq_true (by omega), by unfold roomy; exact decide_eq_true (by omega)⟩]
      have hset : S.watch.set (codeZ (-x)) ([] ++ ws) = S.watch := by
        rw [List.nil_append]
        apply List.ext_getElem?
        intro q
        rw [get_set (by omega)]
        split
        · rename_i e; rw [e, hws]
        · rfl
      have hM : Mid n N U { S with at' := (A : Int) + 1 } (A + 1) (Exc (-x) ws) (rowI { S with at' := (A : Int) + 1 } (codeZ (-x)) [] ws) := by
        have hpro : Pro S.cls S.vals S.lev S.tr (A + 1) (Exc (-x) ws) := fun c z k y o hz hk hy ho hm => by
          rw [List.take_add_one, hx] at hm
          rcases List.mem_append.1 hm with hm | hm
          · rcases h.pro c z k y o hz hk hy ho hm with e | e
            · exact e.elim
            · exact .inr e
          · have e : -y = x := by simpa using hm
            have ey : y = -x := by omega
            refine .inl ⟨ey, ?_⟩
            have := h.wat.cmp c z k y hz hk hy
            rw [ey, List.getD_eq_getElem?_getD, hws] at this
            exact this
        have : Mid n N U S (A + 1) (Exc (-x) ws) (rowI { S with at' := (A : Int) + 1 } (codeZ (-x)) [] ws) :=
          ⟨h.n1, h.n2, h.wf, h.hp, h.free, h.trl, h.cla, by show Wat S.cls (S.watch.set _ _); rw [hset]; exact h.wat, h.rsn, hpro, by show (S.watch.set _ _).length = _; rw [List.length_set]; exact hwl, by omega, h.big⟩
        exact this.at_ _
      have hlt2 := lev_top h hx hs
      obtain ⟨q, e1, e2, e3, e4, e5, e6⟩ := row_ok (l := -x) (by rw [hna]; exact x1) (by rw [hna]; exact x2) ws (ws.length + 1) (S := { S with at' := (A : Int) + 1 }) (kept := []) (row := ws) (k := 0) (j := 0) (Nat.le_refl _) hws (by omega) (Nat.le_refl _) rfl rfl hM hnl (by rw [hna]; exact hlt2)
      rw [e1, Option.bind_some]
      have hR : SameR S q.2 := SameR.trans (⟨rfl, rfl, rfl, rfl, rfl, rfl, rfl, rfl, SameP.refl S, rfl, List.prefix_refl _⟩ : SameR S { S with at' := (A : Int) + 1 }) e2
      cases hq : q.1 with
      | none =>
        dsimp only
        have hst : q.2.st = S.st := hR.st
        obtain ⟨r, a1, a2, a3, a4⟩ := spread_ok' f (S := q.2) (A := A + 1) (by omega) (by rw [e3]; show (A : Int) + 1 = _; omega) (e5 hq) (fun k hk => by
          rw [hst] at hk ⊢
          have := hs k hk
          omega)
        exact ⟨r, a1, hR.trans a2, a3, a4⟩
      | some c =>
        dsimp only
        obtain ⟨c1, rest', c2⟩ := e6 c hq
        refine ⟨_, rfl, hR, fun e => (by cases e), fun c' e => ?_⟩
        cases e
        refine ⟨c1, A, fun k hk => ?_, c2.less (by omega) fun c y e hm => ?_⟩
        · have hst : q.2.st = S.st := hR.st
          rw [hst] at hk ⊢
          exact hs k hk
        · -- the literal stands at A, so not before
          obtain ⟨rfl, _⟩ := e
          rw [Int.neg_neg] at hm
          obtain ⟨i, hi⟩ := List.getElem?_of_mem hm
          rw [List.getElem?_take] at hi
          split at hi
          · rename_i hi2
            have hA : q.2.tr[A]? = some x := by
              obtain ⟨ext, he⟩ := hR.pre
              rw [← he, List.getElem?_append_left hlt]
              exact hx
            have := c2.trl.nd i A x x hi hA rfl
            omega
          · cases hi
    · rw [if_neg (by omega)]
      have hA : A = S.tr.length := by omega
      refine ⟨_, rfl, SameR.refl S, fun _ => ⟨by rw [hat, hA], by rw [← hA]; exact h⟩, fun c e => by cases e⟩
theorem spread_ok {A : Nat} (hat : S.at' = (A : Int)) (h : Mid n N U S A noE S.watch) (hs : ∀ k : Nat, k < S.st.length → S.st.getD k 0 ≤ (A : Int)) :
    ∃ r, spreadO S = some r ∧ SameR S r.2 ∧ (r.1 = none → r.2.at' = (r.2.tr.length : Int) ∧ Mid n N U r.2 r.2.tr.length noE r.2.watch) ∧
      (∀ c, r.1 = some c → Cfl r.2 c ∧ ∃ B : Nat, (∀ k : Nat, k < r.2.st.length → r.2.st.getD k 0 ≤ (B : Int)) ∧ Mid n N U r.2 B noE r.2.watch) :=
  spread_ok' _ (by rw [h.wf.vals.1]; omega) hat h hs
end
end Go.Proofs.Ytkpppmldbhgcgaa

/- Sat, plain: back to a level (back). -/
import Derived.Test.YtkpppmldbhgcgaaPlGtoPlH
set_option linter.unusedVariables false
set_option linter.unusedSimpArgs false
set_option autoImplicit false
set_option linter.unusedVariables false
set_option linter.unusedSimpArgs false
namespace Go.Proofs.Ytkpppmldbhgcgaa
open Go
/-- what going back over literals does -/
structure BackR (n : Nat) (ls : List Int) (S S' : Sz) : Prop where
  wf : WF n S'
  hp : HpS n S'
  vals : ∀ v : Nat, ((∃ l ∈ ls, l.natAbs = v) → S'.vals.getD v 0 = 0) ∧ ((∀ l ∈ ls, l.natAbs ≠ v) → S'.vals.getD v 0 = S.vals.getD v 0)
  rea : ∀ v : Nat, (∀ l ∈ ls, l.natAbs ≠ v) → S'.rea.getD v none = S.rea.getD v none
  in_ : ∀ x : Nat, 1 ≤ x → x < n → ((∃ l ∈ ls, l.natAbs = x) ∨ 0 ≤ S.pl.getD x 0 → 0 ≤ S'.pl.getD x 0)
  lev : S'.lev = S.lev
  tr : S'.tr = S.tr
  st : S'.st = S.st
  cls : S'.cls = S.cls
  watch : S'.watch = S.watch
  all : S'.all = S.all
  prf : S'.prf = S.prf
  nl : S'.nl = S.nl
  seen : S'.seen = S.seen
  learned : S'.learned = S.learned
theorem backV_ok {n : Nat} (hn : 0 < n) {S : Sz} {l : Int} (wf : WF n S) (hp : HpS n S) (h1 : 1 ≤ l.natAbs) (h2 : l.natAbs < n) : ∃ S', backV S l = some S' ∧ BackR n [l] S S' := by
  have hvl : S.vals.length = n := wf.vals.1
  have hrl : S.rea.length = n := wf.rea
  have hsl : S.sav.length = n := wf.sav
  have hpl : S.pl.length = n := wf.ord.pl
  obtain ⟨S1, hS1⟩ : ∃ S1 : Sz, { S with sav := S.sav.set l.natAbs (decide (0 < l)), vals := S.vals.set l.natAbs 0, rea := S.rea.set l.natAbs none } = S1 := ⟨_, rfl⟩
  have wf1 : WF n S1 := by
    rw [← hS1]
    exact ⟨⟨wf.ord.big, wf.ord.sc, wf.ord.pl, wf.ord.ov, wf.ord.ovl⟩, wf.vals.set _ (by decide), wf.lev, by show (S.rea.set _ _).length = n; rw [List.length_set]; exact hrl, by show (S.sav.set _ _).length = n; rw [List.length_set]; exact hsl, wf.seen, wf.watch, wf.bump, wf.scp⟩
  have hp1 : HpS n S1 := by rw [← hS1]; exact hp
  have hv : ∀ v : Nat, S1.vals.getD v 0 = if v = l.natAbs then 0 else S.vals.getD v 0 := fun v => by rw [← hS1]; exact getD_set (by omega)
  have hr : ∀ v : Nat, v ≠ l.natAbs → S1.rea.getD v none = S.rea.getD v none := fun v hv => by
    rw [← hS1]
    show (S.rea.set _ _).getD v none = _
    rw [getD_set (by omega), if_neg hv]
  have hbk : backV S l = if S.pl.getD l.natAbs 0 < 0 then hpushO S1 l.natAbs else some S1 := by
    unfold backV
    rw [list_get 0 (by omega), Option.bind_some, list_get 0 (by omega), Option.bind_some, hS1]
  have hpl1 : S1.pl = S.pl := by rw [← hS1]
  have base : ∀ {S' : Sz}, WF n S' → HpS n S' → SameO S1 S' → (∀ x : Nat, 1 ≤ x → x < n → (x = l.natAbs ∨ 0 ≤ S.pl.getD x 0 → 0 ≤ S'.pl.getD x 0)) → BackR n [l] S S' := by
    intro S' a b c d
    have cc := c
    unfold SameO at cc
    have f : ∀ {β : Type} (g : Sz → β), g S' = g { S1 with ov := S'.ov, pl := S'.pl } := fun g => congrArg g cc
    refine ⟨a, b, fun v => ⟨fun ⟨m, hm, e⟩ => ?_, fun hm => ?_⟩, fun v hm => ?_, fun x hx1 hx2 hx => d x hx1 hx2 (hx.imp (fun ⟨m, hm, e⟩ => ?_) id), (f Sz.lev).trans (by rw [← hS1]), (f Sz.tr).trans (by rw [← hS1]), (f Sz.st).trans (by rw [← hS1]), (f Sz.cls).trans (by rw [← hS1]), (f Sz.watch).trans (by rw [← hS1]), (f Sz.all).trans (by rw [← hS1]), (f Sz.prf).trans (by rw [← hS1]), (f Sz.nl).trans (by rw [← hS1]), (f Sz.seen).trans (by rw [← hS1]), (f Sz.learned).trans (by rw [← hS1])⟩
    · have e1 : S'.vals = S1.vals := f Sz.vals
      rw [List.mem_singleton.1 hm] at e
      rw [e1, hv, if_pos e.symm]
    · have e1 : S'.vals = S1.vals := f Sz.vals
      rw [e1, hv, if_neg fun e => hm l (by simp) e.symm]
    · have e1 : S'.rea = S1.rea := f Sz.rea
      rw [e1]
      exact hr v fun e => hm l (by simp) e.symm
    · rw [List.mem_singleton.1 hm] at e
      exact e.symm
  rw [hbk]
  by_cases h0 : S.pl.getD l.natAbs 0 < 0
  · rw [if_pos h0]
    have h3 : S1.pl.getD l.natAbs 0 = -1 := by
      rw [hpl1]
      rcases hp.bwd l.natAbs h1 h2 with e | ⟨k, _, e, _⟩
      · exact e
      · omega
    obtain ⟨S', e1, e2, e3, e4⟩ := hp1.pushO hn h1 h2 h3
    refine ⟨S', e1, base (hpushO_wf wf1 e1).1 e2 e3 fun x hx1 hx2 hx => (e4 x hx1 hx2).2 ?_⟩
    rw [hpl1]; exact hx
  · rw [if_neg h0]
    refine ⟨S1, rfl, base wf1 hp1 (SameO.refl _) fun x hx1 hx2 hx => ?_⟩
    rw [hpl1]
    rcases hx with rfl | hx
    · omega
    · exact hx
theorem backL_ok {n : Nat} (hn : 0 < n) : ∀ (ls : List Int) {S : Sz}, WF n S → HpS n S → (∀ l ∈ ls, 1 ≤ l.natAbs ∧ l.natAbs < n) → ∃ S', backL ls S = some S' ∧ BackR n ls S S'
  | [], S, wf, hp, _ => ⟨S, rfl, wf, hp, fun v => ⟨fun ⟨m, hm, _⟩ => (by cases hm), fun _ => rfl⟩, fun v _ => rfl, fun x _ _ hx => hx.resolve_left (fun ⟨m, hm, _⟩ => by cases hm), rfl, rfl, rfl, rfl, rfl, rfl, rfl, rfl, rfl, rfl⟩
  | l :: ls, S, wf, hp, hl => by
    obtain ⟨h1, h2⟩ := hl l (by simp)
    obtain ⟨S1, e1, b1⟩ := backV_ok hn wf hp h1 h2
    obtain ⟨S', e2, b2⟩ := backL_ok hn ls b1.wf b1.hp fun m hm => hl m (List.mem_cons_of_mem _ hm)
    refine ⟨S', by unfold backL; rw [e1, Option.bind_some]; exact e2, b2.wf, b2.hp, fun v => ⟨fun ⟨m, hm, e⟩ => ?_, fun hm => ?_⟩, fun v hm => ?_, fun x hx1 hx2 hx => ?_, b2.lev.trans b1.lev, b2.tr.trans b1.tr, b2.st.trans b1.st, b2.cls.trans b1.cls, b2.watch.trans b1.watch, b2.all.trans b1.all, b2.prf.trans b1.prf, b2.nl.trans b1.nl, b2.seen.trans b1.seen, b2.learned.trans b1.learned⟩
    · by_cases hx : ∃ l ∈ ls, l.natAbs = v
      · exact (b2.vals v).1 hx
      · rw [(b2.vals v).2 fun a ha e => hx ⟨a, ha, e⟩]
        refine (b1.vals v).1 ⟨l, by simp, ?_⟩
        rcases List.mem_cons.1 hm with rfl | hm
        · exact e
        · exact absurd ⟨m, hm, e⟩ hx
    · rw [(b2.vals v).2 fun a ha => hm a (List.mem_cons_of_mem _ ha), (b1.vals v).2 fun a ha => by rw [List.mem_singleton.1 ha]; exact hm l (by simp)]
    · rw [b2.rea v fun a ha => hm a (List.mem_cons_of_mem _ ha), b1.rea v fun a ha => by rw [List.mem_singleton.1 ha]; exact hm l (by simp)]
    · refine b2.in_ x hx1 hx2 ?_
      rcases hx with ⟨m, hm, e⟩ | hx
      · rcases List.mem_cons.1 hm with rfl | hm
        · exact .inr (b1.in_ x hx1 hx2 (.inl ⟨m, by simp, e⟩))
        · exact .inl ⟨m, hm, e⟩
      · exact .inr (b1.in_ x hx1 hx2 (.inr hx))
section
variable {n : Nat} {N : List (List Int)} {U : Int} {S : Sz} {a : Nat} {E : Nat → Int → Prop} {wI : List (List Nat)}
theorem st_mono {vals lev tr st : List Int} (h : Trl n vals lev tr st) {i j : Nat} (hij : i ≤ j) (hj : j < st.length) : st.getD i 0 ≤ st.getD j 0 := by
  rcases Nat.eq_or_lt_of_le hij with e | e
  · rw [e]; exact Int.le_refl _
  · exact Int.le_of_lt (h.srt i j e hj)
/-- what going back leaves -/
structure BackO (n : Nat) (N : List (List Int)) (U : Int) (S : Sz) (level from_ : Nat) (S' : Sz) : Prop where
  mid : Mid n N U S' from_ noE S'.watch
  at_ : S'.at' = (from_ : Int)
  tr : S'.tr = S.tr.take from_
  st : S'.st = S.st.take level
  cls : S'.cls = S.cls
  all : S'.all = S.all
  prf : S'.prf = S.prf
  nl : S'.nl = S.nl
  seen : S'.seen = S.seen
  learned : S'.learned = S.learned
  lt : ∀ k : Nat, k < S'.st.length → S'.st.getD k 0 < (from_ : Int)
theorem back_ok {B : Nat} (h : Mid n N U S B noE S.watch) (hs : ∀ k : Nat, k < S.st.length → S.st.getD k 0 ≤ (B : Int)) (hst : ∀ k : Nat, k < S.st.length → S.st.getD k 0 < S.tr.length) {level : Nat} (hl : level < S.st.length) :
    ∃ (from_ : Nat) (S' : Sz), S.st.getD level 0 = (from_ : Int) ∧ from_ < S.tr.length ∧ backO S level = some S' ∧ BackO n N U S level from_ S' := by
  have hn := h.trl.stn level hl
  obtain ⟨fr, hfr⟩ : ∃ fr : Nat, S.st.getD level 0 = (fr : Int) := ⟨(S.st.getD level 0).toNat, by omega⟩
  have hfl : fr < S.tr.length := by have := hst level hl; omega
  have hfB : fr ≤ B := by have := hs level hl; omega
  have hget : S.st[level]? = some (fr : Int) := by rw [← hfr]; exact list_get 0 hl
  have hdrop : ∀ m ∈ S.tr.drop fr, ∃ i : Nat, fr ≤ i ∧ S.tr[i]? = some m := fun m hm => by
    obtain ⟨i, hi⟩ := List.getElem?_of_mem hm
    rw [List.getElem?_drop] at hi
    exact ⟨fr + i, by omega, hi⟩
  obtain ⟨S1, e1, b⟩ := backL_ok h.n1 (S.tr.drop fr) h.wf h.hp fun m hm => by
    obtain ⟨i, _, hi⟩ := hdrop m hm
    have := h.trl.lit i m hi
    exact ⟨this.1, this.2.1⟩
  -- literals that stay are not among those that go
  have hstay : ∀ (i : Nat) (m : Int), i < fr → S.tr[i]? = some m → ∀ x ∈ S.tr.drop fr, x.natAbs ≠ m.natAbs := fun i m hi hm x hx e => by
    obtain ⟨j, hj, hxj⟩ := hdrop x hx
    have := h.trl.nd i j m x hm hxj e.symm
    omega
  have htk : ∀ (i : Nat) (m : Int), (S.tr.take fr)[i]? = some m → i < fr ∧ S.tr[i]? = some m := fun i m hm => by
    rw [List.getElem?_take] at hm
    split at hm
    · rename_i e; exact ⟨e, hm⟩
    · cases hm
  have hval : ∀ (i : Nat) (m x : Int), i < fr → S.tr[i]? = some m → x.natAbs = m.natAbs → litV S1.vals x = litV S.vals x := fun i m x hi hm hx => by
    unfold litV
    rw [(b.vals x.natAbs).2 fun y hy => by rw [hx]; exact hstay i m hi hm y hy]
  have hfrom : ∀ (i L : Nat), i < fr → LvAt S.st i L → L ≤ level := fun i L hi hA => by
    apply Classical.byContradiction
    intro hc
    have := (hA.2 level hl).2 (by omega)
    omega
  have hLv : ∀ (i L : Nat), i < fr → LvAt S.st i L → LvAt (S.st.take level) i L := fun i L hi hA => by
    have := hfrom i L hi hA
    refine ⟨by rw [List.length_take]; omega, fun k hk => ?_⟩
    rw [List.length_take] at hk
    rw [getD_take, if_pos (by omega)]
    exact hA.2 k (by omega)
  have hstl : (S.st.take level).length = level := by rw [List.length_take]; omega
  have hstg : ∀ k : Nat, k < level → (S.st.take level).getD k 0 = S.st.getD k 0 := fun k hk => by rw [getD_take, if_pos hk]
  have hT : Trl n S1.vals S1.lev (S.tr.take fr) (S.st.take level) := by
    refine ⟨fun i m hm => ?_, fun v hv1 hv2 hv3 => ?_, fun i j x y hx hy e => ?_, fun i m hm => ?_, fun i j hij hj => ?_, fun k hk => ?_⟩
    · obtain ⟨hi, hm⟩ := htk i m hm
      obtain ⟨a1, a2, a3⟩ := h.trl.lit i m hm
      exact ⟨a1, a2, by rw [hval i m m hi hm rfl]; exact a3⟩
    · have hno : ∀ x ∈ S.tr.drop fr, x.natAbs ≠ v := fun x hx e => hv3 ((b.vals v).1 ⟨x, hx, e⟩)
      rw [(b.vals v).2 hno] at hv3
      obtain ⟨i, m, hm, e⟩ := h.trl.all v hv1 hv2 hv3
      have hi : i < fr := by
        apply Classical.byContradiction
        intro hc
        refine hno m ?_ e
        refine List.mem_of_getElem? (i := i - fr) ?_
        rw [List.getElem?_drop, show fr + (i - fr) = i by omega]
        exact hm
      exact ⟨i, m, by rw [List.getElem?_take, if_pos hi]; exact hm, e⟩
    · exact h.trl.nd i j x y (htk i x hx).2 (htk j y hy).2 e
    · obtain ⟨hi, hm⟩ := htk i m hm
      obtain ⟨L, hL, hA⟩ := h.trl.lev i m hm
      exact ⟨L, by rw [b.lev]; exact hL, hLv i L hi hA⟩
    · rw [hstl] at hj
      rw [hstg i (by omega), hstg j hj]
      exact h.trl.srt i j hij (by omega)
    · rw [hstl] at hk
      rw [hstg k hk]
      have a1 := (h.trl.stn k (by omega)).1
      have a2 := h.trl.srt k level hk hl
      rw [List.length_take]
      omega
  have hbo : backO S level = some { S1 with tr := S1.tr.take fr, st := S1.st.take level, at' := (fr : Int) } := by
    unfold backO
    rw [if_neg (by omega), hget, Option.bind_some, if_pos ⟨by omega, by omega⟩, show ((fr : Int)).toNat = fr from Int.toNat_natCast fr, e1]
    rfl
  refine ⟨fr, _, hfr, hfl, hbo, ⟨⟨h.n1, h.n2, ⟨⟨b.wf.ord.big, b.wf.ord.sc, b.wf.ord.pl, b.wf.ord.ov, b.wf.ord.ovl⟩, b.wf.vals, b.wf.lev, b.wf.rea, b.wf.sav, b.wf.seen, b.wf.watch, b.wf.bump, b.wf.scp⟩, b.hp, fun v hv1 hv2 hv3 => ?_, ?_, ?_, ?_, ?_, ?_, ?_, ?_, ?_⟩, rfl, ?_, ?_, b.cls, b.all, b.prf, b.nl, b.seen, b.learned, ?_⟩⟩
  · refine b.in_ v hv1 hv2 ?_
    by_cases hx : ∃ l ∈ S.tr.drop fr, l.natAbs = v
    · exact .inl hx
    · refine .inr (h.free v hv1 hv2 ?_)
      rw [← (b.vals v).2 fun x hx2 e => hx ⟨x, hx2, e⟩]
      exact hv3
  · show Trl n S1.vals S1.lev (S1.tr.take fr) (S1.st.take level)
    rw [b.tr, b.st]; exact hT
  · show Cla n N U S1.cls
    rw [b.cls]; exact h.cla
  · show Wat S1.cls S1.watch
    rw [b.cls, b.watch]; exact h.wat
  · show Rsn N S1.cls S1.rea (S1.tr.take fr) (S1.st.take level)
    rw [b.cls, b.tr, b.st]
    refine ⟨fun i m c hm hc => ?_, fun i m hm hc => ?_⟩
    · obtain ⟨hi, hm⟩ := htk i m hm
      rw [b.rea m.natAbs fun x hx => hstay i m hi hm x hx] at hc
      obtain ⟨z, q1, q2, q3⟩ := h.rsn.by_ i m c hm hc
      refine ⟨z, q1, q2, fun y hy => ?_⟩
      rw [List.take_take, Nat.min_eq_left (by omega)]
      exact q3 y hy
    · obtain ⟨hi, hm⟩ := htk i m hm
      rw [b.rea m.natAbs fun x hx => hstay i m hi hm x hx] at hc
      rcases h.rsn.no i m hm hc with ⟨k, hk, e⟩ | ⟨e, hd⟩
      · have hkl : k < level := by
          apply Classical.byContradiction
          intro hcc
          have := st_mono h.trl (i := level) (j := k) (by omega) hk
          omega
        exact .inl ⟨k, by rw [hstl]; exact hkl, by rw [hstg k hkl]; exact e⟩
      · exact .inr ⟨hLv i 0 hi e, hd⟩
  · show Pro S1.cls S1.vals S1.lev (S1.tr.take fr) fr noE
    rw [b.cls, b.tr, b.lev]
    intro c z k y o hz hk hy ho hm
    rw [List.take_take, Nat.min_self] at hm
    have hmB : -y ∈ S.tr.take B := by
      have e : S.tr.take fr = (S.tr.take B).take fr := by rw [List.take_take, Nat.min_eq_left hfB]
      rw [e] at hm
      exact List.mem_of_mem_take hm
    rcases h.pro c z k y o hz hk hy ho hmB with e | ⟨e1, e2⟩
    · exact e.elim
    · refine .inr ⟨?_, e2⟩
      -- o stands in the trail ahead of where is gone back to
      have hro := (h.cla c z hz).rng o (List.mem_of_getElem? ho)
      obtain ⟨i, hi⟩ := h.trl.true_in hro.1 hro.2 e1
      obtain ⟨j, hj⟩ := List.getElem?_of_mem hm
      obtain ⟨hjf, hj⟩ := htk j _ hj
      obtain ⟨L, hL, hA⟩ := h.trl.lev i o hi
      obtain ⟨L2, hL2, hA2⟩ := h.trl.lev j _ hj
      rw [Int.natAbs_neg] at hL2
      have hle := hfrom j L2 hjf hA2
      have hif : i < fr := by
        apply Classical.byContradiction
        intro hcc
        have := (hA.2 level hl).1 (by omega)
        omega
      rw [hval i o o hif hi rfl]
      exact e1
  · show S1.watch.length = 2 * n
    rw [b.watch]; exact h.wl
  · show fr ≤ (S1.tr.take fr).length
    rw [b.tr, List.length_take]; omega
  · show S1.cls.length ≤ _
    rw [b.cls]; exact h.big
  · show S1.tr.take fr = _
    rw [b.tr]
  · show S1.st.take level = _
    rw [b.st]
  · show ∀ k : Nat, k < (S1.st.take level).length → (S1.st.take level).getD k 0 < (fr : Int)
    rw [b.st]
    intro k hk
    rw [hstl] at hk
    rw [hstg k hk, ← hfr]
    exact h.trl.srt k level hk hl
end
end Go.Proofs.Ytkpppmldbhgcgaa
/- Sat, plain: what a conflict teaches: steps that keep all that holds; literals of no level are derived. -/
set_option autoImplicit false
set_option linter.unusedVariables false
set_option linter.unusedSimpArgs false
namespace Go.Proofs.Ytkpppmldbhgcgaa
open Go
section
variable {n : Nat} {N : List (List Int)} {U : Int} {S : Sz} {a : Nat} {E : Nat → Int → Prop} {wI : List (List Nat)}
theorem Mid.seen_ (h : Mid n N U S a E wI) (i : Nat) (x : Bool) : Mid n N U { S with seen := S.seen.set i x } a E wI :=
  ⟨h.n1, h.n2, seen_wf h.wf i x, h.hp, h.free, h.trl, h.cla, h.wat, h.rsn, h.pro, h.wl, h.ale, h.big⟩
theorem Mid.more (h : Mid n N U S a E wI) {U' : Int} (hU : U ≤ U') : Mid n N U' S a E wI :=
  ⟨h.n1, h.n2, h.wf, h.hp, h.free, h.trl, fun c z hz => by
    have k := h.cla c z hz
    exact ⟨k.gone, k.two, k.rng, k.nd, k.in_, k.use.1, Int.le_trans k.use.2 hU⟩, h.wat, h.rsn, h.pro, h.wl, h.ale, h.big⟩
/-- a clause is used once more -/
theorem Mid.use_ (h : Mid n N U S a E wI) {c : Nat} {z : Cz} (hz : S.cls[c]? = some z) : Mid n N (U + 1) { S with cls := S.cls.set c { z with use := z.use + 1 } } a E wI := by
  have k := h.cla c z hz
  have hget : ∀ (c' : Nat) (z1 : Cz), (S.cls.set c { z with use := z.use + 1 })[c']? = some z1 → ∃ z0, S.cls[c']? = some z0 ∧ z1.lits = z0.lits := fun c' z1 h1 => by
    rw [cls_set hz] at h1
    split at h1
    · rename_i e
      cases h1
      exact ⟨z, by rw [e]; exact hz, rfl⟩
    · exact ⟨z1, h1, rfl⟩
  have hput : ∀ (c' : Nat) (z0 : Cz), S.cls[c']? = some z0 → ∃ z1, (S.cls.set c { z with use := z.use + 1 })[c']? = some z1 ∧ z1.lits = z0.lits := fun c' z0 h0 => by
    rw [cls_set hz]
    split
    · rename_i e
      rw [e, hz] at h0
      cases h0
      exact ⟨_, rfl, rfl⟩
    · exact ⟨z0, h0, rfl⟩
  refine ⟨h.n1, h.n2, use_wf h.wf c _, h.hp, h.free, h.trl, ?_, ⟨h.wat.nd, fun p ws c' hp hm => ?_, fun c' z1 k y h1 hk hy => ?_⟩, ⟨fun i l c' hi hc => ?_, h.rsn.no⟩, fun c' z1 k y o h1 hk hy ho hm => ?_, h.wl, h.ale, ?_⟩
  · exact Cla.set (fun c' z' hz' => by
      have k := h.cla c' z' hz'
      exact ⟨k.gone, k.two, k.rng, k.nd, k.in_, k.use.1, by have := k.use.2; omega⟩) hz ⟨k.gone, k.two, k.rng, k.nd, k.in_, by show 0 ≤ z.use + 1; have := k.use.1; omega, by show z.use + 1 ≤ U + 1; have := k.use.2; omega⟩
  · obtain ⟨z0, h0, k, y, hk, hy, hcd⟩ := h.wat.snd p ws c' hp hm
    obtain ⟨z1, h1, e⟩ := hput c' z0 h0
    exact ⟨z1, h1, k, y, hk, by rw [e]; exact hy, hcd⟩
  · obtain ⟨z0, h0, e⟩ := hget c' z1 h1
    rw [e] at hy
    exact h.wat.cmp c' z0 k y h0 hk hy
  · obtain ⟨z0, h0, q1, q2⟩ := h.rsn.by_ i l c' hi hc
    obtain ⟨z1, h1, e⟩ := hput c' z0 h0
    exact ⟨z1, h1, by rw [e]; exact q1, by rw [e]; exact q2⟩
  · obtain ⟨z0, h0, e⟩ := hget c' z1 h1
    rw [e] at hy ho
    exact h.pro c' z0 k y o h0 hk hy ho hm
  · show (S.cls.set _ _).length ≤ _
    rw [List.length_set]; exact h.big
/-- what learning turns: 'seen', the order and its scores, how often clauses were used -/
structure SameJ (S S' : Sz) : Prop where
  vals : S'.vals = S.vals
  lev : S'.lev = S.lev
  rea : S'.rea = S.rea
  tr : S'.tr = S.tr
  st : S'.st = S.st
  at_ : S'.at' = S.at'
  watch : S'.watch = S.watch
  all : S'.all = S.all
  prf : S'.prf = S.prf
  nl : S'.nl = S.nl
  learned : S'.learned = S.learned
  len : S'.cls.length = S.cls.length
  cls : ∀ (c : Nat) (z : Cz), S.cls[c]? = some z → ∃ z', S'.cls[c]? = some z' ∧ z'.lits = z.lits
theorem SameJ.refl (S : Sz) : SameJ S S := ⟨rfl, rfl, rfl, rfl, rfl, rfl, rfl, rfl, rfl, rfl, rfl, rfl, fun c z hz => ⟨z, hz, rfl⟩⟩
theorem SameJ.trans {a b c : Sz} (h : SameJ a b) (k : SameJ b c) : SameJ a c :=
  ⟨k.vals.trans h.vals, k.lev.trans h.lev, k.rea.trans h.rea, k.tr.trans h.tr, k.st.trans h.st, k.at_.trans h.at_, k.watch.trans h.watch, k.all.trans h.all, k.prf.trans h.prf, k.nl.trans h.nl, k.learned.trans h.learned, k.len.trans h.len, fun i z hz => by
    obtain ⟨z1, h1, e1⟩ := h.cls i z hz
    obtain ⟨z2, h2, e2⟩ := k.cls i z1 h1
    exact ⟨z2, h2, e2.trans e1⟩⟩
theorem sameJ_seen (S : Sz) (l : List Bool) : SameJ S { S with seen := l } := ⟨rfl, rfl, rfl, rfl, rfl, rfl, rfl, rfl, rfl, rfl, rfl, rfl, fun c z hz => ⟨z, hz, rfl⟩⟩
theorem sameJ_use {S : Sz} {c : Nat} {z : Cz} (hz : S.cls[c]? = some z) (u : Int) : SameJ S { S with cls := S.cls.set c { z with use := u } } :=
  ⟨rfl, rfl, rfl, rfl, rfl, rfl, rfl, rfl, rfl, rfl, rfl, List.length_set, fun i z1 h1 => by
    show ∃ z', (S.cls.set c _)[i]? = some z' ∧ _
    rw [cls_set hz]
    split
    · rename_i e
      rw [e, hz] at h1
      cases h1
      exact ⟨_, rfl, rfl⟩
    · exact ⟨z1, h1, rfl⟩⟩
theorem sameO_get {S S' : Sz} (h : SameO S S') : S'.cls = S.cls ∧ S'.seen = S.seen := by
  have e : ∀ {β : Type} (f : Sz → β), f S' = f { S with ov := S'.ov, pl := S'.pl } := fun f => congrArg f h
  exact ⟨e Sz.cls, e Sz.seen⟩
theorem sameJ_o {S S' : Sz} (h : SameO S S') : SameJ S S' := by
  have e : ∀ {β : Type} (f : Sz → β), f S' = f { S with ov := S'.ov, pl := S'.pl } := fun f => congrArg f h
  exact ⟨e Sz.vals, e Sz.lev, e Sz.rea, e Sz.tr, e Sz.st, e Sz.at', e Sz.watch, e Sz.all, e Sz.prf, e Sz.nl, e Sz.learned, e (fun s => s.cls.length), fun c z hz => ⟨z, by rw [show S'.cls = S.cls from e Sz.cls]; exact hz, rfl⟩⟩
/-- a variable was in a conflict -/
theorem Mid.raise_ (h : Mid n N U S a E wI) {v : Nat} (h1 : 1 ≤ v) (h2 : v < n) : ∃ S', raiseO S v = some S' ∧ Mid n N U S' a E wI ∧ SameJ S S' ∧ S'.seen = S.seen := by
  have hsc : S.sc.length = n := h.wf.ord.sc
  have hpl : S.pl.length = n := h.wf.ord.pl
  obtain ⟨s, hs⟩ : ∃ s, S.sc[v]? = some s := ⟨_, List.getElem?_eq_getElem (by omega)⟩
  have hw := raiseS_wf h.wf hs
  obtain ⟨S1, hS1⟩ : ∃ S1, raiseS S v s = S1 := ⟨_, rfl⟩
  have hJ : SameJ S S1 ∧ S1.seen = S.seen ∧ S1.ov = S.ov ∧ S1.pl = S.pl ∧ S1.cls = S.cls := by
    rw [← hS1]
    unfold raiseS
    split <;> exact ⟨⟨rfl, rfl, rfl, rfl, rfl, rfl, rfl, rfl, rfl, rfl, rfl, rfl, fun c z hz => ⟨z, hz, rfl⟩⟩, rfl, rfl, rfl, rfl⟩
  obtain ⟨j, j1, j2, j3, j4⟩ := hJ
  rw [hS1] at hw
  have build : ∀ {T : Sz}, WF n T → HpS n T → SameIn n S T → SameJ S T → T.cls = S.cls → Mid n N U T a E wI := by
    intro T t1 t2 t3 t4 t5
    refine ⟨h.n1, h.n2, t1, t2, fun x hx1 hx2 hx3 => (t3 x hx1 hx2).2 (h.free x hx1 hx2 (by rw [← t4.vals]; exact hx3)), ?_, by rw [t5]; exact h.cla, by rw [t5]; exact h.wat, by rw [t5, t4.rea, t4.tr, t4.st]; exact h.rsn, by rw [t5, t4.vals, t4.lev, t4.tr]; exact h.pro, h.wl, by rw [t4.tr]; exact h.ale, by rw [t5]; exact h.big⟩
    rw [t4.vals, t4.lev, t4.tr, t4.st]; exact h.trl
  have hp1 : HpS n S1 := by show Hp n S1.ov S1.pl; rw [j2, j3]; exact h.hp
  have hin1 : SameIn n S S1 := fun x _ _ => by rw [j3]
  have hro : raiseO S v = if 0 ≤ S.pl.getD v 0 then (if (S.pl.getD v 0).toNat < S.ov.length then some (fixZ S1 (S.pl.getD v 0).toNat) else none) else some S1 := by
    unfold raiseO
    rw [hs, Option.bind_some, list_get 0 (by omega), Option.bind_some, hS1]
  rw [hro]
  by_cases h0 : 0 ≤ S.pl.getD v 0
  · rw [if_pos h0]
    rcases h.hp.bwd v h1 h2 with e | ⟨k, hk, e, _⟩
    · omega
    · have ek : (S.pl.getD v 0).toNat = k := by omega
      rw [ek, if_pos hk]
      have hk1 : k < S1.ov.length := by rw [j2]; exact hk
      have hsm := fix_same S1 k
      have hJ2 := j.trans (sameJ_o hsm)
      have ecls : (fixZ S1 k).cls = S.cls := (sameO_get hsm).1.trans j4
      refine ⟨_, rfl, build (wf_same hw hsm (fix_ok hw.ord hk1)) (hp1.fix hk1) (hin1.trans (fix_in hp1 hk1)) hJ2 ecls, hJ2, (sameO_get hsm).2.trans j1⟩
  · rw [if_neg h0]
    exact ⟨S1, rfl, build hw hp1 hin1 j j4, j, j1⟩
/-- literals of level nought are derived -/
theorem der_zero (h : Mid n N U S a E wI) (H : Int → Prop) : ∀ (i : Nat) (l : Int), S.tr[i]? = some l → LvAt S.st i 0 → D.Der N H l := by
  intro i
  induction i using Nat.strongRecOn with
  | _ i ih =>
    intro l hi hA
    cases hr : S.rea.getD l.natAbs none with
    | some c =>
      obtain ⟨z, hz, h0, hy⟩ := h.rsn.by_ i l c hi hr
      have hok := h.cla c z hz
      obtain ⟨d, hd, hs⟩ := hok.in_
      refine .unit d l hd ((hs l).2 (List.mem_of_getElem? h0)) fun y hyd hne => ?_
      have hyz := (hs y).1 hyd
      obtain ⟨j, hj⟩ := List.getElem?_of_mem hyz
      have hj0 : j ≠ 0 := fun e => by
        subst e
        rw [h0] at hj
        exact hne (Option.some.inj hj).symm
      have hm := hy y (List.mem_of_getElem? (i := j - 1) (by rw [List.getElem?_drop, show 1 + (j - 1) = j by omega]; exact hj))
      obtain ⟨k, hk⟩ := List.getElem?_of_mem hm
      rw [List.getElem?_take] at hk
      split at hk
      · rename_i hki
        refine ih k hki (-y) hk ⟨Nat.zero_le _, fun q hq => ?_⟩
        have := hA.2 q hq
        constructor
        · intro e; exact this.1 (by omega)
        · intro e; omega
      · cases hk
    | none =>
      rcases h.rsn.no i l hi hr with ⟨k, hk, e⟩ | ⟨_, d, hd, hs⟩
      · have := (hA.2 k hk).1 (by omega)
        omega
      · refine .unit d l hd ((hs l).2 rfl) fun y hy hne => absurd ((hs y).1 hy) hne
end
end Go.Proofs.Ytkpppmldbhgcgaa

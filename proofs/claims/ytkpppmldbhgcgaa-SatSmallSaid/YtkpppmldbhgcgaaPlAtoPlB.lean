/- Sat, plain: the order of variables is kept: each place names its variable, each variable its place. -/
import Derived.Test.YtkpppmldbhgcgaaSbX
import Derived.Test.YtkpppmldbhgcgaaScItoScJ
set_option linter.unusedVariables false
set_option linter.unusedSimpArgs false
set_option autoImplicit false
set_option linter.unusedVariables false
set_option linter.unusedSimpArgs false
namespace Go.Proofs.Ytkpppmldbhgcgaa
open Go
/-- places and variables -/
structure Hp (n : Nat) (ov pl : List Int) : Prop where
  len : pl.length = n
  fwd : ∀ k, k < ov.length → ∃ v : Nat, ov.getD k 0 = (v : Int) ∧ 1 ≤ v ∧ v < n ∧ pl.getD v 0 = (k : Int)
  bwd : ∀ v : Nat, 1 ≤ v → v < n → pl.getD v 0 = -1 ∨ ∃ k : Nat, k < ov.length ∧ pl.getD v 0 = (k : Int) ∧ ov.getD k 0 = (v : Int)
theorem getD_set {α : Type} {l : List α} {i k : Nat} {a d : α} (hi : i < l.length) : (l.set i a).getD k d = if k = i then a else l.getD k d := by
  simp only [List.getD_eq_getElem?_getD, List.getElem?_set]
  by_cases e : i = k
  · subst e; simp [hi]
  · have e' : ¬ k = i := fun h => e h.symm
    simp [e, e']
theorem getD_snoc {α : Type} {l : List α} {k : Nat} {a d : α} : (l ++ [a]).getD k d = if k < l.length then l.getD k d else if k = l.length then a else d := by
  simp only [List.getD_eq_getElem?_getD]
  by_cases h : k < l.length
  · rw [List.getElem?_append_left h, if_pos h]
  · rw [if_neg h, List.getElem?_append_right (by omega)]
    by_cases e : k = l.length
    · subst e; simp
    · rw [if_neg e, List.getElem?_eq_none (by simp; omega)]; rfl
theorem getD_take {α : Type} {l : List α} {k m : Nat} {d : α} : (l.take m).getD k d = if k < m then l.getD k d else d := by
  simp only [List.getD_eq_getElem?_getD, List.getElem?_take]
  split <;> rfl
theorem Hp.swap {n : Nat} {ov pl : List Int} (h : Hp n ov pl) {i j : Nat} (hi : i < ov.length) (hj : j < ov.length) : Hp n (swapV ov i j) ((pl.set ((ov.getD j 0).toNat) i).set ((ov.getD i 0).toNat) j) := by
  obtain ⟨u, hu, hu1, hu2, hu3⟩ := h.fwd i hi
  obtain ⟨v, hv, hv1, hv2, hv3⟩ := h.fwd j hj
  have eu : (ov.getD i 0).toNat = u := by omega
  have ev : (ov.getD j 0).toNat = v := by omega
  have hl : (swapV ov i j).length = ov.length := by unfold swapV; simp
  have hp : ∀ k, ((pl.set v (i : Int)).set u (j : Int)).getD k 0 = if k = u then (j : Int) else if k = v then (i : Int) else pl.getD k 0 := fun k => by
    rw [getD_set (by rw [List.length_set, h.len]; exact hu2), getD_set (by rw [h.len]; exact hv2)]
  have ho : ∀ k, (swapV ov i j).getD k 0 = if k = j then (u : Int) else if k = i then (v : Int) else ov.getD k 0 := fun k => by rw [swapV_get hi hj, hu, hv]
  have huv : u = v → i = j := fun e => by subst e; omega
  rw [eu, ev]
  refine ⟨by rw [List.length_set, List.length_set]; exact h.len, fun k hk => ?_, fun x hx1 hx2 => ?_⟩
  · rw [hl] at hk
    rw [ho]
    by_cases e1 : k = j
    · rw [if_pos e1]
      exact ⟨u, rfl, hu1, hu2, by rw [hp, if_pos rfl, e1]⟩
    · rw [if_neg e1]
      by_cases e2 : k = i
      · rw [if_pos e2]
        refine ⟨v, rfl, hv1, hv2, ?_⟩
        rw [hp, if_neg (fun e => by have := huv e.symm; omega), if_pos rfl, e2]
      · rw [if_neg e2]
        obtain ⟨x, hx, hx1, hx2, hx3⟩ := h.fwd k hk
        refine ⟨x, hx, hx1, hx2, ?_⟩
        rw [hp, if_neg (fun e => by subst e; omega), if_neg (fun e => by subst e; omega)]
        exact hx3
  · rw [hp]
    by_cases e1 : x = u
    · rw [if_pos e1]
      exact .inr ⟨j, by rw [hl]; exact hj, rfl, by rw [ho, if_pos rfl, e1]⟩
    · rw [if_neg e1]
      by_cases e2 : x = v
      · rw [if_pos e2]
        refine .inr ⟨i, by rw [hl]; exact hi, rfl, ?_⟩
        rw [ho]
        by_cases e3 : i = j
        · subst e3; omega
        · rw [if_neg e3, if_pos rfl, e2]
      · rw [if_neg e2]
        rcases h.bwd x hx1 hx2 with h1 | ⟨k, hk, h1, h2⟩
        · exact .inl h1
        · refine .inr ⟨k, by rw [hl]; exact hk, h1, ?_⟩
          rw [ho, if_neg (fun e => by subst e; omega), if_neg (fun e => by subst e; omega)]
          exact h2
theorem Hp.push {n : Nat} {ov pl : List Int} (h : Hp n ov pl) {v : Nat} (h1 : 1 ≤ v) (h2 : v < n) (h3 : pl.getD v 0 = -1) : Hp n (ov ++ [(v : Int)]) (pl.set v ov.length) := by
  have hp : ∀ k, (pl.set v (ov.length : Int)).getD k 0 = if k = v then (ov.length : Int) else pl.getD k 0 := fun k => getD_set (by rw [h.len]; exact h2)
  refine ⟨by rw [List.length_set]; exact h.len, fun k hk => ?_, fun x hx1 hx2 => ?_⟩
  · rw [List.length_append, List.length_singleton] at hk
    rw [getD_snoc]
    by_cases e : k < ov.length
    · rw [if_pos e]
      obtain ⟨x, hx, a, b, c⟩ := h.fwd k e
      refine ⟨x, hx, a, b, ?_⟩
      rw [hp, if_neg (fun e => by subst e; omega)]
      exact c
    · rw [if_neg e, if_pos (by omega)]
      refine ⟨v, rfl, h1, h2, ?_⟩
      rw [hp, if_pos rfl]
      omega
  · rw [hp]
    by_cases e : x = v
    · rw [if_pos e]
      exact .inr ⟨ov.length, by simp, rfl, by rw [getD_snoc, if_neg (by omega), if_pos rfl, e]⟩
    · rw [if_neg e]
      rcases h.bwd x hx1 hx2 with a | ⟨k, hk, a, b⟩
      · exact .inl a
      · exact .inr ⟨k, by simp; omega, a, by rw [getD_snoc, if_pos hk]; exact b⟩
theorem Hp.pop {n : Nat} {ov pl : List Int} (h : Hp n ov pl) (h0 : 0 < ov.length) : Hp n (ov.take (ov.length - 1)) (pl.set ((ov.getD (ov.length - 1) 0).toNat) (-1)) := by
  obtain ⟨u, hu, hu1, hu2, hu3⟩ := h.fwd (ov.length - 1) (by omega)
  have eu : (ov.getD (ov.length - 1) 0).toNat = u := by omega
  have hp : ∀ k, (pl.set u (-1)).getD k 0 = if k = u then -1 else pl.getD k 0 := fun k => getD_set (by rw [h.len]; exact hu2)
  have hl : (ov.take (ov.length - 1)).length = ov.length - 1 := by rw [List.length_take]; omega
  rw [eu]
  refine ⟨by rw [List.length_set]; exact h.len, fun k hk => ?_, fun x hx1 hx2 => ?_⟩
  · rw [hl] at hk
    rw [getD_take, if_pos hk]
    obtain ⟨x, hx, a, b, c⟩ := h.fwd k (by omega)
    refine ⟨x, hx, a, b, ?_⟩
    rw [hp, if_neg (fun e => by subst e; omega)]
    exact c
  · rw [hp]
    by_cases e : x = u
    · rw [if_pos e]; exact .inl rfl
    · rw [if_neg e]
      rcases h.bwd x hx1 hx2 with a | ⟨k, hk, a, b⟩
      · exact .inl a
      · have hk2 : k ≠ ov.length - 1 := fun e2 => by
          subst e2
          rw [hu] at b
          omega
        exact .inr ⟨k, by rw [hl]; omega, a, by rw [getD_take, if_pos (by omega)]; exact b⟩
/-- there are fewer in it than there are variables -/
theorem Hp.short {n : Nat} {ov pl : List Int} (h : Hp n ov pl) (hn : 0 < n) : ov.length + 1 ≤ n := by
  -- the map k to its variable is one to one, into 1 .. n - 1
  have key : ∀ m, m ≤ ov.length → ((List.range m).map fun k => (ov.getD k 0).toNat).Nodup := by
    intro m hm
    rw [List.nodup_iff_pairwise_ne, List.pairwise_map]
    refine List.Pairwise.imp_of_mem ?_ (List.pairwise_lt_range)
    intro a b ha hb hab e
    have ha' : a < m := List.mem_range.1 ha
    have hb' : b < m := List.mem_range.1 hb
    obtain ⟨u, h1, _, _, h2⟩ := h.fwd a (by omega)
    obtain ⟨v, h3, _, _, h4⟩ := h.fwd b (by omega)
    have : u = v := by omega
    subst this
    omega
  have hnd := key ov.length (Nat.le_refl _)
  have hsub : ∀ x ∈ (List.range ov.length).map (fun k => (ov.getD k 0).toNat), x ∈ (List.range (n - 1)).map (· + 1) := by
    intro x hx
    obtain ⟨k, hk, rfl⟩ := List.mem_map.1 hx
    obtain ⟨u, h1, h2, h3, _⟩ := h.fwd k (List.mem_range.1 hk)
    refine List.mem_map.2 ⟨u - 1, List.mem_range.2 (by omega), by omega⟩
  have := (List.nodup_iff_pairwise_ne.1 hnd)
  have hle := List.Nodup.length_le_of_subset hnd hsub
  simp at hle
  omega
def HpS (n : Nat) (S : Sz) : Prop := Hp n S.ov S.pl
theorem HpS.swp {n : Nat} {S : Sz} (h : HpS n S) {i j : Nat} (hi : i < S.ov.length) (hj : j < S.ov.length) : HpS n (swapZ S i j) := Hp.swap h hi hj
theorem HpS.up {n : Nat} : ∀ (f : Nat) {S : Sz} (i : Nat), HpS n S → i < S.ov.length → HpS n (upF f S i) ∧ (upF f S i).ov.length = S.ov.length
  | 0, S, i, h, _ => ⟨h, rfl⟩
  | f + 1, S, i, h, hi => by
    unfold upF
    split
    · exact ⟨h, rfl⟩
    · split
      · have hj : (i - 1) / 2 < S.ov.length := by omega
        have := HpS.up f ((i - 1) / 2) (h.swp hj hi) (by rw [swap_len]; exact hj)
        exact ⟨this.1, this.2.trans (swap_len _ _ _)⟩
      · exact ⟨h, rfl⟩
theorem HpS.down {n : Nat} : ∀ (f : Nat) {S : Sz} (i m : Nat), HpS n S → i < S.ov.length → m ≤ S.ov.length → HpS n (downF f S i m).1 ∧ (downF f S i m).1.ov.length = S.ov.length
  | 0, S, i, m, h, _, _ => ⟨h, rfl⟩
  | f + 1, S, i, m, h, hi, hm => by
    unfold downF
    split
    · exact ⟨h, rfl⟩
    · rename_i h0
      split
      · have hk : kid S i m < S.ov.length := Nat.lt_of_lt_of_le (kid_lt h0) hm
        have := HpS.down f (kid S i m) m (h.swp hi hk) (by rw [swap_len]; exact hk) (by rw [swap_len]; exact hm)
        exact ⟨this.1, this.2.trans (swap_len _ _ _)⟩
      · exact ⟨h, rfl⟩
theorem HpS.fix {n : Nat} {S : Sz} {i : Nat} (h : HpS n S) (hi : i < S.ov.length) : HpS n (fixZ S i) := by
  have hd := HpS.down (S.ov.length - i) i S.ov.length h hi (Nat.le_refl _)
  unfold fixZ
  split
  · exact hd.1
  · exact (HpS.up i i hd.1 (by show i < (downF _ S i _).1.ov.length; rw [hd.2]; exact hi)).1
/-- the same variables are in it -/
def SameIn (n : Nat) (S S' : Sz) : Prop := ∀ x, 1 ≤ x → x < n → (0 ≤ S'.pl.getD x 0 ↔ 0 ≤ S.pl.getD x 0)
theorem SameIn.refl (n : Nat) (S : Sz) : SameIn n S S := fun _ _ _ => Iff.rfl
theorem SameIn.trans {n : Nat} {a b c : Sz} (h : SameIn n a b) (k : SameIn n b c) : SameIn n a c := fun x h1 h2 => (k x h1 h2).trans (h x h1 h2)
theorem swap_in {n : Nat} {S : Sz} (h : HpS n S) {i j : Nat} (hi : i < S.ov.length) (hj : j < S.ov.length) : SameIn n S (swapZ S i j) := fun x hx1 hx2 => by
  obtain ⟨u, hu, hu1, hu2, hu3⟩ := h.fwd i hi
  obtain ⟨v, hv, hv1, hv2, hv3⟩ := h.fwd j hj
  have hl : S.pl.length = n := h.len
  have eu : (S.ov.getD i 0).toNat = u := by omega
  have ev : (S.ov.getD j 0).toNat = v := by omega
  show 0 ≤ ((S.pl.set _ _).set _ _).getD x 0 ↔ _
  rw [eu, ev, getD_set (by rw [List.length_set, hl]; exact hu2), getD_set (by rw [hl]; exact hv2)]
  by_cases e1 : x = u
  · rw [if_pos e1, e1]; constructor <;> intro <;> omega
  · rw [if_neg e1]
    by_cases e2 : x = v
    · rw [if_pos e2, e2]; constructor <;> intro <;> omega
    · rw [if_neg e2]
theorem up_in {n : Nat} : ∀ (f : Nat) {S : Sz} (i : Nat), HpS n S → i < S.ov.length → SameIn n S (upF f S i)
  | 0, S, i, h, _ => SameIn.refl _ _
  | f + 1, S, i, h, hi => by
    unfold upF
    split
    · exact SameIn.refl _ _
    · split
      · have hj : (i - 1) / 2 < S.ov.length := by omega
        exact (swap_in h hj hi).trans (up_in f ((i - 1) / 2) (h.swp hj hi) (by rw [swap_len]; exact hj))
      · exact SameIn.refl _ _
theorem down_in {n : Nat} : ∀ (f : Nat) {S : Sz} (i m : Nat), HpS n S → i < S.ov.length → m ≤ S.ov.length → SameIn n S (downF f S i m).1
  | 0, S, i, m, h, _, _ => SameIn.refl _ _
  | f + 1, S, i, m, h, hi, hm => by
    unfold downF
    split
    · exact SameIn.refl _ _
    · rename_i h0
      split
      · have hk : kid S i m < S.ov.length := Nat.lt_of_lt_of_le (kid_lt h0) hm
        exact (swap_in h hi hk).trans (down_in f (kid S i m) m (h.swp hi hk) (by rw [swap_len]; exact hk) (by rw [swap_len]; exact hm))
      · exact SameIn.refl _ _
theorem fix_in {n : Nat} {S : Sz} {i : Nat} (h : HpS n S) (hi : i < S.ov.length) : SameIn n S (fixZ S i) := by
  have hd := HpS.down (S.ov.length - i) i S.ov.length h hi (Nat.le_refl _)
  have hs := down_in (S.ov.length - i) i S.ov.length h hi (Nat.le_refl _)
  unfold fixZ
  split
  · exact hs
  · exact hs.trans (up_in i i hd.1 (by show i < (downF _ S i _).1.ov.length; rw [hd.2]; exact hi))
theorem HpS.pushO {n : Nat} {S : Sz} (h : HpS n S) (hn : 0 < n) {v : Nat} (h1 : 1 ≤ v) (h2 : v < n) (h3 : S.pl.getD v 0 = -1) : ∃ S', hpushO S v = some S' ∧ HpS n S' ∧ SameO S S' ∧ ∀ x, 1 ≤ x → x < n → (0 ≤ S'.pl.getD x 0 ↔ (x = v ∨ 0 ≤ S.pl.getD x 0)) := by
  have hl : S.pl.length = n := h.len
  have hs := h.short hn
  have hP : HpS n (pushZ S v) := Hp.push h h1 h2 h3
  have hov : (pushZ S v).ov.length = S.ov.length + 1 := by show (S.ov ++ [(v : Int)]).length = _; simp
  have hU := HpS.up S.ov.length S.ov.length hP (by omega)
  refine ⟨upZ (pushZ S v) S.ov.length, ?_, hU.1, (push_same S v).trans (up_same _ _), fun x hx1 hx2 => ?_⟩
  · unfold hpushO
    rw [if_pos ⟨by omega, by omega⟩]
  · refine (up_in S.ov.length S.ov.length hP (by omega) x hx1 hx2).trans ?_
    show 0 ≤ (S.pl.set v _).getD x 0 ↔ _
    rw [getD_set (by rw [hl]; exact h2)]
    by_cases e : x = v
    · rw [if_pos e]; constructor
      · intro _; exact .inl e
      · intro _; omega
    · rw [if_neg e]; constructor
      · exact .inr
      · rintro (h | h)
        · exact absurd h e
        · exact h
theorem HpS.popO {n : Nat} {S : Sz} (h : HpS n S) (h0 : 0 < S.ov.length) : ∃ (u : Nat) (S' : Sz), hpopO S = some ((u : Int), S') ∧ HpS n S' ∧ SameO S S' ∧ 1 ≤ u ∧ u < n ∧ 0 ≤ S.pl.getD u 0 ∧ S'.ov.length + 1 = S.ov.length ∧ ∀ x, 1 ≤ x → x < n → (0 ≤ S'.pl.getD x 0 ↔ (x ≠ u ∧ 0 ≤ S.pl.getD x 0)) := by
  have h1 := h.swp (i := 0) (j := S.ov.length - 1) h0 (by omega)
  have i1 := swap_in h (i := 0) (j := S.ov.length - 1) h0 (by omega)
  have hl1 := swap_len S 0 (S.ov.length - 1)
  have h2 := HpS.down (S.ov.length - 1 - 0) 0 (S.ov.length - 1) h1 (by omega) (by omega)
  have i2 := down_in (S.ov.length - 1 - 0) 0 (S.ov.length - 1) h1 (by omega) (by omega)
  obtain ⟨T, hT⟩ : ∃ T, (downZ (swapZ S 0 (S.ov.length - 1)) 0 (S.ov.length - 1)).1 = T := ⟨_, rfl⟩
  have h2' : HpS n T ∧ T.ov.length = S.ov.length := by rw [← hT]; exact ⟨h2.1, h2.2.trans hl1⟩
  have i2' : SameIn n S T := by rw [← hT]; exact i1.trans i2
  have hsm : SameO S T := by rw [← hT]; exact (swap_same S 0 _).trans (down_same _ 0 _)
  have hl : T.pl.length = n := h2'.1.len
  obtain ⟨u, hu, hu1, hu2, hu3⟩ := h2'.1.fwd (T.ov.length - 1) (by omega)
  have eu : (T.ov.getD (T.ov.length - 1) 0).toNat = u := by omega
  refine ⟨u, popZ T, ?_, Hp.pop h2'.1 (by omega), hsm.trans (pop_same T), hu1, hu2, ?_, ?_, fun x hx1 hx2 => ?_⟩
  · unfold hpopO
    rw [if_neg (by omega), hT]
    dsimp only
    rw [hu]
  · exact (i2' u hu1 hu2).1 (by omega)
  · show (T.ov.take _).length + 1 = _
    rw [List.length_take]; omega
  · rw [← i2' x hx1 hx2]
    show 0 ≤ (T.pl.set _ (-1)).getD x 0 ↔ _
    rw [eu, getD_set (by rw [hl]; exact hu2)]
    by_cases e : x = u
    · rw [if_pos e]; constructor
      · intro h; omega
      · intro h; exact absurd e h.1
    · rw [if_neg e]; exact ⟨fun h => ⟨e, h⟩, fun h => h.2⟩
end Go.Proofs.Ytkpppmldbhgcgaa
/- Sat, plain: the trail, the clauses, the watched rows: what holds of them. -/
set_option autoImplicit false
set_option linter.unusedVariables false
set_option linter.unusedSimpArgs false
namespace Go.Proofs.Ytkpppmldbhgcgaa
open Go
/-! ### values -/
theorem litV_set {vs : List Int} {l x : Int} {a : Int} (hl : l.natAbs < vs.length) : litV (vs.set l.natAbs a) x = if x.natAbs = l.natAbs then (if x < 0 then -a else a) else litV vs x := by
  unfold litV
  rw [getD_set hl]
  by_cases e : x.natAbs = l.natAbs
  · rw [if_pos e, if_pos e]
  · rw [if_neg e, if_neg e]
theorem litV_neg {vs : List Int} {x : Int} (hx : x ≠ 0) : litV vs (-x) = -litV vs x := by
  unfold litV
  rw [Int.natAbs_neg]
  by_cases h : x < 0
  · rw [if_pos h, if_neg (by omega)]; omega
  · rw [if_neg h, if_pos (by omega)]
theorem litV_abs {vs : List Int} {x : Int} : litV vs x = 0 ↔ vs.getD x.natAbs 0 = 0 := by
  unfold litV
  split <;> omega
theorem litV_abs' {vs : List Int} {x y : Int} (h : x.natAbs = y.natAbs) : litV vs x = litV vs y ∨ litV vs x = -litV vs y := by
  unfold litV
  rw [h]
  split <;> split <;> omega
theorem litO_val {n : Nat} {S : Sz} (wf : WF n S) {x : Int} (hx : x.natAbs < n) : litO S x = some (litV S.vals x) := by
  unfold litO litV
  rw [list_get 0 (by rw [wf.vals.1]; exact hx)]
  rfl
theorem litV_range {n : Nat} {S : Sz} (wf : WF n S) (x : Int) : litV S.vals x = 1 ∨ litV S.vals x = 0 ∨ litV S.vals x = -1 := by
  have := wf.vals.2 x.natAbs
  unfold litV
  split <;> omega
/-! ### levels -/
/-- the position i of the trail is of level L -/
def LvAt (st : List Int) (i L : Nat) : Prop := L ≤ st.length ∧ ∀ k, k < st.length → (st.getD k 0 ≤ (i : Int) ↔ k < L)
theorem LvAt.uniq {st : List Int} {i L L' : Nat} (h : LvAt st i L) (h' : LvAt st i L') : L = L' := by
  rcases Nat.lt_trichotomy L L' with e | e | e
  · have a := h.2 L (by have := h'.1; omega)
    have b := h'.2 L (by have := h'.1; omega)
    omega
  · exact e
  · have a := h.2 L' (by have := h.1; omega)
    have b := h'.2 L' (by have := h.1; omega)
    omega
theorem LvAt.mono {st : List Int} {i j L L' : Nat} (h : LvAt st i L) (h' : LvAt st j L') (hij : i ≤ j) : L ≤ L' := by
  apply Classical.byContradiction
  intro hc
  have a := h.2 L' (by have := h.1; omega)
  have b := h'.2 L' (by have := h.1; omega)
  omega
/-! ### the trail -/
structure Trl (n : Nat) (vals lev tr st : List Int) : Prop where
  lit : ∀ (i : Nat) (l : Int), tr[i]? = some l → 1 ≤ l.natAbs ∧ l.natAbs < n ∧ litV vals l = 1
  all : ∀ v : Nat, 1 ≤ v → v < n → vals.getD v 0 ≠ 0 → ∃ (i : Nat) (l : Int), tr[i]? = some l ∧ l.natAbs = v
  nd : ∀ (i j : Nat) (l m : Int), tr[i]? = some l → tr[j]? = some m → l.natAbs = m.natAbs → i = j
  lev : ∀ (i : Nat) (l : Int), tr[i]? = some l → ∃ L : Nat, lev.getD l.natAbs 0 = (L : Int) ∧ LvAt st i L
  srt : ∀ i j : Nat, i < j → j < st.length → st.getD i 0 < st.getD j 0
  stn : ∀ k : Nat, k < st.length → 0 ≤ st.getD k 0 ∧ st.getD k 0 ≤ tr.length
theorem Trl.neg {n : Nat} {vals lev tr st : List Int} (h : Trl n vals lev tr st) {i : Nat} {l x : Int} (hi : tr[i]? = some l) (hx : litV vals x = -1) : x ≠ l := by
  intro e
  subst e
  have := (h.lit i x hi).2.2
  omega
/-- a false literal's opposite is in the trail -/
theorem Trl.false_in {n : Nat} {vals lev tr st : List Int} (h : Trl n vals lev tr st) {x : Int} (h1 : 1 ≤ x.natAbs) (h2 : x.natAbs < n) (hx : litV vals x = -1) : ∃ i : Nat, tr[i]? = some (-x) := by
  have hv : vals.getD x.natAbs 0 ≠ 0 := fun e => by
    have := litV_abs.2 e
    omega
  obtain ⟨i, l, hi, hl⟩ := h.all x.natAbs h1 h2 hv
  have := (h.lit i l hi).2.2
  have hne : l ≠ x := fun e => by subst e; omega
  exact ⟨i, by rw [hi]; congr 1; omega⟩
theorem Trl.true_in {n : Nat} {vals lev tr st : List Int} (h : Trl n vals lev tr st) {x : Int} (h1 : 1 ≤ x.natAbs) (h2 : x.natAbs < n) (hx : litV vals x = 1) : ∃ i : Nat, tr[i]? = some x := by
  have := h.false_in (x := -x) (by rw [Int.natAbs_neg]; exact h1) (by rw [Int.natAbs_neg]; exact h2) (by rw [litV_neg (by omega)]; omega)
  rw [Int.neg_neg] at this
  exact this
theorem Trl.in_false {n : Nat} {vals lev tr st : List Int} (h : Trl n vals lev tr st) {i : Nat} {x : Int} (hi : tr[i]? = some (-x)) : litV vals x = -1 := by
  obtain ⟨h1, _, h3⟩ := h.lit i (-x) hi
  rw [litV_neg (by omega)] at h3
  omega
theorem Trl.short {n : Nat} {vals lev tr st : List Int} (h : Trl n vals lev tr st) (hn : 0 < n) : tr.length + 1 ≤ n := by
  have hnd : (tr.map Int.natAbs).Nodup := by
    rw [List.nodup_iff_pairwise_ne, List.pairwise_map, List.pairwise_iff_getElem]
    intro i j hi hj hij e
    have := h.nd i j _ _ (List.getElem?_eq_getElem hi) (List.getElem?_eq_getElem hj) e
    omega
  have hsub : ∀ x ∈ tr.map Int.natAbs, x ∈ (List.range (n - 1)).map (· + 1) := by
    intro x hx
    obtain ⟨l, hl, rfl⟩ := List.mem_map.1 hx
    obtain ⟨i, hi, rfl⟩ := List.getElem_of_mem hl
    have := h.lit i _ (List.getElem?_eq_getElem hi)
    exact List.mem_map.2 ⟨tr[i].natAbs - 1, List.mem_range.2 (by omega), by omega⟩
  have := List.Nodup.length_le_of_subset hnd hsub
  simp at this
  omega
theorem Trl.cover {n : Nat} {vals lev tr st : List Int} (h : Trl n vals lev tr st) : st.length ≤ tr.length + 1 := by
  have key : ∀ k, k < st.length → (k : Int) ≤ st.getD k 0 := by
    intro k
    induction k with
    | zero => intro hk; exact (h.stn 0 hk).1
    | succ k ih =>
      intro hk
      have := ih (by omega)
      have := h.srt k (k + 1) (by omega) hk
      omega
  rcases Nat.eq_zero_or_pos st.length with e | e
  · omega
  · have a := key (st.length - 1) (by omega)
    have b := (h.stn (st.length - 1) (by omega)).2
    omega
/-- a literal is made true -/
theorem Trl.push {n : Nat} {vals lev tr st : List Int} (h : Trl n vals lev tr st) (hv : vals.length = n) (hl : lev.length = n) {l : Int} (h1 : 1 ≤ l.natAbs) (h2 : l.natAbs < n) (h0 : litV vals l = 0) :
    Trl n (vals.set l.natAbs (if l < 0 then -1 else 1)) (lev.set l.natAbs (st.length : Int)) (tr ++ [l]) st := by
  have hfree : ∀ (i : Nat) (m : Int), tr[i]? = some m → m.natAbs ≠ l.natAbs := fun i m hm e => by
    have := (h.lit i m hm).2.2
    rcases litV_abs' (vs := vals) e with e2 | e2 <;> omega
  have hget : ∀ (i : Nat) (m : Int), (tr ++ [l])[i]? = some m → (i < tr.length ∧ tr[i]? = some m) ∨ (i = tr.length ∧ m = l) := fun i m hm => by
    by_cases e : i < tr.length
    · rw [List.getElem?_append_left e] at hm; exact .inl ⟨e, hm⟩
    · rw [List.getElem?_append_right (by omega)] at hm
      have e2 : i - tr.length = 0 := by
        have := (List.getElem?_eq_some_iff.1 hm).1
        simp at this
        omega
      rw [e2] at hm
      exact .inr ⟨by omega, by simpa using hm.symm⟩
  refine ⟨fun i m hm => ?_, fun v hv1 hv2 hv3 => ?_, fun i j a b ha hb hab => ?_, fun i m hm => ?_, h.srt, fun k hk => ?_⟩
  · rcases hget i m hm with ⟨_, hm⟩ | ⟨_, rfl⟩
    · obtain ⟨a, b, c⟩ := h.lit i m hm
      refine ⟨a, b, ?_⟩
      rw [litV_set (by omega), if_neg (hfree i m hm)]
      exact c
    · refine ⟨h1, h2, ?_⟩
      rw [litV_set (by omega), if_pos rfl]
      split <;> rfl
  · by_cases e : v = l.natAbs
    · exact ⟨tr.length, l, by rw [List.getElem?_append_right (Nat.le_refl _), Nat.sub_self]; rfl, e.symm⟩
    · rw [getD_set (by omega), if_neg e] at hv3
      obtain ⟨i, m, hm, hmv⟩ := h.all v hv1 hv2 hv3
      exact ⟨i, m, by rw [List.getElem?_append_left (List.getElem?_eq_some_iff.1 hm).1]; exact hm, hmv⟩
  · rcases hget i a ha with ⟨_, ha2⟩ | ⟨e1, ea⟩
    · rcases hget j b hb with ⟨_, hb2⟩ | ⟨e2, eb⟩
      · exact h.nd i j a b ha2 hb2 hab
      · exact absurd (by rw [hab, eb]) (hfree i a ha2)
    · rcases hget j b hb with ⟨_, hb2⟩ | ⟨e2, eb⟩
      · exact absurd (by rw [← hab, ea]) (hfree j b hb2)
      · omega
  · rcases hget i m hm with ⟨_, hm⟩ | ⟨e, rfl⟩
    · obtain ⟨L, hL, hA⟩ := h.lev i m hm
      refine ⟨L, ?_, hA⟩
      rw [getD_set (by omega), if_neg (hfree i m hm)]
      exact hL
    · refine ⟨st.length, by rw [getD_set (by omega), if_pos rfl], Nat.le_refl _, fun k hk => ?_⟩
      have := (h.stn k hk).2
      subst e
      exact ⟨fun _ => hk, fun _ => this⟩
  · have := h.stn k hk
    rw [List.length_append, List.length_singleton]
    omega
/-- a level is begun -/
theorem Trl.start {n : Nat} {vals lev tr st : List Int} (h : Trl n vals lev tr st) (hs : ∀ k, k < st.length → st.getD k 0 < tr.length) : Trl n vals lev tr (st ++ [(tr.length : Int)]) := by
  refine ⟨h.lit, h.all, h.nd, fun i l hi => ?_, fun i j hij hj => ?_, fun k hk => ?_⟩
  · obtain ⟨L, hL, h1, h2⟩ := h.lev i l hi
    refine ⟨L, hL, by rw [List.length_append]; omega, fun k hk => ?_⟩
    rw [List.length_append, List.length_singleton] at hk
    rw [getD_snoc]
    have := (List.getElem?_eq_some_iff.1 hi).1
    by_cases e : k < st.length
    · rw [if_pos e]; exact h2 k e
    · rw [if_neg e, if_pos (by omega)]
      omega
  · rw [List.length_append, List.length_singleton] at hj
    rw [getD_snoc, getD_snoc]
    by_cases e : j < st.length
    · rw [if_pos (by omega), if_pos e]; exact h.srt i j hij e
    · rw [if_pos (by omega), if_neg e, if_pos (by omega)]
      exact hs i (by omega)
  · rw [List.length_append, List.length_singleton] at hk
    rw [getD_snoc]
    by_cases e : k < st.length
    · rw [if_pos e]; exact h.stn k e
    · rw [if_neg e, if_pos (by omega)]
      omega
end Go.Proofs.Ytkpppmldbhgcgaa

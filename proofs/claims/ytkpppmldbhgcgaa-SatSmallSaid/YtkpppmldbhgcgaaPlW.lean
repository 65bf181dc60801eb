/- Sat, plain: what is kept besides: of clauses of two literals; of few variables. -/
import Derived.Test.YtkpppmldbhgcgaaScVtoPlV
set_option linter.unusedVariables false
set_option linter.unusedSimpArgs false
set_option autoImplicit false
set_option linter.unusedVariables false
set_option linter.unusedSimpArgs false
namespace Go.Proofs.Ytkpppmldbhgcgaa
open Go
section
variable {n : Nat} {N : List (List Int)} {U : Int} {S : Sz} {B : Nat}
/-- what stands at B or behind is of the open level -/
theorem lev_far {st : List Int} {B j L : Nat} (hB : ∀ k : Nat, k < st.length → st.getD k 0 ≤ (B : Int)) (hj : B ≤ j) (h : LvAt st j L) : L = st.length := by
  have h1 := h.1
  apply Classical.byContradiction
  intro hc
  have := (h.2 L (by omega)).1 (by have := hB L (by omega); omega)
  omega
/-- a conflict's first two literals are of what is not propagated yet -/
theorem cfl_far (h : Mid n N U S B noE S.watch) {c : Nat} (hc : Cfl S c) : ∃ z, S.cls[c]? = some z ∧ ∀ (k : Nat) (y : Int), k < 2 → z.lits[k]? = some y → ∃ i : Nat, B ≤ i ∧ S.tr[i]? = some (-y) := by
  obtain ⟨z, hz, hf, _⟩ := hc
  have hok := h.cla c z hz
  refine ⟨z, hz, fun k y hk hy => ?_⟩
  have hr := hok.rng y (List.mem_of_getElem? hy)
  obtain ⟨i, hi⟩ := h.trl.false_in hr.1 hr.2 (hf y (List.mem_of_getElem? hy))
  refine ⟨i, ?_, hi⟩
  apply Classical.byContradiction
  intro hlt
  have h2 := hok.two
  obtain ⟨o, ho⟩ : ∃ o, z.lits[1 - k]? = some o := ⟨_, List.getElem?_eq_getElem (by omega)⟩
  rcases h.pro c z k y o hz hk hy ho (List.mem_of_getElem? (i := i) (by rw [List.getElem?_take, if_pos (by omega)]; exact hi)) with e | ⟨e, _⟩
  · exact e
  · have := hf o (List.mem_of_getElem? ho)
    omega
theorem cfl_two (h : Mid n N U S B noE S.watch) {c : Nat} (hc : Cfl S c) : B + 2 ≤ S.tr.length := by
  obtain ⟨z, hz, hk⟩ := cfl_far h hc
  have hok := h.cla c z hz
  have h2 := hok.two
  have e0 := List.getElem?_eq_getElem (show 0 < z.lits.length by omega)
  have e1 := List.getElem?_eq_getElem (show 1 < z.lits.length by omega)
  obtain ⟨i, i1, i2⟩ := hk 0 _ (by omega) e0
  obtain ⟨j, j1, j2⟩ := hk 1 _ (by omega) e1
  have hne := hok.ne e0 e1 (by omega)
  have hij : i ≠ j := fun e => by
    subst e
    rw [i2] at j2
    have := Option.some.inj j2
    omega
  have a := (List.getElem?_eq_some_iff.1 i2).1
  have b := (List.getElem?_eq_some_iff.1 j2).1
  omega
/-! ### clauses of two literals -/
def twoC (S : Sz) : Prop := ∀ (c : Nat) (z : Cz), S.cls[c]? = some z → z.lits.length = 2
theorem twoC.same {S S' : Sz} (h : twoC S) (hp : SameP S S') (hl : S'.cls.length = S.cls.length) : twoC S' := fun c z hz => by
  have hlt := (List.getElem?_eq_some_iff.1 hz).1
  obtain ⟨z', h1, h2⟩ := hp c _ (List.getElem?_eq_getElem (by omega))
  rw [hz] at h1
  cases h1
  rw [h2.length_eq]
  exact h c _ (List.getElem?_eq_getElem (by omega))
theorem two_at {z : Cz} (h : z.lits.length = 2) {y : Int} (hy : y ∈ z.lits) : ∃ k : Nat, k < 2 ∧ z.lits[k]? = some y := by
  obtain ⟨k, hk⟩ := List.getElem?_of_mem hy
  exact ⟨k, by have := (List.getElem?_eq_some_iff.1 hk).1; omega, hk⟩
theorem cfl_lev (h : Mid n N U S B noE S.watch) (hB : ∀ k : Nat, k < S.st.length → S.st.getD k 0 ≤ (B : Int)) (h2 : twoC S) {c : Nat} (hc : Cfl S c) : ∀ z, S.cls[c]? = some z → ∀ y ∈ z.lits, S.lev.getD y.natAbs 0 = S.st.length := fun z hz y hy => by
  obtain ⟨z', hz', hk⟩ := cfl_far h hc
  rw [hz] at hz'
  cases hz'
  obtain ⟨k, k1, k2⟩ := two_at (h2 c z hz) hy
  obtain ⟨i, i1, i2⟩ := hk k y k1 k2
  obtain ⟨L, hL, hA⟩ := h.trl.lev i _ i2
  rw [Int.natAbs_neg] at hL
  rw [hL, lev_far hB i1 hA]
theorem bin_of (h : Mid n N U S B noE S.watch) (hB : ∀ k : Nat, k < S.st.length → S.st.getD k 0 ≤ (B : Int)) (h2 : twoC S) : BinR S := fun i l c z hi hr hz hl y hy hne => by
  obtain ⟨z', hz', h0, htl⟩ := h.rsn.by_ i l c hi hr
  rw [hz] at hz'
  cases hz'
  obtain ⟨k, k1, k2⟩ := two_at (h2 c z hz) hy
  have hk : k = 1 := by
    rcases Nat.lt_or_ge k 1 with e | e
    · have : k = 0 := by omega
      subst this
      rw [h0] at k2
      cases k2
      exact absurd rfl hne
    · omega
  subst hk
  have hm := htl y (List.mem_of_getElem? (i := 0) (by rw [List.getElem?_drop]; exact k2))
  obtain ⟨j, hj⟩ := List.getElem?_of_mem hm
  rw [List.getElem?_take] at hj
  split at hj
  · obtain ⟨L, hL, hA⟩ := h.trl.lev j _ hj
    rw [Int.natAbs_neg] at hL
    rcases Nat.lt_or_ge j B with e | e
    · rcases h.pro c z 1 y l hz (by omega) k2 h0 (List.mem_of_getElem? (i := j) (by rw [List.getElem?_take, if_pos e]; exact hj)) with q | ⟨_, q⟩
      · exact q.elim
      · have := hA.1
        omega
    · rw [hL, lev_far hB e hA]
  · cases hj
def lowN (S : Sz) : Nat := if S.st.length = 0 then S.tr.length else (S.st.getD 0 0).toNat
def JP (m : Nat) (S : Sz) (lim left : Int) : Prop := twoC S ∧ m ≤ lowN S
theorem keepP (n : Nat) : Keep n n JP := by
  refine ⟨fun {m S S' lim left} hj hst hpre hsp hcl => ⟨hj.1.same hsp hcl, ?_⟩, fun {m S lim left N U B c} hj hM hB hc h0 => ?_, fun {m S S' lim left} hj _ _ h0 h1 hcl => ⟨fun c z hz => hj.1 c z (by rw [← hcl]; exact hz), ?_⟩, fun {m S S' lim left} hj _ htr hst _ _ hcl => ⟨fun c z hz => hj.1 c z (by rw [← hcl]; exact hz), ?_⟩⟩
  · have := hj.2
    unfold lowN at this ⊢
    rw [hst]
    have hl := hpre.length_le
    by_cases e : S.st.length = 0
    · rw [if_pos e] at this ⊢
      omega
    · rw [if_neg e] at this ⊢
      exact this
  · have hf := cfl_two hM hc
    have hsh := hM.trl.short hM.n1
    have hlow := hj.2
    unfold lowN at hlow
    rw [if_neg (by omega)] at hlow
    have hb0 := hB 0 h0
    refine ⟨by omega, fun T one hT => ?_⟩
    cases one with
    | false => exact (hT.two rfl (bin_of hM hB hj.1) (cfl_lev hM hB hj.1 hc)).elim
    | true =>
      obtain ⟨hsp, hcl⟩ := hT.cls rfl
      obtain ⟨G, fr, a, g1, g2, g3, g4, g5⟩ := hT.tr
      have := g5 rfl
      subst this
      refine ⟨hj.1.same hsp hcl, ?_⟩
      unfold lowN
      have hst : T.st.length = 0 := by rw [g4]; simp
      rw [if_pos hst, g3, List.length_append, List.length_take, List.length_singleton]
      omega
  · have := hj.2
    by_cases e : S.st.length = 0
    · rw [h0 e]; exact this
    · obtain ⟨fr, a1, a2, a3, a4⟩ := h1 (by omega)
      unfold lowN at this ⊢
      rw [if_neg e] at this
      rw [if_pos (by rw [a4]; rfl), a3, List.length_take]
      omega
  · have := hj.2
    unfold lowN at this ⊢
    have hl : S'.st.length = S.st.length + 1 := by rw [hst, List.length_append]; rfl
    rw [if_neg (by omega), hst, getD_snoc]
    split at this
    · rw [if_neg (by omega), if_pos (by omega)]
      omega
    · rw [if_pos (by omega)]
      exact this
/-! ### few variables: the trail as a number -/
def numN (st : List Int) : Nat → Nat
  | 0 => 0
  | k + 1 => 2 * numN st k + (if (k : Int) ∈ st then 0 else 1)
theorem numN_both (st : List Int) (k : Nat) : ∀ d : Nat, numN st k * 2 ^ d ≤ numN st (k + d) ∧ numN st (k + d) + 1 ≤ (numN st k + 1) * 2 ^ d
  | 0 => by simp
  | d + 1 => by
    obtain ⟨a, b⟩ := numN_both st k d
    have e : numN st (k + (d + 1)) = 2 * numN st (k + d) + (if ((k + d : Nat) : Int) ∈ st then 0 else 1) := rfl
    have e1 : numN st k * 2 ^ (d + 1) = 2 * (numN st k * 2 ^ d) := by rw [Nat.pow_succ, Nat.mul_comm (2 ^ d) 2, Nat.mul_left_comm]
    have e2 : (numN st k + 1) * 2 ^ (d + 1) = 2 * ((numN st k + 1) * 2 ^ d) := by rw [Nat.pow_succ, Nat.mul_comm (2 ^ d) 2, Nat.mul_left_comm]
    rw [e, e1, e2]
    split <;> omega
theorem numN_congr {st st' : List Int} : ∀ (k : Nat), (∀ i : Nat, i < k → ((i : Int) ∈ st ↔ (i : Int) ∈ st')) → numN st k = numN st' k
  | 0, _ => rfl
  | k + 1, h => by
    unfold numN
    rw [numN_congr k fun i hi => h i (by omega)]
    by_cases e : (k : Int) ∈ st
    · rw [if_pos e, if_pos ((h k (by omega)).1 e)]
    · rw [if_neg e, if_neg fun e2 => e ((h k (by omega)).2 e2)]
def full (st : List Int) (t : Nat) : Nat := numN st (min t 9) * 2 ^ (9 - min t 9)
theorem full_le (st : List Int) (t : Nat) : full st t ≤ 511 := by
  obtain ⟨m, hm⟩ : ∃ m, min t 9 = m := ⟨_, rfl⟩
  unfold full
  rw [hm]
  have h := (numN_both st 0 m).2
  rw [Nat.zero_add] at h
  have h0 : (numN st 0 + 1) * 2 ^ m = 2 ^ m := by show (0 + 1) * _ = _; omega
  rw [h0] at h
  have hk : (numN st m + 1) * 2 ^ (9 - m) ≤ 2 ^ m * 2 ^ (9 - m) := Nat.mul_le_mul_right _ h
  rw [← Nat.pow_add, show m + (9 - m) = 9 by omega, Nat.add_mul, Nat.one_mul] at hk
  have hp : 0 < 2 ^ (9 - m) := Nat.two_pow_pos _
  omega
theorem full_mono (st : List Int) {t t' : Nat} (h : t ≤ t') : full st t ≤ full st t' := by
  obtain ⟨m, hm⟩ : ∃ m, min t 9 = m := ⟨_, rfl⟩
  obtain ⟨m', hm'⟩ : ∃ m, min t' 9 = m := ⟨_, rfl⟩
  unfold full
  rw [hm, hm']
  obtain ⟨d, rfl⟩ : ∃ d, m' = m + d := ⟨m' - m, by omega⟩
  have h1 := (numN_both st m d).1
  rw [show 9 - m = d + (9 - (m + d)) by omega, Nat.pow_add, ← Nat.mul_assoc]
  exact Nat.mul_le_mul_right _ h1
theorem full_cfl {st st' : List Int} {t fr : Nat} (hf : fr ≤ 8) (ht : fr < t) (hin : (fr : Int) ∈ st) (hno : ¬ (fr : Int) ∈ st') (heq : ∀ i : Nat, i < fr → ((i : Int) ∈ st ↔ (i : Int) ∈ st')) : full st t + 1 ≤ full st' (fr + 1) := by
  obtain ⟨m, hm⟩ : ∃ m, min t 9 = m := ⟨_, rfl⟩
  unfold full
  rw [hm, show min (fr + 1) 9 = fr + 1 by omega]
  obtain ⟨d, rfl⟩ : ∃ d, m = fr + 1 + d := ⟨m - (fr + 1), by omega⟩
  have h1 := (numN_both st (fr + 1) d).2
  have e1 : numN st (fr + 1) = 2 * numN st fr := by
    show 2 * numN st fr + (if (fr : Int) ∈ st then 0 else 1) = _
    rw [if_pos hin]
    rfl
  have e2 : numN st' (fr + 1) = 2 * numN st fr + 1 := by
    show 2 * numN st' fr + (if (fr : Int) ∈ st' then 0 else 1) = _
    rw [if_neg hno, numN_congr fr heq]
  rw [e1] at h1
  rw [e2, show 9 - (fr + 1) = d + (9 - (fr + 1 + d)) by omega, Nat.pow_add, ← Nat.mul_assoc]
  have h2 := Nat.mul_le_mul_right (2 ^ (9 - (fr + 1 + d))) h1
  rw [Nat.add_mul, Nat.one_mul] at h2
  have hp : 0 < 2 ^ (9 - (fr + 1 + d)) := Nat.two_pow_pos _
  omega
theorem full_dec (st : List Int) (t : Nat) : full st t ≤ full (st ++ [(t : Int)]) (t + 1) := by
  refine Nat.le_trans (Nat.le_of_eq ?_) (full_mono _ (Nat.le_succ t))
  unfold full
  rw [numN_congr (min t 9) fun i hi => ?_]
  rw [List.mem_append, List.mem_singleton]
  exact ⟨.inl, fun h => h.resolve_right fun e => by omega⟩
theorem full_big {st : List Int} {t : Nat} (h : 256 ≤ full st t) : 0 < t ∧ ¬ (0 : Int) ∈ st := by
  obtain ⟨m, hm⟩ : ∃ m, min t 9 = m := ⟨_, rfl⟩
  unfold full at h
  rw [hm] at h
  have hm0 : 0 < m := by
    rcases Nat.eq_zero_or_pos m with e | e
    · subst e
      have : numN st 0 = 0 := rfl
      omega
    · exact e
  refine ⟨by omega, fun hin => ?_⟩
  obtain ⟨d, rfl⟩ : ∃ d, m = 1 + d := ⟨m - 1, by omega⟩
  have h1 := (numN_both st 1 d).2
  have e1 : numN st 1 = 0 := by
    show 2 * 0 + (if ((0 : Nat) : Int) ∈ st then 0 else 1) = 0
    rw [if_pos (show ((0 : Nat) : Int) ∈ st from hin)]
  rw [e1, Nat.zero_add, Nat.one_mul] at h1
  have h2 := Nat.mul_le_mul_right (2 ^ (9 - (1 + d))) h1
  rw [Nat.add_mul, Nat.one_mul, ← Nat.pow_add, show d + (9 - (1 + d)) = 8 by omega] at h2
  have hp : 0 < 2 ^ (9 - (1 + d)) := Nat.two_pow_pos _
  omega
theorem full_low {t : Nat} (h : 0 < t) : 256 ≤ full [] t := by
  obtain ⟨m, hm⟩ : ∃ m, min t 9 = m := ⟨_, rfl⟩
  unfold full
  rw [hm]
  obtain ⟨d, rfl⟩ : ∃ d, m = 1 + d := ⟨m - 1, by omega⟩
  have h1 := (numN_both [] 1 d).1
  have e1 : numN [] 1 = 1 := by
    show 2 * 0 + (if ((0 : Nat) : Int) ∈ [] then 0 else 1) = 1
    rw [if_neg (by simp)]
  rw [e1, Nat.one_mul] at h1
  have h2 := Nat.mul_le_mul_right (2 ^ (9 - (1 + d))) h1
  rw [← Nat.pow_add, show d + (9 - (1 + d)) = 8 by omega] at h2
  omega
/-- how many conflicts there were before the last restart, by the limit that is -/
def Sched (lim : Int) (base u : Nat) : Prop := (lim = 100 ∧ base ≤ 0) ∨ (lim = 125 ∧ base ≤ 111) ∨ (lim = 156 ∧ base ≤ 247) ∨ (lim = 195 ∧ base ≤ 414) ∨ (lim = 243 ∧ base ≤ 620) ∨ (lim = 303 ∧ base ≤ 874) ∨ (lim = 378 ∧ base ≤ 1188 ∧ u = 1)
def JS (m : Nat) (S : Sz) (lim left : Int) : Prop := ∃ cnt base u : Nat, left = lim - cnt ∧ m = base + cnt ∧ u ≤ 1 ∧ cnt + 256 * u ≤ full S.st S.tr.length ∧ (S.st.length : Int) ≤ left + 11 ∧ Sched lim base u
theorem Sched.few {lim : Int} {base u cnt : Nat} (h : Sched lim base u) (h1 : cnt + 256 * u ≤ 511) : base + cnt + 1 ≤ 2000 := by
  rcases h with h | h | h | h | h | h | h <;> omega
theorem Sched.pos {lim : Int} {base u : Nat} (h : Sched lim base u) : 100 ≤ lim := by
  rcases h with h | h | h | h | h | h | h <;> omega
theorem Sched.next {lim : Int} {base u cnt u' : Nat} (h : Sched lim base u) (h1 : cnt + 256 * u ≤ 511) (h2 : lim ≤ (cnt : Int)) (h3 : (cnt : Int) ≤ lim + 11) (h4 : 256 ≤ cnt → u' = 1) : Sched (lim + lim / 4) (base + cnt) u' := by
  rcases h with ⟨rfl, h⟩ | ⟨rfl, h⟩ | ⟨rfl, h⟩ | ⟨rfl, h⟩ | ⟨rfl, h⟩ | ⟨rfl, h⟩ | ⟨rfl, h⟩
  · exact .inr (.inl ⟨by decide, by omega⟩)
  · exact .inr (.inr (.inl ⟨by decide, by omega⟩))
  · exact .inr (.inr (.inr (.inl ⟨by decide, by omega⟩)))
  · exact .inr (.inr (.inr (.inr (.inl ⟨by decide, by omega⟩))))
  · exact .inr (.inr (.inr (.inr (.inr (.inl ⟨by decide, by omega⟩)))))
  · exact .inr (.inr (.inr (.inr (.inr (.inr ⟨by decide, by omega, h4 (by omega)⟩)))))
  · omega
theorem mem_getD {l : List Int} {x : Int} : x ∈ l ↔ ∃ k : Nat, k < l.length ∧ l.getD k 0 = x := by
  constructor
  · intro h
    obtain ⟨k, hk⟩ := List.getElem?_of_mem h
    exact ⟨k, (List.getElem?_eq_some_iff.1 hk).1, by rw [List.getD_eq_getElem?_getD, hk]; rfl⟩
  · rintro ⟨k, hk, rfl⟩
    rw [List.getD_eq_getElem?_getD, List.getElem?_eq_getElem hk]
    exact List.getElem_mem hk
theorem keepS (n : Nat) (hn : n ≤ 11) : Keep n 2000 JS := by
  refine ⟨?_, ?_, ?_, ?_⟩
  · rintro m S S' lim left ⟨cnt, base, u, h1, h2, h3, h4, h5, h6⟩ hst hpre _ _
    refine ⟨cnt, base, u, h1, h2, h3, Nat.le_trans h4 ?_, by rw [hst]; exact h5, h6⟩
    rw [hst]
    exact full_mono _ hpre.length_le
  · rintro m S lim left N U B c ⟨cnt, base, u, h1, h2, h3, h4, h5, h6⟩ hM hB hc h0
    have hf := cfl_two hM hc
    have hsh := hM.trl.short hM.n1
    have hle := full_le S.st S.tr.length
    refine ⟨by have := h6.few (cnt := cnt) (by omega); omega, fun T one hT => ?_⟩
    obtain ⟨G, fr, a, g1, g2, g3, g4, _⟩ := hT.tr
    have hbG := hB G g1
    have hlen : T.tr.length = fr + 1 := by rw [g3, List.length_append, List.length_take, List.length_singleton]; omega
    have hstl : T.st.length = G := by rw [g4, List.length_take]; omega
    have hmem : ∀ i : Nat, i < fr → ((i : Int) ∈ S.st ↔ (i : Int) ∈ T.st) := fun i hi => by
      rw [mem_getD, mem_getD, g4]
      constructor
      · rintro ⟨k, hk, e⟩
        have hkG : k < G := by
          rcases Nat.lt_trichotomy k G with e2 | e2 | e2
          · exact e2
          · subst e2; omega
          · have := hM.trl.srt G k e2 hk
            omega
        exact ⟨k, by rw [List.length_take]; omega, by rw [getD_take, if_pos hkG]; exact e⟩
      · rintro ⟨k, hk, e⟩
        rw [List.length_take] at hk
        rw [getD_take, if_pos (by omega)] at e
        exact ⟨k, by omega, e⟩
    have hno : ¬ (fr : Int) ∈ T.st := fun hc2 => by
      rw [mem_getD, g4] at hc2
      obtain ⟨k, hk, e⟩ := hc2
      rw [List.length_take] at hk
      rw [getD_take, if_pos (by omega)] at e
      have := hM.trl.srt k G (by omega) g1
      omega
    have hfull := full_cfl (t := S.tr.length) (fr := fr) (by omega) (by omega) (mem_getD.2 ⟨G, g1, g2⟩) hno hmem
    refine ⟨cnt + 1, base, u, by omega, by omega, h3, ?_, by omega, h6⟩
    rw [hlen]
    omega
  · rintro m S S' lim left ⟨cnt, base, u, h1, h2, h3, h4, h5, h6⟩ hle hn2 k0 k1 _
    have hl := full_le S.st S.tr.length
    have hpos := h6.pos
    have hst : S'.st.length = 0 := by
      by_cases e : S.st.length = 0
      · rw [k0 e]; exact e
      · obtain ⟨fr, _, _, _, a4⟩ := k1 (by omega)
        rw [a4]; rfl
    have hst2 : S'.st = [] := List.eq_nil_of_length_eq_zero hst
    rcases Nat.lt_or_ge (full S.st S.tr.length) 256 with e | e
    · exact ⟨0, m, 0, by omega, by omega, by omega, Nat.zero_le _, by omega, by rw [h2]; exact h6.next (by omega) (by omega) (by omega) fun e2 => by omega⟩
    · obtain ⟨f1, f2⟩ := full_big e
      refine ⟨0, m, 1, by omega, by omega, Nat.le_refl _, ?_, by omega, by rw [h2]; exact h6.next (by omega) (by omega) (by omega) fun _ => rfl⟩
      rw [hst2]
      refine full_low ?_
      by_cases e0 : S.st.length = 0
      · rw [k0 e0]; exact f1
      · obtain ⟨fr, a1, a2, a3, a4⟩ := k1 (by omega)
        rw [a3, List.length_take]
        have : fr ≠ 0 := fun e2 => f2 (mem_getD.2 ⟨0, by omega, by rw [a1, e2]; rfl⟩)
        omega
  · rintro m S S' lim left ⟨cnt, base, u, h1, h2, h3, h4, h5, h6⟩ hle ⟨l, htr⟩ hst ht hs _
    refine ⟨cnt, base, u, h1, h2, h3, ?_, by omega, h6⟩
    rw [hst, htr, List.length_append, List.length_singleton]
    exact Nat.le_trans h4 (full_dec _ _)
end
end Go.Proofs.Ytkpppmldbhgcgaa

/- Sat, plain: a conflict: learned, logged, gone back, put. -/
import Derived.Test.YtkpppmldbhgcgaaPlOtoPlQ
set_option linter.unusedVariables false
set_option linter.unusedSimpArgs false
set_option autoImplicit false
set_option linter.unusedVariables false
set_option linter.unusedSimpArgs false
namespace Go.Proofs.Ytkpppmldbhgcgaa
open Go
section
variable {n : Nat} {V : Int} {cs : List (List Int)} {m : Nat} {S : Sz} {A : Nat} {N : List (List Int)} {U : Int}
theorem Aux.mono (h : Aux V cs m S) : Aux V cs (m + 1) S :=
  ⟨h.seen, h.prf, h.nl, h.nl2, h.all, h.allK, h.rea, by have := h.len; omega, by have := h.lrn; omega, h.rep⟩
theorem back_off {B : Nat} (h : Mid n N U S B noE S.watch) {level fr : Nat} {S' : Sz} (b : BackO n N U S level fr S') {i : Nat} {l : Int} (hi : S.tr[i]? = some l) (hge : fr ≤ i) : litV S'.vals l = 0 := by
  apply Classical.byContradiction
  intro hne
  obtain ⟨l1, l2, _⟩ := h.trl.lit i l hi
  obtain ⟨j, l', hj, hjl⟩ := b.mid.trl.all l.natAbs l1 l2 (fun e => hne (litV_abs.2 e))
  rw [b.tr, List.getElem?_take] at hj
  split at hj
  · have := h.trl.nd j i l' l hj hi hjl
    omega
  · cases hj
theorem back_on {level fr : Nat} {S' : Sz} (b : BackO n N U S level fr S') {i : Nat} {l : Int} (hi : S.tr[i]? = some l) (hlt : i < fr) : S'.tr[i]? = some l := by
  rw [b.tr, List.getElem?_take, if_pos hlt]
  exact hi
theorem sameJ_p {S S' : Sz} (h : SameJ S S') : SameP S S' := fun c z hz => by
  obtain ⟨z', a, b⟩ := h.cls c z hz
  exact ⟨z', a, by rw [b]⟩
/-- what a conflict leaves: the trail up to a level's start and one literal more; one: it is a clause of one literal (else the conflict was none of pairs) -/
structure TurnedC (n : Nat) (S : Sz) (c : Nat) (T : Sz) (one : Bool) : Prop where
  tr : ∃ (G fr : Nat) (a : Int), G < S.st.length ∧ S.st.getD G 0 = (fr : Int) ∧ T.tr = S.tr.take fr ++ [a] ∧ T.st = S.st.take G ∧ (one = true → G = 0)
  prf : ∃ L : List Int, T.prf = S.prf ++ [(false, L)] ∧ L.length ≤ n
  cls : one = true → SameP S T ∧ T.cls.length = S.cls.length
  two : one = false → BinR S → (∀ z, S.cls[c]? = some z → ∀ y ∈ z.lits, S.lev.getD y.natAbs 0 = S.st.length) → False
theorem conflict_ok (h : Aux V cs m S) {B : Nat} (hM : Mid n (cs ++ S.prf.map Prod.snd) ((n : Int) * m + 1) S B noE S.watch) (hB : ∀ k : Nat, k < S.st.length → S.st.getD k 0 ≤ (B : Int)) (hT : ∀ k : Nat, k < S.st.length → S.st.getD k 0 < S.tr.length) {c : Nat} (hc : Cfl S c) (hD : 0 < S.st.length) (hV : V + 1 = n) (hU : (n : Int) * m + 1 + n ≤ 1000000000) (hb : cs.length + m < 1000000) :
    ∃ q, learnO S c = some q ∧ ∃ p, logO q.1 q.2.1 false = some p ∧ (sizeP S.prf + n + 1 ≤ 200000 → p.1 = true) ∧ (p.1 = true → ¬ q.2.2 < 0 ∧ roomy p.2.tr.length = true ∧ roomy p.2.st.length = true ∧ ∃ S4 a, backO p.2 q.2.2.toNat = some S4 ∧ q.2.1[0]? = some a ∧
      (q.2.1.length = 1 → ∃ t, letO S4 a none = some t ∧ TurnedC n S c t.2 true ∧ ∃ A', Sk n V cs (m + 1) t.2 A') ∧
      (q.2.1.length ≠ 1 → fresh S4 = true ∧ ∃ S6, putO { S4 with cls := S4.cls ++ [⟨q.2.1, true, false, 1⟩] } S4.cls.length = some S6 ∧ (-1000000000 ≤ S6.learned ∧ S6.learned ≤ 1000000000) ∧ ∃ t, letO { S6 with learned := S6.learned + 1 } a (some S4.cls.length) = some t ∧ TurnedC n S c t.2 false ∧ ∃ A', Sk n V cs (m + 1) t.2 A')) := by
  obtain ⟨S1, L, lv, e1, M1, j1, sn1, lr, lbin⟩ := learn_ok hM hU hc hD h.seen
  have hn2 := hM.n2
  have hmul : (n : Int) * ((m + 1 : Nat) : Int) + 1 = (n : Int) * m + 1 + n := by
    rw [Int.natCast_add, Int.mul_add]
    show _ + (n : Int) * 1 + 1 = _
    rw [Int.mul_one]
    omega
  have hnm : 0 ≤ (n : Int) * m := Int.mul_nonneg (by omega) (by omega)
  have hLn : L.length ≤ n := nd_short lr.nd fun y hy => (lr.fls y hy).2.2
  have hpl := sizeP_len S.prf
  have hnl2 := h.nl2
  have hnl := h.nl
  have hpl1 : S1.prf.length = S.prf.length := by rw [j1.prf]
  have hnl1 : S1.nl = (sizeP S.prf : Int) := by rw [j1.nl, hnl]
  refine ⟨_, e1, ?_⟩
  dsimp only
  unfold logO
  rw [if_pos ⟨by omega, by omega, by unfold roomy; exact decide_eq_true (by omega), by unfold roomy; exact decide_eq_true (by omega)⟩]
  by_cases hfull : 200000 < S1.nl + (L.length + 1)
  · rw [if_pos hfull]
    exact ⟨_, rfl, fun e => by omega, fun e => by cases e⟩
  rw [if_neg hfull]
  refine ⟨_, rfl, fun _ => rfl, fun _ => ?_⟩
  dsimp only
  obtain ⟨S2, hS2⟩ : ∃ S2 : Sz, { S1 with nl := S1.nl + (L.length + 1), prf := S1.prf ++ [(false, L)] } = S2 := ⟨_, rfl⟩
  obtain ⟨N', hN'⟩ : ∃ N', cs ++ (S.prf ++ [(false, L)]).map Prod.snd = N' := ⟨_, rfl⟩
  have hNe : N' = (cs ++ S.prf.map Prod.snd) ++ [L] := by rw [← hN', List.map_append, List.append_assoc]; rfl
  have hLN : L ∈ N' := by rw [hNe]; simp
  have M2 : Mid n N' ((n : Int) * m + 1 + n) S2 B noE S2.watch := by
    rw [← hS2]
    exact (M1.moreN fun d hd => by rw [hNe]; exact List.mem_append_left _ hd).prf_ _ _
  have g_prf : S2.prf = S.prf ++ [(false, L)] := by rw [← hS2, ← j1.prf]
  have g_st : S2.st = S.st := by rw [← hS2, ← j1.st]
  have g_tr : S2.tr = S.tr := by rw [← hS2, ← j1.tr]
  have g_vals : S2.vals = S.vals := by rw [← hS2, ← j1.vals]
  have g_lev : S2.lev = S.lev := by rw [← hS2, ← j1.lev]
  have g_nl : S2.nl = S1.nl + (L.length + 1) := by rw [← hS2]
  have g_cls : S2.cls = S1.cls := by rw [← hS2]
  have g_all : S2.all = S.all := by rw [← hS2, ← j1.all]
  have g_rea : S2.rea = S.rea := by rw [← hS2, ← j1.rea]
  have g_seen : S2.seen = S1.seen := by rw [← hS2]
  have g_lrn : S2.learned = S.learned := by rw [← hS2, ← j1.learned]
  have htr12 : S1.tr.length = S2.tr.length := by rw [← hS2]
  have hst12 : S1.st.length = S2.st.length := by rw [← hS2]
  rw [hS2]
  have hsh := M2.trl.short M2.n1
  have hcov := M2.trl.cover
  obtain ⟨G, hDe⟩ : ∃ G : Nat, lv = (G : Int) := ⟨lv.toNat, by have := lr.lv0; omega⟩
  subst hDe
  have hDl : G < S2.st.length := by rw [g_st]; have := lr.lvD; omega
  refine ⟨by omega, by unfold roomy; exact decide_eq_true (by omega), by unfold roomy; exact decide_eq_true (by omega), ?_⟩
  rw [show ((G : Int)).toNat = G from Int.toNat_natCast G]
  obtain ⟨fr, S4, b1, b2, b3, b⟩ := back_ok M2 (by rw [g_st]; exact hB) (by rw [g_st, g_tr]; exact hT) hDl
  obtain ⟨x, x1, x2, x3⟩ := lr.hd
  have hxL := List.mem_of_getElem? x1
  obtain ⟨x4, x5, x6⟩ := lr.fls _ hxL
  have hxa : (-x).natAbs = x.natAbs := Int.natAbs_neg x
  have hx0 : x ≠ 0 := by omega
  refine ⟨S4, -x, b3, x1, ?_⟩
  -- the literal that is learned has no value any more
  have hoff : litV S4.vals x = 0 := by
    obtain ⟨i, hi⟩ := M2.trl.true_in (x := x) (by omega) (by omega) (by rw [g_vals]; exact x2)
    obtain ⟨K, hK, hA⟩ := M2.trl.lev i x hi
    refine back_off M2 b hi ?_
    rw [g_lev, x3] at hK
    have := (hA.2 G hDl).2 (by rw [g_st] at hDl; omega)
    omega
  have hoff' : litV S4.vals (-x) = 0 := by rw [litV_neg hx0, hoff]; rfl
  -- the others stay false
  have hon : ∀ y ∈ L.drop 1, ∃ i : Nat, S4.tr[i]? = some (-y) ∧ S2.tr[i]? = some (-y) := fun y hy => by
    obtain ⟨y1, y2, y3⟩ := lr.fls y (List.mem_of_mem_drop hy)
    obtain ⟨y4, y5⟩ := lr.tl y hy
    obtain ⟨i, hi⟩ := M2.trl.false_in (x := y) y2 y3 (by rw [g_vals]; exact y1)
    obtain ⟨K, hK, hA⟩ := M2.trl.lev i _ hi
    rw [Int.natAbs_neg, g_lev] at hK
    have := hA.2 G hDl
    refine ⟨i, back_on b hi ?_, hi⟩
    apply Classical.byContradiction
    intro hc
    have := this.1 (by omega)
    omega
  have hfalse : ∀ y ∈ L.drop 1, litV S4.vals y = -1 := fun y hy => by
    obtain ⟨i, hi, _⟩ := hon y hy
    exact b.mid.trl.in_false hi
  have hrea4 : ReaK S4 := backO_rea M2.wf b3 (h.rea.of g_rea (by rw [g_cls, j1.len]; exact Nat.le_refl _))
  have hcl4 : S4.cls.length = S.cls.length := by rw [b.cls, g_cls, j1.len]
  have hst4 : S4.st.length = G := by rw [b.st, List.length_take]; omega
  have A4 : Aux V cs m S4 := by
    refine ⟨by rw [b.seen, g_seen]; exact sn1, ?_, ?_, ?_, by rw [b.all, g_all, hcl4]; exact h.all, by rw [b.all, g_all, hcl4]; exact h.allK, hrea4, by rw [hcl4]; exact h.len, by rw [b.learned, g_lrn]; exact h.lrn, fun d hd => ?_⟩
    · rw [b.prf, g_prf]
      refine h.prf.snoc _ rfl ?_ lr.fol ?_
      · show L.all (D.fair1 V) = true
        rw [List.all_eq_true]
        intro y hy
        obtain ⟨_, y2, y3⟩ := lr.fls y hy
        unfold D.fair1
        simp only [Bool.not_eq_true', Bool.or_eq_false_iff, decide_eq_false_iff_not]
        omega
      · intro e
        have e : L = [] := e
        rw [e] at x1
        cases x1
    · rw [b.nl, b.prf, g_nl, g_prf, sizeP_snoc, hnl1]
      dsimp only
      omega
    · rw [b.prf, g_prf, sizeP_snoc]
      dsimp only
      omega
    · refine ((h.rep d hd).step (S' := S2) (fun i z hz => ?_) (fun y hy => by rw [g_tr, g_st]; exact hy)).step (sameP_cls b.cls) (fun y hy => by rw [b.tr, b.st]; exact hy.back hDl b1)
      rw [g_cls]
      exact sameJ_p j1 i z hz
  have hlt4 : fr ≤ S4.tr.length := b.mid.ale
  refine ⟨fun hone => ?_, fun hone => ?_⟩
  · have hD0 := lr.one hone
    have hst0 : S4.st = [] := List.eq_nil_of_length_eq_zero (by omega)
    have hL : L = [-x] := by
      match L, hone, x1 with
      | [y], _, x1 => simpa using x1
    obtain ⟨a1, a2⟩ := b.mid.let_ (l := -x) (rn := none) (by omega) (by omega) hoff' (.inr ⟨hst0, L, hLN, fun y => by rw [hL]; simp⟩)
    have htr4 : S4.tr = S.tr.take fr := by rw [b.tr, g_tr]
    have hst4' : S4.st = S.st.take G := by rw [b.st, g_st]
    have hb1 : S.st.getD G 0 = (fr : Int) := by rw [← g_st]; exact b1
    have hDS : G < S.st.length := by rw [← g_st]; exact hDl
    refine ⟨_, a1, ⟨⟨G, fr, -x, hDS, hb1, by show S4.tr ++ [-x] = _; rw [htr4], by show S4.st = _; rw [hst4'], fun _ => by omega⟩, ⟨L, by show S4.prf = _; rw [b.prf, g_prf], hLn⟩, fun _ => ⟨fun i z hz => ?_, by show S4.cls.length = _; rw [hcl4]⟩, fun e => (by cases e)⟩, fr, b.at_, ?_, fun k hk => Int.le_of_lt (b.lt k hk), fun k hk => ?_, ?_⟩
    · obtain ⟨z', q1, q2⟩ := sameJ_p j1 i z hz
      exact ⟨z', by show S4.cls[i]? = _; rw [b.cls, g_cls]; exact q1, q2⟩
    · show Mid n (cs ++ S4.prf.map Prod.snd) _ (letS S4 (-x) none) _ _ _
      rw [b.prf, g_prf, hN', hmul]
      exact a2
    · have := b.lt k hk
      show S4.st.getD k 0 < ((S4.tr ++ [-x]).length : Int)
      rw [List.length_append]
      omega
    · exact A4.mono.step rfl rfl rfl rfl rfl (letO_rea a1 hrea4 fun c e => by cases e).1 rfl (SameP.refl S4) (fun y hy => hy.pre (List.prefix_append _ _))
  · have hL2 : 2 ≤ L.length := by
      have : 0 < L.length := List.length_pos_of_mem hxL
      omega
    have hz : CzOK n N' ((n : Int) * m + 1 + n) ⟨L, true, false, 1⟩ := ⟨rfl, hL2, fun y hy => (lr.fls y hy).2, lr.nd, ⟨L, hLN, fun y => Iff.rfl⟩, by dsimp only; omega⟩
    have hlen := h.len
    obtain ⟨S6, p1, p2, p3⟩ := put_ok b.mid hz (by omega) A4.all
    have hlr := A4.lrn
    refine ⟨b.mid.fresh_ (fun v c hc => hrea4 v c (by rw [List.getD_eq_getElem?_getD, hc]; rfl)) A4.allK, S6, p1, by rw [p3.learned]; omega, ?_⟩
    obtain ⟨id, hid⟩ : ∃ id, S4.cls.length = id := ⟨_, rfl⟩
    rw [hid] at p1 p2 ⊢
    obtain ⟨S7, hS7⟩ : ∃ S7 : Sz, { S6 with learned := S6.learned + 1 } = S7 := ⟨_, rfl⟩
    have M7 : Mid n N' ((n : Int) * m + 1 + n) S7 fr (fun c y => noE c y ∨ c = id) S7.watch := by
      rw [← hS7]
      exact p2.lrn_ _
    have k_vals : S7.vals = S4.vals := by rw [← hS7]; exact p3.vals
    have k_lev : S7.lev = S4.lev := by rw [← hS7]; exact p3.lev
    have k_rea : S7.rea = S4.rea := by rw [← hS7]; exact p3.rea
    have k_tr : S7.tr = S4.tr := by rw [← hS7]; exact p3.tr
    have k_st : S7.st = S4.st := by rw [← hS7]; exact p3.st
    have k_at : S7.at' = S4.at' := by rw [← hS7]; exact p3.at_
    have k_prf : S7.prf = S4.prf := by rw [← hS7]; exact p3.prf
    have k_nl : S7.nl = S4.nl := by rw [← hS7]; exact p3.nl
    have k_seen : S7.seen = S4.seen := by rw [← hS7]; exact p3.seen
    have k_lrn : S7.learned = S4.learned + 1 := by rw [← hS7, ← p3.learned]
    have k_cls : S7.cls = S4.cls ++ [⟨L, true, false, 1⟩] := by rw [← hS7]; exact p3.cls
    have k_all : S7.all = S4.all ++ [id] := by rw [← hS7, ← hid]; exact p3.all
    rw [hS7]
    have hget : S7.cls[id]? = some ⟨L, true, false, 1⟩ := by rw [k_cls, snoc_get, if_pos hid.symm]
    obtain ⟨a1, a2⟩ := M7.let_ (l := -x) (rn := some id) (by omega) (by omega) (by rw [k_vals]; exact hoff') ⟨_, hget, x1, fun y hy => by rw [k_vals]; exact hfalse y hy⟩
    have hlv7 : S7.lev.length = n := M7.wf.lev
    have hvl7 : S7.vals.length = n := M7.wf.vals.1
    have htk : S4.tr.length = fr := by rw [b.tr, List.length_take]; omega
    have a3 : Mid n N' ((n : Int) * m + 1 + n) (letS S7 (-x) (some id)) fr noE (letS S7 (-x) (some id)).watch := by
      refine a2.exc (fun c z k y o hz' hk hy ho hm => ?_) rfl
      rcases a2.pro c z k y o hz' hk hy ho hm with (e | e) | e
      · exact e.elim
      · right
        subst e
        have hz' : S7.cls[c]? = some z := hz'
        rw [hget] at hz'
        cases hz'
        have hm : -y ∈ (S7.tr ++ [-x]).take fr := hm
        rw [k_tr, List.take_append_of_le_length (by omega), List.take_of_length_le (by omega)] at hm
        match k, hk, hy, ho with
        | 0, _, hy, ho =>
          have hy : L[0]? = some y := hy
          rw [x1] at hy
          cases hy
          rw [Int.neg_neg] at hm
          obtain ⟨i, hi⟩ := List.getElem?_of_mem hm
          have := (b.mid.trl.lit i x hi).2.2
          omega
        | 1, _, hy, ho =>
          have hy : L[1]? = some y := hy
          have ho : L[0]? = some o := ho
          rw [x1] at ho
          cases ho
          have hyd : y ∈ L.drop 1 := List.mem_of_getElem? (i := 0) (by rw [List.getElem?_drop]; exact hy)
          obtain ⟨i, hi4, hi2⟩ := hon y hyd
          have hyf := hfalse y hyd
          have hne : y.natAbs ≠ (-x).natAbs := fun e => by
            rcases litV_abs' (vs := S4.vals) e with e2 | e2 <;> omega
          refine ⟨?_, ?_⟩
          · show litV (S7.vals.set (-x).natAbs (if -x < 0 then -1 else 1)) (-x) = 1
            rw [litV_set (by omega), if_pos rfl]
            split <;> rfl
          · show (S7.lev.set (-x).natAbs (S7.st.length : Int)).getD (-x).natAbs 0 ≤ (S7.lev.set (-x).natAbs (S7.st.length : Int)).getD y.natAbs 0
            rw [getD_set (by omega), if_pos rfl, getD_set (by omega), if_neg hne, k_st, hst4, k_lev]
            obtain ⟨K, hK, hA⟩ := b.mid.trl.lev i (-y) hi4
            rw [Int.natAbs_neg] at hK
            rw [hK]
            obtain ⟨y', hy', hlv⟩ := lr.two hL2
            rw [hy] at hy'
            cases hy'
            obtain ⟨K2, hK2, hA2⟩ := M2.trl.lev i (-y) hi2
            rw [Int.natAbs_neg, g_lev, hlv] at hK2
            have hKD : K2 = G := by omega
            subst hKD
            have : LvAt S4.st i K2 := ⟨by omega, fun k hk => by
              rw [b.st, getD_take, if_pos (by omega)]
              exact hA2.2 k (by omega)⟩
            have := this.uniq hA
            omega
      · exact .inr e
    refine ⟨_, a1, ⟨⟨G, fr, -x, by rw [← g_st]; exact hDl, by rw [← g_st]; exact b1, by show S7.tr ++ [-x] = _; rw [k_tr, b.tr, g_tr], by show S7.st = _; rw [k_st, b.st, g_st], fun e => (by cases e)⟩, ⟨L, by show S7.prf = _; rw [k_prf, b.prf, g_prf], hLn⟩, fun e => (by cases e), fun _ k1 k2 => hone (lbin k1 k2)⟩, fr, ?_, ?_, fun k hk => ?_, fun k hk => ?_, ?_⟩
    · show S7.at' = _
      rw [k_at]; exact b.at_
    · show Mid n (cs ++ S7.prf.map Prod.snd) _ (letS S7 (-x) (some id)) _ _ _
      rw [k_prf, b.prf, g_prf, hN', hmul]
      exact a3
    · have hk : k < S7.st.length := hk
      show S7.st.getD k 0 ≤ _
      rw [k_st] at hk ⊢
      exact Int.le_of_lt (b.lt k hk)
    · have hk : k < S7.st.length := hk
      show S7.st.getD k 0 < ((S7.tr ++ [-x]).length : Int)
      rw [k_st] at hk
      rw [k_st, k_tr, List.length_append]
      have := b.lt k hk
      omega
    · have h7 : S7.cls.length = S4.cls.length + 1 := by rw [k_cls, List.length_append]; rfl
      have A7 : Aux V cs (m + 1) S7 := by
        refine ⟨by rw [k_seen]; exact A4.seen, by rw [k_prf]; exact A4.prf, by rw [k_nl, k_prf]; exact A4.nl, by rw [k_prf]; exact A4.nl2, ?_, fun i hi => ?_, A4.rea.of k_rea (by omega), by have := A4.len; omega, by rw [k_lrn]; omega, fun d hd => (A4.rep d hd).step (fun i z hz => ⟨z, ?_, List.Perm.refl _⟩) (fun y hy => by rw [k_tr, k_st]; exact hy)⟩
        · rw [k_all, List.length_append, h7]
          have := A4.all
          show _ + 1 ≤ _
          omega
        · rw [k_all] at hi
          rcases List.mem_append.1 hi with hi | hi
          · have := A4.allK i hi
            omega
          · have := List.mem_singleton.1 hi
            omega
        · rw [k_cls, snoc_get, if_neg]
          · exact hz
          · have := (List.getElem?_eq_some_iff.1 hz).1
            omega
      exact A7.step rfl rfl rfl rfl rfl (letO_rea a1 A7.rea fun c e => by cases e; omega).1 rfl (SameP.refl S7) (fun y hy => hy.pre (List.prefix_append _ _))
end
end Go.Proofs.Ytkpppmldbhgcgaa
/- Sat, plain: the search ends, and it answers right. -/
set_option autoImplicit false
set_option linter.unusedVariables false
set_option linter.unusedSimpArgs false
namespace Go.Proofs.Ytkpppmldbhgcgaa
open Go
/-- what the search may tell -/
def OutS (V : Int) (cs : List (List Int)) (r : Int × Sz) : Prop :=
  r.1 = 3 ∨ (r.1 = 1 ∧ ∀ c ∈ cs, ∃ x ∈ c, litV r.2.vals x = 1) ∨ (r.1 = 2 ∧ Lns V cs r.2.prf ∧ D.Fol (cs ++ r.2.prf.map Prod.snd) [] ∧ r.2.nl = (sizeP r.2.prf : Int) ∧ sizeP r.2.prf ≤ 200000)
section
variable {n : Nat} {V : Int} {cs : List (List Int)} {m : Nat} {S : Sz} {A : Nat} {N : List (List Int)} {U : Int}
theorem fol_nil {B : Nat} {wI : List (List Nat)} {E : Nat → Int → Prop} (h : Mid n N U S B E wI) {c : Nat} (hc : Cfl S c) (h0 : S.st.length = 0) : D.Fol N [] := by
  obtain ⟨z, hz, hf, _⟩ := hc
  have hok := h.cla c z hz
  obtain ⟨d, hd, hs⟩ := hok.in_
  refine .inr ⟨d, hd, fun y hy => ?_⟩
  have hyz := (hs y).1 hy
  have hr := hok.rng y hyz
  obtain ⟨i, hi⟩ := h.trl.false_in hr.1 hr.2 (hf y hyz)
  exact der_zero h _ i (-y) hi ⟨Nat.zero_le _, fun k hk => by omega⟩
theorem all_true (h : Sk n V cs m S S.tr.length) (hall : ∀ v : Nat, 1 ≤ v → v < n → S.vals.getD v 0 ≠ 0) (hcs : ∀ c ∈ cs, ∀ x ∈ c, 1 ≤ x.natAbs ∧ x.natAbs < n) : ∀ c ∈ cs, ∃ x ∈ c, litV S.vals x = 1 := fun c hc => by
  have two : ∀ x : Int, 1 ≤ x.natAbs → x.natAbs < n → litV S.vals x = 1 ∨ litV S.vals x = -1 := fun x h1 h2 => by
    rcases litV_range h.mid.wf x with e | e | e
    · exact .inl e
    · exact absurd (litV_abs.1 e) (hall x.natAbs h1 h2)
    · exact .inr e
  rcases h.aux.rep c hc with ⟨x, hx, hx2⟩ | ⟨i, z, hz, hs⟩ | ⟨x, hx, i, hi, _⟩
  · have hr := hcs c hc x hx
    rcases two x hr.1 hr.2 with e | e
    · exact ⟨x, hx, e⟩
    · exact ⟨-x, hx2, by rw [litV_neg (by omega), e]; rfl⟩
  · apply Classical.byContradiction
    intro hno
    have hok := h.mid.cla i z hz
    have hf : ∀ y ∈ z.lits, litV S.vals y = -1 := fun y hy => by
      have hr := hok.rng y hy
      rcases two y hr.1 hr.2 with e | e
      · exact absurd ⟨y, (hs y).1 hy, e⟩ hno
      · exact e
    have h2 := hok.two
    have e0 := List.getElem?_eq_getElem (show 0 < z.lits.length by omega)
    have e1 := List.getElem?_eq_getElem (show 1 < z.lits.length by omega)
    have m0 := hf _ (List.mem_of_getElem? e0)
    have m1 := hf _ (List.mem_of_getElem? e1)
    have hr := hok.rng _ (List.mem_of_getElem? e0)
    obtain ⟨j, hj⟩ := h.mid.trl.false_in hr.1 hr.2 m0
    rcases h.mid.pro i z 0 _ _ hz (by omega) e0 e1 (by rw [List.take_length]; exact List.mem_of_getElem? hj) with e | ⟨e, _⟩
    · exact e
    · omega
  · exact ⟨x, hx, (h.mid.trl.lit i x hi).2.2⟩
theorem seek_ok (hV : V + 1 = n) {b : Nat} (hb : b ≤ 2000) (hcl : cs.length + b < 1000000) (hcs : ∀ c ∈ cs, ∀ x ∈ c, 1 ≤ x.natAbs ∧ x.natAbs < n) : ∀ (f : Nat) {m : Nat} {S : Sz} {A : Nat} {conf limit left : Int}, Sk n V cs m S A → conf = (m : Int) → m ≤ b → 1 ≤ limit → left ≤ limit → limit ≤ 100 + m - (limit - left) →
    (b - m) * (2 * n + 4) + (if left ≤ 0 then n + 2 else 0) + (n - S.tr.length) < f → ∃ r, seekF f S b conf limit left = some r ∧ OutS V cs r
  | 0, m, S, A, conf, limit, left, _, _, _, _, _, _, hf => by omega
  | f + 1, m, S, A, conf, limit, left, h, hconf, hm, hl1, hl2, hl3, hf => by
    have hn2 := h.mid.n2
    have hn1 := h.mid.n1
    subst hconf
    unfold seekF
    rw [if_pos ⟨by omega, by omega, by omega, by omega, by omega, by omega⟩]
    obtain ⟨r, e1, hA, hprf, hst, hpl, hT, hnone, hsome, _, _, _⟩ := h.spread
    rw [e1, Option.bind_some]
    have hlens : r.2.tr.length < n ∧ r.2.st.length ≤ n := by
      cases hr : r.1 with
      | none =>
        have k := (hnone hr).mid
        have := k.trl.short k.n1
        have := k.trl.cover
        omega
      | some c =>
        obtain ⟨_, B, _, k⟩ := hsome c hr
        have := k.trl.short k.n1
        have := k.trl.cover
        omega
    rw [if_pos ⟨by unfold roomy; exact decide_eq_true (by omega), by unfold roomy; exact decide_eq_true (by omega)⟩]
    cases hr : r.1 with
    | some c =>
      dsimp only
      obtain ⟨c1, B, c2, c3⟩ := hsome c hr
      by_cases h0 : r.2.st.length = 0
      · rw [if_pos h0]
        exact ⟨_, rfl, .inr (.inr ⟨rfl, hA.prf, fol_nil c3 c1 h0, hA.nl, hA.nl2⟩)⟩
      rw [if_neg h0]
      by_cases hbud : (b : Int) < (m : Int) + 1
      · rw [if_pos hbud]
        exact ⟨_, rfl, .inl rfl⟩
      rw [if_neg hbud]
      have ht0 : ¬ r.2.tr.length = 0 := by
        have := hT 0 (by omega)
        have := (c3.trl.stn 0 (by omega)).1
        omega
      rw [if_neg ht0]
      have hmul : n * m ≤ 100000 * 2000 := Nat.mul_le_mul hn2 (by omega)
      have hmulI : ((n * m : Nat) : Int) = (n : Int) * m := Int.natCast_mul n m
      obtain ⟨q, q1, p, q2, _, q3⟩ := conflict_ok hA c3 c2 hT c1 (by omega) hV (by omega) (by omega)
      rw [q1, Option.bind_some, q2, Option.bind_some]
      by_cases hp : p.1 = true
      · rw [if_pos hp]
        obtain ⟨s1, s2, s3, S4, a, s4, s5, s6, s7⟩ := q3 hp
        rw [if_neg s1, if_pos ⟨s2, s3⟩, s4, Option.bind_some, s5, Option.bind_some]
        have hsub : (b - m) * (2 * n + 4) = (b - (m + 1)) * (2 * n + 4) + (2 * n + 4) := by
          rw [show b - m = (b - (m + 1)) + 1 by omega, Nat.add_mul, Nat.one_mul]
        have go : ∀ (T : Sz) (A' : Nat), Sk n V cs (m + 1) T A' → ∃ r, seekF f T b ((m : Int) + 1) limit (left - 1) = some r ∧ OutS V cs r := fun T A' hS => by
          refine seek_ok hV hb hcl hcs f hS (by omega) (by omega) hl1 (by omega) (by omega) ?_
          split <;> split at hf <;> omega
        by_cases h1 : q.2.1.length = 1
        · rw [if_pos h1]
          obtain ⟨t, t1, _, A', t2⟩ := s6 h1
          rw [t1, Option.bind_some]
          exact go _ _ t2
        · rw [if_neg h1]
          obtain ⟨u1, S6, u2, u3, t, t1, _, A', t2⟩ := s7 h1
          rw [if_pos u1, u2, Option.bind_some, if_pos u3, t1, Option.bind_some]
          exact go _ _ t2
      · rw [if_neg hp]
        exact ⟨_, rfl, .inl rfl⟩
    | none =>
      dsimp only
      have hS := hnone hr
      by_cases hle : left ≤ 0
      · rw [if_pos hle]
        obtain ⟨S4, a1, ⟨A', a2⟩, _⟩ := hS.restart
        rw [a1, Option.bind_some]
        have := a2.aux.lrn
        rw [if_pos (by omega)]
        rw [if_pos hle] at hf
        refine seek_ok hV hb hcl hcs f a2 rfl hm (by omega) (Int.le_refl _) (by omega) ?_
        rw [if_neg (by omega)]
        omega
      · rw [if_neg hle]
        obtain ⟨q, a1, a2⟩ := hS.decide_
        rw [a1, Option.bind_some]
        rcases a2 with ⟨b1, b2, b3⟩ | ⟨b1, sv, S', b2, b3, b4, b5, _⟩
        · rw [if_pos b1]
          refine ⟨_, rfl, .inr (.inl ⟨rfl, ?_⟩)⟩
          dsimp only
          rw [b2]
          exact all_true hS b3 hcs
        · rw [if_neg b1, b2, Option.bind_some, b3, Option.bind_some]
          rw [if_neg hle] at hf
          refine seek_ok hV hb hcl hcs f b4 rfl hm hl1 hl2 hl3 ?_
          rw [if_neg hle]
          dsimp only
          omega
end
end Go.Proofs.Ytkpppmldbhgcgaa

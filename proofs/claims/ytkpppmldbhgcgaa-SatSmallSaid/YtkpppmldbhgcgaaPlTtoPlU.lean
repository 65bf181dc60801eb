/- Sat, plain: the solver is made of a formula. -/
import Derived.Test.YtkpppmldbhgcgaaPlRtoPlS
import Derived.Test.YtkpppmldbhgcgaaScEtoScP
set_option linter.unusedVariables false
set_option linter.unusedSimpArgs false
set_option autoImplicit false
set_option linter.unusedVariables false
set_option linter.unusedSimpArgs false
namespace Go.Proofs.Ytkpppmldbhgcgaa
open Go
/-! ### the order, while it is filled: the first k are in -/
structure HpK (n k : Nat) (ov pl : List Int) : Prop where
  len : pl.length = n
  kn : k < n
  fwd : ∀ j, j < ov.length → ∃ v : Nat, ov.getD j 0 = (v : Int) ∧ 1 ≤ v ∧ v ≤ k ∧ pl.getD v 0 = (j : Int)
  bwd : ∀ v : Nat, 1 ≤ v → v ≤ k → ∃ j : Nat, j < ov.length ∧ pl.getD v 0 = (j : Int) ∧ ov.getD j 0 = (v : Int)
theorem HpK.swap {n q : Nat} {ov pl : List Int} (h : HpK n q ov pl) {i j : Nat} (hi : i < ov.length) (hj : j < ov.length) : HpK n q (swapV ov i j) ((pl.set ((ov.getD j 0).toNat) i).set ((ov.getD i 0).toNat) j) := by
  obtain ⟨u, hu, hu1, hu2, hu3⟩ := h.fwd i hi
  obtain ⟨v, hv, hv1, hv2, hv3⟩ := h.fwd j hj
  have eu : (ov.getD i 0).toNat = u := by omega
  have ev : (ov.getD j 0).toNat = v := by omega
  have hkn := h.kn
  have hl : (swapV ov i j).length = ov.length := by unfold swapV; simp
  have hp : ∀ k, ((pl.set v (i : Int)).set u (j : Int)).getD k 0 = if k = u then (j : Int) else if k = v then (i : Int) else pl.getD k 0 := fun k => by
    rw [getD_set (by rw [List.length_set, h.len]; omega), getD_set (by rw [h.len]; omega)]
  have ho : ∀ k, (swapV ov i j).getD k 0 = if k = j then (u : Int) else if k = i then (v : Int) else ov.getD k 0 := fun k => by rw [swapV_get hi hj, hu, hv]
  have huv : u = v → i = j := fun e => by subst e; omega
  rw [eu, ev]
  refine ⟨by rw [List.length_set, List.length_set]; exact h.len, hkn, fun k hk => ?_, fun x hx1 hx2 => ?_⟩
  · rw [hl] at hk
    rw [ho]
    by_cases e1 : k = j
    · rw [if_pos e1]
      exact ⟨u, rfl, hu1, hu2, by rw [hp, if_pos rfl, e1]⟩
    · rw [if_neg e1]
      by_cases e2 : k = i
      · rw [if_pos e2]
        refine ⟨v, rfl, hv1, hv2, ?_⟩
        rw [hp, if_neg (fun e => by have := huv e.symm; omega), if_pos rfl, e2]
      · rw [if_neg e2]
        obtain ⟨x, hx, hx1, hx2, hx3⟩ := h.fwd k hk
        refine ⟨x, hx, hx1, hx2, ?_⟩
        rw [hp, if_neg (fun e => by subst e; omega), if_neg (fun e => by subst e; omega)]
        exact hx3
  · rw [hp]
    by_cases e1 : x = u
    · rw [if_pos e1]
      exact ⟨j, by rw [hl]; exact hj, rfl, by rw [ho, if_pos rfl, e1]⟩
    · rw [if_neg e1]
      by_cases e2 : x = v
      · rw [if_pos e2]
        refine ⟨i, by rw [hl]; exact hi, rfl, ?_⟩
        rw [ho]
        by_cases e3 : i = j
        · subst e3; omega
        · rw [if_neg e3, if_pos rfl, e2]
      · rw [if_neg e2]
        obtain ⟨k, hk, h1, h2⟩ := h.bwd x hx1 hx2
        refine ⟨k, by rw [hl]; exact hk, h1, ?_⟩
        rw [ho, if_neg (fun e => by subst e; omega), if_neg (fun e => by subst e; omega)]
        exact h2
theorem HpK.push {n q : Nat} {ov pl : List Int} (h : HpK n q ov pl) (h2 : q + 1 < n) : HpK n (q + 1) (ov ++ [((q + 1 : Nat) : Int)]) ((pl.set (q + 1) (-1)).set (q + 1) ov.length) := by
  have hp : ∀ k, ((pl.set (q + 1) (-1)).set (q + 1) (ov.length : Int)).getD k 0 = if k = q + 1 then (ov.length : Int) else pl.getD k 0 := fun k => by
    rw [getD_set (by rw [List.length_set, h.len]; exact h2), getD_set (by rw [h.len]; exact h2)]
    split
    · rfl
    · rfl
  refine ⟨by rw [List.length_set, List.length_set]; exact h.len, h2, fun k hk => ?_, fun x hx1 hx2 => ?_⟩
  · rw [List.length_append, List.length_singleton] at hk
    rw [getD_snoc]
    by_cases e : k < ov.length
    · rw [if_pos e]
      obtain ⟨x, hx, a, b, c⟩ := h.fwd k e
      refine ⟨x, hx, a, by omega, ?_⟩
      rw [hp, if_neg (by omega)]
      exact c
    · rw [if_neg e, if_pos (by omega)]
      refine ⟨q + 1, rfl, by omega, Nat.le_refl _, ?_⟩
      rw [hp, if_pos rfl]
      omega
  · rw [hp]
    by_cases e : x = q + 1
    · rw [if_pos e]
      exact ⟨ov.length, by simp, rfl, by rw [getD_snoc, if_neg (by omega), if_pos rfl, e]⟩
    · rw [if_neg e]
      obtain ⟨k, hk, a, b⟩ := h.bwd x hx1 (by omega)
      exact ⟨k, by simp; omega, a, by rw [getD_snoc, if_pos hk]; exact b⟩
theorem HpK.up {n q : Nat} : ∀ (f : Nat) {S : Sz} (i : Nat), HpK n q S.ov S.pl → i < S.ov.length → HpK n q (upF f S i).ov (upF f S i).pl
  | 0, S, i, h, _ => h
  | f + 1, S, i, h, hi => by
    unfold upF
    split
    · exact h
    · split
      · have hj : (i - 1) / 2 < S.ov.length := by omega
        exact HpK.up f (S := swapZ S ((i - 1) / 2) i) ((i - 1) / 2) (h.swap hj hi) (by rw [swap_len]; exact hj)
      · exact h
theorem madeV_hp {V : Nat} (hV : V ≤ 900000) : ∀ (k : Nat) {S : Sz}, k ≤ V → madeV k (empty0 V (V + 1)) = some S → HpK (V + 1) k S.ov S.pl
  | 0, S, hk, h => by
    cases h
    exact ⟨by simp [empty0], by omega, fun j hj => by simp [empty0] at hj, fun v h1 h2 => by omega⟩
  | k + 1, S, hk, h => by
    unfold madeV at h
    obtain ⟨S1, h1, h2⟩ := Option.bind_eq_some_iff.1 h
    have ih := madeV_hp hV k (by omega) h1
    unfold hpushO at h2
    split at h2
    · cases h2
      have hP : HpK (V + 1) (k + 1) (pushZ { S1 with pl := S1.pl.set (k + 1) (-1) } (k + 1)).ov (pushZ { S1 with pl := S1.pl.set (k + 1) (-1) } (k + 1)).pl := ih.push (by omega)
      exact HpK.up S1.ov.length (S := pushZ { S1 with pl := S1.pl.set (k + 1) (-1) } (k + 1)) S1.ov.length hP (by show _ < (S1.ov ++ [((k + 1 : Nat) : Int)]).length; simp)
    · cases h2
/-! ### clause by clause -/
structure MkC (n : Nat) (cs ds : List (List Int)) (ok : Bool) (S : Sz) : Prop where
  at_ : S.at' = 0
  mid : Mid n cs 1 S 0 noE S.watch
  st : S.st = []
  prf : S.prf = []
  nl : S.nl = 0
  seen : ∀ v : Nat, S.seen.getD v false = false
  learned : S.learned = 0
  all : S.all.length ≤ S.cls.length
  allK : ∀ i ∈ S.all, i < S.cls.length
  rea : ReaK S
  len : S.cls.length ≤ ds.length
  rep : ok = true → ∀ c ∈ ds, RepC S c
  fol : ok = false → D.Fol cs []
theorem getD_rep {α : Type} (n k : Nat) (d : α) : (List.replicate n d).getD k d = d := by
  simp only [List.getD_eq_getElem?_getD, List.getElem?_replicate]
  split <;> rfl
theorem mk_start {V : Nat} (hV : V + 1 ≤ 100000) (cs : List (List Int)) : ∃ S, madeV V (empty0 V (V + 1)) = some S ∧ MkC (V + 1) cs [] true S := by
  obtain ⟨S, h1, h2, h3, h4⟩ := madeV_ok (V := V) (by omega) V (Nat.le_refl _)
  have hk := madeV_hp (by omega) V (Nat.le_refl _) h1
  have f : ∀ {β : Type} (g : Sz → β), g S = g { empty0 V (V + 1) with ov := S.ov, pl := S.pl } := fun g => congrArg g h4
  have g_at : S.at' = 0 := f Sz.at'
  have g_st : S.st = [] := f Sz.st
  have g_tr : S.tr = [] := f Sz.tr
  have g_prf : S.prf = [] := f Sz.prf
  have g_nl : S.nl = 0 := f Sz.nl
  have g_seen : S.seen = List.replicate (V + 1) false := f Sz.seen
  have g_lrn : S.learned = 0 := f Sz.learned
  have g_all : S.all = [] := f Sz.all
  have g_cls : S.cls = [] := f Sz.cls
  have g_rea : S.rea = List.replicate (V + 1) none := f Sz.rea
  have g_vals : S.vals = List.replicate (V + 1) 0 := f Sz.vals
  have g_watch : S.watch = List.replicate (2 * (V + 1)) [] := f Sz.watch
  have hw : ∀ (p : Nat) (ws : List Nat), S.watch[p]? = some ws → ws = [] := fun p ws hp => by
    rw [g_watch, List.getElem?_replicate] at hp
    split at hp
    · cases hp; rfl
    · cases hp
  refine ⟨S, h1, g_at, ⟨by omega, hV, h2, ⟨hk.len, fun k hk2 => ?_, fun v v1 v2 => .inr (hk.bwd v v1 (by omega))⟩, fun v v1 v2 _ => ?_, ?_, fun c z hz => ?_, ⟨fun p ws hp => ?_, fun p ws c hp hc => ?_, fun c z k y hz => ?_⟩, ⟨fun i l c hi => ?_, fun i l hi => ?_⟩, fun c z k y o hz => ?_, h2.watch, Nat.zero_le _, ?_⟩, g_st, g_prf, g_nl, fun v => ?_, g_lrn, ?_, fun i hi => ?_, fun v c hc => ?_, ?_, fun _ c hc => (by cases hc), fun e => (by cases e)⟩
  · obtain ⟨v, a, b, c, d⟩ := hk.fwd k hk2
    exact ⟨v, a, b, by omega, d⟩
  · obtain ⟨j, _, e, _⟩ := hk.bwd v v1 (by omega)
    omega
  · refine ⟨fun i l hi => ?_, fun v v1 v2 v3 => ?_, fun i j l m hi => ?_, fun i l hi => ?_, fun i j hij hj => ?_, fun k hk => ?_⟩
    · rw [g_tr] at hi; cases hi
    · rw [g_vals, getD_rep] at v3; exact absurd rfl v3
    · rw [g_tr] at hi; cases hi
    · rw [g_tr] at hi; cases hi
    · rw [g_st] at hj; simp at hj
    · rw [g_st] at hk; simp at hk
  · rw [g_cls] at hz; cases hz
  · rw [hw p ws hp]; exact List.nodup_nil
  · rw [hw p ws hp] at hc; cases hc
  · rw [g_cls] at hz; cases hz
  · rw [g_tr] at hi; cases hi
  · rw [g_tr] at hi; cases hi
  · rw [g_cls] at hz; cases hz
  · rw [g_cls]; exact Nat.zero_le _
  · rw [g_seen, getD_rep]
  · rw [g_all]; exact Nat.zero_le _
  · rw [g_all] at hi; cases hi
  · rw [g_rea, getD_rep] at hc; cases hc
  · rw [g_cls]; exact Nat.zero_le _
theorem MkC.same {n : Nat} {cs ds : List (List Int)} {ok ok' : Bool} {S : Sz} (h : MkC n cs ds ok S) {c : List Int} (h1 : ok' = true → ok = true ∧ RepC S c) (h2 : ok' = false → ok = false ∨ D.Fol cs []) : MkC n cs (ds ++ [c]) ok' S :=
  ⟨h.at_, h.mid, h.st, h.prf, h.nl, h.seen, h.learned, h.all, h.allK, h.rea, by rw [List.length_append]; have := h.len; omega, fun e d hd => by
    obtain ⟨a, b⟩ := h1 e
    rcases List.mem_append.1 hd with hd | hd
    · exact h.rep a d hd
    · rw [List.mem_singleton.1 hd]; exact b, fun e => (h2 e).elim h.fol id⟩
theorem makeC_ok {n : Nat} {cs : List (List Int)} (hlen : cs.length < 1000000) (hcs : ∀ c ∈ cs, ∀ x ∈ c, 1 ≤ x.natAbs ∧ x.natAbs < n) : ∀ (r : List (List Int)) {ds : List (List Int)} {ok : Bool} {S : Sz}, cs = ds ++ r → MkC n cs ds ok S → ∃ q, makeC r ok S = some q ∧ MkC n cs cs q.1 q.2
  | [], ds, ok, S, e, h => by
    rw [List.append_nil] at e
    subst e
    exact ⟨_, rfl, h⟩
  | c :: r, ds, ok, S, e, h => by
    have e' : cs = (ds ++ [c]) ++ r := by rw [e, List.append_assoc]; rfl
    have hcm : c ∈ cs := by rw [e]; simp
    obtain ⟨ns, nm⟩ := normK_spec c
    have hst0 : ∀ k : Nat, k < S.st.length → False := fun k hk => by rw [h.st] at hk; simp at hk
    have hA0 : ∀ i : Nat, LvAt S.st i 0 := fun i => ⟨Nat.zero_le _, fun k hk => (hst0 k hk).elim⟩
    unfold makeC
    by_cases h1 : (normK c).any (fun x => (normK c).contains (-x)) = true
    · rw [if_pos h1]
      obtain ⟨x, hx, hx2⟩ := List.any_eq_true.1 h1
      have hx2 : -x ∈ normK c := by simpa using hx2
      exact makeC_ok hlen hcs r e' (h.same (fun e => ⟨e, .inl ⟨x, (nm x).1 hx, (nm _).1 hx2⟩⟩) fun e => .inl e)
    rw [if_neg h1]
    have hnt : ∀ x ∈ normK c, -x ∉ normK c := fun x hx hx2 => h1 (List.any_eq_true.2 ⟨x, hx, by simpa using hx2⟩)
    by_cases h2 : (normK c).length = 0
    · rw [if_pos h2]
      have hnil := List.eq_nil_of_length_eq_zero h2
      exact makeC_ok hlen hcs r e' (h.same (fun e => by cases e) fun _ => .inr (.inr ⟨c, hcm, fun y hy => by
        have := (nm y).2 hy
        rw [hnil] at this
        cases this⟩))
    rw [if_neg h2]
    by_cases h3 : (normK c).length = 1
    · rw [if_pos h3]
      cases ok with
      | false =>
        exact makeC_ok hlen hcs r e' (h.same (fun e => by cases e) fun e => .inl e)
      | true =>
        obtain ⟨a, ha⟩ : ∃ a, normK c = [a] := by
          match hn : normK c, h3 with
          | [a], _ => exact ⟨a, rfl⟩
        have hmem : ∀ y, y ∈ c ↔ y = a := fun y => by rw [← nm, ha]; simp
        have hac : a ∈ c := (hmem a).2 rfl
        obtain ⟨a1, a2⟩ := hcs c hcm a hac
        rw [if_pos rfl, ha]
        show ∃ q, (letO S a none).bind _ = some q ∧ _
        rcases litV_range h.mid.wf a with hv | hv | hv
        · have hl : letO S a none = some (true, S) := by
            unfold letO
            rw [litO_val h.mid.wf a2, hv]
            rfl
          rw [hl, Option.bind_some]
          obtain ⟨i, hi⟩ := h.mid.trl.true_in a1 a2 hv
          exact makeC_ok hlen hcs r e' (h.same (fun e => ⟨e, .inr (.inr ⟨a, hac, i, hi, fun k hk => (hst0 k hk).elim⟩)⟩) fun e => (by cases e))
        · obtain ⟨b1, b2⟩ := h.mid.let_ (rn := none) a1 a2 hv (.inr ⟨h.st, c, hcm, hmem⟩)
          rw [b1, Option.bind_some]
          refine makeC_ok hlen hcs r e' ⟨h.at_, b2, h.st, h.prf, h.nl, h.seen, h.learned, h.all, h.allK, (letO_rea b1 h.rea fun c e => by cases e).1, by rw [List.length_append]; have := h.len; show S.cls.length ≤ _; omega, fun _ d hd => ?_, fun e => by cases e⟩
          rcases List.mem_append.1 hd with hd | hd
          · exact (h.rep rfl d hd).step (SameP.refl S) (fun x hx => hx.pre (List.prefix_append _ _))
          · rw [List.mem_singleton.1 hd]
            refine .inr (.inr ⟨a, hac, S.tr.length, ?_, fun k hk => (hst0 k hk).elim⟩)
            show (S.tr ++ [a])[S.tr.length]? = some a
            rw [List.getElem?_append_right (Nat.le_refl _), Nat.sub_self]
            rfl
        · have hl : letO S a none = some (false, S) := by
            unfold letO
            rw [litO_val h.mid.wf a2, hv]
            rfl
          rw [hl, Option.bind_some]
          obtain ⟨i, hi⟩ := h.mid.trl.false_in a1 a2 hv
          exact makeC_ok hlen hcs r e' (h.same (fun e => by cases e) fun _ => .inr (.inr ⟨c, hcm, fun y hy => by
            rw [(hmem y).1 hy]
            exact der_zero h.mid _ i _ hi (hA0 i)⟩))
    rw [if_neg h3]
    have hle := h.len
    have hdl : ds.length < cs.length := by rw [e, List.length_append, List.length_cons]; omega
    have hz : CzOK n cs 1 ⟨normK c, false, false, 0⟩ := by
      refine ⟨rfl, by show 2 ≤ (normK c).length; omega, fun y hy => hcs c hcm y ((nm y).1 hy), ?_, ⟨c, hcm, fun y => (nm y).symm⟩, by dsimp only; omega⟩
      show ((normK c).map Int.natAbs).Nodup
      rw [List.nodup_iff_pairwise_ne, List.pairwise_map]
      refine ns.imp_of_mem ?_
      intro x y hx hy hxy e
      have : x = y ∨ x = -y := by omega
      rcases this with e | e
      · omega
      · exact hnt y hy (by rw [← e]; exact hx)
    obtain ⟨S6, p1, p2, p3⟩ := put_ok h.mid hz (by omega) h.all
    rw [if_pos (h.mid.fresh_ (fun v c hc => h.rea v c (by rw [List.getD_eq_getElem?_getD, hc]; rfl)) h.allK), p1, Option.bind_some]
    have h7 : S6.cls.length = S.cls.length + 1 := by rw [p3.cls, List.length_append]; rfl
    have hsp : SameP S S6 := fun i z hz => ⟨z, by rw [p3.cls, snoc_get, if_neg]; exact hz; have := (List.getElem?_eq_some_iff.1 hz).1; omega, List.Perm.refl _⟩
    refine makeC_ok hlen hcs r e' ⟨p3.at_.trans h.at_, p2.exc (fun c z k y o _ _ _ _ hm => by cases hm) rfl, p3.st.trans h.st, p3.prf.trans h.prf, p3.nl.trans h.nl, by rw [p3.seen]; exact h.seen, p3.learned.trans h.learned, ?_, fun i hi => ?_, h.rea.of p3.rea (by omega), by rw [h7, List.length_append]; show _ ≤ _ + 1; omega, fun eo d hd => ?_, h.fol⟩
    · rw [p3.all, List.length_append, h7]
      have := h.all
      show _ + 1 ≤ _
      omega
    · rw [p3.all] at hi
      rcases List.mem_append.1 hi with hi | hi
      · have := h.allK i hi
        omega
      · have := List.mem_singleton.1 hi
        omega
    · rcases List.mem_append.1 hd with hd | hd
      · exact (h.rep eo d hd).step hsp (fun x hx => by rw [p3.tr, p3.st]; exact hx)
      · rw [List.mem_singleton.1 hd]
        exact .inr (.inl ⟨S.cls.length, _, by rw [p3.cls, snoc_get, if_pos rfl], nm⟩)
end Go.Proofs.Ytkpppmldbhgcgaa
/- Sat, plain: Solve answers, and right. -/
set_option autoImplicit false
set_option linter.unusedVariables false
set_option linter.unusedSimpArgs false
namespace Go.Proofs.Ytkpppmldbhgcgaa
open Go
theorem sat_of {n : Nat} {vs : List Int} {x : Int} (h1 : 1 ≤ x.natAbs) (h2 : x.natAbs < n) (hx : litV vs x = 1) : D.sat ((List.range n).map fun v => v != 0 && decide (vs.getD v 0 = 1)) x = true := by
  have hg : ((List.range n).map fun v => v != 0 && decide (vs.getD v 0 = 1)).getD x.natAbs false = decide (vs.getD x.natAbs 0 = 1) := by
    rw [List.getD_eq_getElem?_getD, List.getElem?_map, List.getElem?_range h2]
    show (x.natAbs != 0 && decide (vs.getD x.natAbs 0 = 1)) = _
    have : (x.natAbs != 0) = true := by simp; omega
    rw [this, Bool.true_and]
  unfold D.sat
  rw [hg]
  unfold litV at hx
  by_cases h : x < 0
  · rw [if_pos h] at hx
    have e1 : decide (x < 0) = true := decide_eq_true h
    have e2 : decide (vs.getD x.natAbs 0 = 1) = false := decide_eq_false (by omega)
    rw [e1, e2]
    simp
  · rw [if_neg h] at hx
    have e1 : decide (0 < x) = true := decide_eq_true (by omega)
    have e2 : decide (vs.getD x.natAbs 0 = 1) = true := decide_eq_true hx
    rw [e1, e2]
    rfl
theorem sizeP_mem {ls : List (Bool × List Int)} {p : Bool × List Int} (h : p ∈ ls) : p.2.length ≤ sizeP ls := by
  induction ls with
  | nil => cases h
  | cons q r ih =>
    have e : sizeP (q :: r) = 1 + q.2.length + sizeP r := rfl
    rcases List.mem_cons.1 h with rfl | h
    · omega
    · have := ih h; omega
/-- rounds that are enough -/
def fuelK (V b : Nat) : Nat := b * (2 * (V + 1) + 4) + (V + 1) + 1
theorem solveK_ok {V b : Nat} {budget : Int} (hV : V + 1 ≤ 100000) (hbud : max 0 budget = (b : Int)) (hb : b ≤ 2000) {cs : List (List Int)} (hlen : cs.length + b < 1000000) (hcs : ∀ c ∈ cs, D.fairZ (V : Int) c = true) {f : Nat} (hf : fuelK V b ≤ f) :
    ∃ ans, solveK f V cs budget = some ans ∧ RightZ (V : Int) cs ans ∧ ans.model.length ≤ V + 1 ∧ ans.proof.length ≤ 200001 ∧ ∀ p ∈ ans.proof, p.2.length ≤ 200000 := by
  have hcs' : ∀ c ∈ cs, ∀ x ∈ c, 1 ≤ x.natAbs ∧ x.natAbs < V + 1 := fun c hc x hx => by
    have := List.all_eq_true.1 (hcs c hc) x hx
    unfold D.fair1 at this
    simp only [Bool.not_eq_true', Bool.or_eq_false_iff, decide_eq_false_iff_not] at this
    omega
  obtain ⟨S0, m1, m2⟩ := mk_start hV cs
  obtain ⟨q, k1, k2⟩ := makeC_ok (by omega) hcs' cs (ds := []) rfl m2
  have hmk : makeK V cs = some q := by unfold makeK; rw [m1]; exact k1
  unfold solveK
  rw [hmk, Option.bind_some]
  -- the search, or none
  have hrun : ∃ r, (if q.1 then seekF f q.2 (max 0 budget) 0 100 100 else some (2, q.2)) = some r ∧ OutS (V : Int) cs r := by
    cases hq : q.1 with
    | true =>
      rw [if_pos rfl, hbud]
      have hS : Sk (V + 1) (V : Int) cs 0 q.2 0 := by
        refine ⟨k2.at_, ?_, fun k hk => ?_, fun k hk => ?_, ⟨k2.seen, by rw [k2.prf]; exact trivial, by rw [k2.nl, k2.prf]; rfl, by rw [k2.prf]; exact Nat.zero_le _, k2.all, k2.allK, k2.rea, k2.len, by rw [k2.learned]; exact ⟨Int.le_refl _, Int.le_refl _⟩, k2.rep hq⟩⟩
        · rw [k2.prf, List.map_nil, List.append_nil]
          have e : ((V + 1 : Nat) : Int) * ((0 : Nat) : Int) + 1 = 1 := by simp
          rw [e]
          exact k2.mid
        · rw [k2.st] at hk; simp at hk
        · rw [k2.st] at hk; simp at hk
      refine seek_ok (n := V + 1) (by omega) hb hlen hcs' f hS rfl (Nat.zero_le _) (by omega) (by omega) (by omega) ?_
      rw [if_neg (by omega)]
      unfold fuelK at hf
      rw [Nat.sub_zero]
      omega
    | false =>
      exact ⟨_, rfl, .inr (.inr ⟨rfl, by rw [k2.prf]; exact trivial, by rw [k2.prf, List.map_nil, List.append_nil]; exact k2.fol hq, by rw [k2.nl, k2.prf]; rfl, by rw [k2.prf]; exact Nat.zero_le _⟩)⟩
  obtain ⟨r, r1, r2⟩ := hrun
  rw [r1, Option.bind_some]
  rcases r2 with e | ⟨e, hs⟩ | ⟨e, hl, hfol, hnl, hsz⟩
  · rw [if_pos e]
    exact ⟨_, rfl, .inr (.inr ⟨rfl, rfl, rfl⟩), Nat.zero_le _, Nat.zero_le _, fun p hp => by cases hp⟩
  · rw [if_neg (by omega), if_pos e]
    refine ⟨_, rfl, .inl ⟨rfl, rfl, by simp, ?_⟩, by simp, Nat.zero_le _, fun p hp => by cases hp⟩
    rw [List.all_eq_true]
    intro c hc
    obtain ⟨x, hx, hv⟩ := hs c hc
    have := hcs' c hc x hx
    exact List.any_eq_true.2 ⟨x, hx, sat_of this.1 this.2 hv⟩
  · rw [if_neg (by omega), if_neg (by omega)]
    have hpl := sizeP_len r.2.prf
    unfold logO
    rw [if_pos ⟨by omega, by omega, rfl, by unfold roomy; exact decide_eq_true (by omega)⟩]
    by_cases hfull : 200000 < r.2.nl + (([] : List Int).length + 1)
    · rw [if_pos hfull]
      exact ⟨_, rfl, .inr (.inr ⟨rfl, rfl, rfl⟩), Nat.zero_le _, Nat.zero_le _, fun p hp => by cases hp⟩
    · rw [if_neg hfull]
      have hlt : sizeP r.2.prf + 1 ≤ 200000 := by
        have : r.2.nl + ((([] : List Int).length : Int) + 1) = r.2.nl + 1 := rfl
        omega
      refine ⟨_, rfl, .inr (.inl ⟨rfl, rfl, ?_⟩), Nat.zero_le _, ?_, fun p hp => ?_⟩
      · show (D.answerZ (V : Int) cs 0 (r.2.prf ++ [(false, [])])).2 = 0
        rw [answer_rup (hl.rup _ 0 hfol (by omega))]
      · show (r.2.prf ++ [(false, [])]).length ≤ _
        rw [List.length_append, List.length_singleton]
        omega
      · rcases List.mem_append.1 hp with hp | hp
        · have := sizeP_mem hp
          omega
        · rw [List.mem_singleton.1 hp]
          exact Nat.zero_le _
end Go.Proofs.Ytkpppmldbhgcgaa

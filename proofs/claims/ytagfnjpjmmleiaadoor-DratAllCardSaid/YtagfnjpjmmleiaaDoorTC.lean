/- Drat: a visit keeps what is so while the checker propagates (plain law). -/
import Derived.Test.YtagfnjpjmmleiaaDoorTB
set_option linter.unusedVariables false
set_option linter.unusedSimpArgs false
set_option autoImplicit false
set_option linter.unusedVariables false
set_option linter.unusedSimpArgs false
namespace Go.Proofs.YtagfnjpjmmleiaaDoor
theorem two_swap {zs : List Int} {a l a' l' : Int} {r r' : List Int} (h : Two zs a l r) (k : Two (a :: l :: r) a' l' r') : Two zs a' l' r' := by
  rcases k with e | e <;> cases e
  · exact h
  · exact h.symm
theorem Two.mem {zs : List Int} {a l y : Int} {r : List Int} (h : Two zs a l r) : y ∈ zs ↔ y = a ∨ y = l ∨ y ∈ r := by
  rw [← h.perm.mem_iff, List.mem_cons, List.mem_cons]
/-- the lists of those that watch, when a clause's first two change places -/
theorem Wt.swap {S : St} (h : Wt S) {i : Nat} {a l : Int} {r : List Int} (ht : Two (S.lits i) a l r) {vals trail : List Int} : Wt { S with lits := upd S.lits i (a :: l :: r), vals := vals, trail := trail } := by
  refine ⟨h.wn, h.wi, fun j hj hg a' b' r' e => ?_, fun c j hj hg => ?_⟩
  · have e : upd S.lits i (a :: l :: r) j = a' :: b' :: r' := e
    by_cases hji : j = i
    · subst hji
      rw [upd_same] at e
      cases e
      rcases ht with e | e
      · exact h.w1 j hj hg _ _ _ e
      · exact (h.w1 j hj hg _ _ _ e).symm
    · rw [upd_other _ _ hji] at e
      exact h.w1 j hj hg _ _ _ e
  · by_cases hji : j = i
    · subst hji
      obtain ⟨a', b', r', e, hc⟩ := h.w2 c j hj hg
      refine ⟨a, l, r, upd_same .., ?_⟩
      rcases ht with e2 | e2 <;> rw [e2] at e <;> cases e
      · exact hc
      · exact hc.symm
    · obtain ⟨a', b', r', e, hc⟩ := h.w2 c j hj hg
      exact ⟨a', b', r', (upd_other _ _ hji).trans e, hc⟩
theorem litV_setV_mono {n : Nat} {vs : List Int} {o x : Int} (hf : Fine n vs) (ho : o ≠ 0) (hn : o.natAbs < n) (h0 : litV vs o = 0) :
    (litV vs x = 1 → litV (setV vs o) x = 1) ∧ (litV vs x = -1 → litV (setV vs o) x = -1) := by
  rw [litV_setV hf ho hn]
  have h1 : litV vs (-o) = 0 := by rw [litV_neg ho, h0]; rfl
  by_cases e1 : x = o
  · subst e1; rw [h0]; exact ⟨fun e => (by cases e), fun e => (by cases e)⟩
  · rw [if_neg e1]
    by_cases e2 : x = -o
    · subst e2; rw [h1]; exact ⟨fun e => (by cases e), fun e => (by cases e)⟩
    · rw [if_neg e2]; exact ⟨id, id⟩
theorem Pr.vis {V : Nat} {As : Int → Prop} {S0 S : St} {q : Int → Prop} (h : Pr V As S0 S q) {i : Nat} (hi : i < S.n) (hg : S.gone i = false) : S0.lits i ∈ cls S0 ∧ ∀ y, y ∈ S0.lits i ↔ y ∈ S.lits i :=
  ⟨mem_cls.2 ⟨i, h.sim.n ▸ hi, h.sim.gone ▸ hg, rfl⟩, fun y => (h.sim.lits i).mem_iff.symm⟩
/-- a literal is made true: what was so is so -/
theorem Pr.set {V : Nat} {As : Int → Prop} {S0 S : St} {q : Int → Prop} (h : Pr V As S0 S q) {a : Int} (ha : a ≠ 0) (hn : a.natAbs < V + 1) (h0 : litV S.vals a = 0) (hD : Der (cls S0) As a) : Pr V As S0 { S with vals := setV S.vals a, trail := S.trail ++ [a] } q := by
  have hf := h.core.vl
  have mono := fun x => litV_setV_mono (x := x) hf ha hn h0
  have hsim : Sim S { S with vals := setV S.vals a, trail := S.trail ++ [a] } := ⟨rfl, rfl, rfl, rfl, rfl, rfl, rfl, fun _ => .refl _⟩
  have na : litV S.vals (-a) = 0 := by rw [litV_neg ha, h0]; rfl
  refine ⟨h.core.sim hsim (hf.setV a), ⟨h.wt.wn, h.wt.wi, h.wt.w1, h.wt.w2⟩, h.sim.trans hsim, fun x hx e => ?_, fun x hx => ?_, fun x hx => ?_, ?_, fun x hx e => (mono x).1 (h.up x hx e), fun i hi hg b e => (mono b).1 (h.ut i hi hg b e), fun l hl => ⟨(h.qd l hl).1, (mono l).2 (h.qd l hl).2⟩, fun l hl i hi hg b r ht => (mono b).1 (h.qq l hl i hi hg b r ht)⟩
  · have e : litV (setV S.vals a) x = 1 := e
    rw [litV_setV hf ha hn] at e
    by_cases e1 : x = a
    · rw [e1]; exact hD
    · rw [if_neg e1] at e
      by_cases e2 : x = -a
      · rw [if_pos e2] at e; cases e
      · rw [if_neg e2] at e; exact h.snd x hx e
  · show litV (setV S.vals a) x = 1 ↔ x ∈ S.trail ++ [a]
    rw [litV_setV hf ha hn, List.mem_append, List.mem_singleton]
    by_cases e1 : x = a
    · rw [if_pos e1]; exact ⟨fun _ => .inr e1, fun _ => rfl⟩
    · rw [if_neg e1]
      by_cases e2 : x = -a
      · rw [if_pos e2]
        refine ⟨fun e => (by cases e), fun e => ?_⟩
        rcases e with e | e
        · have := (h.tr x hx).2 e
          rw [e2, na] at this; cases this
        · exact absurd e e1
      · rw [if_neg e2, h.tr x hx]
        exact ⟨.inl, fun e => e.elim id fun e => absurd e e1⟩
  · rcases List.mem_append.1 hx with e | e
    · exact h.tl x e
    · rw [List.mem_singleton.1 e]; exact ⟨ha, hn⟩
  · have := zeros_setV hf hn h0
    have hz := h.tz
    show zeros (setV S.vals a) + (S.trail ++ [a]).length ≤ V + 1
    rw [List.length_append]
    simp only [List.length_singleton]
    omega
theorem Pr.swap {V : Nat} {As : Int → Prop} {S0 S : St} {q : Int → Prop} (h : Pr V As S0 S q) {i : Nat} {a l : Int} {r : List Int} (ht : Two (S.lits i) a l r) : Pr V As S0 { S with lits := upd S.lits i (a :: l :: r) } q := by
  have hsim : Sim S { S with lits := upd S.lits i (a :: l :: r) } := ⟨rfl, rfl, rfl, rfl, rfl, rfl, rfl, sim_lits ht.perm⟩
  refine ⟨h.core.sim hsim h.core.vl, h.wt.swap ht, h.sim.trans hsim, h.snd, h.tr, h.tl, h.tz, h.up, fun j hj hg b e => ?_, h.qd, fun l' hl' j hj hg b r' h2 => ?_⟩
  · have e : upd S.lits i (a :: l :: r) j = [b] := e
    by_cases hji : j = i
    · subst hji; rw [upd_same] at e; cases e
    · rw [upd_other _ _ hji] at e; exact h.ut j hj hg b e
  · have h2 : Two (upd S.lits i (a :: l :: r) j) b l' r' := h2
    by_cases hji : j = i
    · subst hji
      rw [upd_same] at h2
      exact h.qq l' hl' j hj hg b r' (two_swap ht h2)
    · rw [upd_other _ _ hji] at h2
      exact h.qq l' hl' j hj hg b r' h2
theorem Inn.swap {V : Nat} {As : Int → Prop} {S0 S : St} {q : Int → Prop} {l : Int} {kept rest : List Nat} {i : Nat} (h : Inn V As S0 S q l kept rest) {a b : Int} {r : List Int} (ht : Two (S.lits i) a b r) : Inn V As S0 { S with lits := upd S.lits i (a :: b :: r) } q l kept rest := by
  refine ⟨h.pr.swap ht, h.w, h.l0, h.ll, h.lf, fun j hj hg c r' h2 => ?_⟩
  have h2 : Two (upd S.lits i (a :: b :: r) j) c l r' := h2
  by_cases hji : j = i
  · subst hji
    rw [upd_same] at h2
    exact h.ql j hj hg c r' (two_swap ht h2)
  · rw [upd_other _ _ hji] at h2
    exact h.ql j hj hg c r' h2
/-- a clause that holds may stay -/
theorem Inn.stay {V : Nat} {As : Int → Prop} {S0 S : St} {q : Int → Prop} {l : Int} {kept rest : List Nat} {i : Nat} (h : Inn V As S0 S q l kept (i :: rest)) (hi : i < S.n) {a : Int} {r : List Int} (ht : Two (S.lits i) a l r) (ha : litV S.vals a = 1) : Inn V As S0 S q l (kept ++ [i]) rest := by
  refine ⟨h.pr, by rw [h.w]; simp, h.l0, h.ll, h.lf, fun j hj hg c r' h2 => ?_⟩
  rcases List.mem_append.1 hj with e | e
  · exact h.ql j e hg c r' h2
  · rw [List.mem_singleton.1 e] at h2
    have hnd := ht.perm.nodup_iff.2 (h.pr.core.nd i hi)
    have hal : a ≠ l := by
      rintro rfl
      exact (List.nodup_cons.1 hnd).1 (List.mem_cons_self ..)
    have : c = a := by
      rcases ht with e1 | e1 <;> rw [e1] at h2 <;> rcases h2 with e2 | e2 <;> cases e2
      · rfl
      · exact absurd rfl hal
      · exact absurd rfl hal
      · rfl
    rw [this]; exact ha
/-- THE VISIT -/
theorem Inn.visit {V : Nat} {As : Int → Prop} {S0 S S' : St} {q : Int → Prop} {l : Int} {kept rest : List Nat} {i : Nat} {st ok : Bool} (h : Inn V As S0 S q l kept (i :: rest)) (hg : S.gone i = false) (hv : VisitR S i l S' st ok) :
    (ok = true → (st = true ∧ Inn V As S0 S' q l (kept ++ [i]) rest) ∨ (st = false ∧ Inn V As S0 { S' with watch := upd S'.watch (codeZ l) (kept ++ rest) } q l kept rest)) ∧
    (ok = false → st = true ∧ Confl (cls S0) As ∧ Pr V As S0 S' q) := by
  have hiw : i ∈ S.watch (codeZ l) := by rw [h.w]; simp
  have hi : i < S.n := h.pr.wt.wi _ i hiw
  obtain ⟨hcl, hmem⟩ := h.pr.vis hi hg
  have hli := h.pr.core.li i hi
  have neg : ∀ y ∈ S.lits i, litV S.vals y = -1 → Der (cls S0) As (-y) := fun y hy e => by
    have h0 := (hli y hy).1
    exact h.pr.snd (-y) (by omega) (by rw [litV_neg h0, e]; rfl)
  cases hv with
  | tr a r ht ha =>
    refine ⟨fun _ => .inl ⟨rfl, ?_⟩, fun e => (by cases e)⟩
    exact (h.swap ht).stay hi (.inl (upd_same ..)) ha
  | no a r ht hr ha =>
    refine ⟨fun e => (by cases e), fun _ => ⟨rfl, ⟨_, hcl, fun y hy => ?_⟩, h.pr.swap ht⟩⟩
    have hy := (hmem y).1 hy
    refine neg y hy ?_
    rcases ht.mem.1 hy with rfl | rfl | e
    · exact ha
    · exact h.lf
    · exact hr y e
  | un a r ht hr ha =>
    refine ⟨fun _ => .inl ⟨rfl, ?_⟩, fun e => (by cases e)⟩
    have hai := ht.mem.2 (.inl rfl)
    obtain ⟨a0, an⟩ := hli a hai
    have hD : Der (cls S0) As a := .unit _ a hcl ((hmem a).2 hai) fun y hy hne => by
      have hy := (hmem y).1 hy
      refine neg y hy ?_
      rcases ht.mem.1 hy with e | rfl | e
      · exact absurd e hne
      · exact h.lf
      · exact hr y e
    have hs := h.swap ht
    have mono := fun x => litV_setV_mono (x := x) h.pr.core.vl a0 an ha
    have hs2 : Inn V As S0 { S with lits := upd S.lits i (a :: l :: r), vals := setV S.vals a, trail := S.trail ++ [a] } q l kept (i :: rest) :=
      ⟨hs.pr.set a0 an ha hD, hs.w, hs.l0, hs.ll, (mono l).2 hs.lf, fun j hj hgj c r' h2 => (mono c).1 (hs.ql j hj hgj c r' h2)⟩
    exact hs2.stay hi (.inl (upd_same ..)) (by rw [litV_setV h.pr.core.vl a0 an, if_pos rfl])
  | mv a x r k ht ha hk hx hxf =>
    refine ⟨fun _ => .inr ⟨rfl, ?_⟩, fun e => (by cases e)⟩
    have hxr : x ∈ r := by rw [← hx, List.getD_eq_getElem?_getD, List.getElem?_eq_getElem hk]; exact List.getElem_mem _
    have hnd := ht.perm.nodup_iff.2 (h.pr.core.nd i hi)
    obtain ⟨n1, n2⟩ := List.nodup_cons.1 hnd
    obtain ⟨n3, n4⟩ := List.nodup_cons.1 n2
    have hal : a ≠ l := fun e => n1 (by rw [e]; exact List.mem_cons_self ..)
    have hxa : x ≠ a := fun e => n1 (by rw [← e]; exact List.mem_cons_of_mem _ hxr)
    have hxl : x ≠ l := fun e => n3 (by rw [← e]; exact hxr)
    have a0 := (hli a (ht.mem.2 (.inl rfl))).1
    have x0 := (hli x (ht.mem.2 (.inr (.inr hxr)))).1
    have cxl : codeZ x ≠ codeZ l := fun e => hxl (codeZ_inj x0 h.l0 e)
    have cal : codeZ a ≠ codeZ l := fun e => hal (codeZ_inj a0 h.l0 e)
    have hp : (a :: x :: r.set k l).Perm (S.lits i) := by
      refine List.Perm.trans ?_ ht.perm
      rw [← hx]
      exact (set_perm r k l hk).cons a
    have hsim : Sim S { S with lits := upd S.lits i (a :: x :: r.set k l), watch := upd (upd S.watch (codeZ x) (S.watch (codeZ x) ++ [i])) (codeZ l) (kept ++ rest) } := ⟨rfl, rfl, rfl, rfl, rfl, rfl, rfl, sim_lits hp⟩
    have hnw := h.pr.wt.wn (codeZ l)
    rw [h.w] at hnw
    obtain ⟨m1, m2⟩ := nodup_drop hnw
    have hix : i ∉ S.watch (codeZ x) := fun e => by
      obtain ⟨a', b', r', e1, e2⟩ := h.pr.wt.w2 _ i e hg
      have li' := h.pr.core.li i hi
      rw [e1] at li'
      have ab : a' = a ∧ b' = l ∨ a' = l ∧ b' = a := by
        rcases ht with e3 | e3 <;> rw [e3] at e1 <;> cases e1
        · exact .inl ⟨rfl, rfl⟩
        · exact .inr ⟨rfl, rfl⟩
      have xab : x = a' ∨ x = b' := e2.imp (codeZ_inj x0 (li' a' (by simp)).1) (codeZ_inj x0 (li' b' (by simp)).1)
      rcases ab with ⟨rfl, rfl⟩ | ⟨rfl, rfl⟩
      · exact xab.elim hxa hxl
      · exact xab.elim hxl hxa
    have iw : ∀ c, i ∈ S.watch c → c = codeZ a ∨ c = codeZ l := fun c e => by
      obtain ⟨a', b', r', e1, e2⟩ := h.pr.wt.w2 _ i e hg
      rcases ht with e3 | e3 <;> rw [e3] at e1 <;> cases e1
      · exact e2
      · exact e2.symm
    have iwa : i ∈ S.watch (codeZ a) := by
      rcases ht with e3 | e3
      · exact (h.pr.wt.w1 i hi hg _ _ _ e3).1
      · exact (h.pr.wt.w1 i hi hg _ _ _ e3).2
    -- what the lists are behind it
    have W : ∀ c, upd (upd S.watch (codeZ x) (S.watch (codeZ x) ++ [i])) (codeZ l) (kept ++ rest) c = if c = codeZ l then kept ++ rest else if c = codeZ x then S.watch (codeZ x) ++ [i] else S.watch c := fun c => by
      by_cases e1 : c = codeZ l
      · rw [if_pos e1, e1, upd_same]
      · rw [if_neg e1, upd_other _ _ e1]
        by_cases e2 : c = codeZ x
        · rw [if_pos e2, e2, upd_same]
        · rw [if_neg e2, upd_other _ _ e2]
    have bk : ∀ c j, j ∈ S.watch c → j ≠ i → j ∈ upd (upd S.watch (codeZ x) (S.watch (codeZ x) ++ [i])) (codeZ l) (kept ++ rest) c := fun c j hj hne => by
      rw [W]
      by_cases e1 : c = codeZ l
      · rw [if_pos e1]; rw [e1, h.w] at hj; exact mem_drop hj hne
      · rw [if_neg e1]
        by_cases e2 : c = codeZ x
        · rw [if_pos e2]; rw [e2] at hj; exact List.mem_append_left _ hj
        · rw [if_neg e2]; exact hj
    have fw : ∀ c j, j ∈ upd (upd S.watch (codeZ x) (S.watch (codeZ x) ++ [i])) (codeZ l) (kept ++ rest) c → (j ∈ S.watch c ∧ (j = i → c ≠ codeZ l)) ∨ (j = i ∧ c = codeZ x) := fun c j hj => by
      rw [W] at hj
      by_cases e1 : c = codeZ l
      · rw [if_pos e1] at hj
        refine .inl ⟨?_, fun e => absurd (e ▸ hj) m2⟩
        rw [e1, h.w]
        rcases List.mem_append.1 hj with e | e
        · exact List.mem_append_left _ e
        · exact List.mem_append_right _ (List.mem_cons_of_mem _ e)
      · rw [if_neg e1] at hj
        by_cases e2 : c = codeZ x
        · rw [if_pos e2] at hj
          rcases List.mem_append.1 hj with e | e
          · exact .inl ⟨e2 ▸ e, fun _ => e1⟩
          · exact .inr ⟨List.mem_singleton.1 e, e2⟩
        · rw [if_neg e2] at hj; exact .inl ⟨hj, fun _ => e1⟩
    refine ⟨⟨h.pr.core.sim hsim h.pr.core.vl, ⟨fun c => ?_, fun c j hj => ?_, fun j hj hgj a' b' r' e => ?_, fun c j hj hgj => ?_⟩, h.pr.sim.trans hsim, h.pr.snd, h.pr.tr, h.pr.tl, h.pr.tz, h.pr.up, fun j hj hgj b e => ?_, h.pr.qd, fun l' hl' j hj hgj b r' h2 => ?_⟩, upd_same .., h.l0, h.ll, h.lf, fun j hj hgj b r' h2 => ?_⟩
    · show (upd _ (codeZ l) (kept ++ rest) c).Nodup
      rw [W]
      by_cases e1 : c = codeZ l
      · rw [if_pos e1]; exact m1
      · rw [if_neg e1]
        by_cases e2 : c = codeZ x
        · rw [if_pos e2]
          exact List.nodup_append.2 ⟨h.pr.wt.wn _, by simp, fun p hp q' hq' e => hix (by rw [List.mem_singleton] at hq'; rw [← hq', ← e]; exact hp)⟩
        · rw [if_neg e2]; exact h.pr.wt.wn c
    · rcases fw c j hj with ⟨e, _⟩ | ⟨rfl, _⟩
      · exact h.pr.wt.wi c j e
      · exact hi
    · have e : upd S.lits i (a :: x :: r.set k l) j = a' :: b' :: r' := e
      by_cases hji : j = i
      · subst hji
        rw [upd_same] at e
        cases e
        show _ ∈ upd _ _ _ _ ∧ _ ∈ upd _ _ _ _
        rw [W, W, if_neg cal, if_neg cxl, if_pos rfl]
        refine ⟨?_, by simp⟩
        rw [if_neg (fun e => hxa (codeZ_inj a0 x0 e).symm)]
        exact iwa
      · rw [upd_other _ _ hji] at e
        obtain ⟨e1, e2⟩ := h.pr.wt.w1 j hj hgj _ _ _ e
        exact ⟨bk _ _ e1 hji, bk _ _ e2 hji⟩
    · rcases fw c j hj with ⟨e, e2⟩ | ⟨rfl, rfl⟩
      · by_cases hji : j = i
        · subst hji
          refine ⟨a, x, _, upd_same .., .inl ?_⟩
          exact (iw c e).elim id fun e3 => absurd e3 (e2 rfl)
        · obtain ⟨a', b', r', e3, e4⟩ := h.pr.wt.w2 c j e hgj
          exact ⟨a', b', r', (upd_other _ _ hji).trans e3, e4⟩
      · exact ⟨a, x, _, upd_same .., .inr rfl⟩
    · have e : upd S.lits i (a :: x :: r.set k l) j = [b] := e
      by_cases hji : j = i
      · subst hji; rw [upd_same] at e; cases e
      · rw [upd_other _ _ hji] at e; exact h.pr.ut j hj hgj b e
    · have h2 : Two (upd S.lits i (a :: x :: r.set k l) j) b l' r' := h2
      by_cases hji : j = i
      · subst hji
        rw [upd_same] at h2
        rcases h2 with e | e <;> cases e
        · exact absurd (h.pr.qd x hl').2 hxf
        · have := h.pr.qq a hl' j hj hgj l r ht.symm
          rw [h.lf] at this; cases this
      · rw [upd_other _ _ hji] at h2
        exact h.pr.qq l' hl' j hj hgj b r' h2
    · have hji : j ≠ i := fun e => m2 (by rw [← e]; exact List.mem_append_left _ hj)
      have h2 : Two (upd S.lits i (a :: x :: r.set k l) j) b l r' := h2
      rw [upd_other _ _ hji] at h2
      exact h.ql j hj hgj b r' h2
/-- at the end: there is no conflict -/
theorem Pr.closed {V : Nat} {As : Int → Prop} {S0 S : St} {q : Int → Prop} (h : Pr V As S0 S q) (hq : ∀ l, l ≠ 0 → litV S.vals l = -1 → q l) (hA : ∀ x, As x → x ≠ 0) (he : ∀ i, i < S.n → S.gone i = false → S.lits i ≠ []) : ¬ Confl (cls S0) As := by
  have hcl : ∀ c ∈ cls S0, ∃ i, i < S.n ∧ S.gone i = false ∧ ∀ y, y ∈ c ↔ y ∈ S.lits i := fun c hc => by
    obtain ⟨i, h1, h2, rfl⟩ := mem_cls.1 hc
    exact ⟨i, h.sim.n ▸ h1, h.sim.gone ▸ h2, fun y => (h.sim.lits i).mem_iff.symm⟩
  -- of a clause some literal is true, or two are open
  have look : ∀ i, i < S.n → S.gone i = false → ∀ x, (∀ y ∈ S.lits i, y ≠ x → litV S.vals y = -1) → x ∈ S.lits i ∧ litV S.vals x = 1 := by
    intro i hi hg x hx
    have hnd := h.core.nd i hi
    have hli := h.core.li i hi
    match hl : S.lits i with
    | [] => exact absurd hl (he i hi hg)
    | [a] =>
      have ha := h.ut i hi hg a hl
      rw [hl] at hx
      by_cases e : a = x
      · subst e; exact ⟨by simp, ha⟩
      · have := hx a (by simp) e; rw [this] at ha; cases ha
    | a :: b :: r =>
      rw [hl] at hx hnd hli
      have a0 := (hli a (by simp)).1
      have b0 := (hli b (by simp)).1
      have hab : a ≠ b := by
        rintro rfl
        exact (List.nodup_cons.1 hnd).1 (List.mem_cons_self ..)
      by_cases ea : a = x
      · subst ea
        have hb := hx b (by simp) (fun e => hab e.symm)
        exact ⟨by simp, h.qq b (hq b b0 hb) i hi hg a r (.inl hl)⟩
      · have hfa := hx a (by simp) ea
        have hbt := h.qq a (hq a a0 hfa) i hi hg b r (.inr hl)
        by_cases eb : b = x
        · subst eb; exact ⟨by simp, hbt⟩
        · have := hx b (by simp) eb; rw [this] at hbt; cases hbt
  have key : ∀ x, Der (cls S0) As x → x ≠ 0 → litV S.vals x = 1 := by
    intro x hx
    induction hx with
    | init x hs => intro h0; exact h.up x h0 hs
    | unit c x hc hxc _ ih =>
      intro h0
      obtain ⟨i, h1, h2, h3⟩ := hcl c hc
      refine (look i h1 h2 x fun y hy hne => ?_).2
      have hy0 := (h.core.li i h1 y hy).1
      have := ih y ((h3 y).2 hy) hne (by omega)
      rw [litV_neg hy0] at this
      omega
  rintro ⟨c, hc, hD⟩
  obtain ⟨i, h1, h2, h3⟩ := hcl c hc
  have hall : ∀ y ∈ S.lits i, litV S.vals y = -1 := fun y hy => by
    have hy0 := (h.core.li i h1 y hy).1
    have := key _ (hD y ((h3 y).2 hy)) (by omega)
    rw [litV_neg hy0] at this
    omega
  have hne := he i h1 h2
  match hl : S.lits i with
  | [] => exact hne hl
  | a :: r =>
    obtain ⟨_, e⟩ := look i h1 h2 a fun y hy _ => hall y hy
    have := hall a (by rw [hl]; simp)
    rw [this] at e; cases e
end Go.Proofs.YtagfnjpjmmleiaaDoor

/- Drat: what the check of a proof answers, over clauses as sets (plain law). -/
import Derived.Test.YtagfnjpjmmleiaaDoorTL
import Derived.Test.YtagfnjpjmmleiaaDoorPH
import Derived.Test.YtagfnjpjmmleiaaDoorTH
set_option linter.unusedVariables false
set_option linter.unusedSimpArgs false
set_option autoImplicit false
set_option linter.unusedVariables false
set_option linter.unusedSimpArgs false
namespace Go.Proofs.YtagfnjpjmmleiaaDoor
/-! ### a clause's text tells it -/
def kstep (s : List Int × Bool × Nat) (b : UInt8) : List Int × Bool × Nat :=
  if b = 32 then (s.1 ++ [if s.2.1 then -(s.2.2 : Int) else s.2.2], false, 0)
  else if b = 45 then (s.1, true, s.2.2)
  else (s.1, s.2.1, 10 * s.2.2 + (b.toNat - 48))
theorem kstep_dig {k : Nat} (h : k < 10) (o : List Int) (n : Bool) (a : Nat) : kstep (o, n, a) (UInt8.ofNat (48 + k)) = (o, n, 10 * a + k) := by
  have e : (UInt8.ofNat (48 + k)).toNat = 48 + k := by simp; omega
  have e1 : UInt8.ofNat (48 + k) ≠ 32 := fun e2 => by have := congrArg UInt8.toNat e2; rw [e] at this; simp at this; omega
  have e2 : UInt8.ofNat (48 + k) ≠ 45 := fun e2 => by have := congrArg UInt8.toNat e2; rw [e] at this; simp at this; omega
  unfold kstep
  rw [if_neg e1, if_neg e2, e]
  simp
theorem dec_fold (o : List Int) (n : Bool) : ∀ u : Nat, (Lib.decDigits u).foldl kstep (o, n, 0) = (o, n, u) := by
  intro u
  induction u using Nat.strongRecOn with
  | _ u ih =>
    rw [Lib.decDigits]
    split
    · rename_i h
      rw [List.foldl_cons, List.foldl_nil, kstep_dig h]; simp
    · rename_i h
      rw [List.foldl_append, ih (u / 10) (by omega), List.foldl_cons, List.foldl_nil, kstep_dig (Nat.mod_lt _ (by decide))]
      rw [show 10 * (u / 10) + u % 10 = u by omega]
theorem itoa_fold (o : List Int) (z : Int) : (Lib.itoa z ++ [32]).foldl kstep (o, false, 0) = (o ++ [z], false, 0) := by
  rw [List.foldl_append, List.foldl_cons, List.foldl_nil]
  unfold Lib.itoa
  by_cases h : z < 0
  · rw [if_pos h, List.foldl_cons]
    have e : kstep (o, false, 0) 45 = (o, true, 0) := rfl
    rw [e, dec_fold]
    show (o ++ [if true = true then -(z.natAbs : Int) else z.natAbs], false, 0) = _
    rw [if_pos rfl, show -(z.natAbs : Int) = z by omega]
  · rw [if_neg h, dec_fold]
    show (o ++ [if false = true then -(z.toNat : Int) else z.toNat], false, 0) = _
    rw [if_neg (by decide), show (z.toNat : Int) = z by omega]
theorem keyOf_fold : ∀ (zs o : List Int), (keyOf zs).foldl kstep (o, false, 0) = (o ++ zs, false, 0)
  | [], o => by simp [keyOf]
  | z :: zs, o => by
    have e : keyOf (z :: zs) = (Lib.itoa z ++ [32]) ++ keyOf zs := by simp [keyOf]
    rw [e, List.foldl_append, itoa_fold, keyOf_fold zs]
    simp
theorem keyOf_inj {a b : List Int} (h : keyOf a = keyOf b) : a = b := by
  have h1 := keyOf_fold a []
  rw [h, keyOf_fold b []] at h1
  simpa using (congrArg Prod.fst h1).symm
theorem keyL_inj {a b : List Int} (h : keyL a = keyL b) : a = b := by
  unfold keyL at h
  injection h with h
  exact keyOf_inj h
theorem setZ_eq {a b : List Int} : setZ a = setZ b ↔ SameM a b := by
  obtain ⟨a1, a2⟩ := setZ_spec a
  obtain ⟨b1, b2⟩ := setZ_spec b
  constructor
  · intro h x
    rw [← a2 x, h, b2 x]
  · intro h
    exact rise_ext a1 b1 fun x => (a2 x).trans ((h x).trans (b2 x).symm)
theorem setZ_nil_iff {a : List Int} : setZ a = [] ↔ a = [] := by
  constructor
  · intro h
    cases a with
    | nil => rfl
    | cons x a =>
      have := ((setZ_spec (x :: a)).2 x).2 (by simp)
      rw [h] at this; cases this
  · rintro rfl; exact setZ_nil
theorem setZ_rise {zs : List Int} (h : Rise zs) : setZ zs = zs := rise_ext (setZ_spec zs).1 h (setZ_spec zs).2
theorem setZ_setZ (zs : List Int) : setZ (setZ zs) = setZ zs := setZ_rise (setZ_spec zs).1
/-! ### the check of a proof -/
open Classical in
/-- from a line on: the line's number, how many literals so far, the clauses as sets -/
noncomputable def playZ (vars : Int) (found : Bool) : List (Bool × List Int) → Nat → Nat → List (List Int) → Int × Int
  | [], i, _, _ => if found = true then (-1, 0) else ((i : Int), 60)
  | (g, c) :: ls, i, n, N =>
    if 200000 < n + 1 + c.length then ((i : Int), 2)
    else if fairZ vars c = false then ((i : Int), 40)
    else if g = true then playZ vars found ls (i + 1) (n + 1 + c.length) (N.erase (setZ c))
    else if ¬ Line1 N c then ((i : Int), 60)
    else if c = [] then (-1, 0)
    else playZ vars found ls (i + 1) (n + 1 + c.length) (N ++ [setZ c])
section
variable {vars : Int} {found : Bool} {ls : List (Bool × List Int)} {g : Bool} {c : List Int} {i n : Nat} {N N' : List (List Int)}
theorem play_nil : playZ vars found [] i n N = if found = true then (-1, 0) else ((i : Int), 60) := rfl
theorem play_long (h : 200000 < n + 1 + c.length) : playZ vars found ((g, c) :: ls) i n N = ((i : Int), 2) := by
  unfold playZ; rw [if_pos h]
theorem play_form (h : ¬ 200000 < n + 1 + c.length) (hf : fairZ vars c = false) : playZ vars found ((g, c) :: ls) i n N = ((i : Int), 40) := by
  unfold playZ; rw [if_neg h, if_pos hf]
theorem play_gone (h : ¬ 200000 < n + 1 + c.length) (hf : fairZ vars c = true) : playZ vars found ((true, c) :: ls) i n N = playZ vars found ls (i + 1) (n + 1 + c.length) (N.erase (setZ c)) := by
  conv => lhs; unfold playZ
  rw [if_neg h, if_neg (by rw [hf]; decide), if_pos rfl]
theorem play_no (h : ¬ 200000 < n + 1 + c.length) (hf : fairZ vars c = true) (hl : ¬ Line1 N c) : playZ vars found ((false, c) :: ls) i n N = ((i : Int), 60) := by
  unfold playZ; rw [if_neg h, if_neg (by rw [hf]; decide), if_neg (by decide), if_pos hl]
theorem play_here (h : ¬ 200000 < n + 1 + ([] : List Int).length) (hl : Line1 N []) : playZ vars found ((false, []) :: ls) i n N = (-1, 0) := by
  unfold playZ; rw [if_neg h, if_neg (by simp [fairZ]), if_neg (by decide), if_neg (fun e => e hl), if_pos rfl]
theorem play_add (h : ¬ 200000 < n + 1 + c.length) (hf : fairZ vars c = true) (hl : Line1 N c) (hc : c ≠ []) : playZ vars found ((false, c) :: ls) i n N = playZ vars found ls (i + 1) (n + 1 + c.length) (N ++ [setZ c]) := by
  conv => lhs; unfold playZ
  rw [if_neg h, if_neg (by rw [hf]; decide), if_neg (by decide), if_neg (fun e => e hl), if_neg hc]
end
/-! ### what may be added hangs on the sets alone -/
theorem subS_perm {N N' : List (List Int)} (h : N.Perm N') : SubS N N' := fun c hc => ⟨c, h.mem_iff.1 hc, fun _ => Iff.rfl⟩
theorem subS_set (cs : List (List Int)) : SubS cs (cs.map setZ) := fun c hc => ⟨setZ c, List.mem_map_of_mem hc, (setZ_spec c).2.symm⟩
theorem subS_unset (cs : List (List Int)) : SubS (cs.map setZ) cs := fun c hc => by
  obtain ⟨d, hd, rfl⟩ := List.mem_map.1 hc
  exact ⟨d, hd, (setZ_spec d).2⟩
theorem SubS.trans {a b c : List (List Int)} (h : SubS a b) (k : SubS b c) : SubS a c := fun x hx => by
  obtain ⟨y, h1, h2⟩ := h x hx
  obtain ⟨z, h3, h4⟩ := k y h1
  exact ⟨z, h3, h2.trans h4⟩
theorem others_same {z : Int} {c d zs : List Int} (h : SameM c d) : SameM (zs ++ others z c) (zs ++ others z d) := fun x => by
  rw [List.mem_append, List.mem_append, others_mem, others_mem, h x]
theorem line1_sub {cs cs' : List (List Int)} {c : List Int} (h1 : SubS cs cs') (h2 : SubS cs' cs) (h : Line1 cs c) : Line1 cs' c := by
  rcases h with h | ⟨z, e, h⟩
  · exact .inl ((fol_same h1 h2 fun _ => Iff.rfl).1 h)
  · refine .inr ⟨z, e, fun d hd hz => ?_⟩
    obtain ⟨d', h3, h4⟩ := h2 d hd
    exact (fol_same h1 h2 (others_same h4.symm)).1 (h d' h3 ((h4 _).1 hz))
theorem line1_iff {cs cs' : List (List Int)} {c : List Int} (h1 : SubS cs cs') (h2 : SubS cs' cs) : Line1 cs c ↔ Line1 cs' c := ⟨line1_sub h1 h2, line1_sub h2 h1⟩
theorem line1_set {cs : List (List Int)} {c : List Int} : Line1 (cs.map setZ) c ↔ Line1 cs c := line1_iff (subS_unset cs) (subS_set cs)
theorem play_perm (vars : Int) (found : Bool) : ∀ (ls : List (Bool × List Int)) (i n : Nat) {N N' : List (List Int)}, N.Perm N' → playZ vars found ls i n N = playZ vars found ls i n N'
  | [], i, n, N, N', _ => rfl
  | (g, c) :: ls, i, n, N, N', h => by
    by_cases h1 : 200000 < n + 1 + c.length
    · rw [play_long h1, play_long h1]
    · cases hf : fairZ vars c with
      | false => rw [play_form h1 hf, play_form h1 hf]
      | true =>
        cases g with
        | true => rw [play_gone h1 hf, play_gone h1 hf]; exact play_perm vars found ls _ _ (h.erase _)
        | false =>
          have hL : Line1 N c ↔ Line1 N' c := line1_iff (subS_perm h) (subS_perm h.symm)
          by_cases hl : Line1 N c
          · have hl' := hL.1 hl
            by_cases hc : c = []
            · subst hc
              rw [play_here h1 hl, play_here h1 hl']
            · rw [play_add h1 hf hl hc, play_add h1 hf hl' hc]
              exact play_perm vars found ls _ _ (h.append_right _)
          · rw [play_no h1 hf hl, play_no h1 hf fun e => hl (hL.2 e)]
/-- a clause of the same set is cut out -/
theorem erase_cut {cs : List (List Int)} {c : List Int} {k : Nat} (hk : k < cs.length) (h : SameM (cs.getD k []) c) : ((cs.take k ++ cs.drop (k + 1)).map setZ).Perm ((cs.map setZ).erase (setZ c)) := by
  have e : cs = cs.take k ++ cs.getD k [] :: cs.drop (k + 1) := by
    rw [List.getD_eq_getElem?_getD, List.getElem?_eq_getElem hk, Option.getD_some, ← List.drop_eq_getElem_cons hk, List.take_append_drop]
  have e2 : (cs.map setZ).Perm (setZ c :: (cs.take k ++ cs.drop (k + 1)).map setZ) := by
    conv => lhs; rw [e]
    rw [List.map_append, List.map_cons, setZ_eq.2 h, List.map_append]
    exact List.perm_middle
  have := e2.erase (setZ c)
  rw [List.erase_cons_head] at this
  exact this.symm
theorem erase_none {cs : List (List Int)} {c : List Int} (h : ∀ d ∈ cs, ¬ SameM d c) : (cs.map setZ).erase (setZ c) = cs.map setZ := by
  apply List.erase_of_not_mem
  intro hm
  obtain ⟨d, hd, e⟩ := List.mem_map.1 hm
  exact h d hd (setZ_eq.1 e)
/-! ### the whole answer -/
noncomputable def answerZ (vars : Int) (cs : List (List Int)) (e : Int) (ls : List (Bool × List Int)) : Int × Int :=
  if e = 0 then playZ vars (cs.any fun c => c.isEmpty) ls 0 0 (cs.map setZ) else (0, e)
end Go.Proofs.YtagfnjpjmmleiaaDoor
/- Drat: a clause less: what is kept (plain law). -/
set_option autoImplicit false
set_option linter.unusedVariables false
set_option linter.unusedSimpArgs false
namespace Go.Proofs.YtagfnjpjmmleiaaDoor
/-- the clause i, whose set is zs, is gone -/
noncomputable def remS (S : St) (zs : List Int) (i : Nat) : St := { S with K := upd S.K (keyL zs) (S.K (keyL zs)).dropLast, gone := upd S.gone i true, empty := if zs = [] then S.empty - 1 else S.empty, m := S.m + 1 }
theorem remS_gone (S : St) (zs : List Int) (i j : Nat) : (remS S zs i).gone j = if j = i then true else S.gone j := by
  show upd S.gone i true j = _
  by_cases e : j = i
  · rw [e, upd_same, if_pos rfl]
  · rw [upd_other _ _ e, if_neg e]
theorem alive_nodup (S : St) : (alive S).Nodup := List.nodup_range.filter _
theorem remS_alive (S : St) (zs : List Int) (i : Nat) : alive (remS S zs i) = (alive S).filter fun j => j != i := by
  unfold alive
  rw [List.filter_filter]
  show (List.range S.n).filter _ = _
  apply List.filter_congr
  intro j _
  rw [remS_gone]
  by_cases e : j = i
  · subst e; simp
  · simp [e]
theorem alive_perm {S : St} (zs : List Int) {i : Nat} (hi : i ∈ alive S) : (alive S).Perm (i :: alive (remS S zs i)) := by
  have h := List.perm_cons_erase hi
  rw [(alive_nodup S).erase_eq_filter i] at h
  rw [remS_alive]
  exact h
/-- whose a key's list is -/
theorem key_mem {V : Nat} {S : St} (h : Core V S) {zs : List Int} (hr : Rise zs) (i : Nat) : i ∈ S.K (keyL zs) ↔ i < S.n ∧ S.gone i = false ∧ SameM zs (S.lits i) := by
  rw [h.ks]
  constructor
  · rintro ⟨a, b, ys, c, d, e⟩
    rw [keyL_inj e]
    exact ⟨a, b, d⟩
  · rintro ⟨a, b, c⟩
    exact ⟨a, b, zs, hr, c, rfl⟩
theorem dropLast_mem {l : List Nat} (hn : l.Nodup) {i : Nat} (h : l.getLast? = some i) (j : Nat) : j ∈ l.dropLast ↔ j ∈ l ∧ j ≠ i := by
  have hne : l ≠ [] := by rintro rfl; cases h
  have hl : l.getLast hne = i := by rw [List.getLast?_eq_some_getLast hne] at h; exact Option.some.inj h
  have e := List.dropLast_concat_getLast hne
  rw [hl] at e
  rw [← e] at hn
  obtain ⟨_, _, h3⟩ := List.nodup_append.1 hn
  constructor
  · intro hj
    exact ⟨by rw [← e]; exact List.mem_append_left _ hj, fun e2 => h3 j hj i (by simp) e2⟩
  · rintro ⟨h1, h2⟩
    rw [← e] at h1
    rcases List.mem_append.1 h1 with h1 | h1
    · exact h1
    · exact absurd (List.mem_singleton.1 h1) h2
theorem rem_core {V : Nat} {S : St} (h : Core V S) {zs : List Int} (hr : Rise zs) {i : Nat} (hi : (S.K (keyL zs)).getLast? = some i) : Core V (remS S zs i) := by
  have him : i ∈ S.K (keyL zs) := List.mem_of_getLast? hi
  obtain ⟨hin, hig, his⟩ := (key_mem h hr i).1 him
  have hnil : zs = [] ↔ S.lits i = [] := by
    constructor
    · rintro rfl
      cases hl : S.lits i with
      | nil => rfl
      | cons a r => have := (his a).2 (by rw [hl]; simp); cases this
    · intro e
      cases zs with
      | nil => rfl
      | cons a r => have := (his a).1 (by simp); rw [e] at this; cases this
  refine ⟨h.vl, h.nd, h.li, h.un, h.hs, ?_, fun k => ?_, fun k j => ?_, h.ud, h.hd⟩
  · have hp := ((alive_perm zs (mem_alive.2 ⟨hin, hig⟩)).filter fun j => (S.lits j).length == 0).length_eq
    have e1 : S.empty = ((alive S).filter fun j => (S.lits j).length == 0).length := h.em
    show (if zs = [] then S.empty - 1 else S.empty) = ((alive (remS S zs i)).filter fun j => (S.lits j).length == 0).length
    by_cases e : zs = []
    · rw [if_pos e, e1, hp, List.filter_cons_of_pos (by rw [hnil.1 e]; rfl)]
      rfl
    · rw [if_neg e, e1, hp, List.filter_cons_of_neg (by
        intro h2
        have : (S.lits i).length = 0 := by simpa using h2
        exact e (hnil.2 (List.eq_nil_of_length_eq_zero this)))]
  · show (upd S.K (keyL zs) (S.K (keyL zs)).dropLast k).Nodup
    by_cases e : k = keyL zs
    · rw [e, upd_same]; exact (List.dropLast_sublist _).nodup (h.kn _)
    · rw [upd_other _ _ e]; exact h.kn k
  · rw [remS_gone]
    show j ∈ upd S.K (keyL zs) (S.K (keyL zs)).dropLast k ↔ j < S.n ∧ _ ∧ ∃ ys, Rise ys ∧ SameM ys (S.lits j) ∧ k = keyL ys
    by_cases e : k = keyL zs
    · rw [e, upd_same, dropLast_mem (h.kn _) hi, h.ks]
      by_cases ej : j = i
      · rw [if_pos ej]; exact ⟨fun h2 => absurd ej h2.2, fun h2 => by cases h2.2.1⟩
      · rw [if_neg ej]; exact ⟨fun h2 => h2.1, fun h2 => ⟨h2, ej⟩⟩
    · rw [upd_other _ _ e, h.ks]
      by_cases ej : j = i
      · rw [if_pos ej]
        refine ⟨fun h2 => ?_, fun h2 => by cases h2.2.1⟩
        obtain ⟨_, _, ys, h3, h4, h5⟩ := h2
        rw [ej] at h4
        exact absurd (h5.trans (congrArg keyL (rise_ext h3 hr fun x => (h4 x).trans (his x).symm))) e
      · rw [if_neg ej]
theorem rem_wt {S : St} (h : Wt S) (zs : List Int) (i : Nat) : Wt (remS S zs i) := by
  have hg : ∀ j, (remS S zs i).gone j = false → S.gone j = false := fun j e => by
    rw [remS_gone] at e
    by_cases ej : j = i
    · rw [if_pos ej] at e; cases e
    · rw [if_neg ej] at e; exact e
  exact ⟨h.wn, h.wi, fun j hj e => h.w1 j hj (hg j e), fun c j hj e => h.w2 c j hj (hg j e)⟩
theorem rem_rest {V : Nat} {S : St} (h : RestS V S) {zs : List Int} (hr : Rise zs) {i : Nat} (hi : (S.K (keyL zs)).getLast? = some i) : RestS V (remS S zs i) :=
  ⟨rem_core h.core hr hi, rem_wt h.wt zs i, h.tr, h.z⟩
theorem rem_cls {V : Nat} {S : St} (h : Core V S) {zs : List Int} (hr : Rise zs) {i : Nat} (hi : (S.K (keyL zs)).getLast? = some i) : ((cls (remS S zs i)).map setZ).Perm (((cls S).map setZ).erase zs) := by
  obtain ⟨hin, hig, his⟩ := (key_mem h hr i).1 (List.mem_of_getLast? hi)
  have hp := ((alive_perm zs (mem_alive.2 ⟨hin, hig⟩)).map S.lits).map setZ
  have e : setZ (S.lits i) = zs := rise_ext (setZ_spec _).1 hr fun x => ((setZ_spec _).2 x).trans (his x).symm
  rw [List.map_cons, List.map_cons, e] at hp
  have := hp.erase zs
  rw [List.erase_cons_head] at this
  exact this.symm
theorem rem_none {V : Nat} {S : St} (h : Core V S) {zs : List Int} (hr : Rise zs) (hi : S.K (keyL zs) = []) : ((cls S).map setZ).erase zs = (cls S).map setZ := by
  apply List.erase_of_not_mem
  intro hm
  obtain ⟨d, hd, e⟩ := List.mem_map.1 hm
  obtain ⟨j, h1, h2, rfl⟩ := mem_cls.1 hd
  have : j ∈ S.K (keyL zs) := (key_mem h hr j).2 ⟨h1, h2, fun x => by rw [← e]; exact (setZ_spec _).2 x⟩
  rw [hi] at this
  cases this
/-- a clause more -/
theorem add_cls {S : St} {zs : List Int} : (cls (addS S (setZ zs))).map setZ = (cls S).map setZ ++ [setZ zs] := by
  rw [addS_cls, List.map_append, List.map_singleton, setZ_setZ]
/-- the clauses' sets are what they were -/
theorem sim_cls {S S' : St} (h : Sim S S') : (cls S').map setZ = (cls S).map setZ := by
  unfold cls
  rw [h.alive, List.map_map, List.map_map]
  apply List.map_congr_left
  intro i _
  exact setZ_eq.2 (sameM_perm (h.lits i))
end Go.Proofs.YtagfnjpjmmleiaaDoor

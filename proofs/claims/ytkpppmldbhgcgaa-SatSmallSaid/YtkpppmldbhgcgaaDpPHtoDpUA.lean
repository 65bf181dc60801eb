/- Drat: what a line of a proof tells is so: a line that follows holds in each model; one that follows by its first literal leaves a model (plain law). -/
import Derived.Test.YtkpppmldbhgcgaaDpPFtoDpPG
import Derived.Lib.SlicesCompact
set_option linter.unusedVariables false
set_option linter.unusedSimpArgs false
set_option autoImplicit false
set_option linter.unusedVariables false
namespace Go.Proofs.Ytkpppmldbhgcgaa.D
open Go.Proofs Go
/-- a model: of each literal and its negation just one is true -/
def Mod (t : Int → Prop) : Prop := ∀ x, x ≠ 0 → (t (-x) ↔ ¬ t x)
def HoldsC (t : Int → Prop) (c : List Int) : Prop := ∃ y ∈ c, t y
def NonZ (c : List Int) : Prop := ∀ y ∈ c, y ≠ 0
theorem Lits.nonz {n : Nat} {c : List Int} (h : Lits n c) : NonZ c := fun y hy => (h y hy).1
theorem der_sound {cs : List (List Int)} {S : Int → Prop} {t : Int → Prop} (hm : Mod t) (hc : ∀ c ∈ cs, HoldsC t c) (hn : ∀ c ∈ cs, NonZ c) (hS : ∀ x, S x → t x) {x : Int} (h : Der cs S x) : t x := by
  induction h with
  | init x h => exact hS x h
  | unit c x hcc hx _ ih =>
    obtain ⟨y, hy, ht⟩ := hc c hcc
    by_cases e : y = x
    · rw [← e]; exact ht
    · exact absurd ht ((hm y (hn c hcc y hy)).1 (ih y hy e))
theorem confl_not {cs : List (List Int)} {S : Int → Prop} {t : Int → Prop} (hm : Mod t) (hc : ∀ c ∈ cs, HoldsC t c) (hn : ∀ c ∈ cs, NonZ c) (hS : ∀ x, S x → t x) : ¬ Confl cs S := by
  rintro ⟨c, hcc, hD⟩
  obtain ⟨y, hy, ht⟩ := hc c hcc
  exact (hm y (hn c hcc y hy)).1 (der_sound hm hc hn hS (hD y hy)) ht
/-- a line that follows holds in each model -/
theorem fol_sound {cs : List (List Int)} {zs : List Int} {t : Int → Prop} (hm : Mod t) (hc : ∀ c ∈ cs, HoldsC t c) (hn : ∀ c ∈ cs, NonZ c) (hz : NonZ zs) (h : Fol cs zs) : HoldsC t zs := by
  by_cases ht : HoldsC t zs
  · exact ht
  · have hno : ∀ y ∈ zs, ¬ t y := fun y hy e => ht ⟨y, hy, e⟩
    rcases h with ⟨y, a, b⟩ | h
    · exact absurd ((hm y (hz y a)).2 (hno y a)) (hno _ b)
    · refine absurd h (confl_not hm hc hn fun x hx => ?_)
      have := hno _ hx.2
      exact Classical.byContradiction fun e => this ((hm x hx.1).2 e)
/-- a line that follows by its first literal leaves a model -/
theorem by_sound {cs : List (List Int)} {zs : List Int} {z : Int} {t : Int → Prop} (hm : Mod t) (hc : ∀ c ∈ cs, HoldsC t c) (hn : ∀ c ∈ cs, NonZ c) (hz : NonZ zs) (hzz : z ∈ zs) (h : ∀ d ∈ cs, -z ∈ d → Fol cs (zs ++ others z d)) :
    ∃ t', Mod t' ∧ (∀ c ∈ cs, HoldsC t' c) ∧ HoldsC t' zs := by
  by_cases ht : HoldsC t zs
  · exact ⟨t, hm, hc, ht⟩
  · have hz0 := hz z hzz
    have keep : ∀ y, y ≠ -z → t y → (y = z ∨ (y ≠ -z ∧ t y)) := fun y h1 h2 => .inr ⟨h1, h2⟩
    refine ⟨fun y => y = z ∨ (y ≠ -z ∧ t y), fun x hx => ?_, fun d hd => ?_, ⟨z, hzz, .inl rfl⟩⟩
    · have hx2 := hm x hx
      by_cases e1 : x = z
      · subst e1
        constructor
        · rintro (e | ⟨e, _⟩)
          · omega
          · exact absurd rfl e
        · exact fun e => absurd (.inl rfl) e
      · by_cases e2 : x = -z
        · subst e2
          constructor
          · rintro _ (e | ⟨e, _⟩)
            · exact e1 e
            · exact e rfl
          · exact fun _ => .inl (by omega)
        · constructor
          · rintro (e | ⟨_, e⟩)
            · omega
            · rintro (e3 | ⟨_, e3⟩)
              · exact e1 e3
              · exact hx2.1 e e3
          · intro e
            refine .inr ⟨by omega, hx2.2 fun e3 => e (.inr ⟨e2, e3⟩)⟩
    · by_cases hneg : -z ∈ d
      · have hzd : NonZ (zs ++ others z d) := fun y hy => by
          rcases List.mem_append.1 hy with e | e
          · exact hz y e
          · exact hn d hd y (others_mem.1 e).1
        obtain ⟨y, hy, hty⟩ := fol_sound hm hc hn hzd (h d hd hneg)
        rcases List.mem_append.1 hy with e | e
        · exact absurd ⟨y, e, hty⟩ ht
        · obtain ⟨a, b⟩ := others_mem.1 e
          exact ⟨y, a, keep y b hty⟩
      · obtain ⟨y, hy, hty⟩ := hc d hd
        exact ⟨y, hy, keep y (fun e => hneg (e ▸ hy)) hty⟩
/-- the empty line does not hold -/
theorem not_holds_nil (t : Int → Prop) : ¬ HoldsC t [] := by
  rintro ⟨y, hy, _⟩
  cases hy
/-- may a line be added? -/
def Line1 (cs : List (List Int)) (zs : List Int) : Prop := Fol cs zs ∨ ∃ z, zs.head? = some z ∧ ∀ d ∈ cs, -z ∈ d → Fol cs (zs ++ others z d)
/-- a proof that is taken: the empty line comes at last; what is taken away is of the clauses that there are -/
inductive Taken : List (List Int) → List (Bool × List Int) → Prop
  | here (cs : List (List Int)) (rest : List (Bool × List Int)) : Line1 cs [] → Taken cs ((false, []) :: rest)
  | add (cs : List (List Int)) (zs : List Int) (rest : List (Bool × List Int)) : Line1 cs zs → Taken (cs ++ [zs]) rest → Taken cs ((false, zs) :: rest)
  | gone (cs cs' : List (List Int)) (zs : List Int) (rest : List (Bool × List Int)) : (∀ c ∈ cs', c ∈ cs) → Taken cs' rest → Taken cs ((true, zs) :: rest)
theorem line1_sound {cs : List (List Int)} {zs : List Int} {t : Int → Prop} (hm : Mod t) (hc : ∀ c ∈ cs, HoldsC t c) (hn : ∀ c ∈ cs, NonZ c) (hz : NonZ zs) (h : Line1 cs zs) : ∃ t', Mod t' ∧ (∀ c ∈ cs, HoldsC t' c) ∧ HoldsC t' zs := by
  rcases h with h | ⟨z, h0, h⟩
  · exact ⟨t, hm, hc, fol_sound hm hc hn hz h⟩
  · exact by_sound hm hc hn hz (List.mem_of_mem_head? h0) h
/-- THE LAW of DratSound: clauses that have a model have no proof -/
theorem taken_no_model {cs : List (List Int)} {ls : List (Bool × List Int)} (h : Taken cs ls) : (∀ c ∈ cs, NonZ c) → (∀ l ∈ ls, NonZ l.2) → ∀ t : Int → Prop, Mod t → ¬ ∀ c ∈ cs, HoldsC t c := by
  induction h with
  | here cs rest h =>
    intro hn _ t hm hc
    obtain ⟨t', _, _, hh⟩ := line1_sound hm hc hn (fun y hy => (by cases hy)) h
    exact not_holds_nil t' hh
  | add cs zs rest h _ ih =>
    intro hn hl t hm hc
    have hz : NonZ zs := hl _ (List.mem_cons_self ..)
    obtain ⟨t', h1, h2, h3⟩ := line1_sound hm hc hn hz h
    refine ih (fun c hc => ?_) (fun l hl' => hl l (List.mem_cons_of_mem _ hl')) t' h1 fun c hc => ?_
    · rcases List.mem_append.1 hc with e | e
      · exact hn c e
      · rw [List.mem_singleton.1 e]; exact hz
    · rcases List.mem_append.1 hc with e | e
      · exact h2 c e
      · rw [List.mem_singleton.1 e]; exact h3
  | gone cs cs' zs rest hsub _ ih =>
    intro hn hl t hm hc
    exact ih (fun c h => hn c (hsub c h)) (fun l hl' => hl l (List.mem_cons_of_mem _ hl')) t hm fun c h => hc c (hsub c h)
end Go.Proofs.Ytkpppmldbhgcgaa.D
/- Sat: what the check of a proof answers, over clauses as sets (plain). -/
set_option autoImplicit false
set_option linter.unusedVariables false
set_option linter.unusedSimpArgs false
namespace Go.Proofs.Ytkpppmldbhgcgaa.D
open Go.Proofs Go
open Go.Shelf Go.RowKit
/-- rising -/
def Rise (zs : List Int) : Prop := zs.Pairwise (· < ·)
theorem SameM.trans {a b c : List Int} (h : SameM a b) (k : SameM b c) : SameM a c := fun x => (h x).trans (k x)
/-- rising lists of the same members are one -/
theorem rise_ext : ∀ {a b : List Int}, Rise a → Rise b → SameM a b → a = b
  | [], [], _, _, _ => rfl
  | [], y :: b, _, _, h => absurd ((h y).2 (by simp)) (by simp)
  | x :: a, [], _, _, h => absurd ((h x).1 (by simp)) (by simp)
  | x :: a, y :: b, ha, hb, h => by
    obtain ⟨a1, a2⟩ := List.pairwise_cons.1 ha
    obtain ⟨b1, b2⟩ := List.pairwise_cons.1 hb
    have hxy : x = y := by
      rcases List.mem_cons.1 ((h x).1 (by simp)) with e | e
      · exact e
      · rcases List.mem_cons.1 ((h y).2 (by simp)) with e2 | e2
        · exact e2.symm
        · have := b1 x e; have := a1 y e2; omega
    subst hxy
    refine congrArg _ (rise_ext a2 b2 fun z => ?_)
    constructor
    · intro hz
      rcases List.mem_cons.1 ((h z).1 (List.mem_cons_of_mem _ hz)) with e | e
      · have := a1 z hz; omega
      · exact e
    · intro hz
      rcases List.mem_cons.1 ((h z).2 (List.mem_cons_of_mem _ hz)) with e | e
      · have := b1 z hz; omega
      · exact e
open Go.Shelf Go.RowKit Go.Sort
def sortZ (zs : List Int) : List Int := zs.mergeSort fun x y => decide (x ≤ y)
/-- each once, rising -/
def setZ (zs : List Int) : List Int := Lib.compact (sortZ zs)
theorem compact_nil : Lib.compact ([] : List Int) = [] := rfl
theorem setZ_nil : setZ [] = [] := by simp [setZ, sortZ, compact_nil]
theorem sortZ_len (zs : List Int) : (sortZ zs).length = zs.length := List.length_mergeSort zs
theorem sortZ_mem (zs : List Int) (x : Int) : x ∈ sortZ zs ↔ x ∈ zs := (List.mergeSort_perm zs _).mem_iff
theorem sortZ_le (zs : List Int) : (sortZ zs).Pairwise (· ≤ ·) := by
  have := List.pairwise_mergeSort (le := fun x y : Int => decide (x ≤ y)) (fun a b c => by simp; omega) (fun a b => by simp; omega) zs
  exact this.imp fun {a b} h => by simpa using h
theorem setZ_len (zs : List Int) : (setZ zs).length ≤ zs.length := Nat.le_trans (Lib.compact_length_le _) (Nat.le_of_eq (sortZ_len zs))
/-- of a rising list's runs the first of each -/
theorem compact_spec (zs : List Int) (h : zs.Pairwise (· ≤ ·)) : Rise (Lib.compact zs) ∧ SameM (Lib.compact zs) zs := by
  have hle : ∀ i j, i ≤ j → j < zs.length → zs.toArray[i]! ≤ zs.toArray[j]! := fun i j hij hj => by
    rcases Nat.lt_or_ge i j with h1 | h1
    · have := List.pairwise_iff_getElem.1 h i j (by omega) hj h1
      simpa [getElem!_pos, show i < zs.length by omega, hj] using this
    · rw [Nat.le_antisymm hij h1]; exact Int.le_refl _
  have key : ∀ m, m ≤ zs.length → Rise (Lib.compactUpTo zs.toArray m) ∧ (∀ x, x ∈ Lib.compactUpTo zs.toArray m ↔ ∃ j, j < m ∧ zs.toArray[j]! = x) ∧ ∀ x ∈ Lib.compactUpTo zs.toArray m, 0 < m ∧ x ≤ zs.toArray[m - 1]! := by
    intro m
    induction m with
    | zero => intro _; exact ⟨List.Pairwise.nil, fun x => ⟨fun e => (by cases e), fun ⟨j, e, _⟩ => by omega⟩, fun x hx => (by cases hx)⟩
    | succ m ih =>
      intro hm
      obtain ⟨i1, i2, i3⟩ := ih (by omega)
      rw [Lib.compactUpTo_succ]
      by_cases hk : Lib.keeps zs.toArray m = true
      · rw [if_pos hk]
        refine ⟨List.pairwise_append.2 ⟨i1, List.pairwise_singleton _ _, fun x hx y hy => ?_⟩, fun x => ?_, fun x hx => ⟨by omega, ?_⟩⟩
        · rw [List.mem_singleton.1 hy]
          obtain ⟨h0, hx⟩ := i3 x hx
          have h1 := hle (m - 1) m (by omega) (by omega)
          have hne : zs.toArray[m]! ≠ zs.toArray[m - 1]! := by
            intro e
            rw [Lib.keeps_neg h0 e] at hk; cases hk
          omega
        · rw [List.mem_append, List.mem_singleton, i2]
          constructor
          · rintro (⟨j, a, b⟩ | e)
            · exact ⟨j, by omega, b⟩
            · exact ⟨m, by omega, e.symm⟩
          · rintro ⟨j, a, b⟩
            rcases Nat.lt_or_ge j m with h1 | h1
            · exact .inl ⟨j, h1, b⟩
            · rw [show j = m by omega] at b; exact .inr b.symm
        · rw [show m + 1 - 1 = m by omega]
          rcases List.mem_append.1 hx with e | e
          · obtain ⟨h0, hx⟩ := i3 x e
            exact Int.le_trans hx (hle (m - 1) m (by omega) (by omega))
          · rw [List.mem_singleton.1 e]; exact Int.le_refl _
      · have hk : Lib.keeps zs.toArray m = false := by simpa using hk
        have h0 : 0 < m := by
          rcases Nat.eq_zero_or_pos m with e | e
          · subst e; rw [Lib.keeps_lt_one _ 0 (by omega)] at hk; cases hk
          · exact e
        have he : zs.toArray[m]! = zs.toArray[m - 1]! := by
          by_cases e : zs.toArray[m]! = zs.toArray[m - 1]!
          · exact e
          · rw [Lib.keeps_pos e] at hk; cases hk
        rw [hk, if_neg (by decide), List.append_nil]
        refine ⟨i1, fun x => ?_, fun x hx => ⟨by omega, ?_⟩⟩
        · rw [i2]
          constructor
          · rintro ⟨j, a, b⟩
            exact ⟨j, by omega, b⟩
          · rintro ⟨j, a, b⟩
            rcases Nat.lt_or_ge j m with h1 | h1
            · exact ⟨j, h1, b⟩
            · rw [show j = m by omega, he] at b; exact ⟨m - 1, by omega, b⟩
        · obtain ⟨_, hx⟩ := i3 x hx
          rw [show m + 1 - 1 = m by omega, he]; exact hx
  obtain ⟨k1, k2, _⟩ := key zs.length (Nat.le_refl _)
  refine ⟨k1, fun x => ?_⟩
  show x ∈ Lib.compactUpTo zs.toArray zs.length ↔ _
  rw [k2]
  constructor
  · rintro ⟨j, a, b⟩
    have : zs.toArray[j]! = zs[j] := by simp [getElem!_pos, a]
    rw [← b, this]; exact List.getElem_mem _
  · intro hx
    obtain ⟨j, a, b⟩ := List.mem_iff_getElem.1 hx
    refine ⟨j, a, ?_⟩
    have : zs.toArray[j]! = zs[j] := by simp [getElem!_pos, a]
    rw [this]; exact b
theorem setZ_spec (zs : List Int) : Rise (setZ zs) ∧ SameM (setZ zs) zs := by
  obtain ⟨h1, h2⟩ := compact_spec (sortZ zs) (sortZ_le zs)
  exact ⟨h1, fun x => (h2 x).trans (sortZ_mem zs x)⟩
theorem setZ_eq {a b : List Int} : setZ a = setZ b ↔ SameM a b := by
  obtain ⟨a1, a2⟩ := setZ_spec a
  obtain ⟨b1, b2⟩ := setZ_spec b
  constructor
  · intro h x
    rw [← a2 x, h, b2 x]
  · intro h
    exact rise_ext a1 b1 fun x => (a2 x).trans ((h x).trans (b2 x).symm)
theorem setZ_nil_iff {a : List Int} : setZ a = [] ↔ a = [] := by
  constructor
  · intro h
    cases a with
    | nil => rfl
    | cons x a =>
      have := ((setZ_spec (x :: a)).2 x).2 (by simp)
      rw [h] at this; cases this
  · rintro rfl; exact setZ_nil
theorem setZ_rise {zs : List Int} (h : Rise zs) : setZ zs = zs := rise_ext (setZ_spec zs).1 h (setZ_spec zs).2
theorem setZ_setZ (zs : List Int) : setZ (setZ zs) = setZ zs := setZ_rise (setZ_spec zs).1
/-! ### the check of a proof -/
open Classical in
/-- from a line on: the line's number, how many literals so far, the clauses as sets -/
noncomputable def playZ (vars : Int) (found : Bool) : List (Bool × List Int) → Nat → Nat → List (List Int) → Int × Int
  | [], i, _, _ => if found = true then (-1, 0) else ((i : Int), 60)
  | (g, c) :: ls, i, n, N =>
    if 200000 < n + 1 + c.length then ((i : Int), 2)
    else if fairZ vars c = false then ((i : Int), 40)
    else if g = true then playZ vars found ls (i + 1) (n + 1 + c.length) (N.erase (setZ c))
    else if ¬ Line1 N c then ((i : Int), 60)
    else if c = [] then (-1, 0)
    else playZ vars found ls (i + 1) (n + 1 + c.length) (N ++ [setZ c])
section
variable {vars : Int} {found : Bool} {ls : List (Bool × List Int)} {g : Bool} {c : List Int} {i n : Nat} {N N' : List (List Int)}
theorem play_nil : playZ vars found [] i n N = if found = true then (-1, 0) else ((i : Int), 60) := rfl
theorem play_long (h : 200000 < n + 1 + c.length) : playZ vars found ((g, c) :: ls) i n N = ((i : Int), 2) := by
  unfold playZ; rw [if_pos h]
theorem play_form (h : ¬ 200000 < n + 1 + c.length) (hf : fairZ vars c = false) : playZ vars found ((g, c) :: ls) i n N = ((i : Int), 40) := by
  unfold playZ; rw [if_neg h, if_pos hf]
theorem play_gone (h : ¬ 200000 < n + 1 + c.length) (hf : fairZ vars c = true) : playZ vars found ((true, c) :: ls) i n N = playZ vars found ls (i + 1) (n + 1 + c.length) (N.erase (setZ c)) := by
  conv => lhs; unfold playZ
  rw [if_neg h, if_neg (by rw [hf]; decide), if_pos rfl]
theorem play_no (h : ¬ 200000 < n + 1 + c.length) (hf : fairZ vars c = true) (hl : ¬ Line1 N c) : playZ vars found ((false, c) :: ls) i n N = ((i : Int), 60) := by
  unfold playZ; rw [if_neg h, if_neg (by rw [hf]; decide), if_neg (by decide), if_pos hl]
theorem play_here (h : ¬ 200000 < n + 1 + ([] : List Int).length) (hl : Line1 N []) : playZ vars found ((false, []) :: ls) i n N = (-1, 0) := by
  unfold playZ; rw [if_neg h, if_neg (by simp [fairZ]), if_neg (by decide), if_neg (fun e => e hl), if_pos rfl]
theorem play_add (h : ¬ 200000 < n + 1 + c.length) (hf : fairZ vars c = true) (hl : Line1 N c) (hc : c ≠ []) : playZ vars found ((false, c) :: ls) i n N = playZ vars found ls (i + 1) (n + 1 + c.length) (N ++ [setZ c]) := by
  conv => lhs; unfold playZ
  rw [if_neg h, if_neg (by rw [hf]; decide), if_neg (by decide), if_neg (fun e => e hl), if_neg hc]
end
/-! ### what may be added hangs on the sets alone -/
theorem subS_perm {N N' : List (List Int)} (h : N.Perm N') : SubS N N' := fun c hc => ⟨c, h.mem_iff.1 hc, fun _ => Iff.rfl⟩
theorem subS_set (cs : List (List Int)) : SubS cs (cs.map setZ) := fun c hc => ⟨setZ c, List.mem_map_of_mem hc, (setZ_spec c).2.symm⟩
theorem subS_unset (cs : List (List Int)) : SubS (cs.map setZ) cs := fun c hc => by
  obtain ⟨d, hd, rfl⟩ := List.mem_map.1 hc
  exact ⟨d, hd, (setZ_spec d).2⟩
theorem SubS.trans {a b c : List (List Int)} (h : SubS a b) (k : SubS b c) : SubS a c := fun x hx => by
  obtain ⟨y, h1, h2⟩ := h x hx
  obtain ⟨z, h3, h4⟩ := k y h1
  exact ⟨z, h3, h2.trans h4⟩
theorem others_same {z : Int} {c d zs : List Int} (h : SameM c d) : SameM (zs ++ others z c) (zs ++ others z d) := fun x => by
  rw [List.mem_append, List.mem_append, others_mem, others_mem, h x]
theorem line1_sub {cs cs' : List (List Int)} {c : List Int} (h1 : SubS cs cs') (h2 : SubS cs' cs) (h : Line1 cs c) : Line1 cs' c := by
  rcases h with h | ⟨z, e, h⟩
  · exact .inl ((fol_same h1 h2 fun _ => Iff.rfl).1 h)
  · refine .inr ⟨z, e, fun d hd hz => ?_⟩
    obtain ⟨d', h3, h4⟩ := h2 d hd
    exact (fol_same h1 h2 (others_same h4.symm)).1 (h d' h3 ((h4 _).1 hz))
theorem line1_iff {cs cs' : List (List Int)} {c : List Int} (h1 : SubS cs cs') (h2 : SubS cs' cs) : Line1 cs c ↔ Line1 cs' c := ⟨line1_sub h1 h2, line1_sub h2 h1⟩
theorem line1_set {cs : List (List Int)} {c : List Int} : Line1 (cs.map setZ) c ↔ Line1 cs c := line1_iff (subS_unset cs) (subS_set cs)
theorem play_perm (vars : Int) (found : Bool) : ∀ (ls : List (Bool × List Int)) (i n : Nat) {N N' : List (List Int)}, N.Perm N' → playZ vars found ls i n N = playZ vars found ls i n N'
  | [], i, n, N, N', _ => rfl
  | (g, c) :: ls, i, n, N, N', h => by
    by_cases h1 : 200000 < n + 1 + c.length
    · rw [play_long h1, play_long h1]
    · cases hf : fairZ vars c with
      | false => rw [play_form h1 hf, play_form h1 hf]
      | true =>
        cases g with
        | true => rw [play_gone h1 hf, play_gone h1 hf]; exact play_perm vars found ls _ _ (h.erase _)
        | false =>
          have hL : Line1 N c ↔ Line1 N' c := line1_iff (subS_perm h) (subS_perm h.symm)
          by_cases hl : Line1 N c
          · have hl' := hL.1 hl
            by_cases hc : c = []
            · subst hc
              rw [play_here h1 hl, play_here h1 hl']
            · rw [play_add h1 hf hl hc, play_add h1 hf hl' hc]
              exact play_perm vars found ls _ _ (h.append_right _)
          · rw [play_no h1 hf hl, play_no h1 hf fun e => hl (hL.2 e)]
/-- a clause of the same set is cut out -/
theorem erase_cut {cs : List (List Int)} {c : List Int} {k : Nat} (hk : k < cs.length) (h : SameM (cs.getD k []) c) : ((cs.take k ++ cs.drop (k + 1)).map setZ).Perm ((cs.map setZ).erase (setZ c)) := by
  have e : cs = cs.take k ++ cs.getD k [] :: cs.drop (k + 1) := by
    rw [List.getD_eq_getElem?_getD, List.getElem?_eq_getElem hk, Option.getD_some, ← List.drop_eq_getElem_cons hk, List.take_append_drop]
  have e2 : (cs.map setZ).Perm (setZ c :: (cs.take k ++ cs.drop (k + 1)).map setZ) := by
    conv => lhs; rw [e]
    rw [List.map_append, List.map_cons, setZ_eq.2 h, List.map_append]
    exact List.perm_middle
  have := e2.erase (setZ c)
  rw [List.erase_cons_head] at this
  exact this.symm
theorem erase_none {cs : List (List Int)} {c : List Int} (h : ∀ d ∈ cs, ¬ SameM d c) : (cs.map setZ).erase (setZ c) = cs.map setZ := by
  apply List.erase_of_not_mem
  intro hm
  obtain ⟨d, hd, e⟩ := List.mem_map.1 hm
  exact h d hd (setZ_eq.1 e)
/-! ### the whole answer -/
noncomputable def answerZ (vars : Int) (cs : List (List Int)) (e : Int) (ls : List (Bool × List Int)) : Int × Int :=
  if e = 0 then playZ vars (cs.any fun c => c.isEmpty) ls 0 0 (cs.map setZ) else (0, e)
end Go.Proofs.Ytkpppmldbhgcgaa.D

/- Kind, plain: systems, what a tick does, all states one behind the other. -/
set_option linter.unusedVariables false
set_option linter.unusedSimpArgs false
set_option autoImplicit false
set_option linter.unusedVariables false
namespace Kb
/-- a system -/
structure Sy where
  gates : List (Int × Int × Int)
  now : List Int
  next : List Int
  ins : List Int
  init : List Bool
  ok : Int
  asm : Int
def opZ (gs : List (Int × Int × Int)) (i : Nat) : Int := (gs.getD i (0, 0, 0)).1
def aZ (gs : List (Int × Int × Int)) (i : Nat) : Int := (gs.getD i (0, 0, 0)).2.1
def bZ (gs : List (Int × Int × Int)) (i : Nat) : Int := (gs.getD i (0, 0, 0)).2.2
/-- may a gate stand at a place? -/
def gOK (gs : List (Int × Int × Int)) (i : Nat) : Prop := ((opZ gs i = 1 ∨ opZ gs i = 2) ∧ aZ gs i = 0 ∧ bZ gs i = 0) ∨ (opZ gs i = 3 ∧ 0 ≤ aZ gs i ∧ 0 ≤ bZ gs i ∧ aZ gs i < 2 * i ∧ bZ gs i < 2 * i)
def netOK (gs : List (Int × Int × Int)) : Prop := ∀ i, i < gs.length → gOK gs i
/-- places of the inputs -/
def inputsZ (gs : List (Int × Int × Int)) : List Nat := (List.range gs.length).filter fun i => opZ gs i == 2
/-- is a wire one of so many gates? -/
def wOK (n : Nat) (w : Int) : Prop := 0 ≤ w ∧ w < 2 * n
structure Good (s : Sy) : Prop where
  net : netOK s.gates
  nx : s.next.length = s.now.length
  it : s.init.length = s.now.length
  wires : ∀ w ∈ s.next ++ [s.ok, s.asm], wOK s.gates.length w
  inw : ∀ w ∈ s.now ++ s.ins, wOK s.gates.length w ∧ w % 2 = 0 ∧ opZ s.gates (w / 2).toNat = 2
  nd : (s.now ++ s.ins).Nodup
  all : (inputsZ s.gates).length = (s.now ++ s.ins).length
theorem mem_inputs {gs : List (Int × Int × Int)} {i : Nat} : i ∈ inputsZ gs ↔ i < gs.length ∧ opZ gs i = 2 := by
  unfold inputsZ
  rw [List.mem_filter, List.mem_range]
  simp
theorem nd_inputs (gs : List (Int × Int × Int)) : (inputsZ gs).Nodup := List.nodup_range.filter _
theorem subset_of_len {α : Type} [DecidableEq α] {l l' : List α} (hn : l.Nodup) (hs : l ⊆ l') (hl : l'.length ≤ l.length) (hn' : l'.Nodup) : l' ⊆ l := fun x hx => by
  apply Classical.byContradiction
  intro hc
  have h1 : (x :: l).Nodup := List.nodup_cons.2 ⟨hc, hn⟩
  have h2 : (x :: l) ⊆ l' := fun y hy => by
    rcases List.mem_cons.1 hy with e | e
    · rw [e]; exact hx
    · exact hs e
  have := List.Nodup.length_le_of_subset h1 h2
  rw [List.length_cons] at this
  omega
/-- each input gate is one of Now or Ins -/
theorem Good.cover {s : Sy} (h : Good s) {i : Nat} (hi : i < s.gates.length) (ho : opZ s.gates i = 2) : (2 * (i : Int)) ∈ s.now ++ s.ins := by
  have hn : ((s.now ++ s.ins).map fun w => (w / 2).toNat).Nodup := by
    rw [List.nodup_iff_pairwise_ne, List.pairwise_map]
    refine (List.nodup_iff_pairwise_ne.1 h.nd).imp_of_mem ?_
    intro a b ha hb hab e
    obtain ⟨⟨a1, _⟩, a2, _⟩ := h.inw a ha
    obtain ⟨⟨b1, _⟩, b2, _⟩ := h.inw b hb
    omega
  have hs : ((s.now ++ s.ins).map fun w => (w / 2).toNat) ⊆ inputsZ s.gates := fun x hx => by
    obtain ⟨w, hw, rfl⟩ := List.mem_map.1 hx
    obtain ⟨⟨a1, a3⟩, a2, a4⟩ := h.inw w hw
    exact mem_inputs.2 ⟨by omega, a4⟩
  have := subset_of_len hn hs (by rw [List.length_map, h.all]; exact Nat.le_refl _) (nd_inputs _) (mem_inputs.2 ⟨hi, ho⟩)
  obtain ⟨w, hw, e⟩ := List.mem_map.1 this
  obtain ⟨⟨a1, _⟩, a2, _⟩ := h.inw w hw
  have : w = 2 * (i : Int) := by omega
  rw [← this]
  exact hw
/-! ### a tick -/
/-- values put at wires' places -/
def setAll : List Bool → List Int → List Bool → List Bool
  | v, [], _ => v
  | v, _ :: _, [] => v
  | v, w :: ws, b :: bs => setAll (v.set (w / 2).toNat b) ws bs
theorem setAll_len : ∀ (ws : List Int) (bs v : List Bool), (setAll v ws bs).length = v.length
  | [], _, _ => by simp only [setAll]
  | _ :: _, [], _ => by simp only [setAll]
  | w :: ws, b :: bs, v => by
    simp only [setAll]
    rw [setAll_len ws bs, List.length_set]
theorem setAll_not : ∀ (ws : List Int) (bs v : List Bool) (i : Nat), (∀ w ∈ ws, (w / 2).toNat ≠ i) → (setAll v ws bs).getD i false = v.getD i false
  | [], _, _, _, _ => by simp only [setAll]
  | _ :: _, [], _, _, _ => by simp only [setAll]
  | w :: ws, b :: bs, v, i, h => by
    simp only [setAll]
    rw [setAll_not ws bs _ i fun w hw => h w (List.mem_cons_of_mem _ hw)]
    rw [List.getD_eq_getElem?_getD, List.getD_eq_getElem?_getD, List.getElem?_set_ne (h w (List.mem_cons_self ..))]
/-- the inputs of a net, by state and inputs -/
def baseZ (s : Sy) (st ins : List Bool) : List Bool := setAll (setAll (List.replicate s.gates.length false) s.now st) s.ins ins
theorem baseZ_len (s : Sy) (st ins : List Bool) : (baseZ s st ins).length = s.gates.length := by
  unfold baseZ
  rw [setAll_len, setAll_len, List.length_replicate]
theorem baseZ_not {s : Sy} (h : Good s) (st ins : List Bool) {i : Nat} (ho : opZ s.gates i ≠ 2) : (baseZ s st ins).getD i false = false := by
  have hne : ∀ w ∈ s.now ++ s.ins, (w / 2).toNat ≠ i := fun w hw e => by
    obtain ⟨_, _, a4⟩ := h.inw w hw
    rw [e] at a4
    exact ho a4
  unfold baseZ
  rw [setAll_not _ _ _ _ fun w hw => hne w (List.mem_append_right _ hw), setAll_not _ _ _ _ fun w hw => hne w (List.mem_append_left _ hw)]
  rw [List.getD_eq_getElem?_getD, List.getElem?_replicate]
  split <;> rfl
def atZ (l : List Bool) (w : Int) : Bool := l.getD (w / 2).toNat false != (w % 2 == 1)
/-- the values of the first k gates -/
def valZ (gs : List (Int × Int × Int)) (v0 : List Bool) : Nat → List Bool
  | 0 => []
  | k + 1 => valZ gs v0 k ++ [if opZ gs k = 3 then atZ (valZ gs v0 k) (aZ gs k) && atZ (valZ gs v0 k) (bZ gs k) else v0.getD k false]
theorem valZ_len (gs : List (Int × Int × Int)) (v0 : List Bool) : ∀ k, (valZ gs v0 k).length = k
  | 0 => rfl
  | k + 1 => by
    unfold valZ
    rw [List.length_append, valZ_len gs v0 k]
    rfl
theorem atZ_append {l l' : List Bool} {w : Int} (h0 : 0 ≤ w) (h : w < 2 * l.length) : atZ (l ++ l') w = atZ l w := by
  unfold atZ
  rw [List.getD_eq_getElem?_getD, List.getD_eq_getElem?_getD, List.getElem?_append_left (by omega)]
def valsZ (s : Sy) (st ins : List Bool) : List Bool := valZ s.gates (baseZ s st ins) s.gates.length
/-- a tick: the next state, ok, assume -/
def nextZ (s : Sy) (st ins : List Bool) : List Bool := s.next.map (atZ (valsZ s st ins))
def okZ (s : Sy) (st ins : List Bool) : Bool := atZ (valsZ s st ins) s.ok
def asmZ (s : Sy) (st ins : List Bool) : Bool := atZ (valsZ s st ins) s.asm
/-! ### inputs by number -/
def bitsZ : Nat → Nat → List Bool
  | 0, _ => []
  | m + 1, n => (n % 2 == 1) :: bitsZ m (n / 2)
theorem bitsZ_len : ∀ m n, (bitsZ m n).length = m
  | 0, _ => rfl
  | m + 1, n => by unfold bitsZ; rw [List.length_cons, bitsZ_len m]
/-! ### all states -/
/-- a state that was come to -/
structure Vi where
  st : List Bool
  fr : Int
  inp : Int
  tick : Nat
def seenZ (l : List Vi) (st : List Bool) : Bool := l.any fun v => v.st == st
/-- a bad tick -/
def badZ (s : Sy) (v : Vi) (n : Nat) : Bool := asmZ s v.st (bitsZ s.ins.length n) && !okZ s v.st (bitsZ s.ins.length n)
/-- what a state and inputs lead to -/
def growZ (s : Sy) (l : List Vi) (at' n : Nat) (v : Vi) : List Vi :=
  if asmZ s v.st (bitsZ s.ins.length n) && !seenZ l (nextZ s v.st (bitsZ s.ins.length n)) then l ++ [⟨nextZ s v.st (bitsZ s.ins.length n), at', n, v.tick + 1⟩] else l
/-- all states, up to the first bad tick: (the list; the place and the inputs) -/
def run : Nat → Sy → List Vi → Nat → Nat → Option (List Vi × Option (Nat × Nat))
  | 0, _, _, _, _ => none
  | f + 1, s, l, a, n =>
    match l[a]? with
    | none => some (l, none)
    | some v => if n < 2 ^ s.ins.length then (if badZ s v n then some (l, some (a, n)) else run f s (growZ s l a n v) a (n + 1)) else run f s l (a + 1) 0
def start (s : Sy) : List Vi := [⟨s.init, -1, 0, 0⟩]
end Kb
/- Kind, plain: all states one behind the other: what holds of the list; that it ends; what a bad run is. -/
set_option autoImplicit false
set_option linter.unusedVariables false
namespace Kb
theorem nextZ_len {s : Sy} (h : Good s) (st ins : List Bool) : (nextZ s st ins).length = s.now.length := by
  unfold nextZ
  rw [List.length_map, h.nx]
/-- what holds of the list while the a-th state is looked at -/
structure Inv (s : Sy) (l : List Vi) (a : Nat) : Prop where
  root : l[0]? = some ⟨s.init, -1, 0, 0⟩
  len : ∀ v ∈ l, v.st.length = s.now.length
  nd : (l.map Vi.st).Nodup
  path : ∀ (j : Nat) (v : Vi), 0 < j → l[j]? = some v → ∃ (p n : Nat) (u : Vi), p < j ∧ p ≤ a ∧ l[p]? = some u ∧ v.fr = (p : Int) ∧ v.inp = (n : Int) ∧ n < 2 ^ s.ins.length ∧ v.st = nextZ s u.st (bitsZ s.ins.length n) ∧ asmZ s u.st (bitsZ s.ins.length n) = true ∧ v.tick = u.tick + 1
  srt : ∀ (i j : Nat) (u v : Vi), i ≤ j → l[i]? = some u → l[j]? = some v → u.tick ≤ v.tick
  near : ∀ (j : Nat) (u v : Vi), l[a]? = some u → l[j]? = some v → v.tick ≤ u.tick + 1
  ale : a ≤ l.length
theorem seen_iff {l : List Vi} {st : List Bool} : seenZ l st = true ↔ st ∈ l.map Vi.st := by
  unfold seenZ
  rw [List.any_eq_true, List.mem_map]
  constructor
  · rintro ⟨v, hv, e⟩
    exact ⟨v, hv, by simpa using e⟩
  · rintro ⟨v, hv, e⟩
    exact ⟨v, hv, by simpa using e⟩
theorem inv_start (s : Sy) (h : Good s) : Inv s (start s) 0 := by
  have h1 : ∀ (j : Nat) (v : Vi), (start s)[j]? = some v → j = 0 ∧ v = ⟨s.init, -1, 0, 0⟩ := fun j v hv => by
    cases j with
    | zero => exact ⟨rfl, by unfold start at hv; simpa using hv.symm⟩
    | succ j => unfold start at hv; simp at hv
  refine ⟨rfl, fun v hv => ?_, by unfold start; simp, fun j v hj hv => ?_, fun i j u v _ hu hv => ?_, fun j u v hu hv => ?_, Nat.zero_le _⟩
  · unfold start at hv
    rw [List.mem_singleton.1 hv]
    exact h.it
  · have := (h1 j v hv).1; omega
  · rw [(h1 i u hu).2, (h1 j v hv).2]; exact Nat.le_refl _
  · rw [(h1 0 u hu).2, (h1 j v hv).2]; show 0 ≤ 1; omega
theorem inv_next {s : Sy} {l : List Vi} {a : Nat} (h : Inv s l a) (ha : a < l.length) : Inv s l (a + 1) := by
  refine ⟨h.root, h.len, h.nd, fun j v hj hv => ?_, h.srt, fun j u v hu hv => ?_, ha⟩
  · obtain ⟨p, n, u, h1, h2, h3⟩ := h.path j v hj hv
    exact ⟨p, n, u, h1, by omega, h3⟩
  · have hua := List.getElem?_eq_getElem ha
    have h1 := h.near j _ v hua hv
    have h2 := h.srt a (a + 1) _ u (by omega) hua hu
    omega
theorem inv_grow {s : Sy} (hg : Good s) {l : List Vi} {a n : Nat} {v : Vi} (h : Inv s l a) (ha : l[a]? = some v) (hn : n < 2 ^ s.ins.length) : Inv s (growZ s l a n v) a := by
  unfold growZ
  by_cases hc : (asmZ s v.st (bitsZ s.ins.length n) && !seenZ l (nextZ s v.st (bitsZ s.ins.length n))) = true
  case neg => rw [if_neg hc]; exact h
  rw [if_pos hc]
  obtain ⟨c1, c2⟩ := Bool.and_eq_true_iff.1 hc
  have c2 : ¬ nextZ s v.st (bitsZ s.ins.length n) ∈ l.map Vi.st := fun hm => by
    rw [seen_iff.2 hm] at c2
    cases c2
  have hal := (List.getElem?_eq_some_iff.1 ha).1
  obtain ⟨x, hx⟩ : ∃ x : Vi, (⟨nextZ s v.st (bitsZ s.ins.length n), a, n, v.tick + 1⟩ : Vi) = x := ⟨_, rfl⟩
  rw [hx]
  have get : ∀ (j : Nat) (u : Vi), (l ++ [x])[j]? = some u → l[j]? = some u ∨ (j = l.length ∧ u = x) := fun j u hu => by
    rcases Nat.lt_trichotomy j l.length with e | e | e
    · rw [List.getElem?_append_left e] at hu; exact .inl hu
    · subst e
      rw [List.getElem?_append_right (Nat.le_refl _), Nat.sub_self] at hu
      exact .inr ⟨rfl, by simpa using hu.symm⟩
    · rw [List.getElem?_eq_none (by simp; omega)] at hu
      cases hu
  have put : ∀ (j : Nat) (u : Vi), l[j]? = some u → (l ++ [x])[j]? = some u := fun j u hu => by
    rw [List.getElem?_append_left (List.getElem?_eq_some_iff.1 hu).1]; exact hu
  have tx : x.tick = v.tick + 1 := by rw [← hx]
  refine ⟨put _ _ h.root, fun u hu => ?_, ?_, fun j u hj hu => ?_, fun i j u w hij hu hw => ?_, fun j u w hu hw => ?_, by rw [List.length_append]; omega⟩
  · rcases List.mem_append.1 hu with e | e
    · exact h.len u e
    · rw [List.mem_singleton.1 e, ← hx]; exact nextZ_len hg _ _
  · rw [List.map_append, List.nodup_append]
    refine ⟨h.nd, by simp, fun p hp q hq e => ?_⟩
    have : q = x.st := by simpa using hq
    have e2 : p = nextZ s v.st (bitsZ s.ins.length n) := by rw [e, this, ← hx]
    rw [e2] at hp
    exact c2 hp
  · rcases get j u hu with e | ⟨e1, e2⟩
    · obtain ⟨p, m, u', h1, h2, h3, h4⟩ := h.path j u hj e
      exact ⟨p, m, u', h1, h2, put _ _ h3, h4⟩
    · rw [e2]
      exact ⟨a, n, v, by omega, Nat.le_refl _, put _ _ ha, by rw [← hx], by rw [← hx], hn, by rw [← hx], c1, by rw [← hx]⟩
  · rcases get i u hu with e | ⟨e1, e2⟩ <;> rcases get j w hw with e' | ⟨e1', e2'⟩
    · exact h.srt i j u w hij e e'
    · rw [e2', tx]; exact h.near i v u ha e
    · have := (List.getElem?_eq_some_iff.1 e').1
      omega
    · rw [e2, e2']; exact Nat.le_refl _
  · have hu' : u = v := by
      rcases get a u hu with e | ⟨e1, _⟩
      · rw [ha] at e; exact (Option.some.inj e).symm
      · omega
    rw [hu']
    rcases get j w hw with e | ⟨_, e2⟩
    · exact h.near j v w ha e
    · rw [e2, tx]; exact Nat.le_refl _
/-! ### there are no more states than numbers of so many bits -/
def keyZ : List Bool → Nat
  | [] => 0
  | b :: r => (if b then 1 else 0) + 2 * keyZ r
theorem keyZ_lt : ∀ l : List Bool, keyZ l < 2 ^ l.length
  | [] => by decide
  | b :: r => by
    have := keyZ_lt r
    rw [List.length_cons, Nat.pow_succ]
    unfold keyZ
    split <;> omega
theorem keyZ_inj : ∀ l l' : List Bool, l.length = l'.length → keyZ l = keyZ l' → l = l'
  | [], [], _, _ => rfl
  | [], _ :: _, h, _ => by simp at h
  | _ :: _, [], h, _ => by simp at h
  | b :: r, b' :: r', h, e => by
    have h' : r.length = r'.length := by simpa using h
    unfold keyZ at e
    cases b <;> cases b' <;> simp at e
    · rw [keyZ_inj r r' h' (by omega)]
    · omega
    · omega
    · rw [keyZ_inj r r' h' (by omega)]
theorem Inv.short {s : Sy} {l : List Vi} {a : Nat} (h : Inv s l a) : l.length ≤ 2 ^ s.now.length := by
  have hn : (l.map fun v => keyZ v.st).Nodup := by
    rw [List.nodup_iff_pairwise_ne, List.pairwise_map]
    have := List.nodup_iff_pairwise_ne.1 h.nd
    rw [List.pairwise_map] at this
    refine this.imp_of_mem ?_
    intro u v hu hv huv e
    exact huv (keyZ_inj _ _ (by rw [h.len u hu, h.len v hv]) e)
  have := List.Nodup.length_le_of_subset hn (fun k hk => by
    obtain ⟨v, hv, rfl⟩ := List.mem_map.1 hk
    have := keyZ_lt v.st
    rw [h.len v hv] at this
    exact List.mem_range.2 this : l.map (fun v => keyZ v.st) ⊆ List.range (2 ^ s.now.length))
  simpa using this
/-! ### it ends -/
theorem grow_len (s : Sy) (l : List Vi) (a n : Nat) (v : Vi) : l.length ≤ (growZ s l a n v).length := by
  unfold growZ
  split
  · rw [List.length_append]; omega
  · exact Nat.le_refl _
theorem grow_get {s : Sy} {l : List Vi} {a n j : Nat} {v u : Vi} (h : l[j]? = some u) : (growZ s l a n v)[j]? = some u := by
  unfold growZ
  split
  · rw [List.getElem?_append_left (List.getElem?_eq_some_iff.1 h).1]; exact h
  · exact h
theorem run_ends {s : Sy} (hg : Good s) : ∀ (k : Nat) {l : List Vi} {a n : Nat}, Inv s l a → n ≤ 2 ^ s.ins.length → (2 ^ s.now.length - a) * (2 ^ s.ins.length + 1) + (2 ^ s.ins.length - n) < k → ∃ r, run k s l a n = some r
  | 0, l, a, n, _, _, h => by omega
  | k + 1, l, a, n, hI, hn, h => by
    unfold run
    cases hv : l[a]? with
    | none => exact ⟨_, rfl⟩
    | some v =>
      have hal := (List.getElem?_eq_some_iff.1 hv).1
      have hs := hI.short
      dsimp only
      by_cases hlt : n < 2 ^ s.ins.length
      · rw [if_pos hlt]
        by_cases hb : badZ s v n = true
        · rw [if_pos hb]; exact ⟨_, rfl⟩
        · rw [if_neg hb]
          exact run_ends hg k (inv_grow hg hI hv hlt) (by omega) (by omega)
      · rw [if_neg hlt]
        refine run_ends hg k (inv_next hI hal) (Nat.zero_le _) ?_
        have e : 2 ^ s.now.length - a = (2 ^ s.now.length - (a + 1)) + 1 := by omega
        rw [e, Nat.add_mul, Nat.one_mul] at h
        omega
/-- what is told at last -/
structure Res (s : Sy) (r : List Vi × Option (Nat × Nat)) : Prop where
  inv : ∃ a, Inv s r.1 a
  none_ : r.2 = none → 0 < r.1.length
  some_ : ∀ a n, r.2 = some (a, n) → n < 2 ^ s.ins.length ∧ ∃ v, r.1[a]? = some v ∧ badZ s v n = true
theorem run_res {s : Sy} (hg : Good s) : ∀ (k : Nat) {l : List Vi} {a n : Nat} {r : List Vi × Option (Nat × Nat)}, Inv s l a → run k s l a n = some r → Res s r
  | 0, _, _, _, _, _, h => by cases h
  | k + 1, l, a, n, r, hI, h => by
    unfold run at h
    cases hv : l[a]? with
    | none =>
      rw [hv] at h
      cases h
      exact ⟨⟨a, hI⟩, fun _ => (List.getElem?_eq_some_iff.1 hI.root).1, fun a n e => by cases e⟩
    | some v =>
      rw [hv] at h
      have hal := (List.getElem?_eq_some_iff.1 hv).1
      dsimp only at h
      by_cases hlt : n < 2 ^ s.ins.length
      · rw [if_pos hlt] at h
        by_cases hb : badZ s v n = true
        · rw [if_pos hb] at h
          cases h
          exact ⟨⟨a, hI⟩, fun e => (by cases e), fun a' n' e => by cases e; exact ⟨hlt, v, hv, hb⟩⟩
        · rw [if_neg hb] at h
          exact run_res hg k (inv_grow hg hI hv hlt) h
      · rw [if_neg hlt] at h
        exact run_res hg k (inv_next hI hal) h
/-! ### a bad run -/
def replayZ (s : Sy) : List Bool → List (List Bool) → Bool
  | _, [] => false
  | st, t :: r => asmZ s st t && (if r.isEmpty then !okZ s st t else replayZ s (nextZ s st t) r)
/-- the inputs that led to a state, the last ones first -/
def backZ : Nat → List Vi → Nat → List Int
  | 0, _, _ => []
  | f + 1, l, i =>
    match l[i]? with
    | none => []
    | some v => if v.fr < 0 then [] else v.inp :: backZ f l v.fr.toNat
/-- the trace to a state and one tick more -/
def traceZ (s : Sy) (l : List Vi) (a n : Nat) : List (List Bool) := (((n : Int) :: backZ (a + 1) l a).reverse).map fun k => bitsZ s.ins.length k.toNat
theorem back_fuel {s : Sy} {l : List Vi} {a0 : Nat} (h : Inv s l a0) : ∀ (f i : Nat), i < f → backZ f l i = backZ (i + 1) l i
  | 0, i, hi => by omega
  | f + 1, i, hi => by
    show (match l[i]? with | none => [] | some v => if v.fr < 0 then [] else v.inp :: backZ f l v.fr.toNat) = (match l[i]? with | none => [] | some v => if v.fr < 0 then [] else v.inp :: backZ i l v.fr.toNat)
    cases hv : l[i]? with
    | none => rfl
    | some v =>
      dsimp only
      by_cases hneg : v.fr < 0
      · rw [if_pos hneg, if_pos hneg]
      · rw [if_neg hneg, if_neg hneg]
        rcases Nat.eq_zero_or_pos i with e | e
        · subst e
          rw [h.root] at hv
          cases hv
          exact absurd (show (-1 : Int) < 0 by decide) hneg
        · obtain ⟨p, n, u, h1, _, _, h4, _⟩ := h.path i v e hv
          rw [h4, Int.toNat_natCast, back_fuel h f p (by omega), back_fuel h i p h1]
theorem back_root {s : Sy} {l : List Vi} {a0 : Nat} (h : Inv s l a0) : backZ 1 l 0 = [] := by
  unfold backZ
  rw [h.root]
  rfl
theorem back_step {s : Sy} {l : List Vi} {a0 : Nat} (h : Inv s l a0) {i p : Nat} {v : Vi} (hv : l[i]? = some v) (hp : v.fr = (p : Int)) (hpi : p < i) : backZ (i + 1) l i = v.inp :: backZ (p + 1) l p := by
  show (match l[i]? with | none => [] | some v => if v.fr < 0 then [] else v.inp :: backZ i l v.fr.toNat) = _
  rw [hv]
  dsimp only
  rw [if_neg (by omega), hp, Int.toNat_natCast, back_fuel h i p hpi]
theorem trace_ok {s : Sy} {l : List Vi} {a0 : Nat} (h : Inv s l a0) (R : List (List Bool)) (hR : R ≠ []) : ∀ (i : Nat) (v : Vi), l[i]? = some v →
    replayZ s s.init (((backZ (i + 1) l i).reverse.map fun k => bitsZ s.ins.length k.toNat) ++ R) = replayZ s v.st R ∧ (backZ (i + 1) l i).length = v.tick := by
  intro i
  induction i using Nat.strongRecOn generalizing R with
  | _ i ih =>
    intro v hv
    rcases Nat.eq_zero_or_pos i with e | e
    · subst e
      rw [back_root h]
      rw [h.root] at hv
      cases hv
      exact ⟨rfl, rfl⟩
    · obtain ⟨p, n, u, h1, _, h3, h4, h5, h6, h7, h8, h9⟩ := h.path i v e hv
      rw [back_step h hv h4 h1, List.reverse_cons, List.map_append, List.append_assoc]
      obtain ⟨i1, i2⟩ := ih p h1 ([bitsZ s.ins.length v.inp.toNat] ++ R) (by simp) u h3
      refine ⟨?_, by rw [List.length_cons, i2, h9]⟩
      have i1' := i1
      rw [show List.map (fun k : Int => bitsZ s.ins.length k.toNat) [v.inp] = [bitsZ s.ins.length v.inp.toNat] from rfl]
      rw [i1', h5, Int.toNat_natCast]
      show (asmZ s u.st (bitsZ s.ins.length n) && (if R.isEmpty then _ else _)) = _
      rw [h8, if_neg (by cases R with | nil => exact absurd rfl hR | cons _ _ => simp), ← h7]
      rfl
/-- what is found is a bad run -/
theorem found_ok {s : Sy} {l : List Vi} {a0 a n : Nat} {v : Vi} (h : Inv s l a0) (hv : l[a]? = some v) (hb : badZ s v n = true) : replayZ s s.init (traceZ s l a n) = true ∧ (traceZ s l a n).length = v.tick + 1 := by
  obtain ⟨i1, i2⟩ := trace_ok h [bitsZ s.ins.length n] (by simp) a v hv
  unfold traceZ
  constructor
  · rw [List.reverse_cons, List.map_append]
    refine i1.trans ?_
    show (asmZ s v.st (bitsZ s.ins.length n) && !okZ s v.st (bitsZ s.ins.length n)) = true
    exact hb
  · rw [List.length_map, List.length_reverse, List.length_cons, i2]
end Kb
/- Kind, plain: what the code does step by step (values in place, bits, keys, counting). -/
set_option autoImplicit false
set_option linter.unusedVariables false
namespace Kb
theorem getD_lt {α : Type} {l : List α} {i : Nat} {d : α} (h : i < l.length) : l.getD i d = l[i] := by
  rw [List.getD_eq_getElem?_getD, List.getElem?_eq_getElem h]; rfl
theorem drop_cons {v0 : List Bool} {k : Nat} (hk : k < v0.length) : v0.drop k = v0.getD k false :: v0.drop (k + 1) := by
  rw [getD_lt hk, List.drop_eq_getElem_cons hk]
/-- values in place, k gates done -/
def curZ (gs : List (Int × Int × Int)) (v0 : List Bool) (k : Nat) : List Bool := valZ gs v0 k ++ v0.drop k
theorem curZ_len {gs : List (Int × Int × Int)} {v0 : List Bool} {k : Nat} (hk : k ≤ v0.length) : (curZ gs v0 k).length = v0.length := by
  unfold curZ
  rw [List.length_append, valZ_len, List.length_drop]; omega
theorem curZ_zero (gs : List (Int × Int × Int)) (v0 : List Bool) : curZ gs v0 0 = v0 := rfl
theorem curZ_end (gs : List (Int × Int × Int)) (v0 : List Bool) : curZ gs v0 v0.length = valZ gs v0 v0.length := by
  unfold curZ
  rw [List.drop_length, List.append_nil]
theorem curZ_at {gs : List (Int × Int × Int)} {v0 : List Bool} {k : Nat} {w : Int} (h0 : 0 ≤ w) (h : w < 2 * k) : atZ (curZ gs v0 k) w = atZ (valZ gs v0 k) w := atZ_append h0 (by rw [valZ_len]; exact h)
theorem curZ_other {gs : List (Int × Int × Int)} {v0 : List Bool} {k : Nat} (hk : k < v0.length) (ho : opZ gs k ≠ 3) : curZ gs v0 (k + 1) = curZ gs v0 k := by
  unfold curZ
  show (valZ gs v0 k ++ [_]) ++ _ = _
  rw [if_neg ho, drop_cons hk, List.append_assoc]
  rfl
theorem curZ_and {gs : List (Int × Int × Int)} {v0 : List Bool} {k : Nat} (hk : k < v0.length) (ho : opZ gs k = 3) (h1 : 0 ≤ aZ gs k) (h2 : aZ gs k < 2 * k) (h3 : 0 ≤ bZ gs k) (h4 : bZ gs k < 2 * k) :
    curZ gs v0 (k + 1) = (curZ gs v0 k).set k (atZ (curZ gs v0 k) (aZ gs k) && atZ (curZ gs v0 k) (bZ gs k)) := by
  rw [curZ_at h1 h2, curZ_at h3 h4]
  unfold curZ
  show (valZ gs v0 k ++ [_]) ++ _ = _
  rw [if_pos ho, drop_cons hk, List.set_append_right _ _ (by rw [valZ_len]; exact Nat.le_refl _), valZ_len, Nat.sub_self, List.append_assoc]
  rfl
/-- the document's values, k gates done -/
def outZ (gs : List (Int × Int × Int)) (v0 : List Bool) (k : Nat) : List Bool := valZ gs v0 k ++ List.replicate (gs.length - k) false
theorem outZ_len {gs : List (Int × Int × Int)} {v0 : List Bool} {k : Nat} (hk : k ≤ gs.length) : (outZ gs v0 k).length = gs.length := by
  unfold outZ
  rw [List.length_append, valZ_len, List.length_replicate]; omega
theorem outZ_zero (gs : List (Int × Int × Int)) (v0 : List Bool) : outZ gs v0 0 = List.replicate gs.length false := rfl
theorem outZ_end (gs : List (Int × Int × Int)) (v0 : List Bool) : outZ gs v0 gs.length = valZ gs v0 gs.length := by
  unfold outZ
  rw [Nat.sub_self]
  exact List.append_nil _
theorem outZ_at {gs : List (Int × Int × Int)} {v0 : List Bool} {k : Nat} {w : Int} (h0 : 0 ≤ w) (h : w < 2 * k) : atZ (outZ gs v0 k) w = atZ (valZ gs v0 k) w := atZ_append h0 (by rw [valZ_len]; exact h)
theorem outZ_set {gs : List (Int × Int × Int)} {v0 : List Bool} {k : Nat} (hk : k < gs.length) (x : Bool) : (outZ gs v0 k).set k x = (valZ gs v0 k ++ [x]) ++ List.replicate (gs.length - (k + 1)) false := by
  unfold outZ
  rw [show gs.length - k = (gs.length - (k + 1)) + 1 by omega, List.replicate_succ, List.set_append_right _ _ (by rw [valZ_len]; exact Nat.le_refl _), valZ_len, Nat.sub_self, List.append_assoc]
  rfl
theorem outZ_one {gs : List (Int × Int × Int)} {v0 : List Bool} {k : Nat} (hk : k < gs.length) (ho : opZ gs k ≠ 3) (h0 : v0.getD k false = false) : outZ gs v0 (k + 1) = outZ gs v0 k := by
  unfold outZ
  show (valZ gs v0 k ++ [_]) ++ _ = _
  rw [if_neg ho, h0, show gs.length - k = (gs.length - (k + 1)) + 1 by omega, List.replicate_succ, List.append_assoc]
  rfl
theorem outZ_in {gs : List (Int × Int × Int)} {v0 : List Bool} {k : Nat} (hk : k < gs.length) (ho : opZ gs k ≠ 3) : outZ gs v0 (k + 1) = (outZ gs v0 k).set k (v0.getD k false) := by
  rw [outZ_set hk]
  unfold outZ
  show (valZ gs v0 k ++ [_]) ++ _ = _
  rw [if_neg ho]
theorem outZ_and {gs : List (Int × Int × Int)} {v0 : List Bool} {k : Nat} (hk : k < gs.length) (ho : opZ gs k = 3) (h1 : 0 ≤ aZ gs k) (h2 : aZ gs k < 2 * k) (h3 : 0 ≤ bZ gs k) (h4 : bZ gs k < 2 * k) :
    outZ gs v0 (k + 1) = (outZ gs v0 k).set k (atZ (outZ gs v0 k) (aZ gs k) && atZ (outZ gs v0 k) (bZ gs k)) := by
  rw [outZ_at h1 h2, outZ_at h3 h4, outZ_set hk]
  unfold outZ
  show (valZ gs v0 k ++ [_]) ++ _ = _
  rw [if_pos ho]
/-! ### counting -/
theorem bitsZ_key : ∀ l : List Bool, bitsZ l.length (keyZ l) = l
  | [] => rfl
  | b :: r => by
    rw [List.length_cons]
    unfold bitsZ keyZ
    have e1 : ((if b then 1 else 0) + 2 * keyZ r) / 2 = keyZ r := by split <;> omega
    have e2 : (((if b then 1 else 0) + 2 * keyZ r) % 2 == 1) = b := by
      cases b
      · rw [if_neg (by decide), show (0 + 2 * keyZ r) % 2 = 0 by omega]; rfl
      · rw [if_pos rfl, show (1 + 2 * keyZ r) % 2 = 1 by omega]; rfl
    rw [e1, e2, bitsZ_key r]
theorem key_bits : ∀ (m n : Nat), n < 2 ^ m → keyZ (bitsZ m n) = n
  | 0, n, h => by
    have : n = 0 := by simpa using h
    subst this
    rfl
  | m + 1, n, h => by
    rw [Nat.pow_succ] at h
    unfold bitsZ keyZ
    rw [key_bits m (n / 2) (by omega)]
    by_cases e : n % 2 = 1
    · rw [e, if_pos (by rfl)]; omega
    · have : n % 2 = 0 := by omega
      rw [this, if_neg (by decide)]; omega
theorem key_carry (r : List Bool) : ∀ k : Nat, keyZ (List.replicate k false ++ true :: r) = keyZ (List.replicate k true ++ false :: r) + 1
  | 0 => by
    show 1 + 2 * keyZ r = 0 + 2 * keyZ r + 1
    omega
  | k + 1 => by
    have := key_carry r k
    show 0 + 2 * keyZ (List.replicate k false ++ true :: r) = 1 + 2 * keyZ (List.replicate k true ++ false :: r) + 1
    omega
theorem key_ones : ∀ k : Nat, keyZ (List.replicate k true) + 1 = 2 ^ k
  | 0 => rfl
  | k + 1 => by
    have := key_ones k
    show 1 + 2 * keyZ (List.replicate k true) + 1 = _
    rw [Nat.pow_succ]
    omega
/-- the next inputs -/
theorem bits_next {m n k : Nat} {r : List Bool} (hn : n < 2 ^ m) (h : bitsZ m n = List.replicate k true ++ false :: r) : bitsZ m (n + 1) = List.replicate k false ++ true :: r ∧ n + 1 < 2 ^ m := by
  have h1 := key_carry r k
  rw [← h, key_bits m n hn] at h1
  have hl : (List.replicate k false ++ true :: r).length = m := by
    have := congrArg List.length h
    rw [bitsZ_len] at this
    simp at this ⊢
    omega
  have h2 := bitsZ_key (List.replicate k false ++ true :: r)
  have h3 := keyZ_lt (List.replicate k false ++ true :: r)
  rw [hl, h1] at h2 h3
  exact ⟨h2, h3⟩
theorem bits_last {m n : Nat} (hn : n < 2 ^ m) (h : bitsZ m n = List.replicate m true) : n + 1 = 2 ^ m := by
  have := key_ones m
  rw [← h, key_bits m n hn] at this
  exact this
theorem bits_zero : ∀ m : Nat, bitsZ m 0 = List.replicate m false
  | 0 => rfl
  | m + 1 => by
    unfold bitsZ
    rw [List.replicate_succ, bits_zero m]
    rfl
theorem bits_snoc : ∀ (m n : Nat), bitsZ (m + 1) n = bitsZ m n ++ [n / 2 ^ m % 2 == 1]
  | 0, n => by
    unfold bitsZ
    simp [bitsZ]
  | m + 1, n => by
    show (n % 2 == 1) :: bitsZ (m + 1) (n / 2) = (n % 2 == 1) :: bitsZ m (n / 2) ++ _
    rw [bits_snoc m (n / 2), Nat.div_div_eq_div_mul, Nat.pow_succ, Nat.mul_comm 2]
    rfl
theorem key_snoc : ∀ (l : List Bool) (b : Bool), keyZ (l ++ [b]) = keyZ l + (if b then 2 ^ l.length else 0)
  | [], b => by
    show (if b then 1 else 0) + 2 * 0 = 0 + _
    cases b <;> rfl
  | a :: l, b => by
    show (if a then 1 else 0) + 2 * keyZ (l ++ [b]) = (if a then 1 else 0) + 2 * keyZ l + _
    rw [key_snoc l b, List.length_cons, Nat.pow_succ]
    split <;> split <;> omega
theorem key_or (l : List Bool) : keyZ l ||| 2 ^ l.length = keyZ l + 2 ^ l.length := by
  have := Nat.two_pow_add_eq_or_of_lt (keyZ_lt l) 1
  rw [Nat.mul_one] at this
  rw [Nat.or_comm, ← this, Nat.add_comm]
end Kb
/- Kind, plain: the reachable states, round by round, as the document goes through them. -/
set_option autoImplicit false
set_option linter.unusedVariables false
namespace Kb
theorem run_more {s : Sy} : ∀ (F : Nat) {l : List Vi} {a n : Nat} {r : List Vi × Option (Nat × Nat)}, run F s l a n = some r → run (F + 1) s l a n = some r
  | 0, _, _, _, _, h => by cases h
  | F + 1, l, a, n, r, h => by
    unfold run at h ⊢
    cases hv : l[a]? with
    | none => rw [hv] at h; exact h
    | some v =>
      rw [hv] at h
      dsimp only at h ⊢
      by_cases hn : n < 2 ^ s.ins.length
      · rw [if_pos hn] at h ⊢
        by_cases hb : badZ s v n = true
        · rw [if_pos hb] at h ⊢; exact h
        · rw [if_neg hb] at h ⊢; exact run_more F h
      · rw [if_neg hn] at h ⊢; exact run_more F h
theorem run_le {s : Sy} {F : Nat} {l : List Vi} {a n : Nat} {r : List Vi × Option (Nat × Nat)} (h : run F s l a n = some r) : ∀ k, run (F + k) s l a n = some r
  | 0 => h
  | k + 1 => run_more _ (run_le h k)
theorem run_one {s : Sy} {F G : Nat} {l : List Vi} {a n : Nat} {r q : List Vi × Option (Nat × Nat)} (h : run F s l a n = some r) (h' : run G s l a n = some q) : r = q := by
  have h1 := run_le h G
  have h2 := run_le h' F
  rw [Nat.add_comm] at h2
  rw [h1] at h2
  exact Option.some.inj h2
abbrev ResT := List Vi × Option (Nat × Nat)
/-- what is so of the first bad tick -/
def BadAt (res : ResT) (b : Int) : Prop := ∃ a m v, res.2 = some (a, m) ∧ res.1[a]? = some v ∧ b = (v.tick : Int)
/-- the document's going through the states: rounds fr .. to at tick t, at state i and inputs n -/
structure Rb (s : Sy) (res : ResT) (fr to t i n : Nat) (ss : List (List Bool)) (b : Int) : Prop where
  nd : ss.Nodup
  len : ∀ st ∈ ss, st.length = s.now.length
  gh : (b = -1 ∧ ∃ (l : List Vi) (F : Nat), ss = l.map Vi.st ∧ run F s l i n = some res ∧ ∀ j v, l[j]? = some v → (fr ≤ j → j < to → v.tick = t) ∧ (to ≤ j → v.tick = t + 1)) ∨ BadAt res b
theorem Rb.start {s : Sy} (hg : Good s) {res : ResT} {F : Nat} (h : run F s (Kb.start s) 0 0 = some res) : Rb s res 0 1 0 0 0 [s.init] (-1) := by
  refine ⟨by simp, fun st hs => by rw [List.mem_singleton.1 hs]; exact hg.it, .inl ⟨rfl, Kb.start s, F, rfl, h, fun j v hv => ?_⟩⟩
  cases j with
  | zero => unfold Kb.start at hv; simp at hv; subst hv; exact ⟨fun _ _ => rfl, fun h => by omega⟩
  | succ j => unfold Kb.start at hv; simp at hv
theorem Rb.short {s : Sy} {res : ResT} {fr to t i n : Nat} {ss : List (List Bool)} {b : Int} (h : Rb s res fr to t i n ss b) : ss.length ≤ 2 ^ s.now.length := by
  have hn : (ss.map keyZ).Nodup := by
    rw [List.nodup_iff_pairwise_ne, List.pairwise_map]
    refine (List.nodup_iff_pairwise_ne.1 h.nd).imp_of_mem ?_
    intro u v hu hv huv e
    exact huv (keyZ_inj _ _ (by rw [h.len u hu, h.len v hv]) e)
  have := List.Nodup.length_le_of_subset hn (fun k hk => by
    obtain ⟨v, hv, rfl⟩ := List.mem_map.1 hk
    have := keyZ_lt v
    rw [h.len v hv] at this
    exact List.mem_range.2 this : ss.map keyZ ⊆ List.range (2 ^ s.now.length))
  simpa using this
/-- is there a bad tick, at last? -/
def badB (asm ok : Bool) (t : Nat) (b : Int) : Int := if asm && !ok && decide (b < 0) then (t : Int) else b
def growS (asm : Bool) (ss : List (List Bool)) (nx : List Bool) : List (List Bool) := if asm && !decide (nx ∈ ss) then ss ++ [nx] else ss
theorem Rb.tick {s : Sy} (hg : Good s) {res : ResT} {fr to t i n : Nat} {ss : List (List Bool)} {b : Int} (h : Rb s res fr to t i n ss b) {st : List Bool} (hi : ss[i]? = some st) (hn : n < 2 ^ s.ins.length) (h1 : fr ≤ i) (h2 : i < to) (h3 : to ≤ ss.length) :
    Rb s res fr to t i (n + 1) (growS (asmZ s st (bitsZ s.ins.length n)) ss (nextZ s st (bitsZ s.ins.length n))) (badB (asmZ s st (bitsZ s.ins.length n)) (okZ s st (bitsZ s.ins.length n)) t b) := by
  obtain ⟨nx, hnx⟩ : ∃ x, nextZ s st (bitsZ s.ins.length n) = x := ⟨_, rfl⟩
  have hnl : nx.length = s.now.length := by rw [← hnx]; exact nextZ_len hg _ _
  have hnd : (growS (asmZ s st (bitsZ s.ins.length n)) ss nx).Nodup := by
    unfold growS
    split
    · rename_i hc
      obtain ⟨_, c2⟩ := Bool.and_eq_true_iff.1 hc
      rw [List.nodup_append]
      refine ⟨h.nd, by simp, fun p hp q hq e => ?_⟩
      rw [List.mem_singleton.1 hq] at e
      subst e
      simp [hp] at c2
    · exact h.nd
  have hln : ∀ x ∈ growS (asmZ s st (bitsZ s.ins.length n)) ss nx, x.length = s.now.length := fun x hx => by
    unfold growS at hx
    split at hx
    · rcases List.mem_append.1 hx with e | e
      · exact h.len x e
      · rw [List.mem_singleton.1 e]; exact hnl
    · exact h.len x hx
  rw [hnx]
  refine ⟨hnd, hln, ?_⟩
  rcases h.gh with ⟨hb, l, F, e1, e2, e3⟩ | ⟨a, m, v, e1, e2, e3⟩
  · cases F with
    | zero => cases e2
    | succ F =>
      obtain ⟨v, hv, hvs⟩ : ∃ v, l[i]? = some v ∧ v.st = st := by
        rw [e1, List.getElem?_map] at hi
        cases hl : l[i]? with
        | none => rw [hl] at hi; cases hi
        | some v => rw [hl] at hi; exact ⟨v, rfl, Option.some.inj hi⟩
      have hvt := (e3 i v hv).1 h1 h2
      unfold run at e2
      rw [hv] at e2
      dsimp only at e2
      rw [if_pos hn] at e2
      by_cases hbad : badZ s v n = true
      · rw [if_pos hbad] at e2
        have e2 := Option.some.inj e2
        refine .inr ⟨i, n, v, by rw [← e2], by rw [← e2]; exact hv, ?_⟩
        unfold badZ at hbad
        rw [hvs] at hbad
        unfold badB
        rw [hb, hbad, hvt]
        rfl
      · rw [if_neg hbad] at e2
        refine .inl ⟨?_, growZ s l i n v, F, ?_, e2, fun j u hj => ?_⟩
        · unfold badZ at hbad
          rw [hvs] at hbad
          unfold badB
          rw [Bool.eq_false_iff.2 hbad]
          exact hb
        · unfold growS growZ
          rw [hvs, hnx]
          have : seenZ l nx = decide (nx ∈ ss) := by
            rw [e1, Bool.eq_iff_iff, seen_iff, decide_eq_true_iff]
          rw [this]
          split
          · rw [List.map_append, e1]; rfl
          · exact e1
        · unfold growZ at hj
          split at hj
          · by_cases hjl : j < l.length
            · rw [List.getElem?_append_left hjl] at hj
              exact e3 j u hj
            · have hl : ss.length = l.length := by rw [e1, List.length_map]
              have hu : u = ⟨nextZ s v.st (bitsZ s.ins.length n), i, n, v.tick + 1⟩ := by
                rw [List.getElem?_append_right (by omega)] at hj
                have := List.mem_of_getElem? hj
                exact List.mem_singleton.1 this
              refine ⟨fun _ _ => by omega, fun _ => ?_⟩
              rw [hu]
              show v.tick + 1 = t + 1
              rw [hvt]
          · exact e3 j u hj
  · refine .inr ⟨a, m, v, e1, e2, ?_⟩
    unfold badB
    rw [decide_eq_false (by omega), Bool.and_false, if_neg Bool.false_ne_true]
    exact e3
theorem Rb.row {s : Sy} {res : ResT} {fr to t i n : Nat} {ss : List (List Bool)} {b : Int} (h : Rb s res fr to t i n ss b) (hn : ¬ n < 2 ^ s.ins.length) (hi : i < ss.length) : Rb s res fr to t (i + 1) 0 ss b := by
  refine ⟨h.nd, h.len, ?_⟩
  rcases h.gh with ⟨hb, l, F, e1, e2, e3⟩ | hb
  · cases F with
    | zero => cases e2
    | succ F =>
      have hl : ss.length = l.length := by rw [e1, List.length_map]
      unfold run at e2
      rw [List.getElem?_eq_getElem (by omega)] at e2
      dsimp only at e2
      rw [if_neg hn] at e2
      exact .inl ⟨hb, l, F, e1, e2, e3⟩
  · exact .inr hb
theorem Rb.round {s : Sy} {res : ResT} {fr to t : Nat} {ss : List (List Bool)} {b : Int} (h : Rb s res fr to t to 0 ss b) : Rb s res to ss.length (t + 1) to 0 ss b := by
  refine ⟨h.nd, h.len, ?_⟩
  rcases h.gh with ⟨hb, l, F, e1, e2, e3⟩ | hb
  · refine .inl ⟨hb, l, F, e1, e2, fun j v hj => ⟨fun h1 _ => (e3 j v hj).2 h1, fun h1 => ?_⟩⟩
    have := (List.getElem?_eq_some_iff.1 hj).1
    rw [e1, List.length_map] at h1
    omega
  · exact .inr hb
theorem Rb.end_ {s : Sy} {res : ResT} {fr to t i n : Nat} {ss : List (List Bool)} {b : Int} (h : Rb s res fr to t i n ss b) (hi : ss.length ≤ i) : (b = -1 ∧ res.2 = none) ∨ BadAt res b := by
  rcases h.gh with ⟨hb, l, F, e1, e2, e3⟩ | hb
  · refine .inl ⟨hb, ?_⟩
    cases F with
    | zero => cases e2
    | succ F =>
      unfold run at e2
      rw [List.getElem?_eq_none (by rw [e1, List.length_map] at hi; exact hi)] at e2
      cases e2
      rfl
  · exact .inr hb
end Kb
/- Kind, plain: the next inputs, bit by bit; is a state an old one? -/
set_option autoImplicit false
set_option linter.unusedVariables false
namespace Kb
theorem carry_get {l : List Bool} {k : Nat} (hk : k < l.length) : (List.replicate k false ++ l.drop k).getD k false = l.getD k false := by
  rw [drop_cons hk, List.getD_eq_getElem?_getD, List.getElem?_append_right (by simp)]
  simp
theorem carry_len {l : List Bool} {k : Nat} (hk : k ≤ l.length) : (List.replicate k false ++ l.drop k).length = l.length := by
  rw [List.length_append, List.length_replicate, List.length_drop]; omega
theorem carry_set {l : List Bool} {k : Nat} (hk : k < l.length) (x : Bool) : (List.replicate k false ++ l.drop k).set k x = List.replicate k false ++ x :: l.drop (k + 1) := by
  rw [drop_cons hk, List.set_append_right _ _ (by simp)]
  simp
theorem carry_one {l : List Bool} {k : Nat} (hk : k < l.length) : (List.replicate k false ++ l.drop k).set k false = List.replicate (k + 1) false ++ l.drop (k + 1) := by
  rw [carry_set hk, List.replicate_succ', List.append_assoc]
  rfl
theorem take_one {l : List Bool} {k : Nat} (hk : k < l.length) (h : l.take k = List.replicate k true) (hb : l.getD k false = true) : l.take (k + 1) = List.replicate (k + 1) true := by
  rw [List.take_add_one, h, List.replicate_succ', List.getElem?_eq_getElem hk]
  rw [getD_lt hk] at hb
  rw [hb]
  rfl
theorem split_at' {l : List Bool} {k : Nat} (hk : k < l.length) (h : l.take k = List.replicate k true) (hb : l.getD k false = false) : l = List.replicate k true ++ false :: l.drop (k + 1) := by
  have := List.take_append_drop k l
  rw [h, drop_cons hk, hb] at this
  exact this.symm
theorem mem_take_one {ss : List (List Bool)} {nx u : List Bool} {k : Nat} (hu : ss[k]? = some u) (hn : ¬ nx ∈ ss.take k) : decide (nx ∈ ss.take (k + 1)) = (u == nx) := by
  rw [List.take_add_one, hu, Bool.eq_iff_iff, decide_eq_true_iff, List.mem_append, beq_iff_eq]
  constructor
  · rintro (h | h)
    · exact absurd h hn
    · have : nx = u := by simpa using h
      exact this.symm
  · rintro rfl
    exact .inr (by simp)
end Kb

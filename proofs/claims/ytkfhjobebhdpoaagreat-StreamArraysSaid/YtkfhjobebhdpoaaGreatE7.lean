/- Families of rows: a part of the heap that the kernel does not look into (a zone); loops whose states hold such parts; values told ahead at calls. -/
import Derived.Test.YtkfhjobebhdpoaaGreatE6
set_option linter.unusedVariables false
set_option linter.unusedSimpArgs false
set_option autoImplicit false
set_option linter.unusedVariables false
namespace Go.X
noncomputable section
section
variable {P : Program}
/-- what is known of the arguments is forgotten, or told ahead -/
theorem call_args {gl : Glob} {f : Nat} {args args2 : List AV} {h : H} {K : KV} (hw : ∀ L vs, RVs L args vs → RVs L args2 vs) (hc : CallOK P gl f args2 h K) : CallOK P gl f args h K :=
  fun L w args' U rg hargs r hU => hc L w args' U rg (hw L _ hargs) r hU
/-- .. of the answer -/
theorem call_res {gl : Glob} {f : Nat} {args : List AV} {h : H} {K K2 : KV} (hc : CallOK P gl f args h K) (hk : ∀ v h' ds, K v h' ds → ∃ v2, K2 v2 h' ds ∧ ∀ L x, RV L v x → RV L v2 x) : CallOK P gl f args h K2 := by
  intro L w args' U rg hargs r hU
  refine (hc L w args' U rg hargs r fun v h' ds hk1 => ?_).mono ?_
  · obtain ⟨v2, a, _⟩ := hk v h' ds hk1
    exact hU _ _ _ a
  · rintro x w' ⟨v, h', ds, L', v', rfl, h1, k1, k2, k3⟩
    obtain ⟨v2, a, b⟩ := hk v h' ds h1
    exact ⟨v2, h', ds, L', v', rfl, a, b L' v' k1, k2, k3⟩
end

/-! Zones -/
/-- the names of a zone: f ones, then a number -/
def zname (f x : Nat) : Nat := Nat.rec x (fun _ ih => 2 * ih + 1) f
theorem zname_succ (f x : Nat) : zname (f + 1) x = 2 * zname f x + 1 := rfl
def zn (x : Nat) : Nat := zname 12 x
theorem zn_eq (x : Nat) : zn x = 4096 * x + 4095 := by
  show 2 * (2 * (2 * (2 * (2 * (2 * (2 * (2 * (2 * (2 * (2 * (2 * x + 1) + 1) + 1) + 1) + 1) + 1) + 1) + 1) + 1) + 1) + 1) + 1 = _
  omega
theorem zn_inj {x y : Nat} (h : zn x = zn y) : x = y := by rw [zn_eq, zn_eq] at h; omega
def zget (b : T Blk) (f : Nat) : T Blk := Nat.rec (motive := fun _ => T Blk → T Blk) (fun b => b) (fun _ ih b => T.rec (motive := fun _ => T Blk) T.leaf (fun _ _ r _ _ => ih r) b) f b
def zput (z : T Blk) (f : Nat) : T Blk := Nat.rec z (fun _ ih => T.node T.leaf none ih) f
theorem get_odd {l r : T Blk} {v : Option Blk} (x : Nat) : (T.node l v r).get (2 * x + 1) = r.get x := by
  rw [T.get_node, if_neg (by omega), if_neg (by omega), show (2 * x + 1) / 2 = x by omega]
theorem zget_get : ∀ (f : Nat) (b : T Blk) (x : Nat), b.get (zname f x) = (zget b f).get x
  | 0, b, x => rfl
  | f + 1, b, x => by
    rw [zname_succ]
    cases b with
    | leaf => rfl
    | node l v r => rw [get_odd]; exact zget_get f r x
theorem zput_get {z : T Blk} {k : Blk} : ∀ {f i : Nat}, (zput z f).get i = some k → ∃ x, i = zname f x ∧ z.get x = some k
  | 0, i, h => ⟨i, rfl, h⟩
  | f + 1, i, h => by
    have h : (T.node T.leaf none (zput z f)).get i = some k := h
    rw [T.get_node] at h
    by_cases h0 : i = 0
    · rw [if_pos h0] at h; cases h
    · rw [if_neg h0] at h
      by_cases h2 : i % 2 = 0
      · rw [if_pos h2] at h; cases h
      · rw [if_neg h2] at h
        obtain ⟨x, a, b⟩ := zput_get h
        exact ⟨x, by rw [zname_succ, ← a]; omega, b⟩
/-- a heap's blocks: those of a list, and a zone -/
def mkB (z : T Blk) (B : List (Nat × Blk)) : T Blk := List.rec (zput z 12) (fun p _ ih => T.set ih p.2 p.1) B
def mkE (E : List (Nat × AV)) : Env := List.rec T.leaf (fun p _ ih => T.set ih p.2 p.1) E
theorem mkB_get {z : T Blk} : ∀ {B : List (Nat × Blk)} {i : Nat} {k : Blk}, (mkB z B).get i = some k → (i, k) ∈ B ∨ ∃ x, i = zn x ∧ z.get x = some k
  | [], i, k, h => .inr (zput_get h)
  | p :: B, i, k, h => by
    have h : (T.set (mkB z B) p.2 p.1).get i = some k := h
    rcases T.get_set h with ⟨rfl, rfl⟩ | ⟨_, h⟩
    · exact .inl (List.mem_cons_self ..)
    · rcases mkB_get h with h | h
      · exact .inl (List.mem_cons_of_mem _ h)
      · exact .inr h
theorem mkE_get : ∀ {E : List (Nat × AV)} {t : Nat} {v : AV}, T.get (mkE E) t = some v → (t, v) ∈ E
  | [], t, v, h => by cases h
  | p :: E, t, v, h => by
    have h : (T.set (mkE E) p.2 p.1).get t = some v := h
    rcases T.get_set h with ⟨rfl, rfl⟩ | ⟨_, h⟩
    · exact List.mem_cons_self ..
    · exact List.mem_cons_of_mem _ (mkE_get h)
/-- a state: its slots, its blocks, its zone, its next name -/
structure ZS where
  E : List (Nat × AV)
  B : List (Nat × Blk)
  z : T Blk
  N : Nat
def ZS.env (s : ZS) : Env := mkE s.E
def ZS.h (s : ZS) : H := ⟨mkB s.z s.B, s.N⟩
/-- a row of numbers, nobody else's -/
def IntRow (k : Blk) : Prop := ∃ (ns : List Int) (e : TypeId) (wr : Bool), k = .row (ns.map (.int .i64)) e wr []
theorem intRow_ren {k : Blk} (h : IntRow k) (ρ : Nat → Nat) (N : Nat) : renB ρ k = k ∧ belB N k = true := by
  obtain ⟨ns, e, wr, rfl⟩ := h
  have key : ∀ (ns : List Int), renL ρ (ns.map (.int .i64)) = ns.map (AV.int .i64) ∧ belL N (ns.map (.int .i64)) = true := by
    intro ns
    induction ns with
    | nil => exact ⟨rfl, rfl⟩
    | cons n ns ih => exact ⟨by simp only [List.map_cons, renL, ren, ih.1], by simp only [List.map_cons, belL, bel, ih.2]; rfl⟩
  obtain ⟨a, b⟩ := key ns
  exact ⟨by show Blk.row (renL ρ _) e wr (lmap ρ []) = _; rw [a]; rfl, b⟩

/-! A state seen in another -/
def ZW : Nat := 1000000000000
def lfind (M : List (Nat × Nat)) (x : Nat) : Option Nat := List.rec none (fun p _ ih => Bool.rec ih (some p.2) (Nat.beq p.1 x)) M
def szs (n0 : Nat) (M : List (Nat × Nat)) (kp : Nat → Bool) (x : Nat) : Nat :=
  Bool.rec (Option.rec (Bool.rec (Nat.add x ZW) x (kp x)) (fun a => a) (lfind M x)) x (Nat.ble (Nat.succ x) n0)
theorem lfind_mem : ∀ {M : List (Nat × Nat)} {x a : Nat}, lfind M x = some a → (x, a) ∈ M
  | [], x, a, h => by cases h
  | p :: M, x, a, h => by
    have h : (Bool.rec (lfind M x) (some p.2) (Nat.beq p.1 x) : Option Nat) = some a := h
    cases hb : Nat.beq p.1 x with
    | true => rw [hb] at h; cases h; rw [← natBeq_iff.1 hb]; exact List.mem_cons_self ..
    | false => rw [hb] at h; exact List.mem_cons_of_mem _ (lfind_mem h)
theorem lfind_get : ∀ {M : List (Nat × Nat)} {x a : Nat}, (M.map (·.1)).Nodup → (x, a) ∈ M → lfind M x = some a
  | [], x, a, _, h => by cases h
  | p :: M, x, a, hd, h => by
    rw [List.map_cons, List.nodup_cons] at hd
    show (Bool.rec (lfind M x) (some p.2) (Nat.beq p.1 x) : Option Nat) = some a
    rcases List.mem_cons.1 h with e | h
    · subst e; simp [Nat.beq_refl]
    · cases hb : Nat.beq p.1 x with
      | true => exact absurd (List.mem_map.2 ⟨_, h, (natBeq_iff.1 hb).symm⟩) hd.1
      | false => exact lfind_get hd.2 h
theorem szs_old {n0 : Nat} {M : List (Nat × Nat)} {kp : Nat → Bool} {x : Nat} (h : x < n0) : szs n0 M kp x = x := by
  unfold szs; rw [show Nat.ble (Nat.succ x) n0 = true from Nat.ble_eq_true_of_le h]
theorem ble_false {a b : Nat} (h : b < a) : Nat.ble a b = false := by
  cases hb : Nat.ble a b with
  | false => rfl
  | true => have := Nat.le_of_ble_eq_true hb; omega
theorem szs_map {n0 : Nat} {M : List (Nat × Nat)} {kp : Nat → Bool} {x a : Nat} (h : n0 ≤ x) (ha : lfind M x = some a) : szs n0 M kp x = a := by
  unfold szs; rw [ble_false (by omega : n0 < Nat.succ x), ha]
theorem szs_kept {n0 : Nat} {M : List (Nat × Nat)} {kp : Nat → Bool} {x : Nat} (h : n0 ≤ x) (ha : lfind M x = none) (hk : kp x = true) : szs n0 M kp x = x := by
  unfold szs; rw [ble_false (by omega : n0 < Nat.succ x), ha]; simp only [hk]
theorem szs_rest {n0 : Nat} {M : List (Nat × Nat)} {kp : Nat → Bool} {x : Nat} (h : n0 ≤ x) (ha : lfind M x = none) (hk : kp x = false) : szs n0 M kp x = x + ZW := by
  unfold szs; rw [ble_false (by omega : n0 < Nat.succ x), ha]; simp only [hk]; rfl
/-- the names that a state's blocks have -/
structure NM (n0 : Nat) (M : List (Nat × Nat)) (kp : Nat → Bool) (W : Nat) : Prop where
  keys : (M.map (·.1)).Nodup
  acts : (M.map (·.2)).Nodup
  act : ∀ p ∈ M, p.2 < ZW ∧ kp p.2 = false ∧ (n0 ≤ p.1 → n0 ≤ p.2) ∧ (p.1 < n0 → p.2 = p.1)
  kept : ∀ x, kp x = true → x < ZW
theorem szs_new {n0 W : Nat} {M : List (Nat × Nat)} {kp : Nat → Bool} (nm : NM n0 M kp W) {x : Nat} (h : n0 ≤ x) : n0 ≤ szs n0 M kp x := by
  cases hl : lfind M x with
  | some a => rw [szs_map h hl]; exact (nm.act _ (lfind_mem hl)).2.2.1 h
  | none => cases hk : kp x with
    | true => rw [szs_kept h hl hk]; exact h
    | false => rw [szs_rest h hl hk]; omega
theorem szs_cases {n0 W : Nat} {M : List (Nat × Nat)} {kp : Nat → Bool} (nm : NM n0 M kp W) {x : Nat} (h : n0 ≤ x) :
    (∃ a, (x, a) ∈ M ∧ szs n0 M kp x = a ∧ a < ZW ∧ kp a = false) ∨ (szs n0 M kp x = x ∧ kp x = true) ∨ (szs n0 M kp x = x + ZW) := by
  cases hl : lfind M x with
  | some a => exact .inl ⟨a, lfind_mem hl, szs_map h hl, (nm.act _ (lfind_mem hl)).1, (nm.act _ (lfind_mem hl)).2.1⟩
  | none => cases hk : kp x with
    | true => exact .inr (.inl ⟨szs_kept h hl hk, rfl⟩)
    | false => exact .inr (.inr (szs_rest h hl hk))
theorem snd_inj : ∀ {M : List (Nat × Nat)}, (M.map (·.2)).Nodup → ∀ {x y a : Nat}, (x, a) ∈ M → (y, a) ∈ M → x = y
  | [], _, x, y, a, h, _ => by cases h
  | p :: M, hd, x, y, a, h1, h2 => by
    rw [List.map_cons, List.nodup_cons] at hd
    rcases List.mem_cons.1 h1 with e1 | g1
    · rcases List.mem_cons.1 h2 with e2 | g2
      · have := e1.trans e2.symm; cases this; rfl
      · rw [← e1] at hd; exact absurd (List.mem_map_of_mem (f := fun x : Nat × Nat => x.2) g2) hd.1
    · rcases List.mem_cons.1 h2 with e2 | g2
      · rw [← e2] at hd; exact absurd (List.mem_map_of_mem (f := fun x : Nat × Nat => x.2) g1) hd.1
      · exact snd_inj hd.2 g1 g2
theorem szs_inj {n0 W : Nat} {M : List (Nat × Nat)} {kp : Nat → Bool} (nm : NM n0 M kp W) {x y : Nat} (e : szs n0 M kp x = szs n0 M kp y) : x = y := by
  by_cases hx : x < n0
  · rw [szs_old hx] at e
    by_cases hy : y < n0
    · rw [szs_old hy] at e; exact e
    · have := szs_new nm (x := y) (by omega); omega
  · by_cases hy : y < n0
    · rw [szs_old hy] at e
      have := szs_new nm (x := x) (by omega); omega
    · rcases szs_cases nm (x := x) (by omega) with ⟨a, h1, h2, h3, h4⟩ | ⟨h1, h2⟩ | h1 <;> rcases szs_cases nm (x := y) (by omega) with ⟨b, g1, g2, g3, g4⟩ | ⟨g1, g2⟩ | g1
      · rw [h2, g2] at e; subst e; exact snd_inj nm.acts h1 g1
      · rw [h2, g1] at e; subst e; rw [h4] at g2; cases g2
      · rw [h2, g1] at e; omega
      · rw [h1, g2] at e; subst e; rw [g4] at h2; cases h2
      · rw [h1, g1] at e; exact e
      · rw [h1, g1] at e; have := nm.kept x h2; omega
      · rw [h1, g2] at e; omega
      · rw [h1, g1] at e; have := nm.kept y g2; omega
      · rw [h1, g1] at e; omega
/-- a row without those with which it may be one -/
def strip (o : Option Blk) : Option Blk := Option.rec none (fun k => some (match k with
  | .row cells e wr _ => .row cells e wr []
  | k => k)) o
/-- may it be one with those alone that are let go? (a: its name; as: the names that are kept) -/
def psQ (as : List Nat) (a : Nat) (o : Option Blk) : Bool := Option.rec true (fun k => List.rec true (fun p _ ih => Bool.and (Bool.or (Nat.beq p a) (Bool.and (noMem p as) (Bool.not (Nat.beq (Nat.mod p 4096) 4095)))) ih) k.ps) o
theorem psQ_get {as : List Nat} {a : Nat} {k : Blk} (h : psQ as a (some k) = true) : ∀ p ∈ k.ps, p = a ∨ (p ∉ as ∧ p % 4096 ≠ 4095) := by
  have key : ∀ (l : List Nat), (List.rec true (fun p _ ih => Bool.and (Bool.or (Nat.beq p a) (Bool.and (noMem p as) (Bool.not (Nat.beq (Nat.mod p 4096) 4095)))) ih) l : Bool) = true → ∀ p ∈ l, p = a ∨ (p ∉ as ∧ p % 4096 ≠ 4095) := by
    intro l
    induction l with
    | nil => intro _ p hp; cases hp
    | cons q l ih =>
      intro h p hp
      obtain ⟨h1, h2⟩ := and_tt h
      rcases List.mem_cons.1 hp with rfl | hp
      · cases hb : Nat.beq p a with
        | true => exact .inl (natBeq_iff.1 hb)
        | false =>
          rw [hb] at h1
          obtain ⟨h3, h4⟩ := and_tt (by exact h1)
          refine .inr ⟨noMem_iff h3, fun e => ?_⟩
          rw [show Nat.mod p 4096 = 4095 from e] at h4; cases h4
      · exact ih h2 p hp
  exact key k.ps h
/-- a new row of the zone: if it may be one with those alone that are let go -/
def rwQ (as : List Nat) (a : Nat) (o : Option Blk) : Option Blk := Bool.rec none (strip o) (psQ as a o)
theorem rwQ_some {as : List Nat} {a : Nat} {o : Option Blk} {k : Blk} (h : rwQ as a o = some k) : strip o = some k ∧ psQ as a o = true := by
  unfold rwQ at h
  cases hb : psQ as a o with
  | false => rw [hb] at h; cases h
  | true => rw [hb] at h; exact ⟨h, rfl⟩
def obsB (as : List Nat) (h : H) (A : List (Nat × Nat × Blk)) : List (Option Blk × Bool) := lmap (fun p => (strip (T.get h.b p.2.1), psQ as p.2.1 (T.get h.b p.2.1))) A
/-- what of the slots, the blocks (each under its name here, its name there), of new rows of the zone, and of the zone is seen -/
structure Obs where
  sl : List (Option AV)
  bl : List (Option Blk × Bool)
  rw_ : List (Option Blk)
  zo : T Blk
def obs (ts : List Nat) (as : List Nat) (A : List (Nat × Nat × Blk)) (Z : List (Nat × Nat × Blk)) (env : Env) (h : H) : Obs :=
  ⟨lmap (fun t => T.get env t) ts, obsB as h A, lmap (fun p => rwQ as p.2.1 (T.get h.b p.2.1)) Z, zget h.b 12⟩
def namesOf (A Z : List (Nat × Nat × Blk)) : List (Nat × Nat) := lapp (lmap (fun p => (p.1, p.2.1)) A) (lmap (fun p => (zn p.1, p.2.1)) Z)
def exps (n0 : Nat) (kp : Nat → Bool) (E : List (Nat × AV)) (A Z : List (Nat × Nat × Blk)) (z : T Blk) : Obs :=
  ⟨lmap (fun p => some (ren (szs n0 (namesOf A Z) kp) p.2)) E, lmap (fun p => (some (renB (szs n0 (namesOf A Z) kp) p.2.2), true)) A, lmap (fun p => some p.2.2) Z, z⟩
/-- what the zone of a heap holds -/
def kpOf (z : T Blk) (x : Nat) : Bool := Bool.rec false (Option.isSome (T.get z (Nat.div x 4096))) (Nat.beq (Nat.mod x 4096) 4095)
def zsets (z : T Blk) (Z : List (Nat × Nat × Blk)) : T Blk := List.rec z (fun p _ ih => T.set ih p.2.2 p.1) Z
theorem zsets_get {z : T Blk} : ∀ {Z : List (Nat × Nat × Blk)} {x : Nat} {k : Blk}, (zsets z Z).get x = some k → (∃ a, (x, a, k) ∈ Z) ∨ z.get x = some k
  | [], x, k, h => .inr h
  | p :: Z, x, k, h => by
    have h : (T.set (zsets z Z) p.2.2 p.1).get x = some k := h
    rcases T.get_set h with ⟨rfl, rfl⟩ | ⟨_, h⟩
    · exact .inl ⟨p.2.1, List.mem_cons_self ..⟩
    · rcases zsets_get h with ⟨a, h⟩ | h
      · exact .inl ⟨a, List.mem_cons_of_mem _ h⟩
      · exact .inr h
theorem kpOf_iff {z : T Blk} {x : Nat} : kpOf z x = true ↔ ∃ y k, x = zn y ∧ z.get y = some k := by
  unfold kpOf
  cases hb : Nat.beq (Nat.mod x 4096) 4095 with
  | false =>
    refine ⟨fun h => (by cases h), ?_⟩
    rintro ⟨y, k, e, _⟩
    rw [zn_eq] at e
    have : Nat.beq (Nat.mod x 4096) 4095 = true := natBeq_iff.2 (by show x % 4096 = 4095; omega)
    rw [hb] at this; cases this
  | true =>
    have h1 : x % 4096 = 4095 := natBeq_iff.1 hb
    constructor
    · intro h
      have h : (T.get z (x / 4096)).isSome = true := h
      cases hg : T.get z (x / 4096) with
      | none => rw [hg] at h; cases h
      | some k => exact ⟨x / 4096, k, by rw [zn_eq]; omega, hg⟩
    · rintro ⟨y, k, e, hg⟩
      rw [zn_eq] at e
      show (T.get z (x / 4096)).isSome = true
      rw [show x / 4096 = y by omega, hg]; rfl
theorem lmap_inj {α β : Type} {f g : α → β} : ∀ {l : List α}, lmap f l = lmap g l → ∀ x ∈ l, f x = g x
  | [], _, x, h => by cases h
  | a :: l, h, x, hx => by
    have h : f a :: lmap f l = g a :: lmap g l := h
    injection h with h1 h2
    rcases List.mem_cons.1 hx with rfl | hx
    · exact h1
    · exact lmap_inj h2 x hx
/-- what is to be shown of a state's parts, all by computation but for the zone's names -/
def okLit (n0 N : Nat) (A : List (Nat × Nat × Blk)) : Bool := List.rec true (fun p _ ih => Bool.and (Bool.and (Nat.ble (Nat.succ p.1) N) (Bool.and (belB N p.2.2) (Bool.and (Nat.ble (Nat.succ p.2.1) ZW)
  (Bool.and (Bool.not (Nat.beq (Nat.mod p.1 4096) 4095)) (Bool.and (Bool.not (Nat.beq (Nat.mod p.2.1 4096) 4095)) (Bool.rec (Nat.ble n0 p.2.1) (Nat.beq p.2.1 p.1) (Nat.ble (Nat.succ p.1) n0))))))) ih) A
structure LitOK (n0 N : Nat) (p : Nat × Nat × Blk) : Prop where
  c : p.1 < N
  k : belB N p.2.2 = true
  a : p.2.1 < ZW
  cz : p.1 % 4096 ≠ 4095
  az : p.2.1 % 4096 ≠ 4095
  new : n0 ≤ p.1 → n0 ≤ p.2.1
  old : p.1 < n0 → p.2.1 = p.1
theorem not_beq {a b : Nat} (h : Bool.not (Nat.beq a b) = true) : a ≠ b := by
  intro e; rw [natBeq_iff.2 e] at h; cases h
theorem okLit_get {n0 N : Nat} : ∀ {A : List (Nat × Nat × Blk)}, okLit n0 N A = true → ∀ p ∈ A, LitOK n0 N p
  | [], _, p, h => by cases h
  | q :: A, h, p, hp => by
    obtain ⟨h1, h2⟩ := and_tt (by exact h : Bool.and _ (okLit n0 N A) = true)
    rcases List.mem_cons.1 hp with rfl | hp
    · obtain ⟨a1, h1⟩ := and_tt h1
      obtain ⟨a2, h1⟩ := and_tt h1
      obtain ⟨a3, h1⟩ := and_tt h1
      obtain ⟨a4, h1⟩ := and_tt h1
      obtain ⟨a5, h1⟩ := and_tt h1
      refine ⟨Nat.le_of_ble_eq_true a1, a2, Nat.le_of_ble_eq_true a3, not_beq a4, not_beq a5, fun h => ?_, fun h => ?_⟩
      · rw [ble_false (by omega : n0 < Nat.succ p.1)] at h1; exact Nat.le_of_ble_eq_true h1
      · rw [show Nat.ble (Nat.succ p.1) n0 = true from Nat.ble_eq_true_of_le h] at h1; exact natBeq_iff.1 h1
    · exact okLit_get h2 p hp
def belEs (N : Nat) (E : List (Nat × AV)) : Bool := List.rec true (fun p _ ih => Bool.and (bel N p.2) ih) E
theorem belEs_get {N : Nat} : ∀ {E : List (Nat × AV)}, belEs N E = true → ∀ p ∈ E, bel N p.2 = true
  | [], _, p, h => by cases h
  | q :: E, h, p, hp => by
    obtain ⟨h1, h2⟩ := and_tt (by exact h : Bool.and (bel N q.2) (belEs N E) = true)
    rcases List.mem_cons.1 hp with rfl | hp
    · exact h1
    · exact belEs_get h2 p hp
theorem strip_same {o : Option Blk} {k : Blk} (h : strip o = some k) : ∃ k', o = some k' ∧ SameP k k' := by
  cases o with
  | none => cases h
  | some k' =>
    refine ⟨k', rfl, ?_⟩
    cases k' with
    | row cells e wr ps => cases h; exact ⟨ps, rfl⟩
    | map bs ck es => cases h; rfl
    | bts n v e => cases h; rfl
    | pur f n e => cases h; rfl
    | loop st j mask n env ps asg body => cases h; rfl
    | it y since seen last => cases h; rfl
/-- the names of the blocks as they are, with those of the zone's new rows -/
def actsOf (A Z : List (Nat × Nat × Blk)) : List Nat := lapp (lmap (fun p => p.2.1) A) (lmap (fun p => p.2.1) Z)
theorem zone_abs {n0 N : Nat} {E : List (Nat × AV)} {A Z : List (Nat × Nat × Blk)} {z : T Blk} {env : Env} {h : H} {ts : List Nat} {kp : Nat → Bool} (hkp : ∀ x, kp x = kpOf z x)
    (hts : lmap (fun p => p.1) E = ts)
    (ho : obs ts (actsOf A Z) A Z env h = exps n0 kp E A Z z)
    (hn : n0 ≤ N) (hE : belEs N E = true) (hA : okLit n0 N A = true) (hk : nodupQ (lmap (fun p => p.1) A) = true) (ha : nodupQ (actsOf A Z) = true)
    (hZ : ∀ p ∈ Z, n0 ≤ zn p.1 ∧ zn p.1 < N ∧ n0 ≤ p.2.1 ∧ p.2.1 < ZW ∧ p.2.1 % 4096 ≠ 4095 ∧ IntRow p.2.2) (hZn : (Z.map (·.1)).Nodup)
    (hz : ∀ x k, z.get x = some k → IntRow k ∧ zn x < N ∧ zn x < ZW) :
    Abs n0 (szs n0 (namesOf A Z) kp) (mkE E) ⟨mkB (zsets z Z) (lmap (fun p => (p.1, p.2.2)) A), N⟩ env h := by
  have o1 := congrArg Obs.sl ho
  have o2 := congrArg Obs.bl ho
  have o3 := congrArg Obs.rw_ ho
  have o4 : zget h.b 12 = z := congrArg Obs.zo ho
  have hMeq : namesOf A Z = A.map (fun p => (p.1, p.2.1)) ++ Z.map (fun p => (zn p.1, p.2.1)) := by unfold namesOf; rw [lapp_eq, lmap_eq, lmap_eq]
  have aMeq : actsOf A Z = A.map (fun p => p.2.1) ++ Z.map (fun p => p.2.1) := by unfold actsOf; rw [lapp_eq, lmap_eq, lmap_eq]
  have litA := okLit_get hA
  have kdA : (A.map (·.1)).Nodup := by rw [← lmap_eq]; exact nodupQ_nodup hk
  have acts : (actsOf A Z).Nodup := nodupQ_nodup ha
  rw [aMeq] at acts
  have nm : NM n0 (namesOf A Z) kp 0 := by
    rw [hMeq]
    refine ⟨?_, ?_, ?_, ?_⟩
    · rw [List.map_append, List.map_map, List.map_map]
      refine List.nodup_append.2 ⟨kdA, ?_, ?_⟩
      · have : (Z.map ((fun x => x.1) ∘ fun p : Nat × Nat × Blk => (zn p.1, p.2.1))) = (Z.map (·.1)).map zn := by rw [List.map_map]; rfl
        rw [this]
        exact List.pairwise_map.2 (hZn.imp fun hab e => hab (zn_inj e))
      · intro x hx y hy e
        obtain ⟨p, hp, rfl⟩ := List.mem_map.1 hx
        obtain ⟨q, hq, rfl⟩ := List.mem_map.1 hy
        have e : p.1 = zn q.1 := e
        have := (litA p hp).cz
        rw [e, zn_eq] at this; omega
    · rw [List.map_append, List.map_map, List.map_map]; exact acts
    · intro p hp
      rcases List.mem_append.1 hp with hp | hp
      · obtain ⟨q, hq, rfl⟩ := List.mem_map.1 hp
        have l := litA q hq
        refine ⟨l.a, ?_, l.new, l.old⟩
        rw [hkp]
        cases hb : kpOf z q.2.1 with
        | false => rfl
        | true =>
          obtain ⟨y, k, e, _⟩ := kpOf_iff.1 hb
          have := l.az; rw [e, zn_eq] at this; omega
      · obtain ⟨q, hq, rfl⟩ := List.mem_map.1 hp
        obtain ⟨a1, a2, a3, a4, a5, a6⟩ := hZ q hq
        refine ⟨a4, ?_, fun _ => a3, fun h => by exact absurd h (by simpa using a1)⟩
        rw [hkp]
        cases hb : kpOf z q.2.1 with
        | false => rfl
        | true =>
          obtain ⟨y, k, e, _⟩ := kpOf_iff.1 hb
          exfalso; apply a5; rw [e, zn_eq]; omega
    · intro x hx
      rw [hkp] at hx
      obtain ⟨y, k, rfl, hg⟩ := kpOf_iff.1 hx
      exact (hz y k hg).2.2
  have sA : ∀ p ∈ A, szs n0 (namesOf A Z) kp p.1 = p.2.1 := by
    intro p hp
    by_cases h0 : p.1 < n0
    · rw [szs_old h0]; exact ((litA p hp).old h0).symm
    · refine szs_map (by omega) (lfind_get nm.keys ?_)
      rw [hMeq]; exact List.mem_append_left _ (List.mem_map.2 ⟨p, hp, rfl⟩)
  have sZ : ∀ p ∈ Z, szs n0 (namesOf A Z) kp (zn p.1) = p.2.1 := by
    intro p hp
    refine szs_map (hZ p hp).1 (lfind_get nm.keys ?_)
    rw [hMeq]; exact List.mem_append_right _ (List.mem_map.2 ⟨p, hp, rfl⟩)
  have sK : ∀ x k, z.get x = some k → (∀ a k', (x, a, k') ∉ Z) → szs n0 (namesOf A Z) kp (zn x) = zn x := by
    intro x k hg hne
    by_cases h0 : zn x < n0
    · exact szs_old h0
    · refine szs_kept (by omega) ?_ (by rw [hkp]; exact kpOf_iff.2 ⟨x, k, rfl, hg⟩)
      cases hl : lfind (namesOf A Z) (zn x) with
      | none => rfl
      | some a =>
        have := lfind_mem hl
        rw [hMeq] at this
        rcases List.mem_append.1 this with h1 | h1
        · obtain ⟨q, hq, e⟩ := List.mem_map.1 h1
          have e1 : q.1 = zn x := congrArg Prod.fst e
          have := (litA q hq).cz
          rw [e1, zn_eq] at this; omega
        · obtain ⟨q, hq, e⟩ := List.mem_map.1 h1
          have e1 : zn q.1 = zn x := congrArg Prod.fst e
          have := zn_inj e1
          exact absurd hq (by rw [show q = (q.1, q.2.1, q.2.2) from rfl, this]; exact hne _ _)
  -- every block of the state, and where it is
  have all : ∀ i k, (mkB (zsets z Z) (lmap (fun p => (p.1, p.2.2)) A)).get i = some k → (∃ p ∈ A, i = p.1 ∧ k = p.2.2) ∨ (∃ p ∈ Z, i = zn p.1 ∧ k = p.2.2) ∨ (∃ x, i = zn x ∧ z.get x = some k ∧ szs n0 (namesOf A Z) kp (zn x) = zn x) := by
    intro i k hi
    rcases mkB_get hi with hm | ⟨x, rfl, hg⟩
    · rw [lmap_eq] at hm
      obtain ⟨p, hp, e⟩ := List.mem_map.1 hm
      cases e; exact .inl ⟨p, hp, rfl, rfl⟩
    · by_cases hx : ∃ a k', (x, a, k') ∈ Z
      · rcases zsets_get hg with ⟨a, hm⟩ | hg0
        · exact .inr (.inl ⟨_, hm, rfl, rfl⟩)
        · obtain ⟨a, k', hm⟩ := hx
          have hg2 : ∀ (Z : List (Nat × Nat × Blk)) , (∃ a k', (x, a, k') ∈ Z) → (zsets z Z).get x = some k → ∃ a, (x, a, k) ∈ Z := by
            intro Z
            induction Z with
            | nil => rintro ⟨a, k', h⟩; cases h
            | cons p Z ih =>
              rintro ⟨a, k', h⟩ hg
              have hg : (T.set (zsets z Z) p.2.2 p.1).get x = some k := hg
              by_cases e : x = p.1
              · subst e
                rw [T.get_set_same] at hg; cases hg
                exact ⟨p.2.1, List.mem_cons_self ..⟩
              · rw [T.get_set_other _ _ _ e] at hg
                rcases List.mem_cons.1 h with h | h
                · rw [← h] at e; exact absurd rfl e
                · obtain ⟨a, h⟩ := ih ⟨_, _, h⟩ hg
                  exact ⟨a, List.mem_cons_of_mem _ h⟩
          obtain ⟨a, hm⟩ := hg2 Z ⟨a, k', hm⟩ hg
          exact .inr (.inl ⟨_, hm, rfl, rfl⟩)
      · have hx : ∀ a k', (x, a, k') ∉ Z := fun a k' h => hx ⟨a, k', h⟩
        rcases zsets_get hg with ⟨a, hm⟩ | hg
        · exact absurd hm (hx _ _)
        · exact .inr (.inr ⟨x, rfl, hg, sK x k hg hx⟩)
  refine ⟨fun i hi => szs_old hi, fun i hi _ => szs_new nm hi, fun i j _ _ e => szs_inj nm e, hn, ?_, ?_⟩
  · intro t v ht
    have hm := mkE_get ht
    have o1 : lmap (fun t => T.get env t) ts = lmap (fun p : Nat × AV => some (ren (szs n0 (namesOf A Z) kp) p.2)) E := o1
    rw [← hts, lmap_eq, lmap_eq, lmap_eq, List.map_map, ← lmap_eq, ← lmap_eq] at o1
    exact ⟨belEs_get hE _ hm, lmap_inj o1 _ hm⟩
  · intro i k hi
    rcases all i k hi with ⟨p, hp, rfl, rfl⟩ | ⟨p, hp, rfl, rfl⟩ | ⟨x, rfl, hg, hs⟩
    · have l := litA p hp
      have o2 := lmap_inj (show lmap _ A = lmap _ A from o2) p hp
      have q1 : strip (T.get h.b p.2.1) = some (renB (szs n0 (namesOf A Z) kp) p.2.2) := congrArg Prod.fst o2
      have q2 : psQ (actsOf A Z) p.2.1 (T.get h.b p.2.1) = true := congrArg Prod.snd o2
      obtain ⟨k', g1, g2⟩ := strip_same q1
      refine ⟨l.c, l.k, k', by rw [sA p hp]; exact g1, g2, fun j kj hji hj hm => ?_⟩
      rw [g1] at q2
      rcases psQ_get q2 _ hm with e | ⟨e1, e2⟩
      · rw [← sA p hp] at e
        exact absurd (szs_inj nm e) hji
      · exfalso
        rcases all j kj hj with ⟨q, hq, rfl, _⟩ | ⟨q, hq, rfl, _⟩ | ⟨x, rfl, _, hs⟩
        · rw [sA q hq, aMeq] at e1
          exact e1 (List.mem_append_left _ (List.mem_map.2 ⟨q, hq, rfl⟩))
        · rw [sZ q hq, aMeq] at e1
          exact e1 (List.mem_append_right _ (List.mem_map.2 ⟨q, hq, rfl⟩))
        · rw [hs, zn_eq] at e2; omega
    · obtain ⟨a1, a2, a3, a4, a5, a6⟩ := hZ p hp
      have q0 : rwQ (actsOf A Z) p.2.1 (T.get h.b p.2.1) = some p.2.2 := lmap_inj (show lmap _ Z = lmap _ Z from o3) p hp
      obtain ⟨q1, q2⟩ := rwQ_some q0
      obtain ⟨k', g1, g2⟩ := strip_same q1
      obtain ⟨r1, r2⟩ := intRow_ren a6 (szs n0 (namesOf A Z) kp) N
      refine ⟨a2, r2, k', by rw [sZ p hp]; exact g1, by rw [r1]; exact g2, fun j kj hji hj hm => ?_⟩
      rw [g1] at q2
      rcases psQ_get q2 _ hm with e | ⟨e1, e2⟩
      · rw [← sZ p hp] at e
        exact absurd (szs_inj nm e) hji
      · exfalso
        rcases all j kj hj with ⟨q, hq, rfl, _⟩ | ⟨q, hq, rfl, _⟩ | ⟨x, rfl, _, hs⟩
        · rw [sA q hq, aMeq] at e1
          exact e1 (List.mem_append_left _ (List.mem_map.2 ⟨q, hq, rfl⟩))
        · rw [sZ q hq, aMeq] at e1
          exact e1 (List.mem_append_right _ (List.mem_map.2 ⟨q, hq, rfl⟩))
        · rw [hs, zn_eq] at e2; omega
    · obtain ⟨b1, b2, b3⟩ := hz x k hg
      obtain ⟨r1, r2⟩ := intRow_ren b1 (szs n0 (namesOf A Z) kp) N
      refine ⟨b2, r2, k, ?_, by rw [r1]; exact SameP.refl _, fun j kj _ _ hm => ?_⟩
      · rw [hs]
        show T.get h.b (zname 12 x) = some k
        rw [zget_get, o4]; exact hg
      · obtain ⟨ns, e, wr, e2⟩ := b1
        rw [e2] at hm; cases hm
end
end Go.X
/- Loops whose states are told by their parts, a zone among them. -/
set_option autoImplicit false
set_option linter.unusedVariables false
namespace Go.X
noncomputable section
/-- a state at a loop's door, as it is -/
structure Obs0 where
  sl : List (Option AV)
  bl : List (Option Blk)
  zo : T Blk
  nx : Nat
def obs0 (ts as : List Nat) (env : Env) (h : H) : Obs0 := ⟨lmap (fun t => T.get env t) ts, lmap (fun a => T.get h.b a) as, zget h.b 12, h.next⟩
def ZS.o0 (s : ZS) : Obs0 := ⟨lmap (fun p => some p.2) s.E, lmap (fun p => some p.2) s.B, s.z, s.N⟩
def blksN (N : Nat) (B : List (Nat × Blk)) : Bool := List.rec true (fun p _ ih => Bool.and (Bool.and (Nat.ble (Nat.succ p.1) N) (belB N p.2)) ih) B
theorem blksN_get {N : Nat} : ∀ {B : List (Nat × Blk)}, blksN N B = true → ∀ p ∈ B, p.1 < N ∧ belB N p.2 = true
  | [], _, p, h => by cases h
  | q :: B, h, p, hp => by
    obtain ⟨h1, h2⟩ := and_tt (by exact h : Bool.and (Bool.and (Nat.ble (Nat.succ q.1) N) (belB N q.2)) (blksN N B) = true)
    rcases List.mem_cons.1 hp with rfl | hp
    · obtain ⟨a, b⟩ := and_tt h1
      exact ⟨Nat.le_of_ble_eq_true a, b⟩
    · exact blksN_get h2 p hp
/-- the zone's rows, all named below N -/
def ZoneOK (z : T Blk) (N : Nat) : Prop := ∀ x k, z.get x = some k → IntRow k ∧ zn x < N ∧ zn x < ZW
structure ZS.ok (s : ZS) (n0 : Nat) : Prop where
  nx : s.N = n0
  sl : belEs n0 s.E = true
  bl : blksN n0 s.B = true
  zo : ZoneOK s.z n0
theorem ZS.ok.shut {s : ZS} {n0 : Nat} (o : s.ok n0) : Shut s.env s.h := by
  refine ⟨fun t v ht => ?_, fun i k hi => ?_⟩
  · show bel s.N v = true
    rw [o.nx]; exact belEs_get o.sl _ (mkE_get ht)
  · show belB s.N k = true
    rw [o.nx]
    rcases mkB_get hi with hm | ⟨x, _, hg⟩
    · exact (blksN_get o.bl _ hm).2
    · exact (intRow_ren (o.zo x k hg).1 id n0).2
theorem o0_le {s : ZS} {ts as : List Nat} {env : Env} {h : H} (h1 : lmap (fun p => p.1) s.E = ts) (h2 : lmap (fun p => p.1) s.B = as) (ho : obs0 ts as env h = s.o0) : EnvLe s.env env ∧ HLe s.h h := by
  have o1 : lmap (fun t => T.get env t) ts = lmap (fun p : Nat × AV => some p.2) s.E := congrArg Obs0.sl ho
  have o2 : lmap (fun a => T.get h.b a) as = lmap (fun p : Nat × Blk => some p.2) s.B := congrArg Obs0.bl ho
  have o3 : zget h.b 12 = s.z := congrArg Obs0.zo ho
  have o4 : h.next = s.N := congrArg Obs0.nx ho
  rw [← h1, lmap_eq, lmap_eq, lmap_eq, List.map_map, ← lmap_eq, ← lmap_eq] at o1
  rw [← h2, lmap_eq, lmap_eq, lmap_eq, List.map_map, ← lmap_eq, ← lmap_eq] at o2
  refine ⟨⟨fun t v ht => lmap_inj o1 _ (mkE_get ht)⟩, ⟨o4.symm, fun i k hi => ?_⟩⟩
  rcases mkB_get hi with hm | ⟨x, rfl, hg⟩
  · exact lmap_inj o2 _ hm
  · show T.get h.b (zname 12 x) = some k
    rw [zget_get, o3]; exact hg
section
variable {S0 S : Type}
/-- a loop's contract: it stands in one of its states; what is behind it -/
def lcZ (ok0 : S0 → Prop) (ts as : List Nat) (Z0 : S0 → ZS) (f0 : S0 → XE × ZS) : LCon := fun env h ds K =>
  ∃ s, ok0 s ∧ obs0 ts as env h = (Z0 s).o0 ∧ K (f0 s).1 (f0 s).2.env (f0 s).2.h ds
theorem lcZ_spl {ok0 : S0 → Prop} {ts as : List Nat} {Z0 : S0 → ZS} {f0 : S0 → XE × ZS} (hn : ∀ s, ok0 s → (Z0 s).N ≤ (f0 s).2.N) : SplL1 (lcZ ok0 ts as Z0 f0) := by
  rintro env h ds K ⟨s, h0, h1, h2⟩
  have e : h.next = (Z0 s).N := congrArg Obs0.nx h1
  exact ⟨_, _, _, _, h2, by rw [e]; exact hn s h0, fun K' hk => ⟨s, h0, h1, hk⟩⟩
theorem Good.addZ {C : Cfg} {P : Program} (G : Good C P) {n0 : Nat} (ι : S0 → S) {ok0 : S0 → Prop} {ts as : List Nat} {Z0 : S0 → ZS} {f0 : S0 → XE × ZS} {ok : S → Prop} {St : S → ZS} {μ : S → Nat} {fin : S → XE × ZS} {fuel f k : Nat}
    (h1 : llen (loopAt P f k) = 1)
    (hi : ∀ s, ok0 s → ok (ι s) ∧ St (ι s) = Z0 s ∧ fin (ι s) = f0 s ∧ (Z0 s).ok n0 ∧ n0 ≤ (f0 s).2.N ∧ lmap (fun p => p.1) (Z0 s).E = ts ∧ lmap (fun p => p.1) (Z0 s).B = as)
    (hrun : ∀ s, ok s → Ran (xcode C P fuel f (loopC P f k) (C.mask f) (tmpsN P f) (St s).env (St s).h [] (fun x env h ds => match x with
      | .nrm => ∃ s' σ, ok s' ∧ μ s' < μ s ∧ fin s' = fin s ∧ Abs n0 σ (St s').env (St s').h env h
      | x => ∃ σ, (fin s).1 = x ∧ Abs n0 σ (fin s).2.env (fin s).2.h env h)))
    (hgl : ∀ g i, C.gl g = some i → i < n0) : Good (C.addLc f k (lcZ ok0 ts as Z0 f0)) P := by
  refine G.addLc f k _ (lcZ_spl fun s h => by obtain ⟨_, _, _, a, b, _⟩ := hi s h; rw [a.nx]; exact b) h1 fun sb => ?_
  refine lcOf_ok (S := {s // ok s}) (n0 := n0) (E := fun s => (St s.1).env) (Hs := fun s => (St s.1).h) (μ := fun s => μ s.1) (fin := fun s => ((fin s.1).1, (fin s.1).2.env, (fin s.1).2.h)) (fuel := fuel) G.ok G.spl sb ?_ _ ?_ hgl
  · intro s _
    have := (hrun s.1 s.2).out
    obtain ⟨x, e, h', ds', q, _, back⟩ := xcode_spl G.spl fuel _ _ _ _ _ _ _ _ this
    refine ⟨back _ ?_⟩
    cases x with
    | nrm =>
      obtain ⟨s', σ, a, b, c, d⟩ := q
      refine ⟨⟨s', a⟩, σ, b, ?_, d⟩
      show ((fin s').1, (fin s').2.env, (fin s').2.h) = ((fin s.1).1, (fin s.1).2.env, (fin s.1).2.h)
      rw [c]
    | _ => obtain ⟨σ, a, b⟩ := q; exact ⟨_, a, b⟩
  · rintro env h ds K ⟨s, h0, h1, h4⟩
    obtain ⟨a1, a2, a3, a4, a5, a6, a7⟩ := hi s h0
    obtain ⟨e1, e2⟩ := o0_le a6 a7 h1
    refine ⟨⟨ι s, a1⟩, ?_, ?_, ?_, ?_, ?_⟩
    · show (St (ι s)).N = n0
      rw [a2]; exact a4.nx
    · show Shut (St (ι s)).env (St (ι s)).h
      rw [a2]; exact a4.shut
    · show EnvLe (St (ι s)).env env
      rw [a2]; exact e1
    · show HLe (St (ι s)).h h
      rw [a2]; exact e2
    · show K (fin (ι s)).1 (fin (ι s)).2.env (fin (ι s)).2.h ds
      rw [a3]; exact h4
end
/-- the parts of a new state, their names there and here: what zone_abs asks -/
structure NewOK (n0 : Nat) (t : ZS) (A Z : List (Nat × Nat × Blk)) (z : T Blk) : Prop where
  bl : t.B = lmap (fun p => (p.1, p.2.2)) A
  zo : t.z = zsets z Z
  nx : n0 ≤ t.N
  sl : belEs t.N t.E = true
  lit : okLit n0 t.N A = true
  keys : nodupQ (lmap (fun p => p.1) A) = true
  acts : nodupQ (actsOf A Z) = true
  new : ∀ p ∈ Z, n0 ≤ zn p.1 ∧ zn p.1 < t.N ∧ n0 ≤ p.2.1 ∧ p.2.1 < ZW ∧ p.2.1 % 4096 ≠ 4095 ∧ IntRow p.2.2
  newn : (Z.map (·.1)).Nodup
  old : ZoneOK z t.N
theorem NewOK.abs {n0 : Nat} {t : ZS} {A Z : List (Nat × Nat × Blk)} {z : T Blk} (o : NewOK n0 t A Z z) {env : Env} {h : H} {ts as : List Nat} {A2 Z2 : List (Nat × Nat × Blk)} (h1 : lmap (fun p => p.1) t.E = ts) (h2 : actsOf A Z = as) (h3 : lmap (fun p => p.2.1) A2 = lmap (fun p => p.2.1) A) (h4 : lmap (fun p => p.2.1) Z2 = lmap (fun p => p.2.1) Z)
    (ho : obs ts as A2 Z2 env h = exps n0 (kpOf z) t.E A Z z) : ∃ σ, Abs n0 σ t.env t.h env h := by
  have e : obs ts as A2 Z2 env h = obs ts as A Z env h := by
    unfold obs obsB
    rw [lmap_eq, lmap_eq] at h3 h4
    have k3 : A2.map (fun p => (strip (T.get h.b p.2.1), psQ as p.2.1 (T.get h.b p.2.1))) = A.map (fun p => (strip (T.get h.b p.2.1), psQ as p.2.1 (T.get h.b p.2.1))) := by
      have := congrArg (List.map fun a => (strip (T.get h.b a), psQ as a (T.get h.b a))) h3
      rwa [List.map_map, List.map_map] at this
    have k4 : Z2.map (fun p => rwQ as p.2.1 (T.get h.b p.2.1)) = Z.map (fun p => rwQ as p.2.1 (T.get h.b p.2.1)) := by
      have := congrArg (List.map fun a => rwQ as a (T.get h.b a)) h4
      rwa [List.map_map, List.map_map] at this
    simp only [lmap_eq]
    rw [k3, k4]
  rw [e] at ho
  subst h2
  have := zone_abs (N := t.N) (kp := kpOf z) (fun _ => rfl) h1 ho o.nx o.sl o.lit o.keys o.acts o.new o.newn o.old
  refine ⟨szs n0 (namesOf A Z) (kpOf z), ?_⟩
  show Abs n0 _ (mkE t.E) ⟨mkB t.z t.B, t.N⟩ env h
  rw [o.bl, o.zo]; exact this
end
end Go.X
/- Loops that leave the heap as it is, whatever it is. -/
set_option autoImplicit false
set_option linter.unusedVariables false
namespace Go.X
noncomputable section
/-- all names of a heap are below its next one -/
structure HC (h : H) : Prop where
  ok : ∀ i k, h.b.get i = some k → i < h.next ∧ belB h.next k = true
theorem ZS.ok.hc {s : ZS} {n0 : Nat} (o : s.ok n0) : HC s.h := by
  refine ⟨fun i k hi => ?_⟩
  show i < s.N ∧ belB s.N k = true
  rw [o.nx]
  rcases mkB_get hi with hm | ⟨x, rfl, hg⟩
  · exact blksN_get o.bl _ hm
  · exact ⟨(o.zo x k hg).2.1, (intRow_ren (o.zo x k hg).1 id n0).2⟩
theorem bcase_tt {c : Bool} {t f : Prop} (h : c = true) (ht : t) : bcase c t f := by subst h; exact ht
theorem bcase_ff {c : Bool} {t f : Prop} (h : c = false) (hf : f) : bcase c t f := by subst h; exact hf
theorem ix_eq (i : Nat) : Nat.add 0 (Nat.mul (Int.toNat (Int.ofNat i)) 1) = i := by show 0 + i * 1 = i; omega
def sl (ts : List Nat) (env : Env) : List (Option AV) := lmap (fun t => T.get env t) ts
def slx (E : List (Nat × AV)) : List (Option AV) := lmap (fun p => some p.2) E
theorem sl_get {E : List (Nat × AV)} {ts : List Nat} {env : Env} (h1 : lmap (fun p => p.1) E = ts) (ho : sl ts env = slx E) {t : Nat} {v : AV} (ht : T.get (mkE E) t = some v) : T.get env t = some v := by
  unfold sl slx at ho
  rw [← h1, lmap_eq, lmap_eq, lmap_eq, List.map_map, ← lmap_eq, ← lmap_eq] at ho
  exact lmap_inj ho _ (mkE_get ht)
theorem abs_same {h : H} (hc : HC h) {E : List (Nat × AV)} {ts : List Nat} {env : Env} (h1 : lmap (fun p => p.1) E = ts) (hb : belEs h.next E = true) (ho : sl ts env = slx E) : Abs h.next id (mkE E) h env h :=
  ⟨fun _ _ => rfl, fun _ h _ => h, fun _ _ _ _ e => e, Nat.le_refl _, fun t v ht => ⟨belEs_get hb _ (mkE_get ht), by rw [ren_id]; exact sl_get h1 ho ht⟩,
    fun i k hi => ⟨(hc.ok i k hi).1, (hc.ok i k hi).2, k, hi, by rw [renB_id]; exact SameP.refl _, fun j _ _ _ hm => hm⟩⟩
section
variable {S0 S : Type}
def lcH (h0 : H) (ok0 : S0 → Prop) (ts : List Nat) (E0 : S0 → List (Nat × AV)) (f0 : S0 → XE × List (Nat × AV)) : LCon := fun env h ds K =>
  h = h0 ∧ ∃ s, ok0 s ∧ sl ts env = slx (E0 s) ∧ K (f0 s).1 (mkE (f0 s).2) h0 ds
theorem lcH_spl {h0 : H} {ok0 : S0 → Prop} {ts : List Nat} {E0 : S0 → List (Nat × AV)} {f0 : S0 → XE × List (Nat × AV)} : SplL1 (lcH h0 ok0 ts E0 f0) := by
  rintro env h ds K ⟨rfl, s, h0, h1, h2⟩
  exact ⟨_, _, _, _, h2, Nat.le_refl _, fun K' hk => ⟨rfl, s, h0, h1, hk⟩⟩
theorem Good.addH {C : Cfg} {P : Program} (G : Good C P) {h0 : H} (hc : HC h0) (ι : S0 → S) {ok0 : S0 → Prop} {ts : List Nat} {E0 : S0 → List (Nat × AV)} {f0 : S0 → XE × List (Nat × AV)} {ok : S → Prop} {E : S → List (Nat × AV)} {μ : S → Nat} {fin : S → XE × List (Nat × AV)} {fuel f k : Nat}
    (h1 : llen (loopAt P f k) = 1)
    (hi : ∀ s, ok0 s → ok (ι s) ∧ E (ι s) = E0 s ∧ fin (ι s) = f0 s)
    (hs : ∀ s, ok s → lmap (fun p => p.1) (E s) = ts ∧ belEs h0.next (E s) = true ∧ lmap (fun p => p.1) (fin s).2 = ts ∧ belEs h0.next (fin s).2 = true)
    (hrun : ∀ s, ok s → Ran (xcode C P fuel f (loopC P f k) (C.mask f) (tmpsN P f) (mkE (E s)) h0 [] (fun x env h ds => h = h0 ∧ match x with
      | .nrm => ∃ s', ok s' ∧ μ s' < μ s ∧ fin s' = fin s ∧ sl ts env = slx (E s')
      | x => (fin s).1 = x ∧ sl ts env = slx (fin s).2)))
    (hgl : ∀ g i, C.gl g = some i → i < h0.next) : Good (C.addLc f k (lcH h0 ok0 ts E0 f0)) P := by
  refine G.addLc f k _ lcH_spl h1 fun sb => ?_
  refine lcOf_ok (S := {s // ok s}) (n0 := h0.next) (E := fun s => mkE (E s.1)) (Hs := fun _ => h0) (μ := fun s => μ s.1) (fin := fun s => ((fin s.1).1, mkE (fin s.1).2, h0)) (fuel := fuel) G.ok G.spl sb ?_ _ ?_ hgl
  · intro s _
    have := (hrun s.1 s.2).out
    obtain ⟨x, e, h', ds', ⟨rfl, q⟩, _, back⟩ := xcode_spl G.spl fuel _ _ _ _ _ _ _ _ this
    refine ⟨back _ ?_⟩
    cases x with
    | nrm =>
      obtain ⟨s', a, b, c, d⟩ := q
      obtain ⟨g1, g2, g4, g3⟩ := hs s' a
      refine ⟨⟨s', a⟩, id, b, ?_, abs_same hc g1 g2 d⟩
      show ((fin s').1, mkE (fin s').2, h') = ((fin s.1).1, mkE (fin s.1).2, h')
      rw [c]
    | _ =>
      obtain ⟨a, b⟩ := q
      obtain ⟨g1, g2, g4, g3⟩ := hs s.1 s.2
      exact ⟨id, a, abs_same hc g4 g3 b⟩
  · rintro env h ds K ⟨rfl, s, h0, h2, h3⟩
    obtain ⟨a1, a2, a3⟩ := hi s h0
    obtain ⟨g1, g2, g4, g3⟩ := hs (ι s) a1
    refine ⟨⟨ι s, a1⟩, rfl, ⟨fun t v ht => ?_, fun i k hi => (hc.ok i k hi).2⟩, ⟨fun t v ht => ?_⟩, ⟨rfl, fun i k hi => hi⟩, ?_⟩
    · exact belEs_get g2 _ (mkE_get ht)
    · exact sl_get g1 (by rw [a2]; exact h2) ht
    · show K (fin (ι s)).1 (mkE (fin (ι s)).2) h ds
      rw [a3]; exact h3
end
end
end Go.X
/- Loops whose rounds are run with values told ahead, for each round its own. -/
set_option autoImplicit false
set_option linter.unusedVariables false
namespace Go.X
noncomputable section
/-- slots that are one but for what is told ahead -/
def PeV (a b : AV) : Prop := a = b ∨ ∃ i o n g g', a = .vs i o n g ∧ b = .vs i o n g'
theorem PeV.rv {a b : AV} (h : PeV a b) {L : LM} {x : Value} (r : RV L a x) : RV L b x := by
  rcases h with rfl | ⟨i, o, n, g, g', rfl, rfl⟩
  · exact r
  · cases r with
    | vs _ _ _ _ p c hp h1 h2 => exact .vs _ _ _ _ p c hp h1 h2
inductive Pe : List (Nat × AV) → List (Nat × AV) → Prop
  | nil : Pe [] []
  | cons (t : Nat) (a b : AV) (E E' : List (Nat × AV)) (h : PeV a b) (hs : Pe E E') : Pe ((t, a) :: E) ((t, b) :: E')
theorem Pe.refl : ∀ (E : List (Nat × AV)), Pe E E
  | [] => .nil
  | p :: E => .cons p.1 p.2 p.2 E E (.inl rfl) (Pe.refl E)
theorem Pe.get {E E' : List (Nat × AV)} (h : Pe E E') {t : Nat} {v : AV} (ht : T.get (mkE E') t = some v) : ∃ u, T.get (mkE E) t = some u ∧ PeV u v := by
  induction h with
  | nil => cases ht
  | cons t0 a b E E' hv _ ih =>
    have ht : (T.set (mkE E') b t0).get t = some v := ht
    show ∃ u, (T.set (mkE E) a t0).get t = some u ∧ PeV u v
    rcases T.get_set ht with ⟨rfl, rfl⟩ | ⟨hne, ht⟩
    · exact ⟨a, T.get_set_same _ _, hv⟩
    · obtain ⟨u, a1, a2⟩ := ih ht
      exact ⟨u, by rw [T.get_set_other _ _ _ hne]; exact a1, a2⟩
theorem Pe.re {E E' : List (Nat × AV)} (h : Pe E E') {L : LM} {mask : Nat} {a : Act} (r : RE' L mask (mkE E) a) : RE' L mask (mkE E') a := by
  refine ⟨fun t v ht => ?_, fun t v ht => ?_⟩
  · obtain ⟨u, a1, a2⟩ := h.get ht
    exact a2.rv (r.get t u a1)
  · obtain ⟨u, a1, a2⟩ := h.get ht
    exact r.bits t u a1
section
variable {P : Program}
theorem lcOf_okR {gl : Glob} {S : Type} (Cs : S → Cfg) (hC : ∀ s, ConOK (Cs s) P) (hS : ∀ s, SplCon (Cs s)) (hG : ∀ s, (Cs s).gl = gl) {n0 : Nat} {E : S → Env} (Er : S → Env) {Hs : S → H} {μ : S → Nat} {fin : S → XE × Env × H} (dr : S → List Bool) {fuel f : Nat} {c : Code} {mask n : Nat} (sb : ∀ s, Sub (Cs s) P f (.loop c) mask n)
    (hEr : ∀ s L a, RE' L mask (E s) a → RE' L mask (Er s) a)
    (hrun : ∀ s, n0 ≤ (Hs s).next → Ran (xcode (Cs s) P fuel f c mask n (Er s) (Hs s) (dr s) (Round n0 E Hs μ fin s)))
    (l : LCon) (hl : ∀ env h ds K, l env h ds K → ∃ s, (Hs s).next = n0 ∧ Shut (E s) (Hs s) ∧ EnvLe (E s) env ∧ HLe (Hs s) h ∧ K (fin s).1 (fin s).2.1 (fin s).2.2 ds) (hgl : ∀ g i, gl g = some i → i < n0) : LoopOK P gl c mask n l := by
  intro env h ds K hk L a w U hU rg re hn r
  obtain ⟨s0, e0, esh, e1, e2, e3⟩ := hl env h ds K hk
  obtain ⟨L1, s1, x1, ag, r1, re1⟩ := cut_step r re e1 e2 esh
  have hUf := hU _ _ _ _ e3
  have rg1 : RG L1 gl := fun g i hg => by
    have e := rg g i hg
    rw [ag i (by rw [e0]; exact hgl g i hg)]; exact e
  have key : ∀ (m : Nat) (s : S) (L' : LM) (a' : Act) (w' : World), μ s = m → fin s = fin s0 → n0 ≤ (Hs s).next → supp L' (Hs s).next → RH L' (Hs s) w' 0 → RE' L' mask (E s) a' → Step L1 L' (Hs s0) (Hs s) w w' → a'.tmps.size = n → DSt L' w a.defers a'.defers w' →
      LoopWp none P c (CPost K U L h w a.defers mask n) a' w' := by
    intro m
    induction m using Nat.strongRecOn with
    | _ m ih =>
      intro s L' a' w' hm hf hnx sp rh re st hn' hd'
      obtain ⟨x, env2, h2, ds2, q1, q2, back⟩ := xcode_spl (P := P) (hS s) fuel _ _ _ _ _ _ _ _ (hrun s hnx).out
      have hk2 := back (fun x' e' h' _ => x' = x ∧ e' = env2 ∧ h' = h2) ⟨rfl, rfl, rfl⟩
      refine .round (wpIn_mono (xcode_code (hC s) (hS s) fuel none f c mask n _ _ _ _ (fun _ => ⟨rfl, (sb s).map fun _ => .loop⟩) hk2 L' a' w' h2.next (fun _ _ _ _ e => by rw [e.2.2]; exact Nat.le_refl _) (by rw [hG s]; exact rg1.mono st.ext) (hEr s _ _ re) hn' (rh.any sp _)) ?_)
      rintro e a2 w2 ⟨x', env', h', ds', L2, rfl, ⟨rfl, rfl, rfl⟩, k2, k3, k4, k5, k6⟩
      have st2 := st.trans k6
      have dd := hd'.trans st.size k6 k4
      cases x' with
      | nrm =>
        obtain ⟨s', σ, m1, m2, ab⟩ := q1
        obtain ⟨L3, t1, t2, t3, t4, t5⟩ := abs_step (by exact s1) st2 k5 k2 (by rw [e0]; exact ab)
        exact ih (μ s') (by omega) s' L3 a2 w2 rfl (m2.trans hf) ab.next t1 t2 t3 t4 k3 (dd.sub fun i p hp => by obtain ⟨j, hj⟩ := t5 i p hp; exact .inl ⟨j, p, hj, rfl⟩)
      | _ =>
        obtain ⟨σ, m1, ab⟩ := q1
        rw [hf] at m1 ab
        obtain ⟨L3, t1, t2, t3, t4, t5⟩ := abs_step (by exact s1) st2 k5 k2 (by rw [e0]; exact ab)
        obtain ⟨L4, u1, u2, u3, u4⟩ := uncut_step r e2 ag s1 hUf t1 t2 t3 t4
        have d4 : DSt L4 w a.defers a2.defers w2 := dd.sub fun i p hp => by
          rcases u4 i p hp with h1 | h1
          · obtain ⟨j, hj⟩ := t5 i p h1
            exact .inl ⟨j, p, hj, rfl⟩
          · exact .inr (r.below i p h1)
        exact ⟨_, _, _, ds, L4, rfl, by rw [← m1]; exact e3, u2, k3, d4, u1, u3⟩
  exact key _ s0 L1 a w rfl rfl (by omega) s1 r1 re1 (Step.refl _ _ _) hn (.refl _ _ _ _)
section
variable {S0 S : Type}
theorem Good.addZR {C : Cfg} (G : Good C P) {C' : Cfg} (G' : Good C' P) (hg' : C'.gl = C.gl) (dr : S → List Bool) {n0 : Nat} (ι : S0 → S) {ok0 : S0 → Prop} {ts as : List Nat} {Z0 : S0 → ZS} {f0 : S0 → XE × ZS} {ok : S → Prop} {St : S → ZS} (Er : S → List (Nat × AV)) {μ : S → Nat} {fin : S → XE × ZS} {fuel f k : Nat}
    (hm' : C'.mask f = C.mask f) (h1 : llen (loopAt P f k) = 1)
    (hEr : ∀ s, ok s → Pe (St s).E (Er s))
    (hi : ∀ s, ok0 s → ok (ι s) ∧ St (ι s) = Z0 s ∧ fin (ι s) = f0 s ∧ (Z0 s).ok n0 ∧ n0 ≤ (f0 s).2.N ∧ lmap (fun p => p.1) (Z0 s).E = ts ∧ lmap (fun p => p.1) (Z0 s).B = as)
    (hrun : ∀ s, ok s → Ran (xcode C' P fuel f (loopC P f k) (C.mask f) (tmpsN P f) (mkE (Er s)) (St s).h (dr s) (fun x env h ds => match x with
      | .nrm => ∃ s' σ, ok s' ∧ μ s' < μ s ∧ fin s' = fin s ∧ Abs n0 σ (St s').env (St s').h env h
      | x => ∃ σ, (fin s).1 = x ∧ Abs n0 σ (fin s).2.env (fin s).2.h env h)))
    (hgl : ∀ g i, C.gl g = some i → i < n0) : Good (C.addLc f k (lcZ ok0 ts as Z0 f0)) P := by
  refine G.addLc f k _ (lcZ_spl fun s h => by obtain ⟨_, _, _, a, b, _⟩ := hi s h; rw [a.nx]; exact b) h1 fun sb => ?_
  refine lcOf_okR (S := {s // ok s}) (Cs := fun _ => C') (fun _ => G'.ok) (fun _ => G'.spl) (fun _ => hg') (n0 := n0) (E := fun s => (St s.1).env) (Er := fun s => mkE (Er s.1)) (Hs := fun s => (St s.1).h) (μ := fun s => μ s.1) (fin := fun s => ((fin s.1).1, (fin s.1).2.env, (fin s.1).2.h)) (fun s => dr s.1) (fuel := fuel) (fun _ => by obtain ⟨fn, b, q1, q2, q3, q4, q5⟩ := sb; exact ⟨fn, b, q1, q2, q3.trans hm'.symm, q4, q5⟩) (fun s L a r => (hEr s.1 s.2).re r) ?_ _ ?_ hgl
  · intro s _
    have := (hrun s.1 s.2).out
    obtain ⟨x, e, h', ds', q, _, back⟩ := xcode_spl G'.spl fuel _ _ _ _ _ _ _ _ this
    refine ⟨back _ ?_⟩
    cases x with
    | nrm =>
      obtain ⟨s', σ, a, b, c, d⟩ := q
      refine ⟨⟨s', a⟩, σ, b, ?_, d⟩
      show ((fin s').1, (fin s').2.env, (fin s').2.h) = ((fin s.1).1, (fin s.1).2.env, (fin s.1).2.h)
      rw [c]
    | _ => obtain ⟨σ, a, b⟩ := q; exact ⟨_, a, b⟩
  · rintro env h ds K ⟨s, h0, h1, h4⟩
    obtain ⟨a1, a2, a3, a4, a5, a6, a7⟩ := hi s h0
    obtain ⟨e1, e2⟩ := o0_le a6 a7 h1
    refine ⟨⟨ι s, a1⟩, ?_, ?_, ?_, ?_, ?_⟩
    · show (St (ι s)).N = n0
      rw [a2]; exact a4.nx
    · show Shut (St (ι s)).env (St (ι s)).h
      rw [a2]; exact a4.shut
    · show EnvLe (St (ι s)).env env
      rw [a2]; exact e1
    · show HLe (St (ι s)).h h
      rw [a2]; exact e2
    · show K (fin (ι s)).1 (fin (ι s)).2.env (fin (ι s)).2.h ds
      rw [a3]; exact h4
theorem Good.addHR {C : Cfg} (G : Good C P) {h0 : H} (hc : HC h0) (ι : S0 → S) {ok0 : S0 → Prop} {ts : List Nat} {E0 : S0 → List (Nat × AV)} {f0 : S0 → XE × List (Nat × AV)} {tsF : List Nat} {ok : S → Prop} {E : S → List (Nat × AV)} (Er : S → List (Nat × AV)) {μ : S → Nat} {fin : S → XE × List (Nat × AV)} {fuel f k : Nat}
    (h1 : llen (loopAt P f k) = 1)
    (hEr : ∀ s, ok s → Pe (E s) (Er s))
    (hi : ∀ s, ok0 s → ok (ι s) ∧ E (ι s) = E0 s ∧ fin (ι s) = f0 s)
    (hs : ∀ s, ok s → lmap (fun p => p.1) (E s) = ts ∧ belEs h0.next (E s) = true ∧ lmap (fun p => p.1) (fin s).2 = tsF ∧ belEs h0.next (fin s).2 = true)
    (hrun : ∀ s, ok s → Ran (xcode C P fuel f (loopC P f k) (C.mask f) (tmpsN P f) (mkE (Er s)) h0 [] (fun x env h ds => h = h0 ∧ match x with
      | .nrm => ∃ s', ok s' ∧ μ s' < μ s ∧ fin s' = fin s ∧ sl ts env = slx (E s')
      | x => (fin s).1 = x ∧ sl tsF env = slx (fin s).2)))
    (hgl : ∀ g i, C.gl g = some i → i < h0.next) : Good (C.addLc f k (lcH h0 ok0 ts E0 f0)) P := by
  refine G.addLc f k _ lcH_spl h1 fun sb => ?_
  refine lcOf_okR (S := {s // ok s}) (Cs := fun _ => C) (fun _ => G.ok) (fun _ => G.spl) (fun _ => rfl) (n0 := h0.next) (E := fun s => mkE (E s.1)) (Er := fun s => mkE (Er s.1)) (Hs := fun _ => h0) (μ := fun s => μ s.1) (fin := fun s => ((fin s.1).1, mkE (fin s.1).2, h0)) (fun _ => []) (fuel := fuel) (fun _ => sb) (fun s L a r => (hEr s.1 s.2).re r) ?_ _ ?_ hgl
  · intro s _
    have := (hrun s.1 s.2).out
    obtain ⟨x, e, h', ds', ⟨rfl, q⟩, _, back⟩ := xcode_spl G.spl fuel _ _ _ _ _ _ _ _ this
    refine ⟨back _ ?_⟩
    cases x with
    | nrm =>
      obtain ⟨s', a, b, c, d⟩ := q
      obtain ⟨g1, g2, g4, g3⟩ := hs s' a
      refine ⟨⟨s', a⟩, id, b, ?_, abs_same hc g1 g2 d⟩
      show ((fin s').1, mkE (fin s').2, h') = ((fin s.1).1, mkE (fin s.1).2, h')
      rw [c]
    | _ =>
      obtain ⟨a, b⟩ := q
      obtain ⟨g1, g2, g4, g3⟩ := hs s.1 s.2
      exact ⟨id, a, abs_same hc g4 g3 b⟩
  · rintro env h ds K ⟨rfl, s, h0, h2, h3⟩
    obtain ⟨a1, a2, a3⟩ := hi s h0
    obtain ⟨g1, g2, g4, g3⟩ := hs (ι s) a1
    refine ⟨⟨ι s, a1⟩, rfl, ⟨fun t v ht => ?_, fun i k hi => (hc.ok i k hi).2⟩, ⟨fun t v ht => ?_⟩, ⟨rfl, fun i k hi => hi⟩, ?_⟩
    · exact belEs_get g2 _ (mkE_get ht)
    · exact sl_get g1 (by rw [a2]; exact h2) ht
    · show K (fin (ι s)).1 (mkE (fin (ι s)).2) h ds
      rw [a3]; exact h3
end
end
end
end Go.X
/- Rounds of loops that let rows grow: what is seen of them is told as it is. -/
set_option autoImplicit false
set_option linter.unusedVariables false
namespace Go.X
noncomputable section
/-- the blocks of a list, under their names there -/
def zipA (B : List (Nat × Blk)) : List Nat → List (Nat × Nat × Blk) := List.rec (motive := fun _ => List Nat → List (Nat × Nat × Blk)) (fun _ => []) (fun p _ ih as => List.rec ((p.1, 0, p.2) :: ih []) (fun a as _ => (p.1, a, p.2) :: ih as) as) B
theorem zipA_B : ∀ (B : List (Nat × Blk)) (as : List Nat), lmap (fun p => (p.1, p.2.2)) (zipA B as) = B
  | [], _ => rfl
  | p :: B, [] => congrArg (p :: ·) (zipA_B B [])
  | p :: B, a :: as => congrArg (p :: ·) (zipA_B B as)
def expsR (n0 : Nat) (kp : Nat → Bool) (E : List (Nat × AV)) (R A Z : List (Nat × Nat × Blk)) (z : T Blk) (raw : List (Option Blk × Bool)) : Obs :=
  ⟨lmap (fun p => some (ren (szs n0 (namesOf (lapp R A) Z) kp) p.2)) E, lapp raw (lmap (fun p => (some (renB (szs n0 (namesOf (lapp R A) Z) kp) p.2.2), true)) A), lmap (fun p => some p.2.2) Z, z⟩
theorem expsR_eq {n0 : Nat} {kp : Nat → Bool} {E : List (Nat × AV)} {R A Z : List (Nat × Nat × Blk)} {z : T Blk} {raw : List (Option Blk × Bool)}
    (h : raw = lmap (fun p => (some (renB (szs n0 (namesOf (lapp R A) Z) kp) p.2.2), true)) R) : expsR n0 kp E R A Z z raw = exps n0 kp E (lapp R A) Z z := by
  unfold expsR exps
  rw [h]
  congr 1
  simp only [lmap_eq, lapp_eq, List.map_append]
theorem lapp_nil {α : Type} (l : List α) : lapp [] l = l := rfl
/-- slices of rows of a zone, from row x on -/
def zrows (x m n : Nat) : List AV := (List.range n).map fun j => .slc (zn (x + j)) 0 m m false 1
def zrowsT (x m n : Nat) : List AV := (List.range n).map fun j => .slc (zn (x + j)) 0 m m true 1
theorem zrows_len (x m n : Nat) : (zrows x m n).length = n := by simp [zrows]
theorem zrowsT_len (x m n : Nat) : (zrowsT x m n).length = n := by simp [zrowsT]
theorem renL_append (ρ : Nat → Nat) : ∀ (as bs : List AV), renL ρ (as ++ bs) = renL ρ as ++ renL ρ bs
  | [], bs => rfl
  | a :: as, bs => by simp only [List.cons_append, renL, renL_append ρ as bs]
theorem renL_slc (ρ : Nat → Nat) (f : Nat → Nat) (m : Nat) (e : Bool) : ∀ (l : List Nat), renL ρ (l.map fun j => .slc (f j) 0 m m e 1) = l.map fun j => .slc (ρ (f j)) 0 m m e 1
  | [] => rfl
  | j :: l => by simp only [List.map_cons, renL, ren, renL_slc ρ f m e l]
theorem belL_slc (N : Nat) (f : Nat → Nat) (m : Nat) (e : Bool) : ∀ (l : List Nat), (∀ j ∈ l, f j < N) → belL N (l.map fun j => .slc (f j) 0 m m e 1) = true
  | [], _ => rfl
  | j :: l, h => by
    have h1 : Nat.ble (Nat.succ (f j)) N = true := Nat.ble_eq_true_of_le (h j (List.mem_cons_self ..))
    show Bool.and (Nat.ble (Nat.succ (f j)) N) (belL N (l.map fun j => .slc (f j) 0 m m e 1)) = true
    rw [h1, belL_slc N f m e l fun k hk => h k (List.mem_cons_of_mem _ hk)]; rfl
/-- a row of slices behind one round more -/
theorem zrows_grow {ρ : Nat → Nat} {x m i a : Nat} (h1 : ∀ j, j < i → ρ (zn (x + j)) = zn (x + j)) (h2 : ρ (zn (x + i)) = a) :
    lapp (ltake (ldrop (zrows x m i) 0) (Nat.mul i 1)) [.slc a 0 m m false 1] = renL ρ (zrows x m (i + 1)) := by
  rw [lapp_eq, ltake_eq, ldrop_eq, List.drop_zero, List.take_of_length_le (by rw [zrows_len]; show i ≤ i * 1; omega)]
  unfold zrows
  rw [List.range_succ, List.map_append, renL_append, renL_slc]
  congr 1
  · exact List.map_congr_left fun j hj => by rw [h1 j (List.mem_range.1 hj)]
  · simp only [List.map_cons, List.map_nil, renL, ren, h2]
theorem zrowsT_grow {ρ : Nat → Nat} {x m i a : Nat} (h1 : ∀ j, j < i → ρ (zn (x + j)) = zn (x + j)) (h2 : ρ (zn (x + i)) = a) :
    lapp (ltake (ldrop (zrowsT x m i) 0) (Nat.mul i 1)) [.slc a 0 m m true 1] = renL ρ (zrowsT x m (i + 1)) := by
  rw [lapp_eq, ltake_eq, ldrop_eq, List.drop_zero, List.take_of_length_le (by rw [zrowsT_len]; show i ≤ i * 1; omega)]
  unfold zrowsT
  rw [List.range_succ, List.map_append, renL_append, renL_slc]
  congr 1
  · exact List.map_congr_left fun j hj => by rw [h1 j (List.mem_range.1 hj)]
  · simp only [List.map_cons, List.map_nil, renL, ren, h2]
/-- how the names of a zone's rows go -/
theorem szs_zone {n0 N : Nat} {A Z : List (Nat × Nat × Blk)} {z : T Blk} (hA : okLit n0 N A = true) {x : Nat} {k : Blk} (hg : z.get x = some k) (hne : ∀ p ∈ Z, p.1 ≠ x) : szs n0 (namesOf A Z) (kpOf z) (zn x) = zn x := by
  by_cases h0 : zn x < n0
  · exact szs_old h0
  · refine szs_kept (by omega) ?_ (kpOf_iff.2 ⟨x, k, rfl, hg⟩)
    cases hl : lfind (namesOf A Z) (zn x) with
    | none => rfl
    | some a =>
      have := lfind_mem hl
      unfold namesOf at this
      rw [lapp_eq, lmap_eq, lmap_eq] at this
      rcases List.mem_append.1 this with h1 | h1
      · obtain ⟨q, hq, e⟩ := List.mem_map.1 h1
        have e1 : q.1 = zn x := congrArg Prod.fst e
        have := (okLit_get hA q hq).cz
        rw [e1, zn_eq] at this; omega
      · obtain ⟨q, hq, e⟩ := List.mem_map.1 h1
        have e1 : zn q.1 = zn x := congrArg Prod.fst e
        exact absurd (zn_inj e1) (hne q hq)
theorem lfind_skip : ∀ {M M' : List (Nat × Nat)} {x : Nat}, (∀ p ∈ M, p.1 ≠ x) → lfind (M ++ M') x = lfind M' x
  | [], M', x, _ => rfl
  | p :: M, M', x, h => by
    show (Bool.rec (lfind (M ++ M') x) (some p.2) (Nat.beq p.1 x) : Option Nat) = _
    have : Nat.beq p.1 x = false := by
      cases hb : Nat.beq p.1 x with
      | false => rfl
      | true => exact absurd (natBeq_iff.1 hb) (h p (List.mem_cons_self ..))
    rw [this]; exact lfind_skip fun q hq => h q (List.mem_cons_of_mem _ hq)
theorem szs_row {n0 N : Nat} {A Z : List (Nat × Nat × Blk)} {kp : Nat → Bool} (hA : okLit n0 N A = true) {x a : Nat} {k : Blk} (h0 : n0 ≤ zn x) (hm : (x, a, k) ∈ Z) (hd : (Z.map (·.1)).Nodup) : szs n0 (namesOf A Z) kp (zn x) = a := by
  refine szs_map h0 ?_
  unfold namesOf
  rw [lapp_eq, lmap_eq, lmap_eq, lfind_skip]
  · refine lfind_get ?_ (List.mem_map.2 ⟨_, hm, rfl⟩)
    rw [List.map_map]
    have : (Z.map ((fun x => x.1) ∘ fun p : Nat × Nat × Blk => (zn p.1, p.2.1))) = (Z.map (·.1)).map zn := by rw [List.map_map]; rfl
    rw [this]
    exact List.pairwise_map.2 (hd.imp fun hab e => hab (zn_inj e))
  · intro p hp e
    obtain ⟨q, hq, rfl⟩ := List.mem_map.1 hp
    have e : q.1 = zn x := e
    have := (okLit_get hA q hq).cz
    rw [e, zn_eq] at this; omega
/-! What is owed -/
def dcq (d b : Bool) : Bool := Bool.rec (Bool.not d) d b
theorem dcq_eq {x y : Int} (h : x = y) : dcq true (eqI x y) = true := by rw [eqI_eq, h]; simp [dcq]
theorem dcq_ne {x y : Int} (h : x ≠ y) : dcq false (eqI x y) = true := by
  rw [eqI_eq]
  have : (x == y) = false := by simpa using h
  rw [this]; rfl
theorem dcq_lt {x y : Int} (h : x < y) : dcq true (ltI x y) = true := by rw [ltI_eq, decide_eq_true h]; rfl
theorem dcq_ge {x y : Int} (h : ¬ x < y) : dcq false (ltI x y) = true := by rw [ltI_eq, decide_eq_false h]; rfl
theorem dcq_cap (i : Nat) : dcq false (Nat.ble (Nat.add i 1) i) = true := by
  have : Nat.ble (Nat.add i 1) i = false := by
    cases hb : Nat.ble (Nat.add i 1) i with
    | false => rfl
    | true => have := Nat.le_of_ble_eq_true hb; have : i + 1 ≤ i := this; omega
  rw [this]; rfl
theorem inR_i64 {x : Int} (h0 : -9223372036854775808 ≤ x) (h1 : x < 9223372036854775808) : inR .i64 x = true := by
  show sIn 9223372036854775808 x = true
  rw [sIn_eq, decide_eq_true_iff]; omega
theorem inR_u8 {x : Int} (h0 : 0 ≤ x) (h1 : x < 256) : inR .u8 x = true := by
  show uIn 256 x = true
  rw [uIn_eq, decide_eq_true_iff]; omega
theorem inR_i8 {x : Int} (h0 : -128 ≤ x) (h1 : x < 128) : inR .i8 x = true := by
  show sIn 128 x = true
  rw [sIn_eq, decide_eq_true_iff]; omega
theorem inR_i16 {x : Int} (h0 : -32768 ≤ x) (h1 : x < 32768) : inR .i16 x = true := by
  show sIn 32768 x = true
  rw [sIn_eq, decide_eq_true_iff]; omega
/-- the checks of an append to a row of slices -/
def appC (cs : List AV) (i : Nat) : Bool := Bool.and true (Bool.and (Nat.beq (llen (ltake (ldrop cs 0) (Nat.mul i 1))) (Nat.mul i 1)) (Bool.and (Nat.ble (Nat.add i 1) 9223372036854775807) (Nat.ble (Nat.mul (Nat.add i 1) 24) 140737488355328)))
theorem appC_ok {cs : List AV} {i : Nat} (h : cs.length = i) (hi : i ≤ 1000000) : appC cs i = true := by
  unfold appC
  have e1 : Nat.beq (llen (ltake (ldrop cs 0) (Nat.mul i 1))) (Nat.mul i 1) = true := by
    rw [llen_eq, ltake_eq, ldrop_eq, List.drop_zero, List.length_take, h, natBeq_iff]
    show min (i * 1) i = i * 1; omega
  have e2 : Nat.ble (Nat.add i 1) 9223372036854775807 = true := Nat.ble_eq_true_of_le (by show i + 1 ≤ _; omega)
  have e3 : Nat.ble (Nat.mul (Nat.add i 1) 24) 140737488355328 = true := Nat.ble_eq_true_of_le (by show (i + 1) * 24 ≤ _; omega)
  rw [e1, e2, e3]; rfl
theorem bcase_any {c : Bool} {t f : Prop} (ht : t) (hf : f) : bcase c t f := by cases c <;> assumption
/-! A round, told by its parts -/
theorem round_use {C : Cfg} {P : Program} (hS : SplCon C) {fuel f : Nat} {c : Code} {mask n : Nat} {env : Env} {h : H} {ds : List Bool} {y : XE} {ob : XE → Env → H → Obs} {e : Obs} {K : KE}
    (hrun : ∀ Kv : XE → Obs → Prop, Kv y e → xcode C P fuel f c mask n env h ds (fun x env h _ => Kv x (ob x env h)))
    (hK : ∀ env h ds, ob y env h = e → K y env h ds) : xcode C P fuel f c mask n env h ds K := by
  have h1 := hrun (fun x o => x = y ∧ o = e) ⟨rfl, rfl⟩
  obtain ⟨x, e2, h', ds', ⟨rfl, q⟩, _, back⟩ := xcode_spl hS fuel _ _ _ _ _ _ _ _ h1
  exact back _ (hK _ _ _ q)
theorem okLit_app {n0 N : Nat} {A : List (Nat × Nat × Blk)} (hA : okLit n0 N A = true) : ∀ {R : List (Nat × Nat × Blk)}, okLit n0 N R = true → okLit n0 N (lapp R A) = true
  | [], _ => hA
  | p :: R, h => by
    obtain ⟨h1, h2⟩ := and_tt (by exact h : Bool.and _ (okLit n0 N R) = true)
    show Bool.and _ (okLit n0 N (lapp R A)) = true
    rw [h1, okLit_app hA h2]; rfl
theorem okLit_row {n0 N c a : Nat} {cs : List AV} {e : TypeId} {wr : Bool} {A : List (Nat × Nat × Blk)} (h1 : okLit n0 N [(c, a, .row [] e wr [])] = true) (hb : belL N cs = true) (h2 : okLit n0 N A = true) : okLit n0 N ((c, a, .row cs e wr []) :: A) = true := by
  obtain ⟨g1, _⟩ := and_tt (by exact h1 : Bool.and (Bool.and (Nat.ble (Nat.succ c) N) _) true = true)
  obtain ⟨g1, g2⟩ := and_tt g1
  obtain ⟨_, g3⟩ := and_tt g2
  show Bool.and (Bool.and (Nat.ble (Nat.succ c) N) (Bool.and (belL N cs) _)) (okLit n0 N A) = true
  rw [g1, hb, h2, g3]; rfl
theorem lmap_app {α β : Type} (f : α → β) : ∀ (R A : List α), lmap f (lapp R A) = lapp (lmap f R) (lmap f A)
  | [], A => rfl
  | p :: R, A => congrArg (f p :: ·) (lmap_app f R A)
theorem blksN_app {N : Nat} {A : List (Nat × Blk)} (hA : blksN N A = true) : ∀ {R : List (Nat × Blk)}, blksN N R = true → blksN N (lapp R A) = true
  | [], _ => hA
  | p :: R, h => by
    obtain ⟨h1, h2⟩ := and_tt (by exact h : Bool.and _ (blksN N R) = true)
    show Bool.and _ (blksN N (lapp R A)) = true
    rw [h1, blksN_app hA h2]; rfl
theorem blksN_row {N c : Nat} {cs : List AV} {e : TypeId} {wr : Bool} {A : List (Nat × Blk)} (h1 : c < N) (hb : belL N cs = true) (h2 : blksN N A = true) : blksN N ((c, .row cs e wr []) :: A) = true := by
  show Bool.and (Bool.and (Nat.ble (Nat.succ c) N) (belL N cs)) (blksN N A) = true
  rw [show Nat.ble (Nat.succ c) N = true from Nat.ble_eq_true_of_le h1, hb, h2]; rfl
/-- a zone that grows by a row a round -/
def zgrow (z : T Blk) (x : Nat) (f : Nat → Blk) (i : Nat) : T Blk := Nat.rec z (fun j ih => T.set ih (f j) (x + j)) i
theorem zgrow_succ (z : T Blk) (x : Nat) (f : Nat → Blk) (i : Nat) : zgrow z x f (i + 1) = T.set (zgrow z x f i) (f i) (x + i) := rfl
theorem zgrow_new {z : T Blk} {x : Nat} {f : Nat → Blk} : ∀ {i j : Nat}, j < i → (zgrow z x f i).get (x + j) = some (f j)
  | 0, j, h => by omega
  | i + 1, j, h => by
    rw [zgrow_succ]
    by_cases e : j = i
    · subst e; exact T.get_set_same _ _
    · rw [T.get_set_other _ _ _ (by omega)]; exact zgrow_new (by omega)
theorem zgrow_old {z : T Blk} {x : Nat} {f : Nat → Blk} : ∀ {i y : Nat}, (y < x ∨ x + i ≤ y) → (zgrow z x f i).get y = z.get y
  | 0, y, h => rfl
  | i + 1, y, h => by
    rw [zgrow_succ, T.get_set_other _ _ _ (by omega)]; exact zgrow_old (by omega)
theorem zgrow_get {z : T Blk} {x : Nat} {f : Nat → Blk} {i y : Nat} {k : Blk} (h : (zgrow z x f i).get y = some k) : (∃ j, j < i ∧ y = x + j ∧ k = f j) ∨ z.get y = some k := by
  by_cases c : x ≤ y ∧ y < x + i
  · obtain ⟨j, rfl⟩ : ∃ j, y = x + j := ⟨y - x, by omega⟩
    rw [zgrow_new (by omega)] at h
    exact .inl ⟨j, by omega, rfl, (Option.some.inj h).symm⟩
  · rw [zgrow_old (by omega)] at h; exact .inr h
theorem zgrow_ok {z : T Blk} {x : Nat} {f : Nat → Blk} {i N : Nat} (hz : ZoneOK z N) (hf : ∀ j, j < i → IntRow (f j) ∧ zn (x + j) < N ∧ zn (x + j) < ZW) : ZoneOK (zgrow z x f i) N := by
  intro y k h
  rcases zgrow_get h with ⟨j, hj, rfl, rfl⟩ | h
  · exact hf j hj
  · exact hz y k h
theorem round_use2 {C : Cfg} {P : Program} (hS : SplCon C) {fuel f : Nat} {c : Code} {mask n : Nat} {env : Env} {h : H} {ds : List Bool} {ob : Env → H → Obs} {T0 : (XE → Obs → Prop) → Prop} {K : KE}
    (hrun : ∀ Kv : XE → Obs → Prop, xcode C P fuel f c mask n env h ds (fun x env h _ => Kv x (ob env h)) = T0 Kv)
    (hT : T0 (fun x o => ∀ env h ds, ob env h = o → K x env h ds)) : xcode C P fuel f c mask n env h ds K := by
  have h1 := Eq.mpr (hrun (fun x o => ∀ env h ds, ob env h = o → K x env h ds)) hT
  obtain ⟨x, e2, h', ds', q, _, back⟩ := xcode_spl hS fuel _ _ _ _ _ _ _ _ h1
  exact back _ (q e2 h' ds' rfl)
end
end Go.X
/- A call that sees a part of the heap and leaves it as it is. -/
set_option autoImplicit false
set_option linter.unusedVariables false
namespace Go.X
noncomputable section
theorem mkB_cons (z : T Blk) (p : Nat × Blk) (B : List (Nat × Blk)) : mkB z (p :: B) = T.set (mkB z B) p.2 p.1 := rfl
theorem zput_zn (z : T Blk) (j : Nat) : (mkB z []).get (zn j) = z.get j := by
  show (zput z 12).get (zname 12 j) = z.get j
  rw [zget_get]; rfl
theorem cellOf_of {h : H} {i o : Nat} {cells : List AV} {e : TypeId} {wr : Bool} {ps : List Nat} {v : AV} (hg : h.b.get i = some (.row cells e wr ps)) (hc : lget cells o = some v) : cellOf h i o = some v := by
  unfold cellOf; rw [hg]; exact hc
theorem zrowsT_get {x m n i : Nat} (hi : i < n) : lget (zrowsT x m n) i = some (.slc (zn (x + i)) 0 m m true 1) := by
  rw [lget_eq]; unfold zrowsT; rw [List.getElem?_map, List.getElem?_range hi]; rfl
theorem zrows_get {x m n i : Nat} (hi : i < n) : lget (zrows x m n) i = some (.slc (zn (x + i)) 0 m m false 1) := by
  rw [lget_eq]; unfold zrows; rw [List.getElem?_map, List.getElem?_range hi]; rfl
section
variable {P : Program}
theorem call_ds {gl : Glob} {f : Nat} {args : List AV} {h : H} {ds : List Bool} {K : KV} (hc : CallOK P gl f args h (fun v h' _ => K v h' ds)) : CallOK P gl f args h K := by
  intro L w args' U rg hargs r hU
  refine (hc L w args' U rg hargs r fun v h' _ hk => hU v h' ds hk).mono ?_
  rintro x w' ⟨v, h', _, L', v', rfl, h1, k1, k2, k3⟩
  exact ⟨v, h', ds, L', v', rfl, h1, k1, k2, k3⟩
def blksW (B : List (Nat × Blk)) : Bool := List.rec true (fun p _ ih => Bool.and (wr0 p.2) ih) B
theorem blksW_get : ∀ {B : List (Nat × Blk)}, blksW B = true → ∀ p ∈ B, wr0 p.2 = true
  | [], _, p, h => by cases h
  | q :: B, h, p, hp => by
    obtain ⟨h1, h2⟩ := and_tt (by exact h : Bool.and (wr0 q.2) (blksW B) = true)
    rcases List.mem_cons.1 hp with rfl | hp
    · exact h1
    · exact blksW_get h2 p hp
theorem frame_part {C : Cfg} (hC : Good C P) (hgl : C.gl = fun _ => none) {fuel f : Nat} {args : List AV} {h : H} {B : List (Nat × Blk)} {z : T Blk} {V : AV} {ds1 : List Bool}
    (hB : lmap (fun p => T.get h.b p.1) B = lmap (fun p => some p.2) B) (hz : zget h.b 12 = z) (hn : blksN h.next B = true) (hw : blksW B = true) (hzo : ZoneOK z h.next) (hb : belL h.next args = true) (hV : bel h.next V = true)
    (hk : Ran (xfun C P (xcode C P fuel) f args ⟨mkB z B, h.next⟩ ds1 (fun v h' _ => v = V ∧ h' = ⟨mkB z B, h.next⟩)))
    {gl : Glob} {ds : List Bool} {K : KV} (hK : K V h ds) (hfk : Nat.ble (Nat.succ f) YK = true := by rfl) : CallOK P gl f args h K := by
  have get1 : ∀ i k, (mkB z B).get i = some k → h.b.get i = some k ∧ i < h.next ∧ belB h.next k = true ∧ wr0 k = true := by
    intro i k hi
    rcases mkB_get hi with hm | ⟨x, rfl, hg⟩
    · obtain ⟨a, b⟩ := blksN_get hn _ hm
      exact ⟨lmap_inj hB _ hm, a, b, blksW_get hw _ hm⟩
    · obtain ⟨a, b, c⟩ := hzo x k hg
      refine ⟨?_, b, (intRow_ren a id _).2, ?_⟩
      · show T.get h.b (zname 12 x) = some k
        rw [zget_get, hz]; exact hg
      · obtain ⟨ns, e, wr, rfl⟩ := a
        cases wr <;> rfl
  have up_id : ∀ i, up id h.next h.next i = i := by
    intro i
    unfold up
    split
    · rfl
    · omega
  have upf : up id h.next h.next = id := funext up_id
  have e1 : renL id args = args := renL_id args
  rw [← e1]
  refine frameW (hfk := hfk) (fuel := fuel) (ds1 := ds1) (N := h.next) (G := fun i => (mkB z B).get i) (V := V) hC.ok hC.spl (h1 := ⟨mkB z B, h.next⟩) (h2 := h) (ds := ds) ⟨?_⟩
    ⟨fun i k hi => ?_, fun i j _ _ e => e, fun i hi => hi⟩ ⟨Nat.le_refl _, by show h.next = h.next + (h.next - h.next); omega, fun j k hj => ?_, fun i k _ hG => ⟨k, hG, rfl⟩, fun i k _ hG => ?_⟩ hb (by rw [hgl]; intro g i h; cases h) ?_
  · have := hk.out
    obtain ⟨v, h', ds', ⟨e2, e3⟩, _, back⟩ := xfun_spl hC.spl (xcode_spl hC.spl fuel) f args ⟨mkB z B, h.next⟩ ds1 _ this
    refine back _ ⟨id, ⟨fun i _ => rfl, fun i a _ => a, fun i j _ _ e => e⟩, by rw [ren_id]; exact e2, hV, fun i k hi hG => ?_⟩
    rw [e3]
    refine ⟨k, hG, by rw [renB_id]; exact SameP.refl _, fun hwr j _ _ hm => ?_⟩
    have := wr0_ps (get1 i k hG).2.2.2 hwr
    rw [this] at hm; cases hm
  · obtain ⟨a, b, c, d⟩ := get1 i k hi
    exact ⟨b, by rw [renB_id]; exact a, c, d⟩
  · cases hg : (mkB z B).get j with
    | some k1 =>
      obtain ⟨a, b, c, d⟩ := get1 j k1 hg
      have : k1 = k := by rw [a] at hj; exact Option.some.inj hj
      subst this
      exact .inl ⟨j, k1, b, (up_id j).symm, hg, by show k1 = renB (up id h.next h.next) k1; rw [upf, renB_id]⟩
    | none => exact .inr ⟨hj, fun i k1 hi e => by
        have hi : (mkB z B).get i = some k1 := hi
        have e : i = j := e
        subst e
        rw [hg] at hi; cases hi⟩
  · obtain ⟨a, b, c, d⟩ := get1 i k hG
    exact ⟨c, d⟩
  · show K (ren (up id h.next h.next) V) h ds
    rw [upf, ren_id]; exact hK
end
end
end Go.X
/- A call that reads a part of the heap and writes nothing. -/
set_option autoImplicit false
set_option linter.unusedVariables false
namespace Go.X
noncomputable section
/-- a block that is only read -/
def roB : Blk → Option Blk
  | .row c e _ _ => some (.row c e false [])
  | _ => none
def roT : T Blk → T Blk
  | .leaf => .leaf
  | .node l v r => .node (roT l) (v.bind roB) (roT r)
theorem roT_get : ∀ (t : T Blk) (i : Nat), (roT t).get i = (t.get i).bind roB
  | .leaf, i => rfl
  | .node l v r, i => by
    show (T.node (roT l) (v.bind roB) (roT r)).get i = _
    rw [T.get_node, T.get_node]
    split
    · rfl
    · split
      · exact roT_get l _
      · exact roT_get r _
theorem roB_some {k k' : Blk} (h : roB k = some k') : ∃ c e wr ps, k = .row c e wr ps ∧ k' = .row c e false [] := by
  cases k with
  | row c e wr ps => exact ⟨c, e, wr, ps, rfl, (Option.some.inj h).symm⟩
  | _ => cases h
theorem zone_ro {z : T Blk} {N : Nat} (h : ZoneOK z N) : ZoneOK (roT z) N := fun x k hk => by
  rw [roT_get] at hk
  cases hg : z.get x with
  | none => rw [hg] at hk; cases hk
  | some k0 =>
    rw [hg] at hk
    obtain ⟨c, e, wr, ps, rfl, rfl⟩ := roB_some (by exact hk)
    obtain ⟨⟨ns, e', wr', q⟩, h2, h3⟩ := h x _ hg
    cases q
    exact ⟨⟨ns, e, false, rfl⟩, h2, h3⟩
section
variable {P : Program}
theorem frame_ro {C : Cfg} (hC : Good C P) (hgl : C.gl = fun _ => none) {fuel f : Nat} {args : List AV} {h hs : H} {V : AV} {ds1 : List Bool} (hnx : hs.next = h.next)
    (hro : ∀ i k, hs.b.get i = some k → ∃ c e wr ps, k = .row c e false [] ∧ h.b.get i = some (.row c e wr ps))
    (hk : Ran (xfun C P (xcode C P fuel) f args hs ds1 (fun v h' _ => v = V ∧ h' = hs)))
    {gl : Glob} {ds : List Bool} {K : KV} (hK : K V h ds) (hfk : Nat.ble (Nat.succ f) YK = true := by rfl) : CallOK P gl f args h K := by
  intro L w args' U rg hargs r hU
  have nown : ∀ B, ¬ Own L hs B := by
    rintro B ⟨i, k, p, b1, b2, b3, b4⟩
    obtain ⟨c, e, wr, ps, rfl, _⟩ := hro i k b1
    cases b2
  have rs : RH L hs w hs.next := by
    refine ⟨fun i k p hi hp => ?_, fun i j ki kj p q hi hj hp hq hij hw hB => ?_, fun i hi hU => by omega, r.below, fun i k hi => ?_⟩
    · obtain ⟨c, e, wr, ps, rfl, hg⟩ := hro i k hi
      obtain ⟨c', fz, q1, q2, q3, q4⟩ := r.mem i _ p hg hp
      exact ⟨c', fz, q1, q2, (by intro e; cases e), q4⟩
    · obtain ⟨c, e, wr, ps, rfl, hg⟩ := hro i ki hi
      cases hw
    · obtain ⟨c, e, wr, ps, rfl, hg⟩ := hro i k hi
      rw [hnx]; exact r.live i _ hg
  have rg1 : RG L C.gl := fun g i hgi => by rw [hgl] at hgi; cases hgi
  refine Calls.mono (xrun_call hC.ok hC.spl hk.out (hfk := hfk) L w args' hs.next rg1 hargs rs fun _ _ _ e => by rw [e.2]; exact Nat.le_refl _) ?_
  rintro e w' ⟨v, h', ds', L', v', rfl, ⟨rfl, rfl⟩, k1, k2, s⟩
  have back : Ext L' L := fun i p hp => by
    rcases s.new i p hp with e | ⟨a, b, _⟩
    · exact e
    · omega
  have keep : ∀ {j p}, L j = some p → w'.heap[p.B]? = w.heap[p.B]? := fun {j p} hp => s.keep _ (r.below _ _ hp) (nown _)
  refine ⟨v, h, ds, L, v', rfl, hK, k1.mono back, ⟨fun i k p hi hp => ?_, r.sep, r.fresh, fun i p hp => ?_, r.live⟩, ⟨Ext.refl _, s.size, fun B hB ho => s.keep B hB (nown B), fun B ho hB => ho, fun i p hp => .inl hp, Nat.le_refl _, s.os, s.output, s.tape, s.fro⟩⟩
  · exact (r.mem i k p hi hp).keep (keep hp)
  · have := r.below _ _ hp; have := s.size; omega
/-- .. which may make blocks, of which it tells nothing -/
theorem frame_ro2 {C : Cfg} (hC : Good C P) (hgl : C.gl = fun _ => none) {fuel f : Nat} {args : List AV} {h hs : H} {V : AV} {ds1 : List Bool} (hnx : hs.next = h.next)
    (hro : ∀ i k, hs.b.get i = some k → belB h.next k = true ∧ ∃ c e wr ps, k = .row c e false [] ∧ h.b.get i = some (.row c e wr ps)) (hb : belL h.next args = true) (hV : bel 0 V = true)
    (hk : Ran (xfun C P (xcode C P fuel) f args hs ds1 (fun v _ _ => v = V)))
    {gl : Glob} {ds : List Bool} {K : KV} (hK : K V h ds) (hfk : Nat.ble (Nat.succ f) YK = true := by rfl) : CallOK P gl f args h K := by
  intro L w args' U rg hargs r hU
  let L1 : LM := fun i => if i < h.next then L i else none
  have L1_in : ∀ {i p}, L1 i = some p → i < h.next ∧ L i = some p := by
    intro i p hp
    by_cases hi : i < h.next
    · exact ⟨hi, by simpa [L1, hi] using hp⟩
    · simp [L1, hi] at hp
  have t1 : Tr L L1 id id h.next := fun i hi p hp => by
    show L1 i = some p
    have hp : L i = some p := hp
    have hi : i < h.next := hi
    simpa [L1, hi] using hp
  have nown : ∀ B, ¬ Own L1 hs B := by
    rintro B ⟨i, k, p, b1, b2, b3, b4⟩
    obtain ⟨_, c, e, wr, ps, rfl, _⟩ := hro i k b1
    cases b2
  have rs : ∀ U, RH L1 hs w U := by
    refine fun U => ⟨fun i k p hi hp => ?_, fun i j ki kj p q hi hj hp hq hij hw hB => ?_, fun i hi hU => ?_, fun i p hp => r.below i p (L1_in hp).2, fun i k hi => ?_⟩
    · obtain ⟨hbb, c, e, wr, ps, rfl, hg⟩ := hro i k hi
      obtain ⟨c', fz, q1, q2, q3, q4⟩ := r.mem i _ p hg (L1_in hp).2
      have rb : RB L (.row c e false []) w p := ⟨c', fz, q1, q2, (by intro e; cases e), q4⟩
      have := rb_tr (σ := id) (ρ := id) t1 hbb (by rw [renB_id]; exact rb)
      rwa [renB_id] at this
    · obtain ⟨_, c, e, wr, ps, rfl, hg⟩ := hro i ki hi
      cases hw
    · show (if i < h.next then L i else none) = none
      rw [if_neg (by omega)]
    · obtain ⟨_, c, e, wr, ps, rfl, hg⟩ := hro i k hi
      rw [hnx]; exact r.live i _ hg
  have a1 : RVs L1 args args'.toList := by
    have e1 : renL id args = args := renL_id args
    have := rvs_tr (σ := id) (ρ := id) t1 args hb (by rw [e1]; exact hargs)
    rwa [e1] at this
  have rg1 : RG L1 C.gl := fun g i hgi => by rw [hgl] at hgi; cases hgi
  refine (xrun_ro hC.ok hC.spl hk rs nown rg1 a1 (hfk := hfk)).mono ?_
  rintro e w' ⟨v, v', L', rfl, rfl, r1, q⟩
  obtain ⟨r', s⟩ := q.rh r
  have : RV L v v' := by
    have := rv_tr (L := L') (L' := L) (σ := id) (ρ := id) (N := 0) (fun i hi => by omega) v hV (by rw [ren_id]; exact r1)
    rwa [ren_id] at this
  exact ⟨v, h, ds, L, v', rfl, hK, this, r', s⟩
end
end
end Go.X

/- A call seen from a caller who has more: what a run over a small heap says of every heap that holds such a one. -/
import Derived.Test.YtkfhjobebhdpoaaGreatE5
set_option linter.unusedVariables false
set_option linter.unusedSimpArgs false
set_option autoImplicit false
set_option linter.unusedVariables false
namespace Go.X
noncomputable section

/-! Renaming -/
mutual
def ren (ρ : Nat → Nat) : AV → AV
  | .any => .any
  | .bool b => .bool b
  | .int k n => .int k n
  | .flt k b => .flt k b
  | .str n v => .str n v
  | .nilp => .nilp
  | .ptr i o => .ptr (ρ i) o
  | .nils => .nils
  | .slc i o l c e s => .slc (ρ i) o l c e s
  | .emp => .emp
  | .nilm => .nilm
  | .map i => .map (ρ i)
  | .fn f as bs => .fn f (renL ρ as) (renL ρ bs)
  | .nilf => .nilf
  | .ifc t v => .ifc t (ren ρ v)
  | .nili => .nili
  | .agg cs => .agg (renL ρ cs)
  | .tup vs => .tup (renL ρ vs)
  | .yld i => .yld (ρ i)
  | .vs i o n g => .vs (ρ i) o n g
  | .vp i o g => .vp (ρ i) o g
def renL (ρ : Nat → Nat) : List AV → List AV
  | [] => []
  | a :: as => ren ρ a :: renL ρ as
end
mutual
/-- are all blocks that it names among the first N? -/
def bel (N : Nat) : AV → Bool
  | .ptr i _ => Nat.ble (Nat.succ i) N
  | .slc i _ _ _ _ _ => Nat.ble (Nat.succ i) N
  | .map i => Nat.ble (Nat.succ i) N
  | .fn _ as bs => Bool.and (belL N as) (belL N bs)
  | .ifc _ v => bel N v
  | .agg cs => belL N cs
  | .tup vs => belL N vs
  | .yld i => Nat.ble (Nat.succ i) N
  | .vs i _ _ _ => Nat.ble (Nat.succ i) N
  | .vp i _ _ => Nat.ble (Nat.succ i) N
  | .any => true
  | .bool _ => true
  | .int _ _ => true
  | .flt _ _ => true
  | .str _ _ => true
  | .nilp => true
  | .nils => true
  | .emp => true
  | .nilm => true
  | .nilf => true
  | .nili => true
def belL (N : Nat) : List AV → Bool
  | [] => true
  | a :: as => Bool.and (bel N a) (belL N as)
end
theorem ble_lt {i N : Nat} (h : Nat.ble (Nat.succ i) N = true) : i < N := Nat.le_of_ble_eq_true h
theorem and_tt {a b : Bool} (h : Bool.and a b = true) : a = true ∧ b = true := by
  have h : (a && b) = true := h
  simpa using h
/-- how names go over -/
def Tr (L L' : LM) (σ ρ : Nat → Nat) (N : Nat) : Prop := ∀ i, i < N → ∀ p, L (σ i) = some p → L' (ρ i) = some p
mutual
theorem rv_tr {L L' : LM} {σ ρ : Nat → Nat} {N : Nat} (t : Tr L L' σ ρ N) : ∀ (a : AV) {v : Value}, bel N a = true → RV L (ren σ a) v → RV L' (ren ρ a) v
  | .any, v, _, _ => .any _
  | .bool b, v, _, h => by cases h; exact .bool _
  | .int k n, v, _, h => by cases h; exact .int _ _
  | .flt k n, v, _, h => by cases h; exact .flt _ _
  | .str n m, v, _, h => by cases h with | str _ _ s hs => exact .str _ _ _ hs
  | .nilp, v, _, h => by cases h; exact .nilp
  | .ptr i o, v, hb, h => by cases h with | ptr _ _ p hp => exact .ptr _ _ p (t i (ble_lt hb) p hp)
  | .nils, v, _, h => by cases h; exact .nils
  | .slc i o l c e s, v, hb, h => by cases h with | slc _ _ _ _ _ _ p k hp h1 h2 h3 h4 => exact .slc _ _ _ _ _ _ p k (t i (ble_lt hb) p hp) h1 h2 h3 h4
  | .emp, v, _, h => by cases h; exact .emp _ _
  | .nilm, v, _, h => by cases h; exact .nilm
  | .map i, v, hb, h => by cases h with | map _ p hp => exact .map _ p (t i (ble_lt hb) p hp)
  | .fn f as bs, v, hb, h => by
    obtain ⟨h1, h2⟩ := and_tt (by exact hb : Bool.and (belL N as) (belL N bs) = true)
    cases h with | fn _ _ _ xs ys a b => exact .fn _ _ _ xs ys (rvs_tr t as h1 a) (rvs_tr t bs h2 b)
  | .nilf, v, _, h => by cases h; exact .nilf
  | .ifc u x, v, hb, h => by cases h with | ifc _ _ y hy => exact .ifc _ _ y (rv_tr t x hb hy)
  | .nili, v, _, h => by cases h; exact .nili
  | .agg cs, v, hb, h => by cases h with | agg _ xs hx => exact .agg _ xs (rvs_tr t cs hb hx)
  | .tup cs, v, hb, h => by cases h with | tup _ xs hx => exact .tup _ xs (rvs_tr t cs hb hx)
  | .yld i, v, hb, h => by cases h with | yld _ p hp => exact .yld _ p (t i (ble_lt hb) p hp)
  | .vs i o n g, v, hb, h => by cases h with | vs _ _ _ _ p c hp h1 h2 => exact .vs _ _ _ _ p c (t i (ble_lt hb) p hp) h1 h2
  | .vp i o g, v, hb, h => by cases h with | vp _ _ _ p hp => exact .vp _ _ _ p (t i (ble_lt hb) p hp)
theorem rvs_tr {L L' : LM} {σ ρ : Nat → Nat} {N : Nat} (t : Tr L L' σ ρ N) : ∀ (as : List AV) {vs : List Value}, belL N as = true → RVs L (renL σ as) vs → RVs L' (renL ρ as) vs
  | [], vs, _, h => by cases h; exact .nil
  | a :: as, vs, hb, h => by
    obtain ⟨h1, h2⟩ := and_tt (by exact hb : Bool.and (bel N a) (belL N as) = true)
    cases h with | cons _ v _ vs h hs => exact .cons _ _ _ _ (rv_tr t a h1 h) (rvs_tr t as h2 hs)
end
mutual
theorem ren_id : ∀ (a : AV), ren id a = a
  | .any => rfl
  | .bool b => rfl
  | .int k n => rfl
  | .flt k n => rfl
  | .str n m => rfl
  | .nilp => rfl
  | .ptr i o => rfl
  | .nils => rfl
  | .slc i o l c e s => rfl
  | .emp => rfl
  | .nilm => rfl
  | .map i => rfl
  | .fn f as bs => by simp only [ren, renL_id as, renL_id bs]
  | .nilf => rfl
  | .ifc u x => by simp only [ren, ren_id x]
  | .nili => rfl
  | .agg cs => by simp only [ren, renL_id cs]
  | .tup cs => by simp only [ren, renL_id cs]
  | .yld i => rfl
  | .vs i o n g => rfl
  | .vp i o g => rfl
theorem renL_id : ∀ (as : List AV), renL id as = as
  | [] => rfl
  | a :: as => by simp only [renL, ren_id a, renL_id as]
end
theorem renL_length (ρ : Nat → Nat) : ∀ (as : List AV), (renL ρ as).length = as.length
  | [] => rfl
  | a :: as => by simp [renL, renL_length ρ as]
theorem renL_get (ρ : Nat → Nat) : ∀ (as : List AV) (k : Nat), (renL ρ as)[k]? = (as[k]?).map (ren ρ)
  | [], k => by simp [renL]
  | a :: as, 0 => by simp [renL]
  | a :: as, k + 1 => by simp [renL, renL_get ρ as k]
theorem belL_get {N : Nat} : ∀ {as : List AV}, belL N as = true → ∀ (k : Nat) (a : AV), as[k]? = some a → bel N a = true
  | [], _, k, a, h => by simp at h
  | b :: as, hb, k, a, h => by
    obtain ⟨h1, h2⟩ := and_tt (by exact hb : Bool.and (bel N b) (belL N as) = true)
    cases k with
    | zero => simp at h; subst h; exact h1
    | succ k => exact belL_get h2 k a (by simpa using h)
def renE (ρ : Nat → Nat) (es : List (AV × AV)) : List (AV × AV) := lmap (fun e => (ren ρ e.1, ren ρ e.2)) es
def belE (N : Nat) (es : List (AV × AV)) : Bool := List.rec true (fun e _ ih => Bool.and (Bool.and (bel N e.1) (bel N e.2)) ih) es
theorem res_tr {L L' : LM} {σ ρ : Nat → Nat} {N : Nat} (t : Tr L L' σ ρ N) : ∀ (es : List (AV × AV)) {ms : List MapEntry}, belE N es = true → REs L (renE σ es) ms → REs L' (renE ρ es) ms
  | [], ms, _, h => by cases h; exact .nil
  | e :: es, ms, hb, h => by
    obtain ⟨h1, h2⟩ := and_tt (by exact hb : Bool.and (Bool.and (bel N e.1) (bel N e.2)) (belE N es) = true)
    obtain ⟨h3, h4⟩ := and_tt h1
    have h : REs L ((ren σ e.1, ren σ e.2) :: renE σ es) ms := h
    cases h with | cons _ m _ ms q hs => exact .cons _ _ _ _ ⟨rv_tr t _ h3 q.1, rv_tr t _ h4 q.2⟩ (res_tr t es h2 hs)
def renB (ρ : Nat → Nat) (k : Blk) : Blk := match k with
  | .row cells e wr ps => .row (renL ρ cells) e wr (lmap ρ ps)
  | .map bs ck es => .map bs ck (renE ρ es)
  | .bts n v e => .bts n v e
  | .pur f n e => .pur f n e
  | .loop st j mask n env ps asg body => .loop st j mask n env ps asg body
  | .it y since seen last => .it (ren ρ y) since seen last
def belB (N : Nat) (k : Blk) : Bool := match k with
  | .row cells _ _ _ => belL N cells
  | .map _ _ es => belE N es
  | .bts _ _ _ => true
  | .pur _ _ _ => true
  | .loop _ _ _ _ _ _ _ _ => false
  | .it y _ _ _ => bel N y
theorem rb_tr {L L' : LM} {σ ρ : Nat → Nat} {N : Nat} (t : Tr L L' σ ρ N) {k : Blk} {w : World} {p : Loc} (hb : belB N k = true) (h : RB L (renB σ k) w p) : RB L' (renB ρ k) w p := by
  cases k with
  | row cells e wr ps =>
    obtain ⟨c, fz, h1, h2, h3, h4⟩ := h
    refine ⟨c, fz, h1, h2, h3, fun k v hk => ?_⟩
    rw [renL_get] at hk
    cases ha : cells[k]? with
    | none => rw [ha] at hk; cases hk
    | some a =>
      rw [ha] at hk; simp at hk; subst hk
      obtain ⟨v', a1, a2⟩ := h4 k (ren σ a) (by rw [renL_get, ha]; rfl)
      exact ⟨v', a1, rv_tr t a (belL_get hb k a ha) a2⟩
  | map bs ck es => obtain ⟨ms, h1, h2, h3⟩ := h; exact ⟨ms, h1, res_tr t es hb h2, h3⟩
  | bts n v e =>
    obtain ⟨c, fz, h1, h2, h4⟩ := h
    refine ⟨c, fz, h1, h2, fun k u hk => ?_⟩
    obtain ⟨v', a1, a2⟩ := h4 k u hk
    obtain ⟨x, rfl⟩ := bytesOf_int hk
    cases a2
    exact ⟨_, a1, .int _ _⟩
  | pur f n e =>
    obtain ⟨c, fz, h1, h2, h4⟩ := h
    refine ⟨c, fz, h1, h2, fun k hk => ?_⟩
    obtain ⟨v', a1, a2⟩ := h4 k hk
    refine ⟨v', a1, ?_⟩
    cases hf : f k with
    | int kd m => rw [hf] at a2; cases a2; exact .int _ _
    | str m u => rw [hf] at a2; cases a2 with | str _ _ s hs => exact .str _ _ s hs
    | bool b => rw [hf] at a2; cases a2; exact .bool _
  | loop st j mask n env ps asg body => cases hb
  | it y since seen last => obtain ⟨m, h1, h2, h3⟩ := h; exact ⟨m, h1, h2, rv_tr t y hb h3⟩
theorem renB_wr (ρ : Nat → Nat) (k : Blk) : (renB ρ k).wr = k.wr := by cases k <;> rfl
theorem renB_ps {ρ : Nat → Nat} {k : Blk} (h : k.ps = []) : (renB ρ k).ps = [] := by
  cases k with
  | row cells e wr ps => have h : ps = [] := h; subst h; rfl
  | _ => rfl
theorem renB_id (k : Blk) : renB id k = k := by
  cases k with
  | row cells e wr ps => simp only [renB, renL_id, lmap_eq, List.map_id]
  | map bs ck es => simp only [renB, renE, lmap_eq, ren_id]; simp
  | bts n v e => rfl
  | pur f n e => rfl
  | loop st j mask n env ps asg body => rfl
  | it y since seen last => simp only [renB, ren_id]
def wr0 (k : Blk) : Bool := Bool.rec true (List.rec true (fun _ _ _ => false) k.ps) k.wr
theorem wr0_ps {k : Blk} (h : wr0 k = true) (hw : k.wr = true) : k.ps = [] := by
  unfold wr0 at h
  rw [hw] at h
  cases hp : k.ps with
  | nil => rfl
  | cons a as => rw [hp] at h; cases h

/-! The frame -/
/-- blocks that are one but for the rows that they may be one with -/
def SameP (k k' : Blk) : Prop := match k with
  | .row cells e wr _ => ∃ ps, k' = .row cells e wr ps
  | k => k' = k
theorem SameP.refl (k : Blk) : SameP k k := by cases k <;> first | exact ⟨_, rfl⟩ | rfl
theorem SameP.wr {k k' : Blk} (s : SameP k k') : k'.wr = k.wr := by
  cases k <;> first
    | (obtain ⟨ps, rfl⟩ := s; rfl)
    | (have s : k' = _ := s; subst s; rfl)
theorem SameP.rb {k k' : Blk} (s : SameP k k') {L : LM} {w : World} {p : Loc} (h : RB L k' w p) : RB L k w p := by
  cases k <;> first
    | (obtain ⟨ps, rfl⟩ := s; exact h)
    | (have s : k' = _ := s; subst s; exact h)
/-- of what a caller has the callee sees a part: the small heap h1, its blocks under the names ρ -/
structure Sees (ρ : Nat → Nat) (h1 h : H) : Prop where
  blk : ∀ i k, h1.b.get i = some k → i < h1.next ∧ h.b.get (ρ i) = some (renB ρ k) ∧ belB h1.next k = true ∧ wr0 k = true
  inj : ∀ i j, i < h1.next → j < h1.next → ρ i = ρ j → i = j
  low : ∀ i, i < h1.next → ρ i < h.next
/-- the names of what a call leaves: of N blocks those that were there, then new ones -/
structure Sig (n1 N : Nat) (σ : Nat → Nat) : Prop where
  old : ∀ i, i < n1 → σ i = i
  new : ∀ i, n1 ≤ i → i < N → n1 ≤ σ i
  inj : ∀ i j, i < N → j < N → σ i = σ j → i = j
def up (ρ : Nat → Nat) (n1 nx : Nat) (i : Nat) : Nat := if i < n1 then ρ i else nx + (i - n1)
/-- the heap behind the call: G says what the N blocks hold -/
structure Leaves (ρ : Nat → Nat) (h1 : H) (N : Nat) (G : Nat → Option Blk) (h h2 : H) : Prop where
  n1 : h1.next ≤ N
  next : h2.next = h.next + (N - h1.next)
  blk : ∀ j k, h2.b.get j = some k → (∃ i k1, i < N ∧ j = up ρ h1.next h.next i ∧ G i = some k1 ∧ k = renB (up ρ h1.next h.next) k1) ∨ (h.b.get j = some k ∧ ∀ i k1, h1.b.get i = some k1 → ρ i ≠ j)
  old : ∀ i k, i < h1.next → G i = some k → ∃ k0, h1.b.get i = some k0 ∧ k0.wr = k.wr
  ok : ∀ i k, i < N → G i = some k → belB N k = true ∧ wr0 k = true
/-- what is left of a run over the small heap -/
def Ends (h1 : H) (N : Nat) (G : Nat → Option Blk) (V v : AV) (h' : H) : Prop := ∃ σ, Sig h1.next N σ ∧ v = ren σ V ∧ bel N V = true ∧ ∀ i k, i < N → G i = some k → h'.b.get (σ i) = some (renB σ k)

theorem up_old {ρ : Nat → Nat} {n1 nx i : Nat} (h : i < n1) : up ρ n1 nx i = ρ i := if_pos h
theorem up_new {ρ : Nat → Nat} {n1 nx i : Nat} (h : n1 ≤ i) : up ρ n1 nx i = nx + (i - n1) := if_neg (by omega)

section
variable {P : Program}
set_option maxHeartbeats 1000000 in
/-- .. where blocks may have been one with rows that are let go -/
def EndsW (h1 : H) (N : Nat) (G : Nat → Option Blk) (V v : AV) (h' : H) : Prop := ∃ σ, Sig h1.next N σ ∧ v = ren σ V ∧ bel N V = true ∧ ∀ i k, i < N → G i = some k → ∃ k', h'.b.get (σ i) = some k' ∧ SameP (renB σ k) k' ∧ (k.wr = true → ∀ j, j < N → j ≠ i → σ j ∉ k'.ps)
theorem frameW {C : Cfg} (hC : ConOK C P) (hS : SplCon C) {fuel f : Nat} {args1 : List AV} {h1 : H} {N : Nat} {G : Nat → Option Blk} {V : AV} {ds1 : List Bool}
    (hk : Ran (xfun C P (xcode C P fuel) f args1 h1 ds1 (fun v h' _ => EndsW h1 N G V v h')))
    {gl : Glob} {ρ : Nat → Nat} {h h2 : H} {ds : List Bool} {K : KV} (hs : Sees ρ h1 h) (hl : Leaves ρ h1 N G h h2) (hb : belL h1.next args1 = true)
    (hg : ∀ g i, C.gl g = some i → i < h1.next ∧ gl g = some (ρ i))
    (hK : K (ren (up ρ h1.next h.next) V) h2 ds) (hfk : Nat.ble (Nat.succ f) YK = true := by rfl) : CallOK P gl f (renL ρ args1) h K := by
  intro L w args' U rg hargs r hU
  obtain ⟨v, h', ds', he, _, back⟩ := xfun_spl hS (xcode_spl hS fuel) f args1 h1 ds1 _ hk.out
  have hk2 := back (fun v2 h2 _ => v2 = v ∧ h2 = h') ⟨rfl, rfl⟩
  obtain ⟨σ, hσ, rfl, hV, hE⟩ := he
  have hU2 : h2.next ≤ U := hU _ _ _ hK
  have hn := hl.next
  let L1 : LM := fun i => if i < h1.next then L (ρ i) else none
  have L1_in : ∀ {i p}, L1 i = some p → i < h1.next ∧ L (ρ i) = some p := by
    intro i p hp
    by_cases hi : i < h1.next
    · exact ⟨hi, by simpa [L1, hi] using hp⟩
    · simp [L1, hi] at hp
  have L1_mk : ∀ {i p}, i < h1.next → L (ρ i) = some p → L1 i = some p := by
    intro i p hi hp; simpa [L1, hi] using hp
  have t1 : Tr L L1 ρ id h1.next := fun i hi p hp => L1_mk hi hp
  have r1 : ∀ U', RH L1 h1 w U' := fun U' => by
    refine ⟨?_, ?_, ?_, ?_, fun i k hi => (hs.blk i k hi).1⟩
    · intro i k p hi hp
      obtain ⟨b1, b2, b3, b4⟩ := hs.blk i k hi
      have := rb_tr t1 b3 (r.mem _ _ _ b2 (L1_in hp).2)
      rwa [renB_id] at this
    · intro i j ki kj p q hi hj hp hq hij hw hB
      obtain ⟨b1, b2, b3, b4⟩ := hs.blk i ki hi
      obtain ⟨c1, c2, c3, c4⟩ := hs.blk j kj hj
      obtain ⟨_, _, x⟩ := r.sep _ _ _ _ _ _ b2 c2 (L1_in hp).2 (L1_in hq).2 (fun e => hij (hs.inj i j b1 c1 e)) (by rw [renB_wr]; exact hw) hB
      rw [renB_ps (wr0_ps b4 hw)] at x; cases x
    · intro i hi _
      simp [L1, Nat.not_lt.2 hi]
    · intro i p hp; exact r.below _ _ (L1_in hp).2
  have a1 : RVs L1 args1 args'.toList := by
    have := rvs_tr t1 args1 hb hargs
    rwa [renL_id] at this
  have rg1 : RG L1 C.gl := fun g i hgi => by
    obtain ⟨e1, e2⟩ := hg g i hgi
    exact L1_mk e1 (rg g _ e2)
  -- what others have is not the callee's
  have own1 : ∀ {B}, Own L1 h1 B → ∃ i k q, h1.b.get i = some k ∧ k.wr = true ∧ L (ρ i) = some q ∧ q.B = B ∧ h.b.get (ρ i) = some (renB ρ k) ∧ (renB ρ k).ps = [] ∧ i < h1.next := by
    rintro B ⟨i, k, q, b1, b2, b3, b4⟩
    obtain ⟨c1, c2, c3, c4⟩ := hs.blk i k b1
    exact ⟨i, k, q, b1, b2, (L1_in b3).2, b4, c2, renB_ps (wr0_ps c4 b2), c1⟩
  have ownL : ∀ {B}, Own L1 h1 B → Own L h B := by
    intro B ho
    obtain ⟨i, k, q, b1, b2, b3, b4, b5, _, _⟩ := own1 ho
    exact ⟨ρ i, _, q, b5, by rw [renB_wr]; exact b2, b3, b4⟩
  have alien : ∀ {B j k q}, Own L1 h1 B → h.b.get j = some k → (∀ i k1, h1.b.get i = some k1 → ρ i ≠ j) → L j = some q → q.B = B → False := by
    intro B j k q ho hj hne hq hB
    obtain ⟨i, k1, q1, b1, b2, b3, b4, b5, b6, b7⟩ := own1 ho
    obtain ⟨_, _, x⟩ := r.sep _ _ _ _ _ _ b5 hj b3 hq (hne i k1 b1) (by rw [renB_wr]; exact b2) (by rw [b4, hB])
    rw [b6] at x; cases x
  refine Calls.mono (xrun_call hC hS hk2 (hfk := hfk) L1 w args' h'.next rg1 a1 (r1 _) fun _ _ _ e => by rw [e.2]; exact Nat.le_refl _) ?_
  rintro e w' ⟨v2, h3, ds2, L', v', rfl, ⟨rfl, rfl⟩, k1, k2, s⟩
  let L2 : LM := fun j => if j < h.next then L j else if j < h.next + (N - h1.next) then L' (σ (h1.next + (j - h.next))) else L j
  have n1N := hl.n1
  have L2_lo : ∀ {j}, j < h.next → L2 j = L j := fun {j} hj => by simp [L2, hj]
  have L2_new : ∀ {i}, h1.next ≤ i → i < N → L2 (h.next + (i - h1.next)) = L' (σ i) := fun {i} hi hN => by
    have e1 : ¬ (h.next + (i - h1.next) < h.next) := by omega
    have e2 : h.next + (i - h1.next) < h.next + (N - h1.next) := by omega
    have e3 : h1.next + (h.next + (i - h1.next) - h.next) = i := by omega
    simp only [L2, e1, e2, if_false, if_true, e3]
  have L2_hi : ∀ {j}, h.next + (N - h1.next) ≤ j → L2 j = L j := fun {j} hj => by
    have e1 : ¬ (j < h.next) := by omega
    have e2 : ¬ (j < h.next + (N - h1.next)) := by omega
    simp only [L2, e1, e2, if_false]
  have fwd : ∀ {i}, i < N → ∀ {p}, L' (σ i) = some p → L2 (up ρ h1.next h.next i) = some p := by
    intro i hi p hp
    by_cases h0 : i < h1.next
    · rw [up_old h0, L2_lo (hs.low i h0)]
      rw [hσ.old i h0] at hp
      rcases s.new i p hp with e | ⟨e, _, _⟩
      · exact (L1_in e).2
      · omega
    · rw [up_new (by omega), L2_new (by omega) hi]; exact hp
  have bwd : ∀ {i}, i < N → ∀ {p}, L2 (up ρ h1.next h.next i) = some p → L' (σ i) = some p := by
    intro i hi p hp
    by_cases h0 : i < h1.next
    · rw [up_old h0, L2_lo (hs.low i h0)] at hp
      rw [hσ.old i h0]
      exact s.ext _ _ (L1_mk h0 hp)
    · rwa [up_new (by omega), L2_new (by omega) hi] at hp
  have t2 : Tr L' L2 σ (up ρ h1.next h.next) N := fun i hi p hp => fwd hi hp
  have ext : Ext L L2 := by
    intro j p hp
    by_cases c1 : j < h.next
    · rwa [L2_lo c1]
    · by_cases c2 : j < h.next + (N - h1.next)
      · rw [r.fresh j (by omega) (by omega)] at hp; cases hp
      · rwa [L2_hi (by omega)]
  -- a new name of the callee's is no old block's, or it is one of the callee's own
  have newB : ∀ {i p}, h1.next ≤ i → i < N → L' (σ i) = some p → w.heap.size ≤ p.B ∨ Own L1 h1 p.B := by
    intro i p hi hN hp
    rcases s.new _ p hp with e | ⟨_, _, e⟩
    · have := (L1_in e).1; have := hσ.new i hi hN; omega
    · exact e
  have keep : ∀ {j k p}, h.b.get j = some k → (∀ i k1, h1.b.get i = some k1 → ρ i ≠ j) → L j = some p → w'.heap[p.B]? = w.heap[p.B]? := by
    intro j k p hj hne hp
    exact s.keep _ (r.below _ _ hp) fun ho => alien ho hj hne hp rfl
  refine ⟨ren (up ρ h1.next h.next) V, h2, ds, L2, v', rfl, hK, rv_tr t2 V hV k1, ⟨?_, ?_, ?_, ?_, ?_⟩, ⟨ext, s.size, ?_, ?_, ?_, by omega, s.os, s.output, s.tape, s.fro⟩⟩
  · intro j k p hj hp
    rcases hl.blk j k hj with ⟨i, k3, hi, rfl, hG, rfl⟩ | ⟨hj, hne⟩
    · obtain ⟨k', q1, q2, _⟩ := hE i k3 hi hG
      exact rb_tr t2 (hl.ok i k3 hi hG).1 (q2.rb (k2.mem _ _ _ q1 (bwd hi hp)))
    · have hjl := r.live j k hj
      rw [L2_lo hjl] at hp
      exact ((r.mem j k p hj hp).keep (keep hj hne hp)).mono ext
  · intro i j ki kj p q hi hj hp hq hij hw hB
    rcases hl.blk i ki hi with ⟨i0, ki0, hi0, rfl, hGi, rfl⟩ | ⟨hi1, hnei⟩
    · rw [renB_wr] at hw
      obtain ⟨oi1, oi2⟩ := hl.ok i0 ki0 hi0 hGi
      have hps := wr0_ps oi2 hw
      rcases hl.blk j kj hj with ⟨j0, kj0, hj0, rfl, hGj, rfl⟩ | ⟨hj1, hnej⟩
      · have hne : i0 ≠ j0 := fun e => hij (by rw [e])
        obtain ⟨kk1, q1, q2, q3⟩ := hE i0 ki0 hi0 hGi
        obtain ⟨kk2, p1, p2, p3⟩ := hE j0 kj0 hj0 hGj
        obtain ⟨_, _, x⟩ := k2.sep _ _ _ _ _ _ q1 p1 (bwd hi0 hp) (bwd hj0 hq) (fun e => hne (hσ.inj _ _ hi0 hj0 e)) (by rw [q2.wr, renB_wr]; exact hw) hB
        exact (q3 hw j0 hj0 (Ne.symm hne) x).elim
      · exfalso
        have hjl := r.live j kj hj1
        rw [L2_lo hjl] at hq
        by_cases h0 : i0 < h1.next
        · obtain ⟨k0, g1, g2⟩ := hl.old i0 ki0 h0 hGi
          rw [up_old h0, L2_lo (hs.low i0 h0)] at hp
          exact alien (B := p.B) ⟨i0, k0, p, g1, by rw [g2]; exact hw, L1_mk h0 hp, rfl⟩ hj1 hnej hq hB.symm
        · rcases newB (by omega) hi0 (bwd hi0 hp) with e | e
          · have := r.below _ _ hq; rw [← hB] at this; omega
          · exact alien e hj1 hnej hq hB.symm
    · have hil := r.live i ki hi1
      rw [L2_lo hil] at hp
      rcases hl.blk j kj hj with ⟨j0, kj0, hj0, rfl, hGj, rfl⟩ | ⟨hj1, hnej⟩
      · by_cases h0 : j0 < h1.next
        · obtain ⟨k0, g1, g2⟩ := hl.old j0 kj0 h0 hGj
          obtain ⟨c1, c2, c3, c4⟩ := hs.blk j0 k0 g1
          rw [up_old h0, L2_lo (hs.low j0 h0)] at hq
          rw [up_old h0] at hij ⊢
          obtain ⟨x, y, z⟩ := r.sep _ _ _ _ _ _ hi1 c2 hp hq hij hw hB
          exact ⟨by rw [renB_wr] at x ⊢; rw [← g2]; exact x, y, z⟩
        · exfalso
          rcases newB (by omega) hj0 (bwd hj0 hq) with e | e
          · have := r.below _ _ hp; rw [hB] at this; omega
          · exact alien e hi1 hnei hp hB
      · have hjl := r.live j kj hj1
        rw [L2_lo hjl] at hq
        exact r.sep _ _ _ _ _ _ hi1 hj1 hp hq hij hw hB
  · intro j hj hjU
    rw [L2_hi (by omega)]; exact r.fresh j (by omega) hjU
  · intro j p hp
    by_cases c1 : j < h.next
    · rw [L2_lo c1] at hp; have := r.below _ _ hp; have := s.size; omega
    · by_cases c2 : j < h.next + (N - h1.next)
      · obtain ⟨i, rfl, hi⟩ : ∃ i, j = h.next + (i - h1.next) ∧ h1.next ≤ i := ⟨h1.next + (j - h.next), by omega, by omega⟩
        rw [L2_new (by omega) (by omega)] at hp
        exact k2.below _ _ hp
      · rw [L2_hi (by omega)] at hp; have := r.below _ _ hp; have := s.size; omega
  · intro j k hj
    rcases hl.blk j k hj with ⟨i, k3, hi, rfl, hG, rfl⟩ | ⟨hj, hne⟩
    · by_cases h0 : i < h1.next
      · rw [up_old h0]; have := hs.low i h0; omega
      · rw [up_new (by omega)]; omega
    · have := r.live j k hj; omega
  · intro B hB ho
    exact s.keep B hB fun h => ho (ownL h)
  · rintro B ⟨j, k, p, hj, hw, hp, rfl⟩ hB
    rcases hl.blk j k hj with ⟨i, k3, hi, rfl, hG, rfl⟩ | ⟨hj, hne⟩
    · obtain ⟨k', q1, q2, _⟩ := hE i k3 hi hG
      exact ownL (s.own _ ⟨_, _, p, q1, by rw [q2.wr, renB_wr]; rw [renB_wr] at hw; exact hw, bwd hi hp, rfl⟩ hB)
    · rw [L2_lo (r.live j k hj)] at hp
      exact ⟨j, k, p, hj, hw, hp, rfl⟩
  · intro j p hp
    by_cases c1 : j < h.next
    · rw [L2_lo c1] at hp; exact .inl hp
    · by_cases c2 : j < h.next + (N - h1.next)
      · obtain ⟨i, rfl, hi⟩ : ∃ i, j = h.next + (i - h1.next) ∧ h1.next ≤ i := ⟨h1.next + (j - h.next), by omega, by omega⟩
        rw [L2_new hi (by omega)] at hp
        refine .inr ⟨by omega, by omega, ?_⟩
        rcases newB hi (by omega) hp with e | e
        · exact .inl e
        · exact .inr (ownL e)
      · rw [L2_hi (by omega)] at hp; exact .inl hp
theorem frame {C : Cfg} (hC : ConOK C P) (hS : SplCon C) {fuel f : Nat} {args1 : List AV} {h1 : H} {N : Nat} {G : Nat → Option Blk} {V : AV} {ds1 : List Bool}
    (hk : Ran (xfun C P (xcode C P fuel) f args1 h1 ds1 (fun v h' _ => Ends h1 N G V v h')))
    {gl : Glob} {ρ : Nat → Nat} {h h2 : H} {ds : List Bool} {K : KV} (hs : Sees ρ h1 h) (hl : Leaves ρ h1 N G h h2) (hb : belL h1.next args1 = true)
    (hg : ∀ g i, C.gl g = some i → i < h1.next ∧ gl g = some (ρ i))
    (hK : K (ren (up ρ h1.next h.next) V) h2 ds) (hfk : Nat.ble (Nat.succ f) YK = true := by rfl) : CallOK P gl f (renL ρ args1) h K := by
  refine frameW hC hS (fuel := fuel) (ds1 := ds1) (N := N) (G := G) (V := V) ⟨?_⟩ hs hl hb hg hK hfk
  obtain ⟨v, h', ds', ⟨σ, e1, e2, e3, e4⟩, _, back⟩ := xfun_spl hS (xcode_spl hS fuel) f args1 h1 ds1 _ hk.out
  refine back _ ⟨σ, e1, e2, e3, fun i k hi hG => ⟨_, e4 i k hi hG, SameP.refl _, fun hw j _ _ hm => ?_⟩⟩
  rw [renB_ps (wr0_ps (hl.ok i k hi hG).2 hw)] at hm
  cases hm
end
end
end Go.X
/- Loops by a relation: the states that a loop goes through, and how a round's end is one of them again (what is no longer reached is forgotten, names are given anew). -/
set_option autoImplicit false
set_option linter.unusedVariables false
namespace Go.X
noncomputable section
section
variable {P : Program}

/-- env and h, seen as e2 and h2: the first n0 names stay -/
structure Abs (n0 : Nat) (σ : Nat → Nat) (e2 : Env) (h2 : H) (env : Env) (h : H) : Prop where
  old : ∀ i, i < n0 → σ i = i
  new : ∀ i, n0 ≤ i → i < h2.next → n0 ≤ σ i
  inj : ∀ i j, i < h2.next → j < h2.next → σ i = σ j → i = j
  next : n0 ≤ h2.next
  slot : ∀ t v, T.get e2 t = some v → bel h2.next v = true ∧ T.get env t = some (ren σ v)
  blk : ∀ i k, h2.b.get i = some k → i < h2.next ∧ belB h2.next k = true ∧ ∃ k', h.b.get (σ i) = some k' ∧ SameP (renB σ k) k' ∧ ∀ j kj, j ≠ i → h2.b.get j = some kj → σ j ∈ k'.ps → j ∈ k.ps

def supp (L : LM) (n : Nat) : Prop := ∀ i p, L i = some p → i < n
theorem RH.any {L : LM} {h : H} {w : World} {U : Nat} (r : RH L h w U) (s : supp L h.next) (U' : Nat) : RH L h w U' :=
  ⟨r.mem, r.sep, fun i hi _ => by
    cases hL : L i with
    | none => rfl
    | some p => have := s i p hL; omega, r.below, r.live⟩
/-- the abstraction of a world's state -/
theorem abs_step {L1 L' : LM} {h0 h' h2 : H} {w0 w' : World} {U : Nat} {σ : Nat → Nat} {env e2 : Env} {mask : Nat} {a : Act} (hs1 : supp L1 h0.next) (st : Step L1 L' h0 h' w0 w') (r : RH L' h' w' U) (re : RE' L' mask env a)
    (ab : Abs h0.next σ e2 h2 env h') : ∃ L2, supp L2 h2.next ∧ RH L2 h2 w' 0 ∧ RE' L2 mask e2 a ∧ Step L1 L2 h0 h2 w0 w' ∧ ∀ i p, L2 i = some p → ∃ j, L' j = some p := by
  let L2 : LM := fun i => if i < h2.next then L' (σ i) else none
  have inn : ∀ {i p}, L2 i = some p → i < h2.next ∧ L' (σ i) = some p := by
    intro i p hp
    by_cases hi : i < h2.next
    · exact ⟨hi, by simpa [L2, hi] using hp⟩
    · simp [L2, hi] at hp
  have mk : ∀ {i p}, i < h2.next → L' (σ i) = some p → L2 i = some p := by
    intro i p hi hp; simpa [L2, hi] using hp
  have tr : Tr L' L2 σ id h2.next := fun i hi p hp => mk hi hp
  have hn := ab.next
  refine ⟨L2, fun i p h => (inn h).1, ⟨?_, ?_, fun i hi h0 => by omega, fun i p hp => r.below _ _ (inn hp).2, fun i k hi => (ab.blk i k hi).1⟩, ⟨?_, ?_⟩, ⟨?_, st.size, st.keep, ?_, ?_, ab.next, st.os, st.output, st.tape, st.fro⟩, fun i p hp => ⟨_, (inn hp).2⟩⟩
  · intro i k p hi hp
    obtain ⟨b1, b2, k', b3, b4, b5⟩ := ab.blk i k hi
    have := rb_tr tr b2 (b4.rb (r.mem _ _ _ b3 (inn hp).2))
    rwa [renB_id] at this
  · intro i j ki kj p q hi hj hp hq hij hw hB
    obtain ⟨b1, b2, k', b3, b4, b5⟩ := ab.blk i ki hi
    obtain ⟨c1, c2, k2, c3, c4, c5⟩ := ab.blk j kj hj
    obtain ⟨x, y, z⟩ := r.sep _ _ _ _ _ _ b3 c3 (inn hp).2 (inn hq).2 (fun e => hij (ab.inj _ _ b1 c1 e)) (by rw [b4.wr, renB_wr]; exact hw) hB
    exact ⟨by rw [c4.wr, renB_wr] at x; exact x, y, b5 j kj (Ne.symm hij) hj z⟩
  · intro t v ht
    obtain ⟨b1, b2⟩ := ab.slot t v ht
    have := rv_tr tr v b1 (re.get t _ b2)
    rwa [ren_id] at this
  · intro t v ht
    exact re.bits t _ (ab.slot t v ht).2
  · intro i p hp
    have hi := hs1 i p hp
    refine mk (by omega) ?_
    rw [ab.old i hi]; exact st.ext i p hp
  · rintro B ⟨i, k, p, hi, hw, hp, rfl⟩ hB
    obtain ⟨b1, b2, k', b3, b4, b5⟩ := ab.blk i k hi
    exact st.own _ ⟨σ i, k', p, b3, by rw [b4.wr, renB_wr]; exact hw, (inn hp).2, rfl⟩ hB
  · intro i p hp
    obtain ⟨hi, hp⟩ := inn hp
    by_cases h0 : i < h0.next
    · rw [ab.old i h0] at hp
      rcases st.new i p hp with e | ⟨e, _, _⟩
      · exact .inl e
      · omega
    · have := ab.new i (by omega) hi
      rcases st.new _ p hp with e | ⟨e1, e2, e3⟩
      · have := hs1 _ p e; omega
      · exact .inr ⟨by omega, hi, e3⟩
/-- what of a state is looked at -/
structure EnvLe (e2 env : Env) : Prop where
  out : ∀ t v, T.get e2 t = some v → T.get env t = some v
structure HLe (h2 h : H) : Prop where
  next : h2.next = h.next
  blk : ∀ i k, h2.b.get i = some k → h.b.get i = some k
def Shut (e : Env) (h : H) : Prop := (∀ t v, T.get e t = some v → bel h.next v = true) ∧ ∀ i k, h.b.get i = some k → belB h.next k = true
theorem cut_step {L : LM} {h h2 : H} {w : World} {U : Nat} {env e2 : Env} {mask : Nat} {a : Act} (r : RH L h w U) (re : RE' L mask env a) (le : EnvLe e2 env) (lh : HLe h2 h) (sh : Shut e2 h2) :
    ∃ L1, supp L1 h2.next ∧ Ext L1 L ∧ (∀ i, i < h2.next → L1 i = L i) ∧ RH L1 h2 w 0 ∧ RE' L1 mask e2 a := by
  let L1 : LM := fun i => if i < h2.next then L i else none
  have inn : ∀ {i p}, L1 i = some p → i < h2.next ∧ L i = some p := by
    intro i p hp
    by_cases hi : i < h2.next
    · exact ⟨hi, by simpa [L1, hi] using hp⟩
    · simp [L1, hi] at hp
  have mk : ∀ {i}, i < h2.next → L1 i = L i := by
    intro i hi; simp [L1, hi]
  have tr : Tr L L1 id id h2.next := fun i hi p hp => by rw [id, mk hi]; exact hp
  refine ⟨L1, fun i p h => (inn h).1, fun i p h => (inn h).2, fun i hi => mk hi, ⟨?_, ?_, fun i hi h0 => by omega, fun i p hp => r.below _ _ (inn hp).2, ?_⟩, ⟨?_, ?_⟩⟩
  · intro i k p hi hp
    have := rb_tr tr (sh.2 i k hi) (by rw [renB_id]; exact r.mem _ _ _ (lh.blk i k hi) (inn hp).2)
    rwa [renB_id] at this
  · intro i j ki kj p q hi hj hp hq hij hw hB
    exact r.sep i j ki kj p q (lh.blk i ki hi) (lh.blk j kj hj) (inn hp).2 (inn hq).2 hij hw hB
  · intro i k hi
    rw [lh.next]; exact r.live i k (lh.blk i k hi)
  · intro t v ht
    have := rv_tr tr v (sh.1 t v ht) (by rw [ren_id]; exact re.get t v (le.out t v ht))
    rwa [ren_id] at this
  · intro t v ht
    exact re.bits t v (le.out t v ht)
theorem uncut_step {L L1 L2 : LM} {h h1 h2 : H} {w w' : World} {U : Nat} {e2 : Env} {mask : Nat} {a : Act} (r : RH L h w U) (lh : HLe h1 h) (h12 : ∀ i, i < h1.next → L1 i = L i) (s1 : supp L1 h1.next) (hU : h2.next ≤ U)
    (s2 : supp L2 h2.next) (r2 : RH L2 h2 w' 0) (re : RE' L2 mask e2 a) (st : Step L1 L2 h1 h2 w w') : ∃ L3, RH L3 h2 w' U ∧ RE' L3 mask e2 a ∧ Step L L3 h h2 w w' ∧ ∀ i p, L3 i = some p → L2 i = some p ∨ L i = some p := by
  let L3 : LM := fun i => if i < h2.next then L2 i else L i
  have lo : ∀ {i}, i < h2.next → L3 i = L2 i := fun {i} hi => by simp [L3, hi]
  have hi' : ∀ {i}, h2.next ≤ i → L3 i = L i := fun {i} hi => by simp [L3, Nat.not_lt.2 hi]
  have x23 : Ext L2 L3 := fun i p hp => by rw [lo (s2 i p hp)]; exact hp
  have hn := st.next
  have ownL : ∀ {B}, Own L1 h1 B → Own L h B := by
    rintro B ⟨i, k, p, b1, b2, b3, b4⟩
    exact ⟨i, k, p, lh.blk i k b1, b2, by rw [← h12 i (s1 i p b3)]; exact b3, b4⟩
  have hnx := lh.next
  refine ⟨L3, ⟨?_, ?_, ?_, ?_, r2.live⟩, ⟨fun t v ht => (re.get t v ht).mono x23, re.bits⟩, ⟨?_, st.size, ?_, ?_, ?_, by omega, st.os, st.output, st.tape, st.fro⟩, fun i p hp => ?_⟩
  · intro i k p hi hp
    rw [lo (r2.live i k hi)] at hp
    exact (r2.mem i k p hi hp).mono x23
  · intro i j ki kj p q hi hj hp hq hij hw hB
    rw [lo (r2.live i ki hi)] at hp
    rw [lo (r2.live j kj hj)] at hq
    exact r2.sep i j ki kj p q hi hj hp hq hij hw hB
  · intro i hi hu
    rw [hi' hi]; exact r.fresh i (by omega) hu
  · intro i p hp
    by_cases c : i < h2.next
    · rw [lo c] at hp; exact r2.below i p hp
    · rw [hi' (by omega)] at hp; have := r.below i p hp; have := st.size; omega
  · intro i p hp
    by_cases c : i < h1.next
    · rw [← h12 i c] at hp; exact x23 i p (st.ext i p hp)
    · by_cases c2 : i < h2.next
      · rw [r.fresh i (by omega) (by omega)] at hp; cases hp
      · rw [hi' (by omega)]; exact hp
  · intro B hB ho
    exact st.keep B hB fun x => ho (ownL x)
  · rintro B ⟨i, k, p, hi, hw, hp, rfl⟩ hB
    rw [lo (r2.live i k hi)] at hp
    exact ownL (st.own _ ⟨i, k, p, hi, hw, hp, rfl⟩ hB)
  · intro i p hp
    by_cases c : i < h2.next
    · rw [lo c] at hp
      rcases st.new i p hp with e | ⟨e1, e2, e3⟩
      · have := s1 i p e
        rw [h12 i this] at e; exact .inl e
      · refine .inr ⟨by omega, e2, ?_⟩
        rcases e3 with e3 | e3
        · exact .inl e3
        · exact .inr (ownL e3)
    · rw [hi' (by omega)] at hp; exact .inl hp
  · by_cases c : i < h2.next
    · rw [lo c] at hp; exact .inl hp
    · rw [hi' (by omega)] at hp; exact .inr hp

/-! The rule -/
/-- the end of a round: a state of the loop again, nearer to its end; or the end itself -/
def Round {S : Type} (n0 : Nat) (E : S → Env) (Hs : S → H) (μ : S → Nat) (fin : S → XE × Env × H) (s : S) : KE := fun x env h _ => match x with
  | .nrm => ∃ s' σ, μ s' < μ s ∧ fin s' = fin s ∧ Abs n0 σ (E s') (Hs s') env h
  | x => ∃ σ, (fin s).1 = x ∧ Abs n0 σ (fin s).2.1 (fin s).2.2 env h
/-- a loop's contract by its states -/
def lcOf {S : Type} (E : S → Env) (Hs : S → H) (fin : S → XE × Env × H) : LCon := fun env h ds K => ∃ s, EnvLe (E s) env ∧ HLe (Hs s) h ∧ K (fin s).1 (fin s).2.1 (fin s).2.2 ds
/-- each state may have contracts of its own -/
theorem lcOf_okC {gl : Glob} {S : Type} (Cs : S → Cfg) (hC : ∀ s, ConOK (Cs s) P) (hS : ∀ s, SplCon (Cs s)) (hG : ∀ s, (Cs s).gl = gl) {n0 : Nat} {E : S → Env} {Hs : S → H} {μ : S → Nat} {fin : S → XE × Env × H} (dr : S → List Bool) {fuel f : Nat} {c : Code} {mask n : Nat} (sb : ∀ s, Sub (Cs s) P f (.loop c) mask n)
    (hrun : ∀ s, n0 ≤ (Hs s).next → Ran (xcode (Cs s) P fuel f c mask n (E s) (Hs s) (dr s) (Round n0 E Hs μ fin s)))
    (l : LCon) (hl : ∀ env h ds K, l env h ds K → ∃ s, (Hs s).next = n0 ∧ Shut (E s) (Hs s) ∧ EnvLe (E s) env ∧ HLe (Hs s) h ∧ K (fin s).1 (fin s).2.1 (fin s).2.2 ds) (hgl : ∀ g i, gl g = some i → i < n0) : LoopOK P gl c mask n l := by
  intro env h ds K hk L a w U hU rg re hn r
  obtain ⟨s0, e0, esh, e1, e2, e3⟩ := hl env h ds K hk
  obtain ⟨L1, s1, x1, ag, r1, re1⟩ := cut_step r re e1 e2 esh
  have hUf := hU _ _ _ _ e3
  have rg1 : RG L1 gl := fun g i hg => by
    have e := rg g i hg
    rw [ag i (by rw [e0]; exact hgl g i hg)]; exact e
  have key : ∀ (m : Nat) (s : S) (L' : LM) (a' : Act) (w' : World), μ s = m → fin s = fin s0 → n0 ≤ (Hs s).next → supp L' (Hs s).next → RH L' (Hs s) w' 0 → RE' L' mask (E s) a' → Step L1 L' (Hs s0) (Hs s) w w' → a'.tmps.size = n → DSt L' w a.defers a'.defers w' →
      LoopWp none P c (CPost K U L h w a.defers mask n) a' w' := by
    intro m
    induction m using Nat.strongRecOn with
    | _ m ih =>
      intro s L' a' w' hm hf hnx sp rh re st hn' hd'
      obtain ⟨x, env2, h2, ds2, q1, q2, back⟩ := xcode_spl (P := P) (hS s) fuel _ _ _ _ _ _ _ _ (hrun s hnx).out
      have hk2 := back (fun x' e' h' _ => x' = x ∧ e' = env2 ∧ h' = h2) ⟨rfl, rfl, rfl⟩
      refine .round (wpIn_mono (xcode_code (hC s) (hS s) fuel none f c mask n _ _ _ _ (fun _ => ⟨rfl, (sb s).map fun _ => .loop⟩) hk2 L' a' w' h2.next (fun _ _ _ _ e => by rw [e.2.2]; exact Nat.le_refl _) (by rw [hG s]; exact rg1.mono st.ext) re hn' (rh.any sp _)) ?_)
      rintro e a2 w2 ⟨x', env', h', ds', L2, rfl, ⟨rfl, rfl, rfl⟩, k2, k3, k4, k5, k6⟩
      have st2 := st.trans k6
      have dd := hd'.trans st.size k6 k4
      cases x' with
      | nrm =>
        obtain ⟨s', σ, m1, m2, ab⟩ := q1
        obtain ⟨L3, t1, t2, t3, t4, t5⟩ := abs_step (by exact s1) st2 k5 k2 (by rw [e0]; exact ab)
        exact ih (μ s') (by omega) s' L3 a2 w2 rfl (m2.trans hf) ab.next t1 t2 t3 t4 k3 (dd.sub fun i p hp => by obtain ⟨j, hj⟩ := t5 i p hp; exact .inl ⟨j, p, hj, rfl⟩)
      | _ =>
        obtain ⟨σ, m1, ab⟩ := q1
        rw [hf] at m1 ab
        obtain ⟨L3, t1, t2, t3, t4, t5⟩ := abs_step (by exact s1) st2 k5 k2 (by rw [e0]; exact ab)
        obtain ⟨L4, u1, u2, u3, u4⟩ := uncut_step r e2 ag s1 hUf t1 t2 t3 t4
        have d4 : DSt L4 w a.defers a2.defers w2 := dd.sub fun i p hp => by
          rcases u4 i p hp with h1 | h1
          · obtain ⟨j, hj⟩ := t5 i p h1
            exact .inl ⟨j, p, hj, rfl⟩
          · exact .inr (r.below i p h1)
        exact ⟨_, _, _, ds, L4, rfl, by rw [← m1]; exact e3, u2, k3, d4, u1, u3⟩
  exact key _ s0 L1 a w rfl rfl (by omega) s1 r1 re1 (Step.refl _ _ _) hn (.refl _ _ _ _)
theorem lcOf_okD {C : Cfg} (hC : ConOK C P) (hS : SplCon C) {S : Type} {n0 : Nat} {E : S → Env} {Hs : S → H} {μ : S → Nat} {fin : S → XE × Env × H} (dr : S → List Bool) {fuel f : Nat} {c : Code} {mask n : Nat} (sb : Sub C P f (.loop c) mask n)
    (hrun : ∀ s, n0 ≤ (Hs s).next → Ran (xcode C P fuel f c mask n (E s) (Hs s) (dr s) (Round n0 E Hs μ fin s)))
    (l : LCon) (hl : ∀ env h ds K, l env h ds K → ∃ s, (Hs s).next = n0 ∧ Shut (E s) (Hs s) ∧ EnvLe (E s) env ∧ HLe (Hs s) h ∧ K (fin s).1 (fin s).2.1 (fin s).2.2 ds) (hgl : ∀ g i, C.gl g = some i → i < n0) : LoopOK P C.gl c mask n l :=
  lcOf_okC (fun _ => C) (fun _ => hC) (fun _ => hS) (fun _ => rfl) dr (fun _ => sb) hrun l hl hgl
theorem lcOf_ok {C : Cfg} (hC : ConOK C P) (hS : SplCon C) {S : Type} {n0 : Nat} {E : S → Env} {Hs : S → H} {μ : S → Nat} {fin : S → XE × Env × H} {fuel f : Nat} {c : Code} {mask n : Nat} (sb : Sub C P f (.loop c) mask n)
    (hrun : ∀ s, n0 ≤ (Hs s).next → Ran (xcode C P fuel f c mask n (E s) (Hs s) [] (Round n0 E Hs μ fin s)))
    (l : LCon) (hl : ∀ env h ds K, l env h ds K → ∃ s, (Hs s).next = n0 ∧ Shut (E s) (Hs s) ∧ EnvLe (E s) env ∧ HLe (Hs s) h ∧ K (fin s).1 (fin s).2.1 (fin s).2.2 ds) (hgl : ∀ g i, C.gl g = some i → i < n0) : LoopOK P C.gl c mask n l :=
  lcOf_okD hC hS (fun _ => []) sb hrun l hl hgl
end
end
end Go.X
/- Contracts as functions; loops found by their names; abstractions by computation. -/
set_option autoImplicit false
set_option linter.unusedVariables false
namespace Go.X
noncomputable section

/-- a case of a test -/
def bcase (c : Bool) (t f : Prop) : Prop := Bool.rec f t c
theorem bcase_t {c : Bool} {t : Prop} (h : c = true) (ht : t) : bcase c t False := by subst h; exact ht
theorem bcase_mk {c : Bool} {t f : Prop} (ht : c = true → t) (hf : c = false → f) : bcase c t f := by
  cases c
  · exact hf rfl
  · exact ht rfl
def ocase {α : Type} (o : Option α) (n : Prop) (s : α → Prop) : Prop := Option.rec n s o
theorem ocase_some {α : Type} {o : Option α} {n : Prop} {s : α → Prop} {x : α} (h : o = some x) (hs : s x) : ocase o n s := by subst h; exact hs
theorem ocase_none {α : Type} {o : Option α} {n : Prop} {s : α → Prop} (h : o = none) (hs : n) : ocase o n s := by subst h; exact hs

/-! Contracts -/
/-- a truth that is told by its cases -/
def ksplit (v : AV) (K : AV → Prop) : Prop := match v with
  | .bool b => Bool.rec (K (.bool false)) (K (.bool true)) b
  | v => K v
theorem ksplit_eq (v : AV) (K : AV → Prop) : ksplit v K = K v := by
  unfold ksplit
  split
  · rename_i b; cases b <;> rfl
  · rfl
/-- a contract that is a function: what is owed, what comes out, and the heap behind it -/
def conF (F : List AV → H → Option (Bool × AV × H)) : Con := fun args h ds K => match F args h with
  | some p => Bool.rec False (Bool.rec False (ksplit p.2.1 fun v => K v p.2.2 ds) (Nat.ble h.next p.2.2.next)) p.1
  | none => False
theorem conF_get {F : List AV → H → Option (Bool × AV × H)} {args : List AV} {h : H} {ds : List Bool} {K : KV} (hk : conF F args h ds K) : ∃ v h', F args h = some (true, v, h') ∧ h.next ≤ h'.next ∧ K v h' ds := by
  unfold conF at hk
  cases hF : F args h with
  | none => rw [hF] at hk; exact hk.elim
  | some p =>
    obtain ⟨c, v, h'⟩ := p
    rw [hF] at hk
    dsimp only at hk
    cases c with
    | false => exact hk.elim
    | true =>
      cases hb : Nat.ble h.next h'.next with
      | false => rw [hb] at hk; exact hk.elim
      | true => rw [hb] at hk; exact ⟨v, h', rfl, Nat.le_of_ble_eq_true hb, by rw [← ksplit_eq v (fun v => K v h' ds)]; exact hk⟩
theorem conF_mk {F : List AV → H → Option (Bool × AV × H)} {args : List AV} {h : H} {ds : List Bool} {K : KV} {v : AV} {h' : H} (hF : F args h = some (true, v, h')) (hb : h.next ≤ h'.next) (hk : K v h' ds) : conF F args h ds K := by
  unfold conF
  rw [hF]
  dsimp only
  rw [Nat.ble_eq_true_of_le hb]
  dsimp only
  rw [ksplit_eq]
  exact hk
theorem conF_spl (F : List AV → H → Option (Bool × AV × H)) (args : List AV) (h : H) (ds : List Bool) : Spl h (fun K => conF F args h ds K) := by
  intro K hk
  obtain ⟨v, h', h1, h2, h3⟩ := conF_get hk
  exact ⟨_, _, _, h3, h2, fun K' hk' => conF_mk h1 h2 hk'⟩
theorem conF_ok {P : Program} {gl : Glob} {f : Nat} {F : List AV → H → Option (Bool × AV × H)} (hF : ∀ args h v h' ds (K : KV), F args h = some (true, v, h') → K v h' ds → CallOK P gl f args h K)
    (args : List AV) (h : H) (ds : List Bool) (K : KV) (hk : conF F args h ds K) : CallOK P gl f args h K := by
  obtain ⟨v, h', h1, _, h3⟩ := conF_get hk
  exact hF args h v h' ds K h1 h3
/-- a contract with two ways -/
def conF2 (F : List AV → H → Option (Bool × Bool × (AV × H) × (AV × H))) : Con := fun args h ds K => match F args h with
  | some p => Bool.rec False (Bool.rec (Bool.rec False (K p.2.2.2.1 p.2.2.2.2 ds) (Nat.ble h.next p.2.2.2.2.next)) (Bool.rec False (K p.2.2.1.1 p.2.2.1.2 ds) (Nat.ble h.next p.2.2.1.2.next)) p.2.1) p.1
  | none => False
theorem conF2_get {F : List AV → H → Option (Bool × Bool × (AV × H) × (AV × H))} {args : List AV} {h : H} {ds : List Bool} {K : KV} (hk : conF2 F args h ds K) :
    ∃ b r1 r2, F args h = some (true, b, r1, r2) ∧ ((b = true ∧ h.next ≤ r1.2.next ∧ K r1.1 r1.2 ds) ∨ (b = false ∧ h.next ≤ r2.2.next ∧ K r2.1 r2.2 ds)) := by
  unfold conF2 at hk
  cases hF : F args h with
  | none => rw [hF] at hk; exact hk.elim
  | some p =>
    obtain ⟨c, b, r1, r2⟩ := p
    rw [hF] at hk
    dsimp only at hk
    cases c with
    | false => exact hk.elim
    | true =>
      refine ⟨b, r1, r2, rfl, ?_⟩
      cases b with
      | true =>
        cases hb : Nat.ble h.next r1.2.next with
        | false => rw [hb] at hk; exact hk.elim
        | true => rw [hb] at hk; exact .inl ⟨rfl, Nat.le_of_ble_eq_true hb, hk⟩
      | false =>
        cases hb : Nat.ble h.next r2.2.next with
        | false => rw [hb] at hk; exact hk.elim
        | true => rw [hb] at hk; exact .inr ⟨rfl, Nat.le_of_ble_eq_true hb, hk⟩
theorem conF2_spl (F : List AV → H → Option (Bool × Bool × (AV × H) × (AV × H))) (args : List AV) (h : H) (ds : List Bool) : Spl h (fun K => conF2 F args h ds K) := by
  intro K hk
  obtain ⟨b, r1, r2, hF, ⟨rfl, h1, h2⟩ | ⟨rfl, h1, h2⟩⟩ := conF2_get hk
  · refine ⟨_, _, _, h2, h1, fun K' hk' => ?_⟩
    unfold conF2; rw [hF]; dsimp only; rw [Nat.ble_eq_true_of_le h1]; exact hk'
  · refine ⟨_, _, _, h2, h1, fun K' hk' => ?_⟩
    unfold conF2; rw [hF]; dsimp only; rw [Nat.ble_eq_true_of_le h1]; exact hk'
theorem conF2_ok {P : Program} {gl : Glob} {f : Nat} {F : List AV → H → Option (Bool × Bool × (AV × H) × (AV × H))}
    (h1 : ∀ args h r1 r2 ds (K : KV), F args h = some (true, true, r1, r2) → K r1.1 r1.2 ds → CallOK P gl f args h K)
    (h2 : ∀ args h r1 r2 ds (K : KV), F args h = some (true, false, r1, r2) → K r2.1 r2.2 ds → CallOK P gl f args h K)
    (args : List AV) (h : H) (ds : List Bool) (K : KV) (hk : conF2 F args h ds K) : CallOK P gl f args h K := by
  obtain ⟨b, r1, r2, hF, ⟨rfl, _, hk⟩ | ⟨rfl, _, hk⟩⟩ := conF2_get hk
  · exact h1 args h r1 r2 ds K hF hk
  · exact h2 args h r1 r2 ds K hF hk
def lcF (F : Env → H → Option (XE × Env × H)) : LCon := fun env h ds K => match F env h with
  | some p => Bool.rec False (K p.1 p.2.1 p.2.2 ds) (Nat.ble h.next p.2.2.next)
  | none => False
theorem lcF_spl (F : Env → H → Option (XE × Env × H)) : SplL1 (lcF F) := by
  intro env h ds K hk
  unfold lcF at hk ⊢
  cases hF : F env h with
  | none => rw [hF] at hk; exact hk.elim
  | some p =>
    rw [hF] at hk
    dsimp only at hk ⊢
    cases hb : Nat.ble h.next p.2.2.next with
    | false => rw [hb] at hk; exact hk.elim
    | true => rw [hb] at hk; exact ⟨_, _, _, _, hk, Nat.le_of_ble_eq_true hb, fun _ h => h⟩
theorem lcF_get {F : Env → H → Option (XE × Env × H)} {env : Env} {h : H} {ds : List Bool} {K : KE} (hk : lcF F env h ds K) : ∃ p, F env h = some p ∧ K p.1 p.2.1 p.2.2 ds := by
  unfold lcF at hk
  cases hF : F env h with
  | none => rw [hF] at hk; exact hk.elim
  | some p =>
    rw [hF] at hk
    dsimp only at hk
    cases hb : Nat.ble h.next p.2.2.next with
    | false => rw [hb] at hk; exact hk.elim
    | true => rw [hb] at hk; exact ⟨p, rfl, hk⟩

/-- nothing is known yet -/
def cfgN (mode : Bool) (mask : Nat → Nat) (gl : Glob) : Cfg := ⟨mode, mask, fun _ => none, fun _ _ => none, gl⟩
def Cfg.addCon (C : Cfg) (f : Nat) (c : Con) : Cfg := ⟨C.mode, C.mask, fun g => Bool.rec (C.con g) (some c) (Nat.beq g f), C.lc, C.gl⟩
def Cfg.addLc (C : Cfg) (f k : Nat) (l : LCon) : Cfg := ⟨C.mode, C.mask, C.con, fun g j => Bool.rec (C.lc g j) (some l) (Bool.and (Nat.beq g f) (Nat.beq j k)), C.gl⟩
/-- the contracts so far are true, wherever the globals are -/
structure Good (C : Cfg) (P : Program) : Prop where
  ok : ConOK C P
  spl : SplCon C
theorem goodN (mode : Bool) (mask : Nat → Nat) (gl : Glob) (P : Program) : Good (cfgN mode mask gl) P :=
  ⟨⟨fun f c h => (by cases h), fun f k l h => (by cases h)⟩, ⟨fun f c h => (by cases h), fun f k l h => (by cases h)⟩⟩
theorem Good.addCon {C : Cfg} {P : Program} (G : Good C P) (f : Nat) (c : Con) (hs : ∀ args h ds, Spl h (fun K => c args h ds K)) (hc : ∀ args h ds K, c args h ds K → CallOK P C.gl f args h K) : Good (C.addCon f c) P := by
  have key : ∀ {g c'}, (C.addCon f c).con g = some c' → (g = f ∧ c' = c) ∨ C.con g = some c' := by
    intro g c' h
    have h : (Bool.rec (C.con g) (some c) (Nat.beq g f) : Option Con) = some c' := h
    cases hb : Nat.beq g f with
    | false => rw [hb] at h; exact .inr h
    | true => rw [hb] at h; cases h; exact .inl ⟨natBeq_iff.1 hb, rfl⟩
  refine ⟨⟨fun g c' h => ?_, fun g k l h c0 mask n sb => ?_⟩, ⟨fun g c' h => ?_, G.spl.lc⟩⟩
  · rcases key h with ⟨rfl, rfl⟩ | h
    · exact hc
    · exact G.ok.con g c' h
  · exact G.ok.lc g k l h c0 mask n sb
  · rcases key h with ⟨rfl, rfl⟩ | h
    · exact hs
    · exact G.spl.con g c' h

/-! Loops -/
/-- the bodies of a code's loops -/
def loopsIn : Code → List Code
  | .seq a b => loopsIn a ++ loopsIn b
  | .cond _ a b => loopsIn a ++ loopsIn b
  | .block _ a => loopsIn a
  | .loop a => a :: loopsIn a
  | .skip => []
  | .region _ _ _ => []
  | .rangeFunc _ _ _ _ => []
  | .exit _ => []
  | .scope a => loopsIn a
  | .label _ => []
  | .goto _ => []
  | .ret => []
  | .refuse _ => []
theorem loopsIn_sub {b x : Code} (h : Inc b x) : ∀ c, c ∈ loopsIn x → c ∈ loopsIn b := by
  induction h with
  | here => exact fun _ h => h
  | seql _ ih => exact fun c h => ih c (List.mem_append_left _ h)
  | seqr _ ih => exact fun c h => ih c (List.mem_append_right _ h)
  | condl _ ih => exact fun c h => ih c (List.mem_append_left _ h)
  | condr _ ih => exact fun c h => ih c (List.mem_append_right _ h)
  | block _ ih => exact fun c h => ih c h
  | loop _ ih => exact fun c h => ih c (List.mem_cons_of_mem _ h)
  | scope _ ih => exact fun c h => ih c h
def bodyOf (P : Program) (f : Nat) : Code := match P.funcs[f]? with
  | some fn => match fn.body with
    | some b => b
    | none => .skip
  | none => .skip
def tmpsN (P : Program) (f : Nat) : Nat := match P.funcs[f]? with
  | some fn => fn.ntmps
  | none => 0
def loopAt (P : Program) (f k : Nat) : List Code := (loopsIn (bodyOf P f)).filter fun c => Nat.beq (fid c) k
def loopC (P : Program) (f k : Nat) : Code := match loopAt P f k with
  | c :: _ => c
  | [] => .skip
theorem sub_loop {C : Cfg} {P : Program} {f k : Nat} (h1 : llen (loopAt P f k) = 1) {c : Code} {mask n : Nat} (sb : Sub C P f (.loop c) mask n) (hk : fid c = k) : c = loopC P f k ∧ mask = C.mask f ∧ n = tmpsN P f := by
  obtain ⟨fn, b, e1, e2, e3, e4, e5⟩ := sb
  have hb : bodyOf P f = b := by unfold bodyOf; rw [e1]; simp only [e2]
  have hm : c ∈ loopAt P f k := by
    unfold loopAt
    rw [hb]
    exact List.mem_filter.2 ⟨loopsIn_sub e5 c (List.mem_cons_self ..), by rw [natBeq_iff]; exact hk⟩
  refine ⟨?_, e3, by unfold tmpsN; rw [e1]; exact e4⟩
  rw [llen_eq] at h1
  unfold loopC
  cases hl : loopAt P f k with
  | nil => rw [hl] at hm; cases hm
  | cons x xs =>
    rw [hl] at hm h1
    cases xs with
    | nil => simpa using hm
    | cons y ys => simp at h1
theorem Good.addLc {C : Cfg} {P : Program} (G : Good C P) (f k : Nat) (l : LCon) (hs : SplL1 l) (h1 : llen (loopAt P f k) = 1)
    (hl : Sub C P f (.loop (loopC P f k)) (C.mask f) (tmpsN P f) → LoopOK P C.gl (loopC P f k) (C.mask f) (tmpsN P f) l) : Good (C.addLc f k l) P := by
  have key : ∀ {g j l'}, (C.addLc f k l).lc g j = some l' → (g = f ∧ j = k ∧ l' = l) ∨ C.lc g j = some l' := by
    intro g j l' h
    have h : (Bool.rec (C.lc g j) (some l) (Bool.and (Nat.beq g f) (Nat.beq j k)) : Option LCon) = some l' := h
    cases hb : Bool.and (Nat.beq g f) (Nat.beq j k) with
    | false => rw [hb] at h; exact .inr h
    | true =>
      rw [hb] at h; cases h
      obtain ⟨a, b⟩ := and_tt hb
      exact .inl ⟨natBeq_iff.1 a, natBeq_iff.1 b, rfl⟩
  refine ⟨⟨fun g c h => G.ok.con g c h, fun g j l' h c0 mask n sb hf => ?_⟩, ⟨fun g c h => G.spl.con g c h, fun g j l' h => ?_⟩⟩
  · rcases key h with ⟨rfl, rfl, rfl⟩ | h
    · have sb : Sub C P g (.loop c0) mask n := sb
      obtain ⟨e1, e2, e3⟩ := sub_loop h1 sb hf
      rw [e1, e2, e3] at sb ⊢
      exact hl sb
    · exact G.ok.lc g j l' h c0 mask n sb hf
  · rcases key h with ⟨_, _, rfl⟩ | h
    · exact hs
    · exact G.spl.lc g j l' h

/-! All of a trie -/
def tall {α : Type} (t : T α) (p : Nat → α → Prop) : Prop :=
  T.rec (motive := fun _ => (Nat → Nat) → Prop) (fun _ => True) (fun _ v _ ihl ihr g => Option.rec (ihl (fun i => g (Nat.mul 2 i)) ∧ ihr (fun i => g (Nat.succ (Nat.mul 2 i)))) (fun x => p (g 0) x ∧ (ihl (fun i => g (Nat.mul 2 i)) ∧ ihr (fun i => g (Nat.succ (Nat.mul 2 i))))) v) t id
theorem tall_get {α : Type} {p : Nat → α → Prop} : ∀ {t : T α}, tall t p → ∀ i x, t.get i = some x → p i x := by
  have key : ∀ (t : T α) (g : Nat → Nat), T.rec (motive := fun _ => (Nat → Nat) → Prop) (fun _ => True) (fun _ v _ ihl ihr g => Option.rec (ihl (fun i => g (Nat.mul 2 i)) ∧ ihr (fun i => g (Nat.succ (Nat.mul 2 i)))) (fun x => p (g 0) x ∧ (ihl (fun i => g (Nat.mul 2 i)) ∧ ihr (fun i => g (Nat.succ (Nat.mul 2 i))))) v) t g →
      ∀ i x, t.get i = some x → p (g i) x := by
    intro t
    induction t with
    | leaf => intro g _ i x h; cases h
    | node l v r ihl ihr =>
      intro g h i x hx
      have h' : (v.elim True fun x => p (g 0) x) ∧ (T.rec (motive := fun _ => (Nat → Nat) → Prop) (fun _ => True) (fun _ v _ ihl ihr g => Option.rec (ihl (fun i => g (Nat.mul 2 i)) ∧ ihr (fun i => g (Nat.succ (Nat.mul 2 i)))) (fun x => p (g 0) x ∧ (ihl (fun i => g (Nat.mul 2 i)) ∧ ihr (fun i => g (Nat.succ (Nat.mul 2 i))))) v) l (fun i => g (Nat.mul 2 i))) ∧
          (T.rec (motive := fun _ => (Nat → Nat) → Prop) (fun _ => True) (fun _ v _ ihl ihr g => Option.rec (ihl (fun i => g (Nat.mul 2 i)) ∧ ihr (fun i => g (Nat.succ (Nat.mul 2 i)))) (fun x => p (g 0) x ∧ (ihl (fun i => g (Nat.mul 2 i)) ∧ ihr (fun i => g (Nat.succ (Nat.mul 2 i))))) v) r (fun i => g (Nat.succ (Nat.mul 2 i)))) := by
        cases v with
        | none => exact ⟨trivial, h⟩
        | some y => exact h
      obtain ⟨h1, h2, h3⟩ := h'
      rw [T.get_node] at hx
      by_cases h0 : i = 0
      · rw [if_pos h0] at hx; subst hx; subst h0; exact h1
      · rw [if_neg h0] at hx
        by_cases h4 : i % 2 = 0
        · rw [if_pos h4] at hx
          have := ihl _ h2 _ _ hx
          have e : Nat.mul 2 (i / 2) = i := by show 2 * (i / 2) = i; omega
          rwa [e] at this
        · rw [if_neg h4] at hx
          have := ihr _ h3 _ _ hx
          have e : Nat.succ (Nat.mul 2 (i / 2)) = i := by show 2 * (i / 2) + 1 = i; omega
          rwa [e] at this
  intro t h i x hx
  exact key t id h i x hx
/-- a name of a list of names -/
def nm (l : List Nat) (i : Nat) : Nat := match lget l i with
  | some j => j
  | none => 0
/-- are all names of a list from n0 on, and no two one? -/
def allGe (n0 : Nat) (l : List Nat) : Bool := List.rec true (fun a _ ih => Bool.and (Nat.ble n0 a) ih) l
def noMem (a : Nat) (l : List Nat) : Bool := List.rec true (fun b _ ih => Bool.and (Bool.not (Nat.beq a b)) ih) l
def nodupQ (l : List Nat) : Bool := List.rec true (fun a l ih => Bool.and (noMem a l) ih) l
theorem allGe_get {n0 : Nat} : ∀ {l : List Nat}, allGe n0 l = true → ∀ a ∈ l, n0 ≤ a
  | [], _, a, h => by cases h
  | b :: l, hb, a, h => by
    obtain ⟨h1, h2⟩ := and_tt (by exact hb : Bool.and (Nat.ble n0 b) (allGe n0 l) = true)
    rcases List.mem_cons.1 h with rfl | h
    · exact Nat.le_of_ble_eq_true h1
    · exact allGe_get h2 a h
theorem noMem_iff {a : Nat} : ∀ {l : List Nat}, noMem a l = true → a ∉ l
  | [], _, h => by cases h
  | b :: l, hb, h => by
    obtain ⟨h1, h2⟩ := and_tt (by exact hb : Bool.and (Bool.not (Nat.beq a b)) (noMem a l) = true)
    rcases List.mem_cons.1 h with rfl | h
    · rw [Nat.beq_refl] at h1; cases h1
    · exact noMem_iff h2 h
theorem nodupQ_nodup : ∀ {l : List Nat}, nodupQ l = true → l.Nodup
  | [], _ => List.nodup_nil
  | b :: l, hb => by
    obtain ⟨h1, h2⟩ := and_tt (by exact hb : Bool.and (noMem b l) (nodupQ l) = true)
    exact List.nodup_cons.2 ⟨noMem_iff h1, nodupQ_nodup h2⟩
/-- the old names, then those of a list -/
def sg (n0 : Nat) (l : List Nat) (i : Nat) : Nat := Bool.rec (nm l (Nat.sub i n0)) i (Nat.ble (Nat.succ i) n0)
theorem sg_old {n0 : Nat} {l : List Nat} {i : Nat} (h : i < n0) : sg n0 l i = i := by
  unfold sg
  have : Nat.ble (Nat.succ i) n0 = true := Nat.ble_eq_true_of_le h
  rw [this]
theorem sg_new {n0 : Nat} {l : List Nat} {i : Nat} (h : n0 ≤ i) : sg n0 l i = nm l (i - n0) := by
  unfold sg
  have : Nat.ble (Nat.succ i) n0 = false := by
    cases hb : Nat.ble (Nat.succ i) n0 with
    | false => rfl
    | true => have : i + 1 ≤ n0 := Nat.le_of_ble_eq_true hb; omega
  rw [this]; rfl
theorem nm_get {l : List Nat} {i : Nat} (h : i < l.length) : nm l i = l[i] := by
  unfold nm
  rw [lget_eq, List.getElem?_eq_getElem h]
/-- may a row share its block with these alone? -/
def psOK (N : Nat) (σ : Nat → Nat) (i : Nat) (ps' ps : List Nat) : Bool :=
  List.rec true (fun q _ ih => Bool.and (Nat.rec true (fun j ih2 => Bool.and (Bool.or (Bool.not (Nat.beq (σ j) q)) (Bool.or (Nat.beq j i) (Bool.not (noMem j ps)))) ih2) N) ih) ps'
theorem noMem_of {a : Nat} : ∀ {l : List Nat}, noMem a l = false → a ∈ l
  | [], h => by cases h
  | b :: l, h => by
    have h : Bool.and (Bool.not (Nat.beq a b)) (noMem a l) = false := h
    cases h1 : Nat.beq a b with
    | true => rw [natBeq_iff.1 h1]; exact List.mem_cons_self ..
    | false => rw [h1] at h; exact List.mem_cons_of_mem _ (noMem_of h)
theorem psOK_spec {N : Nat} {σ : Nat → Nat} {i : Nat} {ps : List Nat} : ∀ {ps' : List Nat}, psOK N σ i ps' ps = true → ∀ j, j < N → j ≠ i → σ j ∈ ps' → j ∈ ps
  | [], _, j, _, _, h => by cases h
  | q :: ps', hb, j, hj, hji, h => by
    obtain ⟨h1, h2⟩ := and_tt (by exact hb : Bool.and (Nat.rec true (fun j ih2 => Bool.and (Bool.or (Bool.not (Nat.beq (σ j) q)) (Bool.or (Nat.beq j i) (Bool.not (noMem j ps)))) ih2) N) (psOK N σ i ps' ps) = true)
    rcases List.mem_cons.1 h with e | h
    · have key : ∀ (N : Nat), (Nat.rec true (fun j ih2 => Bool.and (Bool.or (Bool.not (Nat.beq (σ j) q)) (Bool.or (Nat.beq j i) (Bool.not (noMem j ps)))) ih2) N : Bool) = true → j < N → j ∈ ps := by
        intro N
        induction N with
        | zero => intro _ h; omega
        | succ N ih =>
          intro hN hj
          obtain ⟨g1, g2⟩ := and_tt hN
          by_cases e2 : j = N
          · subst e2
            rw [natBeq_iff.2 e] at g1
            have g1 : (Nat.beq j i || !(noMem j ps)) = true := g1
            rcases Bool.or_eq_true _ _ ▸ g1 with g | g
            · exact absurd (natBeq_iff.1 g) hji
            · exact noMem_of (by simpa using g)
          · exact ih g2 (by omega)
      exact key N h1 hj
    · exact psOK_spec h2 j hj hji h
def blkOK (N : Nat) (σ : Nat → Nat) (i : Nat) (k : Blk) (o : Option Blk) : Prop := match k with
  | .row cells e wr ps => ∃ ps', o = some (.row (renL σ cells) e wr ps') ∧ psOK N σ i ps' ps = true
  | k => o = some (renB σ k)
theorem abs_mk {n0 : Nat} {l : List Nat} {e2 : Env} {h2 : H} {env : Env} {h : H} (hn : h2.next = n0 + l.length) (hl : allGe n0 l = true) (hd : nodupQ l = true)
    (he : tall e2 fun t v => bel h2.next v = true ∧ T.get env t = some (ren (sg n0 l) v))
    (hb : tall h2.b fun i k => Nat.ble (Nat.succ i) h2.next = true ∧ belB h2.next k = true ∧ blkOK h2.next (sg n0 l) i k (T.get h.b (sg n0 l i))) : Abs n0 (sg n0 l) e2 h2 env h := by
  refine ⟨fun i hi => sg_old hi, fun i h0 hi => ?_, fun i j hi hj e => ?_, by omega, fun t v ht => tall_get he t v ht, fun i k hk => ?_⟩
  · rw [sg_new h0, nm_get (by omega)]; exact allGe_get hl _ (List.getElem_mem _)
  · by_cases c1 : i < n0
    · rw [sg_old c1] at e
      by_cases c2 : j < n0
      · rw [sg_old c2] at e; exact e
      · rw [sg_new (by omega), nm_get (by omega)] at e
        have := allGe_get hl _ (List.getElem_mem (l := l) (n := j - n0) (by omega)); omega
    · rw [sg_new (by omega), nm_get (by omega)] at e
      by_cases c2 : j < n0
      · rw [sg_old c2] at e
        have := allGe_get hl _ (List.getElem_mem (l := l) (n := i - n0) (by omega)); omega
      · rw [sg_new (by omega), nm_get (by omega)] at e
        have hp := List.pairwise_iff_getElem.1 (nodupQ_nodup hd)
        rcases Nat.lt_trichotomy (i - n0) (j - n0) with c | c | c
        · exact absurd e (hp _ _ (by omega) (by omega) c)
        · omega
        · exact absurd e.symm (hp _ _ (by omega) (by omega) c)
  · obtain ⟨b1, b2, b3⟩ := tall_get hb i k hk
    have b1 : i < h2.next := Nat.le_of_ble_eq_true b1
    refine ⟨b1, b2, ?_⟩
    cases k with
    | row cells e wr ps =>
      obtain ⟨ps', c1, c2⟩ := b3
      refine ⟨_, c1, ⟨ps', rfl⟩, fun j kj hji hj hm => ?_⟩
      have := (tall_get hb j kj hj).1
      exact psOK_spec c2 j (Nat.le_of_ble_eq_true this) hji hm
    | map bs ck es => exact ⟨_, b3, rfl, fun j kj _ _ hm => by cases hm⟩
    | bts n v e => exact ⟨_, b3, rfl, fun j kj _ _ hm => by cases hm⟩
    | pur f n e => exact ⟨_, b3, rfl, fun j kj _ _ hm => by cases hm⟩
    | loop st j mask n env ps asg body => cases b2
    | it y since seen last => exact ⟨_, b3, rfl, fun j kj _ _ hm => by cases hm⟩
end
end Go.X
/- Small facts about the executor's tests at natural numbers. -/
set_option autoImplicit false
namespace Go.X
noncomputable section
theorem ltN {a b : Nat} : ltI (Int.ofNat a) (Int.ofNat b) = decide (a < b) := by rw [ltI_eq]; simp
theorem eqN {a b : Nat} : eqI (Int.ofNat a) (Int.ofNat b) = decide (a = b) := by rw [eqI_eq, Bool.eq_iff_iff]; simp; exact Int.ofNat_inj
theorem inB_of {i n : Nat} (h : i < n) : inB (Int.ofNat i) n = true := by rw [inB_eq]; simpa using h
theorem inR_of {i : Int} (h0 : 0 ≤ i) (h : i ≤ 9223372036854775807) : inR .i64 i = true := by
  show sIn 9223372036854775808 i = true
  rw [sIn_eq]; simp; omega

theorem bleD (a b : Nat) : Nat.ble a b = decide (a ≤ b) := by rw [Bool.eq_iff_iff, Nat.ble_eq, decide_eq_true_iff]
theorem eqT {a b : Nat} (h : eqI (Int.ofNat a) (Int.ofNat b) = true) : a = b := by rw [eqN, decide_eq_true_iff] at h; exact h
theorem eqF {a b : Nat} (h : eqI (Int.ofNat a) (Int.ofNat b) = false) : ¬ a = b := by rw [eqN, decide_eq_false_iff_not] at h; exact h
theorem ltT {a b : Nat} (h : ltI (Int.ofNat a) (Int.ofNat b) = true) : a < b := by rw [ltN, decide_eq_true_iff] at h; exact h
theorem ltF {a b : Nat} (h : ltI (Int.ofNat a) (Int.ofNat b) = false) : ¬ a < b := by rw [ltN, decide_eq_false_iff_not] at h; exact h
theorem bleT {a b : Nat} (h : Nat.ble a b = true) : a ≤ b := Nat.le_of_ble_eq_true h
theorem bleF {a b : Nat} (h : Nat.ble a b = false) : ¬ a ≤ b := by rw [bleD, decide_eq_false_iff_not] at h; exact h
theorem notT {b : Bool} (h : Bool.not b = true) : b = false := by cases b <;> first | rfl | cases h
theorem notF {b : Bool} (h : Bool.not b = false) : b = true := by cases b <;> first | rfl | cases h
theorem inR_add {i k : Nat} (h : i + k ≤ 9223372036854775807) : inR .i64 (Int.ofNat i + Int.ofNat k) = true := inR_of (by simp only [Int.ofNat_eq_natCast]; omega) (by simp only [Int.ofNat_eq_natCast]; omega)
theorem inR_sub {i k : Nat} (h : k ≤ i) (h2 : i ≤ 9223372036854775807) : inR .i64 (Int.ofNat i - Int.ofNat k) = true := inR_of (by simp only [Int.ofNat_eq_natCast]; omega) (by simp only [Int.ofNat_eq_natCast]; omega)
theorem subN {i k : Nat} (h : k ≤ i) : Int.ofNat i - Int.ofNat k = Int.ofNat (i - k) := by simp only [Int.ofNat_eq_natCast]; omega
theorem addN {i k : Nat} : Int.ofNat i + Int.ofNat k = Int.ofNat (i + k) := rfl
theorem beqD (a b : Nat) : Nat.beq a b = decide (a = b) := by rw [Bool.eq_iff_iff, natBeq_iff, decide_eq_true_iff]
theorem bool_eq {a b : Bool} (h : a = b) : AV.bool a = AV.bool b := by rw [h]
end
end Go.X
/- A call that is given nothing of the heap and leaves some blocks: they are told under names of their own, from 0 on. -/
set_option autoImplicit false
set_option linter.unusedVariables false
namespace Go.X
noncomputable section
def shf (n i : Nat) : Nat := Nat.add n i
/-- new blocks, from name n on -/
def addFrom (b : T Blk) (n : Nat) (G : List Blk) : Nat → T Blk := List.rec (motive := fun _ => Nat → T Blk) (fun _ => b) (fun k _ ih i => T.set (ih (Nat.succ i)) (renB (shf n) k) (Nat.add n i)) G
def addAll (h : H) (G : List Blk) : H := ⟨addFrom h.b h.next G 0, Nat.add h.next (llen G)⟩
/-- of the names l a row may be one with that of its own alone -/
def psFree (l : List Nat) (s : Nat) (ps : List Nat) : Bool := List.rec true (fun p _ ih => Bool.and (Bool.or (Nat.beq p s) (noMem p l)) ih) ps
theorem psFree_get {l : List Nat} {s : Nat} : ∀ {ps : List Nat}, psFree l s ps = true → ∀ p ∈ ps, p ∈ l → p = s
  | [], _, p, hp, _ => by cases hp
  | q :: ps, h, p, hp, hl => by
    obtain ⟨h1, h2⟩ := and_tt (by exact h : Bool.and (Bool.or (Nat.beq q s) (noMem q l)) (psFree l s ps) = true)
    rcases List.mem_cons.1 hp with rfl | hp
    · cases hb : Nat.beq p s with
      | true => exact Nat.eq_of_beq_eq_true hb
      | false =>
        rw [hb] at h1
        exact absurd hl (noMem_iff h1)
    · exact psFree_get h2 p hp hl
def gotB (l : List Nat) (i : Nat) (k : Blk) (o : Option Blk) : Prop := match k with
  | .row cells e wr _ => ∃ ps', o = some (.row (renL (nm l) cells) e wr ps') ∧ psFree l (nm l i) ps' = true
  | k => o = some (renB (nm l) k)
def gotFrom (l : List Nat) (h' : H) (G : List Blk) : Nat → Prop := List.rec (motive := fun _ => Nat → Prop) (fun _ => True) (fun k _ ih i => gotB l i k (h'.b.get (nm l i)) ∧ ih (Nat.succ i)) G
def blksOK (N : Nat) (G : List Blk) : Bool := List.rec true (fun k _ ih => Bool.and (Bool.and (belB N k) (wr0 k)) ih) G
theorem addFrom_get {b : T Blk} {n : Nat} : ∀ {G : List Blk} {i j : Nat} {k : Blk}, (addFrom b n G i).get j = some k → (∃ l k1, G[l]? = some k1 ∧ j = n + (i + l) ∧ k = renB (shf n) k1) ∨ b.get j = some k
  | [], i, j, k, h => .inr h
  | x :: G, i, j, k, h => by
    have h : (T.set (addFrom b n G (Nat.succ i)) (renB (shf n) x) (Nat.add n i)).get j = some k := h
    rcases T.get_set h with ⟨rfl, rfl⟩ | ⟨_, h⟩
    · exact .inl ⟨0, x, rfl, rfl, rfl⟩
    · rcases addFrom_get h with ⟨l, k1, a, b, c⟩ | h
      · exact .inl ⟨l + 1, k1, by simpa using a, by rw [b]; omega, c⟩
      · exact .inr h
theorem gotFrom_get {l : List Nat} {h' : H} : ∀ {G : List Blk} {i : Nat}, gotFrom l h' G i → ∀ (n : Nat) (k : Blk), G[n]? = some k → gotB l (i + n) k (h'.b.get (nm l (i + n)))
  | [], i, h, n, k, hl => by simp at hl
  | x :: G, i, h, n, k, hl => by
    obtain ⟨h1, h2⟩ : gotB l i x (h'.b.get (nm l i)) ∧ gotFrom l h' G (Nat.succ i) := h
    cases n with
    | zero => simp at hl; subst hl; exact h1
    | succ n =>
      have := gotFrom_get h2 n k (by simpa using hl)
      rwa [show Nat.succ i + n = i + (n + 1) by omega] at this
theorem blksOK_get {N : Nat} : ∀ {G : List Blk}, blksOK N G = true → ∀ (l : Nat) (k : Blk), G[l]? = some k → belB N k = true ∧ wr0 k = true
  | [], h, l, k, hl => by simp at hl
  | x :: G, h, l, k, hl => by
    obtain ⟨h1, h2⟩ := and_tt (by exact h : Bool.and (Bool.and (belB N x) (wr0 x)) (blksOK N G) = true)
    cases l with
    | zero => simp at hl; subst hl; exact and_tt h1
    | succ l => exact blksOK_get h2 l k (by simpa using hl)
section
variable {P : Program}
theorem frame_make {C : Cfg} (hC : Good C P) (hgl : C.gl = fun _ => none) {fuel f : Nat} {args : List AV} {V : AV} {ds1 : List Bool} {σl : List Nat} {G : List Blk} (hb : belL 0 args = true) (hl : llen σl = llen G) (hd : nodupQ σl = true)
    (hV : bel (llen G) V = true) (hG : blksOK (llen G) G = true)
    (hk : Ran (xfun C P (xcode C P fuel) f args hNil ds1 (fun v h' _ => v = ren (nm σl) V ∧ gotFrom σl h' G 0)))
    {gl : Glob} {h : H} {ds : List Bool} {K : KV} (hK : K (ren (shf h.next) V) (addAll h G) ds) (hfk : Nat.ble (Nat.succ f) YK = true := by rfl) : CallOK P gl f args h K := by
  have e1 : renL id args = args := renL_id args
  rw [← e1]
  have none' : ∀ (i : Nat), (hNil.b.get i : Option Blk) = none := fun i => rfl
  have hup : up id 0 h.next = shf h.next := funext fun i => by show (if i < 0 then i else h.next + (i - 0)) = h.next + i; simp
  rw [llen_eq] at hV hG
  rw [llen_eq, llen_eq] at hl
  refine frameW (hfk := hfk) (fuel := fuel) (ds1 := ds1) (N := G.length) (G := fun i => G[i]?) (V := V) hC.ok hC.spl (h1 := hNil) (h2 := addAll h G) (ds := ds) ⟨?_⟩ ⟨fun i k hi => (by rw [none'] at hi; cases hi), fun i j hi => (by exact absurd hi (Nat.not_lt_zero _)), fun i hi => (by exact absurd hi (Nat.not_lt_zero _))⟩
    ⟨Nat.zero_le _, by show h.next + llen G = h.next + (G.length - 0); rw [llen_eq]; simp, fun j k hj => ?_, fun i k hi hG => (by exact absurd hi (Nat.not_lt_zero _)), fun i k hi hGi => blksOK_get hG i k hGi⟩ hb (by rw [hgl]; intro g i h; cases h) ?_
  · have := hk.out
    obtain ⟨v, h', ds', ⟨e2, e3⟩, _, back⟩ := xfun_spl hC.spl (xcode_spl hC.spl fuel) f args hNil ds1 _ this
    refine back _ ⟨nm σl, ⟨fun i hi => absurd hi (Nat.not_lt_zero _), fun i _ _ => Nat.zero_le _, fun i j hi hj e => ?_⟩, e2, hV, fun i k hi hGi => ?_⟩
    · rw [nm_get (by omega), nm_get (by omega)] at e
      have hp := List.pairwise_iff_getElem.1 (nodupQ_nodup hd)
      rcases Nat.lt_trichotomy i j with c | c | c
      · exact absurd e (hp _ _ (by omega) (by omega) c)
      · exact c
      · exact absurd e.symm (hp _ _ (by omega) (by omega) c)
    · have := gotFrom_get e3 i k hGi
      rw [Nat.zero_add] at this
      have hw0 := (blksOK_get hG i k hGi).2
      cases k with
      | row cells e wr ps =>
        obtain ⟨ps', q1, q2⟩ := this
        refine ⟨_, q1, ⟨ps', rfl⟩, fun _ j hj hji hm => ?_⟩
        have hm2 : nm σl j ∈ σl := by rw [nm_get (by omega)]; exact List.getElem_mem _
        have e := psFree_get q2 _ hm hm2
        rw [nm_get (by omega), nm_get (by omega)] at e
        have hp := List.pairwise_iff_getElem.1 (nodupQ_nodup hd)
        rcases Nat.lt_trichotomy i j with c | c | c
        · exact absurd e.symm (hp _ _ (by omega) (by omega) c)
        · exact hji c.symm
        · exact absurd e (hp _ _ (by omega) (by omega) c)
      | map bs ck es => exact ⟨_, this, SameP.refl _, fun _ j _ _ hm => by cases hm⟩
      | bts n v e => exact ⟨_, this, SameP.refl _, fun _ j _ _ hm => by cases hm⟩
      | pur g n e => exact ⟨_, this, SameP.refl _, fun _ j _ _ hm => by cases hm⟩
      | loop st j mask n env ps asg body => exact ⟨_, this, SameP.refl _, fun _ j _ _ hm => by cases hm⟩
      | it y since seen last => exact ⟨_, this, SameP.refl _, fun _ j _ _ hm => by cases hm⟩
  · rcases addFrom_get hj with ⟨l, k1, a, b, c⟩ | hj
    · refine .inl ⟨l, k1, (List.getElem?_eq_some_iff.1 a).1, ?_, a, ?_⟩
      · show j = up id 0 h.next l
        rw [hup, b]; show h.next + (0 + l) = h.next + l; omega
      · show k = renB (up id 0 h.next) k1
        rw [hup]; exact c
    · exact .inr ⟨hj, fun i k1 hi => (by rw [none'] at hi; cases hi)⟩
  · show K (ren (up id 0 h.next) V) (addAll h G) ds
    rw [hup]; exact hK
end
end
end Go.X

/- Drat: the checker's map of clauses by their texts; a clause more (plain). -/
import Derived.Test.YtagfnjpjmmleiaaDoorTJ
import Derived.StringKeys
set_option linter.unusedVariables false
set_option linter.unusedSimpArgs false
set_option autoImplicit false
set_option linter.unusedVariables false
set_option linter.unusedSimpArgs false
namespace Go.Proofs.YtagfnjpjmmleiaaDoor
open Go.Shelf Go.RowKit
open Go.Maps (Keyed)
theorem keyLaw : Keyed Tryd.prog 9 := Go.Maps.string_keyed Tryd.underlying9
theorem zero33 (w : World) : (zeroValue 33).run Tryd.prog w = .ok nilV w := by kernel_rfl
theorem asIs_inj {v : Value} {d : DataW Value} {ps : List MemPlace} (h : asIs v = some (d, ps)) : d = .held v := by
  unfold asIs at h
  cases h; rfl
theorem MapAt.look {w : World} {own : Nat → Option Tag} {mb m : Nat} {f : Lit → Value} (h : MapAt w own mb m f) {s : ByteArray} {kl : Lit} (hk : Go.keyOf Tryd.prog 9 (.string s) = some kl) : (Instr.lookup 57 (.map (some mb)) (.string s) false).run Tryd.prog w = .ok (f kl) w := by
  obtain ⟨_, D, hD, hf⟩ := h
  obtain ⟨v, ps, h1, h2⟩ := hD.lookup keyLaw Tryd.underlying57 (zero33 w) (zd := .held nilV) (zp := []) rfl hk
  have := asIs_inj h2
  rw [hf] at this
  cases this
  exact h1
theorem MapAt.store {w : World} {own : Nat → Option Tag} {mb m : Nat} {f : Lit → Value} (h : MapAt w own mb m f) (hm : m < maxLen) {s : ByteArray} {kl : Lit} (hk : Go.keyOf Tryd.prog 9 (.string s) = some kl) (v : Value) :
    ∃ w', (Instr.mapUpdate 57 (.map (some mb)) (.string s) v).run Tryd.prog w = .ok () w' ∧ MapAt w' own mb (m + 1) (upd f kl v) ∧ w.mapTurned w' mb := by
  obtain ⟨hl, D, hD, hf⟩ := h
  obtain ⟨w', h1, h2, h3⟩ := hD.store keyLaw Tryd.underlying57 hm hk (val := v) (d := .held v) (ps := []) rfl
  refine ⟨w', h1, ⟨hl, _, h2, fun k => ?_⟩, h3⟩
  by_cases e : k = kl
  · subst e
    rw [upd_same]
    exact Go.Maps.atKey_put_same hD.isMap (keyLaw.key hk) _ _
  · rw [upd_other _ _ e, Go.Maps.atKey_put_other e]
    exact hf k
theorem MapAt.drop {w : World} {own : Nat → Option Tag} {mb m : Nat} {f : Lit → Value} (h : MapAt w own mb m f) {s : ByteArray} {kl : Lit} (hk : Go.keyOf Tryd.prog 9 (.string s) = some kl) (ty : TypeId) :
    ∃ w', (Builtin.delete_ #[57, 9] ty #[.map (some mb), .string s]).run Tryd.prog w = .ok (.tuple #[]) w' ∧ MapAt w' own mb m (upd f kl nilV) ∧ w.mapTurned w' mb := by
  obtain ⟨hl, D, hD, hf⟩ := h
  obtain ⟨w', h1, h2, h3⟩ := hD.drop keyLaw Tryd.underlying57 hk ty
  refine ⟨w', h1, ⟨hl, _, h2, fun k => ?_⟩, h3⟩
  by_cases e : k = kl
  · subst e
    rw [upd_same]
    exact Go.Maps.atKey_del_same _
  · rw [upd_other _ _ e, Go.Maps.atKey_del_other e]
    exact hf k
theorem turned_kept {w w' : World} {own : Nat → Option Tag} {mb : Nat} (h : w.mapTurned w' mb) (hl : own mb = some .map) (hd : ∀ g t, own g = some t → g < w.heap.size) : Kept own (· ≠ .map) w w' ∧ w'.heap.size = w.heap.size := by
  refine ⟨fun g t e ht => h.grown.block g (hd g t e) fun e2 => ?_, ?_⟩
  · cases e2
    rw [hl] at e; exact ht (Option.some.inj e).symm
  · obtain ⟨es, clock, es', clock', hb, rfl⟩ := h
    simp [Go.ChangeMaps.setBlock]
theorem Rep.keyPut {cx : Cx} {w w1 w2 : World} {own own1 : Nat → Option Tag} {rv : Tag → Value} {S : St} (h : Rep cx w own rv S) {kl : Lit} {v : Value} {zs : List Nat} {m' : Nat} (he : Ext own own1) (hd : ∀ k t, own1 k = some t → cx.lo ≤ k ∧ k < w1.heap.size) (hk : Kept own (· ≠ .kr kl) w w1) (hrow : RowAt cx.lo w1 own1 (.kr kl) v zs.length (natC zs))
    (hm : MapAt w2 own1 cx.mb m' (upd (fun k => rv (.kr k)) kl v)) (ht : w1.mapTurned w2 cx.mb) : Rep cx w2 own1 (upd rv (.kr kl) v) { S with K := upd S.K kl zs, m := m' } := by
  obtain ⟨hK, hsz⟩ := turned_kept ht hm.lab fun g t e => (hd g t e).2
  refine h.master (fun t => t ≠ .kr kl ∧ t ≠ .map) he (fun k t e => by rw [hsz]; exact hd k t e) (fun k t e ht => (hK k t (he k t e) ht.2).trans (hk k t e ht.1)) (.inl ⟨⟨(by intro e; cases e), (by intro e; cases e)⟩, fun j hj => ?_⟩) (.inl ⟨⟨(by intro e; cases e), (by intro e; cases e)⟩, fun m _ => upd_other _ _ (by intro e; cases e)⟩) (.inl ⟨⟨(by intro e; cases e), (by intro e; cases e)⟩, fun m _ => upd_other _ _ (by intro e; cases e)⟩) (.inl ⟨⟨(by intro e; cases e), (by intro e; cases e)⟩, rfl⟩) (fun t ht => ?_) (.inr (hm.congr fun k => ?_))
  · match j, hj with
    | 0, _ => rfl
    | 1, _ => exact upd_other _ _ (by intro e; cases e)
    | 2, _ => rfl
    | 3, _ => rfl
    | 4, _ => exact upd_other _ _ (by intro e; cases e)
    | 5, _ => rfl
    | 6, _ => rfl
    | 7, _ => rfl
    | 8, _ => exact upd_other _ _ (by intro e; cases e)
  · by_cases e : t = .kr kl
    · subst e
      rw [upd_same]
      have e1 : elen { S with K := upd S.K kl zs, m := m' } (.kr kl) = zs.length := by show (upd S.K kl _ kl).length = _; rw [upd_same]
      have e2 : cont (upd rv (.kr kl) v) { S with K := upd S.K kl zs, m := m' } (.kr kl) = natC zs := by show natC (upd S.K kl _ kl) = _; rw [upd_same]
      rw [e1, e2]
      exact .inr (hrow.keep (Ext.refl _) fun k hk => hK k _ hk (by intro e; cases e))
    · exact .inl ⟨⟨e, fun e => by subst e; cases ht⟩, upd_other _ _ e, elen_of (.kr kl) e (fun _ => rfl) (fun _ _ => rfl) (fun _ _ => rfl) (fun _ _ => rfl) (fun k hk => upd_other _ _ fun e => hk (by rw [e])) (fun _ => rfl) (fun _ => rfl), cont_of (.kr kl) e (fun _ => ⟨rfl, rfl, fun i _ => upd_other _ _ (by intro e; cases e)⟩) (fun _ _ => rfl) (fun _ _ => rfl) (fun _ _ => rfl) (fun k hk => upd_other _ _ fun e => hk (by rw [e])) (fun _ => rfl) (fun _ => rfl)⟩
  · by_cases e : k = kl
    · subst e; exact (upd_same rv (.kr k) v).trans (upd_same (fun k => rv (.kr k)) k v).symm
    · exact (upd_other rv v (show Tag.kr k ≠ .kr kl by intro e2; cases e2; exact e rfl)).trans (upd_other (fun k => rv (.kr k)) v e).symm
/-- the map's slices, where they lie -/
theorem Rep.keyRow {cx : Cx} {w : World} {own : Nat → Option Tag} {rv : Tag → Value} {S : St} (h : Rep cx w own rv S) (kl : Lit) : w.ownsRow cx.lo 3 1 (rv (.kr kl)) (S.K kl).length (natC (S.K kl)) ∧ ∀ g, (rv (.kr kl)).ownBlock = some g → own g = some (.kr kl) := ⟨(h.rows (.kr kl) rfl).row, (h.rows (.kr kl) rfl).lab⟩
theorem Frm.turned {a b : Nat → Option Tag} {u v v' : World} {mb : Nat} (h : Frm a b u v) (ht : v.mapTurned v' mb) (hl : b mb = some .map) : Frm a b u v' := by
  obtain ⟨es, clock, es', clock', hb, rfl⟩ := ht
  refine ⟨h.os, h.tape, h.output, by simp [Go.ChangeMaps.setBlock]; exact h.size, h.lab, fun i hi e => ?_⟩
  rw [Go.ChangeMaps.heap_setBlock_other hb _ (fun e2 => by rw [e2] at hi e; rw [h.lab _ hi, e] at hl; cases hl)]
  exact h.keep i hi e
/-! ### a clause more -/
noncomputable def hasF (i : Nat) (h : Nat → List Nat) (zs : List Int) : Nat → List Nat := zs.foldl (fun h n => upd h (codeZ n) (h (codeZ n) ++ [i])) h
theorem hasF_snoc (i : Nat) (h : Nat → List Nat) (zs : List Int) (n : Int) : hasF i h (zs ++ [n]) = upd (hasF i h zs) (codeZ n) (hasF i h zs (codeZ n) ++ [i]) := by simp [hasF]
noncomputable def add1 (S : St) (zs : List Int) : St := { S with n := S.n + 1, gone := upd S.gone S.n false, lits := upd S.lits S.n zs, has := hasF S.n S.has zs, K := upd S.K (keyL zs) (S.K (keyL zs) ++ [S.n]), m := S.m + 1 }
noncomputable def addS (S : St) (zs : List Int) : St := match zs with
  | [] => { (add1 S []) with empty := S.empty + 1 }
  | [a] => { (add1 S [a]) with units := S.units ++ [S.n] }
  | a :: b :: r => { (add1 S (a :: b :: r)) with watch := upd (upd S.watch (codeZ a) (S.watch (codeZ a) ++ [S.n])) (codeZ b) (upd S.watch (codeZ a) (S.watch (codeZ a) ++ [S.n]) (codeZ b) ++ [S.n]) }
theorem addS_has (S : St) (zs : List Int) : (addS S zs).has = hasF S.n S.has zs := by
  match zs with
  | [] => rfl
  | [a] => rfl
  | a :: b :: r => rfl
theorem hasF_mem (i : Nat) (h : Nat → List Nat) (zs : List Int) (c j : Nat) : j ∈ hasF i h zs c ↔ j ∈ h c ∨ (j = i ∧ ∃ l ∈ zs, codeZ l = c) := by
  unfold hasF
  induction zs generalizing h with
  | nil => simp
  | cons a zs ih =>
    rw [List.foldl_cons, ih]
    by_cases e : c = codeZ a
    · subst e
      rw [upd_same, List.mem_append, List.mem_singleton]
      constructor
      · rintro ((h1 | h1) | ⟨h1, l, h2, h3⟩)
        · exact .inl h1
        · exact .inr ⟨h1, a, by simp, rfl⟩
        · exact .inr ⟨h1, l, by simp [h2], h3⟩
      · rintro (h1 | ⟨h1, _⟩)
        · exact .inl (.inl h1)
        · exact .inl (.inr h1)
    · rw [upd_other _ _ e]
      constructor
      · rintro (h1 | ⟨h1, l, h2, h3⟩)
        · exact .inl h1
        · exact .inr ⟨h1, l, by simp [h2], h3⟩
      · rintro (h1 | ⟨h1, l, h2, h3⟩)
        · exact .inl h1
        · rcases List.mem_cons.1 h2 with rfl | h2
          · exact absurd h3.symm e
          · exact .inr ⟨h1, l, h2, h3⟩
theorem hasF_nodup (i : Nat) (zs : List Int) : ∀ (h : Nat → List Nat), (∀ l ∈ zs, l ≠ 0) → zs.Nodup → (∀ c, (h c).Nodup) → (∀ c, i ∉ h c ∨ ∀ l ∈ zs, codeZ l ≠ c) → ∀ c, (hasF i h zs c).Nodup := by
  unfold hasF
  induction zs with
  | nil => intro h _ _ hn _ c; exact hn c
  | cons a zs ih =>
    intro h h0 hnd hn hi c
    obtain ⟨n1, n2⟩ := List.nodup_cons.1 hnd
    rw [List.foldl_cons]
    refine ih _ (fun l hl => h0 l (List.mem_cons_of_mem _ hl)) n2 (fun d => ?_) (fun d => ?_) c
    · by_cases e : d = codeZ a
      · subst e
        rw [upd_same]
        rcases hi (codeZ a) with h1 | h1
        · exact List.nodup_append.2 ⟨hn _, by simp, fun p hp q hq e => h1 (by rw [List.mem_singleton] at hq; rw [← hq, ← e]; exact hp)⟩
        · exact absurd rfl (h1 a (by simp))
      · rw [upd_other _ _ e]; exact hn d
    · by_cases e : d = codeZ a
      · right
        intro l hl e2
        have := codeZ_inj (h0 l (List.mem_cons_of_mem _ hl)) (h0 a (by simp)) (e2.trans e)
        exact n1 (this ▸ hl)
      · rw [upd_other _ _ e]
        rcases hi d with h1 | h1
        · exact .inl h1
        · exact .inr fun l hl => h1 l (List.mem_cons_of_mem _ hl)
/-- rising lists of the same members are one -/
theorem rise_ext : ∀ {a b : List Int}, Rise a → Rise b → SameM a b → a = b
  | [], [], _, _, _ => rfl
  | [], y :: b, _, _, h => absurd ((h y).2 (by simp)) (by simp)
  | x :: a, [], _, _, h => absurd ((h x).1 (by simp)) (by simp)
  | x :: a, y :: b, ha, hb, h => by
    obtain ⟨a1, a2⟩ := List.pairwise_cons.1 ha
    obtain ⟨b1, b2⟩ := List.pairwise_cons.1 hb
    have hxy : x = y := by
      rcases List.mem_cons.1 ((h x).1 (by simp)) with e | e
      · exact e
      · rcases List.mem_cons.1 ((h y).2 (by simp)) with e2 | e2
        · exact e2.symm
        · have := b1 x e; have := a1 y e2; omega
    subst hxy
    refine congrArg _ (rise_ext a2 b2 fun z => ?_)
    constructor
    · intro hz
      rcases List.mem_cons.1 ((h z).1 (List.mem_cons_of_mem _ hz)) with e | e
      · have := a1 z hz; omega
      · exact e
    · intro hz
      rcases List.mem_cons.1 ((h z).2 (List.mem_cons_of_mem _ hz)) with e | e
      · have := b1 z hz; omega
      · exact e
end Go.Proofs.YtagfnjpjmmleiaaDoor

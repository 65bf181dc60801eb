/- Sat: memory in labelled blocks. What lies in it is told by one plain function (each label's cells); each step of a program turns that function at one label. -/
import Derived.WalkKit
import Derived.Below
import Derived.Maps.OwnSet
import Derived.Deep.AppendLies
import Derived.RowKit3
import Derived.Deep.Draws
import Derived.Laws.OwnMore
import Derived.OneCell
set_option linter.unusedVariables false
set_option linter.unusedSimpArgs false
set_option autoImplicit false
set_option linter.unusedVariables false
set_option linter.unusedSimpArgs false
namespace Go.Proofs.Ytkpppmldbhgcgaa
open Go Go.RowKit
section
variable {τ : Type}
open Classical in
/-- a function, turned at one place -/
noncomputable def upd {α β : Type} (f : α → β) (a : α) (b : β) : α → β := fun x => if x = a then b else f x
theorem upd_same {α β : Type} (f : α → β) (a : α) (b : β) : upd f a b a = b := if_pos rfl
theorem upd_other {α β : Type} (f : α → β) {a x : α} (b : β) (h : x ≠ a) : upd f a b x = f x := if_neg h
/-- a cell: a value, or where another label's block lies -/
inductive AC (τ : Type) where
  | val (v : Value)
  | ref (t : τ)
structure Ob (τ : Type) where
  n : Nat
  cs : List (AC τ)
/-- which labels are rows, and of what -/
structure Kd (τ : Type) where
  ety : τ → TypeId
  esz : τ → Nat
  row : τ → Bool
def conc (rv : τ → Value) : AC τ → Value
  | .val v => v
  | .ref t => rv t
def concs (rv : τ → Value) (l : List (AC τ)) : List Value := l.map (conc rv)
theorem concs_get {rv : τ → Value} {l : List (AC τ)} {m : Nat} {u : AC τ} (h : l[m]? = some u) : (concs rv l)[m]? = some (conc rv u) := by
  unfold concs
  rw [List.getElem?_map, h]
  rfl
theorem concs_upd {rv : τ → Value} {T : τ} {v : Value} {l : List (AC τ)} (h : ∀ k : Nat, l[k]? ≠ some (AC.ref T)) : concs (upd rv T v) l = concs rv l := by
  unfold concs
  apply List.map_congr_left
  intro a ha
  obtain ⟨k, hk, e⟩ := List.getElem_of_mem ha
  cases a with
  | val x => rfl
  | ref t =>
    refine upd_other _ _ fun e2 => h k ?_
    rw [List.getElem?_eq_getElem hk, e, e2]
theorem concs_head {rv : τ → Value} {T : τ} {v : Value} {l : List (AC τ)} {m : Nat} (hm : l[m]? = some (AC.ref T)) (hu : ∀ k : Nat, l[k]? = some (AC.ref T) → k = m) : concs (upd rv T v) l = (concs rv l).set m v := by
  apply List.ext_getElem?
  intro k
  rw [List.getElem?_set]
  unfold concs
  simp only [List.getElem?_map, List.length_map]
  by_cases e : m = k
  · subst e
    rw [if_pos rfl, if_pos (List.getElem?_eq_some_iff.1 hm).1, hm]
    show some (upd rv T v T) = _
    rw [upd_same]
  · rw [if_neg e]
    cases hk : l[k]? with
    | none => rfl
    | some a =>
      cases a with
      | val x => rfl
      | ref t =>
        show some (upd rv T v t) = some (rv t)
        rw [upd_other _ _ fun e2 => e (hu k (by rw [hk, e2])).symm]
def blkOf : Value → Option Nat
  | .slice (some a) _ _ => some a.block
  | .pointer (some a) => some a.block
  | _ => none
theorem blkOf_own {v : Value} {g : Nat} (h : v.ownBlock = some g) : blkOf v = some g := by
  cases v with
  | slice a n c => cases a with
    | none => cases h
    | some a => exact h
  | _ => cases h
structure RowAt (lo : Nat) (w : World) (own : Nat → Option τ) (t : τ) (v : Value) (e : TypeId) (sz n : Nat) (xs : List Value) : Prop where
  row : w.ownsRow lo e sz v n xs
  lab : ∀ g, v.ownBlock = some g → own g = some t
structure TabAt (w : World) (own : Nat → Option τ) (t : τ) (v : Value) (xs : List Value) : Prop where
  blk : ∃ b, v = .pointer (some ⟨b, 0, none⟩) ∧ own b = some t ∧ ∀ m u, xs[m]? = some u → w.cell? ⟨b, m, none⟩ = some u ∧ w.frozen? ⟨b, m, none⟩ = false
/-- one label's object -/
def Part (K : Kd τ) (lo : Nat) (w : World) (own : Nat → Option τ) (t : τ) (v : Value) (n : Nat) (xs : List Value) : Prop :=
  (K.row t = true → RowAt lo w own t v (K.ety t) (K.esz t) n xs) ∧ (K.row t = false → xs ≠ [] → TabAt w own t v xs)
/-- MEMORY, AS IT STANDS IN A WORLD -/
structure Rep (K : Kd τ) (lo : Nat) (w : World) (own : Nat → Option τ) (rv : τ → Value) (M : τ → Ob τ) : Prop where
  dom : ∀ g t, own g = some t → lo ≤ g ∧ g < w.heap.size
  part : ∀ t, Part K lo w own t (rv t) (M t).n (concs rv (M t).cs)
def Ext (own own' : Nat → Option τ) : Prop := ∀ g t, own g = some t → own' g = some t
theorem Ext.refl (own : Nat → Option τ) : Ext own own := fun _ _ h => h
theorem Ext.trans {a b c : Nat → Option τ} (h : Ext a b) (k : Ext b c) : Ext a c := fun g t e => k g t (h g t e)
/-- blocks of such labels have not turned -/
def Kept (own : Nat → Option τ) (P : τ → Prop) (w w' : World) : Prop := ∀ g t, own g = some t → P t → w'.heap[g]? = w.heap[g]?
theorem RowAt.keep {lo : Nat} {w w' : World} {own own' : Nat → Option τ} {t : τ} {v : Value} {e : TypeId} {sz n : Nat} {xs : List Value} (h : RowAt lo w own t v e sz n xs) (he : Ext own own') (ha : ∀ g, own g = some t → w'.heap[g]? = w.heap[g]?) : RowAt lo w' own' t v e sz n xs := by
  obtain ⟨⟨h1, h2⟩, hl⟩ := h
  refine ⟨⟨h1, h2.imp (fun x => x) ?_⟩, fun g hg => he g t (hl g hg)⟩
  rintro ⟨g, cap, cur, rfl, hb, hg, r⟩
  exact ⟨g, cap, cur, rfl, hb, (ha g (hl g rfl)).trans hg, r⟩
theorem TabAt.keep {w w' : World} {own own' : Nat → Option τ} {t : τ} {v : Value} {xs : List Value} (h : TabAt w own t v xs) (he : Ext own own') (ha : ∀ g, own g = some t → w'.heap[g]? = w.heap[g]?) : TabAt w' own' t v xs := by
  obtain ⟨b, e, hl, hc⟩ := h.blk
  exact ⟨b, e, he b t hl, fun m u hu => ⟨(World.cell?_of_block (a := ⟨b, m, none⟩) (ha b hl)).trans (hc m u hu).1, (World.frozen?_of_block (a := ⟨b, m, none⟩) (ha b hl)).trans (hc m u hu).2⟩⟩
theorem Part.keep {K : Kd τ} {lo : Nat} {w w' : World} {own own' : Nat → Option τ} {t : τ} {v : Value} {n : Nat} {xs : List Value} (h : Part K lo w own t v n xs) (he : Ext own own') (ha : ∀ g, own g = some t → w'.heap[g]? = w.heap[g]?) : Part K lo w' own' t v n xs :=
  ⟨fun k => (h.1 k).keep he ha, fun k hx => (h.2 k hx).keep he ha⟩
variable {K : Kd τ} {lo : Nat} {w : World} {own : Nat → Option τ} {rv : τ → Value} {M : τ → Ob τ}
/-- what has not turned stays; what has turned is told anew -/
theorem Rep.turn {w' : World} {own' : Nat → Option τ} {rv' : τ → Value} {M' : τ → Ob τ} (P : τ → Prop) (h : Rep K lo w own rv M) (he : Ext own own') (hd : ∀ g t, own' g = some t → lo ≤ g ∧ g < w'.heap.size) (hs : Kept own P w w')
    (hp : ∀ t, (P t ∧ rv' t = rv t ∧ (M' t).n = (M t).n ∧ concs rv' (M' t).cs = concs rv (M t).cs) ∨ Part K lo w' own' t (rv' t) (M' t).n (concs rv' (M' t).cs)) : Rep K lo w' own' rv' M' := by
  refine ⟨hd, fun t => ?_⟩
  rcases hp t with ⟨k, e1, e2, e3⟩ | hx
  · rw [e1, e2, e3]
    exact (h.part t).keep he fun g hg => hs g _ hg k
  · exact hx
theorem Rep.same {w' : World} (h : Rep K lo w own rv M) (hsz : w.heap.size ≤ w'.heap.size) (hs : ∀ g t, own g = some t → w'.heap[g]? = w.heap[g]?) : Rep K lo w' own rv M :=
  h.turn (fun _ => True) (Ext.refl _) (fun g t e => ⟨(h.dom g t e).1, Nat.lt_of_lt_of_le (h.dom g t e).2 hsz⟩) (fun g t e _ => hs g t e) fun t => .inl ⟨trivial, rfl, rfl, rfl⟩
theorem Rep.alloc (h : Rep K lo w own rv M) (o : Obj) : Rep K lo (w.alloc o) own rv M := h.same (by simp) fun g t e => Below.heap_alloc _ _ _ (h.dom g t e).2
theorem Rep.drewN (h : Rep K lo w own rv M) (q : Nat) : Rep K lo (w.drewN q) own rv M := h.same (Nat.le_refl _) fun _ _ _ => rfl
theorem Rep.drew (h : Rep K lo w own rv M) : Rep K lo w.drew own rv M := h.same (Nat.le_refl _) fun _ _ _ => rfl
theorem Rep.below {w' : World} (h : Rep K lo w own rv M) {B : Nat} (hb : Below B w w') (hB : w.heap.size ≤ B) : Rep K lo w' own rv M :=
  h.same hb.size fun g t e => hb.block g (Nat.lt_of_lt_of_le (h.dom g t e).2 hB)
theorem apart {a b : Nat} {s t : τ} (h1 : own a = some s) (h2 : own b = some t) (hne : s ≠ t) : a ≠ b := by
  rintro rfl
  rw [h1] at h2
  exact hne (Option.some.inj h2)
/-! ### reading -/
theorem Rep.row (h : Rep K lo w own rv M) {t : τ} (ht : K.row t = true) : (rv t = .slice none 0 0 ∧ (M t).n = 0 ∧ (M t).cs = []) ∨ ∃ g cap, rv t = .slice (some ⟨g, 0, none⟩) (M t).n cap ∧ own g = some t ∧ lo ≤ g ∧ g < w.heap.size ∧ (M t).n ≤ cap ∧ cap ≤ maxLen := by
  obtain ⟨⟨h1, h2⟩, hl⟩ := (h.part t).1 ht
  rcases h2 with ⟨e1, e2⟩ | ⟨g, cap, cur, e1, hb, hg, hc, hx, _⟩
  · refine .inl ⟨e1, e2, ?_⟩
    rw [e2, Nat.zero_mul] at h1
    unfold concs at h1
    rw [List.length_map] at h1
    exact List.eq_nil_of_length_eq_zero h1
  · exact .inr ⟨g, cap, e1, hl g (by rw [e1]; rfl), hb, (Array.getElem?_eq_some_iff.1 hg).1, hc, hx⟩
theorem Rep.len (h : Rep K lo w own rv M) {t : τ} (ht : K.row t = true) : (M t).cs.length = (M t).n * K.esz t := by
  have := ((h.part t).1 ht).row.1
  unfold concs at this
  rwa [List.length_map] at this
theorem Rep.cell (h : Rep K lo w own rv M) {t : τ} {m : Nat} {u : AC τ} (hu : (M t).cs[m]? = some u) : ∃ b, blkOf (rv t) = some b ∧ own b = some t ∧ lo ≤ b ∧ b < w.heap.size ∧ w.cell? ⟨b, m, none⟩ = some (conc rv u) ∧ w.frozen? ⟨b, m, none⟩ = false := by
  have hx := concs_get (rv := rv) hu
  cases ht : K.row t with
  | true =>
    rcases h.row ht with ⟨_, _, e⟩ | ⟨g, cap, e, hl, h1, h2, _⟩
    · rw [e] at hu; cases hu
    · have hr := ((h.part t).1 ht).row
      rw [e] at hr
      have hm : m < (M t).n * K.esz t := by rw [← h.len ht]; exact (List.getElem?_eq_some_iff.1 hu).1
      exact ⟨g, by rw [e]; rfl, hl, h1, h2, by rw [hr.cellAt m hm, hx], hr.frozenAt m⟩
  | false =>
    obtain ⟨b, e, hl, hc⟩ := ((h.part t).2 ht (fun e => by rw [e] at hx; cases hx)).blk
    exact ⟨b, by rw [e]; rfl, hl, (h.dom b t hl).1, (h.dom b t hl).2, (hc m _ hx).1, (hc m _ hx).2⟩
theorem Rep.tab (h : Rep K lo w own rv M) {t : τ} (ht : K.row t = false) (hn : (M t).cs ≠ []) : ∃ b, rv t = .pointer (some ⟨b, 0, none⟩) ∧ own b = some t ∧ lo ≤ b ∧ b < w.heap.size := by
  obtain ⟨b, e, hl, _⟩ := ((h.part t).2 ht (fun e => hn (by unfold concs at e; exact List.map_eq_nil_iff.1 e))).blk
  exact ⟨b, e, hl, h.dom b t hl⟩
/-! ### a cell is written -/
theorem kept_setCell {b m : Nat} {T : τ} {u : Value} (hb : own b = some T) : Kept own (· ≠ T) w (w.setCell ⟨b, m, none⟩ u) := fun g t e ht => by
  rw [Below.heap_setCell _ _ _ _ (apart e hb ht)]
theorem Part.set {t : τ} {v : Value} {n : Nat} {xs : List Value} (h : Part K lo w own t v n xs) {b m : Nat} (hb : blkOf v = some b) (u : Value) (hx : xs ≠ []) : Part K lo (w.setCell ⟨b, m, none⟩ u) own t v n (xs.set m u) := by
  refine ⟨fun k => ?_, fun k _ => ?_⟩
  · obtain ⟨hr, hl⟩ := h.1 k
    refine ⟨?_, hl⟩
    rcases hr.2 with ⟨e, _⟩ | ⟨g, cap, cur, e, _⟩
    · rw [e] at hb; cases hb
    · rw [e] at hb hr ⊢
      cases hb
      exact (hr.stored m u).1
  · obtain ⟨b', e, hl, hc⟩ := (h.2 k hx).blk
    rw [e] at hb
    cases hb
    refine ⟨b', e, hl, fun j u' hu => ⟨?_, ?_⟩⟩
    · rw [List.getElem?_set] at hu
      by_cases ej : m = j
      · subst ej
        rw [if_pos rfl] at hu
        split at hu
        · rename_i hlt
          cases hu
          exact World.cell?_setCell_same w _ _ (hc m _ (List.getElem?_eq_getElem hlt)).1
        · cases hu
      · rw [if_neg ej] at hu
        rw [World.cell?_setCell_other w ⟨b', m, none⟩ ⟨b', j, none⟩ _ (by intro e2; injection e2; omega)]
        exact (hc j _ hu).1
    · rw [World.frozen?_setCell]
      have hj : j < xs.length := by
        have := (List.getElem?_eq_some_iff.1 hu).1
        rwa [List.length_set] at this
      exact (hc j _ (List.getElem?_eq_getElem hj)).2
theorem concs_set (rv : τ → Value) (l : List (AC τ)) (m : Nat) (a : AC τ) : concs rv (l.set m a) = (concs rv l).set m (conc rv a) := by
  unfold concs
  rw [List.map_set]
/-- a cell of a label's is written -/
theorem Rep.put (h : Rep K lo w own rv M) {t : τ} {b m : Nat} (hl : own b = some t) (hb : blkOf (rv t) = some b) (a : AC τ) (hn : (M t).cs ≠ []) : Rep K lo (w.setCell ⟨b, m, none⟩ (conc rv a)) own rv (upd M t ⟨(M t).n, (M t).cs.set m a⟩) := by
  refine h.turn (· ≠ t) (Ext.refl _) (fun g s e => by rw [World.size_setCell]; exact h.dom g s e) (kept_setCell hl) fun s => ?_
  by_cases e : s = t
  · subst e
    refine .inr ?_
    rw [upd_same, concs_set]
    exact (h.part s).set hb _ (fun e => hn (by unfold concs at e; exact List.map_eq_nil_iff.1 e))
  · exact .inl ⟨e, rfl, by rw [upd_other _ _ e], by rw [upd_other _ _ e]⟩
/-! ### a row lies elsewhere, or is another one -/
open Classical in
noncomputable def lab (own : Nat → Option τ) (g : Nat) (t : τ) : Nat → Option τ := fun k => if k = g then some t else own k
theorem lab_same (own : Nat → Option τ) (g : Nat) (t : τ) : lab own g t g = some t := if_pos rfl
theorem lab_other (own : Nat → Option τ) {g k : Nat} (t : τ) (h : k ≠ g) : lab own g t k = own k := if_neg h
theorem lab_ext {g : Nat} {t : τ} (h : own g = some t ∨ own g = none) : Ext own (lab own g t) := fun k s e => by
  by_cases hk : k = g
  · subst hk
    rw [lab_same]
    rcases h with h | h
    · rw [h] at e; exact e
    · rw [h] at e; cases e
  · rw [lab_other _ _ hk]; exact e
/-- a row of a label has been made anew, in the world alone -/
structure Moved (K : Kd τ) (lo : Nat) (w w1 : World) (own : Nat → Option τ) (rv : τ → Value) (T : τ) (g cap n' : Nat) (cs' : List (AC τ)) : Prop where
  own : w1.ownsRow lo (K.ety T) (K.esz T) (.slice (some ⟨g, 0, none⟩) n' cap) n' (concs rv cs')
  grow : w.grownBy w1 (rv T).ownBlock
  loc : (rv T).ownBlock = some g ∨ w.heap.size ≤ g
/-- and its head is stored where it is kept -/
theorem Rep.move (h : Rep K lo w own rv M) {T p : τ} (hT : K.row T = true) {w1 : World} {b m g cap n' : Nat} {cs' : List (AC τ)} (A : Moved K lo w w1 own rv T g cap n' cs') (hpT : p ≠ T) (hb : blkOf (rv p) = some b)
    (hm : (M p).cs[m]? = some (AC.ref T)) (hu : ∀ q (k : Nat), (M q).cs[k]? = some (AC.ref T) → q = p ∧ k = m) (hs : ∀ k : Nat, cs'[k]? ≠ some (AC.ref T)) :
    Rep K lo (w1.setCell ⟨b, m, none⟩ (.slice (some ⟨g, 0, none⟩) n' cap)) (lab own g T) (upd rv T (.slice (some ⟨g, 0, none⟩) n' cap)) (upd M T ⟨n', cs'⟩) := by
  have hrow := (h.part T).1 hT
  obtain ⟨b', hb', hlb, _, hbw, _⟩ := h.cell hm
  rw [hb] at hb'
  cases hb'
  have hg1 : lo ≤ g ∧ g < w1.heap.size := A.own.lt g rfl
  have hext : Ext own (lab own g T) := by
    rcases A.loc with e | e
    · exact lab_ext (.inl (hrow.lab g e))
    · refine lab_ext (.inr ?_)
      cases ho : own g with
      | none => rfl
      | some s => have := (h.dom g s ho).2; omega
  have hkept : Kept own (· ≠ T) w w1 := fun k t e ht => A.grow.block k (h.dom k t e).2 fun e2 => by
    have := hrow.lab k e2.symm
    rw [e] at this
    exact ht (Option.some.inj this)
  have hlb1 : lab own g T b = some p := hext b p hlb
  have hK := kept_setCell (w := w1) (m := m) (u := .slice (some ⟨g, 0, none⟩) n' cap) hlb1
  refine h.turn (fun t => t ≠ T ∧ t ≠ p) hext (fun k t e => ?_) (fun k t e ht => (hK k t (hext k t e) ht.2).trans (hkept k t e ht.1)) fun t => ?_
  · rw [World.size_setCell]
    by_cases hk : k = g
    · subst hk; exact hg1
    · rw [lab_other _ _ hk] at e
      exact ⟨(h.dom k t e).1, Nat.lt_of_lt_of_le (h.dom k t e).2 A.grow.size⟩
  · by_cases e : t = T
    · subst e
      refine .inr ?_
      rw [upd_same, upd_same, concs_upd hs]
      refine Part.keep (w := w1) (own := lab own g t) ⟨fun _ => ⟨A.own, fun k hk => ?_⟩, fun k => by rw [hT] at k; cases k⟩ (Ext.refl _) fun k hk => hK k t hk hpT.symm
      have : g = k := by simpa [Value.ownBlock] using hk
      subst this
      exact lab_same ..
    · by_cases e2 : t = p
      · subst e2
        refine .inr ?_
        rw [upd_other _ _ e, upd_other _ _ e, concs_head hm fun k hk => (hu t k hk).2]
        have hp1 := (h.part t).keep hext fun k hk => hkept k t hk e
        exact hp1.set hb _ fun e3 => by unfold concs at e3; rw [List.map_eq_nil_iff.1 e3] at hm; cases hm
      · refine .inl ⟨⟨e, e2⟩, upd_other _ _ e, by rw [upd_other _ _ e], ?_⟩
        rw [upd_other _ _ e]
        exact concs_upd fun k hk => e2 (hu t k hk).1
/-- an object that there was not -/
theorem Rep.link (h : Rep K lo w own rv M) {t : τ} {v : Value} {n : Nat} {cs : List (AC τ)} (hu : ∀ q (k : Nat), (M q).cs[k]? ≠ some (AC.ref t)) {g : Nat} (hb : blkOf v = some g) (ho : own g = none) (hg : lo ≤ g ∧ g < w.heap.size)
    (hp : Part K lo w (lab own g t) t v n (concs (upd rv t v) cs)) : Rep K lo w (lab own g t) (upd rv t v) (upd M t ⟨n, cs⟩) := by
  have hext : Ext own (lab own g t) := lab_ext (.inr ho)
  refine h.turn (fun _ => True) hext (fun k s e => ?_) (fun _ _ _ _ => rfl) fun s => ?_
  · by_cases hk : k = g
    · subst hk; exact hg
    · rw [lab_other _ _ hk] at e; exact h.dom k s e
  · by_cases e : s = t
    · subst e
      rw [upd_same, upd_same]
      exact .inr hp
    · refine .inl ⟨trivial, upd_other _ _ e, by rw [upd_other _ _ e], ?_⟩
      rw [upd_other _ _ e]
      exact concs_upd fun k hk => hu s k hk
/-- a new row that is nil -/
theorem Rep.linkNil (h : Rep K lo w own rv M) {t : τ} (ht : K.row t = true) (hu : ∀ q (k : Nat), (M q).cs[k]? ≠ some (AC.ref t)) : Rep K lo w own (upd rv t (.slice none 0 0)) (upd M t ⟨0, []⟩) := by
  refine h.turn (fun _ => True) (Ext.refl _) h.dom (fun _ _ _ _ => rfl) fun s => ?_
  by_cases e : s = t
  · subst e
    rw [upd_same, upd_same]
    refine .inr ⟨fun _ => ⟨⟨by simp [concs], .inl ⟨rfl, rfl⟩⟩, fun g hg => by cases hg⟩, fun k => by rw [ht] at k; cases k⟩
  · refine .inl ⟨trivial, upd_other _ _ e, by rw [upd_other _ _ e], ?_⟩
    rw [upd_other _ _ e]
    exact concs_upd fun k hk => hu s k hk
/-! ### what a call leaves as it was -/
/-- of what there was only the memory's own blocks have turned; no block that there was has come to be the memory's -/
structure Frm (own own' : Nat → Option τ) (w w' : World) : Prop where
  os : w'.os = w.os
  tape : w'.tape = w.tape
  output : w'.output = w.output
  size : w.heap.size ≤ w'.heap.size
  lab : ∀ k, k < w.heap.size → own' k = own k
  keep : ∀ k, k < w.heap.size → own k = none → w'.heap[k]? = w.heap[k]?
theorem Frm.refl (own : Nat → Option τ) (w : World) : Frm own own w w := ⟨rfl, rfl, rfl, Nat.le_refl _, fun _ _ => rfl, fun _ _ _ => rfl⟩
theorem Frm.trans {a b c : Nat → Option τ} {u v w : World} (h : Frm a b u v) (k : Frm b c v w) : Frm a c u w :=
  ⟨k.os.trans h.os, k.tape.trans h.tape, k.output.trans h.output, Nat.le_trans h.size k.size, fun i hi => (k.lab i (Nat.lt_of_lt_of_le hi h.size)).trans (h.lab i hi), fun i hi e => (k.keep i (Nat.lt_of_lt_of_le hi h.size) ((h.lab i hi).trans e)).trans (h.keep i hi e)⟩
theorem Frm.setCell {a b : Nat → Option τ} {u v : World} (h : Frm a b u v) {p : Addr} {t : τ} (hp : b p.block = some t) (x : Value) : Frm a b u (v.setCell p x) :=
  ⟨h.os, h.tape, h.output, by rw [World.size_setCell]; exact h.size, h.lab, fun i hi e => by
    rw [Below.heap_setCell _ _ _ _ (fun e2 => by rw [← e2, h.lab i hi, e] at hp; cases hp)]
    exact h.keep i hi e⟩
theorem Frm.alloc {a b : Nat → Option τ} {u v : World} (h : Frm a b u v) (o : Obj) : Frm a b u (v.alloc o) :=
  ⟨h.os, h.tape, h.output, Nat.le_trans h.size (by simp), h.lab, fun i hi e => by
    rw [Below.heap_alloc _ _ _ (Nat.lt_of_lt_of_le hi h.size)]
    exact h.keep i hi e⟩
theorem Frm.drewN {a b : Nat → Option τ} {u v : World} (h : Frm a b u v) (q : Nat) : Frm a b u (v.drewN q) := ⟨h.os, h.tape, h.output, h.size, h.lab, h.keep⟩
theorem Frm.drew {a b : Nat → Option τ} {u v : World} (h : Frm a b u v) : Frm a b u v.drew := ⟨h.os, h.tape, h.output, h.size, h.lab, h.keep⟩
end
end Go.Proofs.Ytkpppmldbhgcgaa
/- Sat: what the solver holds, and as which memory. -/
set_option autoImplicit false
set_option linter.unusedVariables false
set_option linter.unusedSimpArgs false
namespace Go.Proofs.Ytkpppmldbhgcgaa
open Go Go.RowKit
/-- labels: the solver, a clause, rows -/
inductive Tg where
  | x | cl (i : Nat) | lits (i : Nat) | ov | pl | sc | all | wt | wr (c : Nat) | vals | lev | rea | sav | tr | st | prf | pc (k : Nat) | seen
/-- a clause -/
structure Cz where
  lits : List Int
  learned : Bool
  gone : Bool
  use : Int
/-- the solver -/
structure Sz where
  vars : Int
  ov : List Int
  pl : List Int
  sc : List Nat
  cls : List Cz
  all : List Nat
  watch : List (List Nat)
  vals : List Int
  lev : List Int
  rea : List (Option Nat)
  sav : List Bool
  tr : List Int
  st : List Int
  at' : Int
  bump : Nat
  prf : List (Bool × List Int)
  nl : Int
  seen : List Bool
  learned : Int
def vi (x : Int) : AC Tg := .val (.int .i64 x)
def vb (b : Bool) : AC Tg := .val (.bool b)
def pr (i : Nat) : AC Tg := .ref (.cl i)
def pro : Option Nat → AC Tg
  | none => .val (.pointer none)
  | some i => pr i
/-- the solver's own cells -/
def xcs (S : Sz) : List (AC Tg) := [.ref .ov, .ref .pl, .ref .sc, vi S.vars, .ref .all, .ref .wt, .ref .vals, .ref .lev, .ref .rea, .ref .sav, .ref .tr, .ref .st, vi S.at', .val (.float .f64 S.bump), .ref .prf, vi S.nl, .ref .seen, vi S.learned]
def ccs (i : Nat) (c : Cz) : List (AC Tg) := [.ref (.lits i), vb c.learned, vb c.gone, vi c.use]
def pcs : Nat → List (Bool × List Int) → List (AC Tg)
  | _, [] => []
  | k, p :: l => vb p.1 :: .ref (.pc k) :: pcs (k + 1) l
def row (l : List (AC Tg)) : Ob Tg := ⟨l.length, l⟩
def mem (S : Sz) : Tg → Ob Tg
  | .x => row (xcs S)
  | .cl i => row (match S.cls[i]? with | some c => ccs i c | none => [])
  | .lits i => row (match S.cls[i]? with | some c => c.lits.map vi | none => [])
  | .ov => row (S.ov.map vi)
  | .pl => row (S.pl.map vi)
  | .sc => row (S.sc.map fun b => .val (.float .f64 b))
  | .all => row (S.all.map pr)
  | .wt => row ((List.range S.watch.length).map fun c => .ref (.wr c))
  | .wr c => row ((S.watch.getD c []).map pr)
  | .vals => row (S.vals.map fun v => .val (.int .i8 v))
  | .lev => row (S.lev.map vi)
  | .rea => row (S.rea.map pro)
  | .sav => row (S.sav.map vb)
  | .tr => row (S.tr.map vi)
  | .st => row (S.st.map vi)
  | .prf => ⟨S.prf.length, pcs 0 S.prf⟩
  | .pc k => row (match S.prf[k]? with | some p => p.2.map vi | none => [])
  | .seen => row (S.seen.map vb)
def kd : Kd Tg where
  ety
    | .sc => 57
    | .all => 76
    | .rea => 76
    | .wr _ => 76
    | .wt => 54
    | .vals => 50
    | .sav => 4
    | .seen => 4
    | .prf => 44
    | _ => 3
  esz
    | .prf => 2
    | _ => 1
  row
    | .x => false
    | .cl _ => false
    | _ => true
/-- THE SOLVER, AS IT STANDS IN A WORLD -/
abbrev Sol (lo : Nat) (w : World) (own : Nat → Option Tg) (rv : Tg → Value) (S : Sz) : Prop := Rep kd lo w own rv (mem S)
variable {lo : Nat} {w : World} {own : Nat → Option Tg} {rv : Tg → Value} {S : Sz}
theorem Rep.xb (h : Sol lo w own rv S) : ∃ b, rv .x = .pointer (some ⟨b, 0, none⟩) ∧ own b = some .x ∧ lo ≤ b ∧ b < w.heap.size := h.tab rfl (by intro e; cases e)
/-- the solver's field -/
theorem Rep.fld (h : Sol lo w own rv S) {b m : Nat} {u : AC Tg} (hb : rv .x = .pointer (some ⟨b, 0, none⟩)) (hu : (xcs S)[m]? = some u) : w.cell? ⟨b, m, none⟩ = some (conc rv u) ∧ w.frozen? ⟨b, m, none⟩ = false := by
  obtain ⟨b', e, _, _, _, h1, h2⟩ := h.cell (t := .x) (m := m) (u := u) hu
  rw [hb] at e
  cases e
  exact ⟨h1, h2⟩
/-- a row's head -/
theorem Rep.head (h : Sol lo w own rv S) {t : Tg} (ht : kd.row t = true) (hn : 0 < (mem S t).n) : ∃ g cap, rv t = .slice (some ⟨g, 0, none⟩) (mem S t).n cap ∧ own g = some t ∧ lo ≤ g ∧ g < w.heap.size ∧ (mem S t).n ≤ cap ∧ cap ≤ maxLen := by
  rcases h.row ht with ⟨_, e, _⟩ | h
  · omega
  · exact h
/-- a row's cell -/
theorem Rep.rcell (h : Sol lo w own rv S) {t : Tg} {g n cap m : Nat} {u : AC Tg} (hb : rv t = .slice (some ⟨g, 0, none⟩) n cap) (hu : (mem S t).cs[m]? = some u) : w.cell? ⟨g, m, none⟩ = some (conc rv u) ∧ w.frozen? ⟨g, m, none⟩ = false := by
  obtain ⟨b', e, _, _, _, h1, h2⟩ := h.cell (t := t) (m := m) (u := u) hu
  rw [hb] at e
  cases e
  exact ⟨h1, h2⟩
theorem map_get {α : Type} {f : α → AC Tg} {l : List α} {m : Nat} {a : α} (h : l[m]? = some a) : (l.map f)[m]? = some (f a) := by rw [List.getElem?_map, h]; rfl
end Go.Proofs.Ytkpppmldbhgcgaa

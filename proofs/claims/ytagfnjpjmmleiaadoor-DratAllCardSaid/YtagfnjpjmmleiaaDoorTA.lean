/- Drat: the checker as it stands in a world: its rows, each in blocks that are its own. -/
import Derived.Test.YtagfnjpjmmleiaaDoorQG
import Derived.Maps.OwnSet
import Derived.Deep.AppendLies
set_option linter.unusedVariables false
set_option linter.unusedSimpArgs false
set_option autoImplicit false
set_option linter.unusedVariables false
set_option linter.unusedSimpArgs false
namespace Go.Proofs.YtagfnjpjmmleiaaDoor
open Go.Shelf Go.RowKit
/-- whose a block is: the checker's own, a table's, a row's -/
inductive Tag where
  | x | all | watch | has | units | vals | trail | map
  | cl (i : Nat) | wr (c : Nat) | hr (c : Nat) | kr (k : Lit)
open Classical in
/-- a function, turned at one place -/
noncomputable def upd {α β : Type} (f : α → β) (a : α) (b : β) : α → β := fun x => if x = a then b else f x
theorem upd_same {α β : Type} (f : α → β) (a : α) (b : β) : upd f a b a = b := if_pos rfl
theorem upd_other {α β : Type} (f : α → β) {a x : α} (b : β) (h : x ≠ a) : upd f a b x = f x := if_neg h
theorem upd_self {α β : Type} (f : α → β) (a : α) : upd f a (f a) = f := by
  funext x
  by_cases h : x = a
  · subst h; exact upd_same ..
  · exact upd_other f _ h
theorem upd_upd {α β : Type} (f : α → β) (a : α) (b c : β) : upd (upd f a b) a c = upd f a c := by
  funext x
  by_cases h : x = a
  · subst h; rw [upd_same, upd_same]
  · rw [upd_other _ _ h, upd_other _ _ h, upd_other _ _ h]
/-- what the checker holds -/
structure St where
  n : Nat
  gone : Nat → Bool
  lits : Nat → List Int
  watch : Nat → List Nat
  has : Nat → List Nat
  units : List Nat
  empty : Nat
  K : Lit → List Nat
  vals : List Int
  trail : List Int
  m : Nat
/-- where its blocks lie that never turn -/
structure Cx where
  xb : Nat
  wb : Nat
  hb : Nat
  vb : Nat
  mb : Nat
  wc : Nat
  hc : Nat
  vc : Nat
  V : Nat
  lo : Nat
def natC (l : List Nat) : List Value := l.map fun (i : Nat) => Value.int .i64 (i : Int)
def intC (l : List Int) : List Value := l.map (Value.int .i64)
theorem natC_length (l : List Nat) : (natC l).length = l.length := List.length_map ..
theorem intC_length (l : List Int) : (intC l).length = l.length := List.length_map ..
theorem natC_append (a b : List Nat) : natC (a ++ b) = natC a ++ natC b := List.map_append ..
theorem intC_append (a b : List Int) : intC (a ++ b) = intC a ++ intC b := List.map_append ..
def ety : Tag → TypeId
  | .all => 74
  | _ => 3
def esz : Tag → Nat
  | .all => 2
  | _ => 1
def elen (S : St) : Tag → Nat
  | .all => S.n
  | .cl i => (S.lits i).length
  | .wr c => (S.watch c).length
  | .hr c => (S.has c).length
  | .kr k => (S.K k).length
  | .units => S.units.length
  | .trail => S.trail.length
  | _ => 0
/-- the cells of the clauses' row -/
def allC (rv : Tag → Value) (gone : Nat → Bool) (n : Nat) : List Value := (List.range n).flatMap fun i => [rv (.cl i), .bool (gone i)]
theorem allC_congr {rv rv' : Tag → Value} {gone gone' : Nat → Bool} {n : Nat} (h : ∀ i, i < n → rv' (.cl i) = rv (.cl i)) (hg : ∀ i, i < n → gone' i = gone i) : allC rv' gone' n = allC rv gone n := by
  unfold allC
  induction n with
  | zero => rfl
  | succ n ih =>
    rw [List.range_succ, List.flatMap_append, List.flatMap_append, ih (fun i hi => h i (by omega)) (fun i hi => hg i (by omega))]
    simp [h n (by omega), hg n (by omega)]
theorem allC_succ (rv : Tag → Value) (gone : Nat → Bool) (n : Nat) : allC rv gone (n + 1) = allC rv gone n ++ [rv (.cl n), .bool (gone n)] := by
  unfold allC
  rw [List.range_succ, List.flatMap_append]
  simp
theorem allC_length (rv : Tag → Value) (gone : Nat → Bool) (n : Nat) : (allC rv gone n).length = n * 2 := by
  induction n with
  | zero => rfl
  | succ n ih => rw [allC_succ, List.length_append, ih]; simp; omega
theorem allC_get (rv : Tag → Value) (gone : Nat → Bool) {n i : Nat} (hi : i < n) : (allC rv gone n)[i * 2]? = some (rv (.cl i)) ∧ (allC rv gone n)[i * 2 + 1]? = some (.bool (gone i)) := by
  induction n with
  | zero => omega
  | succ n ih =>
    rw [allC_succ]
    by_cases e : i = n
    · subst e
      rw [List.getElem?_append_right (by rw [allC_length]; exact Nat.le_refl _), List.getElem?_append_right (by rw [allC_length]; omega), allC_length]
      simp
    · rw [List.getElem?_append_left (by rw [allC_length]; omega), List.getElem?_append_left (by rw [allC_length]; omega)]
      exact ih (by omega)
theorem allC_gone (rv : Tag → Value) (gone : Nat → Bool) {n i : Nat} (hi : i < n) : (allC rv gone n).set (i * 2 + 1) (.bool true) = allC rv (upd gone i true) n := by
  induction n with
  | zero => omega
  | succ n ih =>
    rw [allC_succ, allC_succ]
    by_cases e : i = n
    · subst e
      rw [List.set_append_right _ _ (by rw [allC_length]; omega), allC_length, upd_same, allC_congr (fun _ _ => rfl) (fun j hj => upd_other gone true (a := i) (x := j) (by omega))]
      rw [show i * 2 + 1 - i * 2 = 1 by omega]
      rfl
    · rw [List.set_append_left _ _ (by rw [allC_length]; omega), ih (by omega), upd_other _ _ (fun h => e h.symm)]
def cont (rv : Tag → Value) (S : St) : Tag → List Value
  | .all => allC rv S.gone S.n
  | .cl i => intC (S.lits i)
  | .wr c => natC (S.watch c)
  | .hr c => natC (S.has c)
  | .kr k => natC (S.K k)
  | .units => natC S.units
  | .trail => intC S.trail
  | _ => []
def isRow : Tag → Bool
  | .x => false
  | .watch => false
  | .has => false
  | .vals => false
  | .map => false
  | _ => true
structure RowAt (lo : Nat) (w : World) (own : Nat → Option Tag) (t : Tag) (v : Value) (n : Nat) (xs : List Value) : Prop where
  row : w.ownsRow lo (ety t) (esz t) v n xs
  lab : ∀ g, v.ownBlock = some g → own g = some t
structure TabAt (w : World) (own : Nat → Option Tag) (t : Tag) (b n : Nat) (f : Nat → Value) : Prop where
  lab : own b = some t
  cell : ∀ m, m < n → w.cell? ⟨b, m, none⟩ = some (f m) ∧ w.frozen? ⟨b, m, none⟩ = false
/-- how a map's element is read: as itself -/
def asIs (v : Value) : Option (DataW Value × List MemPlace) := some (.held v, [])
def nilV : Value := .slice none 0 0
structure MapAt (w : World) (own : Nat → Option Tag) (mb m : Nat) (f : Lit → Value) : Prop where
  lab : own mb = some .map
  map : ∃ D : DataW Value, w.ownsMap Tryd.prog 9 asIs mb m D ∧ ∀ k, D.atKey k (.held nilV) = .held (f k)
def fld (cx : Cx) (rv : Tag → Value) (S : St) : Nat → Value
  | 0 => .int .i64 cx.V
  | 1 => rv .all
  | 2 => .slice (some ⟨cx.wb, 0, none⟩) (2 * cx.V + 2) cx.wc
  | 3 => .slice (some ⟨cx.hb, 0, none⟩) (2 * cx.V + 2) cx.hc
  | 4 => rv .units
  | 5 => .int .i64 S.empty
  | 6 => .map (some cx.mb)
  | 7 => .slice (some ⟨cx.vb, 0, none⟩) (cx.V + 1) cx.vc
  | _ => rv .trail
/-- THE CHECKER, AS IT STANDS IN A WORLD -/
structure Rep (cx : Cx) (w : World) (own : Nat → Option Tag) (rv : Tag → Value) (S : St) : Prop where
  dom : ∀ g t, own g = some t → cx.lo ≤ g ∧ g < w.heap.size
  x : TabAt w own .x cx.xb 9 (fld cx rv S)
  wt : TabAt w own .watch cx.wb (2 * cx.V + 2) (fun m => rv (.wr m))
  ht : TabAt w own .has cx.hb (2 * cx.V + 2) (fun m => rv (.hr m))
  vt : TabAt w own .vals cx.vb (cx.V + 1) (fun m => .int .i8 (S.vals.getD m 0))
  rows : ∀ t, isRow t = true → RowAt cx.lo w own t (rv t) (elen S t) (cont rv S t)
  mt : MapAt w own cx.mb S.m (fun k => rv (.kr k))
def Ext (own own' : Nat → Option Tag) : Prop := ∀ g t, own g = some t → own' g = some t
theorem Ext.refl (own : Nat → Option Tag) : Ext own own := fun _ _ h => h
theorem Ext.trans {a b c : Nat → Option Tag} (h : Ext a b) (k : Ext b c) : Ext a c := fun g t e => k g t (h g t e)
/-- blocks of such tags have not turned -/
def Kept (own : Nat → Option Tag) (P : Tag → Prop) (w w' : World) : Prop := ∀ g t, own g = some t → P t → w'.heap[g]? = w.heap[g]?
theorem RowAt.keep {lo : Nat} {w w' : World} {own own' : Nat → Option Tag} {t : Tag} {v : Value} {n : Nat} {xs : List Value} (h : RowAt lo w own t v n xs) (he : Ext own own') (ha : ∀ g, own g = some t → w'.heap[g]? = w.heap[g]?) : RowAt lo w' own' t v n xs := by
  obtain ⟨⟨h1, h2⟩, hl⟩ := h
  refine ⟨⟨h1, h2.imp (fun x => x) ?_⟩, fun g hg => he g t (hl g hg)⟩
  rintro ⟨g, cap, cur, rfl, hb, hg, r⟩
  exact ⟨g, cap, cur, rfl, hb, (ha g (hl g rfl)).trans hg, r⟩
theorem TabAt.keep {w w' : World} {own own' : Nat → Option Tag} {t : Tag} {b n : Nat} {f : Nat → Value} (h : TabAt w own t b n f) (he : Ext own own') (ha : ∀ g, own g = some t → w'.heap[g]? = w.heap[g]?) : TabAt w' own' t b n f :=
  ⟨he b t h.lab, fun m hm => ⟨(World.cell?_of_block (a := ⟨b, m, none⟩) (ha b h.lab)).trans (h.cell m hm).1, (World.frozen?_of_block (a := ⟨b, m, none⟩) (ha b h.lab)).trans (h.cell m hm).2⟩⟩
theorem TabAt.congr {w : World} {own : Nat → Option Tag} {t : Tag} {b n : Nat} {f f' : Nat → Value} (h : TabAt w own t b n f) (hf : ∀ m, m < n → f' m = f m) : TabAt w own t b n f' :=
  ⟨h.lab, fun m hm => by rw [hf m hm]; exact h.cell m hm⟩
theorem MapAt.keep {w w' : World} {own own' : Nat → Option Tag} {mb m : Nat} {f : Lit → Value} (h : MapAt w own mb m f) (he : Ext own own') (ha : ∀ g, own g = some .map → w'.heap[g]? = w.heap[g]?) : MapAt w' own' mb m f := by
  obtain ⟨hl, D, ⟨es, clock, hb, r⟩, hk⟩ := h
  exact ⟨he mb _ hl, D, ⟨es, clock, (ha mb hl).trans hb, r⟩, hk⟩
theorem MapAt.congr {w : World} {own : Nat → Option Tag} {mb m : Nat} {f f' : Lit → Value} (h : MapAt w own mb m f) (hf : ∀ k, f' k = f k) : MapAt w own mb m f' := by
  have : f' = f := funext hf
  rw [this]; exact h
/-- what has not turned stays; what has turned is told anew -/
theorem Rep.master {cx : Cx} {w w' : World} {own own' : Nat → Option Tag} {rv rv' : Tag → Value} {S S' : St} (P : Tag → Prop) (h : Rep cx w own rv S) (he : Ext own own') (hd : ∀ g t, own' g = some t → cx.lo ≤ g ∧ g < w'.heap.size) (hs : Kept own P w w')
    (hx : (P .x ∧ ∀ i, i < 9 → fld cx rv' S' i = fld cx rv S i) ∨ TabAt w' own' .x cx.xb 9 (fld cx rv' S'))
    (hw : (P .watch ∧ ∀ m, m < 2 * cx.V + 2 → rv' (.wr m) = rv (.wr m)) ∨ TabAt w' own' .watch cx.wb (2 * cx.V + 2) (fun m => rv' (.wr m)))
    (hh : (P .has ∧ ∀ m, m < 2 * cx.V + 2 → rv' (.hr m) = rv (.hr m)) ∨ TabAt w' own' .has cx.hb (2 * cx.V + 2) (fun m => rv' (.hr m)))
    (hv : (P .vals ∧ S'.vals = S.vals) ∨ TabAt w' own' .vals cx.vb (cx.V + 1) (fun m => .int .i8 (S'.vals.getD m 0)))
    (hr : ∀ t, isRow t = true → (P t ∧ rv' t = rv t ∧ elen S' t = elen S t ∧ cont rv' S' t = cont rv S t) ∨ RowAt cx.lo w' own' t (rv' t) (elen S' t) (cont rv' S' t))
    (hm : (P .map ∧ S'.m = S.m ∧ ∀ k, rv' (.kr k) = rv (.kr k)) ∨ MapAt w' own' cx.mb S'.m (fun k => rv' (.kr k))) : Rep cx w' own' rv' S' := by
  refine ⟨hd, ?_, ?_, ?_, ?_, ?_, ?_⟩
  · rcases hx with ⟨hp, hf⟩ | hx
    · exact (h.x.keep he fun g hg => hs g _ hg hp).congr hf
    · exact hx
  · rcases hw with ⟨hp, hf⟩ | hx
    · exact (h.wt.keep he fun g hg => hs g _ hg hp).congr hf
    · exact hx
  · rcases hh with ⟨hp, hf⟩ | hx
    · exact (h.ht.keep he fun g hg => hs g _ hg hp).congr hf
    · exact hx
  · rcases hv with ⟨hp, hf⟩ | hx
    · rw [hf]; exact h.vt.keep he fun g hg => hs g _ hg hp
    · exact hx
  · intro t ht
    rcases hr t ht with ⟨hp, h1, h2, h3⟩ | hx
    · rw [h1, h2, h3]; exact (h.rows t ht).keep he fun g hg => hs g _ hg hp
    · exact hx
  · rcases hm with ⟨hp, h1, hf⟩ | hx
    · rw [h1]; exact (h.mt.keep he fun g hg => hs g _ hg hp).congr hf
    · exact hx
/-- nothing of the checker's has turned -/
theorem Rep.same {cx : Cx} {w w' : World} {own : Nat → Option Tag} {rv : Tag → Value} {S : St} (h : Rep cx w own rv S) (hsz : w.heap.size ≤ w'.heap.size) (hs : ∀ g t, own g = some t → w'.heap[g]? = w.heap[g]?) : Rep cx w' own rv S :=
  h.master (fun _ => True) (Ext.refl _) (fun g t e => ⟨(h.dom g t e).1, Nat.lt_of_lt_of_le (h.dom g t e).2 hsz⟩) (fun g t e _ => hs g t e) (.inl ⟨trivial, fun _ _ => rfl⟩) (.inl ⟨trivial, fun _ _ => rfl⟩) (.inl ⟨trivial, fun _ _ => rfl⟩) (.inl ⟨trivial, rfl⟩) (fun t _ => .inl ⟨trivial, rfl, rfl, rfl⟩) (.inl ⟨trivial, rfl, fun _ => rfl⟩)
theorem Rep.alloc {cx : Cx} {w : World} {own : Nat → Option Tag} {rv : Tag → Value} {S : St} (h : Rep cx w own rv S) (o : Obj) : Rep cx (w.alloc o) own rv S :=
  h.same (by simp) fun g t e => Below.heap_alloc _ _ _ (h.dom g t e).2
theorem Rep.drewN {cx : Cx} {w : World} {own : Nat → Option Tag} {rv : Tag → Value} {S : St} (h : Rep cx w own rv S) (q : Nat) : Rep cx (w.drewN q) own rv S := h.same (Nat.le_refl _) fun _ _ _ => rfl
theorem Rep.drew {cx : Cx} {w : World} {own : Nat → Option Tag} {rv : Tag → Value} {S : St} (h : Rep cx w own rv S) : Rep cx w.drew own rv S := h.same (Nat.le_refl _) fun _ _ _ => rfl
theorem Rep.below {cx : Cx} {w w' : World} {own : Nat → Option Tag} {rv : Tag → Value} {S : St} (h : Rep cx w own rv S) {B : Nat} (hb : Below B w w') (hB : w.heap.size ≤ B) : Rep cx w' own rv S :=
  h.same hb.size fun g t e => hb.block g (Nat.lt_of_lt_of_le (h.dom g t e).2 hB)
/-- two parts of the checker's lie apart -/
theorem Rep.apart {own : Nat → Option Tag} {a b : Nat} {s t : Tag} (h1 : own a = some s) (h2 : own b = some t) (hne : s ≠ t) : a ≠ b := by
  rintro rfl
  rw [h1] at h2
  exact hne (Option.some.inj h2)
section
variable {cx : Cx} {w : World} {own : Nat → Option Tag} {rv : Tag → Value} {S : St}
/-- a cell of one's own block is written -/
theorem kept_setCell {b m : Nat} {T : Tag} {u : Value} (hb : own b = some T) : Kept own (· ≠ T) w (w.setCell ⟨b, m, none⟩ u) := fun g t e ht => by
  rw [Below.heap_setCell _ _ _ _ (Rep.apart e hb ht)]
theorem Kept.alloc {w1 : World} {P : Tag → Prop} (h : Kept own P w w1) (hd : ∀ g t, own g = some t → g < w1.heap.size) (o : Obj) : Kept own P w (w1.alloc o) := fun g t e p => (Below.heap_alloc _ _ _ (hd g t e)).trans (h g t e p)
theorem tab_set {t : Tag} {b n : Nat} {f f' : Nat → Value} (h : TabAt w own t b n f) {j : Nat} (hj : j < n) (u : Value) (hu : f' j = u) (hf : ∀ m, m < n → m ≠ j → f' m = f m) : TabAt (w.setCell ⟨b, j, none⟩ u) own t b n f' := by
  refine ⟨h.lab, fun m hm => ⟨?_, by rw [World.frozen?_setCell]; exact (h.cell m hm).2⟩⟩
  by_cases e : m = j
  · subst e
    rw [World.cell?_setCell_same w _ _ (h.cell m hm).1, hu]
  · rw [World.cell?_setCell_other w ⟨b, j, none⟩ ⟨b, m, none⟩ _ (by intro e2; injection e2; omega), (h.cell m hm).1, hf m hm e]
/-- a value is set -/
theorem Rep.setVal (h : Rep cx w own rv S) (hl : S.vals.length = cx.V + 1) {m : Nat} (hm : m < cx.V + 1) (y : Int) : Rep cx (w.setCell ⟨cx.vb, m, none⟩ (.int .i8 y)) own rv { S with vals := S.vals.set m y } := by
  refine h.master (· ≠ .vals) (Ext.refl _) (fun g t e => by rw [World.size_setCell]; exact h.dom g t e) (kept_setCell h.vt.lab) (.inl ⟨(by intro e; cases e), fun i hi => ?_⟩) (.inl ⟨(by intro e; cases e), fun _ _ => rfl⟩) (.inl ⟨(by intro e; cases e), fun _ _ => rfl⟩) (.inr (tab_set h.vt hm _ ?_ fun k hk hne => ?_)) (fun t ht => ?_) (.inl ⟨(by intro e; cases e), rfl, fun _ => rfl⟩)
  · unfold fld; rfl
  · show Value.int .i8 ((S.vals.set m y).getD m 0) = _
    rw [List.getD_eq_getElem?_getD, List.getElem?_set_self (by omega)]; rfl
  · show Value.int .i8 ((S.vals.set m y).getD k 0) = _
    rw [List.getD_eq_getElem?_getD, List.getElem?_set_ne (fun e => hne e.symm), List.getD_eq_getElem?_getD]
  · refine .inl ⟨fun e => ?_, rfl, by cases t <;> rfl, by cases t <;> rfl⟩
    subst e; cases ht
/-- a field of the checker's own block is written, and with it what is told of one row -/
theorem Rep.setFld {S' : St} {rv' : Tag → Value} (h : Rep cx w own rv S) {i : Nat} (hi : i < 9) (u : Value) (hu : fld cx rv' S' i = u) (hf : ∀ j, j < 9 → j ≠ i → fld cx rv' S' j = fld cx rv S j)
    (hw : ∀ c, rv' (.wr c) = rv (.wr c)) (hh : ∀ c, rv' (.hr c) = rv (.hr c)) (hk : ∀ k, rv' (.kr k) = rv (.kr k)) (hv : S'.vals = S.vals) (hm : S'.m = S.m)
    (hr : ∀ t, isRow t = true → (rv' t = rv t ∧ elen S' t = elen S t ∧ cont rv' S' t = cont rv S t) ∨ RowAt cx.lo w own t (rv' t) (elen S' t) (cont rv' S' t)) :
    Rep cx (w.setCell ⟨cx.xb, i, none⟩ u) own rv' S' := by
  have hK := kept_setCell (w := w) (m := i) (u := u) h.x.lab
  refine h.master (· ≠ .x) (Ext.refl _) (fun g t e => by rw [World.size_setCell]; exact h.dom g t e) hK (.inr (tab_set h.x hi u hu hf)) (.inl ⟨(by intro e; cases e), fun _ _ => hw _⟩) (.inl ⟨(by intro e; cases e), fun _ _ => hh _⟩) (.inl ⟨(by intro e; cases e), hv⟩) (fun t ht => ?_) (.inl ⟨(by intro e; cases e), hm, hk⟩)
  have hne : t ≠ .x := fun e => by subst e; cases ht
  rcases hr t ht with ⟨h1, h2, h3⟩ | h1
  · exact .inl ⟨hne, h1, h2, h3⟩
  · exact .inr (h1.keep (Ext.refl _) fun g hg => hK g _ hg hne)
/-! ### append -/
open Classical in
noncomputable def lab (own : Nat → Option Tag) (g : Nat) (t : Tag) : Nat → Option Tag := fun k => if k = g then some t else own k
theorem lab_same (own : Nat → Option Tag) (g : Nat) (t : Tag) : lab own g t g = some t := if_pos rfl
theorem lab_other (own : Nat → Option Tag) {g k : Nat} (t : Tag) (h : k ≠ g) : lab own g t k = own k := if_neg h
theorem lab_ext {own : Nat → Option Tag} {g : Nat} {t : Tag} (h : own g = some t ∨ own g = none) : Ext own (lab own g t) := fun k s e => by
  by_cases hk : k = g
  · subst hk
    rw [lab_same]
    rcases h with h | h
    · rw [h] at e; exact e
    · rw [h] at e; cases e
  · rw [lab_other _ _ hk]; exact e
/-- an append has made a slice of a row -/
structure AppOut (lo : Nat) (w0 : World) (T : Tag) (v : Value) (g cap n' : Nat) (xs' : List Value) (w1 : World) : Prop where
  own : w1.ownsRow lo (ety T) (esz T) (.slice (some ⟨g, 0, none⟩) n' cap) n' xs'
  grow : w0.grownBy w1 v.ownBlock
  loc : v.ownBlock = some g ∨ g = w0.heap.size
  lt : g < w1.heap.size
structure AppFacts (cx : Cx) (w0 w1 : World) (own : Nat → Option Tag) (T : Tag) (g cap n' : Nat) (xs' : List Value) : Prop where
  ext : Ext own (lab own g T)
  dom : ∀ k t, lab own g T k = some t → cx.lo ≤ k ∧ k < w1.heap.size
  kept : Kept own (· ≠ T) w0 w1
  row : RowAt cx.lo w1 (lab own g T) T (.slice (some ⟨g, 0, none⟩) n' cap) n' xs'
theorem AppOut.facts (h : Rep cx w own rv S) {T : Tag} (hT : isRow T = true) {g cap n' : Nat} {xs' : List Value} {w1 : World} (A : AppOut cx.lo w T (rv T) g cap n' xs' w1) : AppFacts cx w w1 own T g cap n' xs' := by
  have hrow := h.rows T hT
  have hlo := (A.own.lt g rfl).1
  refine ⟨?_, ?_, ?_, ⟨A.own, fun k hk => ?_⟩⟩
  · rcases A.loc with e | e
    · exact lab_ext (.inl (hrow.lab g e))
    · refine lab_ext (.inr ?_)
      cases ho : own g with
      | none => rfl
      | some s => have := (h.dom g s ho).2; omega
  · intro k t e
    by_cases hk : k = g
    · subst hk; exact ⟨hlo, A.lt⟩
    · rw [lab_other _ _ hk] at e
      exact ⟨(h.dom k t e).1, Nat.lt_of_lt_of_le (h.dom k t e).2 A.grow.size⟩
  · intro k t e ht
    refine A.grow.block k (h.dom k t e).2 fun e2 => ?_
    have := hrow.lab k e2.symm
    rw [e] at this
    exact ht (Option.some.inj this)
  · have hk : g = k := by simpa [Value.ownBlock] using hk
    subst hk
    exact lab_same ..
/-- 'x.f = append(x.f, ..)' -/
theorem Rep.appFld (h : Rep cx w own rv S) {T : Tag} (hT : isRow T = true) {S' : St} {g cap n' : Nat} {xs' : List Value} {w1 : World} (A : AppOut cx.lo w T (rv T) g cap n' xs' w1) {i : Nat} (hi : i < 9)
    (hu : fld cx (upd rv T (.slice (some ⟨g, 0, none⟩) n' cap)) S' i = .slice (some ⟨g, 0, none⟩) n' cap) (hf : ∀ j, j < 9 → j ≠ i → fld cx (upd rv T (.slice (some ⟨g, 0, none⟩) n' cap)) S' j = fld cx rv S j)
    (hw : ∀ c, Tag.wr c ≠ T) (hh : ∀ c, Tag.hr c ≠ T) (hk : ∀ k, Tag.kr k ≠ T) (hv : S'.vals = S.vals) (hm : S'.m = S.m)
    (hr : ∀ t, isRow t = true → t ≠ T → elen S' t = elen S t ∧ cont (upd rv T (.slice (some ⟨g, 0, none⟩) n' cap)) S' t = cont rv S t) (he : elen S' T = n') (hc : cont (upd rv T (.slice (some ⟨g, 0, none⟩) n' cap)) S' T = xs') :
    Rep cx (w1.setCell ⟨cx.xb, i, none⟩ (.slice (some ⟨g, 0, none⟩) n' cap)) (lab own g T) (upd rv T (.slice (some ⟨g, 0, none⟩) n' cap)) S' := by
  have F := A.facts h hT
  have hTx : Tag.x ≠ T := fun e => by subst e; cases hT
  have hx1 : TabAt w1 (lab own g T) .x cx.xb 9 (fld cx rv S) := h.x.keep F.ext fun k hk => F.kept k _ hk hTx
  have hK := kept_setCell (w := w1) (m := i) (u := .slice (some ⟨g, 0, none⟩) n' cap) hx1.lab
  refine h.master (fun t => t ≠ T ∧ t ≠ .x) F.ext (fun k t e => by rw [World.size_setCell]; exact F.dom k t e) (fun k t e ht => (hK k t (F.ext k t e) ht.2).trans (F.kept k t e ht.1)) (.inr (tab_set hx1 hi _ hu hf)) (.inl ⟨⟨fun e => (by subst e; cases hT), (by intro e; cases e)⟩, fun m _ => upd_other _ _ (hw m)⟩) (.inl ⟨⟨fun e => (by subst e; cases hT), (by intro e; cases e)⟩, fun m _ => upd_other _ _ (hh m)⟩) (.inl ⟨⟨fun e => (by subst e; cases hT), (by intro e; cases e)⟩, hv⟩) (fun t ht => ?_) (.inl ⟨⟨fun e => (by subst e; cases hT), (by intro e; cases e)⟩, hm, fun k => upd_other _ _ (hk k)⟩)
  by_cases e : t = T
  · subst e
    rw [he, hc, upd_same]
    exact .inr (F.row.keep (Ext.refl _) fun k hk => hK k _ hk fun e => hTx e.symm)
  · obtain ⟨h1, h2⟩ := hr t ht e
    exact .inl ⟨⟨e, fun e => by subst e; cases ht⟩, upd_other _ _ e, h1, h2⟩
theorem elen_of {S S' : St} {t : Tag} (T : Tag) (ht : t ≠ T) (h1 : T ≠ .all → S'.n = S.n) (h2 : ∀ i, T ≠ .cl i → S'.lits i = S.lits i) (h3 : ∀ i, T ≠ .wr i → S'.watch i = S.watch i) (h4 : ∀ i, T ≠ .hr i → S'.has i = S.has i) (h5 : ∀ i, T ≠ .kr i → S'.K i = S.K i) (h6 : T ≠ .units → S'.units = S.units) (h7 : T ≠ .trail → S'.trail = S.trail) : elen S' t = elen S t := by
  cases t with
  | all => exact h1 fun e => ht e.symm
  | cl i => show (S'.lits i).length = _; rw [h2 i fun e => ht e.symm]; rfl
  | wr i => show (S'.watch i).length = _; rw [h3 i fun e => ht e.symm]; rfl
  | hr i => show (S'.has i).length = _; rw [h4 i fun e => ht e.symm]; rfl
  | kr i => show (S'.K i).length = _; rw [h5 i fun e => ht e.symm]; rfl
  | units => show (S'.units).length = _; rw [h6 fun e => ht e.symm]; rfl
  | trail => show (S'.trail).length = _; rw [h7 fun e => ht e.symm]; rfl
  | _ => rfl
theorem cont_of {S S' : St} {rv rv' : Tag → Value} {t : Tag} (T : Tag) (ht : t ≠ T) (h1 : T ≠ .all → S'.n = S.n ∧ S'.gone = S.gone ∧ ∀ i, i < S.n → rv' (.cl i) = rv (.cl i)) (h2 : ∀ i, T ≠ .cl i → S'.lits i = S.lits i) (h3 : ∀ i, T ≠ .wr i → S'.watch i = S.watch i) (h4 : ∀ i, T ≠ .hr i → S'.has i = S.has i) (h5 : ∀ i, T ≠ .kr i → S'.K i = S.K i) (h6 : T ≠ .units → S'.units = S.units) (h7 : T ≠ .trail → S'.trail = S.trail) : cont rv' S' t = cont rv S t := by
  cases t with
  | all =>
    obtain ⟨a, b, c⟩ := h1 fun e => ht e.symm
    show allC rv' S'.gone S'.n = allC rv S.gone S.n
    rw [a, b]
    exact allC_congr c fun _ _ => rfl
  | cl i => show intC (S'.lits i) = _; rw [h2 i fun e => ht e.symm]; rfl
  | wr i => show natC (S'.watch i) = _; rw [h3 i fun e => ht e.symm]; rfl
  | hr i => show natC (S'.has i) = _; rw [h4 i fun e => ht e.symm]; rfl
  | kr i => show natC (S'.K i) = _; rw [h5 i fun e => ht e.symm]; rfl
  | units => show natC (S'.units) = _; rw [h6 fun e => ht e.symm]; rfl
  | trail => show intC (S'.trail) = _; rw [h7 fun e => ht e.symm]; rfl
  | _ => rfl
/-- units, trail -/
theorem Rep.appUnits (h : Rep cx w own rv S) {i g cap : Nat} {w1 : World} (A : AppOut cx.lo w .units (rv .units) g cap (S.units.length + 1) (natC S.units ++ [.int .i64 (i : Int)]) w1) :
    Rep cx (w1.setCell ⟨cx.xb, 4, none⟩ (.slice (some ⟨g, 0, none⟩) (S.units.length + 1) cap)) (lab own g .units) (upd rv .units (.slice (some ⟨g, 0, none⟩) (S.units.length + 1) cap)) { S with units := S.units ++ [i] } := by
  refine h.appFld rfl A (by decide) (upd_same ..) (fun j hj hne => ?_) (by intro c e; cases e) (by intro c e; cases e) (by intro c e; cases e) rfl rfl (fun t _ ht => ⟨?_, ?_⟩) ?_ ?_
  · match j, hj, hne with
    | 0, _, _ => rfl
    | 1, _, _ => exact upd_other _ _ (by intro e; cases e)
    | 2, _, _ => rfl
    | 3, _, _ => rfl
    | 5, _, _ => rfl
    | 6, _, _ => rfl
    | 7, _, _ => rfl
    | 8, _, _ => exact upd_other _ _ (by intro e; cases e)
  · exact elen_of .units ht (fun _ => rfl) (fun _ _ => rfl) (fun _ _ => rfl) (fun _ _ => rfl) (fun _ _ => rfl) (fun e => absurd rfl e) (fun _ => rfl)
  · exact cont_of .units ht (fun _ => ⟨rfl, rfl, fun i _ => upd_other _ _ (by intro e; cases e)⟩) (fun _ _ => rfl) (fun _ _ => rfl) (fun _ _ => rfl) (fun _ _ => rfl) (fun e => absurd rfl e) (fun _ => rfl)
  · show (S.units ++ [i]).length = _; rw [List.length_append]; rfl
  · show natC (S.units ++ [i]) = _; rw [natC_append]; rfl
theorem Rep.appTrail (h : Rep cx w own rv S) {x : Int} {g cap : Nat} {w1 : World} (A : AppOut cx.lo w .trail (rv .trail) g cap (S.trail.length + 1) (intC S.trail ++ [.int .i64 x]) w1) :
    Rep cx (w1.setCell ⟨cx.xb, 8, none⟩ (.slice (some ⟨g, 0, none⟩) (S.trail.length + 1) cap)) (lab own g .trail) (upd rv .trail (.slice (some ⟨g, 0, none⟩) (S.trail.length + 1) cap)) { S with trail := S.trail ++ [x] } := by
  refine h.appFld rfl A (by decide) (upd_same ..) (fun j hj hne => ?_) (by intro c e; cases e) (by intro c e; cases e) (by intro c e; cases e) rfl rfl (fun t _ ht => ⟨?_, ?_⟩) ?_ ?_
  · match j, hj, hne with
    | 0, _, _ => rfl
    | 1, _, _ => exact upd_other _ _ (by intro e; cases e)
    | 2, _, _ => rfl
    | 3, _, _ => rfl
    | 4, _, _ => exact upd_other _ _ (by intro e; cases e)
    | 5, _, _ => rfl
    | 6, _, _ => rfl
    | 7, _, _ => rfl
    | 8, _, hne => exact absurd rfl hne
    | j + 9, hj, _ => omega
  · exact elen_of .trail ht (fun _ => rfl) (fun _ _ => rfl) (fun _ _ => rfl) (fun _ _ => rfl) (fun _ _ => rfl) (fun _ => rfl) (fun e => absurd rfl e)
  · exact cont_of .trail ht (fun _ => ⟨rfl, rfl, fun i _ => upd_other _ _ (by intro e; cases e)⟩) (fun _ _ => rfl) (fun _ _ => rfl) (fun _ _ => rfl) (fun _ _ => rfl) (fun _ => rfl) (fun e => absurd rfl e)
  · show (S.trail ++ [x]).length = _; rw [List.length_append]; rfl
  · show intC (S.trail ++ [x]) = _; rw [intC_append]; rfl
/-- a clause more -/
theorem Rep.appAll (h : Rep cx w own rv S) {g cap : Nat} {w1 : World} (A : AppOut cx.lo w .all (rv .all) g cap (S.n + 1) (allC rv S.gone S.n ++ [rv (.cl S.n), .bool false]) w1) :
    Rep cx (w1.setCell ⟨cx.xb, 1, none⟩ (.slice (some ⟨g, 0, none⟩) (S.n + 1) cap)) (lab own g .all) (upd rv .all (.slice (some ⟨g, 0, none⟩) (S.n + 1) cap)) { S with n := S.n + 1, gone := upd S.gone S.n false } := by
  refine h.appFld rfl A (by decide) (upd_same ..) (fun j hj hne => ?_) (by intro c e; cases e) (by intro c e; cases e) (by intro c e; cases e) rfl rfl (fun t _ ht => ⟨?_, ?_⟩) rfl ?_
  · match j, hj, hne with
    | 0, _, _ => rfl
    | 2, _, _ => rfl
    | 3, _, _ => rfl
    | 4, _, _ => exact upd_other _ _ (by intro e; cases e)
    | 5, _, _ => rfl
    | 6, _, _ => rfl
    | 7, _, _ => rfl
    | 8, _, _ => exact upd_other _ _ (by intro e; cases e)
  · exact elen_of .all ht (fun e => absurd rfl e) (fun _ _ => rfl) (fun _ _ => rfl) (fun _ _ => rfl) (fun _ _ => rfl) (fun _ => rfl) (fun _ => rfl)
  · exact cont_of .all ht (fun e => absurd rfl e) (fun _ _ => rfl) (fun _ _ => rfl) (fun _ _ => rfl) (fun _ _ => rfl) (fun _ => rfl) (fun _ => rfl)
  · show allC _ (upd S.gone S.n false) (S.n + 1) = _
    rw [allC_succ, upd_same, upd_other rv _ (show Tag.cl S.n ≠ .all by intro e; cases e), allC_congr (fun i hi => upd_other rv _ (show Tag.cl i ≠ .all by intro e; cases e)) (fun i hi => upd_other S.gone false (show i ≠ S.n by omega))]
/-- 'x.watch[c] = append(x.watch[c], i)' -/
theorem Rep.appWatch (h : Rep cx w own rv S) {c i g cap : Nat} (hc : c < 2 * cx.V + 2) {w1 : World} (A : AppOut cx.lo w (.wr c) (rv (.wr c)) g cap ((S.watch c).length + 1) (natC (S.watch c) ++ [.int .i64 (i : Int)]) w1) :
    Rep cx (w1.setCell ⟨cx.wb, c, none⟩ (.slice (some ⟨g, 0, none⟩) ((S.watch c).length + 1) cap)) (lab own g (.wr c)) (upd rv (.wr c) (.slice (some ⟨g, 0, none⟩) ((S.watch c).length + 1) cap)) { S with watch := upd S.watch c (S.watch c ++ [i]) } := by
  have F := A.facts h rfl
  have hx1 := h.wt.keep F.ext fun k hk => F.kept k _ hk (by intro e; cases e)
  have hK := kept_setCell (w := w1) (m := c) (u := .slice (some ⟨g, 0, none⟩) ((S.watch c).length + 1) cap) hx1.lab
  refine h.master (fun t => t ≠ .wr c ∧ t ≠ .watch) F.ext (fun k t e => by rw [World.size_setCell]; exact F.dom k t e) (fun k t e ht => (hK k t (F.ext k t e) ht.2).trans (F.kept k t e ht.1)) (.inl ⟨⟨(by intro e; cases e), (by intro e; cases e)⟩, fun j hj => ?_⟩) (.inr (tab_set hx1 hc _ (upd_same ..) fun m _ hne => upd_other _ _ (by intro e; cases e; exact hne rfl))) (.inl ⟨⟨(by intro e; cases e), (by intro e; cases e)⟩, fun m _ => upd_other _ _ (by intro e; cases e)⟩) (.inl ⟨⟨(by intro e; cases e), (by intro e; cases e)⟩, rfl⟩) (fun t ht => ?_) (.inl ⟨⟨(by intro e; cases e), (by intro e; cases e)⟩, rfl, fun k => upd_other _ _ (by intro e; cases e)⟩)
  · match j, hj with
    | 0, _ => rfl
    | 1, _ => exact upd_other _ _ (by intro e; cases e)
    | 2, _ => rfl
    | 3, _ => rfl
    | 4, _ => exact upd_other _ _ (by intro e; cases e)
    | 5, _ => rfl
    | 6, _ => rfl
    | 7, _ => rfl
    | 8, _ => exact upd_other _ _ (by intro e; cases e)
  · by_cases e : t = .wr c
    · subst e
      rw [upd_same]
      have e1 : elen { S with watch := upd S.watch c (S.watch c ++ [i]) } (.wr c) = (S.watch c).length + 1 := by show (upd S.watch c _ c).length = _; rw [upd_same, List.length_append]; rfl
      have e2 : cont (upd rv (.wr c) (.slice (some ⟨g, 0, none⟩) ((S.watch c).length + 1) cap)) { S with watch := upd S.watch c (S.watch c ++ [i]) } (.wr c) = natC (S.watch c) ++ [.int .i64 (i : Int)] := by show natC (upd S.watch c _ c) = _; rw [upd_same, natC_append]; rfl
      rw [e1, e2]
      exact .inr (F.row.keep (Ext.refl _) fun k hk => hK k _ hk (by intro e; cases e))
    · exact .inl ⟨⟨e, fun e => by subst e; cases ht⟩, upd_other _ _ e, elen_of (.wr c) e (fun _ => rfl) (fun _ _ => rfl) (fun k hk => upd_other _ _ fun e => hk (by rw [e])) (fun _ _ => rfl) (fun _ _ => rfl) (fun _ => rfl) (fun _ => rfl), cont_of (.wr c) e (fun _ => ⟨rfl, rfl, fun i _ => upd_other _ _ (by intro e; cases e)⟩) (fun _ _ => rfl) (fun k hk => upd_other _ _ fun e => hk (by rw [e])) (fun _ _ => rfl) (fun _ _ => rfl) (fun _ => rfl) (fun _ => rfl)⟩
theorem Rep.appHas (h : Rep cx w own rv S) {c i g cap : Nat} (hc : c < 2 * cx.V + 2) {w1 : World} (A : AppOut cx.lo w (.hr c) (rv (.hr c)) g cap ((S.has c).length + 1) (natC (S.has c) ++ [.int .i64 (i : Int)]) w1) :
    Rep cx (w1.setCell ⟨cx.hb, c, none⟩ (.slice (some ⟨g, 0, none⟩) ((S.has c).length + 1) cap)) (lab own g (.hr c)) (upd rv (.hr c) (.slice (some ⟨g, 0, none⟩) ((S.has c).length + 1) cap)) { S with has := upd S.has c (S.has c ++ [i]) } := by
  have F := A.facts h rfl
  have hx1 := h.ht.keep F.ext fun k hk => F.kept k _ hk (by intro e; cases e)
  have hK := kept_setCell (w := w1) (m := c) (u := .slice (some ⟨g, 0, none⟩) ((S.has c).length + 1) cap) hx1.lab
  refine h.master (fun t => t ≠ .hr c ∧ t ≠ .has) F.ext (fun k t e => by rw [World.size_setCell]; exact F.dom k t e) (fun k t e ht => (hK k t (F.ext k t e) ht.2).trans (F.kept k t e ht.1)) (.inl ⟨⟨(by intro e; cases e), (by intro e; cases e)⟩, fun j hj => ?_⟩) (.inl ⟨⟨(by intro e; cases e), (by intro e; cases e)⟩, fun m _ => upd_other _ _ (by intro e; cases e)⟩) (.inr (tab_set hx1 hc _ (upd_same ..) fun m _ hne => upd_other _ _ (by intro e; cases e; exact hne rfl))) (.inl ⟨⟨(by intro e; cases e), (by intro e; cases e)⟩, rfl⟩) (fun t ht => ?_) (.inl ⟨⟨(by intro e; cases e), (by intro e; cases e)⟩, rfl, fun k => upd_other _ _ (by intro e; cases e)⟩)
  · match j, hj with
    | 0, _ => rfl
    | 1, _ => exact upd_other _ _ (by intro e; cases e)
    | 2, _ => rfl
    | 3, _ => rfl
    | 4, _ => exact upd_other _ _ (by intro e; cases e)
    | 5, _ => rfl
    | 6, _ => rfl
    | 7, _ => rfl
    | 8, _ => exact upd_other _ _ (by intro e; cases e)
  · by_cases e : t = .hr c
    · subst e
      rw [upd_same]
      have e1 : elen { S with has := upd S.has c (S.has c ++ [i]) } (.hr c) = (S.has c).length + 1 := by show (upd S.has c _ c).length = _; rw [upd_same, List.length_append]; rfl
      have e2 : cont (upd rv (.hr c) (.slice (some ⟨g, 0, none⟩) ((S.has c).length + 1) cap)) { S with has := upd S.has c (S.has c ++ [i]) } (.hr c) = natC (S.has c) ++ [.int .i64 (i : Int)] := by show natC (upd S.has c _ c) = _; rw [upd_same, natC_append]; rfl
      rw [e1, e2]
      exact .inr (F.row.keep (Ext.refl _) fun k hk => hK k _ hk (by intro e; cases e))
    · exact .inl ⟨⟨e, fun e => by subst e; cases ht⟩, upd_other _ _ e, elen_of (.hr c) e (fun _ => rfl) (fun _ _ => rfl) (fun _ _ => rfl) (fun k hk => upd_other _ _ fun e => hk (by rw [e])) (fun _ _ => rfl) (fun _ => rfl) (fun _ => rfl), cont_of (.hr c) e (fun _ => ⟨rfl, rfl, fun i _ => upd_other _ _ (by intro e; cases e)⟩) (fun _ _ => rfl) (fun _ _ => rfl) (fun k hk => upd_other _ _ fun e => hk (by rw [e])) (fun _ _ => rfl) (fun _ => rfl) (fun _ => rfl)⟩
/-- a cell of a clause is written -/
theorem Rep.setLit (h : Rep cx w own rv S) {i g n cap : Nat} (hv : rv (.cl i) = .slice (some ⟨g, 0, none⟩) n cap) (j : Nat) (y : Int) :
    Rep cx (w.setCell ⟨g, j, none⟩ (.int .i64 y)) own rv { S with lits := upd S.lits i ((S.lits i).set j y) } := by
  have hrow := h.rows (.cl i) rfl
  rw [hv] at hrow
  have hg := hrow.lab g rfl
  have hn : n = (S.lits i).length := by
    rcases hrow.row.2 with ⟨e, _⟩ | ⟨g', cap', cur, e, _⟩
    · cases e
    · cases e; rfl
  have hK := kept_setCell (w := w) (m := j) (u := .int .i64 y) hg
  refine h.master (· ≠ .cl i) (Ext.refl _) (fun g t e => by rw [World.size_setCell]; exact h.dom g t e) hK (.inl ⟨(by intro e; cases e), fun k hk => by unfold fld; rfl⟩) (.inl ⟨(by intro e; cases e), fun _ _ => rfl⟩) (.inl ⟨(by intro e; cases e), fun _ _ => rfl⟩) (.inl ⟨(by intro e; cases e), rfl⟩) (fun t ht => ?_) (.inl ⟨(by intro e; cases e), rfl, fun _ => rfl⟩)
  by_cases e : t = .cl i
  · subst e
    have e1 : elen { S with lits := upd S.lits i ((S.lits i).set j y) } (.cl i) = (S.lits i).length := by show (upd S.lits i _ i).length = _; rw [upd_same, List.length_set]
    have e2 : cont rv { S with lits := upd S.lits i ((S.lits i).set j y) } (.cl i) = (intC (S.lits i)).set j (.int .i64 y) := by show intC (upd S.lits i _ i) = _; rw [upd_same]; unfold intC; rw [List.map_set]
    rw [e1, e2, hv]
    have hst := hrow.row
    have hst : w.ownsRow cx.lo 3 1 (.slice (some ⟨g, 0, none⟩) n cap) (S.lits i).length (intC (S.lits i)) := hst
    rw [← hn] at hst ⊢
    exact .inr ⟨(hst.stored j _).1, hrow.lab⟩
  · exact .inl ⟨e, rfl, elen_of (.cl i) e (fun _ => rfl) (fun k hk => upd_other _ _ fun e => hk (by rw [e])) (fun _ _ => rfl) (fun _ _ => rfl) (fun _ _ => rfl) (fun _ => rfl) (fun _ => rfl), cont_of (.cl i) e (fun _ => ⟨rfl, rfl, fun _ _ => rfl⟩) (fun k hk => upd_other _ _ fun e => hk (by rw [e])) (fun _ _ => rfl) (fun _ _ => rfl) (fun _ _ => rfl) (fun _ => rfl) (fun _ => rfl)⟩
/-- a cell of a watch list is written -/
theorem Rep.setWatch (h : Rep cx w own rv S) {c g n cap : Nat} (hv : rv (.wr c) = .slice (some ⟨g, 0, none⟩) n cap) (j : Nat) (y : Nat) :
    Rep cx (w.setCell ⟨g, j, none⟩ (.int .i64 (y : Int))) own rv { S with watch := upd S.watch c ((S.watch c).set j y) } := by
  have hrow := h.rows (.wr c) rfl
  rw [hv] at hrow
  have hg := hrow.lab g rfl
  have hn : n = (S.watch c).length := by
    rcases hrow.row.2 with ⟨e, _⟩ | ⟨g', cap', cur, e, _⟩
    · cases e
    · cases e; rfl
  have hK := kept_setCell (w := w) (m := j) (u := .int .i64 (y : Int)) hg
  refine h.master (· ≠ .wr c) (Ext.refl _) (fun g t e => by rw [World.size_setCell]; exact h.dom g t e) hK (.inl ⟨(by intro e; cases e), fun k hk => by unfold fld; rfl⟩) (.inl ⟨(by intro e; cases e), fun _ _ => rfl⟩) (.inl ⟨(by intro e; cases e), fun _ _ => rfl⟩) (.inl ⟨(by intro e; cases e), rfl⟩) (fun t ht => ?_) (.inl ⟨(by intro e; cases e), rfl, fun _ => rfl⟩)
  by_cases e : t = .wr c
  · subst e
    have e1 : elen { S with watch := upd S.watch c ((S.watch c).set j y) } (.wr c) = (S.watch c).length := by show (upd S.watch c _ c).length = _; rw [upd_same, List.length_set]
    have e2 : cont rv { S with watch := upd S.watch c ((S.watch c).set j y) } (.wr c) = (natC (S.watch c)).set j (.int .i64 (y : Int)) := by show natC (upd S.watch c _ c) = _; rw [upd_same]; unfold natC; rw [List.map_set]
    rw [e1, e2, hv]
    have hst := hrow.row
    have hst : w.ownsRow cx.lo 3 1 (.slice (some ⟨g, 0, none⟩) n cap) (S.watch c).length (natC (S.watch c)) := hst
    rw [← hn] at hst ⊢
    exact .inr ⟨(hst.stored j _).1, hrow.lab⟩
  · exact .inl ⟨e, rfl, elen_of (.wr c) e (fun _ => rfl) (fun _ _ => rfl) (fun k hk => upd_other _ _ fun e => hk (by rw [e])) (fun _ _ => rfl) (fun _ _ => rfl) (fun _ => rfl) (fun _ => rfl), cont_of (.wr c) e (fun _ => ⟨rfl, rfl, fun _ _ => rfl⟩) (fun _ _ => rfl) (fun k hk => upd_other _ _ fun e => hk (by rw [e])) (fun _ _ => rfl) (fun _ _ => rfl) (fun _ => rfl) (fun _ => rfl)⟩
/-- a clause is gone -/
theorem Rep.setGone (h : Rep cx w own rv S) {i g n cap : Nat} (hi : i < S.n) (hv : rv .all = .slice (some ⟨g, 0, none⟩) n cap) :
    Rep cx (w.setCell ⟨g, i * 2 + 1, none⟩ (.bool true)) own rv { S with gone := upd S.gone i true } := by
  have hrow := h.rows .all rfl
  rw [hv] at hrow
  have hg := hrow.lab g rfl
  have hn : n = S.n := by
    rcases hrow.row.2 with ⟨e, _⟩ | ⟨g', cap', cur, e, _⟩
    · cases e
    · cases e; rfl
  have hK := kept_setCell (w := w) (m := i * 2 + 1) (u := .bool true) hg
  refine h.master (· ≠ .all) (Ext.refl _) (fun g t e => by rw [World.size_setCell]; exact h.dom g t e) hK (.inl ⟨(by intro e; cases e), fun k hk => by unfold fld; rfl⟩) (.inl ⟨(by intro e; cases e), fun _ _ => rfl⟩) (.inl ⟨(by intro e; cases e), fun _ _ => rfl⟩) (.inl ⟨(by intro e; cases e), rfl⟩) (fun t ht => ?_) (.inl ⟨(by intro e; cases e), rfl, fun _ => rfl⟩)
  by_cases e : t = .all
  · subst e
    have e2 : cont rv { S with gone := upd S.gone i true } .all = (allC rv S.gone S.n).set (i * 2 + 1) (.bool true) := (allC_gone rv S.gone hi).symm
    rw [e2, hv]
    have hst := hrow.row
    have hst : w.ownsRow cx.lo 74 2 (.slice (some ⟨g, 0, none⟩) n cap) S.n (allC rv S.gone S.n) := hst
    rw [← hn] at hst ⊢
    exact .inr ⟨(hst.stored (i * 2 + 1) _).1, hrow.lab⟩
  · exact .inl ⟨e, rfl, elen_of .all e (fun _ => rfl) (fun _ _ => rfl) (fun _ _ => rfl) (fun _ _ => rfl) (fun _ _ => rfl) (fun _ => rfl) (fun _ => rfl), cont_of .all e (fun e2 => absurd rfl e2) (fun _ _ => rfl) (fun _ _ => rfl) (fun _ _ => rfl) (fun _ _ => rfl) (fun _ => rfl) (fun _ => rfl)⟩
/-- a row of the call's own becomes a clause -/
theorem Rep.link (h : Rep cx w own rv S) {v : Value} {zs : List Int} (hv : w.ownsRow cx.lo 3 1 v zs.length (intC zs)) (hf : ∀ g, v.ownBlock = some g → own g = none) :
    ∃ own', (∀ k, own' k = own k ∨ v.ownBlock = some k) ∧ Ext own own' ∧ Rep cx w own' (upd rv (.cl S.n) v) { S with lits := upd S.lits S.n zs } := by
  have key : ∀ own', Ext own own' → (∀ g t, own' g = some t → cx.lo ≤ g ∧ g < w.heap.size) → (∀ g, v.ownBlock = some g → own' g = some (.cl S.n)) → Rep cx w own' (upd rv (.cl S.n) v) { S with lits := upd S.lits S.n zs } := by
    intro own' he hd hl
    refine h.master (fun _ => True) he hd (fun _ _ _ _ => rfl) (.inl ⟨trivial, fun j hj => ?_⟩) (.inl ⟨trivial, fun m _ => upd_other _ _ (by intro e; cases e)⟩) (.inl ⟨trivial, fun m _ => upd_other _ _ (by intro e; cases e)⟩) (.inl ⟨trivial, rfl⟩) (fun t ht => ?_) (.inl ⟨trivial, rfl, fun k => upd_other _ _ (by intro e; cases e)⟩)
    · match j, hj with
      | 0, _ => rfl
      | 1, _ => exact upd_other _ _ (by intro e; cases e)
      | 2, _ => rfl
      | 3, _ => rfl
      | 4, _ => exact upd_other _ _ (by intro e; cases e)
      | 5, _ => rfl
      | 6, _ => rfl
      | 7, _ => rfl
      | 8, _ => exact upd_other _ _ (by intro e; cases e)
    · by_cases e : t = .cl S.n
      · subst e
        have e1 : elen { S with lits := upd S.lits S.n zs } (.cl S.n) = zs.length := by show (upd S.lits S.n _ S.n).length = _; rw [upd_same]
        have e2 : cont (upd rv (.cl S.n) v) { S with lits := upd S.lits S.n zs } (.cl S.n) = intC zs := by show intC (upd S.lits S.n _ S.n) = _; rw [upd_same]
        rw [e1, e2, upd_same]
        exact .inr ⟨hv, hl⟩
      · exact .inl ⟨trivial, upd_other _ _ e, elen_of (.cl S.n) e (fun _ => rfl) (fun k hk => upd_other _ _ fun e => hk (by rw [e])) (fun _ _ => rfl) (fun _ _ => rfl) (fun _ _ => rfl) (fun _ => rfl) (fun _ => rfl), cont_of (.cl S.n) e (fun _ => ⟨rfl, rfl, fun i hi => upd_other _ _ (by intro e; cases e; omega)⟩) (fun k hk => upd_other _ _ fun e => hk (by rw [e])) (fun _ _ => rfl) (fun _ _ => rfl) (fun _ _ => rfl) (fun _ => rfl) (fun _ => rfl)⟩
  cases hb : v.ownBlock with
  | none => exact ⟨own, fun k => .inl rfl, Ext.refl _, key own (Ext.refl _) h.dom fun g hg => by rw [hb] at hg; cases hg⟩
  | some g =>
    refine ⟨lab own g (.cl S.n), fun k => ?_, lab_ext (.inr (hf g hb)), key _ (lab_ext (.inr (hf g hb))) (fun k t e => ?_) fun k hk => ?_⟩
    · by_cases hk : k = g
      · exact .inr (by rw [hk])
      · exact .inl (lab_other _ _ hk)
    · by_cases hk : k = g
      · subst hk; exact hv.lt k hb
      · rw [lab_other _ _ hk] at e; exact h.dom k t e
    · rw [hb] at hk; cases hk; exact lab_same ..
end
end Go.Proofs.YtagfnjpjmmleiaaDoor

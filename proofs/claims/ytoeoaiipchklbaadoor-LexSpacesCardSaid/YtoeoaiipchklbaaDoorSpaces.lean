/- Proved: for all words and gaps, LexSpaces answers true; and its input reads as it did. No condition but the row's own: the listed variables read as the program's text lays them, and the card ties that. -/
import Derived.Test.YtoeoaiipchklbaaDoorCards
import Derived.Test.YtoeoaiipchklbaaDoorZ
import Derived.Test.YtoeoaiipchklbaaDoorP3
import Derived.Carry
import Derived.SliceStrings
set_option linter.unusedVariables false
namespace Go.Proofs.YtoeoaiipchklbaaDoor
open Go.ChangeShapes Go.WideShapes Go.ChangeAt Go.RowKit Go.ChangeMaps
set_option linter.unusedVariables false
set_option maxRecDepth 100000
/-- where the arguments lie -/
def L2 (p q : Option Go.X.Loc) : Go.X.LM := fun i => match i with
  | 0 => some ⟨0, 0, 256⟩
  | 1 => p
  | 2 => q
  | _ => none
theorem rg2 {p q : Option Go.X.Loc} : Go.X.RG (L2 p q) glA := by
  intro g i h
  obtain ⟨rfl, h2⟩ := glA_get h
  unfold glA at h
  cases hb : Nat.beq g 0 with
  | false => rw [hb] at h; cases h
  | true =>
    have : g = 0 := Nat.eq_of_beq_eq_true hb
    subst this
    exact ⟨256, rfl⟩
/-- a slice of strings, as the executor sees it -/
noncomputable def wordsOf (ss : List ByteArray) : Nat → Nat × Nat := fun k => ((ss.getD k ByteArray.empty).size, Go.X.pack (ss.getD k ByteArray.empty).data.toList)
theorem wordsOf_lt (ss : List ByteArray) (k : Nat) : (wordsOf ss k).2 < 256 ^ (wordsOf ss k).1 := Go.X.pack_lt _
theorem no_spot {W : World} {a : Addr} {v : Value} (h : W.cell? (a.add 0) = some v) : a.spot = none := by
  have e : a.add 0 = a := rfl
  rw [e] at h
  unfold World.cell? at h
  split at h
  · cases hs : a.spot with
    | none => rfl
    | some x => rw [hs] at h; cases h
  · cases h
theorem cell_at {W : World} {a : Addr} (ha : a.spot = none) {i : Nat} {v : Value} (h : W.cell? (a.add i) = some v) {c : Array Value} {e : TypeId} {fz : Nat × Nat} (hw : W.heap[a.block]? = some (.cells c e fz)) : c[a.off + i]? = some v := by
  obtain ⟨B, o, s⟩ := a
  have ha : s = none := ha
  subst ha
  rw [Go.X.add_at, Go.X.cell_row hw] at h
  exact h
theorem cells_of {W : World} {a : Addr} {i : Nat} {v : Value} (h : W.cell? (a.add i) = some v) : ∃ c e fz, W.heap[a.block]? = some (.cells c e fz) := by
  have hb : (a.add i).block = a.block := by unfold Addr.add; split <;> rfl
  unfold World.cell? at h
  rw [hb] at h
  split at h
  · exact ⟨_, _, _, by assumption⟩
  · cases h
/-- a slice argument's cells -/
theorem slice_cells {W : World} {a : Addr} {cap : Nat} {f : Nat → Value} (h0 : 0 < cap) (h : ∀ i, i < cap → W.cell? (a.add i) = some (f i)) : a.spot = none ∧ a.block < W.heap.size ∧ ∃ c e fz, W.heap[a.block]? = some (.cells c e fz) ∧ a.off + cap ≤ c.size ∧ ∀ i, i < cap → c[a.off + i]? = some (f i) := by
  have hs := no_spot (h 0 h0)
  obtain ⟨c, e, fz, hw⟩ := cells_of (h 0 h0)
  have hc : ∀ i, i < cap → c[a.off + i]? = some (f i) := fun i hi => cell_at hs (h i hi) hw
  refine ⟨hs, (Array.getElem?_eq_some_iff.1 hw).1, c, e, fz, hw, ?_, hc⟩
  have := (Array.getElem?_eq_some_iff.1 (hc (cap - 1) (by omega))).1
  omega
open Go.X in
theorem rhA {W : World} {c : Array Value} {e0 : TypeId} {fz : Nat × Nat} (hw : W.heap[0]? = some (.cells c e0 fz)) (hc : c = (spaceZ.map fun z => Value.int .u8 z).toArray)
    {a : Addr} {c1 : Array Value} {e1 : TypeId} {fz1 : Nat × Nat} {wn : Nat} {Wf : Nat → Nat × Nat} (h1 : W.heap[a.block]? = some (.cells c1 e1 fz1)) (o1 : a.off ≤ c1.size) (r1 : ∀ k, k < wn → ∃ v', c1[a.off + k]? = some v' ∧ RV (L2 none none) (.str (Wf k).1 (Wf k).2) v')
    {b : Addr} {c2 : Array Value} {e2 : TypeId} {fz2 : Nat × Nat} {gn : Nat} {G : Nat → Int} (h2 : W.heap[b.block]? = some (.cells c2 e2 fz2)) (o2 : b.off ≤ c2.size) (r2 : ∀ k, k < gn → c2[b.off + k]? = some (.int .i64 (G k))) (U : Nat) :
    RH (L2 (some (Go.X.Loc.mk a.block a.off c1.size)) (some (Go.X.Loc.mk b.block b.off c2.size))) (hSA (e0, e1, e2) wn Wf gn G) W U := by
  have get : ∀ {i : Nat} {k : Blk}, (hSA (e0, e1, e2) wn Wf gn G).b.get i = some k → (i = 0 ∧ k = .row ASCII e0 false []) ∨ (i = 1 ∧ k = wPur e1 wn Wf) ∨ (i = 2 ∧ k = gPur e2 gn G) := by
    intro i k hi
    have hi : T.get (T.set (T.set (T.set T.leaf (.row ASCII e0 false []) 0) (wPur e1 wn Wf) 1) (gPur e2 gn G) 2) i = some k := hi
    rcases T.get_set hi with ⟨rfl, rfl⟩ | ⟨_, hi⟩
    · exact .inr (.inr ⟨rfl, rfl⟩)
    · rcases T.get_set hi with ⟨rfl, rfl⟩ | ⟨_, hi⟩
      · exact .inr (.inl ⟨rfl, rfl⟩)
      · rcases T.get_set hi with ⟨rfl, rfl⟩ | ⟨_, hi⟩
        · exact .inl ⟨rfl, rfl⟩
        · exact (leaf_none hi).elim
  refine ⟨?_, ?_, ?_, ?_, ?_⟩
  · intro i k p hi hp
    rcases get hi with ⟨rfl, rfl⟩ | ⟨rfl, rfl⟩ | ⟨rfl, rfl⟩
    · cases hp
      refine ⟨c, fz, hw, ⟨by rw [hc]; rfl, Nat.zero_le _⟩, (fun h => by cases h), fun k v hk => ?_⟩
      rw [spaceA, List.getElem?_map, Option.map_eq_some_iff] at hk
      obtain ⟨z, hz, rfl⟩ := hk
      refine ⟨.int .u8 z, ?_, .int _ _⟩
      rw [hc, Nat.zero_add, List.getElem?_toArray, List.getElem?_map, hz]; rfl
    · cases hp
      refine ⟨c1, fz1, h1, ⟨rfl, o1⟩, fun k hk => ?_⟩
      obtain ⟨v', g1, g2⟩ := r1 k hk
      refine ⟨v', g1, ?_⟩
      cases g2 with | str _ _ s hs => exact .str _ _ s hs
    · cases hp
      exact ⟨c2, fz2, h2, ⟨rfl, o2⟩, fun k hk => ⟨_, r2 k hk, .int _ _⟩⟩
  · intro i j ki kj p q hi hj _ _ _ hwr
    rcases get hi with ⟨rfl, rfl⟩ | ⟨rfl, rfl⟩ | ⟨rfl, rfl⟩ <;> cases hwr
  · intro i h _
    match i, h with
    | i + 3, _ => rfl
  · intro i p hp
    match i with
    | 0 => cases hp; exact (Array.getElem?_eq_some_iff.1 hw).1
    | 1 => cases hp; exact (Array.getElem?_eq_some_iff.1 h1).1
    | 2 => cases hp; exact (Array.getElem?_eq_some_iff.1 h2).1
    | i + 3 => cases hp
  · intro i k hi
    rcases get hi with ⟨rfl, rfl⟩ | ⟨rfl, rfl⟩ | ⟨rfl, rfl⟩
    · exact (by decide : 0 < 3)
    · exact (by decide : 1 < 3)
    · exact (by decide : 2 < 3)
open Go.X in
theorem roA {p q : Option Go.X.Loc} {e : Nat × Nat × Nat} {wn : Nat} {Wf : Nat → Nat × Nat} {gn : Nat} {G : Nat → Int} (B : Nat) : ¬ Own (L2 p q) (hSA e wn Wf gn G) B := by
  rintro ⟨i, k, r, hi, hw, _⟩
  have hi : T.get (T.set (T.set (T.set T.leaf (.row ASCII e.1 false []) 0) (wPur e.2.1 wn Wf) 1) (gPur e.2.2 gn G) 2) i = some k := hi
  rcases T.get_set hi with ⟨rfl, rfl⟩ | ⟨_, hi⟩
  · cases hw
  · rcases T.get_set hi with ⟨rfl, rfl⟩ | ⟨_, hi⟩
    · cases hw
    · rcases T.get_set hi with ⟨rfl, rfl⟩ | ⟨_, hi⟩
      · cases hw
      · exact (leaf_none hi).elim
open Go.X in
theorem rhB {W : World} {c : Array Value} {e0 : TypeId} {fz : Nat × Nat} (hw : W.heap[0]? = some (.cells c e0 fz)) (hc : c = (spaceZ.map fun z => Value.int .u8 z).toArray)
    {a : Addr} {c1 : Array Value} {e1 : TypeId} {fz1 : Nat × Nat} {wn : Nat} {Wf : Nat → Nat × Nat} (h1 : W.heap[a.block]? = some (.cells c1 e1 fz1)) (o1 : a.off ≤ c1.size) (r1 : ∀ k, k < wn → ∃ v', c1[a.off + k]? = some v' ∧ RV (L2 none none) (.str (Wf k).1 (Wf k).2) v') (U : Nat) :
    RH (L2 (some (Go.X.Loc.mk a.block a.off c1.size)) none) (hSB (e0, e1, e1) wn Wf) W U := by
  have get : ∀ {i : Nat} {k : Blk}, (hSB (e0, e1, e1) wn Wf).b.get i = some k → (i = 0 ∧ k = .row ASCII e0 false []) ∨ (i = 1 ∧ k = wPur e1 wn Wf) := by
    intro i k hi
    have hi : T.get (T.set (T.set T.leaf (.row ASCII e0 false []) 0) (wPur e1 wn Wf) 1) i = some k := hi
    rcases T.get_set hi with ⟨rfl, rfl⟩ | ⟨_, hi⟩
    · exact .inr ⟨rfl, rfl⟩
    · rcases T.get_set hi with ⟨rfl, rfl⟩ | ⟨_, hi⟩
      · exact .inl ⟨rfl, rfl⟩
      · exact (leaf_none hi).elim
  refine ⟨?_, ?_, ?_, ?_, ?_⟩
  · intro i k p hi hp
    rcases get hi with ⟨rfl, rfl⟩ | ⟨rfl, rfl⟩
    · cases hp
      refine ⟨c, fz, hw, ⟨by rw [hc]; rfl, Nat.zero_le _⟩, (fun h => by cases h), fun k v hk => ?_⟩
      rw [spaceA, List.getElem?_map, Option.map_eq_some_iff] at hk
      obtain ⟨z, hz, rfl⟩ := hk
      refine ⟨.int .u8 z, ?_, .int _ _⟩
      rw [hc, Nat.zero_add, List.getElem?_toArray, List.getElem?_map, hz]; rfl
    · cases hp
      refine ⟨c1, fz1, h1, ⟨rfl, o1⟩, fun k hk => ?_⟩
      obtain ⟨v', g1, g2⟩ := r1 k hk
      refine ⟨v', g1, ?_⟩
      cases g2 with | str _ _ s hs => exact .str _ _ s hs
  · intro i j ki kj p q hi hj _ _ _ hwr
    rcases get hi with ⟨rfl, rfl⟩ | ⟨rfl, rfl⟩ <;> cases hwr
  · intro i h _
    match i, h with
    | i + 3, _ => rfl
  · intro i p hp
    match i with
    | 0 => cases hp; exact (Array.getElem?_eq_some_iff.1 hw).1
    | 1 => cases hp; exact (Array.getElem?_eq_some_iff.1 h1).1
    | 2 => cases hp
    | i + 3 => cases hp
  · intro i k hi
    rcases get hi with ⟨rfl, rfl⟩ | ⟨rfl, rfl⟩
    · exact (by decide : 0 < 3)
    · exact (by decide : 1 < 3)
open Go.X in
theorem roB {p q : Option Go.X.Loc} {e : Nat × Nat × Nat} {wn : Nat} {Wf : Nat → Nat × Nat} (B : Nat) : ¬ Own (L2 p q) (hSB e wn Wf) B := by
  rintro ⟨i, k, r, hi, hw, _⟩
  have hi : T.get (T.set (T.set T.leaf (.row ASCII e.1 false []) 0) (wPur e.2.1 wn Wf) 1) i = some k := hi
  rcases T.get_set hi with ⟨rfl, rfl⟩ | ⟨_, hi⟩
  · cases hw
  · rcases T.get_set hi with ⟨rfl, rfl⟩ | ⟨_, hi⟩
    · cases hw
    · exact (leaf_none hi).elim
/-- a call from what a run says -/
theorem call_of {C : Go.X.Cfg} (G : Go.X.Good C Tryd.prog) (hgl : C.gl = glA) {f : Nat} {args : List Go.X.AV} {h : Go.X.H} {L : Go.X.LM} {W : World} (rh : ∀ U, Go.X.RH L h W U) (ro : ∀ B, ¬ Go.X.Own L h B) (rg : Go.X.RG L glA)
    (hk : Go.X.Ran (Go.X.xfun C Tryd.prog (Go.X.xcode C Tryd.prog F) f args h [] (fun v _ _ => v = .bool true))) {args' : Array Value} (hargs : Go.X.RVs L args args'.toList) :
    Calls Tryd.prog f args' W fun e w' => e = .returned (.bool true) ∧ Go.X.Quiet W w' := by
  refine (Go.X.xrun_ro G.ok G.spl hk rh ro (by rw [hgl]; exact rg) hargs).mono ?_
  rintro e w' ⟨v, v', L', rfl, rfl, r, q⟩
  cases r
  exact ⟨rfl, q⟩
theorem spaces_empty (a : Option Addr) (c : Nat) (g : Value) {W : World} (hl : laidMetH Tryd.prog laidL W) : Calls Tryd.prog 5 #[.slice a 0 c, g] W fun e w' => e = .returned (.bool true) ∧ Go.X.Quiet W w' :=
  law_call (V := .bool true) goodCP0 rfl hl (fun e => spaces_0 e .any) (args := [.emp, .any]) (.cons _ _ _ _ (.emp _ _) (.cons _ _ _ _ (.any _) .nil))
open Go.X in
theorem words_rv {ss : List ByteArray} {c1 : Array Value} {off len cap : Nat} (hlen : len ≤ cap) (hc : ∀ i, i < cap → c1[off + i]? = some (.string (ss.getD i ByteArray.empty))) (k : Nat) (hk : k < len) : ∃ v', c1[off + k]? = some v' ∧ RV (L2 none none) (.str (wordsOf ss k).1 (wordsOf ss k).2) v' :=
  ⟨_, hc k (by omega), .str _ _ _ (strOf_eq _)⟩
theorem addr_eta {a : Addr} (h : a.spot = none) : a = ⟨a.block, a.off + 0, none⟩ := by
  obtain ⟨B, o, s⟩ := a
  have h : s = none := h
  subst h; rfl
theorem spaces_call {a : Addr} {len cap : Nat} {ss : List ByteArray} (h0 : 0 < len) (hlen : len ≤ cap) {W : World} (hl : laidMetH Tryd.prog laidL W)
    (hw : ∀ i, i < cap → W.cell? (a.add i) = some (.string (ss.getD i ByteArray.empty))) {g : Value}
    (hg : (∃ b c, g = .slice b 0 c) ∨ ∃ (b : Addr) (gl gc : Nat) (zs : List Int), g = .slice (some b) gl gc ∧ 0 < gl ∧ gl ≤ gc ∧ ∀ i, i < gc → W.cell? (b.add i) = some (.int .i64 (zs.getD i 0))) :
    Calls Tryd.prog 5 #[.slice (some a) len cap, g] W fun e w' => e = .returned (.bool true) ∧ Go.X.Quiet W w' := by
  obtain ⟨c, e0, fz, g0, hc⟩ := of_laid hl
  obtain ⟨s1, b1, c1, e1, fz1, w1, z1, q1⟩ := slice_cells (f := fun i => .string (ss.getD i ByteArray.empty)) (by omega) hw
  rcases hg with ⟨b, gc, rfl⟩ | ⟨b, gl, gc, zs, rfl, g1, g2, g3⟩
  · refine call_of (goodCP3B (e0, e1, e1) len (wordsOf ss)) rfl (rhB g0 hc w1 (by omega) (words_rv hlen q1)) (roB) rg2 (spaces_B (e0, e1, e1) len (wordsOf ss) (wordsOf_lt ss)) (.cons _ _ _ _ ?_ (.cons _ _ _ _ (.emp _ _) .nil))
    have := Go.X.RV.slc (L := L2 (some (Go.X.Loc.mk a.block a.off c1.size)) none) 1 0 len len false 1 (Go.X.Loc.mk a.block a.off c1.size) cap rfl hlen (Nat.le_refl _) (fun h => by cases h) (by show a.off + 0 + cap * 1 ≤ c1.size; omega)
    rw [addr_eta s1]; exact this
  · obtain ⟨s2, b2, c2, e2, fz2, w2, z2, q2⟩ := slice_cells (f := fun i => .int .i64 (zs.getD i 0)) (by omega) g3
    refine call_of (goodCP3A (e0, e1, e2) len (wordsOf ss) gl (fun k => zs.getD k 0)) rfl (rhA g0 hc w1 (by omega) (words_rv hlen q1) w2 (by omega) (fun k hk => q2 k (by omega))) (roA) rg2 (spaces_A (e0, e1, e2) len (wordsOf ss) gl (fun k => zs.getD k 0) (wordsOf_lt ss)) (.cons _ _ _ _ ?_ (.cons _ _ _ _ ?_ .nil))
    · have := Go.X.RV.slc (L := L2 (some (Go.X.Loc.mk a.block a.off c1.size)) (some (Go.X.Loc.mk b.block b.off c2.size))) 1 0 len len false 1 (Go.X.Loc.mk a.block a.off c1.size) cap rfl hlen (Nat.le_refl _) (fun h => by cases h) (by show a.off + 0 + cap * 1 ≤ c1.size; omega)
      rw [addr_eta s1]; exact this
    · have := Go.X.RV.slc (L := L2 (some (Go.X.Loc.mk a.block a.off c1.size)) (some (Go.X.Loc.mk b.block b.off c2.size))) 2 0 gl gl false 1 (Go.X.Loc.mk b.block b.off c2.size) gc rfl g2 (Nat.le_refl _) (fun h => by cases h) (by show b.off + 0 + gc * 1 ≤ c2.size; omega)
      rw [addr_eta s2]; exact this
theorem laidOut : laidOutB Tryd.prog = true := by kernel_rfl
set_option maxRecDepth 100000 in
theorem lifted (os : Os) (started : os.Started) (H : Type) (enc : TypeId × Value → H) :
    ReturnsInHanded {} Tryd.checked os 5 .any (fun w args => (Rows.lexSpacesSpec.pre enc Tryd.prog Tryd.f5 [] false w args ∧ laidMetH Tryd.prog laidL w) ∧ sizedMet enc Tryd.prog Tryd.f5 (OpenSpec.ofChange Rows.lexSpacesSpec) false w args)
      (Rows.lexSpacesSpec.post enc Tryd.prog Tryd.f5 false true false false) := by
  refine returnsInHanded_of_change_and (C := Tryd.checked) (X := fun w _ => laidMetH Tryd.prog laidL w) (fun _ _ _ hh h => h.of_heap hh) own started (by kernel_rfl) Tryd.func5
    (ChangeSpec.witness_shaped (enc := enc) (C := Tryd.checked) (os := os) (X := fun w _ => laidMetH Tryd.prog laidL w) false (World.doorLaid Tryd.prog 33 os) #[.slice none 0 0, .slice none 0 0] 8 rfl (World.shaped_of_RefB (by kernel_rfl) (by kernel_rfl)) (by kernel_rfl) (by kernel_rfl) (by kernel_rfl) (door_met os _)) ?_
  intro W base args ds gs before hval0 hW _ _ hL _
  have hval : ∀ (j : Nat) t v, Tryd.f5.params[j]? = some t → args[j]? = some v → Value.okWide Tryd.prog W .any base t v := hval0
  have hW' := hW
  obtain ⟨p, q, hA0, hV, rfl, hfz, hnd⟩ := hW
  have hA : DataW.TrodAll enc Tryd.prog W 0 (fun _ => true) true Tryd.f5.params.toList args.toList ds p := hA0
  rw [Tryd.params5] at hA hval
  obtain ⟨v0, vs0, d0, ds0, p0, q0, hargs, rfl, rfl, h0, r0⟩ := trodAll_cons hA
  obtain ⟨v1, vs1, d1, ds1, p1, q1, rfl, rfl, rfl, h1, r1⟩ := trodAll_cons r0
  obtain ⟨rfl, rfl, rfl⟩ := trodAll_nil r1
  obtain rfl : args = #[v0, v1] := by cases args; simp_all
  obtain ⟨rfl, rfl⟩ := trodVars_none hV
  obtain ⟨a0, len, cap, rfl⟩ := Go.WideShapes.okWide_slice Tryd.underlying37 (hval 0 37 v0 rfl rfl)
  obtain ⟨a1, gl, gc, rfl⟩ := Go.WideShapes.okWide_slice Tryd.underlying39 (hval 1 39 v1 rfl rfl)
  have h0k := h0
  have h1k := h1
  obtain ⟨fu0, hf0⟩ := h0
  obtain ⟨fu1, hf1⟩ := h1
  have hcall : Calls Tryd.prog 5 #[.slice a0 len cap, .slice a1 gl gc] W fun e w' => e = .returned (.bool true) ∧ Go.X.Quiet W w' := by
    have hg : (∃ b c, Value.slice a1 gl gc = .slice b 0 c) ∨ ∃ (b : Addr) (l2 c2 : Nat) (zs : List Int), Value.slice a1 gl gc = .slice (some b) l2 c2 ∧ 0 < l2 ∧ l2 ≤ c2 ∧ ∀ i, i < c2 → W.cell? (b.add i) = some (.int .i64 (zs.getD i 0)) := by
      rcases open_ints Tryd.underlying39 Tryd.underlying3 (by kernel_rfl) hf1 with ⟨hcs, _⟩ | ⟨b, l2, c2, zs, hcs, _, hl2, _, hz, _, hcell, _⟩
      · have : Value.slice a1 gl gc = .slice none 0 0 := by simpa [Value.cells] using hcs
        exact .inl ⟨_, _, this⟩
      · have e : Value.slice a1 gl gc = .slice (some b) l2 c2 := by simpa [Value.cells] using hcs
        rcases Nat.eq_zero_or_pos l2 with hz0 | hz0
        · subst hz0; exact .inl ⟨_, _, e⟩
        · rw [if_pos rfl] at hz
          exact .inr ⟨b, l2, c2, zs, e, hz0, hl2, fun i hi => hcell i (by omega)⟩
    rcases open_strings Tryd.underlying37 Tryd.underlying9 (by kernel_rfl) hf0 with ⟨hcs, _⟩ | ⟨a, l1, c1, ss, hcs, _, hl1, _, hz, _, hcell, _⟩
    · have e : Value.slice a0 len cap = .slice none 0 0 := by simpa [Value.cells] using hcs
      rw [e]; exact spaces_empty _ _ _ hL
    · have e : Value.slice a0 len cap = .slice (some a) l1 c1 := by simpa [Value.cells] using hcs
      rw [e]
      rcases Nat.eq_zero_or_pos l1 with hz0 | hz0
      · subst hz0; exact spaces_empty _ _ _ hL
      · rw [if_pos rfl] at hz
        exact spaces_call hz0 hl1 hL (fun i hi => hcell i (by omega)) hg
  clear hA0 hval0
  simp only [List.append_nil] at hW'
  refine hcall.mono fun e W' ⟨he, hg⟩ => ?_
  subst he
  have hb : Below W.heap.size W W' := ⟨hg.os, hg.tape, hg.output, hg.size, fun k hk => hg.keep k hk⟩
  have hlt : ∀ p ∈ p0 ++ p1, p.block < W.heap.size := fun p hp => hW'.lt p hp
  refine ⟨_, rfl, post_quiet (pa := p0 ++ (p1 ++ [])) (pv := []) hW' (fun _ _ _ => (trodAll_cons_mk (shut_bool Tryd.underlying4 _) trodAll_mk0)) (fun sp hsp => ?_) (fun _ _ => rfl) (by simp)
    hg (ok_one (by kernel_rfl) rfl (okWide_bool_mk Tryd.underlying4 _))⟩
  have t0 := Go.WideElems.Trod_stays (sp' := sp) laidOut (by kernel_rfl) (of_decide_eq_true (by kernel_rfl)) h0k (fun x hx => hb.same (hlt x (List.mem_append_left _ hx))) (fun x hx => hsp x (by simpa using Or.inl hx))
  have t1 := Go.WideElems.Trod_stays (sp' := sp) laidOut (by kernel_rfl) (of_decide_eq_true (by kernel_rfl)) h1k (fun x hx => hb.same (hlt x (List.mem_append_right _ hx))) (fun x hx => hsp x (by simpa using Or.inr hx))
  exact trodAll_cons_mk t0 (trodAll_cons_mk t1 trodAll_mk0)
theorem over : Rows.LexSpacesSaid :=
  OpenClaim.holds_of_wide 5 Tryd.f5 rfl rfl rfl rfl rfl rfl rfl ⟨rfl, rfl, rfl, rfl, rfl⟩ rfl rfl rfl rfl rfl (by kernel_rfl) Tryd.func5 (by kernel_rfl)
    (of_decide_eq_true (by kernel_rfl)) (by unfold Func.isWrapper; first | (rw [if_pos (by decide +kernel)]; kernel_rfl) | (rw [if_neg (by decide +kernel)]; exact ⟨rfl, rfl⟩))
    (fun os started H enc _ => lifted os started H enc)
/-- the statement -/
theorem lexSpaces_card : Rows.LexSpacesCardSaid :=
  Claim7.holds_tied_plain_at .later [] [.listed, .data] true (true, "d693a59a2605abab18937f7b1aad55e089952f352892f45ef532b199af370b83") false
    over (fun _ h => by cases h) (by kernel_rfl) (fun _ h => by cases h) lexSpaces_row_tie rfl ⟨rfl, rfl⟩ (by kernel_rfl) rfl
    (fun f fn hf hfn => by
      obtain rfl : f = 5 := Option.some.inj ((show Tryd.prog.funcNamed "metronome/metronomelaw2.LexSpaces" = some 5 by kernel_rfl).symm.trans hf) |>.symm
      obtain rfl : fn = Tryd.f5 := (Option.some.inj (Tryd.func5.symm.trans hfn)).symm
      exact ⟨by kernel_rfl, fun j t ht => by
        rw [Tryd.params5] at ht
        have hm : t ∈ [37, 39] := by simpa using Array.mem_of_getElem? ht
        have hall : ([37, 39].all fun u => !Tryd.prog.wantsStandIn u) = true := by kernel_rfl
        exact (show Tryd.prog.wantsStandIn t = false by simpa using List.all_eq_true.1 hall t hm)⟩)
    (by kernel_rfl)
#print axioms lexSpaces_card
end Go.Proofs.YtoeoaiipchklbaaDoor

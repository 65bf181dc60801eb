/- Sat: what Solve gives, whatever the formula; a second answer, written over. -/
import Derived.Test.YtkpppmldbhgcgaaScQtoScR
set_option linter.unusedVariables false
set_option linter.unusedSimpArgs false
set_option autoImplicit false
set_option linter.unusedVariables false
set_option linter.unusedSimpArgs false
namespace Go.Proofs.Ytkpppmldbhgcgaa
open Go Go.Shelf Go.RowKit
/-- what Solve gives, whatever the formula -/
def SolveAny (w : World) (q : Int) (ans : Ans) (e : Ending) (w' : World) : Prop :=
  ∃ mv pv, e = .returned (.tuple #[.agg #[.int .i64 ans.what, mv, pv], .int .i64 q]) ∧ Below w.heap.size w w' ∧ w'.ownsRow w.heap.size 4 1 mv ans.model.length (ans.model.map Value.bool) ∧ ProofAt w.heap.size w' pv ans.proof
theorem solve_any {a : Option Addr} {n c : Nat} {cs : List D.Cl} {vars budget : Int} (hn : cs.length = n) (h150 : n ≤ 150) (h60 : vars ≤ 60) (h200 : budget ≤ 200) (hlj : ∀ j, j < n → (cs.getD j default).zs.length ≤ 6000) :
    ∃ ans : Ans, (ans.model = [] ∨ ans.proof = []) ∧ ans.model.length ≤ 1000000 ∧ ans.proof.length ≤ 1000000 ∧ (∀ p ∈ ans.proof, p.2.length ≤ 1000000) ∧
      (∀ W, D.Rows' W a cs → Calls Try.prog 10 #[.agg #[.int .i64 vars, .slice a n c], .int .i64 budget] W (SolveAny W (D.checkZ vars cs) ans)) ∧
      (D.checkZ vars cs = 0 → ∀ {w w5 : World} {am : Option Addr} {cm : Nat} {pa : Option Addr} {pc : Nat} {lns : List D.Ln}, Below w.heap.size w w5 → D.Bools w5 am ans.model → lns.map D.lnz = ans.proof → D.Lines w5 pa lns → D.Rows' w5 a cs →
        Calls Try.prog 13 #[.agg #[.int .i64 vars, .slice a n c], .agg #[.int .i64 ans.what, .slice am ans.model.length cm, .slice pa ans.proof.length pc]] w5 (AlOut w)) := by
  obtain ⟨q, hq⟩ : ∃ q, D.checkZ vars cs = q := ⟨_, rfl⟩
  by_cases h0 : q = 0
  · subst h0
    obtain ⟨V, rfl, hV1, _, _, hV4⟩ := D.check_ok hq
    obtain ⟨f, ans, hsol, ha2, ha3, ha4, ha5⟩ := law_facts (budget := budget) hq (by omega) (by omega) (by omega)
    refine ⟨ans, ?_, ha3, ha4, ha5, fun W hW => ?_, fun _ {w w5 am cm pa pc lns} h1 h2 h3 h4 h5 => right_of (V := V) (cvp := c) (cm := cm) (pc := pc) hn (by omega) (fun j hj => by have := hlj j hj; omega) hq ha3 ha4 ha5 ha2 h1 h2 h3 h4 h5⟩
    · rcases ha2 with ⟨_, e, _⟩ | ⟨_, e, _⟩ | ⟨_, e, _⟩
      · exact .inr e
      · exact .inl e
      · exact .inl e
    · rw [hq]
      exact solve_walk a n c cs V budget W hn (by omega) (fun j hj => by have := hlj j hj; omega) (fun j hj x hx => by have := hV4 j (by omega) x hx; omega) hW hq (by omega) hsol
  · refine ⟨⟨0, [], []⟩, .inl rfl, Nat.zero_le _, Nat.zero_le _, fun p hp => (by cases hp), fun W hW => ?_, fun e => absurd (hq.symm.trans e) h0⟩
    refine (solve_bad a n c cs vars budget W hn (by omega) (fun j hj => by have := hlj j hj; omega) hW (by rw [hq]; exact h0)).mono ?_
    rintro e w' ⟨p1, p2⟩
    exact ⟨_, _, p1, p2, World.ownsRow_nil _ _ _ _, proofAt_nil _ _⟩
/-! ### the second answer, written over -/
structure AJ (s2 : Nat) (W2 : World) (gb : Nat) (what : Int) (mv pv : Value) (w : World) : Prop where
  bel : Below s2 W2 w
  y0 : w.cell? ⟨gb, 0, none⟩ = some (.int .i64 what)
  y1 : w.cell? ⟨gb, 1, none⟩ = some mv
  y2 : w.cell? ⟨gb, 2, none⟩ = some pv
theorem AJ.set {s2 gb : Nat} {W2 w : World} {what : Int} {mv pv : Value} (h : AJ s2 W2 gb what mv pv w) {g m : Nat} (hg : s2 ≤ g) (hne : g < gb) (u : Value) : AJ s2 W2 gb what mv pv (w.setCell ⟨g, m, none⟩ u) :=
  ⟨h.bel.setCell (p := ⟨g, m, none⟩) hg u, by rw [World.cell?_setCell_other _ ⟨g, m, none⟩ ⟨gb, 0, none⟩ _ (by intro e; injection e; omega)]; exact h.y0, by rw [World.cell?_setCell_other _ ⟨g, m, none⟩ ⟨gb, 1, none⟩ _ (by intro e; injection e; omega)]; exact h.y1,
   by rw [World.cell?_setCell_other _ ⟨g, m, none⟩ ⟨gb, 2, none⟩ _ (by intro e; injection e; omega)]; exact h.y2⟩
theorem AJ.drew {s2 gb : Nat} {W2 w : World} {what : Int} {mv pv : Value} (h : AJ s2 W2 gb what mv pv w) : AJ s2 W2 gb what mv pv w.drew := ⟨below_drew h.bel, h.y0, h.y1, h.y2⟩
/-- the lines from the j-th on are as they were -/
structure PA (s2 gb : Nat) (pv : Value) (ls : List (Bool × List Int)) (f : Nat → Value) (j : Nat) (w : World) : Prop where
  row : w.ownsRow s2 44 2 pv ls.length (pcv f 0 ls)
  rows : ∀ i p, j ≤ i → ls[i]? = some p → w.ownsRow s2 3 1 (f i) p.2.length (p.2.map (Value.int .i64))
/-- rows of the call's own are apart, and ahead of the answer's box -/
structure Dist (s2 gb : Nat) (pv : Value) (ls : List (Bool × List Int)) (f : Nat → Value) : Prop where
  own : ∀ g, pv.ownBlock = some g → s2 ≤ g ∧ g < gb
  fs : ∀ k, k < ls.length → ∀ g, (f k).ownBlock = some g → s2 ≤ g ∧ g < gb ∧ pv.ownBlock ≠ some g ∧ ∀ j, j < ls.length → j ≠ k → (f j).ownBlock ≠ some g
theorem PA.set {s2 gb : Nat} {pv : Value} {ls : List (Bool × List Int)} {f : Nat → Value} {k j : Nat} {w : World} (h : PA s2 gb pv ls f j w) (hd : Dist s2 gb pv ls f) (hk : k < ls.length) (hkj : k < j) {g m : Nat} (hg : (f k).ownBlock = some g) (u : Value) : PA s2 gb pv ls f j (w.setCell ⟨g, m, none⟩ u) := by
  obtain ⟨_, _, h3, h4⟩ := hd.fs k hk g hg
  refine ⟨owns_keep h.row fun g' hg' => ?_, fun i p hi hp => owns_keep (h.rows i p hi hp) fun g' hg' => ?_⟩
  · rw [Below.heap_setCell _ _ _ _ (show g' ≠ g from fun e => h3 (by rw [← e]; exact hg'))]
  · have hil := (List.getElem?_eq_some_iff.1 hp).1
    rw [Below.heap_setCell _ _ _ _ (show g' ≠ g from fun e => h4 i hil (by omega) (by rw [← e]; exact hg'))]
theorem PA.succ {s2 gb : Nat} {pv : Value} {ls : List (Bool × List Int)} {f : Nat → Value} {j : Nat} {w : World} (h : PA s2 gb pv ls f j w) : PA s2 gb pv ls f (j + 1) w := ⟨h.row, fun i p hi => h.rows i p (by omega)⟩
/-- the model's values, k of them turned round -/
def flipB (ms : List Bool) (k : Nat) : List Bool := (ms.take k).map (!·) ++ ms.drop k
theorem flipB_zero (ms : List Bool) : flipB ms 0 = ms := by simp [flipB]
theorem flipB_len (ms : List Bool) (k : Nat) : (flipB ms k).length = ms.length := by unfold flipB; rw [List.length_append, List.length_map, List.length_take, List.length_drop]; omega
theorem flipB_get {ms : List Bool} {k : Nat} (hk : k < ms.length) : (flipB ms k)[k]? = some (ms.getD k false) := by
  unfold flipB
  rw [List.getElem?_append_right (by rw [List.length_map, List.length_take]; omega), List.length_map, List.length_take, List.getElem?_drop, Nat.min_eq_left (by omega), Nat.sub_self, Nat.add_zero, List.getD_eq_getElem?_getD, List.getElem?_eq_getElem hk]
  rfl
theorem flipB_succ {ms : List Bool} {k : Nat} (hk : k < ms.length) : flipB ms (k + 1) = (flipB ms k).set k (!(ms.getD k false)) := by
  unfold flipB
  rw [List.set_append_right _ _ (by rw [List.length_map, List.length_take]; omega), List.length_map, List.length_take, Nat.min_eq_left (by omega), Nat.sub_self, List.take_add_one, List.drop_eq_getElem_cons hk, List.getElem?_eq_getElem hk, List.getD_eq_getElem?_getD, List.getElem?_eq_getElem hk, List.map_append, List.append_assoc]
  rfl
/-- a clause's literals, k of them nought -/
def zeroZ (zs : List Int) (k : Nat) : List Int := List.replicate k 0 ++ zs.drop k
theorem zeroZ_zero (zs : List Int) : zeroZ zs 0 = zs := by simp [zeroZ]
theorem zeroZ_len {zs : List Int} {k : Nat} (hk : k ≤ zs.length) : (zeroZ zs k).length = zs.length := by unfold zeroZ; rw [List.length_append, List.length_replicate, List.length_drop]; omega
theorem zeroZ_get {zs : List Int} {k : Nat} (hk : k < zs.length) : (zeroZ zs k)[k]? = some (zs.getD k 0) := by
  unfold zeroZ
  rw [List.getElem?_append_right (by rw [List.length_replicate]; omega), List.length_replicate, List.getElem?_drop, Nat.sub_self, Nat.add_zero, List.getD_eq_getElem?_getD, List.getElem?_eq_getElem hk]
  rfl
theorem zeroZ_succ {zs : List Int} {k : Nat} (hk : k < zs.length) : zeroZ zs (k + 1) = (zeroZ zs k).set k 0 := by
  unfold zeroZ
  rw [List.set_append_right _ _ (by rw [List.length_replicate]; omega), List.length_replicate, Nat.sub_self, List.drop_eq_getElem_cons hk, List.replicate_succ', List.append_assoc]
  rfl
end Go.Proofs.Ytkpppmldbhgcgaa

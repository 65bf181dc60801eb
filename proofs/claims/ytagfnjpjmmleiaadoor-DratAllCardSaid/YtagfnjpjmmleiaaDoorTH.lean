/- Drat: does a clause follow: what the checker keeps (plain law). -/
import Derived.Test.YtagfnjpjmmleiaaDoorTG
set_option linter.unusedVariables false
set_option linter.unusedSimpArgs false
set_option autoImplicit false
set_option linter.unusedVariables false
set_option linter.unusedSimpArgs false
namespace Go.Proofs.YtagfnjpjmmleiaaDoor
/-- between two questions nothing is known of any literal -/
structure RestS (V : Nat) (S : St) : Prop where
  core : Core V S
  wt : Wt S
  tr : S.trail = []
  z : ∀ x, x ≠ 0 → litV S.vals x = 0
/-- while it takes what is given -/
structure Mid (V : Nat) (As : Int → Prop) (S S1 : St) : Prop where
  eq : ∃ v t, S1 = { S with vals := v, trail := t }
  core : Core V S1
  wt : Wt S1
  snd : ∀ x, x ≠ 0 → litV S1.vals x = 1 → Der (cls S) As x
  tr : ∀ x, x ≠ 0 → (litV S1.vals x = 1 ↔ x ∈ S1.trail)
  tl : Lits (V + 1) S1.trail
  tz : zeros S1.vals + S1.trail.length ≤ V + 1
  up : ∀ x, x ≠ 0 → As x → litV S1.vals x = 1
theorem sim_eq {S : St} {v t : List Int} : Sim S { S with vals := v, trail := t } := ⟨rfl, rfl, rfl, rfl, rfl, rfl, rfl, fun _ => .refl _⟩
theorem Mid.sim {V : Nat} {As : Int → Prop} {S S1 : St} (h : Mid V As S S1) : Sim S S1 := by
  obtain ⟨v, t, rfl⟩ := h.eq
  exact sim_eq
theorem Der.mono {cs : List (List Int)} {As Bs : Int → Prop} (hS : ∀ x, As x → Bs x) {x : Int} (h : Der cs As x) : Der cs Bs x := h.sub (fun c hc => ⟨c, hc, fun _ => Iff.rfl⟩) hS
theorem Mid.start {V : Nat} {S : St} (h : RestS V S) : Mid V (Negs []) S S := by
  have no : ∀ x, x ≠ 0 → litV S.vals x ≠ 1 := fun x hx e => by rw [h.z x hx] at e; cases e
  refine ⟨⟨S.vals, S.trail, rfl⟩, h.core, h.wt, fun x hx e => absurd e (no x hx), fun x hx => ⟨fun e => absurd e (no x hx), fun e => ?_⟩, ?_, ?_, fun x hx e => ?_⟩
  · rw [h.tr] at e; cases e
  · rw [h.tr]; intro y hy; cases hy
  · rw [h.tr]
    have := List.count_le_length (a := (0 : Int)) (l := S.vals)
    rw [h.core.vl.1] at this
    exact this
  · cases e.2
theorem Mid.mono {V : Nat} {As Bs : Int → Prop} {S S1 : St} (h : Mid V As S S1) (hs : ∀ x, As x → Bs x) (hu : ∀ x, x ≠ 0 → Bs x → litV S1.vals x = 1) : Mid V Bs S S1 :=
  ⟨h.eq, h.core, h.wt, fun x hx e => (h.snd x hx e).mono hs, h.tr, h.tl, h.tz, hu⟩
theorem Mid.set {V : Nat} {As Bs : Int → Prop} {S S1 : St} (h : Mid V As S S1) {a : Int} (ha : a ≠ 0) (hn : a.natAbs < V + 1) (h0 : litV S1.vals a = 0) (hs : ∀ x, As x → Bs x) (hb : ∀ x, Bs x → As x ∨ x = a) (hD : Der (cls S) Bs a) :
    Mid V Bs S { S1 with vals := setV S1.vals a, trail := S1.trail ++ [a] } := by
  have hf := h.core.vl
  have mono := fun x => litV_setV_mono (x := x) hf ha hn h0
  have na : litV S1.vals (-a) = 0 := by rw [litV_neg ha, h0]; rfl
  refine ⟨?_, h.core.sim sim_eq (hf.setV a), ⟨h.wt.wn, h.wt.wi, h.wt.w1, h.wt.w2⟩, fun x hx e => ?_, fun x hx => ?_, fun x hx => ?_, ?_, fun x hx e => ?_⟩
  · obtain ⟨v, t, rfl⟩ := h.eq
    exact ⟨_, _, rfl⟩
  · have e : litV (setV S1.vals a) x = 1 := e
    rw [litV_setV hf ha hn] at e
    by_cases e1 : x = a
    · rw [e1]; exact hD
    · rw [if_neg e1] at e
      by_cases e2 : x = -a
      · rw [if_pos e2] at e; cases e
      · rw [if_neg e2] at e; exact (h.snd x hx e).mono hs
  · show litV (setV S1.vals a) x = 1 ↔ x ∈ S1.trail ++ [a]
    rw [litV_setV hf ha hn, List.mem_append, List.mem_singleton]
    by_cases e1 : x = a
    · rw [if_pos e1]; exact ⟨fun _ => .inr e1, fun _ => rfl⟩
    · rw [if_neg e1]
      by_cases e2 : x = -a
      · rw [if_pos e2]
        refine ⟨fun e => (by cases e), fun e => ?_⟩
        rcases e with e | e
        · have := (h.tr x hx).2 e
          rw [e2, na] at this; cases this
        · exact absurd e e1
      · rw [if_neg e2, h.tr x hx]
        exact ⟨.inl, fun e => e.elim id fun e => absurd e e1⟩
  · rcases List.mem_append.1 hx with e | e
    · exact h.tl x e
    · rw [List.mem_singleton.1 e]; exact ⟨ha, hn⟩
  · have := zeros_setV hf hn h0
    have hz := h.tz
    show zeros (setV S1.vals a) + (S1.trail ++ [a]).length ≤ V + 1
    rw [List.length_append]
    simp only [List.length_singleton]
    omega
  · show litV (setV S1.vals a) x = 1
    rcases hb x e with e | e
    · exact (mono x).1 (h.up x hx e)
    · rw [e, litV_setV hf ha hn, if_pos rfl]
/-- exactly what is given -/
def Just (S1 : St) (pre : List Int) : Prop := ∀ x, x ≠ 0 → litV S1.vals x = 1 → -x ∈ pre
/-- a literal of the clause is taken as false -/
theorem Mid.take {V : Nat} {S S1 S2 : St} {pre : List Int} {n : Int} {b : Bool} (h : Mid V (Negs pre) S S1) (hj : Just S1 pre) (hn0 : n ≠ 0) (hn : n.natAbs < V + 1) (hR : LetR S1 (-n) b S2) :
    (b = true → Mid V (Negs (pre ++ [n])) S S2 ∧ Just S2 (pre ++ [n])) ∧ (b = false → S2 = S1 ∧ -n ∈ pre) := by
  have hsub : ∀ x, Negs pre x → Negs (pre ++ [n]) x := fun x hx => ⟨hx.1, List.mem_append_left _ hx.2⟩
  have hm0 : -n ≠ 0 := by omega
  have hmn : (-n).natAbs < V + 1 := by omega
  rcases hR with ⟨e1, rfl, rfl⟩ | ⟨e1, rfl, rfl⟩ | ⟨e1, rfl, rfl⟩
  · refine ⟨fun _ => ⟨h.mono hsub fun x hx e => ?_, fun x hx e => List.mem_append_left _ (hj x hx e)⟩, fun e => (by cases e)⟩
    rcases List.mem_append.1 e.2 with e | e
    · exact h.up x hx ⟨hx, e⟩
    · rw [List.mem_singleton] at e
      rw [show x = -n by omega]; exact e1
  · refine ⟨fun e => (by cases e), fun _ => ⟨rfl, ?_⟩⟩
    rw [litV_neg hn0] at e1
    exact hj n hn0 (by omega)
  · refine ⟨fun _ => ⟨h.set hm0 hmn e1 hsub (fun x hx => ?_) (.init _ ⟨hm0, by simp⟩), fun x hx e => ?_⟩, fun e => (by cases e)⟩
    · rcases List.mem_append.1 hx.2 with e | e
      · exact .inl ⟨hx.1, e⟩
      · rw [List.mem_singleton] at e; exact .inr (by omega)
    · have e : litV (setV S1.vals (-n)) x = 1 := e
      rw [litV_setV h.core.vl hm0 hmn] at e
      by_cases e2 : x = -n
      · rw [e2]; simp
      · rw [if_neg e2] at e
        by_cases e3 : x = - -n
        · rw [if_pos e3] at e; cases e
        · rw [if_neg e3] at e; exact List.mem_append_left _ (hj x hx e)
theorem Mid.noTaut {V : Nat} {S S1 : St} {pre : List Int} (h : Mid V (Negs pre) S S1) (hl : Lits (V + 1) pre) : ¬ Taut pre := by
  rintro ⟨y, a, b⟩
  have hy := (hl y a).1
  have e1 := h.up y hy ⟨hy, b⟩
  have e2 := h.up (-y) (by omega) ⟨by omega, by rw [Int.neg_neg]; exact a⟩
  rw [litV_neg hy] at e2
  omega
/-- a unit clause -/
theorem Mid.unit {V : Nat} {As : Int → Prop} {S S1 S2 : St} {i : Nat} {a : Int} {b : Bool} (h : Mid V As S S1) (hi : i < S.n) (hg : S.gone i = false) (ha : S.lits i = [a]) (hR : LetR S1 a b S2) :
    (∀ x, litV S1.vals x = 1 → litV S2.vals x = 1) ∧ (b = true → Mid V As S S2 ∧ litV S2.vals a = 1) ∧ (b = false → S2 = S1 ∧ Confl (cls S) As) := by
  obtain ⟨v, t, e0⟩ := h.eq
  have hli := h.core.li i (by rw [e0]; exact hi) a (by rw [e0]; show a ∈ S.lits i; rw [ha]; simp)
  have hcl : [a] ∈ cls S := mem_cls.2 ⟨i, hi, hg, ha⟩
  have hD : Der (cls S) As a := .unit [a] a hcl (by simp) fun y hy hne => absurd (List.mem_singleton.1 hy) hne
  rcases hR with ⟨e1, rfl, rfl⟩ | ⟨e1, rfl, rfl⟩ | ⟨e1, rfl, rfl⟩
  · exact ⟨fun _ e => e, fun _ => ⟨h, e1⟩, fun e => (by cases e)⟩
  · refine ⟨fun _ e => e, fun e => (by cases e), fun _ => ⟨rfl, [a], hcl, fun y hy => ?_⟩⟩
    rw [List.mem_singleton.1 hy]
    exact h.snd (-a) (by omega) (by rw [litV_neg hli.1, e1]; rfl)
  · refine ⟨fun x e => (litV_setV_mono h.core.vl hli.1 hli.2 e1).1 e, fun _ => ⟨h.set hli.1 hli.2 e1 (fun _ e => e) (fun _ e => .inl e) hD, ?_⟩, fun e => (by cases e)⟩
    show litV (setV S1.vals a) a = 1
    rw [litV_setV h.core.vl hli.1 hli.2, if_pos rfl]
theorem Mid.pr {V : Nat} {As : Int → Prop} {S S1 : St} (h : Mid V As S S1) (hu : ∀ i, i ∈ S.units → S.gone i = false → ∀ a, S.lits i = [a] → litV S1.vals a = 1) : Pr V As S S1 (fun _ => False) := by
  refine ⟨h.core, h.wt, h.sim, h.snd, h.tr, h.tl, h.tz, h.up, fun i hi hg a e => ?_, fun _ e => e.elim, fun _ e => e.elim⟩
  obtain ⟨v, t, rfl⟩ := h.eq
  exact hu i ((h.core.un i).2 ⟨hi, by rw [e]; rfl⟩) hg a e
/-! all is taken back -/
theorem undoV_get (vs : List Int) (m : Nat) : ∀ (tr : List Int), (undoV vs tr).getD m 0 = 0 ∨ (undoV vs tr).getD m 0 = vs.getD m 0 := by
  intro tr
  unfold undoV
  induction tr generalizing vs with
  | nil => exact .inr rfl
  | cons a tr ih =>
    rw [List.foldl_cons]
    rcases ih (vs.set a.natAbs 0) with e | e
    · exact .inl e
    · rw [e]
      by_cases h : a.natAbs = m
      · left
        rw [List.getD_eq_getElem?_getD, h]
        by_cases hm : m < vs.length
        · rw [List.getElem?_set_self hm]; rfl
        · rw [List.getElem?_eq_none (by rw [List.length_set]; omega)]; rfl
      · right
        rw [List.getD_eq_getElem?_getD, List.getElem?_set_ne h, List.getD_eq_getElem?_getD]
theorem undoV_hit (vs : List Int) : ∀ (tr : List Int) (l : Int), l ∈ tr → (undoV vs tr).getD l.natAbs 0 = 0 := by
  intro tr
  unfold undoV
  induction tr generalizing vs with
  | nil => intro l hl; cases hl
  | cons a tr ih =>
    intro l hl
    rw [List.foldl_cons]
    rcases List.mem_cons.1 hl with rfl | hl
    · rcases undoV_get (vs.set l.natAbs 0) l.natAbs tr with e | e
      · exact e
      · refine Eq.trans e ?_
        rw [List.getD_eq_getElem?_getD]
        by_cases hm : l.natAbs < vs.length
        · rw [List.getElem?_set_self hm]; rfl
        · rw [List.getElem?_eq_none (by rw [List.length_set]; omega)]; rfl
    · exact ih _ l hl
theorem undoV_fine {n : Nat} {vs : List Int} (h : Fine n vs) : ∀ (tr : List Int), Fine n (undoV vs tr) := by
  intro tr
  unfold undoV
  induction tr generalizing vs with
  | nil => exact h
  | cons a tr ih => rw [List.foldl_cons]; exact ih (h.set _ (by decide))
theorem undo_rest {V : Nat} {S S1 : St} (hs : Sim S S1) (hc : Core V S1) (hw : Wt S1) (tr : ∀ x, x ≠ 0 → (litV S1.vals x = 1 ↔ x ∈ S1.trail)) : RestS V { S1 with vals := undoV S1.vals S1.trail, trail := [] } ∧ Sim S { S1 with vals := undoV S1.vals S1.trail, trail := [] } := by
  refine ⟨⟨hc.sim sim_eq (undoV_fine hc.vl _), ⟨hw.wn, hw.wi, hw.w1, hw.w2⟩, rfl, fun x hx => ?_⟩, hs.trans sim_eq⟩
  have key : (undoV S1.vals S1.trail).getD x.natAbs 0 = 0 := by
    rcases undoV_get S1.vals x.natAbs S1.trail with e | e
    · exact e
    · rcases litV_fine hc.vl x with h | h | h
      · have := (tr (-x) (by omega)).1 (by rw [litV_neg hx, h]; rfl)
        have := undoV_hit S1.vals S1.trail (-x) this
        rwa [Int.natAbs_neg] at this
      · rw [e]; exact litV_zero h
      · exact undoV_hit S1.vals S1.trail x ((tr x hx).1 h)
  show litV (undoV S1.vals S1.trail) x = 0
  unfold litV
  rw [key]
  split <;> rfl
/-- an empty clause -/
theorem empty_confl {V : Nat} {S : St} (h : Core V S) {As : Int → Prop} (he : 0 < S.empty) : Confl (cls S) As := by
  rw [h.em] at he
  unfold empties at he
  obtain ⟨i, hi⟩ := List.exists_mem_of_length_pos he
  obtain ⟨h1, h2⟩ := List.mem_filter.1 hi
  have h3 : (S.lits i).length = 0 := by simpa using h2
  exact ⟨S.lits i, List.mem_map.2 ⟨i, h1, rfl⟩, fun y hy => by rw [List.eq_nil_of_length_eq_zero h3] at hy; cases hy⟩
theorem no_empty {V : Nat} {S : St} (h : Core V S) (he : ¬ 0 < S.empty) {i : Nat} (hi : i < S.n) (hg : S.gone i = false) : S.lits i ≠ [] := by
  intro e
  apply he
  rw [h.em]
  unfold empties
  exact List.length_pos_of_mem (List.mem_filter.2 ⟨mem_alive.2 ⟨hi, hg⟩, by rw [e]; rfl⟩)
end Go.Proofs.YtagfnjpjmmleiaaDoor
/- Drat: does a clause follow, by the checker? -/
set_option autoImplicit false
set_option linter.unusedVariables false
set_option linter.unusedSimpArgs false
namespace Go.Proofs.YtagfnjpjmmleiaaDoor
open Go.Shelf Go.RowKit
/-- a slice of numbers that is none of the checker's -/
def Free (own : Nat → Option Tag) (a : Option Addr) : Prop := ∀ ad, a = some ad → own ad.block = none
theorem Frm.ints {own own' : Nat → Option Tag} {w w' : World} (h : Frm own own' w w') {a : Option Addr} {zs : List Int} (hi : Ints w a zs) (hf : Free own a) : Ints w' a zs := fun j hj => by
  obtain ⟨b, off, rfl, hb, hc⟩ := hi j hj
  refine ⟨b, off, rfl, Nat.lt_of_lt_of_le hb h.size, ?_⟩
  exact (h.cell (p := ⟨b, off + j, none⟩) hb (hf ⟨b, off, none⟩ rfl)).trans hc
def FolOut (V : Nat) (S : St) (zs : List Int) (cx : Cx) (own : Nat → Option Tag) (rv : Tag → Value) (w : World) (e : Ending) (w' : World) : Prop :=
  ∃ b S' own' rv', e = .returned (.bool b) ∧ Rep cx w' own' rv' S' ∧ Frm own own' w w' ∧ RestS V S' ∧ Sim S S' ∧ HK rv rv' ∧ (b = true ↔ Fol (cls S) zs)
/-- behind the deferred call -/
theorem fol_leave {V : Nat} {S S1 : St} {zs : List Int} {cx : Cx} {own own1 : Nat → Option Tag} {rv rv1 : Tag → Value} {w w1 : World} {b : Bool} (hV : V = cx.V) (hrep : Rep cx w1 own1 rv1 S1) (hfr : Frm own own1 w w1) (hk : HK rv rv1) (hs : Sim S S1) (hc : Core V S1) (hw : Wt S1) (tr : ∀ x, x ≠ 0 → (litV S1.vals x = 1 ↔ x ∈ S1.trail)) (tl : Lits (V + 1) S1.trail) (tz : zeros S1.vals + S1.trail.length ≤ V + 1) (hV9 : cx.V ≤ 999999990) (hb : b = true ↔ Fol (cls S) zs) :
    CallsD Tryd.prog 48 #[.pointer (some ⟨cx.xb, 0, none⟩)] .returning w1 fun e u' w' => u' = .returning ∧ e = .returned (.tuple #[]) ∧ FolOut V S zs cx own rv w (.returned (.bool b)) w' := by
  subst hV
  obtain ⟨h1, h2⟩ := undo_rest hs hc hw tr
  refine (undo_walk cx own1 rv1 S1 w1 hrep hc.vl.1 tl (by omega) (by omega) .returning).mono ?_
  rintro e u' w' ⟨rfl, rfl, rv', h3, h4, h5⟩
  exact ⟨rfl, rfl, b, _, own1, rv', rfl, h3, hfr.trans h4, h1, h2, fun c => (h5 _ (by intro e; cases e)).trans (hk c), hb⟩
theorem Rep.unitsRow {cx : Cx} {w : World} {own : Nat → Option Tag} {rv : Tag → Value} {S : St} (h : Rep cx w own rv S) : ∃ a n cap, rv .units = .slice a n cap ∧ n = S.units.length ∧ ∀ k, k < n → ∃ g, a = some ⟨g, 0, none⟩ ∧ own g = some .units ∧ w.cell? ⟨g, k, none⟩ = some (.int .i64 ((S.units.getD k 0 : Nat) : Int)) := by
  have hrow : w.ownsRow cx.lo 3 1 (rv .units) S.units.length (natC S.units) := (h.rows .units rfl).row
  rcases hrow.2 with ⟨e1, e2⟩ | ⟨g, cap, cur, e1, _⟩
  · exact ⟨none, 0, 0, e1, e2.symm, fun k hk => by omega⟩
  · refine ⟨_, _, cap, e1, rfl, fun k hk => ⟨g, rfl, (h.rows .units rfl).lab g (by rw [e1]; rfl), ?_⟩⟩
    rw [e1] at hrow
    exact (owns_nat hrow hk).1
theorem idx0 (a b : Option Addr) (n c m d : Nat) (w : World) : (Instr.index 87 (.agg #[.slice a n c, .slice b m d]) (.int .i64 0)).run Tryd.prog w = .ok (.slice a n c) w := by kernel_rfl
theorem idx1 (a b : Option Addr) (n c m d : Nat) (w : World) : (Instr.index 87 (.agg #[.slice a n c, .slice b m d]) (.int .i64 1)).run Tryd.prog w = .ok (.slice b m d) w := by kernel_rfl
theorem door0 {P : Program} {fn : Func} {tmps : Array Value} {R : Ending → World → Prop} {w : World} {t : Tmp} {v : Value} (h : fn.results = #[.tmp t]) (hv : tmps.getD t undef = v) (hR : R (.returned v) w) : Leaves P fn tmps R [] .returning w :=
  ⟨v, by rw [← hv]; exact results_tmp h tmps P w, hR⟩
theorem door1 {fn : Func} {tmps : Array Value} {R : Ending → World → Prop} {w : World} {t : Tmp} {v : Value} {args : Array Value} {f : Nat} (h : fn.results = #[.tmp t]) (hv : tmps.getD t undef = v)
    (hi : (invoke (.fn (.func f) #[]) args).run Tryd.prog w = .ok (.enter f args) w) (hc : CallsD Tryd.prog f args .returning w fun e u' w' => u' = .returning ∧ e = .returned (.tuple #[]) ∧ R (.returned v) w') :
    Leaves Tryd.prog fn tmps R [{ target := .fn (.func f) #[], args := args }] .returning w := by
  refine leaves_cons (f := f) (args := args) (by simp) hi (hc.mono ?_)
  rintro e u' w' ⟨rfl, rfl, hR⟩
  exact door0 h hv hR
end Go.Proofs.YtagfnjpjmmleiaaDoor

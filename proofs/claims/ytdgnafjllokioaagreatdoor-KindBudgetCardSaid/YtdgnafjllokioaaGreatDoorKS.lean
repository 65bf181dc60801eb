/- Kind: the states that were come to, a row of the call's own. -/
import Derived.Test.YtdgnafjllokioaaGreatDoorKR
import Derived.ArgAppend
import Derived.Deep.Heap
import Derived.Deep.RegionHeld
set_option linter.unusedVariables false
set_option linter.unusedSimpArgs false
set_option autoImplicit false
set_option linter.unusedVariables false
set_option linter.unusedSimpArgs false
namespace Go.Proofs.YtdgnafjllokioaaGreatDoor
open Go.Proofs Go
open Go.RowKit Kb
/-- a state's cells -/
def visC (sv : Value) (v : Vi) : List Value := [sv, .int .i64 v.fr, .int .i64 v.inp, .int .i64 (v.tick : Int)]
def visL : List Value → List Vi → List Value
  | sv :: r, v :: l => visC sv v ++ visL r l
  | _, _ => []
theorem visL_len : ∀ (svs : List Value) (l : List Vi), svs.length = l.length → (visL svs l).length = l.length * 4
  | [], [], _ => rfl
  | [], _ :: _, h => by simp at h
  | _ :: _, [], h => by simp at h
  | s :: svs, v :: l, h => by
    have := visL_len svs l (by simpa using h)
    simp only [visL, visC, List.length_append, List.length_cons, List.length_nil, this]
    omega
theorem visL_snoc : ∀ (svs : List Value) (l : List Vi) (sv : Value) (v : Vi), svs.length = l.length → visL (svs ++ [sv]) (l ++ [v]) = visL svs l ++ visC sv v
  | [], [], sv, v, _ => by simp [visL]
  | [], _ :: _, _, _, h => by simp at h
  | _ :: _, [], _, _, h => by simp at h
  | s :: svs, u :: l, sv, v, h => by
    simp only [List.cons_append, visL, List.append_assoc]
    rw [visL_snoc svs l sv v (by simpa using h)]
theorem visL_get : ∀ (svs : List Value) (l : List Vi) (j : Nat) (v : Vi) (sv : Value), l[j]? = some v → svs[j]? = some sv → (visL svs l)[j * 4]? = some sv ∧ (visL svs l)[j * 4 + 1]? = some (.int .i64 v.fr) ∧ (visL svs l)[j * 4 + 2]? = some (.int .i64 v.inp) ∧ (visL svs l)[j * 4 + 3]? = some (.int .i64 (v.tick : Int))
  | [], _, j, _, _, _, h => by simp at h
  | _ :: _, [], j, _, _, h, _ => by simp at h
  | s :: svs, u :: l, 0, v, sv, h1, h2 => by
    simp at h1 h2
    subst h1 h2
    simp [visL, visC]
  | s :: svs, u :: l, j + 1, v, sv, h1, h2 => by
    obtain ⟨a, b, c, d⟩ := visL_get svs l j v sv (by simpa using h1) (by simpa using h2)
    have e : ∀ m, (visL (s :: svs) (u :: l))[(j + 1) * 4 + m]? = (visL svs l)[j * 4 + m]? := fun m => by
      simp only [visL]
      rw [List.getElem?_append_right (by simp [visC]; omega)]
      congr 1
      simp [visC]
      omega
    exact ⟨(e 0).trans a, (e 1).trans b, (e 2).trans c, (e 3).trans d⟩
/-- the row of states, and each state's own row -/
structure VisR (lo nn : Nat) (lv : Value) (l : List Vi) (svs : List Value) (w : World) : Prop where
  row : w.ownsRow lo 99 4 lv l.length (visL svs l)
  len : svs.length = l.length
  sts : ∀ (j : Nat) (v : Vi), l[j]? = some v → ∃ sv, svs[j]? = some sv ∧ v.st.length = nn ∧ w.ownsRow lo 4 1 sv nn (bvs v.st)
theorem VisR.keep {lo nn : Nat} {lv : Value} {l : List Vi} {svs : List Value} {w w' : World} (h : VisR lo nn lv l svs w) (hk : ∀ e sz v n xs, w.ownsRow lo e sz v n xs → w'.ownsRow lo e sz v n xs) : VisR lo nn lv l svs w' :=
  ⟨hk _ _ _ _ _ h.row, h.len, fun j v hj => by
    obtain ⟨sv, h1, h2, h3⟩ := h.sts j v hj
    exact ⟨sv, h1, h2, hk _ _ _ _ _ h3⟩⟩
theorem VisR.below {lo nn : Nat} {lv : Value} {l : List Vi} {svs : List Value} {w w' : World} (h : VisR lo nn lv l svs w) (hb : Below w.heap.size w w') : VisR lo nn lv l svs w' := h.keep fun _ _ _ _ _ h => own_below' h hb
/-- a map's block is no row's -/
theorem own_map {w w' : World} {lo e sz n mb : Nat} {v : Value} {xs : List Value} (h : w.ownsRow lo e sz v n xs) {m : Nat} {ks : List Int} (hm : MapS mb m ks w) (hg : w.grownBy w' (some mb)) : w'.ownsRow lo e sz v n xs := by
  refine owns_keep h fun g hgv => hg.block g (h.lt g hgv).2 fun e2 => ?_
  cases e2
  obtain ⟨D, ⟨es, clock, hb, _⟩, _⟩ := hm
  rcases h.2 with ⟨e4, _⟩ | ⟨g1, cap1, cur1, e4, _, e5, _⟩
  · rw [e4] at hgv; cases hgv
  · rw [e4] at hgv
    cases hgv
    rw [hb] at e5
    cases e5
theorem map_own {w w' : World} {lo e sz n mb m : Nat} {v : Value} {xs : List Value} {ks : List Int} (hm : MapS mb m ks w) (h : w.ownsRow lo e sz v n xs) (hg : w.grownBy w' v.ownBlock) : MapS mb m ks w' := by
  refine hm.kept (hg.block mb hm.lt fun e2 => ?_)
  obtain ⟨D, ⟨es, clock, hb, _⟩, _⟩ := hm
  rcases h.2 with ⟨e4, _⟩ | ⟨g1, cap1, cur1, e4, _, e5, _⟩
  · rw [e4] at e2; cases e2
  · rw [e4] at e2
    cases e2
    rw [hb] at e5
    cases e5
theorem VisR.put {lo nn mb m : Nat} {lv : Value} {l : List Vi} {svs : List Value} {w w' : World} {ks : List Int} (h : VisR lo nn lv l svs w) (hm : MapS mb m ks w) (hg : w.grownBy w' (some mb)) : VisR lo nn lv l svs w' := h.keep fun _ _ _ _ _ h => own_map h hm hg
/-- one state more -/
theorem VisR.snoc {lo nn : Nat} {lv lv' sv : Value} {l : List Vi} {svs : List Value} {w w' : World} {v : Vi} (h : VisR lo nn lv l svs w) (hg : w.grownBy w' lv.ownBlock) (hrow : w'.ownsRow lo 99 4 lv' (l.length + 1) (visL svs l ++ visC sv v)) (hst : w.ownsRow lo 4 1 sv nn (bvs v.st)) (hl : v.st.length = nn) : VisR lo nn lv' (l ++ [v]) (svs ++ [sv]) w' := by
  refine ⟨by rw [List.length_append, visL_snoc _ _ _ _ h.len]; exact hrow, by rw [List.length_append, List.length_append, h.len]; rfl, fun j u hj => ?_⟩
  by_cases hlt : j < l.length
  · rw [List.getElem?_append_left hlt] at hj
    obtain ⟨sv', h1, h2, h3⟩ := h.sts j u hj
    exact ⟨sv', by rw [List.getElem?_append_left (by have := h.len; omega)]; exact h1, h2, own_grown h3 h.row (by decide) hg⟩
  · have hj2 : j = l.length := by
      have := (List.getElem?_eq_some_iff.1 hj).1
      rw [List.length_append, List.length_singleton] at this
      omega
    subst hj2
    rw [List.getElem?_append_right (Nat.le_refl _), Nat.sub_self] at hj
    have hj : v = u := by simpa using hj
    subst hj
    exact ⟨sv, by rw [← h.len, List.getElem?_append_right (Nat.le_refl _), Nat.sub_self]; rfl, hl, own_grown hst h.row (by decide) hg⟩
theorem VisR.vis {lo nn : Nat} {lv : Value} {l : List Vi} {svs : List Value} {w : World} (h : VisR lo nn lv l svs w) : ∃ la lc, lv = .slice la l.length lc ∧ Vis w la l := by
  have hrow := h.row
  rcases hrow.2 with ⟨e1, e2⟩ | ⟨g, cap, cur, e1, hb, hg, hc, _⟩
  · exact ⟨none, 0, by rw [e1, e2], fun j v hj => by have := (List.getElem?_eq_some_iff.1 hj).1; omega⟩
  · rw [e1] at hrow ⊢
    refine ⟨_, cap, rfl, fun j v hj => ?_⟩
    obtain ⟨sv, h1, h2, h3⟩ := h.sts j v hj
    obtain ⟨sa, sc, e3, _, hz, _⟩ := bools_of h3 h2
    obtain ⟨a, b, c, d⟩ := visL_get svs l j v sv hj h1
    have hj2 := (List.getElem?_eq_some_iff.1 hj).1
    have hx : ∀ m, m < 4 → w.cell? ⟨g, j * 4 + m, none⟩ = (visL svs l)[j * 4 + m]? := fun m hm => hrow.cellAt (j * 4 + m) (by omega)
    refine ⟨g, 0, sa, sc, rfl, (Array.getElem?_eq_some_iff.1 hg).1, ?_, hz, ?_, ?_, ?_⟩
    · rw [Nat.zero_add]
      exact (hx 0 (by omega)).trans (by rw [h2, ← e3]; exact a)
    · rw [Nat.zero_add]; exact (hx 1 (by omega)).trans b
    · rw [Nat.zero_add]; exact (hx 2 (by omega)).trans c
    · rw [Nat.zero_add]; exact (hx 3 (by omega)).trans d
end Go.Proofs.YtdgnafjllokioaaGreatDoor
/- Kind: all states, one behind the other (wide), what is kept. -/
set_option autoImplicit false
set_option linter.unusedVariables false
set_option linter.unusedSimpArgs false
namespace Go.Proofs.YtdgnafjllokioaaGreatDoor
open Go.Proofs Go
open Go.RowKit Kb
def keysL (l : List Vi) : List Int := l.map fun v => (keyZ v.st : Int)
/-- a verdict, by the run's answer -/
def Verd (y : Sy) (k : Nat) (q K : Int) (ov : Value) (lo : Nat) (w' : World) : Prop := ∃ (F : Nat) (l : List Vi) (r : Option (Nat × Nat)), run F y (Kb.start y) 0 0 = some (l, r) ∧
  ((r = none ∧ q = 1) ∨ ∃ a n v, r = some (a, n) ∧ l[a]? = some v ∧ ((q = 3 ∧ K = (k : Int) ∧ ov = .slice none 0 0) ∨ (q = 2 ∧ K = (v.tick : Int) ∧ v.tick ≤ k ∧ OwnT lo y.ins.length ov (traceZ y l a n) w')))
theorem Verd.keep {y : Sy} {k : Nat} {q K : Int} {ov : Value} {lo : Nat} {w w' : World} (h : Verd y k q K ov lo w) (hk : ∀ g, lo ≤ g → w'.heap[g]? = w.heap[g]?) : Verd y k q K ov lo w' := by
  obtain ⟨F, l, r, h1, h2 | ⟨a, n, v, h3, h4, h5 | ⟨h6, h7, h8, h9⟩⟩⟩ := h
  · exact ⟨F, l, r, h1, .inl h2⟩
  · exact ⟨F, l, r, h1, .inr ⟨a, n, v, h3, h4, .inl h5⟩⟩
  · exact ⟨F, l, r, h1, .inr ⟨a, n, v, h3, h4, .inr ⟨h6, h7, h8, h9.keep hk⟩⟩⟩
theorem Verd.base {y : Sy} {k : Nat} {q K : Int} {ov : Value} {lo lo' : Nat} {w : World} (h : Verd y k q K ov lo w) (hl : lo' ≤ lo) : Verd y k q K ov lo' w := by
  obtain ⟨F, l, r, h1, h2 | ⟨a, n, v, h3, h4, h5 | ⟨h6, h7, h8, h9⟩⟩⟩ := h
  · exact ⟨F, l, r, h1, .inl h2⟩
  · exact ⟨F, l, r, h1, .inr ⟨a, n, v, h3, h4, .inl h5⟩⟩
  · exact ⟨F, l, r, h1, .inr ⟨a, n, v, h3, h4, .inr ⟨h6, h7, h8, h9.base hl⟩⟩⟩
/-- what wide tells -/
def WideOut (y : Sy) (k : Nat) (w : World) (e : Ending) (w' : World) : Prop := Below w.heap.size w w' ∧ ∃ (q K : Int) (ta : Option Addr) (tn tc : Nat), e = .returned (.agg #[.int .i64 q, .int .i64 K, .slice ta tn tc]) ∧ Verd y k q K (.slice ta tn tc) w.heap.size w'
theorem row_one {w : World} {lo : Nat} (sv : Value) (v : Vi) (hl : lo ≤ w.heap.size) : (w.alloc (.cells #[sv, .int .i64 v.fr, .int .i64 v.inp, .int .i64 (v.tick : Int)] 99)).ownsRow lo 99 4 (.slice (some ⟨w.heap.size, 0, none⟩) 1 1) 1 (visL [sv] [v]) :=
  ⟨rfl, .inr ⟨w.heap.size, 1, _, rfl, hl, heap_new w _, Nat.le_refl _, by unfold maxLen; omega, rfl, rfl⟩⟩
/-- what holds between wide's rounds -/
structure Wd (y : Sy) (lo mb nn : Nat) (lv : Value) (l : List Vi) (svs : List Value) (a : Nat) (w wr : World) : Prop where
  inv : Inv y l a
  vis : VisR (lo + 1) nn lv l svs wr
  map : MapS mb l.length (keysL l) wr
  bel : Below lo w wr
  box : wr.heap[lo]? = some (.cells #[.int .i64 0, .int .i64 0, .slice none 0 0] 33)
  lt : lo < mb
theorem run_over {s : Sy} {l : List Vi} {a F : Nat} {r : List Vi × Option (Nat × Nat)} (h : run F s l a 0 = some r) (ha : l.length ≤ a) : r = (l, none) := by
  cases F with
  | zero => cases h
  | succ F =>
    unfold run at h
    rw [List.getElem?_eq_none ha] at h
    cases h
    rfl
theorem run_row {s : Sy} {l : List Vi} {a n F : Nat} {v : Vi} {r : List Vi × Option (Nat × Nat)} (h : run F s l a n = some r) (ha : l[a]? = some v) : (¬ n < 2 ^ s.ins.length → ∃ F', run F' s l (a + 1) 0 = some r) ∧ (n < 2 ^ s.ins.length → badZ s v n = true → r = (l, some (a, n))) ∧ (n < 2 ^ s.ins.length → badZ s v n = false → ∃ F', run F' s (growZ s l a n v) a (n + 1) = some r) := by
  cases F with
  | zero => cases h
  | succ F =>
    unfold run at h
    rw [ha] at h
    dsimp only at h
    refine ⟨fun hn => ⟨F, by rw [if_neg hn] at h; exact h⟩, fun hn hb => ?_, fun hn hb => ⟨F, ?_⟩⟩
    · rw [if_pos hn, if_pos hb] at h
      exact (Option.some.inj h).symm
    · rw [if_pos hn, if_neg (by rw [hb]; exact Bool.false_ne_true)] at h
      exact h
theorem shl_small : ∀ i : Fin 4, wrap64 (2 ^ i.val) = ((2 ^ i.val : Nat) : Int) := by decide +kernel
theorem box_there {w : World} {b : Nat} {x y z : Value} {e : TypeId} (h : w.heap[b]? = some (.cells #[x, y, z] e)) : w.there b 0 3 := fun j hj => by
  obtain ⟨a, c⟩ := block_cell h (0 + j)
  refine ⟨?_, c⟩
  rw [a]
  match j, hj with
  | 0, _ => rfl
  | 1, _ => rfl
  | 2, _ => rfl
theorem info33 : (Tryz.prog.info? 33).map (·.size) = some 3 := by kernel_rfl
theorem info99 : (Tryz.prog.info? 99).map (fun i => (i.zero, i.size, i.bytes)) = some (some (.agg #[.slice none 0 0, .int .i64 0, .int .i64 0, .int .i64 0]), 4, 48) := by kernel_rfl
theorem owns_new' {w' : World} {base b e size n : Nat} {v : Value} {xs : List Value} (h : w'.ownsRow base e size v n xs) (hb : b ≤ base) (hn : 0 < n) : w'.ownsRow b e size v n xs ∧ ∃ g, v.ownBlock = some g ∧ base ≤ g := by
  obtain ⟨h1, ⟨e1, e2⟩ | ⟨g, cap, cur, e1, hbg, r⟩⟩ := h
  · omega
  · exact ⟨⟨h1, .inr ⟨g, cap, cur, e1, Nat.le_trans hb hbg, r⟩⟩, g, by rw [e1]; rfl, hbg⟩
theorem grown_any {w w' : World} {row : Option Nat} (h : w.grownBy w' none) : w.grownBy w' row := ⟨h.os, h.tape, h.output, h.size, fun i hi _ => h.block i hi (by intro e; cases e)⟩
theorem append_told {P : Program} (w : World) {ops : Array Oper} {rest : List Oper} {o : Oper} {a : Act} {Q : Exit → Act → World → Prop}
    (hgd : o.guard = none) (s x : Operand) (t : TypeId) (ho : o.op = .call { callee := .builtin .append, args := #[s, x], argTypes := #[t, t] })
    (base : Nat) (e : TypeId) (i : TypeInfo) (z : Value) (size bytes : Nat) (ht : P.underlying t = some (.slice e)) (hi : P.info? e = some i) (hz : i.zero = some z)
    (hsize : i.size = size) (hby : i.bytes = bytes) (hzs : z.cells.size = size) (hsz : 0 < size)
    (v : Value) (n : Nat) (xs : List Value) (hs : a.eval s = v) (hown : w.ownsRow base e size v n xs)
    (ad : Addr) (m c : Nat) (news : List Value) (hx : a.eval x = .slice (some ad) m c) (hl : news.length = m * size) (hnews : ∀ j u, news[j]? = some u → w.cell? (ad.add j) = some u) (h1 : ∀ u ∈ news, u.oneCell' = true)
    (hm : 0 < m) (h63 : n + m ≤ maxLen) (hbytes : (n + m) * bytes ≤ 140737488355328) (hbase : base ≤ w.heap.size)
    (h : ∀ v' w', w'.ownsRow base e size v' (n + m) (xs ++ news) → w.grownBy w' v.ownBlock → (∃ g, v'.ownBlock = some g ∧ (v.ownBlock = some g ∨ w.heap.size ≤ g)) → wpList P ops Q rest (a.put o.dst v') w') : wpList P ops Q (o :: rest) a w := by
  rcases hown.2 with ⟨e1, e2⟩ | ⟨g, cap, cur, e1, hbg, hg, hnc, hcm, hcs, htake⟩
  · subst e2
    have hxs : xs = [] := List.eq_nil_of_length_eq_zero (by simpa using hown.1)
    subst hxs
    refine wpList_append_grows w hgd s x t ho e i z size bytes ht hi hz hsize hby hzs hsz none 0 0 [] (hs.trans e1) (fun _ => ⟨rfl, rfl⟩) (by simp) (fun b hb => by cases hb) ad m c news hx hl hnews h1 (by omega) h63 hbytes fun v' w' k1 k2 => ?_
    obtain ⟨k3, g', k4, k5⟩ := owns_new' k1 hbase (by omega)
    exact h v' w' k3 (grown_any k2) ⟨g', k4, .inr k5⟩
  · by_cases hroom : n + m ≤ cap
    · refine wpList_append_fits w hgd s x t ho base e i size ht hi hsize g n cap xs (hs.trans e1) (by rw [← e1]; exact hown) ad m c news hx hl hnews h1 hroom fun w' k1 k2 => ?_
      refine h _ w' k1 (by rw [e1]; exact k2) ⟨g, rfl, .inl (by rw [e1]; rfl)⟩
    · have hob : v.ownBlock = some g := by rw [e1]; rfl
      refine wpList_append_grows w hgd s x t ho e i z size bytes ht hi hz hsize hby hzs hsz (some ⟨g, 0, none⟩) n cap xs (hs.trans e1) (fun e => by cases e) hown.1 (fun b hb => by cases hb; exact hown.cells hob) ad m c news hx hl hnews h1 (by omega) h63 hbytes fun v' w' k1 k2 => ?_
      obtain ⟨k3, g', k4, k5⟩ := owns_new' k1 hbase (by omega)
      exact h v' w' k3 (grown_any k2) ⟨g', k4, .inr k5⟩
/-- a state's cells and its own row -/
theorem VisR.own {lo nn : Nat} {lv : Value} {l : List Vi} {svs : List Value} {w : World} (h : VisR lo nn lv l svs w) {j : Nat} {v : Vi} (hj : l[j]? = some v) :
    ∃ g lc sa sc, lv = .slice (some ⟨g, 0, none⟩) l.length lc ∧ g < w.heap.size ∧ w.cell? ⟨g, j * 4, none⟩ = some (.slice sa nn sc) ∧ w.cell? ⟨g, j * 4 + 1, none⟩ = some (.int .i64 v.fr) ∧ w.cell? ⟨g, j * 4 + 2, none⟩ = some (.int .i64 v.inp) ∧ w.cell? ⟨g, j * 4 + 3, none⟩ = some (.int .i64 (v.tick : Int)) ∧ w.ownsRow lo 4 1 (.slice sa nn sc) nn (bvs v.st) ∧ v.st.length = nn := by
  have hrow := h.row
  have hj2 := (List.getElem?_eq_some_iff.1 hj).1
  rcases hrow.2 with ⟨e1, e2⟩ | ⟨g, cap, cur, e1, hb, hg, hc, _⟩
  · omega
  · rw [e1] at hrow
    obtain ⟨sv, h1, h2, h3⟩ := h.sts j v hj
    obtain ⟨sa, sc, e3, _, hz, _⟩ := bools_of h3 h2
    rw [e3] at h3
    obtain ⟨a, b, c, d⟩ := visL_get svs l j v sv hj h1
    have hx : ∀ m, m < 4 → w.cell? ⟨g, j * 4 + m, none⟩ = (visL svs l)[j * 4 + m]? := fun m hm => hrow.cellAt (j * 4 + m) (by omega)
    refine ⟨g, cap, sa, sc, e1, (Array.getElem?_eq_some_iff.1 hg).1, ?_, ?_, ?_, ?_, h3, h2⟩
    · exact (hx 0 (by omega)).trans (by rw [← e3]; exact a)
    · exact (hx 1 (by omega)).trans b
    · exact (hx 2 (by omega)).trans c
    · exact (hx 3 (by omega)).trans d
/-- what holds between the rounds over the inputs -/
structure WdI (y : Sy) (lo mb nn tb : Nat) (sv0 : Value) (v : Vi) (lv : Value) (l : List Vi) (svs : List Value) (a : Nat) (ks : List Int) (w wr : World) : Prop where
  inv : Inv y l a
  vis : VisR (lo + 1) nn lv l svs wr
  map : MapS mb ks.length ks wr
  bel : Below lo w wr
  box : wr.heap[lo]? = some (.cells #[.int .i64 0, .int .i64 0, .slice none 0 0] 33)
  st : wr.heap[tb]? = some (.cells #[sv0, .int .i64 v.fr, .int .i64 v.inp, .int .i64 (v.tick : Int)] 99)
  own : wr.ownsRow (lo + 1) 4 1 sv0 nn (bvs v.st)
  apart : lv.ownBlock ≠ some tb
  at_ : l[a]? = some v
  ltm : lo < mb
  ltt : lo < tb
  mtb : mb ≠ tb
theorem keysL_len (l : List Vi) : (keysL l).length = l.length := by unfold keysL; rw [List.length_map]
theorem below_of_block {W W' : World} {b : Nat} {o : Obj} (hb : Below W.heap.size W W') (h : W.heap[b]? = some o) : W'.heap[b]? = some o := (hb.block b (Array.getElem?_eq_some_iff.1 h).1).trans h
theorem WdI.mk' {y : Sy} {lo mb nn : Nat} {sv0 lv : Value} {v : Vi} {l : List Vi} {svs : List Value} {a : Nat} {w wr : World} (h : Wd y lo mb nn lv l svs a w wr) (hv : l[a]? = some v) (hown : wr.ownsRow (lo + 1) 4 1 sv0 nn (bvs v.st)) :
    WdI y lo mb nn wr.heap.size sv0 v lv l svs a (keysL l) w (wr.alloc (.cells #[sv0, .int .i64 v.fr, .int .i64 v.inp, .int .i64 (v.tick : Int)] 99)) := by
  have hb : Below wr.heap.size wr (wr.alloc (.cells #[sv0, .int .i64 v.fr, .int .i64 v.inp, .int .i64 (v.tick : Int)] 99)) := (Below.refl _ _).alloc (Nat.le_refl _) _
  have hl : lo < wr.heap.size := (Array.getElem?_eq_some_iff.1 h.box).1
  have hm := h.map
  rw [← keysL_len] at hm
  exact ⟨h.inv, h.vis.below hb, hm.below hm.lt hb, h.bel.trans (hb.mono (by omega)), below_of_block hb h.box, heap_new _ _, own_below' hown hb, fun e => by have := (h.vis.row.lt _ e).2; omega, hv, h.lt, hl, by have := hm.lt; omega⟩
theorem WdI.below {y : Sy} {lo mb nn tb : Nat} {sv0 lv : Value} {v : Vi} {l : List Vi} {svs : List Value} {a : Nat} {ks : List Int} {w wr w' : World} (h : WdI y lo mb nn tb sv0 v lv l svs a ks w wr) (hb : Below wr.heap.size wr w') : WdI y lo mb nn tb sv0 v lv l svs a ks w w' := by
  have hl : lo < wr.heap.size := (Array.getElem?_eq_some_iff.1 h.box).1
  exact ⟨h.inv, h.vis.below hb, h.map.below h.map.lt hb, h.bel.trans (hb.mono (by omega)), below_of_block hb h.box, below_of_block hb h.st, own_below' h.own hb, h.apart, h.at_, h.ltm, h.ltt, h.mtb⟩
theorem WdI.put {y : Sy} {lo mb nn tb : Nat} {sv0 lv : Value} {v : Vi} {l : List Vi} {svs : List Value} {a : Nat} {ks ks' : List Int} {w wr w' : World} (h : WdI y lo mb nn tb sv0 v lv l svs a ks w wr) (hg : wr.grownBy w' (some mb)) (hm : MapS mb ks'.length ks' w') : WdI y lo mb nn tb sv0 v lv l svs a ks' w w' := by
  have hl : lo < wr.heap.size := (Array.getElem?_eq_some_iff.1 h.box).1
  have ht : tb < wr.heap.size := (Array.getElem?_eq_some_iff.1 h.st).1
  exact ⟨h.inv, h.vis.put h.map hg, hm, h.bel.grown hg (by omega) (fun g e => by cases e; exact Nat.le_of_lt h.ltm), (hg.block lo hl (by intro e; injection e with e; have := h.ltm; omega)).trans h.box, (hg.block tb ht (by intro e; injection e with e; exact h.mtb e.symm)).trans h.st, own_map h.own h.map hg, h.apart, h.at_, h.ltm, h.ltt, h.mtb⟩
theorem WdI.snoc {y : Sy} (hy : Kb.Good y) {lo mb nn tb n : Nat} {sv0 lv lv' sv : Value} {v u : Vi} {l : List Vi} {svs : List Value} {a : Nat} {ks : List Int} {w wr w' : World} (h : WdI y lo mb nn tb sv0 v lv l svs a ks w wr) (hn : n < 2 ^ y.ins.length) (hgr : growZ y l a n v = l ++ [u]) (hg : wr.grownBy w' lv.ownBlock) (hrow : w'.ownsRow (lo + 1) 99 4 lv' (l.length + 1) (visL svs l ++ visC sv u)) (hst : wr.ownsRow (lo + 1) 4 1 sv nn (bvs u.st)) (hl : u.st.length = nn) (hto : ∃ g, lv'.ownBlock = some g ∧ (lv.ownBlock = some g ∨ wr.heap.size ≤ g)) : WdI y lo mb nn tb sv0 v lv' (l ++ [u]) (svs ++ [sv]) a ks w w' := by
  have hlo : lo < wr.heap.size := (Array.getElem?_eq_some_iff.1 h.box).1
  have ht : tb < wr.heap.size := (Array.getElem?_eq_some_iff.1 h.st).1
  have hbase : ∀ g, lv.ownBlock = some g → lo + 1 ≤ g := fun g e => (h.vis.row.lt g e).1
  refine ⟨hgr ▸ inv_grow hy h.inv h.at_ hn, h.vis.snoc hg hrow hst hl, map_own h.map h.vis.row hg, h.bel.grown hg (by omega) (fun g e => by have := hbase g e; omega), (hg.block lo hlo fun e => by have := hbase lo e.symm; omega).trans h.box, (hg.block tb ht fun e => h.apart e.symm).trans h.st, own_grown h.own h.vis.row (by decide) hg, fun e => ?_, hgr ▸ grow_get h.at_, h.ltm, h.ltt, h.mtb⟩
  obtain ⟨g, e1, e2⟩ := hto
  rw [e1] at e
  cases e
  rcases e2 with e2 | e2
  · exact h.apart e2
  · omega
theorem WdI.wd {y : Sy} {lo mb nn tb : Nat} {sv0 lv : Value} {v : Vi} {l : List Vi} {svs : List Value} {a : Nat} {w wr : World} (h : WdI y lo mb nn tb sv0 v lv l svs a (keysL l) w wr) : Wd y lo mb nn lv l svs (a + 1) w wr := by
  have hm := h.map
  rw [keysL_len] at hm
  exact ⟨inv_next h.inv (List.getElem?_eq_some_iff.1 h.at_).1, h.vis, hm, h.bel, h.box, h.ltm⟩
theorem seen_key {y : Sy} (hy : Kb.Good y) {l : List Vi} {a : Nat} (h : Inv y l a) {st : List Bool} (hs : st.length = y.now.length) : seenZ l st = decide ((keyZ st : Int) ∈ keysL l) := by
  rw [Bool.eq_iff_iff, seen_iff, decide_eq_true_iff]
  unfold keysL
  rw [List.mem_map, List.mem_map]
  constructor
  · rintro ⟨v, hv, e⟩
    exact ⟨v, hv, by rw [e]⟩
  · rintro ⟨v, hv, e⟩
    exact ⟨v, hv, keyZ_inj _ _ (by rw [h.len v hv, hs]) (by omega)⟩
/-- the verdict's box -/
structure BoxF (lo : Nat) (wr : World) : Prop where
  q0 : wr.cell? ⟨lo, 0, none⟩ = some (.int .i64 0)
  f0 : wr.frozen? ⟨lo, 0, none⟩ = false
  q1 : ∀ x, (wr.setCell ⟨lo, 0, none⟩ x).cell? ⟨lo, 1, none⟩ = some (.int .i64 0)
  q2 : ∀ x z, ((wr.setCell ⟨lo, 0, none⟩ x).setCell ⟨lo, 1, none⟩ z).cell? ⟨lo, 2, none⟩ = some (.slice none 0 0)
  g1 : ∀ x, (wr.setCell ⟨lo, 0, none⟩ x).frozen? ⟨lo, 1, none⟩ = false
  g2 : ∀ x z, ((wr.setCell ⟨lo, 0, none⟩ x).setCell ⟨lo, 1, none⟩ z).frozen? ⟨lo, 2, none⟩ = false
  r0 : ∀ x z u, (((wr.setCell ⟨lo, 0, none⟩ x).setCell ⟨lo, 1, none⟩ z).setCell ⟨lo, 2, none⟩ u).cell? ⟨lo, 0, none⟩ = some x
  r1 : ∀ x z u, (((wr.setCell ⟨lo, 0, none⟩ x).setCell ⟨lo, 1, none⟩ z).setCell ⟨lo, 2, none⟩ u).cell? ⟨lo, 1, none⟩ = some z
  r2 : ∀ x z u, (((wr.setCell ⟨lo, 0, none⟩ x).setCell ⟨lo, 1, none⟩ z).setCell ⟨lo, 2, none⟩ u).cell? ⟨lo, 2, none⟩ = some u
theorem box_f {lo : Nat} {wr : World} (hbox : wr.heap[lo]? = some (.cells #[.int .i64 0, .int .i64 0, .slice none 0 0] 33)) : BoxF lo wr := by
  obtain ⟨q0, f0⟩ := block_cell hbox 0
  obtain ⟨p1, f1⟩ := block_cell hbox 1
  obtain ⟨p2, f2⟩ := block_cell hbox 2
  have q0 : wr.cell? ⟨lo, 0, none⟩ = some (.int .i64 0) := q0
  have q1 : ∀ x, (wr.setCell ⟨lo, 0, none⟩ x).cell? ⟨lo, 1, none⟩ = some (.int .i64 0) := fun x => by
    rw [World.cell?_setCell_other _ ⟨lo, 0, none⟩ ⟨lo, 1, none⟩ _ (by intro e; injection e; omega)]; exact p1
  have q2 : ∀ x z, ((wr.setCell ⟨lo, 0, none⟩ x).setCell ⟨lo, 1, none⟩ z).cell? ⟨lo, 2, none⟩ = some (.slice none 0 0) := fun x z => by
    rw [World.cell?_setCell_other _ ⟨lo, 1, none⟩ ⟨lo, 2, none⟩ _ (by intro e; injection e; omega), World.cell?_setCell_other _ ⟨lo, 0, none⟩ ⟨lo, 2, none⟩ _ (by intro e; injection e; omega)]; exact p2
  refine ⟨q0, f0, q1, q2, fun x => by simp [f1], fun x z => by simp [f2], fun x z u => ?_, fun x z u => ?_, fun x z u => World.cell?_setCell_same _ _ _ (q2 x z)⟩
  · rw [World.cell?_setCell_other _ ⟨lo, 2, none⟩ ⟨lo, 0, none⟩ _ (by intro e; injection e; omega), World.cell?_setCell_other _ ⟨lo, 1, none⟩ ⟨lo, 0, none⟩ _ (by intro e; injection e; omega)]; exact World.cell?_setCell_same _ _ _ q0
  · rw [World.cell?_setCell_other _ ⟨lo, 2, none⟩ ⟨lo, 1, none⟩ _ (by intro e; injection e; omega)]; exact World.cell?_setCell_same _ _ _ (q1 x)
theorem box_far {lo tb : Nat} (wr : World) (h : lo ≠ tb) (m : Nat) (x z u : Value) : (((wr.setCell ⟨lo, 0, none⟩ x).setCell ⟨lo, 1, none⟩ z).setCell ⟨lo, 2, none⟩ u).cell? ⟨tb, m, none⟩ = wr.cell? ⟨tb, m, none⟩ := by
  rw [Go.World.cell?_setCell_far _ _ _ _ (by exact fun e => h e), Go.World.cell?_setCell_far _ _ _ _ (by exact fun e => h e), Go.World.cell?_setCell_far _ _ _ _ (by exact fun e => h e)]
theorem box_heap {lo g : Nat} (wr : World) (h : g ≠ lo) (x z u : Value) : (((wr.setCell ⟨lo, 0, none⟩ x).setCell ⟨lo, 1, none⟩ z).setCell ⟨lo, 2, none⟩ u).heap[g]? = wr.heap[g]? := by
  rw [Go.Deep.blk_setCell_other _ _ _ _ h, Go.Deep.blk_setCell_other _ _ _ _ h, Go.Deep.blk_setCell_other _ _ _ _ h]
theorem tick_le {s : Sy} {l : List Vi} {a : Nat} (h : Inv s l a) : ∀ (j : Nat) (v : Vi), l[j]? = some v → v.tick ≤ j := by
  intro j
  induction j using Nat.strongRecOn with
  | _ j ih =>
    intro v hv
    rcases Nat.eq_zero_or_pos j with e | e
    · subst e
      rw [h.root] at hv
      cases hv
      exact Nat.le_refl _
    · obtain ⟨p, n, u, h1, _, h3, _, _, _, _, _, h9⟩ := h.path j v e hv
      have := ih p h1 u h3
      omega
theorem bel_box {lo : Nat} {w wr : World} (h : Below lo w wr) (x z u : Value) : Below lo w (((wr.setCell ⟨lo, 0, none⟩ x).setCell ⟨lo, 1, none⟩ z).setCell ⟨lo, 2, none⟩ u) := ((h.setCell (p := ⟨lo, 0, none⟩) (Nat.le_refl _) x).setCell (p := ⟨lo, 1, none⟩) (Nat.le_refl _) z).setCell (p := ⟨lo, 2, none⟩) (Nat.le_refl _) u
end Go.Proofs.YtdgnafjllokioaaGreatDoor

/- The abstract heap, and what it is that a world stands for it. -/
import Derived.Test.YtjhbegfkeppcbaaXA
import Derived.Laws.Entries
import Derived.Laws.Append
import Derived.Laws.CopyRow
set_option autoImplicit false
namespace Go.X
noncomputable section

/-- A block: a row of cells (may it be written; its group: rows that may be one block), or a map's entries, or an iterator over a string. -/
inductive Blk where
  | row (cells : List AV) (elem : TypeId) (wr : Bool) (ps : List Nat)
  | map (es : List (AV × AV))
  | sit (s : ByteArray) (pos : Nat)

structure H where
  b : T Blk
  next : Nat

def Blk.wr (k : Blk) : Bool := match k with
  | .row _ _ wr _ => wr
  | _ => true
def Blk.ps (k : Blk) : List Nat := match k with
  | .row _ _ _ ps => ps
  | _ => []

def RE (L : LM) (e : AV × AV) (m : MapEntry) : Prop := RV L e.1 m.key ∧ RV L e.2 m.val
inductive REs (L : LM) : List (AV × AV) → List MapEntry → Prop where
  | nil : REs L [] []
  | cons (e : AV × AV) (m : MapEntry) (es : List (AV × AV)) (ms : List MapEntry) (h : RE L e m) (hs : REs L es ms) : REs L (e :: es) (m :: ms)
theorem REs.mono {L L' : LM} (x : Ext L L') : ∀ {es : List (AV × AV)} {ms : List MapEntry}, REs L es ms → REs L' es ms
  | _, _, .nil => .nil
  | _, _, .cons _ _ _ _ h hs => .cons _ _ _ _ ⟨RV.mono x h.1, RV.mono x h.2⟩ (REs.mono x hs)

/-- a block as it stands in a world -/
def RB (L : LM) (k : Blk) (w : World) (p : Loc) : Prop := match k with
  | .row cells elem wr _ => ∃ c fz, w.heap[p.B]? = some (.cells c elem fz) ∧ (c.size = p.E ∧ p.O ≤ p.E) ∧ (wr = true → fz = (0, 0)) ∧
      ∀ k v, cells[k]? = some v → ∃ v', c[p.O + k]? = some v' ∧ RV L v v'
  | .map es => ∃ ms clk, w.heap[p.B]? = some (.map ms clk) ∧ REs L es ms.toList
  | .sit s pos => w.heap[p.B]? = some (.stringIter s pos)

structure RH (L : LM) (h : H) (w : World) (U : Nat) : Prop where
  mem : ∀ i k p, h.b.get i = some k → L i = some p → RB L k w p
  sep : ∀ i j ki kj p q, h.b.get i = some ki → h.b.get j = some kj → L i = some p → L j = some q → i ≠ j → ki.wr = true → p.B = q.B → kj.wr = true ∧ p.O = q.O ∧ j ∈ ki.ps
  fresh : ∀ i, h.next ≤ i → i < U → L i = none
  below : ∀ i p, L i = some p → p.B < w.heap.size
  live : ∀ i k, h.b.get i = some k → i < h.next

def Own (L : LM) (h : H) (B : Nat) : Prop := ∃ i k p, h.b.get i = some k ∧ k.wr = true ∧ L i = some p ∧ p.B = B

structure Step (L L' : LM) (h h' : H) (w w' : World) : Prop where
  ext : Ext L L'
  size : w.heap.size ≤ w'.heap.size
  keep : ∀ B, B < w.heap.size → ¬ Own L h B → w'.heap[B]? = w.heap[B]?
  own : ∀ B, Own L' h' B → B < w.heap.size → Own L h B
  new : ∀ i p, L' i = some p → L i = some p ∨ (h.next ≤ i ∧ i < h'.next ∧ (w.heap.size ≤ p.B ∨ Own L h p.B))
  next : h.next ≤ h'.next
  os : w'.os = w.os
  output : w'.output = w.output
  tape : w'.tape = w.tape
  fro : ∀ a, w'.frozen? a = w.frozen? a

theorem Step.refl (L : LM) (h : H) (w : World) : Step L L h h w w :=
  ⟨Ext.refl L, Nat.le_refl _, fun _ _ _ => rfl, fun _ h _ => h, fun _ _ h => .inl h, Nat.le_refl _, rfl, rfl, rfl, fun _ => rfl⟩
theorem Step.trans {L L' L'' : LM} {h h' h'' : H} {w w' w'' : World} (s : Step L L' h h' w w') (t : Step L' L'' h' h'' w' w'') : Step L L'' h h'' w w'' where
  ext := s.ext.trans t.ext
  size := Nat.le_trans s.size t.size
  keep := fun B hB ho => (t.keep B (Nat.lt_of_lt_of_le hB s.size) fun h => ho (s.own B h hB)).trans (s.keep B hB ho)
  own := fun B h hB => s.own B (t.own B h (Nat.lt_of_lt_of_le hB s.size)) hB
  new := fun i p hp => by
    have n1 := s.next
    have n2 := t.next
    have n3 := s.size
    rcases t.new i p hp with h1 | ⟨h1, h2, h3⟩
    · rcases s.new i p h1 with h4 | ⟨h4, h5, h6⟩
      · exact .inl h4
      · exact .inr ⟨h4, by omega, h6⟩
    · refine .inr ⟨by omega, h2, ?_⟩
      rcases h3 with h3 | h3
      · exact .inl (by omega)
      · rcases Nat.lt_or_ge p.B w.heap.size with h7 | h7
        · exact .inr (s.own _ h3 h7)
        · exact .inl h7
  next := Nat.le_trans s.next t.next
  os := t.os.trans s.os
  output := t.output.trans s.output
  tape := t.tape.trans s.tape
  fro := fun a => (t.fro a).trans (s.fro a)

theorem RB.mono {L L' : LM} (x : Ext L L') {k : Blk} {w : World} {p : Loc} (h : RB L k w p) : RB L' k w p := by
  cases k with
  | row cells elem wr g =>
    obtain ⟨c, fz, h1, h2, h3, h4⟩ := h
    exact ⟨c, fz, h1, h2, h3, fun k v hk => let ⟨v', a, b⟩ := h4 k v hk; ⟨v', a, b.mono x⟩⟩
  | map es => obtain ⟨ms, clk, h1, h2⟩ := h; exact ⟨ms, clk, h1, h2.mono x⟩
  | sit s pos => exact h
theorem RB.keep {L : LM} {k : Blk} {w w' : World} {p : Loc} (h : RB L k w p) (e : w'.heap[p.B]? = w.heap[p.B]?) : RB L k w' p := by
  cases k with
  | row cells elem wr g =>
    obtain ⟨c, fz, h1, h2⟩ := h
    exact ⟨c, fz, e.trans h1, h2⟩
  | map es => obtain ⟨ms, clk, h1, h2⟩ := h; exact ⟨ms, clk, e.trans h1, h2⟩
  | sit s pos => exact (e.trans h : _)

/-- the world's draws do not matter -/
theorem RH.heap {L : LM} {h : H} {w w' : World} {U : Nat} (r : RH L h w U) (e : w'.heap = w.heap) : RH L h w' U where
  mem := fun i k p hi hp => (r.mem i k p hi hp).keep (by rw [e])
  sep := r.sep
  fresh := r.fresh
  below := fun i p h => by rw [e]; exact r.below i p h
  live := r.live

/-! Allocation -/
def lmNew (L : LM) (n : Nat) (p : Loc) : LM := fun i => if i = n then some p else L i
theorem lmNew_same (L : LM) (n : Nat) (p : Loc) : lmNew L n p n = some p := by simp [lmNew]
theorem lmNew_other {L : LM} {n i : Nat} {p : Loc} (h : i ≠ n) : lmNew L n p i = L i := by simp [lmNew, h]
theorem ext_new {L : LM} {n : Nat} {p : Loc} (h : L n = none) : Ext L (lmNew L n p) := fun i q hi => by
  by_cases e : i = n
  · subst e; rw [h] at hi; cases hi
  · rw [lmNew_other e]; exact hi

def hnew (h : H) (k : Blk) : H := ⟨h.b.set k h.next, Nat.succ h.next⟩
def hrow (h : H) (cells : List AV) (e : TypeId) : H := hnew h (.row cells e true [])

theorem alloc_heap (w : World) (o : Obj) (B : Nat) (h : B < w.heap.size) : (w.alloc o).heap[B]? = w.heap[B]? := by
  simp only [World.alloc, Array.getElem?_push]
  rw [if_neg (by omega)]
theorem alloc_new (w : World) (o : Obj) : (w.alloc o).heap[w.heap.size]? = some o := by
  simp only [World.alloc, Array.getElem?_push, if_true]
theorem fro_alloc (w : World) (c : Array Value) (t : TypeId) (a : Addr) : (w.alloc (.cells c t)).frozen? a = w.frozen? a := by
  unfold World.frozen?
  simp only [World.alloc, Array.getElem?_push]
  by_cases h : a.block = w.heap.size
  · rw [if_pos h, Array.getElem?_eq_none (by omega)]; simp
  · rw [if_neg h]
theorem fro_setRow {w : World} {g : Nat} {c c' : Array Value} {e : TypeId} {fz : Nat × Nat} (hc : w.heap[g]? = some (.cells c e fz)) (a : Addr) : (w.setRow g c').frozen? a = w.frozen? a := by
  by_cases h : a.block = g
  · have := setRow_heap w g c c' e fz hc
    unfold World.frozen?
    rw [h, this, hc]
  · unfold World.frozen?
    have : (w.setRow g c').heap[a.block]? = w.heap[a.block]? := by
      simp only [World.setRow, Array.getElem?_modify]
      rw [if_neg (by omega)]
    rw [this]
/-- blocks that are one but for the rows that they may be one with -/
def Same (k k' : Blk) : Prop := k' = k ∨ ∃ cells e wr ps ps', k = .row cells e wr ps ∧ k' = .row cells e wr ps'
theorem Same.wr {k k' : Blk} (s : Same k k') : k'.wr = k.wr := by
  rcases s with rfl | ⟨_, _, _, _, _, rfl, rfl⟩ <;> rfl
theorem Same.rb {k k' : Blk} (s : Same k k') {L : LM} {w : World} {p : Loc} (h : RB L k w p) : RB L k' w p := by
  rcases s with rfl | ⟨_, _, _, _, _, rfl, rfl⟩ <;> exact h
/-- a new block, in a heap that may have lost blocks -/
theorem rh_newG {L : LM} {h : H} {w : World} {U : Nat} (r : RH L h w U) (hU : Nat.succ h.next ≤ U) (k : Blk) (o : Obj) (ho : ∀ a, (w.alloc o).frozen? a = w.frozen? a) (E : Nat)
    (hb : ∀ L', Ext L L' → RB L' k (w.alloc o) ⟨w.heap.size, 0, E⟩) (b' : T Blk)
    (hb' : ∀ j kj, b'.get j = some kj → (j = h.next ∧ kj = k) ∨ (j ≠ h.next ∧ ∃ k0, h.b.get j = some k0 ∧ Same k0 kj ∧ ∀ l kl, l ≠ j → l ≠ h.next → b'.get l = some kl → l ∈ k0.ps → l ∈ kj.ps)) :
    ∃ L', L' h.next = some ⟨w.heap.size, 0, E⟩ ∧ RH L' ⟨b', Nat.succ h.next⟩ (w.alloc o) U ∧ Step L L' h ⟨b', Nat.succ h.next⟩ w (w.alloc o) := by
  have hn := r.fresh h.next (Nat.le_refl _) hU
  have hx : Ext L (lmNew L h.next ⟨w.heap.size, 0, E⟩) := ext_new hn
  have old : ∀ {i p}, i ≠ h.next → lmNew L h.next ⟨w.heap.size, 0, E⟩ i = some p → L i = some p ∧ p.B < w.heap.size := by
    intro i p hi hp
    rw [lmNew_other hi] at hp
    exact ⟨hp, r.below _ _ hp⟩
  refine ⟨lmNew L h.next ⟨w.heap.size, 0, E⟩, lmNew_same _ _ _, ⟨?_, ?_, ?_, ?_, ?_⟩, ⟨hx, ?_, ?_, ?_, ?_, Nat.le_succ _, rfl, rfl, rfl, ho⟩⟩
  · intro i ki p hk hp
    rcases hb' i ki hk with ⟨rfl, rfl⟩ | ⟨hi, k0, hk, hs, _⟩
    · rw [lmNew_same] at hp; cases hp
      exact hb _ hx
    · obtain ⟨hp', hlt⟩ := old hi hp
      exact hs.rb (((r.mem _ _ _ hk hp').mono hx).keep (alloc_heap _ _ _ hlt))
  · intro i j ki kj p q hi hj hp hq hij hw hB
    rcases hb' i ki hi with ⟨rfl, rfl⟩ | ⟨hi', k0, hi0, hs, hl⟩
    · rcases hb' j kj hj with ⟨rfl, rfl⟩ | ⟨hj', k1, hj1, hs1, hl1⟩
      · exact absurd rfl hij
      · obtain ⟨_, d⟩ := old hj' hq
        rw [lmNew_same] at hp; cases hp
        simp at hB; omega
    · obtain ⟨a, d⟩ := old hi' hp
      rcases hb' j kj hj with ⟨rfl, rfl⟩ | ⟨hj', k1, hj1, hs1, hl1⟩
      · rw [lmNew_same] at hq; cases hq
        simp at hB; omega
      · obtain ⟨a', d'⟩ := old hj' hq
        obtain ⟨x, y, z⟩ := r.sep i j _ _ _ _ hi0 hj1 a a' hij (by rw [← hs.wr]; exact hw) hB
        exact ⟨by rw [hs1.wr]; exact x, y, hl j kj (Ne.symm hij) hj' hj z⟩
  · intro i hi hiu
    have : h.next < i := hi
    rw [lmNew_other (by omega)]
    exact r.fresh i (by omega) hiu
  · intro i p hp
    by_cases e : i = h.next
    · subst e; rw [lmNew_same] at hp; cases hp; simp
    · rw [lmNew_other e] at hp
      have := r.below i p hp
      simp; omega
  · intro i ki hk
    rcases hb' i ki hk with ⟨rfl, _⟩ | ⟨_, k0, hk, _⟩
    · exact Nat.lt_succ_self _
    · exact Nat.lt_succ_of_lt (r.live _ _ hk)
  · simp
  · intro B hB _; exact alloc_heap _ _ _ hB
  · rintro B ⟨i, ki, p, hi, hw, hp, rfl⟩ hB
    rcases hb' i ki hi with ⟨rfl, rfl⟩ | ⟨hi', k0, hi0, hs, _⟩
    · rw [lmNew_same] at hp; cases hp; simp at hB
    · obtain ⟨a, d⟩ := old hi' hp
      exact ⟨i, k0, p, hi0, by rw [← hs.wr]; exact hw, a, rfl⟩
  · intro i p hp
    by_cases e : i = h.next
    · subst e; rw [lmNew_same] at hp; cases hp; exact .inr ⟨Nat.le_refl _, Nat.lt_succ_self _, .inl (Nat.le_refl _)⟩
    · rw [lmNew_other e] at hp; exact .inl hp
/-- a new block -/
theorem rh_new {L : LM} {h : H} {w : World} {U : Nat} (r : RH L h w U) (hU : Nat.succ h.next ≤ U) (k : Blk) (o : Obj) (ho : ∀ a, (w.alloc o).frozen? a = w.frozen? a) (E : Nat)
    (hb : ∀ L', Ext L L' → RB L' k (w.alloc o) ⟨w.heap.size, 0, E⟩) :
    ∃ L', L' h.next = some ⟨w.heap.size, 0, E⟩ ∧ RH L' (hnew h k) (w.alloc o) U ∧ Step L L' h (hnew h k) w (w.alloc o) :=
  rh_newG r hU k o ho E hb _ fun j kj hj => by
    rcases T.get_set hj with ⟨rfl, rfl⟩ | ⟨hi, hk⟩
    · exact .inl ⟨rfl, rfl⟩
    · exact .inr ⟨hi, kj, hk, .inl rfl, fun _ _ _ _ _ h => h⟩
theorem rh_row {L : LM} {h : H} {w : World} {U : Nat} (r : RH L h w U) (hU : Nat.succ h.next ≤ U) (cells : List AV) (e : TypeId) (c : Array Value)
    (hc : ∀ (k : Nat) (v : AV), cells[k]? = some v → ∃ v', c[k]? = some v' ∧ RV L v v') :
    ∃ L', L' h.next = some ⟨w.heap.size, 0, c.size⟩ ∧ RH L' (hrow h cells e) (w.alloc (.cells c e)) U ∧ Step L L' h (hrow h cells e) w (w.alloc (.cells c e)) :=
  rh_new r hU _ _ (fro_alloc _ _ _) _ fun _ hx => ⟨c, (0, 0), alloc_new _ _, ⟨rfl, Nat.zero_le _⟩, fun _ => rfl, fun k v hv =>
    let ⟨v', a, b⟩ := hc k v hv
    ⟨v', by simpa using a, b.mono hx⟩⟩
theorem hc_of_rvs {L : LM} {cells : List AV} {c : Array Value} (h : RVs L cells c.toList) (k : Nat) (v : AV) (hk : cells[k]? = some v) : ∃ v', c[k]? = some v' ∧ RV L v v' := by
  obtain ⟨v', a, b⟩ := RVs.get h hk
  exact ⟨v', by simpa using a, b⟩
/-! Writing -/
/-- strike of the rows ps all that reach beyond cell p, but row i -/
def killp (t : T Blk) (i p : Nat) (ps : List Nat) : T Blk :=
  List.rec t (fun q _ ih => Bool.rec (match t.get q with
    | some (.row cs _ _ _) => Bool.rec (ih.del q) ih (Nat.ble (llen cs) p)
    | some _ => ih.del q
    | none => ih) ih (Nat.beq q i)) ps
theorem get_killp {t : T Blk} {i p : Nat} : ∀ {ps : List Nat} {j : Nat} {k : Blk}, (killp t i p ps).get j = some k →
    t.get j = some k ∧ (j ≠ i → j ∈ ps → ∃ cs e wr qs, k = .row cs e wr qs ∧ cs.length ≤ p)
  | [], j, k, h => ⟨h, fun _ h => by cases h⟩
  | q :: ps, j, k, h => by
    have key : (killp t i p (q :: ps)) = Bool.rec (match t.get q with
      | some (.row cs _ _ _) => Bool.rec ((killp t i p ps).del q) (killp t i p ps) (Nat.ble (llen cs) p)
      | some _ => (killp t i p ps).del q
      | none => (killp t i p ps)) (killp t i p ps) (Nat.beq q i) := rfl
    rw [key] at h
    have keep : (killp t i p ps).get j = some k → (j = q → j ≠ i → ∃ cs e wr qs, k = .row cs e wr qs ∧ cs.length ≤ p) →
        t.get j = some k ∧ (j ≠ i → j ∈ q :: ps → ∃ cs e wr qs, k = .row cs e wr qs ∧ cs.length ≤ p) := by
      intro h h'
      obtain ⟨a, b⟩ := get_killp h
      refine ⟨a, fun hji hm => ?_⟩
      rcases List.mem_cons.1 hm with rfl | hm
      · exact h' rfl hji
      · exact b hji hm
    have strike : ((killp t i p ps).del q).get j = some k → t.get j = some k ∧ (j ≠ i → j ∈ q :: ps → ∃ cs e wr qs, k = .row cs e wr qs ∧ cs.length ≤ p) := by
      intro h
      obtain ⟨a, b⟩ := T.get_del h
      exact keep b fun e => absurd e a
    cases hq : Nat.beq q i with
    | true =>
      rw [hq] at h
      exact keep h fun e hji => by rw [e] at hji; exact absurd (Nat.eq_of_beq_eq_true hq) hji
    | false =>
      rw [hq] at h
      cases hg : t.get q with
      | none =>
        rw [hg] at h
        refine keep h fun e _ => ?_
        obtain ⟨a, _⟩ := get_killp h
        rw [e, hg] at a; cases a
      | some kq =>
        rw [hg] at h
        cases kq with
        | row cs e wr qs =>
          cases hl : Nat.ble (llen cs) p with
          | true =>
            simp only [hl] at h
            refine keep h fun ej _ => ?_
            obtain ⟨a, _⟩ := get_killp h
            rw [ej, hg] at a; cases a
            exact ⟨cs, e, wr, qs, rfl, by rw [← llen_eq]; exact Nat.le_of_ble_eq_true hl⟩
          | false => simp only [hl] at h; exact strike h
        | map es => exact strike h
        | sit s pos => exact strike h

theorem setRow_heap_other (w : World) (g B : Nat) (c : Array Value) (h : B ≠ g) : (w.setRow g c).heap[B]? = w.heap[B]? := by
  simp only [World.setRow, Array.getElem?_modify]
  rw [if_neg (by omega)]

theorem rh_set {L : LM} {h : H} {w : World} {U : Nat} (r : RH L h w U) {i : Nat} {p : Loc} {cells : List AV} {e : TypeId} {ps : List Nat}
    (hi : h.b.get i = some (.row cells e true ps)) (hp : L i = some p) (c c' : Array Value) (hc : w.heap[p.B]? = some (.cells c e (0, 0))) (hsz : c'.size = c.size)
    (cells' : List AV) (hcells : ∀ (k : Nat) (v : AV), cells'[k]? = some v → ∃ v', c'[p.O + k]? = some v' ∧ RV L v v') (b' : T Blk)
    (hb : ∀ j k, b'.get j = some k → (j = i ∧ k = .row cells' e true ps) ∨ (j ≠ i ∧ h.b.get j = some k ∧
      (j ∈ ps → ∃ cs e' wr qs, k = .row cs e' wr qs ∧ ∀ n, n < cs.length → c'[p.O + n]? = c[p.O + n]?))) :
    RH L ⟨b', h.next⟩ (w.setRow p.B c') U ∧ Step L L h ⟨b', h.next⟩ w (w.setRow p.B c') := by
  have hsize : (w.setRow p.B c').heap.size = w.heap.size := by simp [World.setRow]
  have hnew := setRow_heap w p.B c c' e (0, 0) hc
  obtain ⟨hE, hO⟩ : c.size = p.E ∧ p.O ≤ p.E := by
    have hm := r.mem _ _ _ hi hp
    obtain ⟨c0, fz, h1, h2, _⟩ := hm
    rw [hc] at h1; cases h1; exact h2
  refine ⟨⟨?_, ?_, r.fresh, fun j q hq => by rw [hsize]; exact r.below j q hq, fun j k hj => by
    rcases hb j k hj with ⟨rfl, rfl⟩ | ⟨_, hk, _⟩
    · exact r.live _ _ hi
    · exact r.live _ _ hk⟩, ⟨Ext.refl L, by rw [hsize]; exact Nat.le_refl _, ?_, ?_, fun _ _ h => .inl h, Nat.le_refl _, rfl, rfl, rfl, fro_setRow hc⟩⟩
  · intro j k q hj hq
    rcases hb j k hj with ⟨rfl, rfl⟩ | ⟨hji, hk, hps⟩
    · rw [hp] at hq; cases hq; exact ⟨c', (0, 0), hnew, ⟨hsz.trans hE, hO⟩, fun _ => rfl, hcells⟩
    · have hm := r.mem _ _ _ hk hq
      by_cases hB : p.B = q.B
      · obtain ⟨hw, hO', hmem⟩ := r.sep i j _ _ p q hi hk hp hq (Ne.symm hji) rfl hB
        obtain ⟨cs, e', wr, qs, rfl, hn⟩ := hps hmem
        obtain ⟨c0, fz, h1, h2, h3, h4⟩ := hm
        rw [← hB, hc] at h1; cases h1
        refine ⟨c', (0, 0), by rw [← hB]; exact hnew, ⟨hsz.trans h2.1, h2.2⟩, fun _ => rfl, fun n v hv => ?_⟩
        obtain ⟨v', a, b⟩ := h4 n v hv
        exact ⟨v', by rw [← hO', hn n (List.getElem?_eq_some_iff.1 hv).1, hO']; exact a, b⟩
      · exact hm.keep (setRow_heap_other _ _ _ _ fun e => hB e.symm)
  · intro j l kj kl q s hj hl hq hs hjl hw hB
    have back : ∀ {j k}, b'.get j = some k → ∃ k0, h.b.get j = some k0 ∧ k0.wr = k.wr ∧ k0.ps = k.ps := by
      intro j k hk
      rcases hb j k hk with ⟨rfl, rfl⟩ | ⟨_, hk, _⟩
      · exact ⟨_, hi, rfl, rfl⟩
      · exact ⟨k, hk, rfl, rfl⟩
    obtain ⟨kj0, a1, a2, a3⟩ := back hj
    obtain ⟨kl0, b1, b2, b3⟩ := back hl
    obtain ⟨x, y, z⟩ := r.sep j l _ _ q s a1 b1 hq hs hjl (a2.trans hw) hB
    exact ⟨b2 ▸ x, y, a3 ▸ z⟩
  · intro B hB ho
    exact setRow_heap_other _ _ _ _ fun e => ho ⟨i, _, p, hi, rfl, hp, e.symm⟩
  · rintro B ⟨j, k, q, hj, hw, hq, rfl⟩ _
    rcases hb j k hj with ⟨rfl, rfl⟩ | ⟨_, hk, _⟩
    · exact ⟨j, _, q, hi, rfl, hq, rfl⟩
    · exact ⟨j, k, q, hk, hw, hq, rfl⟩

def AV.one (a : AV) : Bool := match a with
  | .any => false
  | .agg _ => false
  | .tup _ => false
  | _ => true
theorem RV.one {L : LM} {a : AV} {v : Value} (h : RV L a v) (ha : a.one = true) : v.oneCell' = true := by
  cases h <;> first | rfl | cases ha
def ones (l : List AV) : Bool := List.rec true (fun a _ ih => Bool.rec false ih a.one) l
theorem ones_rv {L : LM} : ∀ {as : List AV} {vs : List Value}, RVs L as vs → ones as = true → ∀ v ∈ vs, v.oneCell' = true
  | _, _, .nil, _, v, hv => by cases hv
  | _, _, .cons a x as vs h hs, ho, v, hv => by
    have ho' : (Bool.rec false (ones as) a.one : Bool) = true := ho
    cases ha : a.one with
    | false => rw [ha] at ho'; cases ho'
    | true =>
      rw [ha] at ho'
      rcases List.mem_cons.1 hv with rfl | hv
      · exact h.one ha
      · exact ones_rv hs ho' v hv

/-- m: in symbolic mode a test is laid down, else it is run -/
def chk (m b : Bool) (K : Prop) : Prop := Bool.rec (Bool.rec False K b) (b = true ∧ K) m
theorem chk_of {m b : Bool} {K : Prop} (h : chk m b K) : b = true ∧ K := by
  cases m with
  | true => exact h
  | false => cases b with
    | true => exact ⟨rfl, h⟩
    | false => exact h.elim

/-- cells xs into row i from cell o on -/
def hwr (m : Bool) (h : H) (i o : Nat) (xs : List AV) (K : H → Prop) : Prop :=
  match h.b.get i with
  | some (.row cells e true ps) => chk m (Nat.ble (Nat.add o (llen xs)) (llen cells)) (Bool.rec False (K ⟨(killp h.b i o ps).set (.row (lput cells xs o) e true ps) i, h.next⟩) (ones xs))
  | _ => False

theorem arr_splice (c : Array Value) (k : Nat) (vs : List Value) (h : k + vs.length ≤ c.size) (n : Nat) :
    ((c.toList.take k ++ vs ++ c.toList.drop (k + vs.length)).toArray)[n]? = if n < k then c[n]? else if n < k + vs.length then vs[n - k]? else c[n]? := by
  have hk : (c.toList.take k).length = k := by simp; omega
  simp only [List.getElem?_toArray]
  by_cases h1 : n < k
  · rw [if_pos h1, List.append_assoc, List.getElem?_append_left (by omega), List.getElem?_take, if_pos h1]; simp
  · rw [if_neg h1]
    by_cases h2 : n < k + vs.length
    · rw [if_pos h2, List.getElem?_append_left (by simp; omega), List.getElem?_append_right (by omega), hk]
    · rw [if_neg h2, List.getElem?_append_right (by simp; omega), List.getElem?_drop]
      simp only [List.length_append, hk]
      rw [show k + vs.length + (n - (k + vs.length)) = n by omega]; simp
theorem list_splice {α : Type} (l xs : List α) (k : Nat) (h : k + xs.length ≤ l.length) (n : Nat) :
    (l.take k ++ (xs ++ l.drop (k + xs.length)))[n]? = if n < k then l[n]? else if n < k + xs.length then xs[n - k]? else l[n]? := by
  have hk : (l.take k).length = k := by simp; omega
  by_cases h1 : n < k
  · rw [if_pos h1, List.getElem?_append_left (by omega), List.getElem?_take, if_pos h1]
  · rw [if_neg h1, List.getElem?_append_right (by omega), hk]
    by_cases h2 : n < k + xs.length
    · rw [if_pos h2, List.getElem?_append_left (by omega)]
    · rw [if_neg h2, List.getElem?_append_right (by omega), List.getElem?_drop]
      rw [show k + xs.length + (n - k - xs.length) = n by omega]

theorem add_at (B o k : Nat) : (⟨B, o, none⟩ : Addr).add k = ⟨B, o + k, none⟩ := by
  unfold Addr.add; split
  · subst_vars; rfl
  · rfl

theorem hwr_sound {P : Program} {m : Bool} {L : LM} {h : H} {w : World} {U : Nat} (r : RH L h w U) {i o : Nat} {xs : List AV} {K : H → Prop} (hk : hwr m h i o xs K)
    {p : Loc} (hp : L i = some p) {vs : List Value} (hv : RVs L xs vs) :
    ∃ h' w', K h' ∧ (storeCells ⟨p.B, p.O + o, none⟩ vs).run P w = .ok () w' ∧ RH L h' w' U ∧ Step L L h h' w w' := by
  unfold hwr at hk
  split at hk
  · rename_i cells e ps hi
    obtain ⟨hle, hk⟩ := chk_of hk
    have ho : ones xs = true := by
      cases ho : ones xs with
      | true => rfl
      | false => rw [ho] at hk; exact hk.elim
    rw [ho] at hk
    have hle := Nat.le_of_ble_eq_true hle
    rw [llen_eq, llen_eq] at hle
    have hle : o + xs.length ≤ cells.length := hle
    have hm := r.mem _ _ _ hi hp
    obtain ⟨c, fz, h1, h2, h3, h4⟩ := hm
    have := h3 rfl; subst this
    have hlen := hv.length
    have hfit : p.O + o + vs.length ≤ c.size := by
      rcases Nat.eq_zero_or_pos cells.length with h0 | h0
      · have := h2.1; have := h2.2; omega
      · have hl : cells.length - 1 < cells.length := by omega
        obtain ⟨v', a, _⟩ := h4 (cells.length - 1) _ (List.getElem?_eq_getElem hl)
        have := (Array.getElem?_eq_some_iff.1 a).1
        omega
    have hrun := run_storeCells_at P p.B (p.O + o) e vs 0 c w h1 (by simpa using hfit) (ones_rv hv ho)
    refine ⟨_, _, hk, hrun, ?_⟩
    refine rh_set r hi hp c _ h1 (by simp; omega) (lput cells xs o) ?_ _ ?_
    · intro k v hkv
      rw [lput_eq, list_splice _ _ _ hle] at hkv
      rw [Nat.add_zero, arr_splice _ _ _ hfit]
      by_cases c1 : k < o
      · rw [if_pos c1] at hkv; rw [if_pos (by omega)]; exact h4 k v hkv
      · rw [if_neg c1] at hkv; rw [if_neg (by omega)]
        by_cases c2 : k < o + xs.length
        · rw [if_pos c2] at hkv; rw [if_pos (by omega), show p.O + k - (p.O + o) = k - o by omega]
          exact RVs.get hv hkv
        · rw [if_neg c2] at hkv; rw [if_neg (by omega)]; exact h4 k v hkv
    · intro j k hj
      rcases T.get_set hj with ⟨rfl, rfl⟩ | ⟨hji, hj⟩
      · exact .inl ⟨rfl, rfl⟩
      · obtain ⟨a, b⟩ := get_killp hj
        refine .inr ⟨hji, a, fun hm => ?_⟩
        obtain ⟨cs, e', wr, qs, rfl, hn⟩ := b hji hm
        refine ⟨cs, e', wr, qs, rfl, fun n hn' => ?_⟩
        rw [Nat.add_zero, arr_splice _ _ _ hfit, if_pos (by omega)]
  · exact hk.elim
end
end Go.X

/- Kind: the document's states in memory (Reach). -/
import Derived.Test.YtdgnafjllokioaaGreatDoorKS
import Derived.Test.YtdgnafjllokioaaGreatDoorKb
import Derived.Deep.Heap
set_option linter.unusedVariables false
set_option linter.unusedSimpArgs false
set_option autoImplicit false
set_option linter.unusedVariables false
set_option linter.unusedSimpArgs false
namespace Go.Proofs.YtdgnafjllokioaaGreatDoor
open Go.Proofs Go
open Go.RowKit Kb
/-- rows of different elements lie in different blocks -/
theorem own_apart {w : World} {base base' e e' size size' n n' : Nat} {v v' : Value} {xs xs' : List Value} (h : w.ownsRow base e size v n xs) (hv : w.ownsRow base' e' size' v' n' xs') (hne : e ≠ e') (g : Nat) (h1 : v.ownBlock = some g) : v'.ownBlock ≠ some g := fun e2 => by
  rcases h.2 with ⟨e4, _⟩ | ⟨g1, cap1, cur1, e4, _, e5, _⟩
  · rw [e4] at h1; cases h1
  · rw [e4] at h1
    cases h1
    rcases hv.2 with ⟨e6, _⟩ | ⟨g2, cap2, cur2, e6, _, e7, _⟩
    · rw [e6] at e2; cases e2
    · rw [e6] at e2
      cases e2
      rw [e5] at e7
      cases e7
      exact hne rfl
/-- the inputs' row, in block ib -/
abbrev InR (lo ib im : Nat) (vs : List Bool) (wr : World) : Prop := wr.ownsRow lo 4 1 (.slice (some ⟨ib, 0, none⟩) im im) im (bvs vs)
theorem cell_kept {w w' : World} {b k : Nat} (e : w'.heap[b]? = w.heap[b]?) : w'.cell? ⟨b, k, none⟩ = w.cell? ⟨b, k, none⟩ := by
  unfold World.cell?
  rw [e]
theorem SB.kept {s : Nat} {d : SA} {gn nn im : Nat} {ok asm : Int} {w w' : World} (h : SB s d gn nn im ok asm w) (e : w'.heap[s]? = w.heap[s]?) (hs : w.heap.size ≤ w'.heap.size) : SB s d gn nn im ok asm w' :=
  ⟨(cell_kept e).trans h.c0, (cell_kept e).trans h.c1, (cell_kept e).trans h.c2, (cell_kept e).trans h.c3, (cell_kept e).trans h.c4, (cell_kept e).trans h.c5, (cell_kept e).trans h.c6, Nat.lt_of_lt_of_le h.lt hs⟩
/-- the system's box in block lo; the states' row: each state's row was there before, or is one of the call's own that lies not in block ib -/
structure RcS (d : SA) (gn nn im : Nat) (ok asm : Int) (lo ib : Nat) (sv : Value) (ss : List (List Bool)) (svs : List Value) (w wr : World) : Prop where
  row : wr.ownsRow (lo + 1) 26 1 sv ss.length svs
  len : svs.length = ss.length
  sts : ∀ (j : Nat) (st : List Bool), ss[j]? = some st → ∃ x, svs[j]? = some x ∧ st.length = nn ∧ ((∃ a c, x = .slice a nn c ∧ Bools w a st) ∨ (wr.ownsRow (lo + 1) 4 1 x nn (bvs st) ∧ x.ownBlock ≠ some ib))
  bel : Below lo w wr
  sb : SB lo d gn nn im ok asm wr
section
variable {d : SA} {gn nn im : Nat} {ok asm : Int} {lo ib : Nat} {sv : Value} {ss : List (List Bool)} {svs : List Value} {w wr w' : World}
theorem RcS.view (h : RcS d gn nn im ok asm lo ib sv ss svs w wr) (hlo : w.heap.size = lo) (h0 : 0 < ss.length) :
    ∃ g cap, sv = .slice (some ⟨g, 0, none⟩) ss.length cap ∧ g < wr.heap.size ∧ ∀ j st, ss[j]? = some st → ∃ a c, wr.cell? ⟨g, j, none⟩ = some (.slice a nn c) ∧ Bools wr a st ∧ st.length = nn := by
  have hrow := h.row
  rcases hrow.2 with ⟨_, e2⟩ | ⟨g, cap, cur, e1, hb, hg, hc, _⟩
  · omega
  · rw [e1] at hrow
    refine ⟨g, cap, e1, (Array.getElem?_eq_some_iff.1 hg).1, fun j st hj => ?_⟩
    obtain ⟨x, h1, h2, h3⟩ := h.sts j st hj
    have hj2 := (List.getElem?_eq_some_iff.1 hj).1
    have hx : wr.cell? ⟨g, j, none⟩ = some x := (hrow.cellAt j (by omega)).trans h1
    rcases h3 with ⟨a, c, rfl, hz⟩ | ⟨h3, _⟩
    · exact ⟨a, c, hx, hz.below (hlo ▸ h.bel), h2⟩
    · obtain ⟨a, c, rfl, _, hz, _⟩ := bools_of h3 h2
      exact ⟨a, c, hx, hz, h2⟩
theorem RcS.keep (h : RcS d gn nn im ok asm lo ib sv ss svs w wr) (hb : Below lo w w') (hsb : SB lo d gn nn im ok asm w') (hr : w'.ownsRow (lo + 1) 26 1 sv ss.length svs) (hk : ∀ x n xs, wr.ownsRow (lo + 1) 4 1 x n xs → x.ownBlock ≠ some ib → w'.ownsRow (lo + 1) 4 1 x n xs) : RcS d gn nn im ok asm lo ib sv ss svs w w' :=
  ⟨hr, h.len, fun j st hj => by
    obtain ⟨x, h1, h2, h3⟩ := h.sts j st hj
    exact ⟨x, h1, h2, h3.imp id fun ⟨a, b⟩ => ⟨hk _ _ _ a b, b⟩⟩, hb, hsb⟩
theorem RcS.below (h : RcS d gn nn im ok asm lo ib sv ss svs w wr) (hb : Below wr.heap.size wr w') : RcS d gn nn im ok asm lo ib sv ss svs w w' :=
  h.keep (h.bel.trans (hb.mono (Nat.le_of_lt h.sb.lt))) (h.sb.below h.sb.lt hb) (own_below' h.row hb) fun _ _ _ a _ => own_below' a hb
theorem RcS.fresh {ib' : Nat} (h : RcS d gn nn im ok asm lo ib sv ss svs w wr) (hb : wr.heap.size ≤ ib') : RcS d gn nn im ok asm lo ib' sv ss svs w wr :=
  ⟨h.row, h.len, fun j st hj => by
    obtain ⟨x, h1, h2, h3⟩ := h.sts j st hj
    exact ⟨x, h1, h2, h3.imp id fun ⟨a, b⟩ => ⟨a, fun e => by have := (a.lt _ e).2; omega⟩⟩, h.bel, h.sb⟩
theorem RcS.set {vs : List Bool} (h : RcS d gn nn im ok asm lo ib sv ss svs w wr) (hi : InR (lo + 1) ib im vs wr) (hib : lo < ib) (k : Nat) (v : Value) : RcS d gn nn im ok asm lo ib sv ss svs w (wr.setCell ⟨ib, k, none⟩ v) := by
  have hk : ∀ g, g ≠ ib → (wr.setCell ⟨ib, k, none⟩ v).heap[g]? = wr.heap[g]? := fun g hg => Go.Deep.blk_setCell_other _ _ _ _ hg
  refine h.keep (h.bel.setCell (p := ⟨ib, k, none⟩) (Nat.le_of_lt hib) v) (h.sb.kept (hk lo (by omega)) (by rw [World.size_setCell]; exact Nat.le_refl _)) (owns_keep h.row fun g hg => hk g fun e => ?_) fun x n xs a b => owns_keep a fun g hg => hk g fun e => b (e ▸ hg)
  subst e
  exact own_apart h.row hi (by decide) g hg rfl
theorem InR.set {lo ib im : Nat} {vs vs' : List Bool} {wr : World} (h : InR lo ib im vs wr) (k : Nat) (x : Bool) (e : vs.set k x = vs') : InR lo ib im vs' (wr.setCell ⟨ib, k, none⟩ (.bool x)) := by
  have hst := (World.ownsRow.stored h k (.bool x)).1
  unfold InR bvs
  rw [← e, List.map_set]
  exact hst
theorem InR.cell {lo ib im : Nat} {vs : List Bool} {wr : World} (h : InR lo ib im vs wr) (hl : vs.length = im) {k : Nat} (hk : k < im) : wr.cell? ⟨ib, k, none⟩ = some (.bool (vs.getD k false)) ∧ wr.frozen? ⟨ib, k, none⟩ = false := by
  refine ⟨?_, World.ownsRow.frozenAt h k⟩
  unfold InR at h
  rw [h.cellAt k (by omega)]
  unfold bvs
  rw [List.getElem?_map, List.getElem?_eq_getElem (by omega), List.getD_eq_getElem?_getD, List.getElem?_eq_getElem (by omega)]
  rfl
theorem InR.bools {lo ib im : Nat} {vs : List Bool} {wr : World} (h : InR lo ib im vs wr) (hl : vs.length = im) : Bools wr (some ⟨ib, 0, none⟩) vs := by
  obtain ⟨am, cm, e, _, hB, _⟩ := bools_of (ms := vs) h hl
  cases e
  exact hB
/-- one state more -/
theorem RcS.snoc {sv' x : Value} {st : List Bool} (h : RcS d gn nn im ok asm lo ib sv ss svs w wr) (hg : wr.grownBy w' sv.ownBlock) (hrow : w'.ownsRow (lo + 1) 26 1 sv' (ss.length + 1) (svs ++ [x])) (hst : wr.ownsRow (lo + 1) 4 1 x nn (bvs st)) (hx : x.ownBlock ≠ some ib) (hl : st.length = nn) : RcS d gn nn im ok asm lo ib sv' (ss ++ [st]) (svs ++ [x]) w w' := by
  have hbase : ∀ g, sv.ownBlock = some g → lo + 1 ≤ g := fun g e => (h.row.lt g e).1
  refine ⟨by rw [List.length_append]; exact hrow, by rw [List.length_append, List.length_append, h.len]; rfl, fun j u hj => ?_, h.bel.grown hg (Nat.le_of_lt h.sb.lt) fun g e => by have := hbase g e; omega, h.sb.kept (hg.block lo h.sb.lt fun e => by have := hbase lo e.symm; omega) hg.size⟩
  by_cases hlt : j < ss.length
  · rw [List.getElem?_append_left hlt] at hj
    obtain ⟨x', h1, h2, h3⟩ := h.sts j u hj
    exact ⟨x', by rw [List.getElem?_append_left (by have := h.len; omega)]; exact h1, h2, h3.imp id fun ⟨a, b⟩ => ⟨own_grown a h.row (by decide) hg, b⟩⟩
  · have hj2 : j = ss.length := by
      have := (List.getElem?_eq_some_iff.1 hj).1
      rw [List.length_append, List.length_singleton] at this
      omega
    subst hj2
    rw [List.getElem?_append_right (Nat.le_refl _), Nat.sub_self] at hj
    have hj : st = u := by simpa using hj
    subst hj
    exact ⟨x, by rw [← h.len, List.getElem?_append_right (Nat.le_refl _), Nat.sub_self]; rfl, hl, .inr ⟨own_grown hst h.row (by decide) hg, hx⟩⟩
theorem RcS.drew (h : RcS d gn nn im ok asm lo ib sv ss svs w wr) : RcS d gn nn im ok asm lo ib sv ss svs w wr.drew := h.below (below_drew (Below.refl _ _))
end
theorem row_one26 {w : World} {lo : Nat} (sv : Value) (hl : lo ≤ w.heap.size) : (w.alloc (.cells #[sv] 26)).ownsRow lo 26 1 (.slice (some ⟨w.heap.size, 0, none⟩) 1 1) 1 [sv] :=
  ⟨rfl, .inr ⟨w.heap.size, 1, _, rfl, hl, heap_new w _, Nat.le_refl _, by unfold maxLen; omega, rfl, rfl⟩⟩
theorem new_ins {w : World} {lo n : Nat} (hl : lo ≤ w.heap.size) (hn : n ≤ 100000) : InR lo w.heap.size n (List.replicate n false) (w.alloc (.cells (madeCells #[.bool false] n) 4)) := by
  unfold InR bvs
  rw [List.map_replicate]
  exact made_row (heap_new w _) hl (by unfold maxLen; omega)
/-- what the document's search tells -/
def ReachOut (res : ResT) (w : World) (e : Ending) (w' : World) : Prop := ∃ (b : Int) (N : Nat), e = .returned (.tuple #[.int .i64 b, .int .i64 (N : Int)]) ∧ Below w.heap.size w w' ∧ ((b = -1 ∧ res.2 = none) ∨ BadAt res b)
end Go.Proofs.YtdgnafjllokioaaGreatDoor

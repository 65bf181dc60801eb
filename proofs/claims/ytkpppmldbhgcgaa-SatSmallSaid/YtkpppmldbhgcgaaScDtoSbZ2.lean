/- Sat: the solver that is just made, as memory. -/
import Derived.Test.YtkpppmldbhgcgaaScBtoScC
import Derived.Test.YtkpppmldbhgcgaaShelf
import Derived.Test.YtkpppmldbhgcgaaChecked
import Derived.WalkKit
import Derived.Lib.SlicesCompact
import Derived.Test.YtkpppmldbhgcgaaSbW
set_option linter.unusedVariables false
set_option linter.unusedSimpArgs false
set_option autoImplicit false
set_option linter.unusedVariables false
set_option linter.unusedSimpArgs false
namespace Go.Proofs.Ytkpppmldbhgcgaa
open Go Go.RowKit
/-- whose each block is -/
def ownB (xb g5 g6 g7 g8 g9 g16 g1 g2 : Nat) : Nat → Option Tg := fun g =>
  if g = xb then some .x else if g = g5 then some .wt else if g = g6 then some .vals else if g = g7 then some .lev else if g = g8 then some .rea else if g = g9 then some .sav else if g = g16 then some .seen else if g = g1 then some .pl else if g = g2 then some .sc else none
def rvB (V xb g5 g6 g7 g8 g9 g16 g1 g2 : Nat) : Tg → Value
  | .x => .pointer (some ⟨xb, 0, none⟩)
  | .wt => .slice (some ⟨g5, 0, none⟩) (2 * V + 2) (2 * V + 2)
  | .vals => .slice (some ⟨g6, 0, none⟩) (V + 1) (V + 1)
  | .lev => .slice (some ⟨g7, 0, none⟩) (V + 1) (V + 1)
  | .rea => .slice (some ⟨g8, 0, none⟩) (V + 1) (V + 1)
  | .sav => .slice (some ⟨g9, 0, none⟩) (V + 1) (V + 1)
  | .seen => .slice (some ⟨g16, 0, none⟩) (V + 1) (V + 1)
  | .pl => .slice (some ⟨g1, 0, none⟩) (V + 1) (V + 1)
  | .sc => .slice (some ⟨g2, 0, none⟩) (V + 1) (V + 1)
  | _ => .slice none 0 0
theorem nil_part {lo : Nat} {w : World} {own : Nat → Option Tg} {t : Tg} (ht : kd.row t = true) : Part kd lo w own t (.slice none 0 0) 0 [] :=
  ⟨fun _ => ⟨⟨by simp, .inl ⟨rfl, rfl⟩⟩, fun g hg => by cases hg⟩, fun k => by rw [ht] at k; cases k⟩
set_option maxHeartbeats 4000000 in
theorem Beg2.rep {V : Nat} {w0 w : World} {xb g5 g6 g7 g8 g9 g16 g1 g2 : Nat} (B : Beg2 V w0 w xb g5 g6 g7 g8 g9 g16 g1 g2) (hV : V ≤ 900000) : Sol w0.heap.size w (ownB xb g5 g6 g7 g8 g9 g16 g1 g2) (rvB V xb g5 g6 g7 g8 g9 g16 g1 g2) (empty0 V (V + 1)) := by
  have hn : ∀ (i j : Nat) (hj : j < 9) (hij : i < j), [xb, g5, g6, g7, g8, g9, g16, g1, g2][j]'hj ≠ [xb, g5, g6, g7, g8, g9, g16, g1, g2][i]'(Nat.lt_trans hij hj) := fun i j hj hij e => (List.pairwise_iff_getElem.1 B.ne) i j (Nat.lt_trans hij hj) hj hij e.symm
  have hml : ∀ k, k ≤ 2 * V + 2 → k ≤ maxLen := fun k hk => by unfold maxLen; omega
  have mk : ∀ {t : Tg} {g n : Nat} {z : Value} {e : TypeId}, kd.row t = true → kd.ety t = e → kd.esz t = 1 → w.heap[g]? = some (.cells (madeCells #[z] n) e) → g ∈ [xb, g5, g6, g7, g8, g9, g16, g1, g2] → n ≤ 2 * V + 2 → ownB xb g5 g6 g7 g8 g9 g16 g1 g2 g = some t → Part kd w0.heap.size w (ownB xb g5 g6 g7 g8 g9 g16 g1 g2) t (.slice (some ⟨g, 0, none⟩) n n) n (List.replicate n z) := fun {t g n z e} h1 h2 h3 h4 h5 h6 h7 => by
    refine ⟨fun _ => ⟨?_, fun k hk => ?_⟩, fun k => by rw [h1] at k; cases k⟩
    · rw [h2, h3]; exact made_row h4 (B.lt g h5).1 (hml n h6)
    · cases hk; exact h7
  refine ⟨fun g t e => B.lt g ?_, fun t => ?_⟩
  · unfold ownB at e
    simp only [List.mem_cons, List.not_mem_nil, or_false]
    split at e
    · simp [*]
    · split at e
      · simp [*]
      · split at e
        · simp [*]
        · split at e
          · simp [*]
          · split at e
            · simp [*]
            · split at e
              · simp [*]
              · split at e
                · simp [*]
                · split at e
                  · simp [*]
                  · split at e
                    · simp [*]
                    · cases e
  · cases t with
    | x =>
      refine ⟨fun k => (by cases k), fun _ _ => ⟨xb, rfl, (by unfold ownB; rw [if_pos rfl]), fun m u hu => B.hx m u ?_⟩⟩
      match m, hu with
      | 0, hu => exact hu
      | 1, hu => exact hu
      | 2, hu => exact hu
      | 3, hu => exact hu
      | 4, hu => exact hu
      | 5, hu => exact hu
      | 6, hu => exact hu
      | 7, hu => exact hu
      | 8, hu => exact hu
      | 9, hu => exact hu
      | 10, hu => exact hu
      | 11, hu => exact hu
      | 12, hu => exact hu
      | 13, hu => exact hu
      | 14, hu => exact hu
      | 15, hu => exact hu
      | 16, hu => exact hu
      | 17, hu => exact hu
      | k + 18, hu => simp [concs, mem, row, xcs] at hu
    | cl i => exact ⟨fun k => (by cases k), fun _ h => absurd rfl h⟩
    | lits i => exact nil_part rfl
    | ov => exact nil_part rfl
    | all => exact nil_part rfl
    | tr => exact nil_part rfl
    | st => exact nil_part rfl
    | prf => exact nil_part rfl
    | pc k => exact nil_part rfl
    | wr c =>
      have : mem (empty0 V (V + 1)) (.wr c) = row [] := by
        show row (((List.replicate (2 * (V + 1)) ([] : List Nat)).getD c []).map pr) = row []
        rw [List.getD_eq_getElem?_getD, List.getElem?_replicate]
        split <;> rfl
      rw [this]
      exact nil_part rfl
    | pl =>
      -- [PL
      have := mk (t := .pl) (n := V + 1) rfl rfl rfl B.h1 (by simp) (by omega) (by unfold ownB; rw [if_neg (show g1 ≠ xb from hn 0 7 (by decide) (by decide)), if_neg (show g1 ≠ g5 from hn 1 7 (by decide) (by decide)), if_neg (show g1 ≠ g6 from hn 2 7 (by decide) (by decide)), if_neg (show g1 ≠ g7 from hn 3 7 (by decide) (by decide)), if_neg (show g1 ≠ g8 from hn 4 7 (by decide) (by decide)), if_neg (show g1 ≠ g9 from hn 5 7 (by decide) (by decide)), if_neg (show g1 ≠ g16 from hn 6 7 (by decide) (by decide)), if_pos rfl])
      have e : mem (empty0 V (V + 1)) .pl = ⟨V + 1, (List.replicate (V + 1) 0).map vi⟩ := by show row ((List.replicate (V + 1) (0 : Int)).map vi) = _; unfold row; rw [List.length_map, List.length_replicate]
      rw [e]
      simp only [concs, List.map_replicate, conc, vi]
      exact this
      -- PL]
    | sc =>
      -- [SC
      have := mk (t := .sc) (n := V + 1) rfl rfl rfl B.h2 (by simp) (by omega) (by unfold ownB; rw [if_neg (show g2 ≠ xb from hn 0 8 (by decide) (by decide)), if_neg (show g2 ≠ g5 from hn 1 8 (by decide) (by decide)), if_neg (show g2 ≠ g6 from hn 2 8 (by decide) (by decide)), if_neg (show g2 ≠ g7 from hn 3 8 (by decide) (by decide)), if_neg (show g2 ≠ g8 from hn 4 8 (by decide) (by decide)), if_neg (show g2 ≠ g9 from hn 5 8 (by decide) (by decide)), if_neg (show g2 ≠ g16 from hn 6 8 (by decide) (by decide)), if_neg (show g2 ≠ g1 from hn 7 8 (by decide) (by decide)), if_pos rfl])
      have e : mem (empty0 V (V + 1)) .sc = ⟨V + 1, (List.replicate (V + 1) 0).map fun b => .val (.float .f64 b)⟩ := by show row ((List.replicate (V + 1) (0 : Nat)).map _) = _; unfold row; rw [List.length_map, List.length_replicate]
      rw [e]
      simp only [concs, List.map_replicate, conc]
      exact this
      -- SC]
    | wt =>
      -- [WT
      have := mk (t := .wt) (n := 2 * V + 2) rfl rfl rfl B.h5 (by simp) (by omega) (by unfold ownB; rw [if_neg (show g5 ≠ xb from hn 0 1 (by decide) (by decide)), if_pos rfl])
      have e : mem (empty0 V (V + 1)) .wt = ⟨2 * V + 2, (List.range (2 * V + 2)).map fun c => .ref (.wr c)⟩ := by
        show row ((List.range (List.replicate (2 * (V + 1)) ([] : List Nat)).length).map _) = _
        unfold row
        rw [List.length_map, List.length_range, List.length_replicate, show 2 * (V + 1) = 2 * V + 2 by omega]
      have e2 : concs (rvB V xb g5 g6 g7 g8 g9 g16 g1 g2) ((List.range (2 * V + 2)).map fun c => (.ref (.wr c) : AC Tg)) = List.replicate (2 * V + 2) (.slice none 0 0) := by
        unfold concs
        rw [List.map_map]
        apply List.ext_getElem?
        intro k
        rw [List.getElem?_map, List.getElem?_replicate]
        by_cases hk : k < 2 * V + 2
        · rw [List.getElem?_range hk, if_pos hk]; rfl
        · rw [List.getElem?_eq_none (by rw [List.length_range]; omega), if_neg hk]; rfl
      rw [e]
      show Part kd _ w _ _ _ _ (concs _ _)
      rw [e2]
      exact this
      -- WT]
    | vals =>
      -- [VALS
      have := mk (t := .vals) (n := V + 1) rfl rfl rfl B.h6 (by simp) (by omega) (by unfold ownB; rw [if_neg (show g6 ≠ xb from hn 0 2 (by decide) (by decide)), if_neg (show g6 ≠ g5 from hn 1 2 (by decide) (by decide)), if_pos rfl])
      have e : mem (empty0 V (V + 1)) .vals = ⟨V + 1, (List.replicate (V + 1) 0).map fun v => .val (.int .i8 v)⟩ := by show row ((List.replicate (V + 1) (0 : Int)).map _) = _; unfold row; rw [List.length_map, List.length_replicate]
      rw [e]
      simp only [concs, List.map_replicate, conc]
      exact this
      -- VALS]
    | lev =>
      -- [LEV
      have := mk (t := .lev) (n := V + 1) rfl rfl rfl B.h7 (by simp) (by omega) (by unfold ownB; rw [if_neg (show g7 ≠ xb from hn 0 3 (by decide) (by decide)), if_neg (show g7 ≠ g5 from hn 1 3 (by decide) (by decide)), if_neg (show g7 ≠ g6 from hn 2 3 (by decide) (by decide)), if_pos rfl])
      have e : mem (empty0 V (V + 1)) .lev = ⟨V + 1, (List.replicate (V + 1) 0).map vi⟩ := by show row ((List.replicate (V + 1) (0 : Int)).map vi) = _; unfold row; rw [List.length_map, List.length_replicate]
      rw [e]
      simp only [concs, List.map_replicate, conc, vi]
      exact this
      -- LEV]
    | rea =>
      -- [REA
      have := mk (t := .rea) (n := V + 1) rfl rfl rfl B.h8 (by simp) (by omega) (by unfold ownB; rw [if_neg (show g8 ≠ xb from hn 0 4 (by decide) (by decide)), if_neg (show g8 ≠ g5 from hn 1 4 (by decide) (by decide)), if_neg (show g8 ≠ g6 from hn 2 4 (by decide) (by decide)), if_neg (show g8 ≠ g7 from hn 3 4 (by decide) (by decide)), if_pos rfl])
      have e : mem (empty0 V (V + 1)) .rea = ⟨V + 1, (List.replicate (V + 1) none).map pro⟩ := by show row ((List.replicate (V + 1) (none : Option Nat)).map pro) = _; unfold row; rw [List.length_map, List.length_replicate]
      rw [e]
      simp only [concs, List.map_replicate, conc, pro]
      exact this
      -- REA]
    | sav =>
      -- [SAV
      have := mk (t := .sav) (n := V + 1) rfl rfl rfl B.h9 (by simp) (by omega) (by unfold ownB; rw [if_neg (show g9 ≠ xb from hn 0 5 (by decide) (by decide)), if_neg (show g9 ≠ g5 from hn 1 5 (by decide) (by decide)), if_neg (show g9 ≠ g6 from hn 2 5 (by decide) (by decide)), if_neg (show g9 ≠ g7 from hn 3 5 (by decide) (by decide)), if_neg (show g9 ≠ g8 from hn 4 5 (by decide) (by decide)), if_pos rfl])
      have e : mem (empty0 V (V + 1)) .sav = ⟨V + 1, (List.replicate (V + 1) false).map vb⟩ := by show row ((List.replicate (V + 1) false).map vb) = _; unfold row; rw [List.length_map, List.length_replicate]
      rw [e]
      simp only [concs, List.map_replicate, conc, vb]
      exact this
      -- SAV]
    | seen =>
      -- [SEEN
      have := mk (t := .seen) (n := V + 1) rfl rfl rfl B.h16 (by simp) (by omega) (by unfold ownB; rw [if_neg (show g16 ≠ xb from hn 0 6 (by decide) (by decide)), if_neg (show g16 ≠ g5 from hn 1 6 (by decide) (by decide)), if_neg (show g16 ≠ g6 from hn 2 6 (by decide) (by decide)), if_neg (show g16 ≠ g7 from hn 3 6 (by decide) (by decide)), if_neg (show g16 ≠ g8 from hn 4 6 (by decide) (by decide)), if_neg (show g16 ≠ g9 from hn 5 6 (by decide) (by decide)), if_pos rfl])
      have e : mem (empty0 V (V + 1)) .seen = ⟨V + 1, (List.replicate (V + 1) false).map vb⟩ := by show row ((List.replicate (V + 1) false).map vb) = _; unfold row; rw [List.length_map, List.length_replicate]
      rw [e]
      simp only [concs, List.map_replicate, conc, vb]
      exact this
      -- SEEN]
end Go.Proofs.Ytkpppmldbhgcgaa
/- Drat: the document's own answer: small functions that read. -/
set_option autoImplicit false
set_option linter.unusedVariables false
namespace Go.Proofs.Ytkpppmldbhgcgaa.D
open Go.Proofs Go
open Go.Shelf Go.RowKit
/-- a slice of numbers, as it stands in a world -/
def Ints (w : World) (a : Option Addr) (zs : List Int) : Prop := ∀ j, j < zs.length → ∃ b off, a = some ⟨b, off, none⟩ ∧ b < w.heap.size ∧ w.cell? ⟨b, off + j, none⟩ = some (.int .i64 (zs.getD j 0))
/-- does a literal belong to so many variables? -/
def fair1 (vars z : Int) : Bool := !(decide (z = 0) || decide (vars < z) || decide (z < -vars))
def fairZ (vars : Int) (zs : List Int) : Bool := zs.all (fair1 vars)
theorem fairZ_snoc {vars x : Int} {zs : List Int} : fairZ vars (zs ++ [x]) = (fairZ vars zs && fair1 vars x) := by simp [fairZ]
theorem take_snoc {zs : List Int} {k : Nat} (h : k < zs.length) : zs.take (k + 1) = zs.take k ++ [zs.getD k 0] := by
  rw [List.take_add_one, List.getD_eq_getElem?_getD, List.getElem?_eq_getElem h]; rfl
theorem fairZ_take {vars : Int} {zs : List Int} {k : Nat} (hk : k < zs.length) (h : fair1 vars (zs.getD k 0) = false) : fairZ vars zs = false := by
  unfold fairZ
  rw [List.all_eq_false]
  rw [List.getD_eq_getElem?_getD, List.getElem?_eq_getElem hk] at h
  exact ⟨_, List.getElem_mem hk, by simpa using h⟩
set_option maxHeartbeats 4000000 in
set_option maxRecDepth 1000000 in
theorem abs_walk (x : Int) (h0 : -1000000000 ≤ x) (h1 : x ≤ 1000000000) (w : World) :
    Calls Try.prog 56 #[.int .i64 x] w fun e w' => e = .returned (.int .i64 (if x < 0 then -x else x)) ∧ w' = w := by
  go_enter Try.func56, Try.ntmps56
  by_cases h : x < 0
  · go_wp2
    go_ret
    simp
  · go_wp2
    go_ret
    simp
set_option maxHeartbeats 4000000 in
set_option maxRecDepth 1000000 in
theorem fair_walk (a : Option Addr) (n c : Nat) (zs : List Int) (vars : Int) (w : World) (hn : zs.length = n) (hlen : n ≤ 1000000000) (hv : -1000000000 ≤ vars) (hv1 : vars ≤ 1000000000) (hz : Ints w a zs) :
    Calls Try.prog 19 #[.slice a n c, .int .i64 vars] w fun e w' => e = .returned (.bool (fairZ vars zs)) ∧ w' = w := by
  go_enter Try.func19, Try.ntmps19
  go_wp2
  go_loopw [5] (fun i wr => ∃ k : Nat, k ≤ n ∧ i = .int .i64 k ∧ fairZ vars (zs.take k) = true ∧ wr = w) (fun i _ => n - (intOf i).toNat)
  case atStart => exact ⟨0, Nat.zero_le _, rfl, rfl, rfl⟩
  case round =>
    obtain ⟨k, hk, rfl, hf, rfl⟩ := hrel
    by_cases hlt : k < n
    · obtain ⟨b, off, rfl, hb, hc⟩ := hz k (by omega)
      have hs := take_snoc (zs := zs) (k := k) (by omega)
      have ht := fun h => fairZ_take (vars := vars) (zs := zs) (k := k) (by omega) h
      obtain ⟨x, hx⟩ : ∃ x, zs.getD k 0 = x := ⟨_, rfl⟩
      rw [hx] at hc hs ht
      by_cases hfair : fair1 vars x = true
      · have h3 : x ≠ 0 ∧ ¬ vars < x ∧ ¬ x < -vars := by simpa [fair1, and_assoc] using hfair
        obtain ⟨h3, h4, h5⟩ := h3
        go_wp2
        go_roundw
        case rel => exact ⟨k + 1, hlt, by simp, (by rw [hs, fairZ_snoc, hf, hfair]; rfl), (by trivial)⟩
        case measure => simp [intOf]; omega
      · have hfair : fair1 vars x = false := by simpa using hfair
        have hF := ht hfair
        have h3 : x = 0 ∨ vars < x ∨ x < -vars := by
          have : ¬ (x ≠ 0 ∧ ¬ vars < x ∧ ¬ x < -vars) := by
            intro h
            have : fair1 vars x = true := by simp [fair1, h.1]; omega
            rw [this] at hfair; cases hfair
          omega
        rcases h3 with rfl | h3 | h3
        · go_wp2
          go_ret
          simp [hF]
        · by_cases h0 : x = 0
          · subst h0
            go_wp2
            go_ret
            simp [hF]
          · go_wp2
            go_ret
            simp [hF]
        · by_cases h0 : x = 0
          · subst h0
            go_wp2
            go_ret
            simp [hF]
          · by_cases h4 : vars < x
            · go_wp2
              go_ret
              simp [hF]
            · go_wp2
              go_ret
              simp [hF]
    · have e0 : k = n := by omega
      subst e0
      rw [← hn, List.take_length] at hf
      go_wp2
      go_ret
      simp [hf]
end Go.Proofs.Ytkpppmldbhgcgaa.D
/- Drat: formulas as they stand in a world; how big one is. -/
set_option autoImplicit false
set_option linter.unusedVariables false
namespace Go.Proofs.Ytkpppmldbhgcgaa.D
open Go.Proofs Go
open Go.Shelf Go.RowKit
theorem cell_new (w : World) (cs : Array Value) (t : TypeId) (fz : Nat × Nat) (k : Nat) : (w.alloc (.cells cs t fz)).cell? ⟨w.heap.size, k, none⟩ = cs[k]? := by
  have h : (w.alloc (.cells cs t fz)).heap[w.heap.size]? = some (.cells cs t fz) := by
    show (w.heap.push (.cells cs t fz))[w.heap.size]? = _
    simp
  unfold World.cell?
  rw [h]
  rfl
/-- a clause, where it lies -/
structure Cl where
  a : Option Addr
  c : Nat
  zs : List Int
  deriving Inhabited
/-- a slice of clauses, as it stands in a world -/
def Rows' (w : World) (a : Option Addr) (cs : List Cl) : Prop := ∀ j, j < cs.length → ∃ b off, a = some ⟨b, off, none⟩ ∧ b < w.heap.size ∧ w.cell? ⟨b, off + j, none⟩ = some (.slice (cs.getD j default).a (cs.getD j default).zs.length (cs.getD j default).c) ∧ Ints w (cs.getD j default).a (cs.getD j default).zs
theorem Ints.below {w wr : World} {a : Option Addr} {zs : List Int} (h : Ints w a zs) (hb : Below w.heap.size w wr) : Ints wr a zs := fun j hj => by
  obtain ⟨b, off, e1, e2, e3⟩ := h j hj
  exact ⟨b, off, e1, Nat.lt_of_lt_of_le e2 hb.size, (hb.cell (by exact e2)).trans e3⟩
theorem Rows'.below {w wr : World} {a : Option Addr} {cs : List Cl} (h : Rows' w a cs) (hb : Below w.heap.size w wr) : Rows' wr a cs := fun j hj => by
  obtain ⟨b, off, e1, e2, e3, e4⟩ := h j hj
  exact ⟨b, off, e1, Nat.lt_of_lt_of_le e2 hb.size, (hb.cell (by exact e2)).trans e3, e4.below hb⟩
/-- how many literals and clauses there are in the first k clauses -/
def total (cs : List Cl) : Nat → Nat
  | 0 => 0
  | k + 1 => total cs k + 1 + (cs.getD k default).zs.length
theorem total_mono (cs : List Cl) : ∀ {k m : Nat}, k ≤ m → total cs k ≤ total cs m
  | k, 0, h => by rw [Nat.le_zero.1 h]; exact Nat.le_refl _
  | k, m + 1, h => by
    rcases Nat.lt_or_ge k (m + 1) with h1 | h1
    · have := total_mono cs (k := k) (m := m) (by omega)
      show _ ≤ total cs m + 1 + _
      omega
    · rw [Nat.le_antisymm h h1]; exact Nat.le_refl _
def bigZ (vars : Int) (cs : List Cl) : Bool := decide (6000 < total cs cs.length) || decide (3000 < vars)
set_option maxHeartbeats 4000000 in
set_option maxRecDepth 1000000 in
theorem big_walk (a : Option Addr) (n c : Nat) (cs : List Cl) (vars : Int) (w : World) (hn : cs.length = n) (hlen : n ≤ 4611686018427387904) (hl : ∀ j, j < n → (cs.getD j default).zs.length ≤ 4611686018427387904) (hz : Rows' w a cs) :
    Calls Try.prog 9 #[.agg #[.int .i64 vars, .slice a n c]] w fun e w' => e = .returned (.bool (bigZ vars cs)) ∧ Below w.heap.size w w' := by
  go_enter Try.func9, Try.ntmps9
  go_wp2
  go_loopw [3, 4] (fun m i wr => ∃ k : Nat, k ≤ n ∧ i = .int .i64 k ∧ m = .int .i64 (total cs k) ∧ (∀ j, j < k → total cs j ≤ 6000) ∧ Below w.heap.size w wr ∧ wr.cell? ⟨w.heap.size, 0, none⟩ = some (.int .i64 vars) ∧ wr.cell? ⟨w.heap.size, 0 + 1, none⟩ = some (.slice a n c)) (fun _ i _ => n - (intOf i).toNat)
  case atStart =>
    refine ⟨0, Nat.zero_le _, rfl, rfl, (fun j h => by omega), (Below.refl _ w).alloc (Nat.le_refl _) _, (cell_new ..).trans rfl, (cell_new ..).trans rfl⟩
  case round =>
    obtain ⟨k, hk, rfl, rfl, hm, hbw, hc0, hc1⟩ := hrel
    by_cases hlt : k < n
    · by_cases hbig : total cs k ≤ 6000
      · obtain ⟨b, off, rfl, hb, hc, hi⟩ := hz k (by omega)
        have hc := (hbw.cell (by exact hb)).trans hc
        have hll := hl k hlt
        have ht : total cs (k + 1) = total cs k + 1 + (cs.getD k default).zs.length := rfl
        obtain ⟨x, hx⟩ : ∃ x, cs.getD k default = x := ⟨_, rfl⟩
        rw [hx] at hc hll ht
        obtain ⟨t, ht0⟩ : ∃ t, total cs k = t := ⟨_, rfl⟩
        rw [ht0] at hbig ht
        simp only [ht0]
        go_wp2
        go_roundw
        case rel =>
          refine ⟨k + 1, hlt, by simp, by rw [ht]; simp, fun j hj => ?_, hbw, hc0, hc1⟩
          rcases Nat.lt_or_ge j k with h | h
          · exact hm j h
          · rw [show j = k by omega, ht0]; exact hbig
        case measure => simp [intOf]; omega
      · have hmono := total_mono cs (k := k) (m := n) hk
        have hB : bigZ vars cs = true := by unfold bigZ; rw [hn]; simp; omega
        obtain ⟨t, ht0⟩ : ∃ t, total cs k = t := ⟨_, rfl⟩
        rw [ht0] at hbig
        have hb1 : ¬ ((t : Int) ≤ 6000) := by omega
        have hb2 : (6000 : Int) < t := by omega
        simp only [ht0]
        go_wp2
        go_ret
        exact ⟨by first | rfl | (rw [hB]; rfl) | (simp [hB]; done) | (simp [hB]; omega) | (simp; omega), hbw⟩
    · have e0 : k = n := by omega
      subst e0
      obtain ⟨t, ht0⟩ : ∃ t, total cs k = t := ⟨_, rfl⟩
      have hB : bigZ vars cs = (decide (6000 < t) || decide (3000 < vars)) := by unfold bigZ; rw [hn, ht0]
      simp only [ht0]
      by_cases hbig : (t : Int) ≤ 6000
      · have hb2 : ¬ ((6000 : Int) < t) := by omega
        by_cases h3 : 3000 < vars
        · go_wp2
          go_ret
          exact ⟨by first | rfl | (rw [hB]; rfl) | (simp [hB]; done) | (simp [hB]; omega) | (simp; omega), hbw⟩
        · go_wp2
          go_ret
          exact ⟨by first | rfl | (rw [hB]; rfl) | (simp [hB]; done) | (simp [hB]; omega) | (simp; omega), hbw⟩
      · have hb2 : (6000 : Int) < t := by omega
        go_wp2
        go_ret
        exact ⟨by first | rfl | (rw [hB]; rfl) | (simp [hB]; done) | (simp [hB]; omega) | (simp; omega), hbw⟩
end Go.Proofs.Ytkpppmldbhgcgaa.D
/- Sat: a clause made ready: sorted and without repeats, by functions that the kernel can run. -/
set_option autoImplicit false
namespace Go.Proofs.Ytkpppmldbhgcgaa
def insZ (x : Int) : List Int → List Int
  | [] => [x]
  | y :: l => if x ≤ y then x :: y :: l else y :: insZ x l
def sortI : List Int → List Int
  | [] => []
  | x :: l => insZ x (sortI l)
theorem insZ_perm (x : Int) : ∀ l : List Int, List.Perm (insZ x l) (x :: l)
  | [] => .refl _
  | y :: l => by
    unfold insZ
    split
    · exact .refl _
    · exact ((insZ_perm x l).cons y).trans (.swap x y l)
theorem sortI_perm : ∀ l : List Int, List.Perm (sortI l) l
  | [] => .refl _
  | x :: l => (insZ_perm x _).trans ((sortI_perm l).cons x)
theorem insZ_sorted (x : Int) : ∀ l : List Int, l.Pairwise (· ≤ ·) → (insZ x l).Pairwise (· ≤ ·)
  | [], _ => by simp [insZ]
  | y :: l, h => by
    unfold insZ
    have hy := List.pairwise_cons.1 h
    split
    · rename_i hxy
      refine List.pairwise_cons.2 ⟨fun z hz => ?_, h⟩
      rcases List.mem_cons.1 hz with rfl | hz
      · exact hxy
      · exact Int.le_trans hxy (hy.1 z hz)
    · rename_i hxy
      refine List.pairwise_cons.2 ⟨fun z hz => ?_, insZ_sorted x l hy.2⟩
      rcases List.mem_cons.1 ((insZ_perm x l).mem_iff.1 hz) with rfl | hz
      · omega
      · exact hy.1 z hz
theorem sortI_sorted : ∀ l : List Int, (sortI l).Pairwise (· ≤ ·)
  | [] => List.Pairwise.nil
  | x :: l => insZ_sorted x _ (sortI_sorted l)
theorem sorted_uniq : ∀ (a b : List Int), List.Perm a b → a.Pairwise (· ≤ ·) → b.Pairwise (· ≤ ·) → a = b
  | [], b, h, _, _ => (List.nil_perm.1 h).symm ▸ rfl
  | x :: a, [], h, _, _ => absurd h.length_eq (by simp)
  | x :: a, y :: b, h, ha, hb => by
    have ha' := List.pairwise_cons.1 ha
    have hb' := List.pairwise_cons.1 hb
    have e : x = y := by
      have h1 : x ∈ y :: b := h.mem_iff.1 (List.mem_cons_self ..)
      have h2 : y ∈ x :: a := h.mem_iff.2 (List.mem_cons_self ..)
      rcases List.mem_cons.1 h1 with e | h1
      · exact e
      · rcases List.mem_cons.1 h2 with e | h2
        · exact e.symm
        · exact Int.le_antisymm (ha'.1 y h2) (hb'.1 x h1)
    subst e
    rw [sorted_uniq a b (List.Perm.cons_inv h) ha'.2 hb'.2]
theorem sortI_eq (l : List Int) : sortI l = l.mergeSort (fun x y => decide (x ≤ y)) := by
  refine sorted_uniq _ _ ((sortI_perm l).trans (List.mergeSort_perm l _).symm) (sortI_sorted l) ?_
  have := List.pairwise_mergeSort (le := fun x y : Int => decide (x ≤ y)) (by intro a b c h1 h2; simp at *; omega) (by intro a b; simp; omega) l
  exact this.imp (by intro a b h; simpa using h)
end Go.Proofs.Ytkpppmldbhgcgaa
/- Sat: the solver made of a formula, and Solve, as plain functions that the kernel can run. -/
set_option autoImplicit false
set_option linter.unusedVariables false
namespace Go.Proofs.Ytkpppmldbhgcgaa
open Go
def normK (c : List Int) : List Int := Lib.compact (sortI c)
def makeC : List (List Int) → Bool → Sz → Option (Bool × Sz)
  | [], ok, S => some (ok, S)
  | c :: r, ok, S =>
    if (normK c).any (fun x => (normK c).contains (-x)) then makeC r ok S else
    if (normK c).length = 0 then makeC r false S else
    if (normK c).length = 1 then (if ok then ((normK c)[0]?).bind fun a => (letO S a none).bind fun q => makeC r q.1 q.2 else makeC r false S)
    else if fresh S then (putO { S with cls := S.cls ++ [⟨normK c, false, false, 0⟩] } S.cls.length).bind fun S1 => makeC r ok S1 else none
def makeK (vars : Nat) (cs : List (List Int)) : Option (Bool × Sz) := (madeV vars (empty0 vars (vars + 1))).bind fun S => makeC cs true S
def solveK (f : Nat) (vars : Nat) (cs : List (List Int)) (budget : Int) : Option Ans :=
  (makeK vars cs).bind fun r =>
    (if r.1 then seekF f r.2 (max 0 budget) 0 100 100 else some (2, r.2)).bind fun q =>
      if q.1 = 3 then some ⟨3, [], []⟩ else
      if q.1 = 1 then some ⟨1, (List.range (vars + 1)).map fun v => v != 0 && decide (q.2.vals.getD v 0 = 1), []⟩ else
      (logO q.2 [] false).bind fun p => if p.1 then some ⟨2, [], p.2.prf⟩ else some ⟨3, [], []⟩
end Go.Proofs.Ytkpppmldbhgcgaa

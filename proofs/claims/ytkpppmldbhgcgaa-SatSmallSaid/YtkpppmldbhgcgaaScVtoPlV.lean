/- Sat: the document's Model (all assignments are tried), walked. -/
import Derived.Test.YtkpppmldbhgcgaaScKtoScZ
import Derived.Test.YtkpppmldbhgcgaaScQ
import Derived.Deep.LoopGhost
import Derived.Test.YtkpppmldbhgcgaaPlRtoPlS
set_option linter.unusedVariables false
set_option linter.unusedSimpArgs false
set_option autoImplicit false
set_option linter.unusedVariables false
set_option linter.unusedSimpArgs false
namespace Go.Proofs.Ytkpppmldbhgcgaa
open Go Go.Shelf Go.RowKit
/-! ### counting -/
def valB : List Bool → Nat
  | [] => 0
  | b :: r => (if b then 1 else 0) + 2 * valB r
theorem valB_lt : ∀ l : List Bool, valB l + 1 ≤ 2 ^ l.length
  | [] => Nat.le_refl _
  | b :: r => by
    have := valB_lt r
    rw [List.length_cons, Nat.pow_succ]
    unfold valB
    split <;> omega
theorem valB_inj : ∀ l l' : List Bool, l.length = l'.length → valB l = valB l' → l = l'
  | [], [], _, _ => rfl
  | [], _ :: _, h, _ => by simp at h
  | _ :: _, [], h, _ => by simp at h
  | b :: r, b' :: r', h, e => by
    have h' : r.length = r'.length := by simpa using h
    unfold valB at e
    cases b <;> cases b' <;> simp at e
    · rw [valB_inj r r' h' (by omega)]
    · omega
    · omega
    · rw [valB_inj r r' h' (by omega)]
theorem valB_carry (r : List Bool) : ∀ k : Nat, valB (List.replicate k false ++ true :: r) = valB (List.replicate k true ++ false :: r) + 1
  | 0 => by
    show 1 + 2 * valB r = 0 + 2 * valB r + 1
    omega
  | k + 1 => by
    have := valB_carry r k
    show 0 + 2 * valB (List.replicate k false ++ true :: r) = 1 + 2 * valB (List.replicate k true ++ false :: r) + 1
    omega
theorem valB_ones : ∀ k : Nat, valB (List.replicate k true) + 1 = 2 ^ k
  | 0 => rfl
  | k + 1 => by
    have := valB_ones k
    show 1 + 2 * valB (List.replicate k true) + 1 = _
    rw [Nat.pow_succ]
    omega
/-- the first k taken back -/
def curB (bs : List Bool) (k : Nat) : List Bool := List.replicate k false ++ bs.drop k
theorem curB_len {bs : List Bool} {k : Nat} (hk : k ≤ bs.length) : (curB bs k).length = bs.length := by unfold curB; rw [List.length_append, List.length_replicate, List.length_drop]; omega
theorem curB_get {bs : List Bool} {k : Nat} (hk : k < bs.length) : (curB bs k)[k]? = some bs[k] := by
  unfold curB
  rw [List.getElem?_append_right (by rw [List.length_replicate]; omega), List.length_replicate, Nat.sub_self, List.getElem?_drop, Nat.add_zero, List.getElem?_eq_getElem hk]
theorem curB_set {bs : List Bool} {k : Nat} (hk : k < bs.length) (v : Bool) : (curB bs k).set k v = List.replicate k false ++ v :: bs.drop (k + 1) := by
  unfold curB
  rw [List.set_append_right _ _ (by rw [List.length_replicate]; omega), List.length_replicate, Nat.sub_self, List.drop_eq_getElem_cons hk]
  rfl
theorem curB_succ {bs : List Bool} {k : Nat} (hk : k < bs.length) : (curB bs k).set k false = curB bs (k + 1) := by
  rw [curB_set hk]
  unfold curB
  rw [List.replicate_succ', List.append_assoc]
  rfl
/-- is there a model? -/
def ModelIs (V : Nat) (cs : List D.Cl) (b : Bool) : Prop :=
  (b = true → ∃ ms : List Bool, ms.length = V + 1 ∧ D.sats ms cs = true) ∧ (b = false → ∀ bs : List Bool, bs.length = V → D.sats (false :: bs) cs = false)
def ModelOut (s : Nat) (w : World) (V : Nat) (cs : List D.Cl) (e : Ending) (w' : World) : Prop := ∃ b, e = .returned (.bool b) ∧ Below s w w' ∧ ModelIs V cs b
/-- Model's memory -/
structure MI (s V : Nat) (a : Option Addr) (n c : Nat) (bs : List Bool) (w wr : World) : Prop where
  c0 : wr.cell? ⟨s, 0, none⟩ = some (.int .i64 V)
  c1 : wr.cell? ⟨s, 0 + 1, none⟩ = some (.slice a n c)
  row : wr.ownsRow (s + 1) 4 1 (.slice (some ⟨s + 1, 0, none⟩) (V + 1) (V + 1)) (V + 1) ((false :: bs).map Value.bool)
  bel : Below s w wr
  size : s + 2 ≤ wr.heap.size
  len : bs.length = V
theorem MI.below {s V : Nat} {a : Option Addr} {n c : Nat} {bs : List Bool} {w wr w' : World} (h : MI s V a n c bs w wr) (hb : Below wr.heap.size wr w') : MI s V a n c bs w w' := by
  have hs := h.size
  refine ⟨?_, ?_, own_below' h.row hb, h.bel.trans (hb.mono (by omega)), Nat.le_trans hs hb.size, h.len⟩
  · exact (hb.cell (p := ⟨s, 0, none⟩) (by show s < _; omega)).trans h.c0
  · exact (hb.cell (p := ⟨s, 0 + 1, none⟩) (by show s < _; omega)).trans h.c1
theorem MI.set {s V : Nat} {a : Option Addr} {n c : Nat} {bs bs' : List Bool} {w wr : World} (h : MI s V a n c bs w wr) {k : Nat} (v : Bool) (e : bs.set k v = bs') : MI s V a n c bs' w (wr.setCell ⟨s + 1, k + 1, none⟩ (.bool v)) := by
  have hst := (h.row.stored (k + 1) (.bool v)).1
  rw [← List.map_set, List.set_cons_succ, e] at hst
  refine ⟨?_, ?_, hst, h.bel.setCell (p := ⟨s + 1, k + 1, none⟩) (by show s ≤ s + 1; omega) _, by show _ ≤ _; rw [World.size_setCell]; exact h.size, by rw [← e, List.length_set]; exact h.len⟩
  · rw [World.cell?_setCell_other _ ⟨s + 1, k + 1, none⟩ ⟨s, 0, none⟩ _ (by intro e; injection e; omega)]; exact h.c0
  · rw [World.cell?_setCell_other _ ⟨s + 1, k + 1, none⟩ ⟨s, 0 + 1, none⟩ _ (by intro e; injection e; omega)]; exact h.c1
theorem MI.bools {s V : Nat} {a : Option Addr} {n c : Nat} {bs : List Bool} {w wr : World} (h : MI s V a n c bs w wr) : D.Bools wr (some ⟨s + 1, 0, none⟩) (false :: bs) := by
  obtain ⟨am, cm, e, _, hB, _⟩ := bools_of (lo := s + 1) (k := V + 1) (ms := false :: bs) h.row (by rw [List.length_cons, h.len])
  cases e
  exact hB
theorem mi_start (w : World) (V : Nat) (a : Option Addr) (n c : Nat) (hV : V ≤ 1000) : MI w.heap.size V a n c (List.replicate V false) w ((w.alloc (.cells #[.int .i64 (V : Int), .slice a n c] 24)).alloc (.cells (madeCells #[.bool false] (V + 1)) 4)) := by
  have hs : (w.alloc (.cells #[.int .i64 (V : Int), .slice a n c] 24)).heap.size = w.heap.size + 1 := by show (w.heap.push _).size = _; simp
  have h1 : ((w.alloc (.cells #[.int .i64 (V : Int), .slice a n c] 24)).alloc (.cells (madeCells #[.bool false] (V + 1)) 4)).heap[w.heap.size]? = some (.cells #[.int .i64 (V : Int), .slice a n c] 24) := (heap_old (heap_new w _)).1
  have hrow := made_row (lo := w.heap.size + 1) (n := V + 1) (heap_new (w.alloc (.cells #[.int .i64 (V : Int), .slice a n c] 24)) (.cells (madeCells #[.bool false] (V + 1)) 4)) (by omega) (by unfold maxLen; omega)
  rw [hs] at hrow
  refine ⟨(block_cell h1 0).1.trans rfl, (block_cell h1 1).1.trans rfl, ?_, below2 w _ _, ?_, by simp⟩
  · rw [show (false :: List.replicate V false) = List.replicate (V + 1) false from rfl, List.map_replicate]
    exact hrow
  · show _ ≤ (Array.push _ _).size
    rw [Array.size_push, hs]
    omega
set_option maxHeartbeats 8000000 in
set_option maxRecDepth 1000000 in
theorem model_walk (a : Option Addr) (n c : Nat) (cs : List D.Cl) (V : Nat) (w : World) (hn : cs.length = n) (hlen : n ≤ 1000000) (hl : ∀ j, j < n → (cs.getD j default).zs.length ≤ 1000000) (hz : D.Rows' w a cs) (hc : D.checkZ (V : Int) cs = 0) (hV : V ≤ 1000) :
    Calls Try.prog 14 #[.agg #[.int .i64 (V : Int), .slice a n c]] w (ModelOut w.heap.size w V cs) := by
  obtain ⟨s, hs⟩ : ∃ s, w.heap.size = s := ⟨_, rfl⟩
  have hms := mi_start w V a n c hV
  rw [hs] at hms ⊢
  have hmk27 := fun w => run_make_row' (P := Try.prog) 27 4 (.bool false) 1 Try.underlying27 info4m rfl .i64 .i64 (V + 1) (by omega) (by omega) w
  have hcast1 : ((V + 1 : Nat) : Int) = (V : Int) + 1 := by omega
  simp only [hcast1] at hmk27
  have c0 : (w.alloc (.cells #[.int .i64 (V : Int), .slice a n c] 24)).cell? ⟨s, 0, none⟩ = some (.int .i64 (V : Int)) := by rw [← hs]; exact (cell_new ..).trans rfl
  have hs1 : (w.alloc (.cells #[.int .i64 (V : Int), .slice a n c] 24)).heap.size = s + 1 := by rw [← hs]; show (w.heap.push _).size = _; simp
  have hholds : ∀ (bs : List Bool) (wr : World), MI s V a n c bs w wr → Calls Try.prog 20 #[.agg #[.int .i64 (V : Int), .slice a n c], .slice (some ⟨s + 1, 0, none⟩) (V + 1) (V + 1)] wr fun e w' => e = .returned (.bool (D.sats (false :: bs) cs)) ∧ MI s V a n c bs w w' := by
    intro bs wr hM
    have := D.holds_walk a (some ⟨s + 1, 0, none⟩) n c (V + 1) (V + 1) cs (false :: bs) (V : Int) wr hn (by omega) (fun j hj => by have := hl j hj; omega) (hz.below (hs ▸ hM.bel)) (by rw [List.length_cons, hM.len]) (by omega) hM.bools
    refine this.mono ?_
    rintro e w' ⟨p1, p2⟩
    refine ⟨?_, hM.below p2⟩
    rw [p1]
    unfold D.holdsZ
    rw [hc, decide_eq_true rfl, decide_eq_true (by rw [List.length_cons, hM.len]; omega)]
    rfl
  clear hz hc hl
  go_enter Try.func14, Try.ntmps14
  go_wp2
  go_loopg [4, 5] (2 ^ V) (fun g _ _ wr => ∃ bs : List Bool, MI s V a n c bs w wr ∧ valB bs + g = 2 ^ V ∧ ∀ bs' : List Bool, bs'.length = V → valB bs' < valB bs → D.sats (false :: bs') cs = false)
  case atStart =>
    refine ⟨List.replicate V false, hms, ?_, fun bs' hb hlt => ?_⟩
    · have : ∀ k : Nat, valB (List.replicate k false) = 0 := fun k => by
        induction k with
        | zero => rfl
        | succ k ih => show 0 + 2 * valB (List.replicate k false) = 0; omega
      rw [this]; omega
    · have : ∀ k : Nat, valB (List.replicate k false) = 0 := fun k => by
        induction k with
        | zero => rfl
        | succ k ih => show 0 + 2 * valB (List.replicate k false) = 0; omega
      rw [this] at hlt; omega
  case round =>
    clear hms hs1 c0 hmk27
    obtain ⟨bs, hM, hval, hall⟩ := hrel
    have hcall := hholds bs wr hM
    clear hholds
    have A0 : Aside (valB bs + gk = 2 ^ V ∧ (∀ bs' : List Bool, bs'.length = V → valB bs' < valB bs → D.sats (false :: bs') cs = false) ∧ MI s V a n c bs w wr) := ⟨hval, hall, hM⟩
    have c0 := hM.c0
    have c1 := hM.c1
    clear hval hall hM
    obtain ⟨B, hB⟩ : ∃ B, D.sats (false :: bs) cs = B := ⟨_, rfl⟩
    rw [hB] at hcall
    cases B with
    | true =>
      go_wp2_with (go_at_call 20; refine hcall.mono ?_; rintro e w2 ⟨p1, hM2⟩; rw [p1]; clear p1)
      go_ret
      exact ⟨true, rfl, hM2.bel, ⟨fun _ => ⟨false :: bs, by rw [List.length_cons, hM2.len], hB⟩, fun e => by cases e⟩⟩
    | false =>
      go_wp2_with (go_at_call 20; refine hcall.mono ?_; rintro e w2 ⟨p1, hM2⟩; rw [p1]; clear p1)
      clear c0 c1 hcall
      have hM3 : MI s V a n c (curB bs 0) w w2 := hM2
      go_loopg [5] (V + 1) (fun g iv wr' => ∃ k : Nat, k ≤ V ∧ g + k = V + 1 ∧ iv = .int .i64 (k + 1 : Nat) ∧ bs = List.replicate k true ++ bs.drop k ∧ MI s V a n c (curB bs k) w wr')
      case atStart => exact ⟨0, Nat.zero_le _, rfl, rfl, rfl, hM3⟩
      case round =>
        clear hM2 hM3
        obtain ⟨k, hk, hg, rfl, hbs, hM⟩ := hrel
        have c0 := hM.c0
        have hkI : ((k + 1 : Nat) : Int) = (k : Int) + 1 := by omega
        by_cases hkV : k < V
        · have hkI2 : (k : Int) + 1 ≤ V := by omega
          have hkl : k < bs.length := by have := hM.len; rw [curB, List.length_append, List.length_replicate, List.length_drop] at this; omega
          have hbl : bs.length = V := by have := hM.len; rw [curB_len (by omega)] at this; exact this
          have cg := hM.row.cellAt (k + 1) (by omega)
          have cf := hM.row.frozenAt (k + 1)
          rw [List.getElem?_map, List.getElem?_cons_succ, curB_get hkl] at cg
          obtain ⟨u, hu⟩ : ∃ u, bs[k] = u := ⟨_, rfl⟩
          replace cg : wr.cell? ⟨s + 1, k + 1, none⟩ = some (.bool u) := by rw [← hu]; exact cg
          have hdrop := List.drop_eq_getElem_cons hkl
          rw [hu] at hdrop
          cases u with
          | true =>
            have hM2 := hM.set false (curB_succ hkl)
            have hbs2 : bs = List.replicate (k + 1) true ++ bs.drop (k + 1) := by
              rw [List.replicate_succ', List.append_assoc]
              refine hbs.trans ?_
              rw [hdrop]
              rfl
            have A1 : Aside (MI s V a n c (curB bs (k + 1)) w (wr.setCell ⟨s + 1, k + 1, none⟩ (.bool false)) ∧ bs = List.replicate (k + 1) true ++ bs.drop (k + 1)) := ⟨hM2, hbs2⟩
            clear hM hM2 hbs hbs2 hdrop hu
            simp only [hkI]
            go_wp2
            obtain ⟨q1, q2⟩ := A1.out
            go_roundg (gk - 1)
            case measure => omega
            case rel => exact ⟨k + 1, by omega, by omega, by go_num, q2, q1⟩
          | false =>
            have hM2 := hM.set true (curB_set hkl true)
            have hbs2 : bs = List.replicate k true ++ false :: bs.drop (k + 1) := hbs.trans (by rw [hdrop])
            obtain ⟨a1, a2, _⟩ := A0.out
            have hcar := valB_carry (bs.drop (k + 1)) k
            rw [← hbs2] at hcar
            obtain ⟨nb, hnb⟩ : ∃ l, List.replicate k false ++ true :: bs.drop (k + 1) = l := ⟨_, rfl⟩
            rw [hnb] at hcar hM2
            have hlt := valB_lt nb
            rw [hM2.len] at hlt
            have A1 : Aside (MI s V a n c nb w (wr.setCell ⟨s + 1, k + 1, none⟩ (.bool true)) ∧ valB nb = valB bs + 1 ∧ valB nb + 1 ≤ 2 ^ V ∧ ∀ bs' : List Bool, bs'.length = V → valB bs' < valB nb → D.sats (false :: bs') cs = false) := by
              refine ⟨hM2, hcar, hlt, fun bs' h1 h2 => ?_⟩
              by_cases e : valB bs' = valB bs
              · rw [valB_inj bs' bs (by omega) e]; exact hB
              · exact a2 bs' h1 (by omega)
            clear hM hM2 hbs hbs2 hdrop hu hcar hlt hnb a1 a2
            simp only [hkI]
            go_wp2
            obtain ⟨q1, q2, q3, q4⟩ := A1.out
            obtain ⟨a1, _, _⟩ := A0.out
            go_roundg (2 ^ V - valB bs - 1)
            case measure => omega
            case rel => exact ⟨nb, q1, by omega, q4⟩
        · have hkV2 : k = V := by omega
          subst hkV2
          have hkI2 : ¬ ((k : Int) + 1 ≤ k) := by omega
          have hkI3 : (k : Int) < (k : Int) + 1 := by omega
          have A1 : Aside (bs = List.replicate k true ++ bs.drop k ∧ MI s k a n c (curB bs k) w wr) := ⟨hbs, hM⟩
          clear hM hbs
          simp only [hkI]
          go_wp2
          go_ret
          obtain ⟨q1, q2⟩ := A1.out
          obtain ⟨a1, a2, a3⟩ := A0.out
          have hl := a3.len
          rw [List.drop_of_length_le (by omega), List.append_nil] at q1
          have ho := valB_ones k
          rw [← q1] at ho
          refine ⟨false, rfl, q2.bel, ⟨fun e => (by cases e), fun _ bs' h1 => ?_⟩⟩
          have h2 := valB_lt bs'
          rw [h1] at h2
          by_cases e : valB bs' = valB bs
          · rw [valB_inj bs' bs (by omega) e]; exact hB
          · exact a2 bs' h1 (by omega)
end Go.Proofs.Ytkpppmldbhgcgaa
/- Sat, plain: the search with something that is kept besides, by which the conflicts are fewer than the budget. -/
set_option autoImplicit false
set_option linter.unusedVariables false
set_option linter.unusedSimpArgs false
namespace Go.Proofs.Ytkpppmldbhgcgaa
open Go
/-- what is kept besides, at most b conflicts -/
structure Keep (n b : Nat) (J : Nat → Sz → Int → Int → Prop) : Prop where
  spr : ∀ {m : Nat} {S S' : Sz} {lim left : Int}, J m S lim left → S'.st = S.st → S.tr <+: S'.tr → SameP S S' → S'.cls.length = S.cls.length → J m S' lim left
  cfl : ∀ {m : Nat} {S : Sz} {lim left : Int} {N : List (List Int)} {U : Int} {B c : Nat}, J m S lim left → Mid n N U S B noE S.watch → (∀ k : Nat, k < S.st.length → S.st.getD k 0 ≤ (B : Int)) → Cfl S c → 0 < S.st.length → m + 1 ≤ b ∧ ∀ (T : Sz) (one : Bool), TurnedC n S c T one → J (m + 1) T lim (left - 1)
  res : ∀ {m : Nat} {S S' : Sz} {lim left : Int}, J m S lim left → left ≤ 0 → S.tr.length < n → (S.st.length = 0 → S' = S) → (0 < S.st.length → ∃ fr : Nat, S.st.getD 0 0 = (fr : Int) ∧ fr ≤ S.tr.length ∧ S'.tr = S.tr.take fr ∧ S'.st = []) → S'.cls = S.cls → J m S' (lim + lim / 4) (lim + lim / 4)
  dec : ∀ {m : Nat} {S S' : Sz} {lim left : Int}, J m S lim left → ¬ left ≤ 0 → (∃ l, S'.tr = S.tr ++ [l]) → S'.st = S.st ++ [(S.tr.length : Int)] → S'.tr.length < n → S'.st.length ≤ n → S'.cls = S.cls → J m S' lim left
/-- what the search tells, if it is not given up -/
def OutT (V : Int) (cs : List (List Int)) (K : Nat) (r : Int × Sz) : Prop :=
  (r.1 = 1 ∧ ∀ c ∈ cs, ∃ x ∈ c, litV r.2.vals x = 1) ∨ (r.1 = 2 ∧ Lns V cs r.2.prf ∧ D.Fol (cs ++ r.2.prf.map Prod.snd) [] ∧ r.2.nl = (sizeP r.2.prf : Int) ∧ sizeP r.2.prf ≤ K)
section
variable {n : Nat} {V : Int} {cs : List (List Int)} {m : Nat} {S : Sz} {A : Nat} {N : List (List Int)} {U : Int}
theorem seek_gen (hV : V + 1 = n) {b : Nat} {bud : Int} (hb : b ≤ 2000) (hbud : (b : Int) ≤ bud) (hpr : b * (n + 1) + n + 2 ≤ 200000) {J : Nat → Sz → Int → Int → Prop} (hJ : Keep n b J) (hcl : cs.length + b < 1000000) (hcs : ∀ c ∈ cs, ∀ x ∈ c, 1 ≤ x.natAbs ∧ x.natAbs < n) : ∀ (f : Nat) {m : Nat} {S : Sz} {A : Nat} {conf limit left : Int}, Sk n V cs m S A → J m S limit left → sizeP S.prf ≤ m * (n + 1) → conf = (m : Int) → m ≤ b → 1 ≤ limit → left ≤ limit → limit ≤ 100 + m - (limit - left) →
    (b - m) * (2 * n + 4) + (if left ≤ 0 then n + 2 else 0) + (n - S.tr.length) < f → ∃ r, seekF f S bud conf limit left = some r ∧ OutT V cs (b * (n + 1)) r
  | 0, m, S, A, conf, limit, left, _, _, _, _, _, _, _, _, hf => by omega
  | f + 1, m, S, A, conf, limit, left, h, hj, hsz, hconf, hm, hl1, hl2, hl3, hf => by
    have hn2 := h.mid.n2
    have hn1 := h.mid.n1
    subst hconf
    unfold seekF
    rw [if_pos ⟨by omega, by omega, by omega, by omega, by omega, by omega⟩]
    obtain ⟨r, e1, hA, hprf, hst, hpl, hT, hnone, hsome, hpre, hsp, hcls⟩ := h.spread
    rw [e1, Option.bind_some]
    have hlens : r.2.tr.length < n ∧ r.2.st.length ≤ n := by
      cases hr : r.1 with
      | none =>
        have k := (hnone hr).mid
        have := k.trl.short k.n1
        have := k.trl.cover
        omega
      | some c =>
        obtain ⟨_, B, _, k⟩ := hsome c hr
        have := k.trl.short k.n1
        have := k.trl.cover
        omega
    have hj1 := hJ.spr hj hst hpre hsp hcls
    have hsz1 : sizeP r.2.prf ≤ m * (n + 1) := by rw [hprf]; exact hsz
    have hmb : m * (n + 1) ≤ b * (n + 1) := Nat.mul_le_mul_right _ hm
    rw [if_pos ⟨by unfold roomy; exact decide_eq_true (by omega), by unfold roomy; exact decide_eq_true (by omega)⟩]
    cases hr : r.1 with
    | some c =>
      dsimp only
      obtain ⟨c1, B, c2, c3⟩ := hsome c hr
      by_cases h0 : r.2.st.length = 0
      · rw [if_pos h0]
        exact ⟨_, rfl, .inr ⟨rfl, hA.prf, fol_nil c3 c1 h0, hA.nl, by dsimp only; omega⟩⟩
      rw [if_neg h0]
      obtain ⟨hmb1, hnext⟩ := hJ.cfl hj1 c3 c2 c1 (by omega)
      have hbn : ¬ bud < (m : Int) + 1 := by omega
      rw [if_neg hbn]
      have ht0 : ¬ r.2.tr.length = 0 := by
        have := hT 0 (by omega)
        have := (c3.trl.stn 0 (by omega)).1
        omega
      rw [if_neg ht0]
      have hmul : n * m ≤ 100000 * 2000 := Nat.mul_le_mul hn2 (by omega)
      have hmulI : ((n * m : Nat) : Int) = (n : Int) * m := Int.natCast_mul n m
      obtain ⟨q, q1, p, q2, q2b, q3⟩ := conflict_ok hA c3 c2 hT c1 (by omega) hV (by omega) (by omega)
      rw [q1, Option.bind_some, q2, Option.bind_some]
      have hp : p.1 = true := q2b (by omega)
      rw [if_pos hp]
      obtain ⟨s1, s2, s3, S4, a, s4, s5, s6, s7⟩ := q3 hp
      rw [if_neg s1, if_pos ⟨s2, s3⟩, s4, Option.bind_some, s5, Option.bind_some]
      have hsub : (b - m) * (2 * n + 4) = (b - (m + 1)) * (2 * n + 4) + (2 * n + 4) := by
        rw [show b - m = (b - (m + 1)) + 1 by omega, Nat.add_mul, Nat.one_mul]
      have go : ∀ (T : Sz) (A' : Nat) (one : Bool), TurnedC n r.2 c T one → Sk n V cs (m + 1) T A' → ∃ r, seekF f T bud ((m : Int) + 1) limit (left - 1) = some r ∧ OutT V cs (b * (n + 1)) r := fun T A' one hTu hS => by
        refine seek_gen hV hb hbud hpr hJ hcl hcs f hS (hnext T one hTu) ?_ (by omega) (by omega) hl1 (by omega) (by omega) ?_
        · obtain ⟨L, hL1, hL2⟩ := hTu.prf
          rw [hL1, sizeP_snoc, Nat.add_mul, Nat.one_mul]
          dsimp only
          omega
        · split <;> split at hf <;> omega
      by_cases h1 : q.2.1.length = 1
      · rw [if_pos h1]
        obtain ⟨t, t1, tu, A', t2⟩ := s6 h1
        rw [t1, Option.bind_some]
        exact go _ _ _ tu t2
      · rw [if_neg h1]
        obtain ⟨u1, S6, u2, u3, t, t1, tu, A', t2⟩ := s7 h1
        rw [if_pos u1, u2, Option.bind_some, if_pos u3, t1, Option.bind_some]
        exact go _ _ _ tu t2
    | none =>
      dsimp only
      have hS := hnone hr
      by_cases hle : left ≤ 0
      · rw [if_pos hle]
        obtain ⟨S4, a1, ⟨A', a2⟩, a3, a4, a5, a6⟩ := hS.restart
        rw [a1, Option.bind_some]
        have := a2.aux.lrn
        rw [if_pos (by omega)]
        rw [if_pos hle] at hf
        refine seek_gen hV hb hbud hpr hJ hcl hcs f a2 (hJ.res hj1 hle hlens.1 a3 a4 a5) (by rw [a6]; exact hsz1) rfl hm (by omega) (Int.le_refl _) (by omega) ?_
        rw [if_neg (by omega)]
        omega
      · rw [if_neg hle]
        obtain ⟨q, a1, a2⟩ := hS.decide_
        rw [a1, Option.bind_some]
        rcases a2 with ⟨b1, b2, b3⟩ | ⟨b1, sv, S', b2, b3, b4, b5, b6, b7, b8, b9⟩
        · rw [if_pos b1]
          refine ⟨_, rfl, .inl ⟨rfl, ?_⟩⟩
          dsimp only
          rw [b2]
          exact all_true hS b3 hcs
        · rw [if_neg b1, b2, Option.bind_some, b3, Option.bind_some]
          rw [if_neg hle] at hf
          have k := b4.mid
          have ks := k.trl.short k.n1
          have kc := k.trl.cover
          have ks2 : S'.tr.length < n := by omega
          have kc2 : S'.st.length ≤ n := by omega
          refine seek_gen hV hb hbud hpr hJ hcl hcs f b4 (hJ.dec hj1 hle b6 b7 ks2 kc2 b8) (by rw [b9]; exact hsz1) rfl hm hl1 hl2 hl3 ?_
          rw [if_neg hle]
          dsimp only
          omega
end
end Go.Proofs.Ytkpppmldbhgcgaa

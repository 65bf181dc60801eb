/- Stream: the loops of StreamWrong that build the ticks: what the states hold. -/
import Derived.Test.YtkfhjobebhdpoaaGreatW5
set_option linter.unusedVariables false
set_option autoImplicit false
set_option maxRecDepth 1000000
set_option maxHeartbeats 2000000
set_option linter.unusedVariables false
namespace Go.Proofs.YtkfhjobebhdpoaaGreat
noncomputable section
open Go.X
/-- a row of numbers -/
def rowI (rc : Nat → List Int) (j : Nat) : Blk := .row (lmap (fun x => AV.int .i64 x) (rc j)) 3 true []
theorem rowI_int (rc : Nat → List Int) (j : Nat) : IntRow (rowI rc j) := ⟨rc j, 3, true, by unfold rowI; rw [lmap_eq]⟩
/-- where the rows lie: behind the first n there is a gap -/
def slW (n j : Nat) : Nat := if j < n then j else j + 32
theorem slW_lo {n j : Nat} (h : j < n) : slW n j = j := if_pos h
theorem slW_hi {n j : Nat} (h : n ≤ j) : slW n j = j + 32 := if_neg (by omega)
theorem slW_inj {n a b : Nat} (h : slW n a = slW n b) : a = b := by unfold slW at h; split at h <;> split at h <;> omega
theorem slW_le (n j : Nat) : slW n j ≤ j + 32 := by unfold slW; split <;> omega
def zrM (rc : Nat → List Int) (q n : Nat) : List AV := (List.range n).map fun j => .slc (zn (slW q j)) 0 (rc j).length (rc j).length true 1
theorem zrM_len (rc : Nat → List Int) (q n : Nat) : (zrM rc q n).length = n := by simp [zrM]
theorem zrM_get {rc : Nat → List Int} {q n i : Nat} (hi : i < n) : lget (zrM rc q n) i = some (.slc (zn (slW q i)) 0 (rc i).length (rc i).length true 1) := by
  rw [lget_eq]; unfold zrM; rw [List.getElem?_map, List.getElem?_range hi]; rfl
theorem renL_slcM (ρ f m : Nat → Nat) (e : Bool) : ∀ (l : List Nat), renL ρ (l.map fun j => .slc (f j) 0 (m j) (m j) e 1) = l.map fun j => .slc (ρ (f j)) 0 (m j) (m j) e 1
  | [] => rfl
  | j :: l => by simp only [List.map_cons, renL, ren, renL_slcM ρ f m e l]
theorem belL_slcM (N : Nat) (f m : Nat → Nat) (e : Bool) : ∀ (l : List Nat), (∀ j ∈ l, f j < N) → belL N (l.map fun j => .slc (f j) 0 (m j) (m j) e 1) = true
  | [], _ => rfl
  | j :: l, h => by
    have h1 : Nat.ble (Nat.succ (f j)) N = true := Nat.ble_eq_true_of_le (h j (List.mem_cons_self ..))
    show Bool.and (Nat.ble (Nat.succ (f j)) N) (belL N (l.map fun j => .slc (f j) 0 (m j) (m j) e 1)) = true
    rw [h1, belL_slcM N f m e l fun k hk => h k (List.mem_cons_of_mem _ hk)]; rfl
theorem zrM_bel {rc : Nat → List Int} {q n N : Nat} (hn : n ≤ 1001) (hN : 4300000 ≤ N) : belL N (zrM rc q n) = true := belL_slcM _ (fun j => zn (slW q j)) (fun j => (rc j).length) _ _ fun j hj => by have := List.mem_range.1 hj; have := slW_le q j; rw [zn_eq]; omega
theorem zrM_bel2 {rc : Nat → List Int} {n : Nat} (hn : n ≤ 30) : belL 131072 (zrM rc n n) = true := belL_slcM _ (fun j => zn (slW n j)) (fun j => (rc j).length) _ _ fun j hj => by have := List.mem_range.1 hj; rw [slW_lo this, zn_eq]; omega
theorem zrM_grow {ρ : Nat → Nat} {rc : Nat → List Int} {q i a m : Nat} (h1 : ∀ j, j < i → ρ (zn (slW q j)) = zn (slW q j)) (h2 : ρ (zn (slW q i)) = a) (hm : (rc i).length = m) :
    cgW a (zrM rc q i) i m = renL ρ (zrM rc q (i + 1)) := by
  subst hm
  unfold cgW
  rw [lapp_eq, ltake_eq, ldrop_eq, List.drop_zero, List.take_of_length_le (by rw [zrM_len]; show i ≤ i * 1; omega)]
  unfold zrM
  rw [List.range_succ, List.map_append, renL_append, renL_slcM ρ (fun j => zn (slW q j)) (fun j => (rc j).length) true]
  congr 1
  · exact List.map_congr_left fun j hj => by rw [h1 j (List.mem_range.1 hj)]
  · simp only [List.map_cons, List.map_nil, renL, ren, h2]
theorem zrM_keep {ρ : Nat → Nat} {rc : Nat → List Int} {q n : Nat} (h : ∀ j, j < n → ρ (zn (slW q j)) = zn (slW q j)) : renL ρ (zrM rc q n) = zrM rc q n := by
  unfold zrM
  rw [renL_slcM ρ (fun j => zn (slW q j)) (fun j => (rc j).length) true]
  exact List.map_congr_left fun j hj => by rw [h j (List.mem_range.1 hj)]
/-- the zone as far as row i -/
def zbM (rc : Nat → List Int) (q i : Nat) : T Blk := Nat.rec T.leaf (fun j ih => T.set ih (rowI rc j) (slW q j)) i
theorem zbM_succ (rc : Nat → List Int) (q i : Nat) : zbM rc q (i + 1) = T.set (zbM rc q i) (rowI rc i) (slW q i) := rfl
theorem zbM_get (rc : Nat → List Int) (q : Nat) : ∀ i, (∀ j, j < i → (zbM rc q i).get (slW q j) = some (rowI rc j)) ∧ (∀ x k, (zbM rc q i).get x = some k → (∃ j, j < i ∧ x = slW q j) ∧ IntRow k)
  | 0 => ⟨fun j h => by omega, fun x k h => by cases h⟩
  | i + 1 => by
    obtain ⟨h1, h3⟩ := zbM_get rc q i
    rw [zbM_succ]
    refine ⟨fun j hj => ?_, fun x k h => ?_⟩
    · by_cases e : j = i
      · subst e; exact T.get_set_same _ _
      · rw [T.get_set_other _ _ _ (fun h => e (slW_inj h))]; exact h1 j (by omega)
    · rcases T.get_set h with ⟨rfl, rfl⟩ | ⟨_, h⟩
      · exact ⟨⟨i, by omega, rfl⟩, rowI_int rc i⟩
      · obtain ⟨⟨j, a, b⟩, c⟩ := h3 x k h; exact ⟨⟨j, by omega, b⟩, c⟩
theorem zbM_ok {rc : Nat → List Int} {q i N : Nat} (hi : i ≤ 1001) (hN : 4300000 ≤ N) : ZoneOK (zbM rc q i) N := fun x k h => by
  obtain ⟨⟨j, a, e⟩, b⟩ := (zbM_get rc q i).2 x k h
  have := slW_le q j
  exact ⟨b, by rw [zn_eq]; omega, by rw [zn_eq]; show _ < 1000000000000; omega⟩
theorem zbM_ok2 {rc : Nat → List Int} {n : Nat} (hn : n ≤ 30) : ZoneOK (zbM rc n n) 131072 := fun x k h => by
  obtain ⟨⟨j, a, e⟩, b⟩ := (zbM_get rc n n).2 x k h
  rw [slW_lo a] at e
  exact ⟨b, by rw [zn_eq]; omega, by rw [zn_eq]; show _ < 1000000000000; omega⟩
/-- .. depends on its rows alone -/
theorem zbM_congr {rc rc' : Nat → List Int} {q : Nat} : ∀ {i : Nat}, (∀ j, j < i → rc j = rc' j) → zbM rc q i = zbM rc' q i
  | 0, _ => rfl
  | i + 1, h => by
    rw [zbM_succ, zbM_succ, zbM_congr (i := i) fun j hj => h j (by omega)]
    unfold rowI
    rw [h i (by omega)]
theorem zrM_congr {rc rc' : Nat → List Int} {q i : Nat} (h : ∀ j, j < i → rc j = rc' j) : zrM rc q i = zrM rc' q i := by
  unfold zrM
  exact List.map_congr_left fun j hj => by rw [h j (List.mem_range.1 hj)]
/-- the states -/
def lsW (rc : Nat → List Int) (q c N i : Nat) (E : List (Nat × AV)) : ZS := ⟨E, (c, .row (zrM rc q i) 22 true []) :: pW, zbM rc q i, N⟩
def ls0W (E : List (Nat × AV)) : ZS := ⟨E, pW, T.leaf, 15⟩
theorem la15_15 {rc : Nat → List Int} {q i : Nat} (hi : i ≤ 1000) (hq : 15 ≤ zn (slW q i)) {E : List (Nat × AV)} {ts : List Nat} (hE : belEs 8388608 E = true) (hts : lmap (fun p => p.1) E = ts) {row : List AV} {m : Nat} (e1 : Blk.row row 3 true [] = rowI rc i) (em : (rc i).length = m) {env : Env} {h : H}
    (ho : obs ts (actsOf (lapp (RqW 131073 (15 + 2) (zrM rc q (i + 1))) (zipA pW kPW)) [(slW q i, 15, .row [] 3 true [])]) (lapp (RqW 131073 (15 + 2) (zrM rc q (i + 1))) (zipA pW kPW)) [(slW q i, 15, .row [] 3 true [])] env h = expsR 15 (kpOf (zbM rc q i)) E (RqW 131073 (15 + 2) (zrM rc q (i + 1))) (zipA pW kPW) [(slW q i, 15, .row row 3 true [])] (zbM rc q i) [(some (.row (cgW 15 (zrM rc q i) i m) 22 true []), true)]) : ∃ σ, Abs 15 σ (lsW rc q 131073 8388608 (i + 1) E).env (lsW rc q 131073 8388608 (i + 1) E).h env h := by
  have hlit : okLit 15 8388608 (lapp (RqW 131073 (15 + 2) (zrM rc q (i + 1))) (zipA pW kPW)) = true := okLit_row rfl (zrM_bel (by omega) (by omega)) (by kernel_rfl)
  have hnd : (([(slW q i, 15, .row row 3 true [])] : List (Nat × Nat × Blk)).map (·.1)).Nodup := by simp
  rw [expsR_eq] at ho
  · refine NewOK.abs (t := lsW rc q 131073 8388608 (i + 1) E) (A := lapp (RqW 131073 (15 + 2) (zrM rc q (i + 1))) (zipA pW kPW)) (Z := [(slW q i, 15, .row row 3 true [])]) (z := zbM rc q i)
      ⟨by rw [lmap_app, zipA_B]; rfl, ?_, by show 15 ≤ 8388608; decide, hE, hlit, by kernel_rfl, by kernel_rfl, fun p hp => ?_, hnd, zbM_ok (by omega) (by show 4300000 ≤ 8388608; decide)⟩ hts rfl rfl rfl ho
    · show T.set (zbM rc q i) (rowI rc i) (slW q i) = T.set (zbM rc q i) (.row row 3 true []) (slW q i)
      rw [← e1]
    · rw [List.mem_singleton.1 hp]
      have hl := slW_le q i
      exact ⟨hq, by show zn (slW q i) < 8388608; rw [zn_eq]; omega, by show 15 ≤ 15; decide, by show 15 < 1000000000000; decide, by show 15 % 4096 ≠ 4095; decide, by show IntRow (.row row 3 true []); rw [e1]; exact rowI_int rc i⟩
  · have q1 : cgW 15 (zrM rc q i) i m = renL (szs 15 (namesOf (lapp (RqW 131073 (15 + 2) (zrM rc q (i + 1))) (zipA pW kPW)) [(slW q i, 15, .row row 3 true [])]) (kpOf (zbM rc q i))) (zrM rc q (i + 1)) := by
      exact zrM_grow (rc := rc) (i := i) (fun j hj => szs_zone hlit ((zbM_get rc q i).1 j hj) (fun p hp e => by rw [List.mem_singleton.1 hp] at e; have e := slW_inj (n := q) (a := i) (b := j) e; omega)) (szs_row (x := slW q i) (kp := kpOf (zbM rc q i)) hlit hq (List.mem_singleton.2 rfl) hnd) em
    show [(some (Blk.row _ _ _ _), true)] = [(some (Blk.row (renL _ _) _ _ _), true)]
    rw [← q1]; rfl
theorem la15_8388608 {rc : Nat → List Int} {q i : Nat} (hi : i ≤ 1000) (hq : 15 ≤ zn (slW q i)) {E : List (Nat × AV)} {ts : List Nat} (hE : belEs 8388608 E = true) (hts : lmap (fun p => p.1) E = ts) {row : List AV} {m : Nat} (e1 : Blk.row row 3 true [] = rowI rc i) (em : (rc i).length = m) {env : Env} {h : H}
    (ho : obs ts (actsOf (lapp (RqW 131073 (8388608 + 2) (zrM rc q (i + 1))) (zipA pW kPW)) [(slW q i, 8388608, .row [] 3 true [])]) (lapp (RqW 131073 (8388608 + 2) (zrM rc q (i + 1))) (zipA pW kPW)) [(slW q i, 8388608, .row [] 3 true [])] env h = expsR 15 (kpOf (zbM rc q i)) E (RqW 131073 (8388608 + 2) (zrM rc q (i + 1))) (zipA pW kPW) [(slW q i, 8388608, .row row 3 true [])] (zbM rc q i) [(some (.row (cgW 8388608 (zrM rc q i) i m) 22 true []), true)]) : ∃ σ, Abs 15 σ (lsW rc q 131073 8388608 (i + 1) E).env (lsW rc q 131073 8388608 (i + 1) E).h env h := by
  have hlit : okLit 15 8388608 (lapp (RqW 131073 (8388608 + 2) (zrM rc q (i + 1))) (zipA pW kPW)) = true := okLit_row rfl (zrM_bel (by omega) (by omega)) (by kernel_rfl)
  have hnd : (([(slW q i, 8388608, .row row 3 true [])] : List (Nat × Nat × Blk)).map (·.1)).Nodup := by simp
  rw [expsR_eq] at ho
  · refine NewOK.abs (t := lsW rc q 131073 8388608 (i + 1) E) (A := lapp (RqW 131073 (8388608 + 2) (zrM rc q (i + 1))) (zipA pW kPW)) (Z := [(slW q i, 8388608, .row row 3 true [])]) (z := zbM rc q i)
      ⟨by rw [lmap_app, zipA_B]; rfl, ?_, by show 15 ≤ 8388608; decide, hE, hlit, by kernel_rfl, by kernel_rfl, fun p hp => ?_, hnd, zbM_ok (by omega) (by show 4300000 ≤ 8388608; decide)⟩ hts rfl rfl rfl ho
    · show T.set (zbM rc q i) (rowI rc i) (slW q i) = T.set (zbM rc q i) (.row row 3 true []) (slW q i)
      rw [← e1]
    · rw [List.mem_singleton.1 hp]
      have hl := slW_le q i
      exact ⟨hq, by show zn (slW q i) < 8388608; rw [zn_eq]; omega, by show 15 ≤ 8388608; decide, by show 8388608 < 1000000000000; decide, by show 8388608 % 4096 ≠ 4095; decide, by show IntRow (.row row 3 true []); rw [e1]; exact rowI_int rc i⟩
  · have q1 : cgW 8388608 (zrM rc q i) i m = renL (szs 15 (namesOf (lapp (RqW 131073 (8388608 + 2) (zrM rc q (i + 1))) (zipA pW kPW)) [(slW q i, 8388608, .row row 3 true [])]) (kpOf (zbM rc q i))) (zrM rc q (i + 1)) := by
      exact zrM_grow (rc := rc) (i := i) (fun j hj => szs_zone hlit ((zbM_get rc q i).1 j hj) (fun p hp e => by rw [List.mem_singleton.1 hp] at e; have e := slW_inj (n := q) (a := i) (b := j) e; omega)) (szs_row (x := slW q i) (kp := kpOf (zbM rc q i)) hlit hq (List.mem_singleton.2 rfl) hnd) em
    show [(some (Blk.row _ _ _ _), true)] = [(some (Blk.row (renL _ _) _ _ _), true)]
    rw [← q1]; rfl
theorem la131072_131072 {rc : Nat → List Int} {q i : Nat} (hi : i ≤ 1000) (hq : 131072 ≤ zn (slW q i)) {E : List (Nat × AV)} {ts : List Nat} (hE : belEs 8388608 E = true) (hts : lmap (fun p => p.1) E = ts) {row : List AV} {m : Nat} (e1 : Blk.row row 3 true [] = rowI rc i) (em : (rc i).length = m) {env : Env} {h : H}
    (ho : obs ts (actsOf (lapp (RqW 131073 (131072 + 2) (zrM rc q (i + 1))) (zipA pW kPW)) [(slW q i, 131072, .row [] 3 true [])]) (lapp (RqW 131073 (131072 + 2) (zrM rc q (i + 1))) (zipA pW kPW)) [(slW q i, 131072, .row [] 3 true [])] env h = expsR 131072 (kpOf (zbM rc q i)) E (RqW 131073 (131072 + 2) (zrM rc q (i + 1))) (zipA pW kPW) [(slW q i, 131072, .row row 3 true [])] (zbM rc q i) [(some (.row (cgW 131072 (zrM rc q i) i m) 22 true []), true)]) : ∃ σ, Abs 131072 σ (lsW rc q 131073 8388608 (i + 1) E).env (lsW rc q 131073 8388608 (i + 1) E).h env h := by
  have hlit : okLit 131072 8388608 (lapp (RqW 131073 (131072 + 2) (zrM rc q (i + 1))) (zipA pW kPW)) = true := okLit_row rfl (zrM_bel (by omega) (by omega)) (by kernel_rfl)
  have hnd : (([(slW q i, 131072, .row row 3 true [])] : List (Nat × Nat × Blk)).map (·.1)).Nodup := by simp
  rw [expsR_eq] at ho
  · refine NewOK.abs (t := lsW rc q 131073 8388608 (i + 1) E) (A := lapp (RqW 131073 (131072 + 2) (zrM rc q (i + 1))) (zipA pW kPW)) (Z := [(slW q i, 131072, .row row 3 true [])]) (z := zbM rc q i)
      ⟨by rw [lmap_app, zipA_B]; rfl, ?_, by show 131072 ≤ 8388608; decide, hE, hlit, by kernel_rfl, by kernel_rfl, fun p hp => ?_, hnd, zbM_ok (by omega) (by show 4300000 ≤ 8388608; decide)⟩ hts rfl rfl rfl ho
    · show T.set (zbM rc q i) (rowI rc i) (slW q i) = T.set (zbM rc q i) (.row row 3 true []) (slW q i)
      rw [← e1]
    · rw [List.mem_singleton.1 hp]
      have hl := slW_le q i
      exact ⟨hq, by show zn (slW q i) < 8388608; rw [zn_eq]; omega, by show 131072 ≤ 131072; decide, by show 131072 < 1000000000000; decide, by show 131072 % 4096 ≠ 4095; decide, by show IntRow (.row row 3 true []); rw [e1]; exact rowI_int rc i⟩
  · have q1 : cgW 131072 (zrM rc q i) i m = renL (szs 131072 (namesOf (lapp (RqW 131073 (131072 + 2) (zrM rc q (i + 1))) (zipA pW kPW)) [(slW q i, 131072, .row row 3 true [])]) (kpOf (zbM rc q i))) (zrM rc q (i + 1)) := by
      exact zrM_grow (rc := rc) (i := i) (fun j hj => szs_zone hlit ((zbM_get rc q i).1 j hj) (fun p hp e => by rw [List.mem_singleton.1 hp] at e; have e := slW_inj (n := q) (a := i) (b := j) e; omega)) (szs_row (x := slW q i) (kp := kpOf (zbM rc q i)) hlit hq (List.mem_singleton.2 rfl) hnd) em
    show [(some (Blk.row _ _ _ _), true)] = [(some (Blk.row (renL _ _) _ _ _), true)]
    rw [← q1]; rfl
theorem la131072_8388608 {rc : Nat → List Int} {q i : Nat} (hi : i ≤ 1000) (hq : 131072 ≤ zn (slW q i)) {E : List (Nat × AV)} {ts : List Nat} (hE : belEs 8388608 E = true) (hts : lmap (fun p => p.1) E = ts) {row : List AV} {m : Nat} (e1 : Blk.row row 3 true [] = rowI rc i) (em : (rc i).length = m) {env : Env} {h : H}
    (ho : obs ts (actsOf (lapp (RqW 131073 (8388608 + 2) (zrM rc q (i + 1))) (zipA pW kPW)) [(slW q i, 8388608, .row [] 3 true [])]) (lapp (RqW 131073 (8388608 + 2) (zrM rc q (i + 1))) (zipA pW kPW)) [(slW q i, 8388608, .row [] 3 true [])] env h = expsR 131072 (kpOf (zbM rc q i)) E (RqW 131073 (8388608 + 2) (zrM rc q (i + 1))) (zipA pW kPW) [(slW q i, 8388608, .row row 3 true [])] (zbM rc q i) [(some (.row (cgW 8388608 (zrM rc q i) i m) 22 true []), true)]) : ∃ σ, Abs 131072 σ (lsW rc q 131073 8388608 (i + 1) E).env (lsW rc q 131073 8388608 (i + 1) E).h env h := by
  have hlit : okLit 131072 8388608 (lapp (RqW 131073 (8388608 + 2) (zrM rc q (i + 1))) (zipA pW kPW)) = true := okLit_row rfl (zrM_bel (by omega) (by omega)) (by kernel_rfl)
  have hnd : (([(slW q i, 8388608, .row row 3 true [])] : List (Nat × Nat × Blk)).map (·.1)).Nodup := by simp
  rw [expsR_eq] at ho
  · refine NewOK.abs (t := lsW rc q 131073 8388608 (i + 1) E) (A := lapp (RqW 131073 (8388608 + 2) (zrM rc q (i + 1))) (zipA pW kPW)) (Z := [(slW q i, 8388608, .row row 3 true [])]) (z := zbM rc q i)
      ⟨by rw [lmap_app, zipA_B]; rfl, ?_, by show 131072 ≤ 8388608; decide, hE, hlit, by kernel_rfl, by kernel_rfl, fun p hp => ?_, hnd, zbM_ok (by omega) (by show 4300000 ≤ 8388608; decide)⟩ hts rfl rfl rfl ho
    · show T.set (zbM rc q i) (rowI rc i) (slW q i) = T.set (zbM rc q i) (.row row 3 true []) (slW q i)
      rw [← e1]
    · rw [List.mem_singleton.1 hp]
      have hl := slW_le q i
      exact ⟨hq, by show zn (slW q i) < 8388608; rw [zn_eq]; omega, by show 131072 ≤ 8388608; decide, by show 8388608 < 1000000000000; decide, by show 8388608 % 4096 ≠ 4095; decide, by show IntRow (.row row 3 true []); rw [e1]; exact rowI_int rc i⟩
  · have q1 : cgW 8388608 (zrM rc q i) i m = renL (szs 131072 (namesOf (lapp (RqW 131073 (8388608 + 2) (zrM rc q (i + 1))) (zipA pW kPW)) [(slW q i, 8388608, .row row 3 true [])]) (kpOf (zbM rc q i))) (zrM rc q (i + 1)) := by
      exact zrM_grow (rc := rc) (i := i) (fun j hj => szs_zone hlit ((zbM_get rc q i).1 j hj) (fun p hp e => by rw [List.mem_singleton.1 hp] at e; have e := slW_inj (n := q) (a := i) (b := j) e; omega)) (szs_row (x := slW q i) (kp := kpOf (zbM rc q i)) hlit hq (List.mem_singleton.2 rfl) hnd) em
    show [(some (Blk.row _ _ _ _), true)] = [(some (Blk.row (renL _ _) _ _ _), true)]
    rw [← q1]; rfl
theorem lxA15 {rc : Nat → List Int} {q n : Nat} (hn : n ≤ 1001) {E : List (Nat × AV)} {ts : List Nat} (hE : belEs 8388608 E = true) (hts : lmap (fun p => p.1) E = ts) {env : Env} {h : H}
    (ho : obs ts (actsOf (lapp (RqW 131073 131073 (zrM rc q n)) (zipA pW kPW)) []) (lapp (RqW 131073 131073 (zrM rc q n)) (zipA pW kPW)) [] env h = expsR 15 (kpOf (zbM rc q n)) E (RqW 131073 131073 (zrM rc q n)) (zipA pW kPW) [] (zbM rc q n) [(some (.row (zrM rc q n) 22 true []), true)]) : ∃ σ, Abs 15 σ (lsW rc q 131073 8388608 n E).env (lsW rc q 131073 8388608 n E).h env h := by
  have hlit : okLit 15 8388608 (lapp (RqW 131073 131073 (zrM rc q n)) (zipA pW kPW)) = true := okLit_row rfl (zrM_bel (by omega) (by omega)) (by kernel_rfl)
  have k1 : renL (szs 15 (namesOf (lapp (RqW 131073 131073 (zrM rc q n)) (zipA pW kPW)) []) (kpOf (zbM rc q n))) (zrM rc q n) = zrM rc q n :=
    zrM_keep fun j hj => szs_zone hlit ((zbM_get rc q n).1 j hj) (fun p hp e => by cases hp)
  rw [expsR_eq] at ho
  · exact NewOK.abs (t := lsW rc q 131073 8388608 n E) (A := lapp (RqW 131073 131073 (zrM rc q n)) (zipA pW kPW)) (Z := []) (z := zbM rc q n)
      ⟨by rw [lmap_app, zipA_B]; rfl, rfl, by show 15 ≤ 8388608; decide, hE, hlit, by kernel_rfl, by kernel_rfl, (fun p hp => (by cases hp)), List.nodup_nil, zbM_ok (by omega) (by show 4300000 ≤ 8388608; decide)⟩ hts rfl rfl rfl ho
  · show _ = [(some (Blk.row (renL _ _) _ _ _), true)]
    rw [k1]; rfl
theorem lxB15 {rc : Nat → List Int} {n : Nat} (hn : n ≤ 1001) (hn2 : n ≤ 30) {E : List (Nat × AV)} {ts : List Nat} (hE : belEs 131072 E = true) (hts : lmap (fun p => p.1) E = ts) {env : Env} {h : H}
    (ho : obs ts (actsOf (lapp (RqW 30 131073 (zrM rc n n)) (zipA pW kPW)) []) (lapp (RqW 30 131073 (zrM rc n n)) (zipA pW kPW)) [] env h = expsR 15 (kpOf (zbM rc n n)) E (RqW 30 131073 (zrM rc n n)) (zipA pW kPW) [] (zbM rc n n) [(some (.row (zrM rc n n) 22 true []), true)]) : ∃ σ, Abs 15 σ (lsW rc n 30 131072 n E).env (lsW rc n 30 131072 n E).h env h := by
  have hlit : okLit 15 131072 (lapp (RqW 30 131073 (zrM rc n n)) (zipA pW kPW)) = true := okLit_row rfl (zrM_bel2 hn2) (by kernel_rfl)
  have k1 : renL (szs 15 (namesOf (lapp (RqW 30 131073 (zrM rc n n)) (zipA pW kPW)) []) (kpOf (zbM rc n n))) (zrM rc n n) = zrM rc n n :=
    zrM_keep fun j hj => szs_zone hlit ((zbM_get rc n n).1 j hj) (fun p hp e => by cases hp)
  rw [expsR_eq] at ho
  · exact NewOK.abs (t := lsW rc n 30 131072 n E) (A := lapp (RqW 30 131073 (zrM rc n n)) (zipA pW kPW)) (Z := []) (z := zbM rc n n)
      ⟨by rw [lmap_app, zipA_B]; rfl, rfl, by show 15 ≤ 131072; decide, hE, hlit, by kernel_rfl, by kernel_rfl, (fun p hp => (by cases hp)), List.nodup_nil, zbM_ok2 hn2⟩ hts rfl rfl rfl ho
  · show _ = [(some (Blk.row (renL _ _) _ _ _), true)]
    rw [k1]; rfl
theorem lxA131072 {rc : Nat → List Int} {q n : Nat} (hn : n ≤ 1001) {E : List (Nat × AV)} {ts : List Nat} (hE : belEs 8388608 E = true) (hts : lmap (fun p => p.1) E = ts) {env : Env} {h : H}
    (ho : obs ts (actsOf (lapp (RqW 131073 131073 (zrM rc q n)) (zipA pW kPW)) []) (lapp (RqW 131073 131073 (zrM rc q n)) (zipA pW kPW)) [] env h = expsR 131072 (kpOf (zbM rc q n)) E (RqW 131073 131073 (zrM rc q n)) (zipA pW kPW) [] (zbM rc q n) [(some (.row (zrM rc q n) 22 true []), true)]) : ∃ σ, Abs 131072 σ (lsW rc q 131073 8388608 n E).env (lsW rc q 131073 8388608 n E).h env h := by
  have hlit : okLit 131072 8388608 (lapp (RqW 131073 131073 (zrM rc q n)) (zipA pW kPW)) = true := okLit_row rfl (zrM_bel (by omega) (by omega)) (by kernel_rfl)
  have k1 : renL (szs 131072 (namesOf (lapp (RqW 131073 131073 (zrM rc q n)) (zipA pW kPW)) []) (kpOf (zbM rc q n))) (zrM rc q n) = zrM rc q n :=
    zrM_keep fun j hj => szs_zone hlit ((zbM_get rc q n).1 j hj) (fun p hp e => by cases hp)
  rw [expsR_eq] at ho
  · exact NewOK.abs (t := lsW rc q 131073 8388608 n E) (A := lapp (RqW 131073 131073 (zrM rc q n)) (zipA pW kPW)) (Z := []) (z := zbM rc q n)
      ⟨by rw [lmap_app, zipA_B]; rfl, rfl, by show 131072 ≤ 8388608; decide, hE, hlit, by kernel_rfl, by kernel_rfl, (fun p hp => (by cases hp)), List.nodup_nil, zbM_ok (by omega) (by show 4300000 ≤ 8388608; decide)⟩ hts rfl rfl rfl ho
  · show _ = [(some (Blk.row (renL _ _) _ _ _), true)]
    rw [k1]; rfl
end
end Go.Proofs.YtkfhjobebhdpoaaGreat
/- Stream: the loops of StreamWrong that build the ticks, as contracts. -/
set_option autoImplicit false
set_option maxRecDepth 1000000
set_option maxHeartbeats 2000000
set_option linter.unusedVariables false
namespace Go.Proofs.YtkfhjobebhdpoaaGreat
noncomputable section
open Go.X
inductive LW where
  | l0
  | l1 (i : Nat)
theorem apW_ok {cs : List AV} {i : Nat} {t : Prop} (hc : cs.length = i) (hi : i ≤ 1001) (h : t) : apW cs i t :=
  bcase_tt (dcq_cap i) (bcase_tt (appC_ok (by omega) (by omega)) (bcase_any h h))
theorem zn_15 (q i : Nat) : 15 ≤ zn (slW q i) := by rw [zn_eq]; omega
def LW.ok8 (n : Nat) : LW → Prop
  | .l0 => True
  | .l1 i => 1 ≤ i ∧ i ≤ n
def LW.st8 (rc : Nat → List Int) (n : Nat) (w : Int) : LW → ZS
  | .l0 => ls0W (eAW n w .nils 0)
  | .l1 i => lsW rc n 131073 8388608 i (eAW n w (.slc 131073 0 i i false 1) i)
def LW.dr8 (n : Nat) : LW → List Bool
  | .l0 => [true]
  | .l1 i => cond (Nat.ble (i + 1) n) [true, false, false, true] [false]
def LW.mu (n : Nat) : LW → Nat
  | .l0 => n + 1
  | .l1 i => n - i
def lc8A (rc : Nat → List Int) (n : Nat) (w : Int) : LCon := lcZ (S0 := Unit) (fun _ => True) (lmap (fun p => p.1) (ls0W (eAW n w .nils 0)).E) (lmap (fun p => p.1) (ls0W (eAW n w .nils 0)).B) (fun _ => ls0W (eAW n w .nils 0)) (fun _ => (.ext 0, lsW rc n 131073 8388608 n (eXW w (.slc 131073 0 n n false 1))))
theorem loop8A_good {C : Cfg} (G : X.Good C Tryz.prog) (hg : C.gl = fun _ => none) (hm : C.mask 8 = mask 8) {rc : Nat → List Int} {n : Nat} (w : Int) (hn1 : 1 ≤ n) (hn : n ≤ 30) (hrc : ∀ j, j < n → rc j = [Int.ofNat j, Int.ofNat 1]) : X.Good (C.addLc 8 8 (lc8A rc n w)) Tryz.prog := by
  refine G.addZR good1 (by rw [hg]; rfl) (S := LW) (LW.dr8 n) (n0 := 15) (ι := fun _ => .l0) (ok := LW.ok8 n) (St := LW.st8 rc n w) (fun s => (LW.st8 rc n w s).E) (μ := LW.mu n) (fin := fun _ => (.ext 0, lsW rc n 131073 8388608 n (eXW w (.slc 131073 0 n n false 1)))) (fuel := F) hm.symm (by rfl) (fun s _ => Pe.refl _) ?_ ?_ (fun g i h => by rw [hg] at h; cases h)
  · intro _ _
    exact ⟨trivial, rfl, rfl, ⟨rfl, by kernel_rfl, by kernel_rfl, fun x k h => by cases h⟩, by show 15 ≤ 8388608; decide, rfl, rfl⟩
  · intro s hs
    rw [hm]
    cases s with
    | l0 =>
      refine ⟨?_⟩
      show lrW 8 (eAW n w .nils 0) ⟨mkB T.leaf pW, 15⟩ [true] _
      refine round_use2 good1.spl (fun Kv => lr8f n (slW n 0) w (zrM rc n 1) Kv) ?_
      refine bcase_tt (dcq_lt (by simp only [Int.ofNat_eq_natCast]; omega)) ?_
      intro env h ds ho
      exact (la15_15 (rc := rc) (q := n) (i := 0) (by omega) (zn_15 n 0) (E := eAW n w (.slc 131073 0 1 1 false 1) 1) rfl rfl (row := [.int .i64 (Int.ofNat 0), .int .i64 (Int.ofNat 1)]) (m := 2) (by unfold rowI; rw [hrc 0 (by omega)]; rfl) (by rw [hrc 0 (by omega)]; rfl) ho).elim fun σ ab => ⟨.l1 1, σ, ⟨Nat.le_refl _, hn1⟩, (by show n - 1 < n + 1; omega), rfl, ab⟩
    | l1 i =>
      obtain ⟨h1, h2⟩ := hs
      by_cases hlt : i < n
      · refine ⟨?_⟩
        show lrW 8 (eAW n w (.slc 131073 0 i i false 1) i) ⟨mkB (zbM rc n i) ((131073, .row (zrM rc n i) 22 true []) :: pW), 8388608⟩ (cond (Nat.ble (i + 1) n) [true, false, false, true] [false]) _
        rw [ble_t hlt]
        refine round_use2 good1.spl (fun Kv => lr8s (zbM rc n i) n i (slW n i) w (zrM rc n i) (zrM rc n (i + 1)) Kv) ?_
        refine bcase_tt (dcq_lt (by simp only [Int.ofNat_eq_natCast]; omega)) (apW_ok (zrM_len ..) (by omega) (bcase_tt (inR_add (by omega)) ?_))
        intro env h ds ho
        exact (la15_8388608 (rc := rc) (q := n) (i := i) (by omega) (zn_15 n i) (E := eAW n w (.slc 131073 0 (i + 1) (i + 1) false 1) (i + 1)) rfl rfl (row := [.int .i64 (Int.ofNat i), .int .i64 (Int.ofNat 1)]) (m := 2) (by unfold rowI; rw [hrc i hlt]; rfl) (by rw [hrc i hlt]; rfl) ho).elim fun σ ab => ⟨.l1 (i + 1), σ, ⟨by omega, hlt⟩, (by show n - (i + 1) < n - i; omega), rfl, ab⟩
      · have hin : i = n := by omega
        subst hin
        refine ⟨?_⟩
        show lrW 8 (eAW i w (.slc 131073 0 i i false 1) i) ⟨mkB (zbM rc i i) ((131073, .row (zrM rc i i) 22 true []) :: pW), 8388608⟩ (cond (Nat.ble (i + 1) i) [true, false, false, true] [false]) _
        rw [ble_f (Nat.lt_irrefl i)]
        refine round_use2 good1.spl (fun Kv => lx8A (zbM rc i i) i i w (zrM rc i i) Kv) ?_
        refine bcase_tt (dcq_ge (by omega)) ?_
        intro env h ds ho
        exact (lxA15 (rc := rc) (q := i) (n := i) (by omega) (E := eXW w (.slc 131073 0 i i false 1)) rfl rfl ho).elim fun σ ab => ⟨σ, rfl, ab⟩
def lc8B (rc : Nat → List Int) (n : Nat) (w : Int) : LCon := lcZ (S0 := Unit) (fun _ => True) (lmap (fun p => p.1) (ls0W (eAW n w .nils 0)).E) (lmap (fun p => p.1) (ls0W (eAW n w .nils 0)).B) (fun _ => ls0W (eAW n w .nils 0)) (fun _ => (.ext 0, lsW rc n 30 131072 n (eXW w (.slc 30 0 n n false 1))))
theorem loop8B_good {C : Cfg} (G : X.Good C Tryz.prog) (hg : C.gl = fun _ => none) (hm : C.mask 8 = mask 8) {rc : Nat → List Int} {n : Nat} (w : Int) (hn1 : 1 ≤ n) (hn : n ≤ 30) (hrc : ∀ j, j < n → rc j = [Int.ofNat j, Int.ofNat 1]) : X.Good (C.addLc 8 8 (lc8B rc n w)) Tryz.prog := by
  refine G.addZR good1 (by rw [hg]; rfl) (S := LW) (LW.dr8 n) (n0 := 15) (ι := fun _ => .l0) (ok := LW.ok8 n) (St := LW.st8 rc n w) (fun s => (LW.st8 rc n w s).E) (μ := LW.mu n) (fin := fun _ => (.ext 0, lsW rc n 30 131072 n (eXW w (.slc 30 0 n n false 1)))) (fuel := F) hm.symm (by rfl) (fun s _ => Pe.refl _) ?_ ?_ (fun g i h => by rw [hg] at h; cases h)
  · intro _ _
    exact ⟨trivial, rfl, rfl, ⟨rfl, by kernel_rfl, by kernel_rfl, fun x k h => by cases h⟩, by show 15 ≤ 131072; decide, rfl, rfl⟩
  · intro s hs
    rw [hm]
    cases s with
    | l0 =>
      refine ⟨?_⟩
      show lrW 8 (eAW n w .nils 0) ⟨mkB T.leaf pW, 15⟩ [true] _
      refine round_use2 good1.spl (fun Kv => lr8f n (slW n 0) w (zrM rc n 1) Kv) ?_
      refine bcase_tt (dcq_lt (by simp only [Int.ofNat_eq_natCast]; omega)) ?_
      intro env h ds ho
      exact (la15_15 (rc := rc) (q := n) (i := 0) (by omega) (zn_15 n 0) (E := eAW n w (.slc 131073 0 1 1 false 1) 1) rfl rfl (row := [.int .i64 (Int.ofNat 0), .int .i64 (Int.ofNat 1)]) (m := 2) (by unfold rowI; rw [hrc 0 (by omega)]; rfl) (by rw [hrc 0 (by omega)]; rfl) ho).elim fun σ ab => ⟨.l1 1, σ, ⟨Nat.le_refl _, hn1⟩, (by show n - 1 < n + 1; omega), rfl, ab⟩
    | l1 i =>
      obtain ⟨h1, h2⟩ := hs
      by_cases hlt : i < n
      · refine ⟨?_⟩
        show lrW 8 (eAW n w (.slc 131073 0 i i false 1) i) ⟨mkB (zbM rc n i) ((131073, .row (zrM rc n i) 22 true []) :: pW), 8388608⟩ (cond (Nat.ble (i + 1) n) [true, false, false, true] [false]) _
        rw [ble_t hlt]
        refine round_use2 good1.spl (fun Kv => lr8s (zbM rc n i) n i (slW n i) w (zrM rc n i) (zrM rc n (i + 1)) Kv) ?_
        refine bcase_tt (dcq_lt (by simp only [Int.ofNat_eq_natCast]; omega)) (apW_ok (zrM_len ..) (by omega) (bcase_tt (inR_add (by omega)) ?_))
        intro env h ds ho
        exact (la15_8388608 (rc := rc) (q := n) (i := i) (by omega) (zn_15 n i) (E := eAW n w (.slc 131073 0 (i + 1) (i + 1) false 1) (i + 1)) rfl rfl (row := [.int .i64 (Int.ofNat i), .int .i64 (Int.ofNat 1)]) (m := 2) (by unfold rowI; rw [hrc i hlt]; rfl) (by rw [hrc i hlt]; rfl) ho).elim fun σ ab => ⟨.l1 (i + 1), σ, ⟨by omega, hlt⟩, (by show n - (i + 1) < n - i; omega), rfl, ab⟩
      · have hin : i = n := by omega
        subst hin
        refine ⟨?_⟩
        show lrW 8 (eAW i w (.slc 131073 0 i i false 1) i) ⟨mkB (zbM rc i i) ((131073, .row (zrM rc i i) 22 true []) :: pW), 8388608⟩ (cond (Nat.ble (i + 1) i) [true, false, false, true] [false]) _
        rw [ble_f (Nat.lt_irrefl i)]
        refine round_use2 good1.spl (fun Kv => lx8B (zbM rc i i) i i w (zrM rc i i) Kv) ?_
        refine bcase_tt (dcq_ge (by omega)) ?_
        intro env h ds ho
        exact (lxB15 (rc := rc) (n := i) (by omega) hn (E := eXW w (.slc 30 0 i i false 1)) rfl rfl ho).elim fun σ ab => ⟨σ, rfl, ab⟩
def LW.ok34f : LW → Prop
  | .l0 => True
  | .l1 i => 1 ≤ i ∧ i ≤ 1000
def LW.st34f (rc : Nat → List Int) : LW → ZS
  | .l0 => ls0W (eBW .nils)
  | .l1 i => lsW rc 0 131073 8388608 i (eBW (.slc 131073 0 i i false 1))
def LW.dr34f : LW → List Bool
  | .l0 => []
  | .l1 i => cond (Nat.ble (i + 1) 1000) [true, false, false] [false]
def lc34f (rc : Nat → List Int) : LCon := lcZ (S0 := Unit) (fun _ => True) (lmap (fun p => p.1) (ls0W (eBW .nils)).E) (lmap (fun p => p.1) (ls0W (eBW .nils)).B) (fun _ => ls0W (eBW .nils)) (fun _ => (.ext 5, lsW rc 0 131073 8388608 1000 (eBW (.slc 131073 0 1000 1000 false 1))))
theorem loop34f_good {C : Cfg} (G : X.Good C Tryz.prog) (hg : C.gl = fun _ => none) (hm : C.mask 8 = mask 8) {rc : Nat → List Int} (hrc : ∀ j, 0 ≤ j → rc j = [Int.ofNat 1, Int.ofNat 0]) : X.Good (C.addLc 8 34 (lc34f rc)) Tryz.prog := by
  refine G.addZR good1 (by rw [hg]; rfl) (S := LW) LW.dr34f (n0 := 15) (ι := fun _ => .l0) (ok := LW.ok34f) (St := LW.st34f rc) (fun s => (LW.st34f rc s).E) (μ := LW.mu 1000) (fin := fun _ => (.ext 5, lsW rc 0 131073 8388608 1000 (eBW (.slc 131073 0 1000 1000 false 1)))) (fuel := F) hm.symm (by rfl) (fun s _ => Pe.refl _) ?_ ?_ (fun g i h => by rw [hg] at h; cases h)
  · intro _ _
    exact ⟨trivial, rfl, rfl, ⟨rfl, by kernel_rfl, by kernel_rfl, fun x k h => by cases h⟩, by show 15 ≤ 8388608; decide, rfl, rfl⟩
  · intro s hs
    rw [hm]
    cases s with
    | l0 =>
      refine ⟨?_⟩
      show lrW 34 (eBW .nils) ⟨mkB T.leaf pW, 15⟩ [] _
      refine round_use2 good1.spl (fun Kv => lr34f (slW 0 0) (zrM rc 0 1) Kv) ?_
      intro env h ds ho
      exact (la15_15 (rc := rc) (q := 0) (i := 0) (by omega) (zn_15 0 0) (E := eBW (.slc 131073 0 1 1 false 1)) rfl rfl (row := [.int .i64 (Int.ofNat 1), .int .i64 (Int.ofNat 0)]) (m := 2) (by unfold rowI; rw [hrc 0 (Nat.le_refl _)]; rfl) (by rw [hrc 0 (Nat.le_refl _)]; rfl) ho).elim fun σ ab => ⟨.l1 1, σ, ⟨Nat.le_refl _, by omega⟩, (by show 1000 - 1 < 1000 + 1; omega), rfl, ab⟩
    | l1 i =>
      obtain ⟨h1, h2⟩ := hs
      by_cases hlt : i < 1000
      · refine ⟨?_⟩
        show lrW 34 (eBW (.slc 131073 0 i i false 1)) ⟨mkB (zbM rc 0 i) ((131073, .row (zrM rc 0 i) 22 true []) :: pW), 8388608⟩ (cond (Nat.ble (i + 1) 1000) [true, false, false] [false]) _
        rw [ble_t hlt]
        refine round_use2 good1.spl (fun Kv => lr34s15 (zbM rc 0 i) i (slW 0 i) (zrM rc 0 i) (zrM rc 0 (i + 1)) Kv) ?_
        refine bcase_tt (dcq_lt (by simp only [Int.ofNat_eq_natCast]; omega)) (apW_ok (zrM_len ..) (by omega) ?_)
        intro env h ds ho
        exact (la15_8388608 (rc := rc) (q := 0) (i := i) (by omega) (zn_15 0 i) (E := eBW (.slc 131073 0 (i + 1) (i + 1) false 1)) rfl rfl (row := [.int .i64 (Int.ofNat 1), .int .i64 (Int.ofNat 0)]) (m := 2) (by unfold rowI; rw [hrc i (by omega)]; rfl) (by rw [hrc i (by omega)]; rfl) ho).elim fun σ ab => ⟨.l1 (i + 1), σ, ⟨by omega, hlt⟩, (by show 1000 - (i + 1) < 1000 - i; omega), rfl, ab⟩
      · have hin : i = 1000 := by omega
        subst hin
        refine ⟨?_⟩
        show lrW 34 (eBW (.slc 131073 0 1000 1000 false 1)) ⟨mkB (zbM rc 0 1000) ((131073, .row (zrM rc 0 1000) 22 true []) :: pW), 8388608⟩ [false] _
        refine round_use2 good1.spl (fun Kv => lx34x15 (zbM rc 0 1000) 1000 (zrM rc 0 1000) Kv) ?_
        refine bcase_tt (dcq_ge (by omega)) ?_
        intro env h ds ho
        exact (lxA15 (rc := rc) (q := 0) (n := 1000) (by omega) (E := eBW (.slc 131073 0 1000 1000 false 1)) rfl rfl ho).elim fun σ ab => ⟨σ, rfl, ab⟩
def LW.ok34e (n : Nat) : LW → Prop
  | .l0 => True
  | .l1 i => n + 1 ≤ i ∧ i ≤ 1000
def LW.st34e (rc : Nat → List Int) (n : Nat) : LW → ZS
  | .l0 => lsW rc n 30 131072 n (eBW (.slc 30 0 n n false 1))
  | .l1 i => lsW rc n 131073 8388608 i (eBW (.slc 131073 0 i i false 1))
def LW.dr34e : LW → List Bool
  | .l0 => [true, false, false]
  | .l1 i => cond (Nat.ble (i + 1) 1000) [true, false, false] [false]
def lc34e (rc : Nat → List Int) (n : Nat) : LCon := lcZ (S0 := Unit) (fun _ => True) (lmap (fun p => p.1) (lsW rc n 30 131072 n (eBW (.slc 30 0 n n false 1))).E) (lmap (fun p => p.1) (lsW rc n 30 131072 n (eBW (.slc 30 0 n n false 1))).B) (fun _ => lsW rc n 30 131072 n (eBW (.slc 30 0 n n false 1))) (fun _ => (.ext 5, lsW rc n 131073 8388608 1000 (eBW (.slc 131073 0 1000 1000 false 1))))
theorem loop34e_good {C : Cfg} (G : X.Good C Tryz.prog) (hg : C.gl = fun _ => none) (hm : C.mask 8 = mask 8) {rc : Nat → List Int} (n : Nat) (hn1 : 1 ≤ n) (hn : n ≤ 30) (hrc : ∀ j, n ≤ j → rc j = [Int.ofNat 1, Int.ofNat 0]) : X.Good (C.addLc 8 34 (lc34e rc n)) Tryz.prog := by
  refine G.addZR good1 (by rw [hg]; rfl) (S := LW) LW.dr34e (n0 := 131072) (ι := fun _ => .l0) (ok := LW.ok34e n) (St := LW.st34e rc n) (fun s => (LW.st34e rc n s).E) (μ := LW.mu 1000) (fin := fun _ => (.ext 5, lsW rc n 131073 8388608 1000 (eBW (.slc 131073 0 1000 1000 false 1)))) (fuel := F) hm.symm (by rfl) (fun s _ => Pe.refl _) ?_ ?_ (fun g i h => by rw [hg] at h; cases h)
  · intro _ _
    exact ⟨trivial, rfl, rfl, ⟨rfl, by kernel_rfl, blksN_row (by show 30 < 131072; decide) (zrM_bel2 hn) (by kernel_rfl), zbM_ok2 hn⟩, by show 131072 ≤ 8388608; decide, rfl, rfl⟩
  · intro s hs
    rw [hm]
    cases s with
    | l0 =>
      refine ⟨?_⟩
      show lrW 34 (eBW (.slc 30 0 n n false 1)) ⟨mkB (zbM rc n n) ((30, .row (zrM rc n n) 22 true []) :: pW), 131072⟩ [true, false, false] _
      refine round_use2 good1.spl (fun Kv => lr34e (zbM rc n n) n (slW n n) (zrM rc n n) (zrM rc n (n + 1)) Kv) ?_
      refine bcase_tt (dcq_lt (by simp only [Int.ofNat_eq_natCast]; omega)) (apW_ok (zrM_len ..) (by omega) ?_)
      intro env h ds ho
      exact (la131072_131072 (rc := rc) (q := n) (i := n) (by omega) (by rw [slW_hi (Nat.le_refl n), zn_eq]; omega) (E := eBW (.slc 131073 0 (n + 1) (n + 1) false 1)) rfl rfl (row := [.int .i64 (Int.ofNat 1), .int .i64 (Int.ofNat 0)]) (m := 2) (by unfold rowI; rw [hrc n (Nat.le_refl _)]; rfl) (by rw [hrc n (Nat.le_refl _)]; rfl) ho).elim fun σ ab => ⟨.l1 (n + 1), σ, ⟨Nat.le_refl _, by omega⟩, (by show 1000 - (n + 1) < 1000 + 1; omega), rfl, ab⟩
    | l1 i =>
      obtain ⟨h1, h2⟩ := hs
      by_cases hlt : i < 1000
      · refine ⟨?_⟩
        show lrW 34 (eBW (.slc 131073 0 i i false 1)) ⟨mkB (zbM rc n i) ((131073, .row (zrM rc n i) 22 true []) :: pW), 8388608⟩ (cond (Nat.ble (i + 1) 1000) [true, false, false] [false]) _
        rw [ble_t hlt]
        refine round_use2 good1.spl (fun Kv => lr34s131072 (zbM rc n i) i (slW n i) (zrM rc n i) (zrM rc n (i + 1)) Kv) ?_
        refine bcase_tt (dcq_lt (by simp only [Int.ofNat_eq_natCast]; omega)) (apW_ok (zrM_len ..) (by omega) ?_)
        intro env h ds ho
        exact (la131072_8388608 (rc := rc) (q := n) (i := i) (by omega) (by rw [slW_hi (by omega), zn_eq]; omega) (E := eBW (.slc 131073 0 (i + 1) (i + 1) false 1)) rfl rfl (row := [.int .i64 (Int.ofNat 1), .int .i64 (Int.ofNat 0)]) (m := 2) (by unfold rowI; rw [hrc i (by omega)]; rfl) (by rw [hrc i (by omega)]; rfl) ho).elim fun σ ab => ⟨.l1 (i + 1), σ, ⟨by omega, hlt⟩, (by show 1000 - (i + 1) < 1000 - i; omega), rfl, ab⟩
      · have hin : i = 1000 := by omega
        subst hin
        refine ⟨?_⟩
        show lrW 34 (eBW (.slc 131073 0 1000 1000 false 1)) ⟨mkB (zbM rc n 1000) ((131073, .row (zrM rc n 1000) 22 true []) :: pW), 8388608⟩ [false] _
        refine round_use2 good1.spl (fun Kv => lx34x131072 (zbM rc n 1000) 1000 (zrM rc n 1000) Kv) ?_
        refine bcase_tt (dcq_ge (by omega)) ?_
        intro env h ds ho
        exact (lxA131072 (rc := rc) (q := n) (n := 1000) (by omega) (E := eBW (.slc 131073 0 1000 1000 false 1)) rfl rfl ho).elim fun σ ab => ⟨σ, rfl, ab⟩
def LW.ok30f : LW → Prop
  | .l0 => True
  | .l1 i => 1 ≤ i ∧ i ≤ 1001
def LW.st30f (rc : Nat → List Int) : LW → ZS
  | .l0 => ls0W (eBW .nils)
  | .l1 i => lsW rc 0 131073 8388608 i (eBW (.slc 131073 0 i i false 1))
def LW.dr30f : LW → List Bool
  | .l0 => []
  | .l1 i => cond (Nat.ble (i + 1) 1001) [true, false, false] [false]
def lc30f (rc : Nat → List Int) : LCon := lcZ (S0 := Unit) (fun _ => True) (lmap (fun p => p.1) (ls0W (eBW .nils)).E) (lmap (fun p => p.1) (ls0W (eBW .nils)).B) (fun _ => ls0W (eBW .nils)) (fun _ => (.ext 3, lsW rc 0 131073 8388608 1001 (eBW (.slc 131073 0 1001 1001 false 1))))
theorem loop30f_good {C : Cfg} (G : X.Good C Tryz.prog) (hg : C.gl = fun _ => none) (hm : C.mask 8 = mask 8) {rc : Nat → List Int} (hrc : ∀ j, 0 ≤ j → rc j = [Int.ofNat 500]) : X.Good (C.addLc 8 30 (lc30f rc)) Tryz.prog := by
  refine G.addZR good1 (by rw [hg]; rfl) (S := LW) LW.dr30f (n0 := 15) (ι := fun _ => .l0) (ok := LW.ok30f) (St := LW.st30f rc) (fun s => (LW.st30f rc s).E) (μ := LW.mu 1001) (fin := fun _ => (.ext 3, lsW rc 0 131073 8388608 1001 (eBW (.slc 131073 0 1001 1001 false 1)))) (fuel := F) hm.symm (by rfl) (fun s _ => Pe.refl _) ?_ ?_ (fun g i h => by rw [hg] at h; cases h)
  · intro _ _
    exact ⟨trivial, rfl, rfl, ⟨rfl, by kernel_rfl, by kernel_rfl, fun x k h => by cases h⟩, by show 15 ≤ 8388608; decide, rfl, rfl⟩
  · intro s hs
    rw [hm]
    cases s with
    | l0 =>
      refine ⟨?_⟩
      show lrW 30 (eBW .nils) ⟨mkB T.leaf pW, 15⟩ [] _
      refine round_use2 good1.spl (fun Kv => lr30f (slW 0 0) (zrM rc 0 1) Kv) ?_
      intro env h ds ho
      exact (la15_15 (rc := rc) (q := 0) (i := 0) (by omega) (zn_15 0 0) (E := eBW (.slc 131073 0 1 1 false 1)) rfl rfl (row := [.int .i64 (Int.ofNat 500)]) (m := 1) (by unfold rowI; rw [hrc 0 (Nat.le_refl _)]; rfl) (by rw [hrc 0 (Nat.le_refl _)]; rfl) ho).elim fun σ ab => ⟨.l1 1, σ, ⟨Nat.le_refl _, by omega⟩, (by show 1001 - 1 < 1001 + 1; omega), rfl, ab⟩
    | l1 i =>
      obtain ⟨h1, h2⟩ := hs
      by_cases hlt : i < 1001
      · refine ⟨?_⟩
        show lrW 30 (eBW (.slc 131073 0 i i false 1)) ⟨mkB (zbM rc 0 i) ((131073, .row (zrM rc 0 i) 22 true []) :: pW), 8388608⟩ (cond (Nat.ble (i + 1) 1001) [true, false, false] [false]) _
        rw [ble_t hlt]
        refine round_use2 good1.spl (fun Kv => lr30s15 (zbM rc 0 i) i (slW 0 i) (zrM rc 0 i) (zrM rc 0 (i + 1)) Kv) ?_
        refine bcase_tt (dcq_lt (by simp only [Int.ofNat_eq_natCast]; omega)) (apW_ok (zrM_len ..) (by omega) ?_)
        intro env h ds ho
        exact (la15_8388608 (rc := rc) (q := 0) (i := i) (by omega) (zn_15 0 i) (E := eBW (.slc 131073 0 (i + 1) (i + 1) false 1)) rfl rfl (row := [.int .i64 (Int.ofNat 500)]) (m := 1) (by unfold rowI; rw [hrc i (by omega)]; rfl) (by rw [hrc i (by omega)]; rfl) ho).elim fun σ ab => ⟨.l1 (i + 1), σ, ⟨by omega, hlt⟩, (by show 1001 - (i + 1) < 1001 - i; omega), rfl, ab⟩
      · have hin : i = 1001 := by omega
        subst hin
        refine ⟨?_⟩
        show lrW 30 (eBW (.slc 131073 0 1001 1001 false 1)) ⟨mkB (zbM rc 0 1001) ((131073, .row (zrM rc 0 1001) 22 true []) :: pW), 8388608⟩ [false] _
        refine round_use2 good1.spl (fun Kv => lx30x15 (zbM rc 0 1001) 1001 (zrM rc 0 1001) Kv) ?_
        refine bcase_tt (dcq_ge (by omega)) ?_
        intro env h ds ho
        exact (lxA15 (rc := rc) (q := 0) (n := 1001) (by omega) (E := eBW (.slc 131073 0 1001 1001 false 1)) rfl rfl ho).elim fun σ ab => ⟨σ, rfl, ab⟩
def LW.ok30e (n : Nat) : LW → Prop
  | .l0 => True
  | .l1 i => n + 1 ≤ i ∧ i ≤ 1001
def LW.st30e (rc : Nat → List Int) (n : Nat) : LW → ZS
  | .l0 => lsW rc n 30 131072 n (eBW (.slc 30 0 n n false 1))
  | .l1 i => lsW rc n 131073 8388608 i (eBW (.slc 131073 0 i i false 1))
def LW.dr30e : LW → List Bool
  | .l0 => [true, false, false]
  | .l1 i => cond (Nat.ble (i + 1) 1001) [true, false, false] [false]
def lc30e (rc : Nat → List Int) (n : Nat) : LCon := lcZ (S0 := Unit) (fun _ => True) (lmap (fun p => p.1) (lsW rc n 30 131072 n (eBW (.slc 30 0 n n false 1))).E) (lmap (fun p => p.1) (lsW rc n 30 131072 n (eBW (.slc 30 0 n n false 1))).B) (fun _ => lsW rc n 30 131072 n (eBW (.slc 30 0 n n false 1))) (fun _ => (.ext 3, lsW rc n 131073 8388608 1001 (eBW (.slc 131073 0 1001 1001 false 1))))
theorem loop30e_good {C : Cfg} (G : X.Good C Tryz.prog) (hg : C.gl = fun _ => none) (hm : C.mask 8 = mask 8) {rc : Nat → List Int} (n : Nat) (hn1 : 1 ≤ n) (hn : n ≤ 30) (hrc : ∀ j, n ≤ j → rc j = [Int.ofNat 500]) : X.Good (C.addLc 8 30 (lc30e rc n)) Tryz.prog := by
  refine G.addZR good1 (by rw [hg]; rfl) (S := LW) LW.dr30e (n0 := 131072) (ι := fun _ => .l0) (ok := LW.ok30e n) (St := LW.st30e rc n) (fun s => (LW.st30e rc n s).E) (μ := LW.mu 1001) (fin := fun _ => (.ext 3, lsW rc n 131073 8388608 1001 (eBW (.slc 131073 0 1001 1001 false 1)))) (fuel := F) hm.symm (by rfl) (fun s _ => Pe.refl _) ?_ ?_ (fun g i h => by rw [hg] at h; cases h)
  · intro _ _
    exact ⟨trivial, rfl, rfl, ⟨rfl, by kernel_rfl, blksN_row (by show 30 < 131072; decide) (zrM_bel2 hn) (by kernel_rfl), zbM_ok2 hn⟩, by show 131072 ≤ 8388608; decide, rfl, rfl⟩
  · intro s hs
    rw [hm]
    cases s with
    | l0 =>
      refine ⟨?_⟩
      show lrW 30 (eBW (.slc 30 0 n n false 1)) ⟨mkB (zbM rc n n) ((30, .row (zrM rc n n) 22 true []) :: pW), 131072⟩ [true, false, false] _
      refine round_use2 good1.spl (fun Kv => lr30e (zbM rc n n) n (slW n n) (zrM rc n n) (zrM rc n (n + 1)) Kv) ?_
      refine bcase_tt (dcq_lt (by simp only [Int.ofNat_eq_natCast]; omega)) (apW_ok (zrM_len ..) (by omega) ?_)
      intro env h ds ho
      exact (la131072_131072 (rc := rc) (q := n) (i := n) (by omega) (by rw [slW_hi (Nat.le_refl n), zn_eq]; omega) (E := eBW (.slc 131073 0 (n + 1) (n + 1) false 1)) rfl rfl (row := [.int .i64 (Int.ofNat 500)]) (m := 1) (by unfold rowI; rw [hrc n (Nat.le_refl _)]; rfl) (by rw [hrc n (Nat.le_refl _)]; rfl) ho).elim fun σ ab => ⟨.l1 (n + 1), σ, ⟨Nat.le_refl _, by omega⟩, (by show 1001 - (n + 1) < 1001 + 1; omega), rfl, ab⟩
    | l1 i =>
      obtain ⟨h1, h2⟩ := hs
      by_cases hlt : i < 1001
      · refine ⟨?_⟩
        show lrW 30 (eBW (.slc 131073 0 i i false 1)) ⟨mkB (zbM rc n i) ((131073, .row (zrM rc n i) 22 true []) :: pW), 8388608⟩ (cond (Nat.ble (i + 1) 1001) [true, false, false] [false]) _
        rw [ble_t hlt]
        refine round_use2 good1.spl (fun Kv => lr30s131072 (zbM rc n i) i (slW n i) (zrM rc n i) (zrM rc n (i + 1)) Kv) ?_
        refine bcase_tt (dcq_lt (by simp only [Int.ofNat_eq_natCast]; omega)) (apW_ok (zrM_len ..) (by omega) ?_)
        intro env h ds ho
        exact (la131072_8388608 (rc := rc) (q := n) (i := i) (by omega) (by rw [slW_hi (by omega), zn_eq]; omega) (E := eBW (.slc 131073 0 (i + 1) (i + 1) false 1)) rfl rfl (row := [.int .i64 (Int.ofNat 500)]) (m := 1) (by unfold rowI; rw [hrc i (by omega)]; rfl) (by rw [hrc i (by omega)]; rfl) ho).elim fun σ ab => ⟨.l1 (i + 1), σ, ⟨by omega, hlt⟩, (by show 1001 - (i + 1) < 1001 - i; omega), rfl, ab⟩
      · have hin : i = 1001 := by omega
        subst hin
        refine ⟨?_⟩
        show lrW 30 (eBW (.slc 131073 0 1001 1001 false 1)) ⟨mkB (zbM rc n 1001) ((131073, .row (zrM rc n 1001) 22 true []) :: pW), 8388608⟩ [false] _
        refine round_use2 good1.spl (fun Kv => lx30x131072 (zbM rc n 1001) 1001 (zrM rc n 1001) Kv) ?_
        refine bcase_tt (dcq_ge (by omega)) ?_
        intro env h ds ho
        exact (lxA131072 (rc := rc) (q := n) (n := 1001) (by omega) (E := eBW (.slc 131073 0 1001 1001 false 1)) rfl rfl ho).elim fun σ ab => ⟨σ, rfl, ab⟩
end
end Go.Proofs.YtkfhjobebhdpoaaGreat

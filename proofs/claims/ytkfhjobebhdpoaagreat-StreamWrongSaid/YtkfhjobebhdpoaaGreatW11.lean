/- Stream: StreamWrong answers true. -/
import Derived.Test.YtkfhjobebhdpoaaGreatW10
import Derived.Test.YtkfhjobebhdpoaaGreatG
set_option linter.unusedVariables false
set_option autoImplicit false
set_option maxRecDepth 1000000
set_option maxHeartbeats 2000000
set_option linter.unusedVariables false
namespace Go.Proofs.YtkfhjobebhdpoaaGreat
noncomputable section
open Go.X
theorem ap2W_ok {cs : List AV} {i : Nat} {t : Prop} (hc : cs.length = i) (hi : i ≤ 1001) (h : t) : ap2W cs i t := by
  have e0 : dcq false (Nat.ble (Nat.add i 2) i) = true := by
    have : Nat.ble (Nat.add i 2) i = false := by
      cases hb : Nat.ble (Nat.add i 2) i with
      | false => rfl
      | true => have := Nat.le_of_ble_eq_true hb; have : i + 2 ≤ i := this; omega
    rw [this]; rfl
  have e1 : Nat.beq (llen (ltake (ldrop cs 0) (Nat.mul i 1))) (Nat.mul i 1) = true := by
    rw [llen_eq, ltake_eq, ldrop_eq, List.drop_zero, List.length_take, hc, natBeq_iff]
    show min (i * 1) i = i * 1; omega
  have e2 : Nat.ble (Nat.add i 2) 9223372036854775807 = true := Nat.ble_eq_true_of_le (by show i + 2 ≤ _; omega)
  have e3 : Nat.ble (Nat.mul (Nat.add i 2) 24) 140737488355328 = true := Nat.ble_eq_true_of_le (by show (i + 2) * 24 ≤ _; omega)
  exact bcase_tt e0 (bcase_tt (by unfold apC2; rw [e1, e2, e3]; rfl) (bcase_any h h))
theorem zW_cases (w : Int) : zW w = 0 ∨ zW w = 1 ∨ zW w = 2 ∨ zW w = 3 ∨ zW w = 4 ∨ zW w = 5 ∨ zW w = 6 ∨ zW w = 7 := by
  have h : ∃ m : Nat, m ≤ 7 ∧ andV .i64 w 7 = (m : Int) := by
    refine ⟨(BitVec.ofInt 64 w &&& BitVec.ofInt 64 7).toNat, ?_, rfl⟩
    rw [BitVec.toNat_and]
    exact Nat.le_trans Nat.and_le_right (by decide)
  obtain ⟨m, hm, e⟩ := h
  have : zW w = (m : Int) := by
    unfold zW
    rw [wrapF_eq, e]
    have : m = 0 ∨ m = 1 ∨ m = 2 ∨ m = 3 ∨ m = 4 ∨ m = 5 ∨ m = 6 ∨ m = 7 := by omega
    rcases this with rfl | rfl | rfl | rfl | rfl | rfl | rfl | rfl <;> decide
  omega
theorem CL1W_good : X.Good CL1W Tryz.prog :=
  (good1.addCon 12 conTrue conTrue_spl (conTrue_ok alive_true)).addCon 13 conReadyW (fun args h ds K hk => ⟨_, _, _, hk.2, by show h.next ≤ h.next + llen gWt; omega, fun K' hk' => ⟨hk.1, hk'⟩⟩) (fun args h ds K hk => by obtain ⟨rfl, hk⟩ := hk; exact readyWt_ok hk)
theorem zrM_eq {rc : Nat → List Int} {l : Nat → Int × Bool × Nat} {q n : Nat} (h : ∀ j, j < n → rc j = [(l j).1, bi (l j).2.1] ∧ (l j).2.2 = slW q j) : zrM rc q n = zrR l n := by
  unfold zrM zrR
  refine List.map_congr_left fun j hj => ?_
  obtain ⟨a, b⟩ := h j (List.mem_range.1 hj)
  rw [a, b]; rfl
theorem zin_of {rc : Nat → List Int} {l : Nat → Int × Bool × Nat} {q n : Nat} (hn : n ≤ 1000) (h : ∀ j, j < n → rc j = [(l j).1, bi (l j).2.1] ∧ (l j).2.2 = slW q j) : ZinW l n (zbM rc q n) := by
  refine ⟨fun j hj => ?_, fun j hj => ?_, fun x k hk => ?_⟩
  · obtain ⟨a, b⟩ := h j hj
    rw [b, (zbM_get rc q n).1 j hj]
    unfold rowI
    rw [a]; rfl
  · rw [(h j hj).2]
    have := slW_le q j; omega
  · obtain ⟨⟨j, a, e⟩, b⟩ := (zbM_get rc q n).2 x k hk
    have := slW_le q j
    exact ⟨by omega, b⟩
theorem conRunG_good {C : Cfg} (G : X.Good C Tryz.prog) (hgl : C.gl = fun _ => none) {rc : Nat → List Int} {l : Nat → Int × Bool × Nat} {q n : Nat} (hn1 : 1 ≤ n) (hn : n ≤ 1000) (h : ∀ j, j < n → rc j = [(l j).1, bi (l j).2.1] ∧ (l j).2.2 = slW q j) (hsm : ∀ j, j < n → -128 ≤ (l j).1 ∧ (l j).1 ≤ 127) :
    X.Good (C.addCon 14 (conRunG n (zbM rc q n) (zrM rc q n) (finW l n (zbM rc q n)).h)) Tryz.prog := by
  refine G.addCon 14 _ (fun args h' ds K hk => ⟨_, _, _, hk.2, by rw [hk.1.2]; show 8388608 ≤ 16777216; decide, fun K' hk' => ⟨hk.1, hk'⟩⟩) (fun args h' ds K hk => ?_)
  obtain ⟨⟨rfl, rfl⟩, hk⟩ := hk
  rw [zrM_eq h, hgl]
  exact runW_ok hn1 hn (zin_of hn h) hsm hk
/-- the law answers true -/
def OkW (n w : Int) : Prop := ∃ C ds, X.Good C Tryz.prog ∧ C.gl = (fun _ => none) ∧ Ran (xfun C Tryz.prog (xcode C Tryz.prog F) 8 [.int .i64 n, .int .i64 w] hLW ds (fun v _ _ => v = .bool true))
theorem hdW9_ok {n : Nat} {t : Prop} (hn : n ≤ 30) (h : t) : hdW9 n t := bcase_tt (dcq_ge (by simp only [Int.ofNat_eq_natCast]; omega)) (bcase_tt (dcq_ge (by simp only [Int.ofNat_eq_natCast]; omega)) ⟨rfl, h⟩)
theorem lpW9_ok {n : Nat} {w : Int} {t : Prop} (h : t) : lpW9 n w t := ⟨(), trivial, rfl, h⟩
theorem neg_run (k : Nat) (w : Int) : OkW (.negSucc k) w := ⟨CL1W, [], CL1W_good, rfl, ⟨Eq.mpr (β := AV.bool true = .bool true) (by kernel_rfl) rfl⟩⟩
theorem big_key (n : Nat) (w : Int) (K : AV → Prop) : xfun CL1W Tryz.prog (xcode CL1W Tryz.prog F) 8 [.int .i64 (Int.ofNat n), .int .i64 w] hLW [false, true] (fun v _ _ => K v) = bcase (dcq false (ltI (Int.ofNat n) (Int.ofNat 0))) (bcase (dcq true (ltI (Int.ofNat 30) (Int.ofNat n))) (K (.bool true)) False) False := by kernel_rfl
theorem big_run {n : Nat} (hn : 30 < n) (w : Int) : OkW (Int.ofNat n) w := ⟨CL1W, [false, true], CL1W_good, rfl, ⟨Eq.mpr (big_key n w (fun v => v = .bool true)) (bcase_tt (dcq_ge (by simp only [Int.ofNat_eq_natCast]; omega)) (bcase_tt (dcq_lt (by simp only [Int.ofNat_eq_natCast]; omega)) rfl))⟩⟩
def rcA : Nat → List Int := fun j => [Int.ofNat j, Int.ofNat 1]
def rcB (n : Nat) (r : List Int) : Nat → List Int := fun j => if j < n then [Int.ofNat j, Int.ofNat 1] else r
theorem rcB_lo {n : Nat} {r : List Int} {j : Nat} (h : j < n) : rcB n r j = [Int.ofNat j, Int.ofNat 1] := if_pos h
theorem rcB_hi {n : Nat} {r : List Int} {j : Nat} (h : n ≤ j) : rcB n r j = r := if_neg (by omega)
def lA (n : Nat) : Nat → Int × Bool × Nat := fun j => ((j : Int), true, slW n j)
def lB (n : Nat) : Nat → Int × Bool × Nat := fun j => (if j < n then (j : Int) else 1, decide (j < n), slW n j)
theorem lB_ok {n j : Nat} : rcB n [Int.ofNat 1, Int.ofNat 0] j = [(lB n j).1, bi (lB n j).2.1] ∧ (lB n j).2.2 = slW n j := by
  refine ⟨?_, rfl⟩
  by_cases h : j < n
  · rw [rcB_lo h]
    show _ = [if j < n then (j : Int) else 1, bi (decide (j < n))]
    rw [if_pos h, decide_eq_true h]; rfl
  · rw [rcB_hi (by omega)]
    show _ = [if j < n then (j : Int) else 1, bi (decide (j < n))]
    rw [if_neg h, decide_eq_false h]; rfl
theorem lB_sm {n j : Nat} (hn : n ≤ 30) : -128 ≤ (lB n j).1 ∧ (lB n j).1 ≤ 127 := by
  show -128 ≤ (if j < n then (j : Int) else 1) ∧ (if j < n then (j : Int) else 1) ≤ 127
  split <;> omega
theorem law0W_run {n : Nat} (hn1 : 1 ≤ n) (hn : n ≤ 30) {w : Int} (hz : zW w = 0) : OkW (Int.ofNat n) w := by
  refine ⟨CK0 rcA n w, [false, false, false, true], loop8A_good (CL1W_good.addCon 14 _ (conRun0W_spl n (zbM rcA n n) (zrM rcA n n)) (fun args h ds K hk => conRun0W_ok (rc := rcA) (q := n) (i := n) (by omega) args h ds K hk)) rfl rfl w hn1 hn (fun j _ => rfl), rfl, ?_⟩
  exact ⟨Eq.mpr (law0W_key rcA n w (fun v => v = .bool true)) (hdW9_ok hn (lpW9_ok ⟨zW w, rfl, (bcase_tt (dcq_eq (by simp only [Int.ofNat_eq_natCast]; omega)) ⟨⟨rfl, rfl, rfl, rfl⟩, rfl⟩)⟩))⟩
theorem law1W_run {n : Nat} (hn1 : 1 ≤ n) (hn : n ≤ 30) {w : Int} (hz : zW w = 1) : OkW (Int.ofNat n) w := by
  refine ⟨CK1 rcA n w, [false, false, false, false, true, false, false], loop8A_good (CL1W_good.addCon 14 _ (conRun1W_spl n (zbM rcA n n) (zrM rcA n n)) (fun args h ds K hk => conRun1W_ok (rc := rcA) hn (fun j _ => rfl) args h ds K hk)) rfl rfl w hn1 hn (fun j _ => rfl), rfl, ?_⟩
  exact ⟨Eq.mpr (law1W_key rcA n w (fun v => v = .bool true)) (hdW9_ok hn (lpW9_ok ⟨zW w, rfl, (bcase_tt (dcq_ne (by simp only [Int.ofNat_eq_natCast]; omega)) (bcase_tt (dcq_eq (by simp only [Int.ofNat_eq_natCast]; omega)) (apW_ok (zrM_len ..) (by omega) ⟨⟨rfl, rfl, rfl, rfl⟩, rfl⟩)))⟩))⟩
theorem law2W_run {n : Nat} (hn1 : 1 ≤ n) (hn : n ≤ 30) {w : Int} (hz : zW w = 2) : OkW (Int.ofNat n) w := by
  refine ⟨CK2 rcA n w, [false, false, false, false, false, true, false, false], loop8A_good (CL1W_good.addCon 14 _ (conRun2W_spl n (zbM rcA n n) (zrM rcA n n)) (fun args h ds K hk => conRun2W_ok (rc := rcA) hn (fun j _ => rfl) args h ds K hk)) rfl rfl w hn1 hn (fun j _ => rfl), rfl, ?_⟩
  exact ⟨Eq.mpr (law2W_key rcA n w (fun v => v = .bool true)) (hdW9_ok hn (lpW9_ok ⟨zW w, rfl, (bcase_tt (dcq_ne (by simp only [Int.ofNat_eq_natCast]; omega)) (bcase_tt (dcq_ne (by simp only [Int.ofNat_eq_natCast]; omega)) (bcase_tt (dcq_eq (by simp only [Int.ofNat_eq_natCast]; omega)) (ap2W_ok (zrM_len ..) (by omega) ⟨⟨rfl, rfl, rfl, rfl⟩, rfl⟩))))⟩))⟩
theorem law3W_run {n : Nat} (hn1 : 1 ≤ n) (hn : n ≤ 30) {w : Int} (hz : zW w = 3) : OkW (Int.ofNat n) w := by
  refine ⟨CK3 rcA n w, [false, false, false, false, false, false, true, false, false], loop8A_good (CL1W_good.addCon 14 _ (conRun3W_spl n (zbM rcA n n) (zrM rcA n n)) (fun args h ds K hk => conRun3W_ok (rc := rcA) hn (fun j _ => rfl) args h ds K hk)) rfl rfl w hn1 hn (fun j _ => rfl), rfl, ?_⟩
  exact ⟨Eq.mpr (law3W_key rcA n w (fun v => v = .bool true)) (hdW9_ok hn (lpW9_ok ⟨zW w, rfl, (bcase_tt (dcq_ne (by simp only [Int.ofNat_eq_natCast]; omega)) (bcase_tt (dcq_ne (by simp only [Int.ofNat_eq_natCast]; omega)) (bcase_tt (dcq_ne (by simp only [Int.ofNat_eq_natCast]; omega)) (bcase_tt (dcq_eq (by simp only [Int.ofNat_eq_natCast]; omega)) (ap2W_ok (zrM_len ..) (by omega) ⟨⟨rfl, rfl, rfl, rfl⟩, rfl⟩)))))⟩))⟩
theorem law4W_run {n : Nat} (hn1 : 1 ≤ n) (hn : n ≤ 30) {w : Int} (hz : zW w = 4) : OkW (Int.ofNat n) w := by
  refine ⟨CK4 rcA n w, [false, false, false, false, false, false, false, true, false, false], loop8A_good (CL1W_good.addCon 14 _ (conRun4W_spl n (zbM rcA n n) (zrM rcA n n)) (fun args h ds K hk => conRun4W_ok (rc := rcA) hn (fun j _ => rfl) args h ds K hk)) rfl rfl w hn1 hn (fun j _ => rfl), rfl, ?_⟩
  exact ⟨Eq.mpr (law4W_key rcA n w (fun v => v = .bool true)) (hdW9_ok hn (lpW9_ok ⟨zW w, rfl, (bcase_tt (dcq_ne (by simp only [Int.ofNat_eq_natCast]; omega)) (bcase_tt (dcq_ne (by simp only [Int.ofNat_eq_natCast]; omega)) (bcase_tt (dcq_ne (by simp only [Int.ofNat_eq_natCast]; omega)) (bcase_tt (dcq_ne (by simp only [Int.ofNat_eq_natCast]; omega)) (bcase_tt (dcq_eq (by simp only [Int.ofNat_eq_natCast]; omega)) (apW_ok (zrM_len ..) (by omega) ⟨⟨rfl, rfl, rfl, rfl⟩, rfl⟩))))))⟩))⟩
theorem law5W_run {n : Nat} (hn1 : 1 ≤ n) (hn : n ≤ 30) {w : Int} (hz : zW w = 5) : OkW (Int.ofNat n) w := by
  refine ⟨CK5 (rcB n [Int.ofNat 500]) n w, [false, false, false, false, false, false, false, false, true], loop8B_good (loop30e_good (CL1W_good.addCon 14 _ (conRun5W_spl n (zbM (rcB n [Int.ofNat 500]) n 1001) (zrM (rcB n [Int.ofNat 500]) n 1001)) (fun args h ds K hk => conRun5W_ok (rc := (rcB n [Int.ofNat 500])) (q := n) (i := 1001) (by omega) args h ds K hk)) rfl rfl n hn1 hn (fun j h => rcB_hi h)) rfl rfl w hn1 hn (fun j h => rcB_lo h), rfl, ?_⟩
  exact ⟨Eq.mpr (law5W_key (rcB n [Int.ofNat 500]) n w (fun v => v = .bool true)) (hdW9_ok hn (lpW9_ok ⟨zW w, rfl, (bcase_tt (dcq_ne (by simp only [Int.ofNat_eq_natCast]; omega)) (bcase_tt (dcq_ne (by simp only [Int.ofNat_eq_natCast]; omega)) (bcase_tt (dcq_ne (by simp only [Int.ofNat_eq_natCast]; omega)) (bcase_tt (dcq_ne (by simp only [Int.ofNat_eq_natCast]; omega)) (bcase_tt (dcq_ne (by simp only [Int.ofNat_eq_natCast]; omega)) (bcase_tt (dcq_eq (by simp only [Int.ofNat_eq_natCast]; omega)) ⟨(), trivial, rfl, ⟨rfl, rfl, rfl, rfl⟩, rfl⟩))))))⟩))⟩
theorem law6W_run {n : Nat} (hn1 : 1 ≤ n) (hn : n ≤ 30) {w : Int} (hz : zW w = 6) : OkW (Int.ofNat n) w := by
  refine ⟨CK6 (rcB n [Int.ofNat 1, Int.ofNat 0]) n w (finW (lB n) 1000 (zbM (rcB n [Int.ofNat 1, Int.ofNat 0]) n 1000)).h, [false, false, false, false, false, false, false, false, false, true], loop8B_good (loop34e_good (conRunG_good CL1W_good rfl (rc := (rcB n [Int.ofNat 1, Int.ofNat 0])) (l := lB n) (q := n) (n := 1000) (by omega) (by omega) (fun j _ => lB_ok) (fun j _ => lB_sm hn)) rfl rfl n hn1 hn (fun j h => rcB_hi h)) rfl rfl w hn1 hn (fun j h => rcB_lo h), rfl, ?_⟩
  exact ⟨Eq.mpr (law6W_key (rcB n [Int.ofNat 1, Int.ofNat 0]) n w (finW (lB n) 1000 (zbM (rcB n [Int.ofNat 1, Int.ofNat 0]) n 1000)).h (fun v => v = .bool true)) (hdW9_ok hn (lpW9_ok ⟨zW w, rfl, (bcase_tt (dcq_ne (by simp only [Int.ofNat_eq_natCast]; omega)) (bcase_tt (dcq_ne (by simp only [Int.ofNat_eq_natCast]; omega)) (bcase_tt (dcq_ne (by simp only [Int.ofNat_eq_natCast]; omega)) (bcase_tt (dcq_ne (by simp only [Int.ofNat_eq_natCast]; omega)) (bcase_tt (dcq_ne (by simp only [Int.ofNat_eq_natCast]; omega)) (bcase_tt (dcq_ne (by simp only [Int.ofNat_eq_natCast]; omega)) (bcase_tt (dcq_eq (by simp only [Int.ofNat_eq_natCast]; omega)) ⟨(), trivial, rfl, ⟨rfl, rfl⟩, rfl⟩)))))))⟩))⟩
theorem law7W_run {n : Nat} (hn1 : 1 ≤ n) (hn : n ≤ 30) {w : Int} (hz : zW w = 7) : OkW (Int.ofNat n) w := by
  refine ⟨CK7 rcA n w (finW (lA n) n (zbM rcA n n)).h, [false, false, false, false, false, false, false, false, false, false], loop8A_good (conRunG_good CL1W_good rfl (rc := rcA) (l := lA n) (q := n) (n := n) hn1 (by omega) (fun j _ => ⟨rfl, rfl⟩) (fun j hj => by show -128 ≤ (j : Int) ∧ (j : Int) ≤ 127; omega)) rfl rfl w hn1 hn (fun j _ => rfl), rfl, ?_⟩
  exact ⟨Eq.mpr (law7W_key rcA n w (finW (lA n) n (zbM rcA n n)).h (fun v => v = .bool true)) (hdW9_ok hn (lpW9_ok ⟨zW w, rfl, (bcase_tt (dcq_ne (by simp only [Int.ofNat_eq_natCast]; omega)) (bcase_tt (dcq_ne (by simp only [Int.ofNat_eq_natCast]; omega)) (bcase_tt (dcq_ne (by simp only [Int.ofNat_eq_natCast]; omega)) (bcase_tt (dcq_ne (by simp only [Int.ofNat_eq_natCast]; omega)) (bcase_tt (dcq_ne (by simp only [Int.ofNat_eq_natCast]; omega)) (bcase_tt (dcq_ne (by simp only [Int.ofNat_eq_natCast]; omega)) (bcase_tt (dcq_ne (by simp only [Int.ofNat_eq_natCast]; omega)) ⟨⟨rfl, rfl⟩, bcase_tt (eqII _) rfl⟩)))))))⟩))⟩
theorem CN3_good : X.Good CN3 Tryz.prog :=
  CL1W_good.addCon 24 conAskN (fun args h ds K hk => ⟨_, _, _, hk.2, Nat.le_refl _, fun K' hk' => ⟨hk.1, hk'⟩⟩) (fun args h ds K hk => by
    obtain ⟨⟨rfl, h1, h2, h3⟩, hk⟩ := hk
    exact run_ro good0 rfl h1 h2 h3 (fun x k h => by cases h) (by kernel_rfl) (by kernel_rfl) (by kernel_rfl) (by kernel_rfl) askN_run hk)
theorem nil0W_run {w : Int} (hz : zW w = 0) : OkW (Int.ofNat 0) w := by
  refine ⟨CL1W, [false, false, false, false, true], CL1W_good, rfl, ?_⟩
  exact ⟨Eq.mpr (nil0W_key w (fun v => v = .bool true)) (bcase_tt rfl (bcase_tt rfl ⟨rfl, bcase_tt rfl ⟨zW w, rfl, (bcase_tt (dcq_eq (by simp only [Int.ofNat_eq_natCast]; omega)) rfl)⟩⟩))⟩
theorem nil1W_run {w : Int} (hz : zW w = 1) : OkW (Int.ofNat 0) w := by
  refine ⟨CL1W, [false, false, false, false, false, true], CL1W_good, rfl, ?_⟩
  exact ⟨Eq.mpr (nil1W_key w (fun v => v = .bool true)) (bcase_tt rfl (bcase_tt rfl ⟨rfl, bcase_tt rfl ⟨zW w, rfl, (bcase_tt (dcq_ne (by simp only [Int.ofNat_eq_natCast]; omega)) (bcase_tt (dcq_eq (by simp only [Int.ofNat_eq_natCast]; omega)) rfl))⟩⟩))⟩
theorem nil2W_run {w : Int} (hz : zW w = 2) : OkW (Int.ofNat 0) w := by
  refine ⟨CL1W, [false, false, false, false, false, false, true], CL1W_good, rfl, ?_⟩
  exact ⟨Eq.mpr (nil2W_key w (fun v => v = .bool true)) (bcase_tt rfl (bcase_tt rfl ⟨rfl, bcase_tt rfl ⟨zW w, rfl, (bcase_tt (dcq_ne (by simp only [Int.ofNat_eq_natCast]; omega)) (bcase_tt (dcq_ne (by simp only [Int.ofNat_eq_natCast]; omega)) (bcase_tt (dcq_eq (by simp only [Int.ofNat_eq_natCast]; omega)) rfl)))⟩⟩))⟩
theorem nil3W_run {w : Int} (hz : zW w = 3) : OkW (Int.ofNat 0) w := by
  refine ⟨CN3, [false, false, false, false, false, false, false, true], CN3_good, rfl, ?_⟩
  exact ⟨Eq.mpr (nil3W_key w (fun v => v = .bool true)) (bcase_tt rfl (bcase_tt rfl ⟨rfl, bcase_tt rfl ⟨zW w, rfl, (bcase_tt (dcq_ne (by simp only [Int.ofNat_eq_natCast]; omega)) (bcase_tt (dcq_ne (by simp only [Int.ofNat_eq_natCast]; omega)) (bcase_tt (dcq_ne (by simp only [Int.ofNat_eq_natCast]; omega)) (bcase_tt (dcq_eq (by simp only [Int.ofNat_eq_natCast]; omega)) ⟨⟨rfl, rfl, rfl, rfl⟩, rfl⟩))))⟩⟩))⟩
theorem nil4W_run {w : Int} (hz : zW w = 4) : OkW (Int.ofNat 0) w := by
  refine ⟨CL1W, [false, false, false, false, false, false, false, false, true], CL1W_good, rfl, ?_⟩
  exact ⟨Eq.mpr (nil4W_key w (fun v => v = .bool true)) (bcase_tt rfl (bcase_tt rfl ⟨rfl, bcase_tt rfl ⟨zW w, rfl, (bcase_tt (dcq_ne (by simp only [Int.ofNat_eq_natCast]; omega)) (bcase_tt (dcq_ne (by simp only [Int.ofNat_eq_natCast]; omega)) (bcase_tt (dcq_ne (by simp only [Int.ofNat_eq_natCast]; omega)) (bcase_tt (dcq_ne (by simp only [Int.ofNat_eq_natCast]; omega)) (bcase_tt (dcq_eq (by simp only [Int.ofNat_eq_natCast]; omega)) rfl)))))⟩⟩))⟩
theorem nil5W_run {w : Int} (hz : zW w = 5) : OkW (Int.ofNat 0) w := by
  refine ⟨CZ5 (fun _ => [Int.ofNat 500]), [false, false, false, false, false, false, false, false, false, true], loop30f_good (CL1W_good.addCon 14 _ (conRun5W_spl 0 (zbM (fun _ => [Int.ofNat 500]) 0 1001) (zrM (fun _ => [Int.ofNat 500]) 0 1001)) (fun args h ds K hk => conRun5W_ok (rc := (fun _ => [Int.ofNat 500])) (n := 0) (q := 0) (i := 1001) (by omega) args h ds K hk)) rfl rfl (fun j _ => rfl), rfl, ?_⟩
  exact ⟨Eq.mpr (nil5W_key (fun _ => [Int.ofNat 500]) w (fun v => v = .bool true)) (bcase_tt rfl (bcase_tt rfl ⟨rfl, bcase_tt rfl ⟨zW w, rfl, (bcase_tt (dcq_ne (by simp only [Int.ofNat_eq_natCast]; omega)) (bcase_tt (dcq_ne (by simp only [Int.ofNat_eq_natCast]; omega)) (bcase_tt (dcq_ne (by simp only [Int.ofNat_eq_natCast]; omega)) (bcase_tt (dcq_ne (by simp only [Int.ofNat_eq_natCast]; omega)) (bcase_tt (dcq_ne (by simp only [Int.ofNat_eq_natCast]; omega)) (bcase_tt (dcq_eq (by simp only [Int.ofNat_eq_natCast]; omega)) ⟨(), trivial, rfl, ⟨rfl, rfl, rfl, rfl⟩, rfl⟩))))))⟩⟩))⟩
theorem nil6W_run {w : Int} (hz : zW w = 6) : OkW (Int.ofNat 0) w := by
  refine ⟨CZ6 (rcB 0 [Int.ofNat 1, Int.ofNat 0]) (finW (lB 0) 1000 (zbM (rcB 0 [Int.ofNat 1, Int.ofNat 0]) 0 1000)).h, [false, false, false, false, false, false, false, false, false, false, true], loop34f_good (conRunG_good CL1W_good rfl (rc := (rcB 0 [Int.ofNat 1, Int.ofNat 0])) (l := lB 0) (q := 0) (n := 1000) (by omega) (by omega) (fun j _ => lB_ok) (fun j _ => lB_sm (by omega))) rfl rfl (fun j h => rcB_hi h), rfl, ?_⟩
  exact ⟨Eq.mpr (nil6W_key (rcB 0 [Int.ofNat 1, Int.ofNat 0]) w (finW (lB 0) 1000 (zbM (rcB 0 [Int.ofNat 1, Int.ofNat 0]) 0 1000)).h (fun v => v = .bool true)) (bcase_tt rfl (bcase_tt rfl ⟨rfl, bcase_tt rfl ⟨zW w, rfl, (bcase_tt (dcq_ne (by simp only [Int.ofNat_eq_natCast]; omega)) (bcase_tt (dcq_ne (by simp only [Int.ofNat_eq_natCast]; omega)) (bcase_tt (dcq_ne (by simp only [Int.ofNat_eq_natCast]; omega)) (bcase_tt (dcq_ne (by simp only [Int.ofNat_eq_natCast]; omega)) (bcase_tt (dcq_ne (by simp only [Int.ofNat_eq_natCast]; omega)) (bcase_tt (dcq_ne (by simp only [Int.ofNat_eq_natCast]; omega)) (bcase_tt (dcq_eq (by simp only [Int.ofNat_eq_natCast]; omega)) ⟨(), trivial, rfl, ⟨rfl, rfl⟩, rfl⟩)))))))⟩⟩))⟩
theorem nil7W_run {w : Int} (hz : zW w = 7) : OkW (Int.ofNat 0) w := by
  refine ⟨CL1W, [false, false, false, false, false, false, false, false, false, false, false], CL1W_good, rfl, ?_⟩
  exact ⟨Eq.mpr (nil7W_key w (fun v => v = .bool true)) (bcase_tt rfl (bcase_tt rfl ⟨rfl, bcase_tt rfl ⟨zW w, rfl, (bcase_tt (dcq_ne (by simp only [Int.ofNat_eq_natCast]; omega)) (bcase_tt (dcq_ne (by simp only [Int.ofNat_eq_natCast]; omega)) (bcase_tt (dcq_ne (by simp only [Int.ofNat_eq_natCast]; omega)) (bcase_tt (dcq_ne (by simp only [Int.ofNat_eq_natCast]; omega)) (bcase_tt (dcq_ne (by simp only [Int.ofNat_eq_natCast]; omega)) (bcase_tt (dcq_ne (by simp only [Int.ofNat_eq_natCast]; omega)) (bcase_tt (dcq_ne (by simp only [Int.ofNat_eq_natCast]; omega)) rfl)))))))⟩⟩))⟩
theorem allW (n w : Int) : OkW n w := by
  cases n with
  | negSucc k => exact neg_run k w
  | ofNat n =>
    by_cases h : 30 < n
    · exact big_run h w
    · rcases Nat.eq_zero_or_pos n with rfl | hp
      · rcases zW_cases w with h | h | h | h | h | h | h | h
        · exact nil0W_run h
        · exact nil1W_run h
        · exact nil2W_run h
        · exact nil3W_run h
        · exact nil4W_run h
        · exact nil5W_run h
        · exact nil6W_run h
        · exact nil7W_run h
      · rcases zW_cases w with h | h | h | h | h | h | h | h
        · exact law0W_run hp (by omega) h
        · exact law1W_run hp (by omega) h
        · exact law2W_run hp (by omega) h
        · exact law3W_run hp (by omega) h
        · exact law4W_run hp (by omega) h
        · exact law5W_run hp (by omega) h
        · exact law6W_run hp (by omega) h
        · exact law7W_run hp (by omega) h
end
end Go.Proofs.YtkfhjobebhdpoaaGreat

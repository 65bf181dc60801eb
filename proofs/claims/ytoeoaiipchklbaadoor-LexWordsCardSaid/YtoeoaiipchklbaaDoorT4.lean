/- LexWords: every word. -/
import Derived.Test.YtoeoaiipchklbaaDoorT
set_option linter.unusedVariables false
set_option autoImplicit false
set_option linter.unusedVariables false
set_option maxRecDepth 1000000
set_option maxHeartbeats 1000000
namespace Go.Proofs.YtoeoaiipchklbaaDoor
noncomputable section
open Go.X
/-- LexWords at a word answers true -/
def WordOK (i : Int) (a : Nat) : Prop := ∃ n0 v0 cells0, n0 ≤ 65536 ∧ toks n0 v0 0 [] 0 = ⟨true, 0, 0, cells0, 4⟩ ∧ ∀ e, Ran (wordsR e n0 v0 cells0 i (.ofNat a) (fun v => v = .bool true))
theorem tw0 (a : Nat) : tokS a 16 134773517352134197944223425832126017390 17 0 [] 0 = ⟨true, 0, 0, (wC 4 1701080942 517097156462 435476721247 a), 4⟩ := by kernel_rfl
theorem wr0 (e : TypeId) {a : Nat} (ha : a ≤ 50) : Ran (wordsR e (nW a 4) (vW a 4 1701080942) (wC 4 1701080942 517097156462 435476721247 a) (.ofNat 0) (.ofNat a) (fun v => v = .bool true)) := by
  have h := words0 e (nW a 4) (vW a 4 1701080942) a (fun v => v = .bool true)
  refine ⟨?_⟩
  rw [h]
  refine bcase_mk (fun _ => rfl) fun _ => ?_
  refine bcase_t (oblN ha) (bcase_t (oblR a) ?_)
  refine bcase_t (Nat.ble_eq_true_of_le ?_) ?_
  · show a + 4 ≤ _; omega
  refine bcase_t (Nat.ble_eq_true_of_le ?_) ?_
  · show a + 4 + 1 ≤ _; omega
  refine bcase_t (Nat.ble_eq_true_of_le ?_) ?_
  · show a + 4 + 1 + 4 ≤ _; omega
  refine bcase_t (Nat.ble_eq_true_of_le ?_) ?_
  · show a + 4 + 1 + 4 + 3 ≤ _; omega
  refine bcase_t (Nat.ble_eq_true_of_le ?_) ?_
  · show a + 4 + 1 + 4 + 3 + 4 ≤ _; omega
  refine bcase_t (obl _ _) ?_
  refine bcase_yes (eqNT rfl) ?_
  refine bcase_t (in1 (by omega)) ?_
  refine bcase_t (in2 (by omega)) ?_
  refine bcase_yes (eq2 (by omega)) ?_
  refine bcase_t (in1 (by omega)) ?_
  refine bcase_t (in2 (by omega)) ?_
  refine bcase_yes (eq2 (by omega)) ?_
  exact rfl
theorem wordOK0 {a : Nat} (ha : a ≤ 50) : WordOK (.ofNat 0) a := by
  have h := text_toks (a := a) (L := 4) (w := 1701080942) (W := 134773517352134197944223425832126017390) ha (by decide) (by kernel_rfl)
  exact ⟨nW a 4, vW a 4 1701080942, (wC 4 1701080942 517097156462 435476721247 a), h.1, h.2.trans (tw0 a), fun e => wr0 e ha⟩
theorem tw1 (a : Nat) : tokS a 25 724574854697131311595053368463075661743554167198466851497330 26 0 [] 0 = ⟨true, 0, 0, (wC 7 32491060197614962 8679402344748967282 8317711410589430367 a), 4⟩ := by kernel_rfl
theorem wr1 (e : TypeId) {a : Nat} (ha : a ≤ 50) : Ran (wordsR e (nW a 7) (vW a 7 32491060197614962) (wC 7 32491060197614962 8679402344748967282 8317711410589430367 a) (.ofNat 1) (.ofNat a) (fun v => v = .bool true)) := by
  have h := words1 e (nW a 7) (vW a 7 32491060197614962) a (fun v => v = .bool true)
  refine ⟨?_⟩
  rw [h]
  refine bcase_mk (fun _ => rfl) fun _ => ?_
  refine bcase_t (oblN ha) (bcase_t (oblR a) ?_)
  refine bcase_t (Nat.ble_eq_true_of_le ?_) ?_
  · show a + 7 ≤ _; omega
  refine bcase_t (Nat.ble_eq_true_of_le ?_) ?_
  · show a + 7 + 1 ≤ _; omega
  refine bcase_t (Nat.ble_eq_true_of_le ?_) ?_
  · show a + 7 + 1 + 7 ≤ _; omega
  refine bcase_t (Nat.ble_eq_true_of_le ?_) ?_
  · show a + 7 + 1 + 7 + 3 ≤ _; omega
  refine bcase_t (Nat.ble_eq_true_of_le ?_) ?_
  · show a + 7 + 1 + 7 + 3 + 7 ≤ _; omega
  refine bcase_t (obl _ _) ?_
  refine bcase_yes (eqNT rfl) ?_
  refine bcase_t (in1 (by omega)) ?_
  refine bcase_t (in2 (by omega)) ?_
  refine bcase_yes (eq2 (by omega)) ?_
  refine bcase_t (in1 (by omega)) ?_
  refine bcase_t (in2 (by omega)) ?_
  refine bcase_yes (eq2 (by omega)) ?_
  exact rfl
theorem wordOK1 {a : Nat} (ha : a ≤ 50) : WordOK (.ofNat 1) a := by
  have h := text_toks (a := a) (L := 7) (w := 32491060197614962) (W := 724574854697131311595053368463075661743554167198466851497330) ha (by decide) (by kernel_rfl)
  exact ⟨nW a 7, vW a 7 32491060197614962, (wC 7 32491060197614962 8679402344748967282 8317711410589430367 a), h.1, h.2.trans (tw1 a), fun e => wr1 e ha⟩
theorem tw2 (a : Nat) : tokS a 13 9062173675049310273139805151606 14 0 [] 0 = ⟨true, 0, 0, (wC 3 7496054 2020761974 1918989919 a), 4⟩ := by kernel_rfl
theorem wr2 (e : TypeId) {a : Nat} (ha : a ≤ 50) : Ran (wordsR e (nW a 3) (vW a 3 7496054) (wC 3 7496054 2020761974 1918989919 a) (.ofNat 2) (.ofNat a) (fun v => v = .bool true)) := by
  have h := words2 e (nW a 3) (vW a 3 7496054) a (fun v => v = .bool true)
  refine ⟨?_⟩
  rw [h]
  refine bcase_mk (fun _ => rfl) fun _ => ?_
  refine bcase_t (oblN ha) (bcase_t (oblR a) ?_)
  refine bcase_t (Nat.ble_eq_true_of_le ?_) ?_
  · show a + 3 ≤ _; omega
  refine bcase_t (Nat.ble_eq_true_of_le ?_) ?_
  · show a + 3 + 1 ≤ _; omega
  refine bcase_t (Nat.ble_eq_true_of_le ?_) ?_
  · show a + 3 + 1 + 3 ≤ _; omega
  refine bcase_t (Nat.ble_eq_true_of_le ?_) ?_
  · show a + 3 + 1 + 3 + 3 ≤ _; omega
  refine bcase_t (Nat.ble_eq_true_of_le ?_) ?_
  · show a + 3 + 1 + 3 + 3 + 3 ≤ _; omega
  refine bcase_t (obl _ _) ?_
  refine bcase_yes (eqNT rfl) ?_
  refine bcase_t (in1 (by omega)) ?_
  refine bcase_t (in2 (by omega)) ?_
  refine bcase_yes (eq2 (by omega)) ?_
  refine bcase_t (in1 (by omega)) ?_
  refine bcase_t (in2 (by omega)) ?_
  refine bcase_yes (eq2 (by omega)) ?_
  exact rfl
theorem wordOK2 {a : Nat} (ha : a ≤ 50) : WordOK (.ofNat 2) a := by
  have h := text_toks (a := a) (L := 3) (w := 7496054) (W := 9062173675049310273139805151606) ha (by decide) (by kernel_rfl)
  exact ⟨nW a 3, vW a 3 7496054, (wC 3 7496054 2020761974 1918989919 a), h.1, h.2.trans (tw2 a), fun e => wr2 e ha⟩
theorem tw3 (a : Nat) : tokS a 13 9221855850858928749615095506284 14 0 [] 0 = ⟨true, 0, 0, (wC 3 7628140 2020894060 1952803935 a), 4⟩ := by kernel_rfl
theorem wr3 (e : TypeId) {a : Nat} (ha : a ≤ 50) : Ran (wordsR e (nW a 3) (vW a 3 7628140) (wC 3 7628140 2020894060 1952803935 a) (.ofNat 3) (.ofNat a) (fun v => v = .bool true)) := by
  have h := words3 e (nW a 3) (vW a 3 7628140) a (fun v => v = .bool true)
  refine ⟨?_⟩
  rw [h]
  refine bcase_mk (fun _ => rfl) fun _ => ?_
  refine bcase_t (oblN ha) (bcase_t (oblR a) ?_)
  refine bcase_t (Nat.ble_eq_true_of_le ?_) ?_
  · show a + 3 ≤ _; omega
  refine bcase_t (Nat.ble_eq_true_of_le ?_) ?_
  · show a + 3 + 1 ≤ _; omega
  refine bcase_t (Nat.ble_eq_true_of_le ?_) ?_
  · show a + 3 + 1 + 3 ≤ _; omega
  refine bcase_t (Nat.ble_eq_true_of_le ?_) ?_
  · show a + 3 + 1 + 3 + 3 ≤ _; omega
  refine bcase_t (Nat.ble_eq_true_of_le ?_) ?_
  · show a + 3 + 1 + 3 + 3 + 3 ≤ _; omega
  refine bcase_t (obl _ _) ?_
  refine bcase_yes (eqNT rfl) ?_
  refine bcase_t (in1 (by omega)) ?_
  refine bcase_t (in2 (by omega)) ?_
  refine bcase_yes (eq2 (by omega)) ?_
  refine bcase_t (in1 (by omega)) ?_
  refine bcase_t (in2 (by omega)) ?_
  refine bcase_yes (eq2 (by omega)) ?_
  exact rfl
theorem wordOK3 {a : Nat} (ha : a ≤ 50) : WordOK (.ofNat 3) a := by
  have h := text_toks (a := a) (L := 3) (w := 7628140) (W := 9221855850858928749615095506284) ha (by decide) (by kernel_rfl)
  exact ⟨nW a 3, vW a 3 7628140, (wC 3 7628140 2020894060 1952803935 a), h.1, h.2.trans (tw3 a), fun e => wr3 e ha⟩
theorem tw4 (a : Nat) : tokS a 13 8588040222151368714134687081844 14 0 [] 0 = ⟨true, 0, 0, (wC 3 7103860 2020369780 1818588255 a), 4⟩ := by kernel_rfl
theorem wr4 (e : TypeId) {a : Nat} (ha : a ≤ 50) : Ran (wordsR e (nW a 3) (vW a 3 7103860) (wC 3 7103860 2020369780 1818588255 a) (.ofNat 4) (.ofNat a) (fun v => v = .bool true)) := by
  have h := words4 e (nW a 3) (vW a 3 7103860) a (fun v => v = .bool true)
  refine ⟨?_⟩
  rw [h]
  refine bcase_mk (fun _ => rfl) fun _ => ?_
  refine bcase_t (oblN ha) (bcase_t (oblR a) ?_)
  refine bcase_t (Nat.ble_eq_true_of_le ?_) ?_
  · show a + 3 ≤ _; omega
  refine bcase_t (Nat.ble_eq_true_of_le ?_) ?_
  · show a + 3 + 1 ≤ _; omega
  refine bcase_t (Nat.ble_eq_true_of_le ?_) ?_
  · show a + 3 + 1 + 3 ≤ _; omega
  refine bcase_t (Nat.ble_eq_true_of_le ?_) ?_
  · show a + 3 + 1 + 3 + 3 ≤ _; omega
  refine bcase_t (Nat.ble_eq_true_of_le ?_) ?_
  · show a + 3 + 1 + 3 + 3 + 3 ≤ _; omega
  refine bcase_t (obl _ _) ?_
  refine bcase_yes (eqNT rfl) ?_
  refine bcase_t (in1 (by omega)) ?_
  refine bcase_t (in2 (by omega)) ?_
  refine bcase_yes (eq2 (by omega)) ?_
  refine bcase_t (in1 (by omega)) ?_
  refine bcase_t (in2 (by omega)) ?_
  refine bcase_yes (eq2 (by omega)) ?_
  exact rfl
theorem wordOK4 {a : Nat} (ha : a ≤ 50) : WordOK (.ofNat 4) a := by
  have h := text_toks (a := a) (L := 3) (w := 7103860) (W := 8588040222151368714134687081844) ha (by decide) (by kernel_rfl)
  exact ⟨nW a 3, vW a 3 7103860, (wC 3 7103860 2020369780 1818588255 a), h.1, h.2.trans (tw4 a), fun e => wr4 e ha⟩
theorem tw5 (a : Nat) : tokS a 10 483625143991457418339945 11 0 [] 0 = ⟨true, 0, 0, (wC 2 26217 7890537 6711647 a), 4⟩ := by kernel_rfl
theorem wr5 (e : TypeId) {a : Nat} (ha : a ≤ 50) : Ran (wordsR e (nW a 2) (vW a 2 26217) (wC 2 26217 7890537 6711647 a) (.ofNat 5) (.ofNat a) (fun v => v = .bool true)) := by
  have h := words5 e (nW a 2) (vW a 2 26217) a (fun v => v = .bool true)
  refine ⟨?_⟩
  rw [h]
  refine bcase_mk (fun _ => rfl) fun _ => ?_
  refine bcase_t (oblN ha) (bcase_t (oblR a) ?_)
  refine bcase_t (Nat.ble_eq_true_of_le ?_) ?_
  · show a + 2 ≤ _; omega
  refine bcase_t (Nat.ble_eq_true_of_le ?_) ?_
  · show a + 2 + 1 ≤ _; omega
  refine bcase_t (Nat.ble_eq_true_of_le ?_) ?_
  · show a + 2 + 1 + 2 ≤ _; omega
  refine bcase_t (Nat.ble_eq_true_of_le ?_) ?_
  · show a + 2 + 1 + 2 + 3 ≤ _; omega
  refine bcase_t (Nat.ble_eq_true_of_le ?_) ?_
  · show a + 2 + 1 + 2 + 3 + 2 ≤ _; omega
  refine bcase_t (obl _ _) ?_
  refine bcase_yes (eqNT rfl) ?_
  refine bcase_t (in1 (by omega)) ?_
  refine bcase_t (in2 (by omega)) ?_
  refine bcase_yes (eq2 (by omega)) ?_
  refine bcase_t (in1 (by omega)) ?_
  refine bcase_t (in2 (by omega)) ?_
  refine bcase_yes (eq2 (by omega)) ?_
  exact rfl
theorem wordOK5 {a : Nat} (ha : a ≤ 50) : WordOK (.ofNat 5) a := by
  have h := text_toks (a := a) (L := 2) (w := 26217) (W := 483625143991457418339945) ha (by decide) (by kernel_rfl)
  exact ⟨nW a 2, vW a 2 26217, (wC 2 26217 7890537 6711647 a), h.1, h.2.trans (tw5 a), fun e => wr5 e ha⟩
theorem tw6 (a : Nat) : tokS a 16 146741620109558725317970068331290781812 17 0 [] 0 = ⟨true, 0, 0, (wC 4 1852139636 517248215156 474147746911 a), 4⟩ := by kernel_rfl
theorem wr6 (e : TypeId) {a : Nat} (ha : a ≤ 50) : Ran (wordsR e (nW a 4) (vW a 4 1852139636) (wC 4 1852139636 517248215156 474147746911 a) (.ofNat 6) (.ofNat a) (fun v => v = .bool true)) := by
  have h := words6 e (nW a 4) (vW a 4 1852139636) a (fun v => v = .bool true)
  refine ⟨?_⟩
  rw [h]
  refine bcase_mk (fun _ => rfl) fun _ => ?_
  refine bcase_t (oblN ha) (bcase_t (oblR a) ?_)
  refine bcase_t (Nat.ble_eq_true_of_le ?_) ?_
  · show a + 4 ≤ _; omega
  refine bcase_t (Nat.ble_eq_true_of_le ?_) ?_
  · show a + 4 + 1 ≤ _; omega
  refine bcase_t (Nat.ble_eq_true_of_le ?_) ?_
  · show a + 4 + 1 + 4 ≤ _; omega
  refine bcase_t (Nat.ble_eq_true_of_le ?_) ?_
  · show a + 4 + 1 + 4 + 3 ≤ _; omega
  refine bcase_t (Nat.ble_eq_true_of_le ?_) ?_
  · show a + 4 + 1 + 4 + 3 + 4 ≤ _; omega
  refine bcase_t (obl _ _) ?_
  refine bcase_yes (eqNT rfl) ?_
  refine bcase_t (in1 (by omega)) ?_
  refine bcase_t (in2 (by omega)) ?_
  refine bcase_yes (eq2 (by omega)) ?_
  refine bcase_t (in1 (by omega)) ?_
  refine bcase_t (in2 (by omega)) ?_
  refine bcase_yes (eq2 (by omega)) ?_
  exact rfl
theorem wordOK6 {a : Nat} (ha : a ≤ 50) : WordOK (.ofNat 6) a := by
  have h := text_toks (a := a) (L := 4) (w := 1852139636) (W := 146741620109558725317970068331290781812) ha (by decide) (by kernel_rfl)
  exact ⟨nW a 4, vW a 4 1852139636, (wC 4 1852139636 517248215156 474147746911 a), h.1, h.2.trans (tw6 a), fun e => wr6 e ha⟩
theorem tw7 (a : Nat) : tokS a 16 134851340244729946776341082683450027109 17 0 [] 0 = ⟨true, 0, 0, (wC 4 1702063205 517098138725 435728180575 a), 4⟩ := by kernel_rfl
theorem wr7 (e : TypeId) {a : Nat} (ha : a ≤ 50) : Ran (wordsR e (nW a 4) (vW a 4 1702063205) (wC 4 1702063205 517098138725 435728180575 a) (.ofNat 7) (.ofNat a) (fun v => v = .bool true)) := by
  have h := words7 e (nW a 4) (vW a 4 1702063205) a (fun v => v = .bool true)
  refine ⟨?_⟩
  rw [h]
  refine bcase_mk (fun _ => rfl) fun _ => ?_
  refine bcase_t (oblN ha) (bcase_t (oblR a) ?_)
  refine bcase_t (Nat.ble_eq_true_of_le ?_) ?_
  · show a + 4 ≤ _; omega
  refine bcase_t (Nat.ble_eq_true_of_le ?_) ?_
  · show a + 4 + 1 ≤ _; omega
  refine bcase_t (Nat.ble_eq_true_of_le ?_) ?_
  · show a + 4 + 1 + 4 ≤ _; omega
  refine bcase_t (Nat.ble_eq_true_of_le ?_) ?_
  · show a + 4 + 1 + 4 + 3 ≤ _; omega
  refine bcase_t (Nat.ble_eq_true_of_le ?_) ?_
  · show a + 4 + 1 + 4 + 3 + 4 ≤ _; omega
  refine bcase_t (obl _ _) ?_
  refine bcase_yes (eqNT rfl) ?_
  refine bcase_t (in1 (by omega)) ?_
  refine bcase_t (in2 (by omega)) ?_
  refine bcase_yes (eq2 (by omega)) ?_
  refine bcase_t (in1 (by omega)) ?_
  refine bcase_t (in2 (by omega)) ?_
  refine bcase_yes (eq2 (by omega)) ?_
  exact rfl
theorem wordOK7 {a : Nat} (ha : a ≤ 50) : WordOK (.ofNat 7) a := by
  have h := text_toks (a := a) (L := 4) (w := 1702063205) (W := 134851340244729946776341082683450027109) ha (by decide) (by kernel_rfl)
  exact ⟨nW a 4, vW a 4 1702063205, (wC 4 1702063205 517098138725 435728180575 a), h.1, h.2.trans (tw7 a), fun e => wr7 e ha⟩
theorem tw8 (a : Nat) : tokS a 13 9224953118808781440564398944110 14 0 [] 0 = ⟨true, 0, 0, (wC 3 7630702 2020896622 1953459807 a), 4⟩ := by kernel_rfl
theorem wr8 (e : TypeId) {a : Nat} (ha : a ≤ 50) : Ran (wordsR e (nW a 3) (vW a 3 7630702) (wC 3 7630702 2020896622 1953459807 a) (.ofNat 8) (.ofNat a) (fun v => v = .bool true)) := by
  have h := words8 e (nW a 3) (vW a 3 7630702) a (fun v => v = .bool true)
  refine ⟨?_⟩
  rw [h]
  refine bcase_mk (fun _ => rfl) fun _ => ?_
  refine bcase_t (oblN ha) (bcase_t (oblR a) ?_)
  refine bcase_t (Nat.ble_eq_true_of_le ?_) ?_
  · show a + 3 ≤ _; omega
  refine bcase_t (Nat.ble_eq_true_of_le ?_) ?_
  · show a + 3 + 1 ≤ _; omega
  refine bcase_t (Nat.ble_eq_true_of_le ?_) ?_
  · show a + 3 + 1 + 3 ≤ _; omega
  refine bcase_t (Nat.ble_eq_true_of_le ?_) ?_
  · show a + 3 + 1 + 3 + 3 ≤ _; omega
  refine bcase_t (Nat.ble_eq_true_of_le ?_) ?_
  · show a + 3 + 1 + 3 + 3 + 3 ≤ _; omega
  refine bcase_t (obl _ _) ?_
  refine bcase_yes (eqNT rfl) ?_
  refine bcase_t (in1 (by omega)) ?_
  refine bcase_t (in2 (by omega)) ?_
  refine bcase_yes (eq2 (by omega)) ?_
  refine bcase_t (in1 (by omega)) ?_
  refine bcase_t (in2 (by omega)) ?_
  refine bcase_yes (eq2 (by omega)) ?_
  exact rfl
theorem wordOK8 {a : Nat} (ha : a ≤ 50) : WordOK (.ofNat 8) a := by
  have h := text_toks (a := a) (L := 3) (w := 7630702) (W := 9224953118808781440564398944110) ha (by decide) (by kernel_rfl)
  exact ⟨nW a 3, vW a 3 7630702, (wC 3 7630702 2020896622 1953459807 a), h.1, h.2.trans (tw8 a), fun e => wr8 e ha⟩
theorem tw9 (a : Nat) : tokS a 13 7956977317535071199064725155425 14 0 [] 0 = ⟨true, 0, 0, (wC 3 6581857 2019847777 1684955487 a), 4⟩ := by kernel_rfl
theorem wr9 (e : TypeId) {a : Nat} (ha : a ≤ 50) : Ran (wordsR e (nW a 3) (vW a 3 6581857) (wC 3 6581857 2019847777 1684955487 a) (.ofNat 9) (.ofNat a) (fun v => v = .bool true)) := by
  have h := words9 e (nW a 3) (vW a 3 6581857) a (fun v => v = .bool true)
  refine ⟨?_⟩
  rw [h]
  refine bcase_mk (fun _ => rfl) fun _ => ?_
  refine bcase_t (oblN ha) (bcase_t (oblR a) ?_)
  refine bcase_t (Nat.ble_eq_true_of_le ?_) ?_
  · show a + 3 ≤ _; omega
  refine bcase_t (Nat.ble_eq_true_of_le ?_) ?_
  · show a + 3 + 1 ≤ _; omega
  refine bcase_t (Nat.ble_eq_true_of_le ?_) ?_
  · show a + 3 + 1 + 3 ≤ _; omega
  refine bcase_t (Nat.ble_eq_true_of_le ?_) ?_
  · show a + 3 + 1 + 3 + 3 ≤ _; omega
  refine bcase_t (Nat.ble_eq_true_of_le ?_) ?_
  · show a + 3 + 1 + 3 + 3 + 3 ≤ _; omega
  refine bcase_t (obl _ _) ?_
  refine bcase_yes (eqNT rfl) ?_
  refine bcase_t (in1 (by omega)) ?_
  refine bcase_t (in2 (by omega)) ?_
  refine bcase_yes (eq2 (by omega)) ?_
  refine bcase_t (in1 (by omega)) ?_
  refine bcase_t (in2 (by omega)) ?_
  refine bcase_yes (eq2 (by omega)) ?_
  exact rfl
theorem wordOK9 {a : Nat} (ha : a ≤ 50) : WordOK (.ofNat 9) a := by
  have h := text_toks (a := a) (L := 3) (w := 6581857) (W := 7956977317535071199064725155425) ha (by decide) (by kernel_rfl)
  exact ⟨nW a 3, vW a 3 6581857, (wC 3 6581857 2019847777 1684955487 a), h.1, h.2.trans (tw9 a), fun e => wr9 e ha⟩
theorem tw10 (a : Nat) : tokS a 10 540404222250387058487919 11 0 [] 0 = ⟨true, 0, 0, (wC 2 29295 7893615 7499615 a), 4⟩ := by kernel_rfl
theorem wr10 (e : TypeId) {a : Nat} (ha : a ≤ 50) : Ran (wordsR e (nW a 2) (vW a 2 29295) (wC 2 29295 7893615 7499615 a) (.ofNat 10) (.ofNat a) (fun v => v = .bool true)) := by
  have h := words10 e (nW a 2) (vW a 2 29295) a (fun v => v = .bool true)
  refine ⟨?_⟩
  rw [h]
  refine bcase_mk (fun _ => rfl) fun _ => ?_
  refine bcase_t (oblN ha) (bcase_t (oblR a) ?_)
  refine bcase_t (Nat.ble_eq_true_of_le ?_) ?_
  · show a + 2 ≤ _; omega
  refine bcase_t (Nat.ble_eq_true_of_le ?_) ?_
  · show a + 2 + 1 ≤ _; omega
  refine bcase_t (Nat.ble_eq_true_of_le ?_) ?_
  · show a + 2 + 1 + 2 ≤ _; omega
  refine bcase_t (Nat.ble_eq_true_of_le ?_) ?_
  · show a + 2 + 1 + 2 + 3 ≤ _; omega
  refine bcase_t (Nat.ble_eq_true_of_le ?_) ?_
  · show a + 2 + 1 + 2 + 3 + 2 ≤ _; omega
  refine bcase_t (obl _ _) ?_
  refine bcase_yes (eqNT rfl) ?_
  refine bcase_t (in1 (by omega)) ?_
  refine bcase_t (in2 (by omega)) ?_
  refine bcase_yes (eq2 (by omega)) ?_
  refine bcase_t (in1 (by omega)) ?_
  refine bcase_t (in2 (by omega)) ?_
  refine bcase_yes (eq2 (by omega)) ?_
  exact rfl
theorem wordOK10 {a : Nat} (ha : a ≤ 50) : WordOK (.ofNat 10) a := by
  have h := text_toks (a := a) (L := 2) (w := 29295) (W := 540404222250387058487919) ha (by decide) (by kernel_rfl)
  exact ⟨nW a 2, vW a 2 29295, (wC 2 29295 7893615 7499615 a), h.1, h.2.trans (tw10 a), fun e => wr10 e ha⟩
theorem tw11 (a : Nat) : tokS a 13 9066508883038448348762054225784 14 0 [] 0 = ⟨true, 0, 0, (wC 3 7499640 2020765560 1919907935 a), 4⟩ := by kernel_rfl
theorem wr11 (e : TypeId) {a : Nat} (ha : a ≤ 50) : Ran (wordsR e (nW a 3) (vW a 3 7499640) (wC 3 7499640 2020765560 1919907935 a) (.ofNat 11) (.ofNat a) (fun v => v = .bool true)) := by
  have h := words11 e (nW a 3) (vW a 3 7499640) a (fun v => v = .bool true)
  refine ⟨?_⟩
  rw [h]
  refine bcase_mk (fun _ => rfl) fun _ => ?_
  refine bcase_t (oblN ha) (bcase_t (oblR a) ?_)
  refine bcase_t (Nat.ble_eq_true_of_le ?_) ?_
  · show a + 3 ≤ _; omega
  refine bcase_t (Nat.ble_eq_true_of_le ?_) ?_
  · show a + 3 + 1 ≤ _; omega
  refine bcase_t (Nat.ble_eq_true_of_le ?_) ?_
  · show a + 3 + 1 + 3 ≤ _; omega
  refine bcase_t (Nat.ble_eq_true_of_le ?_) ?_
  · show a + 3 + 1 + 3 + 3 ≤ _; omega
  refine bcase_t (Nat.ble_eq_true_of_le ?_) ?_
  · show a + 3 + 1 + 3 + 3 + 3 ≤ _; omega
  refine bcase_t (obl _ _) ?_
  refine bcase_yes (eqNT rfl) ?_
  refine bcase_t (in1 (by omega)) ?_
  refine bcase_t (in2 (by omega)) ?_
  refine bcase_yes (eq2 (by omega)) ?_
  refine bcase_t (in1 (by omega)) ?_
  refine bcase_t (in2 (by omega)) ?_
  refine bcase_yes (eq2 (by omega)) ?_
  exact rfl
theorem wordOK11 {a : Nat} (ha : a ≤ 50) : WordOK (.ofNat 11) a := by
  have h := text_toks (a := a) (L := 3) (w := 7499640) (W := 9066508883038448348762054225784) ha (by decide) (by kernel_rfl)
  exact ⟨nW a 3, vW a 3 7499640, (wC 3 7499640 2020765560 1919907935 a), h.1, h.2.trans (tw11 a), fun e => wr11 e ha⟩
theorem tw12 (a : Nat) : tokS a 13 7957301309654727920834597646189 14 0 [] 0 = ⟨true, 0, 0, (wC 3 6582125 2019848045 1685024095 a), 4⟩ := by kernel_rfl
theorem wr12 (e : TypeId) {a : Nat} (ha : a ≤ 50) : Ran (wordsR e (nW a 3) (vW a 3 6582125) (wC 3 6582125 2019848045 1685024095 a) (.ofNat 12) (.ofNat a) (fun v => v = .bool true)) := by
  have h := words12 e (nW a 3) (vW a 3 6582125) a (fun v => v = .bool true)
  refine ⟨?_⟩
  rw [h]
  refine bcase_mk (fun _ => rfl) fun _ => ?_
  refine bcase_t (oblN ha) (bcase_t (oblR a) ?_)
  refine bcase_t (Nat.ble_eq_true_of_le ?_) ?_
  · show a + 3 ≤ _; omega
  refine bcase_t (Nat.ble_eq_true_of_le ?_) ?_
  · show a + 3 + 1 ≤ _; omega
  refine bcase_t (Nat.ble_eq_true_of_le ?_) ?_
  · show a + 3 + 1 + 3 ≤ _; omega
  refine bcase_t (Nat.ble_eq_true_of_le ?_) ?_
  · show a + 3 + 1 + 3 + 3 ≤ _; omega
  refine bcase_t (Nat.ble_eq_true_of_le ?_) ?_
  · show a + 3 + 1 + 3 + 3 + 3 ≤ _; omega
  refine bcase_t (obl _ _) ?_
  refine bcase_yes (eqNT rfl) ?_
  refine bcase_t (in1 (by omega)) ?_
  refine bcase_t (in2 (by omega)) ?_
  refine bcase_yes (eq2 (by omega)) ?_
  refine bcase_t (in1 (by omega)) ?_
  refine bcase_t (in2 (by omega)) ?_
  refine bcase_yes (eq2 (by omega)) ?_
  exact rfl
theorem wordOK12 {a : Nat} (ha : a ≤ 50) : WordOK (.ofNat 12) a := by
  have h := text_toks (a := a) (L := 3) (w := 6582125) (W := 7957301309654727920834597646189) ha (by decide) (by kernel_rfl)
  exact ⟨nW a 3, vW a 3 6582125, (wC 3 6582125 2019848045 1685024095 a), h.1, h.2.trans (tw12 a), fun e => wr12 e ha⟩
theorem tw13 (a : Nat) : tokS a 13 8037461553975915422308236620400 14 0 [] 0 = ⟨true, 0, 0, (wC 3 6648432 2019914352 1701998687 a), 4⟩ := by kernel_rfl
theorem wr13 (e : TypeId) {a : Nat} (ha : a ≤ 50) : Ran (wordsR e (nW a 3) (vW a 3 6648432) (wC 3 6648432 2019914352 1701998687 a) (.ofNat 13) (.ofNat a) (fun v => v = .bool true)) := by
  have h := words13 e (nW a 3) (vW a 3 6648432) a (fun v => v = .bool true)
  refine ⟨?_⟩
  rw [h]
  refine bcase_mk (fun _ => rfl) fun _ => ?_
  refine bcase_t (oblN ha) (bcase_t (oblR a) ?_)
  refine bcase_t (Nat.ble_eq_true_of_le ?_) ?_
  · show a + 3 ≤ _; omega
  refine bcase_t (Nat.ble_eq_true_of_le ?_) ?_
  · show a + 3 + 1 ≤ _; omega
  refine bcase_t (Nat.ble_eq_true_of_le ?_) ?_
  · show a + 3 + 1 + 3 ≤ _; omega
  refine bcase_t (Nat.ble_eq_true_of_le ?_) ?_
  · show a + 3 + 1 + 3 + 3 ≤ _; omega
  refine bcase_t (Nat.ble_eq_true_of_le ?_) ?_
  · show a + 3 + 1 + 3 + 3 + 3 ≤ _; omega
  refine bcase_t (obl _ _) ?_
  refine bcase_yes (eqNT rfl) ?_
  refine bcase_t (in1 (by omega)) ?_
  refine bcase_t (in2 (by omega)) ?_
  refine bcase_yes (eq2 (by omega)) ?_
  refine bcase_t (in1 (by omega)) ?_
  refine bcase_t (in2 (by omega)) ?_
  refine bcase_yes (eq2 (by omega)) ?_
  exact rfl
theorem wordOK13 {a : Nat} (ha : a ≤ 50) : WordOK (.ofNat 13) a := by
  have h := text_toks (a := a) (L := 3) (w := 6648432) (W := 8037461553975915422308236620400) ha (by decide) (by kernel_rfl)
  exact ⟨nW a 3, vW a 3 6648432, (wC 3 6648432 2019914352 1701998687 a), h.1, h.2.trans (tw13 a), fun e => wr13 e ha⟩
theorem tw14 (a : Nat) : tokS a 13 9617060954845870118652171870822 14 0 [] 0 = ⟨true, 0, 0, (wC 3 7955046 2021220966 2036491871 a), 4⟩ := by kernel_rfl
theorem wr14 (e : TypeId) {a : Nat} (ha : a ≤ 50) : Ran (wordsR e (nW a 3) (vW a 3 7955046) (wC 3 7955046 2021220966 2036491871 a) (.ofNat 14) (.ofNat a) (fun v => v = .bool true)) := by
  have h := words14 e (nW a 3) (vW a 3 7955046) a (fun v => v = .bool true)
  refine ⟨?_⟩
  rw [h]
  refine bcase_mk (fun _ => rfl) fun _ => ?_
  refine bcase_t (oblN ha) (bcase_t (oblR a) ?_)
  refine bcase_t (Nat.ble_eq_true_of_le ?_) ?_
  · show a + 3 ≤ _; omega
  refine bcase_t (Nat.ble_eq_true_of_le ?_) ?_
  · show a + 3 + 1 ≤ _; omega
  refine bcase_t (Nat.ble_eq_true_of_le ?_) ?_
  · show a + 3 + 1 + 3 ≤ _; omega
  refine bcase_t (Nat.ble_eq_true_of_le ?_) ?_
  · show a + 3 + 1 + 3 + 3 ≤ _; omega
  refine bcase_t (Nat.ble_eq_true_of_le ?_) ?_
  · show a + 3 + 1 + 3 + 3 + 3 ≤ _; omega
  refine bcase_t (obl _ _) ?_
  refine bcase_yes (eqNT rfl) ?_
  refine bcase_t (in1 (by omega)) ?_
  refine bcase_t (in2 (by omega)) ?_
  refine bcase_yes (eq2 (by omega)) ?_
  refine bcase_t (in1 (by omega)) ?_
  refine bcase_t (in2 (by omega)) ?_
  refine bcase_yes (eq2 (by omega)) ?_
  exact rfl
theorem wordOK14 {a : Nat} (ha : a ≤ 50) : WordOK (.ofNat 14) a := by
  have h := text_toks (a := a) (L := 3) (w := 7955046) (W := 9617060954845870118652171870822) ha (by decide) (by kernel_rfl)
  exact ⟨nW a 3, vW a 3 7955046, (wC 3 7955046 2021220966 2036491871 a), h.1, h.2.trans (tw14 a), fun e => wr14 e ha⟩
theorem tw15 (a : Nat) : tokS a 16 146741620347243212860763084410457516151 17 0 [] 0 = ⟨true, 0, 0, (wC 4 1852139639 517248215159 474147747679 a), 4⟩ := by kernel_rfl
theorem wr15 (e : TypeId) {a : Nat} (ha : a ≤ 50) : Ran (wordsR e (nW a 4) (vW a 4 1852139639) (wC 4 1852139639 517248215159 474147747679 a) (.ofNat 15) (.ofNat a) (fun v => v = .bool true)) := by
  have h := words15 e (nW a 4) (vW a 4 1852139639) a (fun v => v = .bool true)
  refine ⟨?_⟩
  rw [h]
  refine bcase_mk (fun _ => rfl) fun _ => ?_
  refine bcase_t (oblN ha) (bcase_t (oblR a) ?_)
  refine bcase_t (Nat.ble_eq_true_of_le ?_) ?_
  · show a + 4 ≤ _; omega
  refine bcase_t (Nat.ble_eq_true_of_le ?_) ?_
  · show a + 4 + 1 ≤ _; omega
  refine bcase_t (Nat.ble_eq_true_of_le ?_) ?_
  · show a + 4 + 1 + 4 ≤ _; omega
  refine bcase_t (Nat.ble_eq_true_of_le ?_) ?_
  · show a + 4 + 1 + 4 + 3 ≤ _; omega
  refine bcase_t (Nat.ble_eq_true_of_le ?_) ?_
  · show a + 4 + 1 + 4 + 3 + 4 ≤ _; omega
  refine bcase_t (obl _ _) ?_
  refine bcase_yes (eqNT rfl) ?_
  refine bcase_t (in1 (by omega)) ?_
  refine bcase_t (in2 (by omega)) ?_
  refine bcase_yes (eq2 (by omega)) ?_
  refine bcase_t (in1 (by omega)) ?_
  refine bcase_t (in2 (by omega)) ?_
  refine bcase_yes (eq2 (by omega)) ?_
  exact rfl
theorem wordOK15 {a : Nat} (ha : a ≤ 50) : WordOK (.ofNat 15) a := by
  have h := text_toks (a := a) (L := 4) (w := 1852139639) (W := 146741620347243212860763084410457516151) ha (by decide) (by kernel_rfl)
  exact ⟨nW a 4, vW a 4 1852139639, (wC 4 1852139639 517248215159 474147747679 a), h.1, h.2.trans (tw15 a), fun e => wr15 e ha⟩
theorem tw16 (a : Nat) : tokS a 19 2261386757512310563015682572162486928514639213 20 0 [] 0 = ⟨true, 0, 0, (wC 5 435527247213 132376922580333 111494975286623 a), 4⟩ := by kernel_rfl
theorem wr16 (e : TypeId) {a : Nat} (ha : a ≤ 50) : Ran (wordsR e (nW a 5) (vW a 5 435527247213) (wC 5 435527247213 132376922580333 111494975286623 a) (.ofNat 16) (.ofNat a) (fun v => v = .bool true)) := by
  have h := words16 e (nW a 5) (vW a 5 435527247213) a (fun v => v = .bool true)
  refine ⟨?_⟩
  rw [h]
  refine bcase_mk (fun _ => rfl) fun _ => ?_
  refine bcase_t (oblN ha) (bcase_t (oblR a) ?_)
  refine bcase_t (Nat.ble_eq_true_of_le ?_) ?_
  · show a + 5 ≤ _; omega
  refine bcase_t (Nat.ble_eq_true_of_le ?_) ?_
  · show a + 5 + 1 ≤ _; omega
  refine bcase_t (Nat.ble_eq_true_of_le ?_) ?_
  · show a + 5 + 1 + 5 ≤ _; omega
  refine bcase_t (Nat.ble_eq_true_of_le ?_) ?_
  · show a + 5 + 1 + 5 + 3 ≤ _; omega
  refine bcase_t (Nat.ble_eq_true_of_le ?_) ?_
  · show a + 5 + 1 + 5 + 3 + 5 ≤ _; omega
  refine bcase_t (obl _ _) ?_
  refine bcase_yes (eqNT rfl) ?_
  refine bcase_t (in1 (by omega)) ?_
  refine bcase_t (in2 (by omega)) ?_
  refine bcase_yes (eq2 (by omega)) ?_
  refine bcase_t (in1 (by omega)) ?_
  refine bcase_t (in2 (by omega)) ?_
  refine bcase_yes (eq2 (by omega)) ?_
  exact rfl
theorem wordOK16 {a : Nat} (ha : a ≤ 50) : WordOK (.ofNat 16) a := by
  have h := text_toks (a := a) (L := 5) (w := 435527247213) (W := 2261386757512310563015682572162486928514639213) ha (by decide) (by kernel_rfl)
  exact ⟨nW a 5, vW a 5 435527247213, (wC 5 435527247213 132376922580333 111494975286623 a), h.1, h.2.trans (tw16 a), fun e => wr16 e ha⟩
theorem tw17 (a : Nat) : tokS a 16 154789536916541719949692912662931005795 17 0 [] 0 = ⟨true, 0, 0, (wC 4 1953718627 517349794147 500151968607 a), 4⟩ := by kernel_rfl
theorem wr17 (e : TypeId) {a : Nat} (ha : a ≤ 50) : Ran (wordsR e (nW a 4) (vW a 4 1953718627) (wC 4 1953718627 517349794147 500151968607 a) (.ofNat 17) (.ofNat a) (fun v => v = .bool true)) := by
  have h := words17 e (nW a 4) (vW a 4 1953718627) a (fun v => v = .bool true)
  refine ⟨?_⟩
  rw [h]
  refine bcase_mk (fun _ => rfl) fun _ => ?_
  refine bcase_t (oblN ha) (bcase_t (oblR a) ?_)
  refine bcase_t (Nat.ble_eq_true_of_le ?_) ?_
  · show a + 4 ≤ _; omega
  refine bcase_t (Nat.ble_eq_true_of_le ?_) ?_
  · show a + 4 + 1 ≤ _; omega
  refine bcase_t (Nat.ble_eq_true_of_le ?_) ?_
  · show a + 4 + 1 + 4 ≤ _; omega
  refine bcase_t (Nat.ble_eq_true_of_le ?_) ?_
  · show a + 4 + 1 + 4 + 3 ≤ _; omega
  refine bcase_t (Nat.ble_eq_true_of_le ?_) ?_
  · show a + 4 + 1 + 4 + 3 + 4 ≤ _; omega
  refine bcase_t (obl _ _) ?_
  refine bcase_yes (eqNT rfl) ?_
  refine bcase_t (in1 (by omega)) ?_
  refine bcase_t (in2 (by omega)) ?_
  refine bcase_yes (eq2 (by omega)) ?_
  refine bcase_t (in1 (by omega)) ?_
  refine bcase_t (in2 (by omega)) ?_
  refine bcase_yes (eq2 (by omega)) ?_
  exact rfl
theorem wordOK17 {a : Nat} (ha : a ≤ 50) : WordOK (.ofNat 17) a := by
  have h := text_toks (a := a) (L := 4) (w := 1953718627) (W := 154789536916541719949692912662931005795) ha (by decide) (by kernel_rfl)
  exact ⟨nW a 4, vW a 4 1953718627, (wC 4 1953718627 517349794147 500151968607 a), h.1, h.2.trans (tw17 a), fun e => wr17 e ha⟩
theorem tw18 (a : Nat) : tokS a 16 142743571810896511640187944170764331380 17 0 [] 0 = ⟨true, 0, 0, (wC 4 1801677172 517197752692 461229356127 a), 4⟩ := by kernel_rfl
theorem wr18 (e : TypeId) {a : Nat} (ha : a ≤ 50) : Ran (wordsR e (nW a 4) (vW a 4 1801677172) (wC 4 1801677172 517197752692 461229356127 a) (.ofNat 18) (.ofNat a) (fun v => v = .bool true)) := by
  have h := words18 e (nW a 4) (vW a 4 1801677172) a (fun v => v = .bool true)
  refine ⟨?_⟩
  rw [h]
  refine bcase_mk (fun _ => rfl) fun _ => ?_
  refine bcase_t (oblN ha) (bcase_t (oblR a) ?_)
  refine bcase_t (Nat.ble_eq_true_of_le ?_) ?_
  · show a + 4 ≤ _; omega
  refine bcase_t (Nat.ble_eq_true_of_le ?_) ?_
  · show a + 4 + 1 ≤ _; omega
  refine bcase_t (Nat.ble_eq_true_of_le ?_) ?_
  · show a + 4 + 1 + 4 ≤ _; omega
  refine bcase_t (Nat.ble_eq_true_of_le ?_) ?_
  · show a + 4 + 1 + 4 + 3 ≤ _; omega
  refine bcase_t (Nat.ble_eq_true_of_le ?_) ?_
  · show a + 4 + 1 + 4 + 3 + 4 ≤ _; omega
  refine bcase_t (obl _ _) ?_
  refine bcase_yes (eqNT rfl) ?_
  refine bcase_t (in1 (by omega)) ?_
  refine bcase_t (in2 (by omega)) ?_
  refine bcase_yes (eq2 (by omega)) ?_
  refine bcase_t (in1 (by omega)) ?_
  refine bcase_t (in2 (by omega)) ?_
  refine bcase_yes (eq2 (by omega)) ?_
  exact rfl
theorem wordOK18 {a : Nat} (ha : a ≤ 50) : WordOK (.ofNat 18) a := by
  have h := text_toks (a := a) (L := 4) (w := 1801677172) (W := 142743571810896511640187944170764331380) ha (by decide) (by kernel_rfl)
  exact ⟨nW a 4, vW a 4 1801677172, (wC 4 1801677172 517197752692 461229356127 a), h.1, h.2.trans (tw18 a), fun e => wr18 e ha⟩
theorem tw19 (a : Nat) : tokS a 19 2595724051226734794894687160979872410508682610 20 0 [] 0 = ⟨true, 0, 0, (wC 5 499918267762 132441313600882 127979076547167 a), 4⟩ := by kernel_rfl
theorem wr19 (e : TypeId) {a : Nat} (ha : a ≤ 50) : Ran (wordsR e (nW a 5) (vW a 5 499918267762) (wC 5 499918267762 132441313600882 127979076547167 a) (.ofNat 19) (.ofNat a) (fun v => v = .bool true)) := by
  have h := words19 e (nW a 5) (vW a 5 499918267762) a (fun v => v = .bool true)
  refine ⟨?_⟩
  rw [h]
  refine bcase_mk (fun _ => rfl) fun _ => ?_
  refine bcase_t (oblN ha) (bcase_t (oblR a) ?_)
  refine bcase_t (Nat.ble_eq_true_of_le ?_) ?_
  · show a + 5 ≤ _; omega
  refine bcase_t (Nat.ble_eq_true_of_le ?_) ?_
  · show a + 5 + 1 ≤ _; omega
  refine bcase_t (Nat.ble_eq_true_of_le ?_) ?_
  · show a + 5 + 1 + 5 ≤ _; omega
  refine bcase_t (Nat.ble_eq_true_of_le ?_) ?_
  · show a + 5 + 1 + 5 + 3 ≤ _; omega
  refine bcase_t (Nat.ble_eq_true_of_le ?_) ?_
  · show a + 5 + 1 + 5 + 3 + 5 ≤ _; omega
  refine bcase_t (obl _ _) ?_
  refine bcase_yes (eqNT rfl) ?_
  refine bcase_t (in1 (by omega)) ?_
  refine bcase_t (in2 (by omega)) ?_
  refine bcase_yes (eq2 (by omega)) ?_
  refine bcase_t (in1 (by omega)) ?_
  refine bcase_t (in2 (by omega)) ?_
  refine bcase_yes (eq2 (by omega)) ?_
  exact rfl
theorem wordOK19 {a : Nat} (ha : a ≤ 50) : WordOK (.ofNat 19) a := by
  have h := text_toks (a := a) (L := 5) (w := 499918267762) (W := 2595724051226734794894687160979872410508682610) ha (by decide) (by kernel_rfl)
  exact ⟨nW a 5, vW a 5 499918267762, (wC 5 499918267762 132441313600882 127979076547167 a), h.1, h.2.trans (tw19 a), fun e => wr19 e ha⟩
theorem tw20 (a : Nat) : tokS a 13 8904950454356787961141830641010 14 0 [] 0 = ⟨true, 0, 0, (wC 3 7366002 2020631922 1885696607 a), 4⟩ := by kernel_rfl
theorem wr20 (e : TypeId) {a : Nat} (ha : a ≤ 50) : Ran (wordsR e (nW a 3) (vW a 3 7366002) (wC 3 7366002 2020631922 1885696607 a) (.ofNat 20) (.ofNat a) (fun v => v = .bool true)) := by
  have h := words20 e (nW a 3) (vW a 3 7366002) a (fun v => v = .bool true)
  refine ⟨?_⟩
  rw [h]
  refine bcase_mk (fun _ => rfl) fun _ => ?_
  refine bcase_t (oblN ha) (bcase_t (oblR a) ?_)
  refine bcase_t (Nat.ble_eq_true_of_le ?_) ?_
  · show a + 3 ≤ _; omega
  refine bcase_t (Nat.ble_eq_true_of_le ?_) ?_
  · show a + 3 + 1 ≤ _; omega
  refine bcase_t (Nat.ble_eq_true_of_le ?_) ?_
  · show a + 3 + 1 + 3 ≤ _; omega
  refine bcase_t (Nat.ble_eq_true_of_le ?_) ?_
  · show a + 3 + 1 + 3 + 3 ≤ _; omega
  refine bcase_t (Nat.ble_eq_true_of_le ?_) ?_
  · show a + 3 + 1 + 3 + 3 + 3 ≤ _; omega
  refine bcase_t (obl _ _) ?_
  refine bcase_yes (eqNT rfl) ?_
  refine bcase_t (in1 (by omega)) ?_
  refine bcase_t (in2 (by omega)) ?_
  refine bcase_yes (eq2 (by omega)) ?_
  refine bcase_t (in1 (by omega)) ?_
  refine bcase_t (in2 (by omega)) ?_
  refine bcase_yes (eq2 (by omega)) ?_
  exact rfl
theorem wordOK20 {a : Nat} (ha : a ≤ 50) : WordOK (.ofNat 20) a := by
  have h := text_toks (a := a) (L := 3) (w := 7366002) (W := 8904950454356787961141830641010) ha (by decide) (by kernel_rfl)
  exact ⟨nW a 3, vW a 3 7366002, (wC 3 7366002 2020631922 1885696607 a), h.1, h.2.trans (tw20 a), fun e => wr20 e ha⟩
theorem tw21 (a : Nat) : tokS a 13 8903706469688404503301536637293 14 0 [] 0 = ⟨true, 0, 0, (wC 3 7364973 2020630893 1885433183 a), 4⟩ := by kernel_rfl
theorem wr21 (e : TypeId) {a : Nat} (ha : a ≤ 50) : Ran (wordsR e (nW a 3) (vW a 3 7364973) (wC 3 7364973 2020630893 1885433183 a) (.ofNat 21) (.ofNat a) (fun v => v = .bool true)) := by
  have h := words21 e (nW a 3) (vW a 3 7364973) a (fun v => v = .bool true)
  refine ⟨?_⟩
  rw [h]
  refine bcase_mk (fun _ => rfl) fun _ => ?_
  refine bcase_t (oblN ha) (bcase_t (oblR a) ?_)
  refine bcase_t (Nat.ble_eq_true_of_le ?_) ?_
  · show a + 3 ≤ _; omega
  refine bcase_t (Nat.ble_eq_true_of_le ?_) ?_
  · show a + 3 + 1 ≤ _; omega
  refine bcase_t (Nat.ble_eq_true_of_le ?_) ?_
  · show a + 3 + 1 + 3 ≤ _; omega
  refine bcase_t (Nat.ble_eq_true_of_le ?_) ?_
  · show a + 3 + 1 + 3 + 3 ≤ _; omega
  refine bcase_t (Nat.ble_eq_true_of_le ?_) ?_
  · show a + 3 + 1 + 3 + 3 + 3 ≤ _; omega
  refine bcase_t (obl _ _) ?_
  refine bcase_yes (eqNT rfl) ?_
  refine bcase_t (in1 (by omega)) ?_
  refine bcase_t (in2 (by omega)) ?_
  refine bcase_yes (eq2 (by omega)) ?_
  refine bcase_t (in1 (by omega)) ?_
  refine bcase_t (in2 (by omega)) ?_
  refine bcase_yes (eq2 (by omega)) ?_
  exact rfl
theorem wordOK21 {a : Nat} (ha : a ≤ 50) : WordOK (.ofNat 21) a := by
  have h := text_toks (a := a) (L := 3) (w := 7364973) (W := 8903706469688404503301536637293) ha (by decide) (by kernel_rfl)
  exact ⟨nW a 3, vW a 3 7364973, (wC 3 7364973 2020630893 1885433183 a), h.1, h.2.trans (tw21 a), fun e => wr21 e ha⟩
theorem tw22 (a : Nat) : tokS a 16 133485827097392260560362869876612427622 17 0 [] 0 = ⟨true, 0, 0, (wC 4 1684828006 517080903526 431315969631 a), 4⟩ := by kernel_rfl
theorem wr22 (e : TypeId) {a : Nat} (ha : a ≤ 50) : Ran (wordsR e (nW a 4) (vW a 4 1684828006) (wC 4 1684828006 517080903526 431315969631 a) (.ofNat 22) (.ofNat a) (fun v => v = .bool true)) := by
  have h := words22 e (nW a 4) (vW a 4 1684828006) a (fun v => v = .bool true)
  refine ⟨?_⟩
  rw [h]
  refine bcase_mk (fun _ => rfl) fun _ => ?_
  refine bcase_t (oblN ha) (bcase_t (oblR a) ?_)
  refine bcase_t (Nat.ble_eq_true_of_le ?_) ?_
  · show a + 4 ≤ _; omega
  refine bcase_t (Nat.ble_eq_true_of_le ?_) ?_
  · show a + 4 + 1 ≤ _; omega
  refine bcase_t (Nat.ble_eq_true_of_le ?_) ?_
  · show a + 4 + 1 + 4 ≤ _; omega
  refine bcase_t (Nat.ble_eq_true_of_le ?_) ?_
  · show a + 4 + 1 + 4 + 3 ≤ _; omega
  refine bcase_t (Nat.ble_eq_true_of_le ?_) ?_
  · show a + 4 + 1 + 4 + 3 + 4 ≤ _; omega
  refine bcase_t (obl _ _) ?_
  refine bcase_yes (eqNT rfl) ?_
  refine bcase_t (in1 (by omega)) ?_
  refine bcase_t (in2 (by omega)) ?_
  refine bcase_yes (eq2 (by omega)) ?_
  refine bcase_t (in1 (by omega)) ?_
  refine bcase_t (in2 (by omega)) ?_
  refine bcase_yes (eq2 (by omega)) ?_
  exact rfl
theorem wordOK22 {a : Nat} (ha : a ≤ 50) : WordOK (.ofNat 22) a := by
  have h := text_toks (a := a) (L := 4) (w := 1684828006) (W := 133485827097392260560362869876612427622) ha (by decide) (by kernel_rfl)
  exact ⟨nW a 4, vW a 4 1684828006, (wC 4 1684828006 517080903526 431315969631 a), h.1, h.2.trans (tw22 a), fun e => wr22 e ha⟩
theorem tw23 (a : Nat) : tokS a 10 521514756318891297762927 11 0 [] 0 = ⟨true, 0, 0, (wC 2 28271 7892591 7237471 a), 4⟩ := by kernel_rfl
theorem wr23 (e : TypeId) {a : Nat} (ha : a ≤ 50) : Ran (wordsR e (nW a 2) (vW a 2 28271) (wC 2 28271 7892591 7237471 a) (.ofNat 23) (.ofNat a) (fun v => v = .bool true)) := by
  have h := words23 e (nW a 2) (vW a 2 28271) a (fun v => v = .bool true)
  refine ⟨?_⟩
  rw [h]
  refine bcase_mk (fun _ => rfl) fun _ => ?_
  refine bcase_t (oblN ha) (bcase_t (oblR a) ?_)
  refine bcase_t (Nat.ble_eq_true_of_le ?_) ?_
  · show a + 2 ≤ _; omega
  refine bcase_t (Nat.ble_eq_true_of_le ?_) ?_
  · show a + 2 + 1 ≤ _; omega
  refine bcase_t (Nat.ble_eq_true_of_le ?_) ?_
  · show a + 2 + 1 + 2 ≤ _; omega
  refine bcase_t (Nat.ble_eq_true_of_le ?_) ?_
  · show a + 2 + 1 + 2 + 3 ≤ _; omega
  refine bcase_t (Nat.ble_eq_true_of_le ?_) ?_
  · show a + 2 + 1 + 2 + 3 + 2 ≤ _; omega
  refine bcase_t (obl _ _) ?_
  refine bcase_yes (eqNT rfl) ?_
  refine bcase_t (in1 (by omega)) ?_
  refine bcase_t (in2 (by omega)) ?_
  refine bcase_yes (eq2 (by omega)) ?_
  refine bcase_t (in1 (by omega)) ?_
  refine bcase_t (in2 (by omega)) ?_
  refine bcase_yes (eq2 (by omega)) ?_
  exact rfl
theorem wordOK23 {a : Nat} (ha : a ≤ 50) : WordOK (.ofNat 23) a := by
  have h := text_toks (a := a) (L := 2) (w := 28271) (W := 521514756318891297762927) ha (by decide) (by kernel_rfl)
  exact ⟨nW a 2, vW a 2 28271, (wC 2 28271 7892591 7237471 a), h.1, h.2.trans (tw23 a), fun e => wr23 e ha⟩
theorem tw24 (a : Nat) : tokS a 16 134861847721327076055731571793386107508 17 0 [] 0 = ⟨true, 0, 0, (wC 4 1702195828 517098271348 435762132063 a), 4⟩ := by kernel_rfl
theorem wr24 (e : TypeId) {a : Nat} (ha : a ≤ 50) : Ran (wordsR e (nW a 4) (vW a 4 1702195828) (wC 4 1702195828 517098271348 435762132063 a) (.ofNat 24) (.ofNat a) (fun v => v = .bool true)) := by
  have h := words24 e (nW a 4) (vW a 4 1702195828) a (fun v => v = .bool true)
  refine ⟨?_⟩
  rw [h]
  refine bcase_mk (fun _ => rfl) fun _ => ?_
  refine bcase_t (oblN ha) (bcase_t (oblR a) ?_)
  refine bcase_t (Nat.ble_eq_true_of_le ?_) ?_
  · show a + 4 ≤ _; omega
  refine bcase_t (Nat.ble_eq_true_of_le ?_) ?_
  · show a + 4 + 1 ≤ _; omega
  refine bcase_t (Nat.ble_eq_true_of_le ?_) ?_
  · show a + 4 + 1 + 4 ≤ _; omega
  refine bcase_t (Nat.ble_eq_true_of_le ?_) ?_
  · show a + 4 + 1 + 4 + 3 ≤ _; omega
  refine bcase_t (Nat.ble_eq_true_of_le ?_) ?_
  · show a + 4 + 1 + 4 + 3 + 4 ≤ _; omega
  refine bcase_t (obl _ _) ?_
  refine bcase_yes (eqNT rfl) ?_
  refine bcase_t (in1 (by omega)) ?_
  refine bcase_t (in2 (by omega)) ?_
  refine bcase_yes (eq2 (by omega)) ?_
  refine bcase_t (in1 (by omega)) ?_
  refine bcase_t (in2 (by omega)) ?_
  refine bcase_yes (eq2 (by omega)) ?_
  exact rfl
theorem wordOK24 {a : Nat} (ha : a ≤ 50) : WordOK (.ofNat 24) a := by
  have h := text_toks (a := a) (L := 4) (w := 1702195828) (W := 134861847721327076055731571793386107508) ha (by decide) (by kernel_rfl)
  exact ⟨nW a 4, vW a 4 1702195828, (wC 4 1702195828 517098271348 435762132063 a), h.1, h.2.trans (tw24 a), fun e => wr24 e ha⟩
theorem tw25 (a : Nat) : tokS a 19 2262430057896032099195310551121060307122544998 20 0 [] 0 = ⟨true, 0, 0, (wC 5 435728179558 132377123512678 111546413966943 a), 4⟩ := by kernel_rfl
theorem wr25 (e : TypeId) {a : Nat} (ha : a ≤ 50) : Ran (wordsR e (nW a 5) (vW a 5 435728179558) (wC 5 435728179558 132377123512678 111546413966943 a) (.ofNat 25) (.ofNat a) (fun v => v = .bool true)) := by
  have h := words25 e (nW a 5) (vW a 5 435728179558) a (fun v => v = .bool true)
  refine ⟨?_⟩
  rw [h]
  refine bcase_mk (fun _ => rfl) fun _ => ?_
  refine bcase_t (oblN ha) (bcase_t (oblR a) ?_)
  refine bcase_t (Nat.ble_eq_true_of_le ?_) ?_
  · show a + 5 ≤ _; omega
  refine bcase_t (Nat.ble_eq_true_of_le ?_) ?_
  · show a + 5 + 1 ≤ _; omega
  refine bcase_t (Nat.ble_eq_true_of_le ?_) ?_
  · show a + 5 + 1 + 5 ≤ _; omega
  refine bcase_t (Nat.ble_eq_true_of_le ?_) ?_
  · show a + 5 + 1 + 5 + 3 ≤ _; omega
  refine bcase_t (Nat.ble_eq_true_of_le ?_) ?_
  · show a + 5 + 1 + 5 + 3 + 5 ≤ _; omega
  refine bcase_t (obl _ _) ?_
  refine bcase_yes (eqNT rfl) ?_
  refine bcase_t (in1 (by omega)) ?_
  refine bcase_t (in2 (by omega)) ?_
  refine bcase_yes (eq2 (by omega)) ?_
  refine bcase_t (in1 (by omega)) ?_
  refine bcase_t (in2 (by omega)) ?_
  refine bcase_yes (eq2 (by omega)) ?_
  exact rfl
theorem wordOK25 {a : Nat} (ha : a ≤ 50) : WordOK (.ofNat 25) a := by
  have h := text_toks (a := a) (L := 5) (w := 435728179558) (W := 2262430057896032099195310551121060307122544998) ha (by decide) (by kernel_rfl)
  exact ⟨nW a 5, vW a 5 435728179558, (wC 5 435728179558 132377123512678 111546413966943 a), h.1, h.2.trans (tw25 a), fun e => wr25 e ha⟩
theorem tw26 (a : Nat) : tokS a 31 195122408584240810490706189371366598863128786996056789018598724600839042401 32 0 [] 0 = ⟨true, 0, 0, (wC 9 2037172999266208347489 568721150943623633991009 521516287812149336957279 a), 4⟩ := by kernel_rfl
theorem wr26 (e : TypeId) {a : Nat} (ha : a ≤ 50) : Ran (wordsR e (nW a 9) (vW a 9 2037172999266208347489) (wC 9 2037172999266208347489 568721150943623633991009 521516287812149336957279 a) (.ofNat 26) (.ofNat a) (fun v => v = .bool true)) := by
  have h := words26 e (nW a 9) (vW a 9 2037172999266208347489) a (fun v => v = .bool true)
  refine ⟨?_⟩
  rw [h]
  refine bcase_mk (fun _ => rfl) fun _ => ?_
  refine bcase_t (oblN ha) (bcase_t (oblR a) ?_)
  refine bcase_t (Nat.ble_eq_true_of_le ?_) ?_
  · show a + 9 ≤ _; omega
  refine bcase_t (Nat.ble_eq_true_of_le ?_) ?_
  · show a + 9 + 1 ≤ _; omega
  refine bcase_t (Nat.ble_eq_true_of_le ?_) ?_
  · show a + 9 + 1 + 9 ≤ _; omega
  refine bcase_t (Nat.ble_eq_true_of_le ?_) ?_
  · show a + 9 + 1 + 9 + 3 ≤ _; omega
  refine bcase_t (Nat.ble_eq_true_of_le ?_) ?_
  · show a + 9 + 1 + 9 + 3 + 9 ≤ _; omega
  refine bcase_t (obl _ _) ?_
  refine bcase_yes (eqNT rfl) ?_
  refine bcase_t (in1 (by omega)) ?_
  refine bcase_t (in2 (by omega)) ?_
  refine bcase_yes (eq2 (by omega)) ?_
  refine bcase_t (in1 (by omega)) ?_
  refine bcase_t (in2 (by omega)) ?_
  refine bcase_yes (eq2 (by omega)) ?_
  exact rfl
theorem wordOK26 {a : Nat} (ha : a ≤ 50) : WordOK (.ofNat 26) a := by
  have h := text_toks (a := a) (L := 9) (w := 2037172999266208347489) (W := 195122408584240810490706189371366598863128786996056789018598724600839042401) ha (by decide) (by kernel_rfl)
  exact ⟨nW a 9, vW a 9 2037172999266208347489, (wC 9 2037172999266208347489 568721150943623633991009 521516287812149336957279 a), h.1, h.2.trans (tw26 a), fun e => wr26 e ha⟩
theorem tw27 (a : Nat) : tokS a 19 2262513452398759508193217943068163208214836339 20 0 [] 0 = ⟨true, 0, 0, (wC 5 435744240755 132377139573875 111550525633375 a), 4⟩ := by kernel_rfl
theorem wr27 (e : TypeId) {a : Nat} (ha : a ≤ 50) : Ran (wordsR e (nW a 5) (vW a 5 435744240755) (wC 5 435744240755 132377139573875 111550525633375 a) (.ofNat 27) (.ofNat a) (fun v => v = .bool true)) := by
  have h := words27 e (nW a 5) (vW a 5 435744240755) a (fun v => v = .bool true)
  refine ⟨?_⟩
  rw [h]
  refine bcase_mk (fun _ => rfl) fun _ => ?_
  refine bcase_t (oblN ha) (bcase_t (oblR a) ?_)
  refine bcase_t (Nat.ble_eq_true_of_le ?_) ?_
  · show a + 5 ≤ _; omega
  refine bcase_t (Nat.ble_eq_true_of_le ?_) ?_
  · show a + 5 + 1 ≤ _; omega
  refine bcase_t (Nat.ble_eq_true_of_le ?_) ?_
  · show a + 5 + 1 + 5 ≤ _; omega
  refine bcase_t (Nat.ble_eq_true_of_le ?_) ?_
  · show a + 5 + 1 + 5 + 3 ≤ _; omega
  refine bcase_t (Nat.ble_eq_true_of_le ?_) ?_
  · show a + 5 + 1 + 5 + 3 + 5 ≤ _; omega
  refine bcase_t (obl _ _) ?_
  refine bcase_yes (eqNT rfl) ?_
  refine bcase_t (in1 (by omega)) ?_
  refine bcase_t (in2 (by omega)) ?_
  refine bcase_yes (eq2 (by omega)) ?_
  refine bcase_t (in1 (by omega)) ?_
  refine bcase_t (in2 (by omega)) ?_
  refine bcase_yes (eq2 (by omega)) ?_
  exact rfl
theorem wordOK27 {a : Nat} (ha : a ≤ 50) : WordOK (.ofNat 27) a := by
  have h := text_toks (a := a) (L := 5) (w := 435744240755) (W := 2262513452398759508193217943068163208214836339) ha (by decide) (by kernel_rfl)
  exact ⟨nW a 5, vW a 5 435744240755, (wC 5 435744240755 132377139573875 111550525633375 a), h.1, h.2.trans (tw27 a), fun e => wr27 e ha⟩
theorem tw28 (a : Nat) : tokS a 10 526034208616954248327012 11 0 [] 0 = ⟨true, 0, 0, (wC 2 28516 7892836 7300191 a), 4⟩ := by kernel_rfl
theorem wr28 (e : TypeId) {a : Nat} (ha : a ≤ 50) : Ran (wordsR e (nW a 2) (vW a 2 28516) (wC 2 28516 7892836 7300191 a) (.ofNat 28) (.ofNat a) (fun v => v = .bool true)) := by
  have h := words28 e (nW a 2) (vW a 2 28516) a (fun v => v = .bool true)
  refine ⟨?_⟩
  rw [h]
  refine bcase_mk (fun _ => rfl) fun _ => ?_
  refine bcase_t (oblN ha) (bcase_t (oblR a) ?_)
  refine bcase_t (Nat.ble_eq_true_of_le ?_) ?_
  · show a + 2 ≤ _; omega
  refine bcase_t (Nat.ble_eq_true_of_le ?_) ?_
  · show a + 2 + 1 ≤ _; omega
  refine bcase_t (Nat.ble_eq_true_of_le ?_) ?_
  · show a + 2 + 1 + 2 ≤ _; omega
  refine bcase_t (Nat.ble_eq_true_of_le ?_) ?_
  · show a + 2 + 1 + 2 + 3 ≤ _; omega
  refine bcase_t (Nat.ble_eq_true_of_le ?_) ?_
  · show a + 2 + 1 + 2 + 3 + 2 ≤ _; omega
  refine bcase_t (obl _ _) ?_
  refine bcase_yes (eqNT rfl) ?_
  refine bcase_t (in1 (by omega)) ?_
  refine bcase_t (in2 (by omega)) ?_
  refine bcase_yes (eq2 (by omega)) ?_
  refine bcase_t (in1 (by omega)) ?_
  refine bcase_t (in2 (by omega)) ?_
  refine bcase_yes (eq2 (by omega)) ?_
  exact rfl
theorem wordOK28 {a : Nat} (ha : a ≤ 50) : WordOK (.ofNat 28) a := by
  have h := text_toks (a := a) (L := 2) (w := 28516) (W := 526034208616954248327012) ha (by decide) (by kernel_rfl)
  exact ⟨nW a 2, vW a 2 28516, (wC 2 28516 7892836 7300191 a), h.1, h.2.trans (tw28 a), fun e => wr28 e ha⟩
theorem tw29 (a : Nat) : tokS a 22 43195259917485461331288664140312260684311995056156277 23 0 [] 0 = ⟨true, 0, 0, (wC 6 126939460038261 33903936665316981 32496501769794911 a), 4⟩ := by kernel_rfl
theorem wr29 (e : TypeId) {a : Nat} (ha : a ≤ 50) : Ran (wordsR e (nW a 6) (vW a 6 126939460038261) (wC 6 126939460038261 33903936665316981 32496501769794911 a) (.ofNat 29) (.ofNat a) (fun v => v = .bool true)) := by
  have h := words29 e (nW a 6) (vW a 6 126939460038261) a (fun v => v = .bool true)
  refine ⟨?_⟩
  rw [h]
  refine bcase_mk (fun _ => rfl) fun _ => ?_
  refine bcase_t (oblN ha) (bcase_t (oblR a) ?_)
  refine bcase_t (Nat.ble_eq_true_of_le ?_) ?_
  · show a + 6 ≤ _; omega
  refine bcase_t (Nat.ble_eq_true_of_le ?_) ?_
  · show a + 6 + 1 ≤ _; omega
  refine bcase_t (Nat.ble_eq_true_of_le ?_) ?_
  · show a + 6 + 1 + 6 ≤ _; omega
  refine bcase_t (Nat.ble_eq_true_of_le ?_) ?_
  · show a + 6 + 1 + 6 + 3 ≤ _; omega
  refine bcase_t (Nat.ble_eq_true_of_le ?_) ?_
  · show a + 6 + 1 + 6 + 3 + 6 ≤ _; omega
  refine bcase_t (obl _ _) ?_
  refine bcase_yes (eqNT rfl) ?_
  refine bcase_t (in1 (by omega)) ?_
  refine bcase_t (in2 (by omega)) ?_
  refine bcase_yes (eq2 (by omega)) ?_
  refine bcase_t (in1 (by omega)) ?_
  refine bcase_t (in2 (by omega)) ?_
  refine bcase_yes (eq2 (by omega)) ?_
  exact rfl
theorem wordOK29 {a : Nat} (ha : a ≤ 50) : WordOK (.ofNat 29) a := by
  have h := text_toks (a := a) (L := 6) (w := 126939460038261) (W := 43195259917485461331288664140312260684311995056156277) ha (by decide) (by kernel_rfl)
  exact ⟨nW a 6, vW a 6 126939460038261, (wC 6 126939460038261 33903936665316981 32496501769794911 a), h.1, h.2.trans (tw29 a), fun e => wr29 e ha⟩
theorem tw30 (a : Nat) : tokS a 19 2417666891043212624317646214796279368260021877 20 0 [] 0 = ⟨true, 0, 0, (wC 5 465625706101 132407021039221 119200180761951 a), 4⟩ := by kernel_rfl
theorem wr30 (e : TypeId) {a : Nat} (ha : a ≤ 50) : Ran (wordsR e (nW a 5) (vW a 5 465625706101) (wC 5 465625706101 132407021039221 119200180761951 a) (.ofNat 30) (.ofNat a) (fun v => v = .bool true)) := by
  have h := words30 e (nW a 5) (vW a 5 465625706101) a (fun v => v = .bool true)
  refine ⟨?_⟩
  rw [h]
  refine bcase_mk (fun _ => rfl) fun _ => ?_
  refine bcase_t (oblN ha) (bcase_t (oblR a) ?_)
  refine bcase_t (Nat.ble_eq_true_of_le ?_) ?_
  · show a + 5 ≤ _; omega
  refine bcase_t (Nat.ble_eq_true_of_le ?_) ?_
  · show a + 5 + 1 ≤ _; omega
  refine bcase_t (Nat.ble_eq_true_of_le ?_) ?_
  · show a + 5 + 1 + 5 ≤ _; omega
  refine bcase_t (Nat.ble_eq_true_of_le ?_) ?_
  · show a + 5 + 1 + 5 + 3 ≤ _; omega
  refine bcase_t (Nat.ble_eq_true_of_le ?_) ?_
  · show a + 5 + 1 + 5 + 3 + 5 ≤ _; omega
  refine bcase_t (obl _ _) ?_
  refine bcase_yes (eqNT rfl) ?_
  refine bcase_t (in1 (by omega)) ?_
  refine bcase_t (in2 (by omega)) ?_
  refine bcase_yes (eq2 (by omega)) ?_
  refine bcase_t (in1 (by omega)) ?_
  refine bcase_t (in2 (by omega)) ?_
  refine bcase_yes (eq2 (by omega)) ?_
  exact rfl
theorem wordOK30 {a : Nat} (ha : a ≤ 50) : WordOK (.ofNat 30) a := by
  have h := text_toks (a := a) (L := 5) (w := 465625706101) (W := 2417666891043212624317646214796279368260021877) ha (by decide) (by kernel_rfl)
  exact ⟨nW a 5, vW a 5 465625706101, (wC 5 465625706101 132407021039221 119200180761951 a), h.1, h.2.trans (tw30 a), fun e => wr30 e ha⟩
theorem tw31 (a : Nat) : tokS a 28 10684849891961361143707352896013122999472025367097408031482291580771 29 0 [] 0 = ⟨true, 0, 0, (wC 8 7310870969309884259 2220920159814456078179 1871582968143330370399 a), 4⟩ := by kernel_rfl
theorem wr31 (e : TypeId) {a : Nat} (ha : a ≤ 50) : Ran (wordsR e (nW a 8) (vW a 8 7310870969309884259) (wC 8 7310870969309884259 2220920159814456078179 1871582968143330370399 a) (.ofNat 31) (.ofNat a) (fun v => v = .bool true)) := by
  have h := words31 e (nW a 8) (vW a 8 7310870969309884259) a (fun v => v = .bool true)
  refine ⟨?_⟩
  rw [h]
  refine bcase_mk (fun _ => rfl) fun _ => ?_
  refine bcase_t (oblN ha) (bcase_t (oblR a) ?_)
  refine bcase_t (Nat.ble_eq_true_of_le ?_) ?_
  · show a + 8 ≤ _; omega
  refine bcase_t (Nat.ble_eq_true_of_le ?_) ?_
  · show a + 8 + 1 ≤ _; omega
  refine bcase_t (Nat.ble_eq_true_of_le ?_) ?_
  · show a + 8 + 1 + 8 ≤ _; omega
  refine bcase_t (Nat.ble_eq_true_of_le ?_) ?_
  · show a + 8 + 1 + 8 + 3 ≤ _; omega
  refine bcase_t (Nat.ble_eq_true_of_le ?_) ?_
  · show a + 8 + 1 + 8 + 3 + 8 ≤ _; omega
  refine bcase_t (obl _ _) ?_
  refine bcase_yes (eqNT rfl) ?_
  refine bcase_t (in1 (by omega)) ?_
  refine bcase_t (in2 (by omega)) ?_
  refine bcase_yes (eq2 (by omega)) ?_
  refine bcase_t (in1 (by omega)) ?_
  refine bcase_t (in2 (by omega)) ?_
  refine bcase_yes (eq2 (by omega)) ?_
  exact rfl
theorem wordOK31 {a : Nat} (ha : a ≤ 50) : WordOK (.ofNat 31) a := by
  have h := text_toks (a := a) (L := 8) (w := 7310870969309884259) (W := 10684849891961361143707352896013122999472025367097408031482291580771) ha (by decide) (by kernel_rfl)
  exact ⟨nW a 8, vW a 8 7310870969309884259, (wC 8 7310870969309884259 2220920159814456078179 1871582968143330370399 a), h.1, h.2.trans (tw31 a), fun e => wr31 e ha⟩
theorem tw32 (a : Nat) : tokS a 13 7956982153238349657598603849317 14 0 [] 0 = ⟨true, 0, 0, (wC 3 6581861 2019847781 1684956511 a), 4⟩ := by kernel_rfl
theorem wr32 (e : TypeId) {a : Nat} (ha : a ≤ 50) : Ran (wordsR e (nW a 3) (vW a 3 6581861) (wC 3 6581861 2019847781 1684956511 a) (.ofNat 32) (.ofNat a) (fun v => v = .bool true)) := by
  have h := words32 e (nW a 3) (vW a 3 6581861) a (fun v => v = .bool true)
  refine ⟨?_⟩
  rw [h]
  refine bcase_mk (fun _ => rfl) fun _ => ?_
  refine bcase_t (oblN ha) (bcase_t (oblR a) ?_)
  refine bcase_t (Nat.ble_eq_true_of_le ?_) ?_
  · show a + 3 ≤ _; omega
  refine bcase_t (Nat.ble_eq_true_of_le ?_) ?_
  · show a + 3 + 1 ≤ _; omega
  refine bcase_t (Nat.ble_eq_true_of_le ?_) ?_
  · show a + 3 + 1 + 3 ≤ _; omega
  refine bcase_t (Nat.ble_eq_true_of_le ?_) ?_
  · show a + 3 + 1 + 3 + 3 ≤ _; omega
  refine bcase_t (Nat.ble_eq_true_of_le ?_) ?_
  · show a + 3 + 1 + 3 + 3 + 3 ≤ _; omega
  refine bcase_t (obl _ _) ?_
  refine bcase_yes (eqNT rfl) ?_
  refine bcase_t (in1 (by omega)) ?_
  refine bcase_t (in2 (by omega)) ?_
  refine bcase_yes (eq2 (by omega)) ?_
  refine bcase_t (in1 (by omega)) ?_
  refine bcase_t (in2 (by omega)) ?_
  refine bcase_yes (eq2 (by omega)) ?_
  exact rfl
theorem wordOK32 {a : Nat} (ha : a ≤ 50) : WordOK (.ofNat 32) a := by
  have h := text_toks (a := a) (L := 3) (w := 6581861) (W := 7956982153238349657598603849317) ha (by decide) (by kernel_rfl)
  exact ⟨nW a 3, vW a 3 6581861, (wC 3 6581861 2019847781 1684956511 a), h.1, h.2.trans (tw32 a), fun e => wr32 e ha⟩
theorem tw33 (a : Nat) : tokS a 16 144135227637334542117211688447545143138 17 0 [] 0 = ⟨true, 0, 0, (wC 4 1819242338 517215317858 465726038623 a), 4⟩ := by kernel_rfl
theorem wr33 (e : TypeId) {a : Nat} (ha : a ≤ 50) : Ran (wordsR e (nW a 4) (vW a 4 1819242338) (wC 4 1819242338 517215317858 465726038623 a) (.ofNat 33) (.ofNat a) (fun v => v = .bool true)) := by
  have h := words33 e (nW a 4) (vW a 4 1819242338) a (fun v => v = .bool true)
  refine ⟨?_⟩
  rw [h]
  refine bcase_mk (fun _ => rfl) fun _ => ?_
  refine bcase_t (oblN ha) (bcase_t (oblR a) ?_)
  refine bcase_t (Nat.ble_eq_true_of_le ?_) ?_
  · show a + 4 ≤ _; omega
  refine bcase_t (Nat.ble_eq_true_of_le ?_) ?_
  · show a + 4 + 1 ≤ _; omega
  refine bcase_t (Nat.ble_eq_true_of_le ?_) ?_
  · show a + 4 + 1 + 4 ≤ _; omega
  refine bcase_t (Nat.ble_eq_true_of_le ?_) ?_
  · show a + 4 + 1 + 4 + 3 ≤ _; omega
  refine bcase_t (Nat.ble_eq_true_of_le ?_) ?_
  · show a + 4 + 1 + 4 + 3 + 4 ≤ _; omega
  refine bcase_t (obl _ _) ?_
  refine bcase_yes (eqNT rfl) ?_
  refine bcase_t (in1 (by omega)) ?_
  refine bcase_t (in2 (by omega)) ?_
  refine bcase_yes (eq2 (by omega)) ?_
  refine bcase_t (in1 (by omega)) ?_
  refine bcase_t (in2 (by omega)) ?_
  refine bcase_yes (eq2 (by omega)) ?_
  exact rfl
theorem wordOK33 {a : Nat} (ha : a ≤ 50) : WordOK (.ofNat 33) a := by
  have h := text_toks (a := a) (L := 4) (w := 1819242338) (W := 144135227637334542117211688447545143138) ha (by decide) (by kernel_rfl)
  exact ⟨nW a 4, vW a 4 1819242338, (wC 4 1819242338 517215317858 465726038623 a), h.1, h.2.trans (tw33 a), fun e => wr33 e ha⟩
theorem tw34 (a : Nat) : tokS a 10 266396285779256170002537 11 0 [] 0 = ⟨true, 0, 0, (wC 2 14441 7878761 3696991 a), 4⟩ := by kernel_rfl
theorem wr34 (e : TypeId) {a : Nat} (ha : a ≤ 50) : Ran (wordsR e (nW a 2) (vW a 2 14441) (wC 2 14441 7878761 3696991 a) (.ofNat 34) (.ofNat a) (fun v => v = .bool true)) := by
  have h := words34 e (nW a 2) (vW a 2 14441) a (fun v => v = .bool true)
  refine ⟨?_⟩
  rw [h]
  refine bcase_mk (fun _ => rfl) fun _ => ?_
  refine bcase_t (oblN ha) (bcase_t (oblR a) ?_)
  refine bcase_t (Nat.ble_eq_true_of_le ?_) ?_
  · show a + 2 ≤ _; omega
  refine bcase_t (Nat.ble_eq_true_of_le ?_) ?_
  · show a + 2 + 1 ≤ _; omega
  refine bcase_t (Nat.ble_eq_true_of_le ?_) ?_
  · show a + 2 + 1 + 2 ≤ _; omega
  refine bcase_t (Nat.ble_eq_true_of_le ?_) ?_
  · show a + 2 + 1 + 2 + 3 ≤ _; omega
  refine bcase_t (Nat.ble_eq_true_of_le ?_) ?_
  · show a + 2 + 1 + 2 + 3 + 2 ≤ _; omega
  refine bcase_t (obl _ _) ?_
  refine bcase_yes (eqNT rfl) ?_
  refine bcase_t (in1 (by omega)) ?_
  refine bcase_t (in2 (by omega)) ?_
  refine bcase_yes (eq2 (by omega)) ?_
  refine bcase_t (in1 (by omega)) ?_
  refine bcase_t (in2 (by omega)) ?_
  refine bcase_yes (eq2 (by omega)) ?_
  exact rfl
theorem wordOK34 {a : Nat} (ha : a ≤ 50) : WordOK (.ofNat 34) a := by
  have h := text_toks (a := a) (L := 2) (w := 14441) (W := 266396285779256170002537) ha (by decide) (by kernel_rfl)
  exact ⟨nW a 2, vW a 2 14441, (wC 2 14441 7878761 3696991 a), h.1, h.2.trans (tw34 a), fun e => wr34 e ha⟩
theorem tw35 (a : Nat) : tokS a 13 4293612927686353522718108168553 14 0 [] 0 = ⟨true, 0, 0, (wC 3 3551593 2016817513 909207903 a), 4⟩ := by kernel_rfl
theorem wr35 (e : TypeId) {a : Nat} (ha : a ≤ 50) : Ran (wordsR e (nW a 3) (vW a 3 3551593) (wC 3 3551593 2016817513 909207903 a) (.ofNat 35) (.ofNat a) (fun v => v = .bool true)) := by
  have h := words35 e (nW a 3) (vW a 3 3551593) a (fun v => v = .bool true)
  refine ⟨?_⟩
  rw [h]
  refine bcase_mk (fun _ => rfl) fun _ => ?_
  refine bcase_t (oblN ha) (bcase_t (oblR a) ?_)
  refine bcase_t (Nat.ble_eq_true_of_le ?_) ?_
  · show a + 3 ≤ _; omega
  refine bcase_t (Nat.ble_eq_true_of_le ?_) ?_
  · show a + 3 + 1 ≤ _; omega
  refine bcase_t (Nat.ble_eq_true_of_le ?_) ?_
  · show a + 3 + 1 + 3 ≤ _; omega
  refine bcase_t (Nat.ble_eq_true_of_le ?_) ?_
  · show a + 3 + 1 + 3 + 3 ≤ _; omega
  refine bcase_t (Nat.ble_eq_true_of_le ?_) ?_
  · show a + 3 + 1 + 3 + 3 + 3 ≤ _; omega
  refine bcase_t (obl _ _) ?_
  refine bcase_yes (eqNT rfl) ?_
  refine bcase_t (in1 (by omega)) ?_
  refine bcase_t (in2 (by omega)) ?_
  refine bcase_yes (eq2 (by omega)) ?_
  refine bcase_t (in1 (by omega)) ?_
  refine bcase_t (in2 (by omega)) ?_
  refine bcase_yes (eq2 (by omega)) ?_
  exact rfl
theorem wordOK35 {a : Nat} (ha : a ≤ 50) : WordOK (.ofNat 35) a := by
  have h := text_toks (a := a) (L := 3) (w := 3551593) (W := 4293612927686353522718108168553) ha (by decide) (by kernel_rfl)
  exact ⟨nW a 3, vW a 3 3551593, (wC 3 3551593 2016817513 909207903 a), h.1, h.2.trans (tw35 a), fun e => wr35 e ha⟩
theorem tw36 (a : Nat) : tokS a 13 3977319247648937738780498080617 14 0 [] 0 = ⟨true, 0, 0, (wC 3 3289961 2016555881 842230111 a), 4⟩ := by kernel_rfl
theorem wr36 (e : TypeId) {a : Nat} (ha : a ≤ 50) : Ran (wordsR e (nW a 3) (vW a 3 3289961) (wC 3 3289961 2016555881 842230111 a) (.ofNat 36) (.ofNat a) (fun v => v = .bool true)) := by
  have h := words36 e (nW a 3) (vW a 3 3289961) a (fun v => v = .bool true)
  refine ⟨?_⟩
  rw [h]
  refine bcase_mk (fun _ => rfl) fun _ => ?_
  refine bcase_t (oblN ha) (bcase_t (oblR a) ?_)
  refine bcase_t (Nat.ble_eq_true_of_le ?_) ?_
  · show a + 3 ≤ _; omega
  refine bcase_t (Nat.ble_eq_true_of_le ?_) ?_
  · show a + 3 + 1 ≤ _; omega
  refine bcase_t (Nat.ble_eq_true_of_le ?_) ?_
  · show a + 3 + 1 + 3 ≤ _; omega
  refine bcase_t (Nat.ble_eq_true_of_le ?_) ?_
  · show a + 3 + 1 + 3 + 3 ≤ _; omega
  refine bcase_t (Nat.ble_eq_true_of_le ?_) ?_
  · show a + 3 + 1 + 3 + 3 + 3 ≤ _; omega
  refine bcase_t (obl _ _) ?_
  refine bcase_yes (eqNT rfl) ?_
  refine bcase_t (in1 (by omega)) ?_
  refine bcase_t (in2 (by omega)) ?_
  refine bcase_yes (eq2 (by omega)) ?_
  refine bcase_t (in1 (by omega)) ?_
  refine bcase_t (in2 (by omega)) ?_
  refine bcase_yes (eq2 (by omega)) ?_
  exact rfl
theorem wordOK36 {a : Nat} (ha : a ≤ 50) : WordOK (.ofNat 36) a := by
  have h := text_toks (a := a) (L := 3) (w := 3289961) (W := 3977319247648937738780498080617) ha (by decide) (by kernel_rfl)
  exact ⟨nW a 3, vW a 3 3289961, (wC 3 3289961 2016555881 842230111 a), h.1, h.2.trans (tw36 a), fun e => wr36 e ha⟩
theorem tw37 (a : Nat) : tokS a 13 4136704027706931015422248760937 14 0 [] 0 = ⟨true, 0, 0, (wC 3 3421801 2016687721 875981151 a), 4⟩ := by kernel_rfl
theorem wr37 (e : TypeId) {a : Nat} (ha : a ≤ 50) : Ran (wordsR e (nW a 3) (vW a 3 3421801) (wC 3 3421801 2016687721 875981151 a) (.ofNat 37) (.ofNat a) (fun v => v = .bool true)) := by
  have h := words37 e (nW a 3) (vW a 3 3421801) a (fun v => v = .bool true)
  refine ⟨?_⟩
  rw [h]
  refine bcase_mk (fun _ => rfl) fun _ => ?_
  refine bcase_t (oblN ha) (bcase_t (oblR a) ?_)
  refine bcase_t (Nat.ble_eq_true_of_le ?_) ?_
  · show a + 3 ≤ _; omega
  refine bcase_t (Nat.ble_eq_true_of_le ?_) ?_
  · show a + 3 + 1 ≤ _; omega
  refine bcase_t (Nat.ble_eq_true_of_le ?_) ?_
  · show a + 3 + 1 + 3 ≤ _; omega
  refine bcase_t (Nat.ble_eq_true_of_le ?_) ?_
  · show a + 3 + 1 + 3 + 3 ≤ _; omega
  refine bcase_t (Nat.ble_eq_true_of_le ?_) ?_
  · show a + 3 + 1 + 3 + 3 + 3 ≤ _; omega
  refine bcase_t (obl _ _) ?_
  refine bcase_yes (eqNT rfl) ?_
  refine bcase_t (in1 (by omega)) ?_
  refine bcase_t (in2 (by omega)) ?_
  refine bcase_yes (eq2 (by omega)) ?_
  refine bcase_t (in1 (by omega)) ?_
  refine bcase_t (in2 (by omega)) ?_
  refine bcase_yes (eq2 (by omega)) ?_
  exact rfl
theorem wordOK37 {a : Nat} (ha : a ≤ 50) : WordOK (.ofNat 37) a := by
  have h := text_toks (a := a) (L := 3) (w := 3421801) (W := 4136704027706931015422248760937) ha (by decide) (by kernel_rfl)
  exact ⟨nW a 3, vW a 3 3421801, (wC 3 3421801 2016687721 875981151 a), h.1, h.2.trans (tw37 a), fun e => wr37 e ha⟩
theorem tw38 (a : Nat) : tokS a 10 266617646708140885948533 11 0 [] 0 = ⟨true, 0, 0, (wC 2 14453 7878773 3700063 a), 4⟩ := by kernel_rfl
theorem wr38 (e : TypeId) {a : Nat} (ha : a ≤ 50) : Ran (wordsR e (nW a 2) (vW a 2 14453) (wC 2 14453 7878773 3700063 a) (.ofNat 38) (.ofNat a) (fun v => v = .bool true)) := by
  have h := words38 e (nW a 2) (vW a 2 14453) a (fun v => v = .bool true)
  refine ⟨?_⟩
  rw [h]
  refine bcase_mk (fun _ => rfl) fun _ => ?_
  refine bcase_t (oblN ha) (bcase_t (oblR a) ?_)
  refine bcase_t (Nat.ble_eq_true_of_le ?_) ?_
  · show a + 2 ≤ _; omega
  refine bcase_t (Nat.ble_eq_true_of_le ?_) ?_
  · show a + 2 + 1 ≤ _; omega
  refine bcase_t (Nat.ble_eq_true_of_le ?_) ?_
  · show a + 2 + 1 + 2 ≤ _; omega
  refine bcase_t (Nat.ble_eq_true_of_le ?_) ?_
  · show a + 2 + 1 + 2 + 3 ≤ _; omega
  refine bcase_t (Nat.ble_eq_true_of_le ?_) ?_
  · show a + 2 + 1 + 2 + 3 + 2 ≤ _; omega
  refine bcase_t (obl _ _) ?_
  refine bcase_yes (eqNT rfl) ?_
  refine bcase_t (in1 (by omega)) ?_
  refine bcase_t (in2 (by omega)) ?_
  refine bcase_yes (eq2 (by omega)) ?_
  refine bcase_t (in1 (by omega)) ?_
  refine bcase_t (in2 (by omega)) ?_
  refine bcase_yes (eq2 (by omega)) ?_
  exact rfl
theorem wordOK38 {a : Nat} (ha : a ≤ 50) : WordOK (.ofNat 38) a := by
  have h := text_toks (a := a) (L := 2) (w := 14453) (W := 266617646708140885948533) ha (by decide) (by kernel_rfl)
  exact ⟨nW a 2, vW a 2 14453, (wC 2 14453 7878773 3700063 a), h.1, h.2.trans (tw38 a), fun e => wr38 e ha⟩
theorem tw39 (a : Nat) : tokS a 13 4293627434796188898319744250229 14 0 [] 0 = ⟨true, 0, 0, (wC 3 3551605 2016817525 909210975 a), 4⟩ := by kernel_rfl
theorem wr39 (e : TypeId) {a : Nat} (ha : a ≤ 50) : Ran (wordsR e (nW a 3) (vW a 3 3551605) (wC 3 3551605 2016817525 909210975 a) (.ofNat 39) (.ofNat a) (fun v => v = .bool true)) := by
  have h := words39 e (nW a 3) (vW a 3 3551605) a (fun v => v = .bool true)
  refine ⟨?_⟩
  rw [h]
  refine bcase_mk (fun _ => rfl) fun _ => ?_
  refine bcase_t (oblN ha) (bcase_t (oblR a) ?_)
  refine bcase_t (Nat.ble_eq_true_of_le ?_) ?_
  · show a + 3 ≤ _; omega
  refine bcase_t (Nat.ble_eq_true_of_le ?_) ?_
  · show a + 3 + 1 ≤ _; omega
  refine bcase_t (Nat.ble_eq_true_of_le ?_) ?_
  · show a + 3 + 1 + 3 ≤ _; omega
  refine bcase_t (Nat.ble_eq_true_of_le ?_) ?_
  · show a + 3 + 1 + 3 + 3 ≤ _; omega
  refine bcase_t (Nat.ble_eq_true_of_le ?_) ?_
  · show a + 3 + 1 + 3 + 3 + 3 ≤ _; omega
  refine bcase_t (obl _ _) ?_
  refine bcase_yes (eqNT rfl) ?_
  refine bcase_t (in1 (by omega)) ?_
  refine bcase_t (in2 (by omega)) ?_
  refine bcase_yes (eq2 (by omega)) ?_
  refine bcase_t (in1 (by omega)) ?_
  refine bcase_t (in2 (by omega)) ?_
  refine bcase_yes (eq2 (by omega)) ?_
  exact rfl
theorem wordOK39 {a : Nat} (ha : a ≤ 50) : WordOK (.ofNat 39) a := by
  have h := text_toks (a := a) (L := 3) (w := 3551605) (W := 4293627434796188898319744250229) ha (by decide) (by kernel_rfl)
  exact ⟨nW a 3, vW a 3 3551605, (wC 3 3551605 2016817525 909210975 a), h.1, h.2.trans (tw39 a), fun e => wr39 e ha⟩
theorem tw40 (a : Nat) : tokS a 13 3977333754758773114382134162293 14 0 [] 0 = ⟨true, 0, 0, (wC 3 3289973 2016555893 842233183 a), 4⟩ := by kernel_rfl
theorem wr40 (e : TypeId) {a : Nat} (ha : a ≤ 50) : Ran (wordsR e (nW a 3) (vW a 3 3289973) (wC 3 3289973 2016555893 842233183 a) (.ofNat 40) (.ofNat a) (fun v => v = .bool true)) := by
  have h := words40 e (nW a 3) (vW a 3 3289973) a (fun v => v = .bool true)
  refine ⟨?_⟩
  rw [h]
  refine bcase_mk (fun _ => rfl) fun _ => ?_
  refine bcase_t (oblN ha) (bcase_t (oblR a) ?_)
  refine bcase_t (Nat.ble_eq_true_of_le ?_) ?_
  · show a + 3 ≤ _; omega
  refine bcase_t (Nat.ble_eq_true_of_le ?_) ?_
  · show a + 3 + 1 ≤ _; omega
  refine bcase_t (Nat.ble_eq_true_of_le ?_) ?_
  · show a + 3 + 1 + 3 ≤ _; omega
  refine bcase_t (Nat.ble_eq_true_of_le ?_) ?_
  · show a + 3 + 1 + 3 + 3 ≤ _; omega
  refine bcase_t (Nat.ble_eq_true_of_le ?_) ?_
  · show a + 3 + 1 + 3 + 3 + 3 ≤ _; omega
  refine bcase_t (obl _ _) ?_
  refine bcase_yes (eqNT rfl) ?_
  refine bcase_t (in1 (by omega)) ?_
  refine bcase_t (in2 (by omega)) ?_
  refine bcase_yes (eq2 (by omega)) ?_
  refine bcase_t (in1 (by omega)) ?_
  refine bcase_t (in2 (by omega)) ?_
  refine bcase_yes (eq2 (by omega)) ?_
  exact rfl
theorem wordOK40 {a : Nat} (ha : a ≤ 50) : WordOK (.ofNat 40) a := by
  have h := text_toks (a := a) (L := 3) (w := 3289973) (W := 3977333754758773114382134162293) ha (by decide) (by kernel_rfl)
  exact ⟨nW a 3, vW a 3 3289973, (wC 3 3289973 2016555893 842233183 a), h.1, h.2.trans (tw40 a), fun e => wr40 e ha⟩
theorem tw41 (a : Nat) : tokS a 13 4136718534816766391023884842613 14 0 [] 0 = ⟨true, 0, 0, (wC 3 3421813 2016687733 875984223 a), 4⟩ := by kernel_rfl
theorem wr41 (e : TypeId) {a : Nat} (ha : a ≤ 50) : Ran (wordsR e (nW a 3) (vW a 3 3421813) (wC 3 3421813 2016687733 875984223 a) (.ofNat 41) (.ofNat a) (fun v => v = .bool true)) := by
  have h := words41 e (nW a 3) (vW a 3 3421813) a (fun v => v = .bool true)
  refine ⟨?_⟩
  rw [h]
  refine bcase_mk (fun _ => rfl) fun _ => ?_
  refine bcase_t (oblN ha) (bcase_t (oblR a) ?_)
  refine bcase_t (Nat.ble_eq_true_of_le ?_) ?_
  · show a + 3 ≤ _; omega
  refine bcase_t (Nat.ble_eq_true_of_le ?_) ?_
  · show a + 3 + 1 ≤ _; omega
  refine bcase_t (Nat.ble_eq_true_of_le ?_) ?_
  · show a + 3 + 1 + 3 ≤ _; omega
  refine bcase_t (Nat.ble_eq_true_of_le ?_) ?_
  · show a + 3 + 1 + 3 + 3 ≤ _; omega
  refine bcase_t (Nat.ble_eq_true_of_le ?_) ?_
  · show a + 3 + 1 + 3 + 3 + 3 ≤ _; omega
  refine bcase_t (obl _ _) ?_
  refine bcase_yes (eqNT rfl) ?_
  refine bcase_t (in1 (by omega)) ?_
  refine bcase_t (in2 (by omega)) ?_
  refine bcase_yes (eq2 (by omega)) ?_
  refine bcase_t (in1 (by omega)) ?_
  refine bcase_t (in2 (by omega)) ?_
  refine bcase_yes (eq2 (by omega)) ?_
  exact rfl
theorem wordOK41 {a : Nat} (ha : a ≤ 50) : WordOK (.ofNat 41) a := by
  have h := text_toks (a := a) (L := 3) (w := 3421813) (W := 4136718534816766391023884842613) ha (by decide) (by kernel_rfl)
  exact ⟨nW a 3, vW a 3 3421813, (wC 3 3421813 2016687733 875984223 a), h.1, h.2.trans (tw41 a), fun e => wr41 e ha⟩
/-- LexWords answers true -/
def WordAny (i j : Int) : Prop := ∃ n0 v0 cells0, n0 ≤ 65536 ∧ toks n0 v0 0 [] 0 = ⟨true, 0, 0, cells0, 4⟩ ∧ ∀ e, Ran (wordsR e n0 v0 cells0 i j (fun v => v = .bool true))
theorem any_of {i j : Int} (h : ∀ n0 v0 cells0 e, wordsR e n0 v0 cells0 i j (fun v => v = .bool true) = (AV.bool true = .bool true)) : WordAny i j := by
  obtain ⟨n0, v0, cells0, h1, h2, _⟩ := wordOK0 (a := 0) (Nat.zero_le _)
  refine ⟨n0, v0, cells0, h1, h2, fun e => ⟨?_⟩⟩
  rw [h]
theorem wm0 (e : TypeId) (n0 v0 : Nat) (cells0 : List AV) (m : Nat) (K : AV → Prop) : wordsR e n0 v0 cells0 (.ofNat 0) (.negSucc m) K = K (.bool true) := by kernel_rfl
theorem wb0 (e : TypeId) (n0 v0 : Nat) (cells0 : List AV) (a : Nat) (K : AV → Prop) : wordsR e n0 v0 cells0 (.ofNat 0) (.ofNat (a + 51)) K = K (.bool true) := by kernel_rfl
theorem wordAny0 (j : Int) : WordAny (.ofNat 0) j := by
  cases j with
  | negSucc m => exact any_of fun n0 v0 cells0 e => wm0 e n0 v0 cells0 m _
  | ofNat a =>
    by_cases h : a ≤ 50
    · exact wordOK0 h
    · obtain ⟨b, rfl⟩ : ∃ b, a = b + 51 := ⟨a - 51, by omega⟩
      exact any_of fun n0 v0 cells0 e => wb0 e n0 v0 cells0 b _
theorem wm1 (e : TypeId) (n0 v0 : Nat) (cells0 : List AV) (m : Nat) (K : AV → Prop) : wordsR e n0 v0 cells0 (.ofNat 1) (.negSucc m) K = K (.bool true) := by kernel_rfl
theorem wb1 (e : TypeId) (n0 v0 : Nat) (cells0 : List AV) (a : Nat) (K : AV → Prop) : wordsR e n0 v0 cells0 (.ofNat 1) (.ofNat (a + 51)) K = K (.bool true) := by kernel_rfl
theorem wordAny1 (j : Int) : WordAny (.ofNat 1) j := by
  cases j with
  | negSucc m => exact any_of fun n0 v0 cells0 e => wm1 e n0 v0 cells0 m _
  | ofNat a =>
    by_cases h : a ≤ 50
    · exact wordOK1 h
    · obtain ⟨b, rfl⟩ : ∃ b, a = b + 51 := ⟨a - 51, by omega⟩
      exact any_of fun n0 v0 cells0 e => wb1 e n0 v0 cells0 b _
theorem wm2 (e : TypeId) (n0 v0 : Nat) (cells0 : List AV) (m : Nat) (K : AV → Prop) : wordsR e n0 v0 cells0 (.ofNat 2) (.negSucc m) K = K (.bool true) := by kernel_rfl
theorem wb2 (e : TypeId) (n0 v0 : Nat) (cells0 : List AV) (a : Nat) (K : AV → Prop) : wordsR e n0 v0 cells0 (.ofNat 2) (.ofNat (a + 51)) K = K (.bool true) := by kernel_rfl
theorem wordAny2 (j : Int) : WordAny (.ofNat 2) j := by
  cases j with
  | negSucc m => exact any_of fun n0 v0 cells0 e => wm2 e n0 v0 cells0 m _
  | ofNat a =>
    by_cases h : a ≤ 50
    · exact wordOK2 h
    · obtain ⟨b, rfl⟩ : ∃ b, a = b + 51 := ⟨a - 51, by omega⟩
      exact any_of fun n0 v0 cells0 e => wb2 e n0 v0 cells0 b _
theorem wm3 (e : TypeId) (n0 v0 : Nat) (cells0 : List AV) (m : Nat) (K : AV → Prop) : wordsR e n0 v0 cells0 (.ofNat 3) (.negSucc m) K = K (.bool true) := by kernel_rfl
theorem wb3 (e : TypeId) (n0 v0 : Nat) (cells0 : List AV) (a : Nat) (K : AV → Prop) : wordsR e n0 v0 cells0 (.ofNat 3) (.ofNat (a + 51)) K = K (.bool true) := by kernel_rfl
theorem wordAny3 (j : Int) : WordAny (.ofNat 3) j := by
  cases j with
  | negSucc m => exact any_of fun n0 v0 cells0 e => wm3 e n0 v0 cells0 m _
  | ofNat a =>
    by_cases h : a ≤ 50
    · exact wordOK3 h
    · obtain ⟨b, rfl⟩ : ∃ b, a = b + 51 := ⟨a - 51, by omega⟩
      exact any_of fun n0 v0 cells0 e => wb3 e n0 v0 cells0 b _
theorem wm4 (e : TypeId) (n0 v0 : Nat) (cells0 : List AV) (m : Nat) (K : AV → Prop) : wordsR e n0 v0 cells0 (.ofNat 4) (.negSucc m) K = K (.bool true) := by kernel_rfl
theorem wb4 (e : TypeId) (n0 v0 : Nat) (cells0 : List AV) (a : Nat) (K : AV → Prop) : wordsR e n0 v0 cells0 (.ofNat 4) (.ofNat (a + 51)) K = K (.bool true) := by kernel_rfl
theorem wordAny4 (j : Int) : WordAny (.ofNat 4) j := by
  cases j with
  | negSucc m => exact any_of fun n0 v0 cells0 e => wm4 e n0 v0 cells0 m _
  | ofNat a =>
    by_cases h : a ≤ 50
    · exact wordOK4 h
    · obtain ⟨b, rfl⟩ : ∃ b, a = b + 51 := ⟨a - 51, by omega⟩
      exact any_of fun n0 v0 cells0 e => wb4 e n0 v0 cells0 b _
theorem wm5 (e : TypeId) (n0 v0 : Nat) (cells0 : List AV) (m : Nat) (K : AV → Prop) : wordsR e n0 v0 cells0 (.ofNat 5) (.negSucc m) K = K (.bool true) := by kernel_rfl
theorem wb5 (e : TypeId) (n0 v0 : Nat) (cells0 : List AV) (a : Nat) (K : AV → Prop) : wordsR e n0 v0 cells0 (.ofNat 5) (.ofNat (a + 51)) K = K (.bool true) := by kernel_rfl
theorem wordAny5 (j : Int) : WordAny (.ofNat 5) j := by
  cases j with
  | negSucc m => exact any_of fun n0 v0 cells0 e => wm5 e n0 v0 cells0 m _
  | ofNat a =>
    by_cases h : a ≤ 50
    · exact wordOK5 h
    · obtain ⟨b, rfl⟩ : ∃ b, a = b + 51 := ⟨a - 51, by omega⟩
      exact any_of fun n0 v0 cells0 e => wb5 e n0 v0 cells0 b _
theorem wm6 (e : TypeId) (n0 v0 : Nat) (cells0 : List AV) (m : Nat) (K : AV → Prop) : wordsR e n0 v0 cells0 (.ofNat 6) (.negSucc m) K = K (.bool true) := by kernel_rfl
theorem wb6 (e : TypeId) (n0 v0 : Nat) (cells0 : List AV) (a : Nat) (K : AV → Prop) : wordsR e n0 v0 cells0 (.ofNat 6) (.ofNat (a + 51)) K = K (.bool true) := by kernel_rfl
theorem wordAny6 (j : Int) : WordAny (.ofNat 6) j := by
  cases j with
  | negSucc m => exact any_of fun n0 v0 cells0 e => wm6 e n0 v0 cells0 m _
  | ofNat a =>
    by_cases h : a ≤ 50
    · exact wordOK6 h
    · obtain ⟨b, rfl⟩ : ∃ b, a = b + 51 := ⟨a - 51, by omega⟩
      exact any_of fun n0 v0 cells0 e => wb6 e n0 v0 cells0 b _
theorem wm7 (e : TypeId) (n0 v0 : Nat) (cells0 : List AV) (m : Nat) (K : AV → Prop) : wordsR e n0 v0 cells0 (.ofNat 7) (.negSucc m) K = K (.bool true) := by kernel_rfl
theorem wb7 (e : TypeId) (n0 v0 : Nat) (cells0 : List AV) (a : Nat) (K : AV → Prop) : wordsR e n0 v0 cells0 (.ofNat 7) (.ofNat (a + 51)) K = K (.bool true) := by kernel_rfl
theorem wordAny7 (j : Int) : WordAny (.ofNat 7) j := by
  cases j with
  | negSucc m => exact any_of fun n0 v0 cells0 e => wm7 e n0 v0 cells0 m _
  | ofNat a =>
    by_cases h : a ≤ 50
    · exact wordOK7 h
    · obtain ⟨b, rfl⟩ : ∃ b, a = b + 51 := ⟨a - 51, by omega⟩
      exact any_of fun n0 v0 cells0 e => wb7 e n0 v0 cells0 b _
theorem wm8 (e : TypeId) (n0 v0 : Nat) (cells0 : List AV) (m : Nat) (K : AV → Prop) : wordsR e n0 v0 cells0 (.ofNat 8) (.negSucc m) K = K (.bool true) := by kernel_rfl
theorem wb8 (e : TypeId) (n0 v0 : Nat) (cells0 : List AV) (a : Nat) (K : AV → Prop) : wordsR e n0 v0 cells0 (.ofNat 8) (.ofNat (a + 51)) K = K (.bool true) := by kernel_rfl
theorem wordAny8 (j : Int) : WordAny (.ofNat 8) j := by
  cases j with
  | negSucc m => exact any_of fun n0 v0 cells0 e => wm8 e n0 v0 cells0 m _
  | ofNat a =>
    by_cases h : a ≤ 50
    · exact wordOK8 h
    · obtain ⟨b, rfl⟩ : ∃ b, a = b + 51 := ⟨a - 51, by omega⟩
      exact any_of fun n0 v0 cells0 e => wb8 e n0 v0 cells0 b _
theorem wm9 (e : TypeId) (n0 v0 : Nat) (cells0 : List AV) (m : Nat) (K : AV → Prop) : wordsR e n0 v0 cells0 (.ofNat 9) (.negSucc m) K = K (.bool true) := by kernel_rfl
theorem wb9 (e : TypeId) (n0 v0 : Nat) (cells0 : List AV) (a : Nat) (K : AV → Prop) : wordsR e n0 v0 cells0 (.ofNat 9) (.ofNat (a + 51)) K = K (.bool true) := by kernel_rfl
theorem wordAny9 (j : Int) : WordAny (.ofNat 9) j := by
  cases j with
  | negSucc m => exact any_of fun n0 v0 cells0 e => wm9 e n0 v0 cells0 m _
  | ofNat a =>
    by_cases h : a ≤ 50
    · exact wordOK9 h
    · obtain ⟨b, rfl⟩ : ∃ b, a = b + 51 := ⟨a - 51, by omega⟩
      exact any_of fun n0 v0 cells0 e => wb9 e n0 v0 cells0 b _
theorem wm10 (e : TypeId) (n0 v0 : Nat) (cells0 : List AV) (m : Nat) (K : AV → Prop) : wordsR e n0 v0 cells0 (.ofNat 10) (.negSucc m) K = K (.bool true) := by kernel_rfl
theorem wb10 (e : TypeId) (n0 v0 : Nat) (cells0 : List AV) (a : Nat) (K : AV → Prop) : wordsR e n0 v0 cells0 (.ofNat 10) (.ofNat (a + 51)) K = K (.bool true) := by kernel_rfl
theorem wordAny10 (j : Int) : WordAny (.ofNat 10) j := by
  cases j with
  | negSucc m => exact any_of fun n0 v0 cells0 e => wm10 e n0 v0 cells0 m _
  | ofNat a =>
    by_cases h : a ≤ 50
    · exact wordOK10 h
    · obtain ⟨b, rfl⟩ : ∃ b, a = b + 51 := ⟨a - 51, by omega⟩
      exact any_of fun n0 v0 cells0 e => wb10 e n0 v0 cells0 b _
theorem wm11 (e : TypeId) (n0 v0 : Nat) (cells0 : List AV) (m : Nat) (K : AV → Prop) : wordsR e n0 v0 cells0 (.ofNat 11) (.negSucc m) K = K (.bool true) := by kernel_rfl
theorem wb11 (e : TypeId) (n0 v0 : Nat) (cells0 : List AV) (a : Nat) (K : AV → Prop) : wordsR e n0 v0 cells0 (.ofNat 11) (.ofNat (a + 51)) K = K (.bool true) := by kernel_rfl
theorem wordAny11 (j : Int) : WordAny (.ofNat 11) j := by
  cases j with
  | negSucc m => exact any_of fun n0 v0 cells0 e => wm11 e n0 v0 cells0 m _
  | ofNat a =>
    by_cases h : a ≤ 50
    · exact wordOK11 h
    · obtain ⟨b, rfl⟩ : ∃ b, a = b + 51 := ⟨a - 51, by omega⟩
      exact any_of fun n0 v0 cells0 e => wb11 e n0 v0 cells0 b _
theorem wm12 (e : TypeId) (n0 v0 : Nat) (cells0 : List AV) (m : Nat) (K : AV → Prop) : wordsR e n0 v0 cells0 (.ofNat 12) (.negSucc m) K = K (.bool true) := by kernel_rfl
theorem wb12 (e : TypeId) (n0 v0 : Nat) (cells0 : List AV) (a : Nat) (K : AV → Prop) : wordsR e n0 v0 cells0 (.ofNat 12) (.ofNat (a + 51)) K = K (.bool true) := by kernel_rfl
theorem wordAny12 (j : Int) : WordAny (.ofNat 12) j := by
  cases j with
  | negSucc m => exact any_of fun n0 v0 cells0 e => wm12 e n0 v0 cells0 m _
  | ofNat a =>
    by_cases h : a ≤ 50
    · exact wordOK12 h
    · obtain ⟨b, rfl⟩ : ∃ b, a = b + 51 := ⟨a - 51, by omega⟩
      exact any_of fun n0 v0 cells0 e => wb12 e n0 v0 cells0 b _
theorem wm13 (e : TypeId) (n0 v0 : Nat) (cells0 : List AV) (m : Nat) (K : AV → Prop) : wordsR e n0 v0 cells0 (.ofNat 13) (.negSucc m) K = K (.bool true) := by kernel_rfl
theorem wb13 (e : TypeId) (n0 v0 : Nat) (cells0 : List AV) (a : Nat) (K : AV → Prop) : wordsR e n0 v0 cells0 (.ofNat 13) (.ofNat (a + 51)) K = K (.bool true) := by kernel_rfl
theorem wordAny13 (j : Int) : WordAny (.ofNat 13) j := by
  cases j with
  | negSucc m => exact any_of fun n0 v0 cells0 e => wm13 e n0 v0 cells0 m _
  | ofNat a =>
    by_cases h : a ≤ 50
    · exact wordOK13 h
    · obtain ⟨b, rfl⟩ : ∃ b, a = b + 51 := ⟨a - 51, by omega⟩
      exact any_of fun n0 v0 cells0 e => wb13 e n0 v0 cells0 b _
theorem wm14 (e : TypeId) (n0 v0 : Nat) (cells0 : List AV) (m : Nat) (K : AV → Prop) : wordsR e n0 v0 cells0 (.ofNat 14) (.negSucc m) K = K (.bool true) := by kernel_rfl
theorem wb14 (e : TypeId) (n0 v0 : Nat) (cells0 : List AV) (a : Nat) (K : AV → Prop) : wordsR e n0 v0 cells0 (.ofNat 14) (.ofNat (a + 51)) K = K (.bool true) := by kernel_rfl
theorem wordAny14 (j : Int) : WordAny (.ofNat 14) j := by
  cases j with
  | negSucc m => exact any_of fun n0 v0 cells0 e => wm14 e n0 v0 cells0 m _
  | ofNat a =>
    by_cases h : a ≤ 50
    · exact wordOK14 h
    · obtain ⟨b, rfl⟩ : ∃ b, a = b + 51 := ⟨a - 51, by omega⟩
      exact any_of fun n0 v0 cells0 e => wb14 e n0 v0 cells0 b _
theorem wm15 (e : TypeId) (n0 v0 : Nat) (cells0 : List AV) (m : Nat) (K : AV → Prop) : wordsR e n0 v0 cells0 (.ofNat 15) (.negSucc m) K = K (.bool true) := by kernel_rfl
theorem wb15 (e : TypeId) (n0 v0 : Nat) (cells0 : List AV) (a : Nat) (K : AV → Prop) : wordsR e n0 v0 cells0 (.ofNat 15) (.ofNat (a + 51)) K = K (.bool true) := by kernel_rfl
theorem wordAny15 (j : Int) : WordAny (.ofNat 15) j := by
  cases j with
  | negSucc m => exact any_of fun n0 v0 cells0 e => wm15 e n0 v0 cells0 m _
  | ofNat a =>
    by_cases h : a ≤ 50
    · exact wordOK15 h
    · obtain ⟨b, rfl⟩ : ∃ b, a = b + 51 := ⟨a - 51, by omega⟩
      exact any_of fun n0 v0 cells0 e => wb15 e n0 v0 cells0 b _
theorem wm16 (e : TypeId) (n0 v0 : Nat) (cells0 : List AV) (m : Nat) (K : AV → Prop) : wordsR e n0 v0 cells0 (.ofNat 16) (.negSucc m) K = K (.bool true) := by kernel_rfl
theorem wb16 (e : TypeId) (n0 v0 : Nat) (cells0 : List AV) (a : Nat) (K : AV → Prop) : wordsR e n0 v0 cells0 (.ofNat 16) (.ofNat (a + 51)) K = K (.bool true) := by kernel_rfl
theorem wordAny16 (j : Int) : WordAny (.ofNat 16) j := by
  cases j with
  | negSucc m => exact any_of fun n0 v0 cells0 e => wm16 e n0 v0 cells0 m _
  | ofNat a =>
    by_cases h : a ≤ 50
    · exact wordOK16 h
    · obtain ⟨b, rfl⟩ : ∃ b, a = b + 51 := ⟨a - 51, by omega⟩
      exact any_of fun n0 v0 cells0 e => wb16 e n0 v0 cells0 b _
theorem wm17 (e : TypeId) (n0 v0 : Nat) (cells0 : List AV) (m : Nat) (K : AV → Prop) : wordsR e n0 v0 cells0 (.ofNat 17) (.negSucc m) K = K (.bool true) := by kernel_rfl
theorem wb17 (e : TypeId) (n0 v0 : Nat) (cells0 : List AV) (a : Nat) (K : AV → Prop) : wordsR e n0 v0 cells0 (.ofNat 17) (.ofNat (a + 51)) K = K (.bool true) := by kernel_rfl
theorem wordAny17 (j : Int) : WordAny (.ofNat 17) j := by
  cases j with
  | negSucc m => exact any_of fun n0 v0 cells0 e => wm17 e n0 v0 cells0 m _
  | ofNat a =>
    by_cases h : a ≤ 50
    · exact wordOK17 h
    · obtain ⟨b, rfl⟩ : ∃ b, a = b + 51 := ⟨a - 51, by omega⟩
      exact any_of fun n0 v0 cells0 e => wb17 e n0 v0 cells0 b _
theorem wm18 (e : TypeId) (n0 v0 : Nat) (cells0 : List AV) (m : Nat) (K : AV → Prop) : wordsR e n0 v0 cells0 (.ofNat 18) (.negSucc m) K = K (.bool true) := by kernel_rfl
theorem wb18 (e : TypeId) (n0 v0 : Nat) (cells0 : List AV) (a : Nat) (K : AV → Prop) : wordsR e n0 v0 cells0 (.ofNat 18) (.ofNat (a + 51)) K = K (.bool true) := by kernel_rfl
theorem wordAny18 (j : Int) : WordAny (.ofNat 18) j := by
  cases j with
  | negSucc m => exact any_of fun n0 v0 cells0 e => wm18 e n0 v0 cells0 m _
  | ofNat a =>
    by_cases h : a ≤ 50
    · exact wordOK18 h
    · obtain ⟨b, rfl⟩ : ∃ b, a = b + 51 := ⟨a - 51, by omega⟩
      exact any_of fun n0 v0 cells0 e => wb18 e n0 v0 cells0 b _
theorem wm19 (e : TypeId) (n0 v0 : Nat) (cells0 : List AV) (m : Nat) (K : AV → Prop) : wordsR e n0 v0 cells0 (.ofNat 19) (.negSucc m) K = K (.bool true) := by kernel_rfl
theorem wb19 (e : TypeId) (n0 v0 : Nat) (cells0 : List AV) (a : Nat) (K : AV → Prop) : wordsR e n0 v0 cells0 (.ofNat 19) (.ofNat (a + 51)) K = K (.bool true) := by kernel_rfl
theorem wordAny19 (j : Int) : WordAny (.ofNat 19) j := by
  cases j with
  | negSucc m => exact any_of fun n0 v0 cells0 e => wm19 e n0 v0 cells0 m _
  | ofNat a =>
    by_cases h : a ≤ 50
    · exact wordOK19 h
    · obtain ⟨b, rfl⟩ : ∃ b, a = b + 51 := ⟨a - 51, by omega⟩
      exact any_of fun n0 v0 cells0 e => wb19 e n0 v0 cells0 b _
theorem wm20 (e : TypeId) (n0 v0 : Nat) (cells0 : List AV) (m : Nat) (K : AV → Prop) : wordsR e n0 v0 cells0 (.ofNat 20) (.negSucc m) K = K (.bool true) := by kernel_rfl
theorem wb20 (e : TypeId) (n0 v0 : Nat) (cells0 : List AV) (a : Nat) (K : AV → Prop) : wordsR e n0 v0 cells0 (.ofNat 20) (.ofNat (a + 51)) K = K (.bool true) := by kernel_rfl
theorem wordAny20 (j : Int) : WordAny (.ofNat 20) j := by
  cases j with
  | negSucc m => exact any_of fun n0 v0 cells0 e => wm20 e n0 v0 cells0 m _
  | ofNat a =>
    by_cases h : a ≤ 50
    · exact wordOK20 h
    · obtain ⟨b, rfl⟩ : ∃ b, a = b + 51 := ⟨a - 51, by omega⟩
      exact any_of fun n0 v0 cells0 e => wb20 e n0 v0 cells0 b _
theorem wm21 (e : TypeId) (n0 v0 : Nat) (cells0 : List AV) (m : Nat) (K : AV → Prop) : wordsR e n0 v0 cells0 (.ofNat 21) (.negSucc m) K = K (.bool true) := by kernel_rfl
theorem wb21 (e : TypeId) (n0 v0 : Nat) (cells0 : List AV) (a : Nat) (K : AV → Prop) : wordsR e n0 v0 cells0 (.ofNat 21) (.ofNat (a + 51)) K = K (.bool true) := by kernel_rfl
theorem wordAny21 (j : Int) : WordAny (.ofNat 21) j := by
  cases j with
  | negSucc m => exact any_of fun n0 v0 cells0 e => wm21 e n0 v0 cells0 m _
  | ofNat a =>
    by_cases h : a ≤ 50
    · exact wordOK21 h
    · obtain ⟨b, rfl⟩ : ∃ b, a = b + 51 := ⟨a - 51, by omega⟩
      exact any_of fun n0 v0 cells0 e => wb21 e n0 v0 cells0 b _
theorem wm22 (e : TypeId) (n0 v0 : Nat) (cells0 : List AV) (m : Nat) (K : AV → Prop) : wordsR e n0 v0 cells0 (.ofNat 22) (.negSucc m) K = K (.bool true) := by kernel_rfl
theorem wb22 (e : TypeId) (n0 v0 : Nat) (cells0 : List AV) (a : Nat) (K : AV → Prop) : wordsR e n0 v0 cells0 (.ofNat 22) (.ofNat (a + 51)) K = K (.bool true) := by kernel_rfl
theorem wordAny22 (j : Int) : WordAny (.ofNat 22) j := by
  cases j with
  | negSucc m => exact any_of fun n0 v0 cells0 e => wm22 e n0 v0 cells0 m _
  | ofNat a =>
    by_cases h : a ≤ 50
    · exact wordOK22 h
    · obtain ⟨b, rfl⟩ : ∃ b, a = b + 51 := ⟨a - 51, by omega⟩
      exact any_of fun n0 v0 cells0 e => wb22 e n0 v0 cells0 b _
theorem wm23 (e : TypeId) (n0 v0 : Nat) (cells0 : List AV) (m : Nat) (K : AV → Prop) : wordsR e n0 v0 cells0 (.ofNat 23) (.negSucc m) K = K (.bool true) := by kernel_rfl
theorem wb23 (e : TypeId) (n0 v0 : Nat) (cells0 : List AV) (a : Nat) (K : AV → Prop) : wordsR e n0 v0 cells0 (.ofNat 23) (.ofNat (a + 51)) K = K (.bool true) := by kernel_rfl
theorem wordAny23 (j : Int) : WordAny (.ofNat 23) j := by
  cases j with
  | negSucc m => exact any_of fun n0 v0 cells0 e => wm23 e n0 v0 cells0 m _
  | ofNat a =>
    by_cases h : a ≤ 50
    · exact wordOK23 h
    · obtain ⟨b, rfl⟩ : ∃ b, a = b + 51 := ⟨a - 51, by omega⟩
      exact any_of fun n0 v0 cells0 e => wb23 e n0 v0 cells0 b _
theorem wm24 (e : TypeId) (n0 v0 : Nat) (cells0 : List AV) (m : Nat) (K : AV → Prop) : wordsR e n0 v0 cells0 (.ofNat 24) (.negSucc m) K = K (.bool true) := by kernel_rfl
theorem wb24 (e : TypeId) (n0 v0 : Nat) (cells0 : List AV) (a : Nat) (K : AV → Prop) : wordsR e n0 v0 cells0 (.ofNat 24) (.ofNat (a + 51)) K = K (.bool true) := by kernel_rfl
theorem wordAny24 (j : Int) : WordAny (.ofNat 24) j := by
  cases j with
  | negSucc m => exact any_of fun n0 v0 cells0 e => wm24 e n0 v0 cells0 m _
  | ofNat a =>
    by_cases h : a ≤ 50
    · exact wordOK24 h
    · obtain ⟨b, rfl⟩ : ∃ b, a = b + 51 := ⟨a - 51, by omega⟩
      exact any_of fun n0 v0 cells0 e => wb24 e n0 v0 cells0 b _
theorem wm25 (e : TypeId) (n0 v0 : Nat) (cells0 : List AV) (m : Nat) (K : AV → Prop) : wordsR e n0 v0 cells0 (.ofNat 25) (.negSucc m) K = K (.bool true) := by kernel_rfl
theorem wb25 (e : TypeId) (n0 v0 : Nat) (cells0 : List AV) (a : Nat) (K : AV → Prop) : wordsR e n0 v0 cells0 (.ofNat 25) (.ofNat (a + 51)) K = K (.bool true) := by kernel_rfl
theorem wordAny25 (j : Int) : WordAny (.ofNat 25) j := by
  cases j with
  | negSucc m => exact any_of fun n0 v0 cells0 e => wm25 e n0 v0 cells0 m _
  | ofNat a =>
    by_cases h : a ≤ 50
    · exact wordOK25 h
    · obtain ⟨b, rfl⟩ : ∃ b, a = b + 51 := ⟨a - 51, by omega⟩
      exact any_of fun n0 v0 cells0 e => wb25 e n0 v0 cells0 b _
theorem wm26 (e : TypeId) (n0 v0 : Nat) (cells0 : List AV) (m : Nat) (K : AV → Prop) : wordsR e n0 v0 cells0 (.ofNat 26) (.negSucc m) K = K (.bool true) := by kernel_rfl
theorem wb26 (e : TypeId) (n0 v0 : Nat) (cells0 : List AV) (a : Nat) (K : AV → Prop) : wordsR e n0 v0 cells0 (.ofNat 26) (.ofNat (a + 51)) K = K (.bool true) := by kernel_rfl
theorem wordAny26 (j : Int) : WordAny (.ofNat 26) j := by
  cases j with
  | negSucc m => exact any_of fun n0 v0 cells0 e => wm26 e n0 v0 cells0 m _
  | ofNat a =>
    by_cases h : a ≤ 50
    · exact wordOK26 h
    · obtain ⟨b, rfl⟩ : ∃ b, a = b + 51 := ⟨a - 51, by omega⟩
      exact any_of fun n0 v0 cells0 e => wb26 e n0 v0 cells0 b _
theorem wm27 (e : TypeId) (n0 v0 : Nat) (cells0 : List AV) (m : Nat) (K : AV → Prop) : wordsR e n0 v0 cells0 (.ofNat 27) (.negSucc m) K = K (.bool true) := by kernel_rfl
theorem wb27 (e : TypeId) (n0 v0 : Nat) (cells0 : List AV) (a : Nat) (K : AV → Prop) : wordsR e n0 v0 cells0 (.ofNat 27) (.ofNat (a + 51)) K = K (.bool true) := by kernel_rfl
theorem wordAny27 (j : Int) : WordAny (.ofNat 27) j := by
  cases j with
  | negSucc m => exact any_of fun n0 v0 cells0 e => wm27 e n0 v0 cells0 m _
  | ofNat a =>
    by_cases h : a ≤ 50
    · exact wordOK27 h
    · obtain ⟨b, rfl⟩ : ∃ b, a = b + 51 := ⟨a - 51, by omega⟩
      exact any_of fun n0 v0 cells0 e => wb27 e n0 v0 cells0 b _
theorem wm28 (e : TypeId) (n0 v0 : Nat) (cells0 : List AV) (m : Nat) (K : AV → Prop) : wordsR e n0 v0 cells0 (.ofNat 28) (.negSucc m) K = K (.bool true) := by kernel_rfl
theorem wb28 (e : TypeId) (n0 v0 : Nat) (cells0 : List AV) (a : Nat) (K : AV → Prop) : wordsR e n0 v0 cells0 (.ofNat 28) (.ofNat (a + 51)) K = K (.bool true) := by kernel_rfl
theorem wordAny28 (j : Int) : WordAny (.ofNat 28) j := by
  cases j with
  | negSucc m => exact any_of fun n0 v0 cells0 e => wm28 e n0 v0 cells0 m _
  | ofNat a =>
    by_cases h : a ≤ 50
    · exact wordOK28 h
    · obtain ⟨b, rfl⟩ : ∃ b, a = b + 51 := ⟨a - 51, by omega⟩
      exact any_of fun n0 v0 cells0 e => wb28 e n0 v0 cells0 b _
theorem wm29 (e : TypeId) (n0 v0 : Nat) (cells0 : List AV) (m : Nat) (K : AV → Prop) : wordsR e n0 v0 cells0 (.ofNat 29) (.negSucc m) K = K (.bool true) := by kernel_rfl
theorem wb29 (e : TypeId) (n0 v0 : Nat) (cells0 : List AV) (a : Nat) (K : AV → Prop) : wordsR e n0 v0 cells0 (.ofNat 29) (.ofNat (a + 51)) K = K (.bool true) := by kernel_rfl
theorem wordAny29 (j : Int) : WordAny (.ofNat 29) j := by
  cases j with
  | negSucc m => exact any_of fun n0 v0 cells0 e => wm29 e n0 v0 cells0 m _
  | ofNat a =>
    by_cases h : a ≤ 50
    · exact wordOK29 h
    · obtain ⟨b, rfl⟩ : ∃ b, a = b + 51 := ⟨a - 51, by omega⟩
      exact any_of fun n0 v0 cells0 e => wb29 e n0 v0 cells0 b _
theorem wm30 (e : TypeId) (n0 v0 : Nat) (cells0 : List AV) (m : Nat) (K : AV → Prop) : wordsR e n0 v0 cells0 (.ofNat 30) (.negSucc m) K = K (.bool true) := by kernel_rfl
theorem wb30 (e : TypeId) (n0 v0 : Nat) (cells0 : List AV) (a : Nat) (K : AV → Prop) : wordsR e n0 v0 cells0 (.ofNat 30) (.ofNat (a + 51)) K = K (.bool true) := by kernel_rfl
theorem wordAny30 (j : Int) : WordAny (.ofNat 30) j := by
  cases j with
  | negSucc m => exact any_of fun n0 v0 cells0 e => wm30 e n0 v0 cells0 m _
  | ofNat a =>
    by_cases h : a ≤ 50
    · exact wordOK30 h
    · obtain ⟨b, rfl⟩ : ∃ b, a = b + 51 := ⟨a - 51, by omega⟩
      exact any_of fun n0 v0 cells0 e => wb30 e n0 v0 cells0 b _
theorem wm31 (e : TypeId) (n0 v0 : Nat) (cells0 : List AV) (m : Nat) (K : AV → Prop) : wordsR e n0 v0 cells0 (.ofNat 31) (.negSucc m) K = K (.bool true) := by kernel_rfl
theorem wb31 (e : TypeId) (n0 v0 : Nat) (cells0 : List AV) (a : Nat) (K : AV → Prop) : wordsR e n0 v0 cells0 (.ofNat 31) (.ofNat (a + 51)) K = K (.bool true) := by kernel_rfl
theorem wordAny31 (j : Int) : WordAny (.ofNat 31) j := by
  cases j with
  | negSucc m => exact any_of fun n0 v0 cells0 e => wm31 e n0 v0 cells0 m _
  | ofNat a =>
    by_cases h : a ≤ 50
    · exact wordOK31 h
    · obtain ⟨b, rfl⟩ : ∃ b, a = b + 51 := ⟨a - 51, by omega⟩
      exact any_of fun n0 v0 cells0 e => wb31 e n0 v0 cells0 b _
theorem wm32 (e : TypeId) (n0 v0 : Nat) (cells0 : List AV) (m : Nat) (K : AV → Prop) : wordsR e n0 v0 cells0 (.ofNat 32) (.negSucc m) K = K (.bool true) := by kernel_rfl
theorem wb32 (e : TypeId) (n0 v0 : Nat) (cells0 : List AV) (a : Nat) (K : AV → Prop) : wordsR e n0 v0 cells0 (.ofNat 32) (.ofNat (a + 51)) K = K (.bool true) := by kernel_rfl
theorem wordAny32 (j : Int) : WordAny (.ofNat 32) j := by
  cases j with
  | negSucc m => exact any_of fun n0 v0 cells0 e => wm32 e n0 v0 cells0 m _
  | ofNat a =>
    by_cases h : a ≤ 50
    · exact wordOK32 h
    · obtain ⟨b, rfl⟩ : ∃ b, a = b + 51 := ⟨a - 51, by omega⟩
      exact any_of fun n0 v0 cells0 e => wb32 e n0 v0 cells0 b _
theorem wm33 (e : TypeId) (n0 v0 : Nat) (cells0 : List AV) (m : Nat) (K : AV → Prop) : wordsR e n0 v0 cells0 (.ofNat 33) (.negSucc m) K = K (.bool true) := by kernel_rfl
theorem wb33 (e : TypeId) (n0 v0 : Nat) (cells0 : List AV) (a : Nat) (K : AV → Prop) : wordsR e n0 v0 cells0 (.ofNat 33) (.ofNat (a + 51)) K = K (.bool true) := by kernel_rfl
theorem wordAny33 (j : Int) : WordAny (.ofNat 33) j := by
  cases j with
  | negSucc m => exact any_of fun n0 v0 cells0 e => wm33 e n0 v0 cells0 m _
  | ofNat a =>
    by_cases h : a ≤ 50
    · exact wordOK33 h
    · obtain ⟨b, rfl⟩ : ∃ b, a = b + 51 := ⟨a - 51, by omega⟩
      exact any_of fun n0 v0 cells0 e => wb33 e n0 v0 cells0 b _
theorem wm34 (e : TypeId) (n0 v0 : Nat) (cells0 : List AV) (m : Nat) (K : AV → Prop) : wordsR e n0 v0 cells0 (.ofNat 34) (.negSucc m) K = K (.bool true) := by kernel_rfl
theorem wb34 (e : TypeId) (n0 v0 : Nat) (cells0 : List AV) (a : Nat) (K : AV → Prop) : wordsR e n0 v0 cells0 (.ofNat 34) (.ofNat (a + 51)) K = K (.bool true) := by kernel_rfl
theorem wordAny34 (j : Int) : WordAny (.ofNat 34) j := by
  cases j with
  | negSucc m => exact any_of fun n0 v0 cells0 e => wm34 e n0 v0 cells0 m _
  | ofNat a =>
    by_cases h : a ≤ 50
    · exact wordOK34 h
    · obtain ⟨b, rfl⟩ : ∃ b, a = b + 51 := ⟨a - 51, by omega⟩
      exact any_of fun n0 v0 cells0 e => wb34 e n0 v0 cells0 b _
theorem wm35 (e : TypeId) (n0 v0 : Nat) (cells0 : List AV) (m : Nat) (K : AV → Prop) : wordsR e n0 v0 cells0 (.ofNat 35) (.negSucc m) K = K (.bool true) := by kernel_rfl
theorem wb35 (e : TypeId) (n0 v0 : Nat) (cells0 : List AV) (a : Nat) (K : AV → Prop) : wordsR e n0 v0 cells0 (.ofNat 35) (.ofNat (a + 51)) K = K (.bool true) := by kernel_rfl
theorem wordAny35 (j : Int) : WordAny (.ofNat 35) j := by
  cases j with
  | negSucc m => exact any_of fun n0 v0 cells0 e => wm35 e n0 v0 cells0 m _
  | ofNat a =>
    by_cases h : a ≤ 50
    · exact wordOK35 h
    · obtain ⟨b, rfl⟩ : ∃ b, a = b + 51 := ⟨a - 51, by omega⟩
      exact any_of fun n0 v0 cells0 e => wb35 e n0 v0 cells0 b _
theorem wm36 (e : TypeId) (n0 v0 : Nat) (cells0 : List AV) (m : Nat) (K : AV → Prop) : wordsR e n0 v0 cells0 (.ofNat 36) (.negSucc m) K = K (.bool true) := by kernel_rfl
theorem wb36 (e : TypeId) (n0 v0 : Nat) (cells0 : List AV) (a : Nat) (K : AV → Prop) : wordsR e n0 v0 cells0 (.ofNat 36) (.ofNat (a + 51)) K = K (.bool true) := by kernel_rfl
theorem wordAny36 (j : Int) : WordAny (.ofNat 36) j := by
  cases j with
  | negSucc m => exact any_of fun n0 v0 cells0 e => wm36 e n0 v0 cells0 m _
  | ofNat a =>
    by_cases h : a ≤ 50
    · exact wordOK36 h
    · obtain ⟨b, rfl⟩ : ∃ b, a = b + 51 := ⟨a - 51, by omega⟩
      exact any_of fun n0 v0 cells0 e => wb36 e n0 v0 cells0 b _
theorem wm37 (e : TypeId) (n0 v0 : Nat) (cells0 : List AV) (m : Nat) (K : AV → Prop) : wordsR e n0 v0 cells0 (.ofNat 37) (.negSucc m) K = K (.bool true) := by kernel_rfl
theorem wb37 (e : TypeId) (n0 v0 : Nat) (cells0 : List AV) (a : Nat) (K : AV → Prop) : wordsR e n0 v0 cells0 (.ofNat 37) (.ofNat (a + 51)) K = K (.bool true) := by kernel_rfl
theorem wordAny37 (j : Int) : WordAny (.ofNat 37) j := by
  cases j with
  | negSucc m => exact any_of fun n0 v0 cells0 e => wm37 e n0 v0 cells0 m _
  | ofNat a =>
    by_cases h : a ≤ 50
    · exact wordOK37 h
    · obtain ⟨b, rfl⟩ : ∃ b, a = b + 51 := ⟨a - 51, by omega⟩
      exact any_of fun n0 v0 cells0 e => wb37 e n0 v0 cells0 b _
theorem wm38 (e : TypeId) (n0 v0 : Nat) (cells0 : List AV) (m : Nat) (K : AV → Prop) : wordsR e n0 v0 cells0 (.ofNat 38) (.negSucc m) K = K (.bool true) := by kernel_rfl
theorem wb38 (e : TypeId) (n0 v0 : Nat) (cells0 : List AV) (a : Nat) (K : AV → Prop) : wordsR e n0 v0 cells0 (.ofNat 38) (.ofNat (a + 51)) K = K (.bool true) := by kernel_rfl
theorem wordAny38 (j : Int) : WordAny (.ofNat 38) j := by
  cases j with
  | negSucc m => exact any_of fun n0 v0 cells0 e => wm38 e n0 v0 cells0 m _
  | ofNat a =>
    by_cases h : a ≤ 50
    · exact wordOK38 h
    · obtain ⟨b, rfl⟩ : ∃ b, a = b + 51 := ⟨a - 51, by omega⟩
      exact any_of fun n0 v0 cells0 e => wb38 e n0 v0 cells0 b _
theorem wm39 (e : TypeId) (n0 v0 : Nat) (cells0 : List AV) (m : Nat) (K : AV → Prop) : wordsR e n0 v0 cells0 (.ofNat 39) (.negSucc m) K = K (.bool true) := by kernel_rfl
theorem wb39 (e : TypeId) (n0 v0 : Nat) (cells0 : List AV) (a : Nat) (K : AV → Prop) : wordsR e n0 v0 cells0 (.ofNat 39) (.ofNat (a + 51)) K = K (.bool true) := by kernel_rfl
theorem wordAny39 (j : Int) : WordAny (.ofNat 39) j := by
  cases j with
  | negSucc m => exact any_of fun n0 v0 cells0 e => wm39 e n0 v0 cells0 m _
  | ofNat a =>
    by_cases h : a ≤ 50
    · exact wordOK39 h
    · obtain ⟨b, rfl⟩ : ∃ b, a = b + 51 := ⟨a - 51, by omega⟩
      exact any_of fun n0 v0 cells0 e => wb39 e n0 v0 cells0 b _
theorem wm40 (e : TypeId) (n0 v0 : Nat) (cells0 : List AV) (m : Nat) (K : AV → Prop) : wordsR e n0 v0 cells0 (.ofNat 40) (.negSucc m) K = K (.bool true) := by kernel_rfl
theorem wb40 (e : TypeId) (n0 v0 : Nat) (cells0 : List AV) (a : Nat) (K : AV → Prop) : wordsR e n0 v0 cells0 (.ofNat 40) (.ofNat (a + 51)) K = K (.bool true) := by kernel_rfl
theorem wordAny40 (j : Int) : WordAny (.ofNat 40) j := by
  cases j with
  | negSucc m => exact any_of fun n0 v0 cells0 e => wm40 e n0 v0 cells0 m _
  | ofNat a =>
    by_cases h : a ≤ 50
    · exact wordOK40 h
    · obtain ⟨b, rfl⟩ : ∃ b, a = b + 51 := ⟨a - 51, by omega⟩
      exact any_of fun n0 v0 cells0 e => wb40 e n0 v0 cells0 b _
theorem wm41 (e : TypeId) (n0 v0 : Nat) (cells0 : List AV) (m : Nat) (K : AV → Prop) : wordsR e n0 v0 cells0 (.ofNat 41) (.negSucc m) K = K (.bool true) := by kernel_rfl
theorem wb41 (e : TypeId) (n0 v0 : Nat) (cells0 : List AV) (a : Nat) (K : AV → Prop) : wordsR e n0 v0 cells0 (.ofNat 41) (.ofNat (a + 51)) K = K (.bool true) := by kernel_rfl
theorem wordAny41 (j : Int) : WordAny (.ofNat 41) j := by
  cases j with
  | negSucc m => exact any_of fun n0 v0 cells0 e => wm41 e n0 v0 cells0 m _
  | ofNat a =>
    by_cases h : a ≤ 50
    · exact wordOK41 h
    · obtain ⟨b, rfl⟩ : ∃ b, a = b + 51 := ⟨a - 51, by omega⟩
      exact any_of fun n0 v0 cells0 e => wb41 e n0 v0 cells0 b _
theorem each42 {p : Int → Prop} (h0 : p (.ofNat 0)) (h1 : p (.ofNat 1)) (h2 : p (.ofNat 2)) (h3 : p (.ofNat 3)) (h4 : p (.ofNat 4)) (h5 : p (.ofNat 5)) (h6 : p (.ofNat 6)) (h7 : p (.ofNat 7)) (h8 : p (.ofNat 8)) (h9 : p (.ofNat 9)) (h10 : p (.ofNat 10)) (h11 : p (.ofNat 11)) (h12 : p (.ofNat 12)) (h13 : p (.ofNat 13)) (h14 : p (.ofNat 14)) (h15 : p (.ofNat 15)) (h16 : p (.ofNat 16)) (h17 : p (.ofNat 17)) (h18 : p (.ofNat 18)) (h19 : p (.ofNat 19)) (h20 : p (.ofNat 20)) (h21 : p (.ofNat 21)) (h22 : p (.ofNat 22)) (h23 : p (.ofNat 23)) (h24 : p (.ofNat 24)) (h25 : p (.ofNat 25)) (h26 : p (.ofNat 26)) (h27 : p (.ofNat 27)) (h28 : p (.ofNat 28)) (h29 : p (.ofNat 29)) (h30 : p (.ofNat 30)) (h31 : p (.ofNat 31)) (h32 : p (.ofNat 32)) (h33 : p (.ofNat 33)) (h34 : p (.ofNat 34)) (h35 : p (.ofNat 35)) (h36 : p (.ofNat 36)) (h37 : p (.ofNat 37)) (h38 : p (.ofNat 38)) (h39 : p (.ofNat 39)) (h40 : p (.ofNat 40)) (h41 : p (.ofNat 41)) : ∀ k, k < 42 → p (.ofNat k)
  | 0, _ => h0
  | 1, _ => h1
  | 2, _ => h2
  | 3, _ => h3
  | 4, _ => h4
  | 5, _ => h5
  | 6, _ => h6
  | 7, _ => h7
  | 8, _ => h8
  | 9, _ => h9
  | 10, _ => h10
  | 11, _ => h11
  | 12, _ => h12
  | 13, _ => h13
  | 14, _ => h14
  | 15, _ => h15
  | 16, _ => h16
  | 17, _ => h17
  | 18, _ => h18
  | 19, _ => h19
  | 20, _ => h20
  | 21, _ => h21
  | 22, _ => h22
  | 23, _ => h23
  | 24, _ => h24
  | 25, _ => h25
  | 26, _ => h26
  | 27, _ => h27
  | 28, _ => h28
  | 29, _ => h29
  | 30, _ => h30
  | 31, _ => h31
  | 32, _ => h32
  | 33, _ => h33
  | 34, _ => h34
  | 35, _ => h35
  | 36, _ => h36
  | 37, _ => h37
  | 38, _ => h38
  | 39, _ => h39
  | 40, _ => h40
  | 41, _ => h41
  | k + 42, h => absurd h (by omega)
theorem word_any (i j : Int) : WordAny i j := by
  cases i with
  | negSucc k => exact any_of fun n0 v0 cells0 e => words_n1 e n0 v0 cells0 k j _
  | ofNat k =>
    by_cases h : k < 42
    · exact each42 (p := fun i => WordAny i j) (wordAny0 j) (wordAny1 j) (wordAny2 j) (wordAny3 j) (wordAny4 j) (wordAny5 j) (wordAny6 j) (wordAny7 j) (wordAny8 j) (wordAny9 j) (wordAny10 j) (wordAny11 j) (wordAny12 j) (wordAny13 j) (wordAny14 j) (wordAny15 j) (wordAny16 j) (wordAny17 j) (wordAny18 j) (wordAny19 j) (wordAny20 j) (wordAny21 j) (wordAny22 j) (wordAny23 j) (wordAny24 j) (wordAny25 j) (wordAny26 j) (wordAny27 j) (wordAny28 j) (wordAny29 j) (wordAny30 j) (wordAny31 j) (wordAny32 j) (wordAny33 j) (wordAny34 j) (wordAny35 j) (wordAny36 j) (wordAny37 j) (wordAny38 j) (wordAny39 j) (wordAny40 j) (wordAny41 j) k h
    · obtain ⟨m, rfl⟩ : ∃ m, k = m + 42 := ⟨k - 42, by omega⟩
      exact any_of fun n0 v0 cells0 e => words_b1 e n0 v0 cells0 m j _
end
end Go.Proofs.YtoeoaiipchklbaaDoor

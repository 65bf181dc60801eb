/- Stream: SameRows. -/
import Derived.Test.YtkfhjobebhdpoaaGreatMB
import Derived.Test.YtkfhjobebhdpoaaGreatE7
set_option linter.unusedVariables false
set_option linter.unusedSimpArgs false
set_option autoImplicit false
set_option maxRecDepth 1000000
set_option maxHeartbeats 1000000
namespace Go.Proofs.YtkfhjobebhdpoaaGreat
noncomputable section
open Go.X
theorem eqII (n : Int) : eqI n n = true := by rw [eqI_eq]; simp
theorem ltIT {a b : Int} (h : ltI a b = true) : a < b := by rw [ltI_eq, decide_eq_true_iff] at h; exact h
theorem ltIF {a b : Int} (h : ltI a b = false) : ¬ a < b := by rw [ltI_eq, decide_eq_false_iff_not] at h; exact h
/-- the rows of a list of rows, each of m numbers, hold what is told -/
def RowsAre (h : H) (A n m : Nat) (za : Nat → Nat) (x : Nat → Nat → Int) : Prop := ∀ i, i < n → cellIs h A i (.row (za i) m (x i)) ∧ ∀ k, k < m → cellIs h (za i) k (.sc (x i k))
theorem same1_l (h : H) (A B n i : Nat) (x : Nat → Nat → Int) (za zb : Nat → Nat) (Kv : XE → H → List (Option AV) → Prop) : xcode C1 Tryz.prog F 16 (loopC Tryz.prog 16 5) (mask 16) (tmpsN Tryz.prog 16) (mkE [(0, .vs A 0 n (fun i => .row (za i) 1 (x i))), (1, .vs B 0 n (fun i => .row (zb i) 1 (x i))), (4, .bool false), (5, .int .i64 (Int.ofNat i))]) h [] (fun x env h ds => Kv x h (sl [0, 1, 4, 5] env)) = (bcase (ltI (Int.ofNat i) (Int.ofNat n)) (bcase (inB (Int.ofNat i) n) (cellIs h A (Nat.add 0 (Nat.mul (Int.toNat (Int.ofNat i)) 1)) (CV.row (za (Nat.add 0 (Nat.mul (Int.toNat (Int.ofNat i)) 1))) 1 (x (Nat.add 0 (Nat.mul (Int.toNat (Int.ofNat i)) 1)))) ∧ bcase (inB (Int.ofNat i) n) (cellIs h B (Nat.add 0 (Nat.mul (Int.toNat (Int.ofNat i)) 1)) (CV.row (zb (Nat.add 0 (Nat.mul (Int.toNat (Int.ofNat i)) 1))) 1 (x (Nat.add 0 (Nat.mul (Int.toNat (Int.ofNat i)) 1)))) ∧ bcase (inB (Int.ofNat i) n) (cellIs h A (Nat.add 0 (Nat.mul (Int.toNat (Int.ofNat i)) 1)) (CV.row (za (Nat.add 0 (Nat.mul (Int.toNat (Int.ofNat i)) 1))) 1 (x (Nat.add 0 (Nat.mul (Int.toNat (Int.ofNat i)) 1)))) ∧ bcase (inB (Int.ofNat i) n) (cellIs h A (Nat.add 0 (Nat.mul (Int.toNat (Int.ofNat i)) 1)) (CV.row (za (Nat.add 0 (Nat.mul (Int.toNat (Int.ofNat i)) 1))) 1 (x (Nat.add 0 (Nat.mul (Int.toNat (Int.ofNat i)) 1)))) ∧ cellIs h (za (Nat.add 0 (Nat.mul (Int.toNat (Int.ofNat i)) 1))) 0 (CV.sc (x (Nat.add 0 (Nat.mul (Int.toNat (Int.ofNat i)) 1)) 0)) ∧ bcase (inB (Int.ofNat i) n) (cellIs h B (Nat.add 0 (Nat.mul (Int.toNat (Int.ofNat i)) 1)) (CV.row (zb (Nat.add 0 (Nat.mul (Int.toNat (Int.ofNat i)) 1))) 1 (x (Nat.add 0 (Nat.mul (Int.toNat (Int.ofNat i)) 1)))) ∧ cellIs h (zb (Nat.add 0 (Nat.mul (Int.toNat (Int.ofNat i)) 1))) 0 (CV.sc (x (Nat.add 0 (Nat.mul (Int.toNat (Int.ofNat i)) 1)) 0)) ∧ bcase (eqI (x (Nat.add 0 (Nat.mul (Int.toNat (Int.ofNat i)) 1)) 0) (x (Nat.add 0 (Nat.mul (Int.toNat (Int.ofNat i)) 1)) 0)) (bcase (inB (Int.ofNat i) n) (cellIs h A (Nat.add 0 (Nat.mul (Int.toNat (Int.ofNat i)) 1)) (CV.row (za (Nat.add 0 (Nat.mul (Int.toNat (Int.ofNat i)) 1))) 1 (x (Nat.add 0 (Nat.mul (Int.toNat (Int.ofNat i)) 1)))) ∧ bcase (inR Go.IntKind.i64 (Int.ofNat i + Int.ofNat 1)) (Kv XE.nrm h [Option.some (AV.vs A 0 n fun i => CV.row (za i) 1 (x i)), Option.some (AV.vs B 0 n fun i => CV.row (zb i) 1 (x i)), Option.some (AV.bool false), Option.some (AV.int Go.IntKind.i64 (Int.ofNat i + Int.ofNat 1))]) False) False) (Kv XE.ret h [Option.some (AV.vs A 0 n fun i => CV.row (za i) 1 (x i)), Option.some (AV.vs B 0 n fun i => CV.row (zb i) 1 (x i)), Option.some (AV.bool false), Option.some (AV.int Go.IntKind.i64 (Int.ofNat i))])) False) False) False) False) False) (Kv (XE.ext 0) h [Option.some (AV.vs A 0 n fun i => CV.row (za i) 1 (x i)), Option.some (AV.vs B 0 n fun i => CV.row (zb i) 1 (x i)), Option.some (AV.bool false), Option.some (AV.int Go.IntKind.i64 (Int.ofNat i))])) := by kernel_rfl
/-- the slots at the loop's door -/
def sE1 (A B n : Nat) (x : Nat → Nat → Int) (za zb : Nat → Nat) (i : Nat) : List (Nat × AV) := [(0, .vs A 0 n (fun i => .row (za i) 1 (x i))), (1, .vs B 0 n (fun i => .row (zb i) 1 (x i))), (4, .bool false), (5, .int .i64 (Int.ofNat i))]
theorem same1_tree {h : H} {A B n i : Nat} {x : Nat → Nat → Int} {za zb : Nat → Nat} (ra : RowsAre h A n 1 za x) (rb : RowsAre h B n 1 zb x) (hn : n ≤ 100000) (hi : i ≤ n) {Kv : XE → H → List (Option AV) → Prop}
    (h1 : i < n → Kv .nrm h (slx (sE1 A B n x za zb (i + 1)))) (h2 : i = n → Kv (.ext 0) h (slx (sE1 A B n x za zb i))) :
    xcode C1 Tryz.prog F 16 (loopC Tryz.prog 16 5) (mask 16) (tmpsN Tryz.prog 16) (mkE (sE1 A B n x za zb i)) h [] (fun x env h ds => Kv x h (sl [0, 1, 4, 5] env)) := by
  refine Eq.mpr (same1_l h A B n i x za zb Kv) ?_
  simp only [ix_eq]
  refine bcase_mk (fun hlt => ?_) (fun hge => ?_)
  · have hlt : i < n := by have := ltIT hlt; simpa using this
    have c1 := ra i hlt
    have c2 := rb i hlt
    repeat' first
      | exact h1 hlt
      | refine bcase_tt (inB_of hlt) ?_
      | refine bcase_tt (eqII _) ?_
      | refine bcase_tt (inR_add (by omega)) ?_
      | refine And.intro c1.1 ?_
      | refine And.intro c2.1 ?_
      | refine And.intro (c1.2 _ (by decide)) ?_
      | refine And.intro (c2.2 _ (by decide)) ?_
  · have hge : ¬ i < n := by have := ltIF hge; simpa using this
    exact h2 (by omega)
theorem same1_good {h : H} (hc : HC h) {A B n : Nat} (hA : A < h.next) (hB : B < h.next) {x : Nat → Nat → Int} {za zb : Nat → Nat} (ra : RowsAre h A n 1 za x) (rb : RowsAre h B n 1 zb x) (hn : n ≤ 100000) :
    X.Good (C1.addLc 16 5 (lcH h (S0 := Unit) (fun _ => True) [0, 1, 4, 5] (fun _ => sE1 A B n x za zb 0) (fun _ => (.ext 0, sE1 A B n x za zb n)))) Tryz.prog := by
  refine good1.addH hc (S := Nat) (ι := fun _ => 0) (ok := fun i => i ≤ n) (E := sE1 A B n x za zb) (μ := fun i => n - i) (fin := fun _ => (.ext 0, sE1 A B n x za zb n)) (fuel := F) (by rfl) (fun _ _ => ⟨Nat.zero_le _, rfl, rfl⟩) ?_ ?_ (fun g i h => by cases h)
  · intro i _
    have a1 := Nat.ble_eq_true_of_le hA
    have a2 := Nat.ble_eq_true_of_le hB
    refine ⟨rfl, ?_, rfl, ?_⟩ <;>
    · show Bool.and (Nat.ble (Nat.succ A) h.next) (Bool.and (Nat.ble (Nat.succ B) h.next) true) = true
      rw [a1, a2]; rfl
  · intro i hi
    refine ⟨same1_tree ra rb hn hi (Kv := fun x' h' s => h' = h ∧ match x' with
      | .nrm => ∃ s', s' ≤ n ∧ n - s' < n - i ∧ (XE.ext 0, sE1 A B n x za zb n) = (XE.ext 0, sE1 A B n x za zb n) ∧ s = slx (sE1 A B n x za zb s')
      | y => XE.ext 0 = y ∧ s = slx (sE1 A B n x za zb n)) (fun hlt => ⟨rfl, i + 1, by omega, by omega, rfl, rfl⟩) (fun e => ⟨rfl, rfl, by rw [e]⟩)⟩
theorem same1_ok {h : H} (hc : HC h) {A B n : Nat} (hA : A < h.next) (hB : B < h.next) {x : Nat → Nat → Int} {za zb : Nat → Nat} (ra : RowsAre h A n 1 za x) (rb : RowsAre h B n 1 zb x) (hn : n ≤ 100000) {ds : List Bool} {K : KV} (hK : K (.bool true) h ds) :
    CallOK Tryz.prog (fun _ => none) 16 [.vs A 0 n (fun i => .row (za i) 1 (x i)), .vs B 0 n (fun i => .row (zb i) 1 (x i))] h K := by
  have G := same1_good hc hA hB ra rb hn
  refine call_ds (ds := ds) (xrun_call G.ok G.spl (fuel := F) (ds := []) ?_)
  have key : ∀ (K : KV), xfun (C1.addLc 16 5 (lcH h (S0 := Unit) (fun _ => True) [0, 1, 4, 5] (fun _ => sE1 A B n x za zb 0) (fun _ => (.ext 0, sE1 A B n x za zb n)))) Tryz.prog (xcode (C1.addLc 16 5 (lcH h (S0 := Unit) (fun _ => True) [0, 1, 4, 5] (fun _ => sE1 A B n x za zb 0) (fun _ => (.ext 0, sE1 A B n x za zb n)))) Tryz.prog F) 16 [.vs A 0 n (fun i => .row (za i) 1 (x i)), .vs B 0 n (fun i => .row (zb i) 1 (x i))] h [] K =
      bcase (eqI (Int.ofNat n) (Int.ofNat n)) (h = h ∧ ∃ _ : Unit, True ∧ slx (sE1 A B n x za zb 0) = slx (sE1 A B n x za zb 0) ∧ K (.bool true) h []) (K (.bool false) h []) := fun K => by kernel_rfl
  refine Eq.mpr (key _) ?_
  exact bcase_tt (eqII _) ⟨rfl, (), trivial, rfl, hK⟩
theorem same2_l (h : H) (A B n i : Nat) (x : Nat → Nat → Int) (za zb : Nat → Nat) (Kv : XE → H → List (Option AV) → Prop) : xcode C1 Tryz.prog F 16 (loopC Tryz.prog 16 5) (mask 16) (tmpsN Tryz.prog 16) (mkE [(0, .vs A 0 n (fun i => .row (za i) 2 (x i))), (1, .vs B 0 n (fun i => .row (zb i) 2 (x i))), (4, .bool false), (5, .int .i64 (Int.ofNat i))]) h [] (fun x env h ds => Kv x h (sl [0, 1, 4, 5] env)) = (bcase (ltI (Int.ofNat i) (Int.ofNat n)) (bcase (inB (Int.ofNat i) n) (cellIs h A (Nat.add 0 (Nat.mul (Int.toNat (Int.ofNat i)) 1)) (CV.row (za (Nat.add 0 (Nat.mul (Int.toNat (Int.ofNat i)) 1))) 2 (x (Nat.add 0 (Nat.mul (Int.toNat (Int.ofNat i)) 1)))) ∧ bcase (inB (Int.ofNat i) n) (cellIs h B (Nat.add 0 (Nat.mul (Int.toNat (Int.ofNat i)) 1)) (CV.row (zb (Nat.add 0 (Nat.mul (Int.toNat (Int.ofNat i)) 1))) 2 (x (Nat.add 0 (Nat.mul (Int.toNat (Int.ofNat i)) 1)))) ∧ bcase (inB (Int.ofNat i) n) (cellIs h A (Nat.add 0 (Nat.mul (Int.toNat (Int.ofNat i)) 1)) (CV.row (za (Nat.add 0 (Nat.mul (Int.toNat (Int.ofNat i)) 1))) 2 (x (Nat.add 0 (Nat.mul (Int.toNat (Int.ofNat i)) 1)))) ∧ bcase (inB (Int.ofNat i) n) (cellIs h A (Nat.add 0 (Nat.mul (Int.toNat (Int.ofNat i)) 1)) (CV.row (za (Nat.add 0 (Nat.mul (Int.toNat (Int.ofNat i)) 1))) 2 (x (Nat.add 0 (Nat.mul (Int.toNat (Int.ofNat i)) 1)))) ∧ cellIs h (za (Nat.add 0 (Nat.mul (Int.toNat (Int.ofNat i)) 1))) 0 (CV.sc (x (Nat.add 0 (Nat.mul (Int.toNat (Int.ofNat i)) 1)) 0)) ∧ bcase (inB (Int.ofNat i) n) (cellIs h B (Nat.add 0 (Nat.mul (Int.toNat (Int.ofNat i)) 1)) (CV.row (zb (Nat.add 0 (Nat.mul (Int.toNat (Int.ofNat i)) 1))) 2 (x (Nat.add 0 (Nat.mul (Int.toNat (Int.ofNat i)) 1)))) ∧ cellIs h (zb (Nat.add 0 (Nat.mul (Int.toNat (Int.ofNat i)) 1))) 0 (CV.sc (x (Nat.add 0 (Nat.mul (Int.toNat (Int.ofNat i)) 1)) 0)) ∧ bcase (eqI (x (Nat.add 0 (Nat.mul (Int.toNat (Int.ofNat i)) 1)) 0) (x (Nat.add 0 (Nat.mul (Int.toNat (Int.ofNat i)) 1)) 0)) (bcase (inB (Int.ofNat i) n) (cellIs h A (Nat.add 0 (Nat.mul (Int.toNat (Int.ofNat i)) 1)) (CV.row (za (Nat.add 0 (Nat.mul (Int.toNat (Int.ofNat i)) 1))) 2 (x (Nat.add 0 (Nat.mul (Int.toNat (Int.ofNat i)) 1)))) ∧ bcase (inB (Int.ofNat i) n) (cellIs h A (Nat.add 0 (Nat.mul (Int.toNat (Int.ofNat i)) 1)) (CV.row (za (Nat.add 0 (Nat.mul (Int.toNat (Int.ofNat i)) 1))) 2 (x (Nat.add 0 (Nat.mul (Int.toNat (Int.ofNat i)) 1)))) ∧ cellIs h (za (Nat.add 0 (Nat.mul (Int.toNat (Int.ofNat i)) 1))) 1 (CV.sc (x (Nat.add 0 (Nat.mul (Int.toNat (Int.ofNat i)) 1)) 1)) ∧ bcase (inB (Int.ofNat i) n) (cellIs h B (Nat.add 0 (Nat.mul (Int.toNat (Int.ofNat i)) 1)) (CV.row (zb (Nat.add 0 (Nat.mul (Int.toNat (Int.ofNat i)) 1))) 2 (x (Nat.add 0 (Nat.mul (Int.toNat (Int.ofNat i)) 1)))) ∧ cellIs h (zb (Nat.add 0 (Nat.mul (Int.toNat (Int.ofNat i)) 1))) 1 (CV.sc (x (Nat.add 0 (Nat.mul (Int.toNat (Int.ofNat i)) 1)) 1)) ∧ bcase (eqI (x (Nat.add 0 (Nat.mul (Int.toNat (Int.ofNat i)) 1)) 1) (x (Nat.add 0 (Nat.mul (Int.toNat (Int.ofNat i)) 1)) 1)) (bcase (inB (Int.ofNat i) n) (cellIs h A (Nat.add 0 (Nat.mul (Int.toNat (Int.ofNat i)) 1)) (CV.row (za (Nat.add 0 (Nat.mul (Int.toNat (Int.ofNat i)) 1))) 2 (x (Nat.add 0 (Nat.mul (Int.toNat (Int.ofNat i)) 1)))) ∧ bcase (inR Go.IntKind.i64 (Int.ofNat i + Int.ofNat 1)) (Kv XE.nrm h [Option.some (AV.vs A 0 n fun i => CV.row (za i) 2 (x i)), Option.some (AV.vs B 0 n fun i => CV.row (zb i) 2 (x i)), Option.some (AV.bool false), Option.some (AV.int Go.IntKind.i64 (Int.ofNat i + Int.ofNat 1))]) False) False) (Kv XE.ret h [Option.some (AV.vs A 0 n fun i => CV.row (za i) 2 (x i)), Option.some (AV.vs B 0 n fun i => CV.row (zb i) 2 (x i)), Option.some (AV.bool false), Option.some (AV.int Go.IntKind.i64 (Int.ofNat i))])) False) False) False) (Kv XE.ret h [Option.some (AV.vs A 0 n fun i => CV.row (za i) 2 (x i)), Option.some (AV.vs B 0 n fun i => CV.row (zb i) 2 (x i)), Option.some (AV.bool false), Option.some (AV.int Go.IntKind.i64 (Int.ofNat i))])) False) False) False) False) False) (Kv (XE.ext 0) h [Option.some (AV.vs A 0 n fun i => CV.row (za i) 2 (x i)), Option.some (AV.vs B 0 n fun i => CV.row (zb i) 2 (x i)), Option.some (AV.bool false), Option.some (AV.int Go.IntKind.i64 (Int.ofNat i))])) := by kernel_rfl
/-- the slots at the loop's door -/
def sE2 (A B n : Nat) (x : Nat → Nat → Int) (za zb : Nat → Nat) (i : Nat) : List (Nat × AV) := [(0, .vs A 0 n (fun i => .row (za i) 2 (x i))), (1, .vs B 0 n (fun i => .row (zb i) 2 (x i))), (4, .bool false), (5, .int .i64 (Int.ofNat i))]
theorem same2_tree {h : H} {A B n i : Nat} {x : Nat → Nat → Int} {za zb : Nat → Nat} (ra : RowsAre h A n 2 za x) (rb : RowsAre h B n 2 zb x) (hn : n ≤ 100000) (hi : i ≤ n) {Kv : XE → H → List (Option AV) → Prop}
    (h1 : i < n → Kv .nrm h (slx (sE2 A B n x za zb (i + 1)))) (h2 : i = n → Kv (.ext 0) h (slx (sE2 A B n x za zb i))) :
    xcode C1 Tryz.prog F 16 (loopC Tryz.prog 16 5) (mask 16) (tmpsN Tryz.prog 16) (mkE (sE2 A B n x za zb i)) h [] (fun x env h ds => Kv x h (sl [0, 1, 4, 5] env)) := by
  refine Eq.mpr (same2_l h A B n i x za zb Kv) ?_
  simp only [ix_eq]
  refine bcase_mk (fun hlt => ?_) (fun hge => ?_)
  · have hlt : i < n := by have := ltIT hlt; simpa using this
    have c1 := ra i hlt
    have c2 := rb i hlt
    repeat' first
      | exact h1 hlt
      | refine bcase_tt (inB_of hlt) ?_
      | refine bcase_tt (eqII _) ?_
      | refine bcase_tt (inR_add (by omega)) ?_
      | refine And.intro c1.1 ?_
      | refine And.intro c2.1 ?_
      | refine And.intro (c1.2 _ (by decide)) ?_
      | refine And.intro (c2.2 _ (by decide)) ?_
  · have hge : ¬ i < n := by have := ltIF hge; simpa using this
    exact h2 (by omega)
theorem same2_good {h : H} (hc : HC h) {A B n : Nat} (hA : A < h.next) (hB : B < h.next) {x : Nat → Nat → Int} {za zb : Nat → Nat} (ra : RowsAre h A n 2 za x) (rb : RowsAre h B n 2 zb x) (hn : n ≤ 100000) :
    X.Good (C1.addLc 16 5 (lcH h (S0 := Unit) (fun _ => True) [0, 1, 4, 5] (fun _ => sE2 A B n x za zb 0) (fun _ => (.ext 0, sE2 A B n x za zb n)))) Tryz.prog := by
  refine good1.addH hc (S := Nat) (ι := fun _ => 0) (ok := fun i => i ≤ n) (E := sE2 A B n x za zb) (μ := fun i => n - i) (fin := fun _ => (.ext 0, sE2 A B n x za zb n)) (fuel := F) (by rfl) (fun _ _ => ⟨Nat.zero_le _, rfl, rfl⟩) ?_ ?_ (fun g i h => by cases h)
  · intro i _
    have a1 := Nat.ble_eq_true_of_le hA
    have a2 := Nat.ble_eq_true_of_le hB
    refine ⟨rfl, ?_, rfl, ?_⟩ <;>
    · show Bool.and (Nat.ble (Nat.succ A) h.next) (Bool.and (Nat.ble (Nat.succ B) h.next) true) = true
      rw [a1, a2]; rfl
  · intro i hi
    refine ⟨same2_tree ra rb hn hi (Kv := fun x' h' s => h' = h ∧ match x' with
      | .nrm => ∃ s', s' ≤ n ∧ n - s' < n - i ∧ (XE.ext 0, sE2 A B n x za zb n) = (XE.ext 0, sE2 A B n x za zb n) ∧ s = slx (sE2 A B n x za zb s')
      | y => XE.ext 0 = y ∧ s = slx (sE2 A B n x za zb n)) (fun hlt => ⟨rfl, i + 1, by omega, by omega, rfl, rfl⟩) (fun e => ⟨rfl, rfl, by rw [e]⟩)⟩
theorem same2_ok {h : H} (hc : HC h) {A B n : Nat} (hA : A < h.next) (hB : B < h.next) {x : Nat → Nat → Int} {za zb : Nat → Nat} (ra : RowsAre h A n 2 za x) (rb : RowsAre h B n 2 zb x) (hn : n ≤ 100000) {ds : List Bool} {K : KV} (hK : K (.bool true) h ds) :
    CallOK Tryz.prog (fun _ => none) 16 [.vs A 0 n (fun i => .row (za i) 2 (x i)), .vs B 0 n (fun i => .row (zb i) 2 (x i))] h K := by
  have G := same2_good hc hA hB ra rb hn
  refine call_ds (ds := ds) (xrun_call G.ok G.spl (fuel := F) (ds := []) ?_)
  have key : ∀ (K : KV), xfun (C1.addLc 16 5 (lcH h (S0 := Unit) (fun _ => True) [0, 1, 4, 5] (fun _ => sE2 A B n x za zb 0) (fun _ => (.ext 0, sE2 A B n x za zb n)))) Tryz.prog (xcode (C1.addLc 16 5 (lcH h (S0 := Unit) (fun _ => True) [0, 1, 4, 5] (fun _ => sE2 A B n x za zb 0) (fun _ => (.ext 0, sE2 A B n x za zb n)))) Tryz.prog F) 16 [.vs A 0 n (fun i => .row (za i) 2 (x i)), .vs B 0 n (fun i => .row (zb i) 2 (x i))] h [] K =
      bcase (eqI (Int.ofNat n) (Int.ofNat n)) (h = h ∧ ∃ _ : Unit, True ∧ slx (sE2 A B n x za zb 0) = slx (sE2 A B n x za zb 0) ∧ K (.bool true) h []) (K (.bool false) h []) := fun K => by kernel_rfl
  refine Eq.mpr (key _) ?_
  exact bcase_tt (eqII _) ⟨rfl, (), trivial, rfl, hK⟩
end
end Go.Proofs.YtkfhjobebhdpoaaGreat
/- Stream: Ask at rows of one truth value each. -/
set_option autoImplicit false
set_option maxRecDepth 1000000
set_option maxHeartbeats 2000000
set_option linter.unusedVariables false
namespace Go.Proofs.YtkfhjobebhdpoaaGreat
noncomputable section
open Go.X
/-- one where it holds -/
def bi (b : Bool) : Int := Bool.rec 0 1 b
def gkB : Nat → CV := fun _ => .sc 1
def kE (KN A n i : Nat) (g : Nat → CV) : List (Nat × AV) := [(0, .vs KN 0 1 gkB), (4, .int .i64 (Int.ofNat 0)), (12, .vs A 0 n g), (13, .int .i64 (Int.ofNat n)), (14, .int .i64 (Int.ofNat i))]
theorem ask0 (h : H) (A KN n i r : Nat) (Kv : XE → H → List (Option AV) → List (Option AV) → Prop) : xcode C1 Tryz.prog F 24 (loopC Tryz.prog 24 5) (mask 24) (tmpsN Tryz.prog 24) (mkE (kE KN A n i (fun _ => .row r 1 (fun _ => 0)))) h [] (fun x env h ds => Kv x h (sl [0, 4, 12, 13, 14] env) (sl [4] env)) =
    (bcase (ltI (Int.ofNat i) (Int.ofNat n)) (bcase (inB (Int.ofNat i) n) (cellIs h A (Nat.add 0 (Nat.mul (Int.toNat (Int.ofNat i)) 1)) (.row r 1 (fun _ => 0)) ∧ cellIs h r 0 (.sc 0) ∧ cellIs h KN 0 (.sc 1) ∧ bcase (inR .i64 (Int.ofNat i + Int.ofNat 1)) (Kv .nrm h (slx (kE KN A n (i + 1) (fun _ => .row r 1 (fun _ => 0)))) [some (.int .i64 (Int.ofNat 0))]) False) False)
      (Kv (.ext 0) h (slx (kE KN A n i (fun _ => .row r 1 (fun _ => 0)))) [some (.int .i64 (Int.ofNat 0))])) := by kernel_rfl
theorem ask1 (h : H) (A KN n i r : Nat) (Kv : XE → H → List (Option AV) → List (Option AV) → Prop) : xcode C1 Tryz.prog F 24 (loopC Tryz.prog 24 5) (mask 24) (tmpsN Tryz.prog 24) (mkE (kE KN A n i (fun _ => .row r 1 (fun _ => 1)))) h [] (fun x env h ds => Kv x h (sl [0, 4, 12, 13, 14] env) (sl [4] env)) =
    (bcase (ltI (Int.ofNat i) (Int.ofNat n)) (bcase (inB (Int.ofNat i) n) (cellIs h A (Nat.add 0 (Nat.mul (Int.toNat (Int.ofNat i)) 1)) (.row r 1 (fun _ => 1)) ∧ cellIs h r 0 (.sc 1) ∧ cellIs h KN 0 (.sc 1) ∧ bcase (inR .i64 (Int.ofNat i + Int.ofNat 1)) (Kv .nrm h (slx (kE KN A n (i + 1) (fun _ => .row r 1 (fun _ => 1)))) [some (.int .i64 (Int.ofNat 0))]) False) False)
      (Kv (.ext 0) h (slx (kE KN A n i (fun _ => .row r 1 (fun _ => 1)))) [some (.int .i64 (Int.ofNat 0))])) := by kernel_rfl
/-- rows of one truth value each -/
def TruthRows (h : H) (A n : Nat) (r : Nat → Nat) (l : Nat → Bool) : Prop := ∀ i, i < n → (∀ c, cellIs h A i (.row (r i) 1 c)) ∧ cellIs h (r i) 0 (.sc (bi (l i)))
theorem ask_tree {h : H} {A KN n i : Nat} {r : Nat → Nat} {l : Nat → Bool} (ra : TruthRows h A n r l) (hk : cellIs h KN 0 (.sc 1)) (hn : n ≤ 1000) (hi : i ≤ n) {Kv : XE → H → List (Option AV) → List (Option AV) → Prop}
    (h1 : i < n → Kv .nrm h (slx (kE KN A n (i + 1) (fun _ => .row (r i) 1 (fun _ => bi (l i))))) [some (.int .i64 (Int.ofNat 0))]) (h2 : i = n → Kv (.ext 0) h (slx (kE KN A n i (fun _ => .row (r i) 1 (fun _ => bi (l i))))) [some (.int .i64 (Int.ofNat 0))]) :
    xcode C1 Tryz.prog F 24 (loopC Tryz.prog 24 5) (mask 24) (tmpsN Tryz.prog 24) (mkE (kE KN A n i (fun _ => .row (r i) 1 (fun _ => bi (l i))))) h [] (fun x env h ds => Kv x h (sl [0, 4, 12, 13, 14] env) (sl [4] env)) := by
  have key : bcase (ltI (Int.ofNat i) (Int.ofNat n)) (bcase (inB (Int.ofNat i) n) (cellIs h A (Nat.add 0 (Nat.mul (Int.toNat (Int.ofNat i)) 1)) (.row (r i) 1 (fun _ => bi (l i))) ∧ cellIs h (r i) 0 (.sc (bi (l i))) ∧ cellIs h KN 0 (.sc 1) ∧ bcase (inR .i64 (Int.ofNat i + Int.ofNat 1)) (Kv .nrm h (slx (kE KN A n (i + 1) (fun _ => .row (r i) 1 (fun _ => bi (l i))))) [some (.int .i64 (Int.ofNat 0))]) False) False)
      (Kv (.ext 0) h (slx (kE KN A n i (fun _ => .row (r i) 1 (fun _ => bi (l i))))) [some (.int .i64 (Int.ofNat 0))]) := by
    refine bcase_mk (fun hlt => ?_) (fun hge => ?_)
    · have hlt : i < n := by have := ltIT hlt; simpa using this
      obtain ⟨c1, c2⟩ := ra i hlt
      rw [ix_eq]
      exact bcase_tt (inB_of hlt) ⟨c1 _, c2, hk, bcase_tt (inR_add (by omega)) (h1 hlt)⟩
    · have hge : ¬ i < n := by have := ltIF hge; simpa using this
      exact h2 (by omega)
  cases hb : l i with
  | false => rw [hb] at key; exact Eq.mpr (ask0 h A KN n i (r i) Kv) key
  | true => rw [hb] at key; exact Eq.mpr (ask1 h A KN n i (r i) Kv) key
theorem pe_kE (KN A n i : Nat) (g g' : Nat → CV) : Pe (kE KN A n i g) (kE KN A n i g') :=
  .cons _ _ _ _ _ (.inl rfl) (.cons _ _ _ _ _ (.inl rfl) (.cons _ _ _ _ _ (.inr ⟨_, _, _, _, _, rfl, rfl⟩) (.cons _ _ _ _ _ (.inl rfl) (.cons _ _ _ _ _ (.inl rfl) .nil))))
def lcK (h : H) (KN A n : Nat) (g : Nat → CV) : LCon := lcH h (S0 := Unit) (fun _ => True) [0, 4, 12, 13, 14] (fun _ => kE KN A n 0 g) (fun _ => (.ext 0, [(4, .int .i64 (Int.ofNat 0))]))
theorem ask_good {h : H} (hc : HC h) {KN A n : Nat} (hKN : KN < h.next) (hA : A < h.next) {r : Nat → Nat} {l : Nat → Bool} (ra : TruthRows h A n r l) (hk : cellIs h KN 0 (.sc 1)) (hn : n ≤ 1000) (g : Nat → CV) :
    X.Good (C1.addLc 24 5 (lcK h KN A n g)) Tryz.prog := by
  refine good1.addHR hc (S := Nat × (Nat → CV)) (ι := fun _ => (0, g)) (ok := fun s => s.1 ≤ n) (E := fun s => kE KN A n s.1 s.2) (Er := fun s => kE KN A n s.1 (fun _ => .row (r s.1) 1 (fun _ => bi (l s.1)))) (μ := fun s => n - s.1) (fin := fun _ => (.ext 0, [(4, .int .i64 (Int.ofNat 0))])) (tsF := [4]) (fuel := F) (by rfl) (fun s _ => pe_kE ..) (fun _ _ => ⟨Nat.zero_le _, rfl, rfl⟩) ?_ ?_ (fun g i h => by cases h)
  · intro s _
    have a1 := Nat.ble_eq_true_of_le hKN
    have a2 := Nat.ble_eq_true_of_le hA
    refine ⟨rfl, ?_, rfl, rfl⟩
    show Bool.and (Nat.ble (Nat.succ KN) h.next) (Bool.and true (Bool.and (Nat.ble (Nat.succ A) h.next) true)) = true
    rw [a1, a2]; rfl
  · intro s hs
    exact ⟨ask_tree ra hk hn hs (Kv := fun x' h' s1 s2 => h' = h ∧ match x' with
      | .nrm => ∃ s' : Nat × (Nat → CV), s'.1 ≤ n ∧ n - s'.1 < n - s.1 ∧ (XE.ext 0, [(4, AV.int .i64 (Int.ofNat 0))]) = (XE.ext 0, [(4, AV.int .i64 (Int.ofNat 0))]) ∧ s1 = slx (kE KN A n s'.1 s'.2)
      | y => XE.ext 0 = y ∧ s2 = slx [(4, AV.int .i64 (Int.ofNat 0))]) (fun hlt => ⟨rfl, (s.1 + 1, _), by show s.1 + 1 ≤ n; omega, by show n - (s.1 + 1) < n - s.1; omega, rfl, rfl⟩) (fun e => ⟨rfl, rfl, rfl⟩)⟩
theorem ask_run {h : H} (hc : HC h) {KN A n : Nat} (hKN : KN < h.next) (hA : A < h.next) {r : Nat → Nat} {l : Nat → Bool} (ra : TruthRows h A n r l) (hk : cellIs h KN 0 (.sc 1)) (hn : n ≤ 1000) (g : Nat → CV) :
    Ran (xfun (C1.addLc 24 5 (lcK h KN A n g)) Tryz.prog (xcode (C1.addLc 24 5 (lcK h KN A n g)) Tryz.prog F) 24 [.vs KN 0 1 gkB, .vs A 0 n g] h [] (fun v h' _ => v = .int .i64 (Int.ofNat 0) ∧ h' = h)) := by
  have key : ∀ (K : KV), xfun (C1.addLc 24 5 (lcK h KN A n g)) Tryz.prog (xcode (C1.addLc 24 5 (lcK h KN A n g)) Tryz.prog F) 24 [.vs KN 0 1 gkB, .vs A 0 n g] h [] K =
      bcase (ltI (Int.ofNat 1000) (Int.ofNat n)) (K (.int .i64 (Int.ofNat 2)) h []) (h = h ∧ ∃ _ : Unit, True ∧ slx (kE KN A n 0 g) = slx (kE KN A n 0 g) ∧ K (.int .i64 (Int.ofNat 0)) h []) := fun K => by kernel_rfl
  refine ⟨Eq.mpr (key _) ?_⟩
  exact bcase_ff (by rw [ltI_eq]; simp; omega) ⟨rfl, (), trivial, rfl, rfl, rfl⟩
/-- .. in a heap that holds more -/
theorem ask_ok {h : H} {KN n : Nat} {l : Nat → Bool} {z : T Blk} {N : Nat} (hN : h.next = N) (hKN : KN < N) (hz30 : 31 < N) (hn : n ≤ 60) (g : Nat → CV) (hzo : ZoneOK z N) (hcs : belL N (zrowsT 0 1 n) = true) (hne : KN ≠ 30)
    (hB : lmap (fun a => T.get h.b a) [KN, 30] = [some (.row [.int .i64 1] 3 true []), some (.row (zrowsT 0 1 n) 22 true [])]) (hz : zget h.b 12 = z) (hlit : KN % 4096 ≠ 4095)
    (hins : ∀ j, j < n → z.get j = some (.row [.int .i64 (bi (l j))] 3 true [])) {ds : List Bool} {K : KV} (hK : K (.int .i64 (Int.ofNat 0)) h ds) :
    CallOK Tryz.prog (fun _ => none) 24 [.slc KN 0 1 1 false 1, .vs 30 0 n g] h K := by
  subst hN
  have hs : ZS.ok ⟨[], [(KN, .row [.int .i64 1] 3 true []), (30, .row (zrowsT 0 1 n) 22 true [])], z, h.next⟩ h.next := ⟨rfl, rfl, by
    show Bool.and (Bool.and (Nat.ble (Nat.succ KN) h.next) true) (Bool.and (Bool.and (Nat.ble (Nat.succ 30) h.next) (belL h.next (zrowsT 0 1 n))) true) = true
    rw [show Nat.ble (Nat.succ KN) h.next = true from Nat.ble_eq_true_of_le hKN, show Nat.ble (Nat.succ 30) h.next = true from Nat.ble_eq_true_of_le (by omega), hcs]; rfl, hzo⟩
  have g1 : (mkB z [(KN, .row [.int .i64 1] 3 true []), (30, .row (zrowsT 0 1 n) 22 true [])]).get KN = some (.row [.int .i64 1] 3 true []) := T.get_set_same _ _
  have g2 : (mkB z [(KN, .row [.int .i64 1] 3 true []), (30, .row (zrowsT 0 1 n) 22 true [])]).get 30 = some (.row (zrowsT 0 1 n) 22 true []) := by
    rw [mkB_cons, T.get_set_other _ _ _ (Ne.symm hne), mkB_cons]; exact T.get_set_same _ _
  have g3 : ∀ j, j < n → (mkB z [(KN, .row [.int .i64 1] 3 true []), (30, .row (zrowsT 0 1 n) 22 true [])]).get (zn j) = some (.row [.int .i64 (bi (l j))] 3 true []) := by
    intro j hj
    rw [mkB_cons, T.get_set_other _ _ _ (by show zn j ≠ KN; rw [zn_eq]; omega), mkB_cons, T.get_set_other _ _ _ (by show zn j ≠ 30; rw [zn_eq]; omega), zput_zn]; exact hins j hj
  refine call_args (args2 := [.vs KN 0 1 gkB, .vs 30 0 n g]) (fun L vs hv => ?_) ?_
  · cases hv with
    | cons _ _ _ _ a b => exact .cons _ _ _ _ (rv_vs a) b
  · have ra : TruthRows ⟨mkB z [(KN, .row [.int .i64 1] 3 true []), (30, .row (zrowsT 0 1 n) 22 true [])], h.next⟩ 30 n zn l := by
      intro i hi
      refine ⟨fun c => ⟨1, true, Nat.le_refl _, ?_⟩, ?_⟩
      · have := zrowsT_get (x := 0) (m := 1) hi
        rw [Nat.zero_add] at this
        exact cellOf_of g2 this
      · exact cellOf_of (g3 i hi) rfl
    have hk : cellIs ⟨mkB z [(KN, .row [.int .i64 1] 3 true []), (30, .row (zrowsT 0 1 n) 22 true [])], h.next⟩ KN 0 (.sc 1) := cellOf_of g1 rfl
    have G := ask_good hs.hc (KN := KN) (A := 30) hKN (by show 30 < h.next; omega) ra hk (by omega) g
    refine frame_part G rfl (B := [(KN, .row [.int .i64 1] 3 true []), (30, .row (zrowsT 0 1 n) 22 true [])]) (z := z) hB hz hs.bl rfl hzo ?_ rfl (ask_run hs.hc hKN (by show 30 < h.next; omega) ra hk (by omega) g) hK
    show Bool.and (Nat.ble (Nat.succ KN) h.next) (Bool.and (Nat.ble (Nat.succ 30) h.next) true) = true
    rw [show Nat.ble (Nat.succ KN) h.next = true from Nat.ble_eq_true_of_le hKN, show Nat.ble (Nat.succ 30) h.next = true from Nat.ble_eq_true_of_le (by omega)]; rfl
end
end Go.Proofs.YtkfhjobebhdpoaaGreat

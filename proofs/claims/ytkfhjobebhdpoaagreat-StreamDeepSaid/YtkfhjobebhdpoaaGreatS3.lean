/- Stream: SameRows at rows of three numbers. -/
import Derived.Test.YtkfhjobebhdpoaaGreatSK
set_option linter.unusedVariables false
set_option autoImplicit false
set_option maxRecDepth 1000000
set_option maxHeartbeats 1000000
namespace Go.Proofs.YtkfhjobebhdpoaaGreat
noncomputable section
open Go.X
theorem same3_l (h : H) (A B n i : Nat) (x : Nat → Nat → Int) (za zb : Nat → Nat) (Kv : XE → H → List (Option AV) → Prop) : xcode C1 Tryz.prog F 16 (loopC Tryz.prog 16 5) (mask 16) (tmpsN Tryz.prog 16) (mkE [(0, .vs A 0 n (fun i => .row (za i) 3 (x i))), (1, .vs B 0 n (fun i => .row (zb i) 3 (x i))), (4, .bool false), (5, .int .i64 (Int.ofNat i))]) h [] (fun x env h ds => Kv x h (sl [0, 1, 4, 5] env)) = (bcase (ltI (Int.ofNat i) (Int.ofNat n)) (bcase (inB (Int.ofNat i) n) (cellIs h A (Nat.add 0 (Nat.mul (Int.toNat (Int.ofNat i)) 1)) (CV.row (za (Nat.add 0 (Nat.mul (Int.toNat (Int.ofNat i)) 1))) 3 (x (Nat.add 0 (Nat.mul (Int.toNat (Int.ofNat i)) ((fun x => Go.TypeInfo.size x) (Go.Tables.types (Go.Program.toTables Go.Proofs.Tryz.prog))[22]))))) ∧ bcase (inB (Int.ofNat i) n) (cellIs h B (Nat.add 0 (Nat.mul (Int.toNat (Int.ofNat i)) 1)) (CV.row (zb (Nat.add 0 (Nat.mul (Int.toNat (Int.ofNat i)) 1))) 3 (x (Nat.add 0 (Nat.mul (Int.toNat (Int.ofNat i)) ((fun x => Go.TypeInfo.size x) (Go.Tables.types (Go.Program.toTables Go.Proofs.Tryz.prog))[22]))))) ∧ bcase (inB (Int.ofNat i) n) (cellIs h A (Nat.add 0 (Nat.mul (Int.toNat (Int.ofNat i)) 1)) (CV.row (za (Nat.add 0 (Nat.mul (Int.toNat (Int.ofNat i)) 1))) 3 (x (Nat.add 0 (Nat.mul (Int.toNat (Int.ofNat i)) ((fun x => Go.TypeInfo.size x) (Go.Tables.types (Go.Program.toTables Go.Proofs.Tryz.prog))[22]))))) ∧ bcase (inB (Int.ofNat i) n) (cellIs h A (Nat.add 0 (Nat.mul (Int.toNat (Int.ofNat i)) 1)) (CV.row (za (Nat.add 0 (Nat.mul (Int.toNat (Int.ofNat i)) 1))) 3 (x (Nat.add 0 (Nat.mul (Int.toNat (Int.ofNat i)) ((fun x => Go.TypeInfo.size x) (Go.Tables.types (Go.Program.toTables Go.Proofs.Tryz.prog))[22]))))) ∧ cellIs h (za (Nat.add 0 (Nat.mul (Int.toNat (Int.ofNat i)) 1))) 0 (CV.sc (x (Nat.add 0 (Nat.mul (Int.toNat (Int.ofNat i)) 1)) 0)) ∧ bcase (inB (Int.ofNat i) n) (cellIs h B (Nat.add 0 (Nat.mul (Int.toNat (Int.ofNat i)) 1)) (CV.row (zb (Nat.add 0 (Nat.mul (Int.toNat (Int.ofNat i)) 1))) 3 (x (Nat.add 0 (Nat.mul (Int.toNat (Int.ofNat i)) ((fun x => Go.TypeInfo.size x) (Go.Tables.types (Go.Program.toTables Go.Proofs.Tryz.prog))[22]))))) ∧ cellIs h (zb (Nat.add 0 (Nat.mul (Int.toNat (Int.ofNat i)) 1))) 0 (CV.sc (x (Nat.add 0 (Nat.mul (Int.toNat (Int.ofNat i)) 1)) 0)) ∧ bcase (eqI (x (Nat.add 0 (Nat.mul (Int.toNat (Int.ofNat i)) 1)) 0) (x (Nat.add 0 (Nat.mul (Int.toNat (Int.ofNat i)) 1)) 0)) (bcase (inB (Int.ofNat i) n) (cellIs h A (Nat.add 0 (Nat.mul (Int.toNat (Int.ofNat i)) 1)) (CV.row (za (Nat.add 0 (Nat.mul (Int.toNat (Int.ofNat i)) 1))) 3 (x (Nat.add 0 (Nat.mul (Int.toNat (Int.ofNat i)) ((fun x => Go.TypeInfo.size x) (Go.Tables.types (Go.Program.toTables Go.Proofs.Tryz.prog))[22]))))) ∧ bcase (inB (Int.ofNat i) n) (cellIs h A (Nat.add 0 (Nat.mul (Int.toNat (Int.ofNat i)) 1)) (CV.row (za (Nat.add 0 (Nat.mul (Int.toNat (Int.ofNat i)) 1))) 3 (x (Nat.add 0 (Nat.mul (Int.toNat (Int.ofNat i)) ((fun x => Go.TypeInfo.size x) (Go.Tables.types (Go.Program.toTables Go.Proofs.Tryz.prog))[22]))))) ∧ cellIs h (za (Nat.add 0 (Nat.mul (Int.toNat (Int.ofNat i)) 1))) 1 (CV.sc (x (Nat.add 0 (Nat.mul (Int.toNat (Int.ofNat i)) 1)) 1)) ∧ bcase (inB (Int.ofNat i) n) (cellIs h B (Nat.add 0 (Nat.mul (Int.toNat (Int.ofNat i)) 1)) (CV.row (zb (Nat.add 0 (Nat.mul (Int.toNat (Int.ofNat i)) 1))) 3 (x (Nat.add 0 (Nat.mul (Int.toNat (Int.ofNat i)) ((fun x => Go.TypeInfo.size x) (Go.Tables.types (Go.Program.toTables Go.Proofs.Tryz.prog))[22]))))) ∧ cellIs h (zb (Nat.add 0 (Nat.mul (Int.toNat (Int.ofNat i)) 1))) 1 (CV.sc (x (Nat.add 0 (Nat.mul (Int.toNat (Int.ofNat i)) 1)) 1)) ∧ bcase (eqI (x (Nat.add 0 (Nat.mul (Int.toNat (Int.ofNat i)) 1)) 1) (x (Nat.add 0 (Nat.mul (Int.toNat (Int.ofNat i)) 1)) 1)) (bcase (inB (Int.ofNat i) n) (cellIs h A (Nat.add 0 (Nat.mul (Int.toNat (Int.ofNat i)) 1)) (CV.row (za (Nat.add 0 (Nat.mul (Int.toNat (Int.ofNat i)) 1))) 3 (x (Nat.add 0 (Nat.mul (Int.toNat (Int.ofNat i)) ((fun x => Go.TypeInfo.size x) (Go.Tables.types (Go.Program.toTables Go.Proofs.Tryz.prog))[22]))))) ∧ bcase (inB (Int.ofNat i) n) (cellIs h A (Nat.add 0 (Nat.mul (Int.toNat (Int.ofNat i)) 1)) (CV.row (za (Nat.add 0 (Nat.mul (Int.toNat (Int.ofNat i)) 1))) 3 (x (Nat.add 0 (Nat.mul (Int.toNat (Int.ofNat i)) ((fun x => Go.TypeInfo.size x) (Go.Tables.types (Go.Program.toTables Go.Proofs.Tryz.prog))[22]))))) ∧ cellIs h (za (Nat.add 0 (Nat.mul (Int.toNat (Int.ofNat i)) 1))) 2 (CV.sc (x (Nat.add 0 (Nat.mul (Int.toNat (Int.ofNat i)) 1)) 2)) ∧ bcase (inB (Int.ofNat i) n) (cellIs h B (Nat.add 0 (Nat.mul (Int.toNat (Int.ofNat i)) 1)) (CV.row (zb (Nat.add 0 (Nat.mul (Int.toNat (Int.ofNat i)) 1))) 3 (x (Nat.add 0 (Nat.mul (Int.toNat (Int.ofNat i)) ((fun x => Go.TypeInfo.size x) (Go.Tables.types (Go.Program.toTables Go.Proofs.Tryz.prog))[22]))))) ∧ cellIs h (zb (Nat.add 0 (Nat.mul (Int.toNat (Int.ofNat i)) 1))) 2 (CV.sc (x (Nat.add 0 (Nat.mul (Int.toNat (Int.ofNat i)) 1)) 2)) ∧ bcase (eqI (x (Nat.add 0 (Nat.mul (Int.toNat (Int.ofNat i)) 1)) 2) (x (Nat.add 0 (Nat.mul (Int.toNat (Int.ofNat i)) 1)) 2)) (bcase (inB (Int.ofNat i) n) (cellIs h A (Nat.add 0 (Nat.mul (Int.toNat (Int.ofNat i)) 1)) (CV.row (za (Nat.add 0 (Nat.mul (Int.toNat (Int.ofNat i)) 1))) 3 (x (Nat.add 0 (Nat.mul (Int.toNat (Int.ofNat i)) ((fun x => Go.TypeInfo.size x) (Go.Tables.types (Go.Program.toTables Go.Proofs.Tryz.prog))[22]))))) ∧ bcase (inR Go.IntKind.i64 (Int.ofNat i + Int.ofNat 1)) (Kv XE.nrm h [Option.some (AV.vs A 0 n fun i => CV.row (za i) 3 (x i)), Option.some (AV.vs B 0 n fun i => CV.row (zb i) 3 (x i)), Option.some (AV.bool false), Option.some (AV.int Go.IntKind.i64 (Int.ofNat i + Int.ofNat 1))]) False) False) (Kv XE.ret h [Option.some (AV.vs A 0 n fun i => CV.row (za i) 3 (x i)), Option.some (AV.vs B 0 n fun i => CV.row (zb i) 3 (x i)), Option.some (AV.bool false), Option.some (AV.int Go.IntKind.i64 (Int.ofNat i))])) False) False) False) (Kv XE.ret h [Option.some (AV.vs A 0 n fun i => CV.row (za i) 3 (x i)), Option.some (AV.vs B 0 n fun i => CV.row (zb i) 3 (x i)), Option.some (AV.bool false), Option.some (AV.int Go.IntKind.i64 (Int.ofNat i))])) False) False) False) (Kv XE.ret h [Option.some (AV.vs A 0 n fun i => CV.row (za i) 3 (x i)), Option.some (AV.vs B 0 n fun i => CV.row (zb i) 3 (x i)), Option.some (AV.bool false), Option.some (AV.int Go.IntKind.i64 (Int.ofNat i))])) False) False) False) False) False) (Kv (XE.ext 0) h [Option.some (AV.vs A 0 n fun i => CV.row (za i) 3 (x i)), Option.some (AV.vs B 0 n fun i => CV.row (zb i) 3 (x i)), Option.some (AV.bool false), Option.some (AV.int Go.IntKind.i64 (Int.ofNat i))])) := by kernel_rfl
/-- the slots at the loop's door -/
def sE3 (A B n : Nat) (x : Nat → Nat → Int) (za zb : Nat → Nat) (i : Nat) : List (Nat × AV) := [(0, .vs A 0 n (fun i => .row (za i) 3 (x i))), (1, .vs B 0 n (fun i => .row (zb i) 3 (x i))), (4, .bool false), (5, .int .i64 (Int.ofNat i))]
theorem same3_tree {h : H} {A B n i : Nat} {x : Nat → Nat → Int} {za zb : Nat → Nat} (ra : RowsAre h A n 3 za x) (rb : RowsAre h B n 3 zb x) (hn : n ≤ 100000) (hi : i ≤ n) {Kv : XE → H → List (Option AV) → Prop}
    (h1 : i < n → Kv .nrm h (slx (sE3 A B n x za zb (i + 1)))) (h2 : i = n → Kv (.ext 0) h (slx (sE3 A B n x za zb i))) :
    xcode C1 Tryz.prog F 16 (loopC Tryz.prog 16 5) (mask 16) (tmpsN Tryz.prog 16) (mkE (sE3 A B n x za zb i)) h [] (fun x env h ds => Kv x h (sl [0, 1, 4, 5] env)) := by
  refine Eq.mpr (same3_l h A B n i x za zb Kv) ?_
  simp only [ix_eq]
  refine bcase_mk (fun hlt => ?_) (fun hge => ?_)
  · have hlt : i < n := by have := ltIT hlt; simpa using this
    have c1 := ra i hlt
    have c2 := rb i hlt
    repeat' first
      | exact h1 hlt
      | refine bcase_tt (inB_of hlt) ?_
      | refine bcase_tt (eqII _) ?_
      | refine bcase_tt (inR_add (by omega)) ?_
      | refine And.intro c1.1 ?_
      | refine And.intro c2.1 ?_
      | refine And.intro (c1.2 _ (by decide)) ?_
      | refine And.intro (c2.2 _ (by decide)) ?_
  · have hge : ¬ i < n := by have := ltIF hge; simpa using this
    exact h2 (by omega)
theorem same3_good {h : H} (hc : HC h) {A B n : Nat} (hA : A < h.next) (hB : B < h.next) {x : Nat → Nat → Int} {za zb : Nat → Nat} (ra : RowsAre h A n 3 za x) (rb : RowsAre h B n 3 zb x) (hn : n ≤ 100000) :
    X.Good (C1.addLc 16 5 (lcH h (S0 := Unit) (fun _ => True) [0, 1, 4, 5] (fun _ => sE3 A B n x za zb 0) (fun _ => (.ext 0, sE3 A B n x za zb n)))) Tryz.prog := by
  refine good1.addH hc (S := Nat) (ι := fun _ => 0) (ok := fun i => i ≤ n) (E := sE3 A B n x za zb) (μ := fun i => n - i) (fin := fun _ => (.ext 0, sE3 A B n x za zb n)) (fuel := F) (by rfl) (fun _ _ => ⟨Nat.zero_le _, rfl, rfl⟩) ?_ ?_ (fun g i h => by cases h)
  · intro i _
    have a1 := Nat.ble_eq_true_of_le hA
    have a2 := Nat.ble_eq_true_of_le hB
    refine ⟨rfl, ?_, rfl, ?_⟩ <;>
    · show Bool.and (Nat.ble (Nat.succ A) h.next) (Bool.and (Nat.ble (Nat.succ B) h.next) true) = true
      rw [a1, a2]; rfl
  · intro i hi
    refine ⟨same3_tree ra rb hn hi (Kv := fun x' h' s => h' = h ∧ match x' with
      | .nrm => ∃ s', s' ≤ n ∧ n - s' < n - i ∧ (XE.ext 0, sE3 A B n x za zb n) = (XE.ext 0, sE3 A B n x za zb n) ∧ s = slx (sE3 A B n x za zb s')
      | y => XE.ext 0 = y ∧ s = slx (sE3 A B n x za zb n)) (fun hlt => ⟨rfl, i + 1, by omega, by omega, rfl, rfl⟩) (fun e => ⟨rfl, rfl, by rw [e]⟩)⟩
theorem same3_ok {h : H} (hc : HC h) {A B n : Nat} (hA : A < h.next) (hB : B < h.next) {x : Nat → Nat → Int} {za zb : Nat → Nat} (ra : RowsAre h A n 3 za x) (rb : RowsAre h B n 3 zb x) (hn : n ≤ 100000) {ds : List Bool} {K : KV} (hK : K (.bool true) h ds) :
    CallOK Tryz.prog (fun _ => none) 16 [.vs A 0 n (fun i => .row (za i) 3 (x i)), .vs B 0 n (fun i => .row (zb i) 3 (x i))] h K := by
  have G := same3_good hc hA hB ra rb hn
  refine call_ds (ds := ds) (xrun_call G.ok G.spl (fuel := F) (ds := []) ?_)
  have key : ∀ (K : KV), xfun (C1.addLc 16 5 (lcH h (S0 := Unit) (fun _ => True) [0, 1, 4, 5] (fun _ => sE3 A B n x za zb 0) (fun _ => (.ext 0, sE3 A B n x za zb n)))) Tryz.prog (xcode (C1.addLc 16 5 (lcH h (S0 := Unit) (fun _ => True) [0, 1, 4, 5] (fun _ => sE3 A B n x za zb 0) (fun _ => (.ext 0, sE3 A B n x za zb n)))) Tryz.prog F) 16 [.vs A 0 n (fun i => .row (za i) 3 (x i)), .vs B 0 n (fun i => .row (zb i) 3 (x i))] h [] K =
      bcase (eqI (Int.ofNat n) (Int.ofNat n)) (h = h ∧ ∃ _ : Unit, True ∧ slx (sE3 A B n x za zb 0) = slx (sE3 A B n x za zb 0) ∧ K (.bool true) h []) (K (.bool false) h []) := fun K => by kernel_rfl
  refine Eq.mpr (key _) ?_
  exact bcase_tt (eqII _) ⟨rfl, (), trivial, rfl, hK⟩
end
end Go.Proofs.YtkfhjobebhdpoaaGreat

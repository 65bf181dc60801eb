/- Stream: Ask at rows of one small number each. -/
import Derived.Test.YtkfhjobebhdpoaaGreatSK
set_option linter.unusedVariables false
set_option autoImplicit false
set_option maxRecDepth 1000000
set_option maxHeartbeats 2000000
set_option linter.unusedVariables false
namespace Go.Proofs.YtkfhjobebhdpoaaGreat
noncomputable section
open Go.X
def gkI : Nat → CV := fun _ => .sc 2
def kEI (KN A n i : Nat) (g : Nat → CV) : List (Nat × AV) := [(0, .vs KN 0 1 gkI), (4, .int .i64 (Int.ofNat 0)), (12, .vs A 0 n g), (13, .int .i64 (Int.ofNat n)), (14, .int .i64 (Int.ofNat i))]
theorem askI (h : H) (A KN n i r : Nat) (x : Int) (Kv : XE → H → List (Option AV) → List (Option AV) → Prop) : xcode C1 Tryz.prog F 24 (loopC Tryz.prog 24 5) (mask 24) (tmpsN Tryz.prog 24) (mkE (kEI KN A n i (fun _ => .row r 1 (fun _ => x)))) h [] (fun x env h ds => Kv x h (sl [0, 4, 12, 13, 14] env) (sl [4] env)) =
    (bcase (ltI (Int.ofNat i) (Int.ofNat n)) (bcase (inB (Int.ofNat i) n) (cellIs h A (Nat.add 0 (Nat.mul (Int.toNat (Int.ofNat i)) 1)) (.row r 1 (fun _ => x)) ∧ cellIs h r 0 (.sc x) ∧ cellIs h KN 0 (.sc 2) ∧ bcase (inR .i8 x) (bcase (inR .i64 x) (bcase (eqI x x) (bcase (inR .i64 (Int.ofNat i + Int.ofNat 1)) (Kv .nrm h (slx (kEI KN A n (i + 1) (fun _ => .row r 1 (fun _ => x)))) [some (.int .i64 (Int.ofNat 0))]) False)
      (Kv .ret h [some (.vs KN 0 1 gkI), some (.int .i64 (Int.ofNat 1)), some (.vs A 0 n (fun _ => .row r 1 (fun _ => x))), some (.int .i64 (Int.ofNat n)), some (.int .i64 (Int.ofNat i))] [some (.int .i64 (Int.ofNat 1))])) False) False) False)
      (Kv (.ext 0) h (slx (kEI KN A n i (fun _ => .row r 1 (fun _ => x)))) [some (.int .i64 (Int.ofNat 0))])) := by kernel_rfl
/-- rows of one small number each -/
def SmallRows (h : H) (A n : Nat) (r : Nat → Nat) (l : Nat → Int) : Prop := ∀ i, i < n → (∀ c, cellIs h A i (.row (r i) 1 c)) ∧ cellIs h (r i) 0 (.sc (l i)) ∧ -128 ≤ l i ∧ l i ≤ 127
theorem askI_tree {h : H} {A KN n i : Nat} {r : Nat → Nat} {l : Nat → Int} (ra : SmallRows h A n r l) (hk : cellIs h KN 0 (.sc 2)) (hn : n ≤ 1000) (hi : i ≤ n) {Kv : XE → H → List (Option AV) → List (Option AV) → Prop}
    (h1 : i < n → Kv .nrm h (slx (kEI KN A n (i + 1) (fun _ => .row (r i) 1 (fun _ => l i)))) [some (.int .i64 (Int.ofNat 0))]) (h2 : i = n → Kv (.ext 0) h (slx (kEI KN A n i (fun _ => .row (r i) 1 (fun _ => l i)))) [some (.int .i64 (Int.ofNat 0))]) :
    xcode C1 Tryz.prog F 24 (loopC Tryz.prog 24 5) (mask 24) (tmpsN Tryz.prog 24) (mkE (kEI KN A n i (fun _ => .row (r i) 1 (fun _ => l i)))) h [] (fun x env h ds => Kv x h (sl [0, 4, 12, 13, 14] env) (sl [4] env)) := by
  refine Eq.mpr (askI h A KN n i (r i) (l i) Kv) ?_
  refine bcase_mk (fun hlt => ?_) (fun hge => ?_)
  · have hlt : i < n := by have := ltIT hlt; simpa using this
    obtain ⟨c1, c2, c3, c4⟩ := ra i hlt
    rw [ix_eq]
    exact bcase_tt (inB_of hlt) ⟨c1 _, c2, hk, bcase_tt (inR_i8 c3 (by omega)) (bcase_tt (inR_i64 (by omega) (by omega)) (bcase_tt (eqII _) (bcase_tt (inR_add (by omega)) (h1 hlt))))⟩
  · have hge : ¬ i < n := by have := ltIF hge; simpa using this
    exact h2 (by omega)
theorem pe_kEI (KN A n i : Nat) (g g' : Nat → CV) : Pe (kEI KN A n i g) (kEI KN A n i g') :=
  .cons _ _ _ _ _ (.inl rfl) (.cons _ _ _ _ _ (.inl rfl) (.cons _ _ _ _ _ (.inr ⟨_, _, _, _, _, rfl, rfl⟩) (.cons _ _ _ _ _ (.inl rfl) (.cons _ _ _ _ _ (.inl rfl) .nil))))
def lcKI (h : H) (KN A n : Nat) (g : Nat → CV) : LCon := lcH h (S0 := Unit) (fun _ => True) [0, 4, 12, 13, 14] (fun _ => kEI KN A n 0 g) (fun _ => (.ext 0, [(4, .int .i64 (Int.ofNat 0))]))
theorem askI_good {h : H} (hc : HC h) {KN A n : Nat} (hKN : KN < h.next) (hA : A < h.next) {r : Nat → Nat} {l : Nat → Int} (ra : SmallRows h A n r l) (hk : cellIs h KN 0 (.sc 2)) (hn : n ≤ 1000) (g : Nat → CV) :
    X.Good (C1.addLc 24 5 (lcKI h KN A n g)) Tryz.prog := by
  refine good1.addHR hc (S := Nat × (Nat → CV)) (ι := fun _ => (0, g)) (ok := fun s => s.1 ≤ n) (E := fun s => kEI KN A n s.1 s.2) (Er := fun s => kEI KN A n s.1 (fun _ => .row (r s.1) 1 (fun _ => l s.1))) (μ := fun s => n - s.1) (fin := fun _ => (.ext 0, [(4, .int .i64 (Int.ofNat 0))])) (tsF := [4]) (fuel := F) (by rfl) (fun s _ => pe_kEI ..) (fun _ _ => ⟨Nat.zero_le _, rfl, rfl⟩) ?_ ?_ (fun g i h => by cases h)
  · intro s _
    have a1 := Nat.ble_eq_true_of_le hKN
    have a2 := Nat.ble_eq_true_of_le hA
    refine ⟨rfl, ?_, rfl, rfl⟩
    show Bool.and (Nat.ble (Nat.succ KN) h.next) (Bool.and true (Bool.and (Nat.ble (Nat.succ A) h.next) true)) = true
    rw [a1, a2]; rfl
  · intro s hs
    exact ⟨askI_tree ra hk hn hs (Kv := fun x' h' s1 s2 => h' = h ∧ match x' with
      | .nrm => ∃ s' : Nat × (Nat → CV), s'.1 ≤ n ∧ n - s'.1 < n - s.1 ∧ (XE.ext 0, [(4, AV.int .i64 (Int.ofNat 0))]) = (XE.ext 0, [(4, AV.int .i64 (Int.ofNat 0))]) ∧ s1 = slx (kEI KN A n s'.1 s'.2)
      | y => XE.ext 0 = y ∧ s2 = slx [(4, AV.int .i64 (Int.ofNat 0))]) (fun hlt => ⟨rfl, (s.1 + 1, _), by show s.1 + 1 ≤ n; omega, by show n - (s.1 + 1) < n - s.1; omega, rfl, rfl⟩) (fun e => ⟨rfl, rfl, rfl⟩)⟩
theorem askI_run {h : H} (hc : HC h) {KN A n : Nat} (hKN : KN < h.next) (hA : A < h.next) {r : Nat → Nat} {l : Nat → Int} (ra : SmallRows h A n r l) (hk : cellIs h KN 0 (.sc 2)) (hn : n ≤ 1000) (g : Nat → CV) :
    Ran (xfun (C1.addLc 24 5 (lcKI h KN A n g)) Tryz.prog (xcode (C1.addLc 24 5 (lcKI h KN A n g)) Tryz.prog F) 24 [.vs KN 0 1 gkI, .vs A 0 n g] h [] (fun v h' _ => v = .int .i64 (Int.ofNat 0) ∧ h' = h)) := by
  have key : ∀ (K : KV), xfun (C1.addLc 24 5 (lcKI h KN A n g)) Tryz.prog (xcode (C1.addLc 24 5 (lcKI h KN A n g)) Tryz.prog F) 24 [.vs KN 0 1 gkI, .vs A 0 n g] h [] K =
      bcase (ltI (Int.ofNat 1000) (Int.ofNat n)) (K (.int .i64 (Int.ofNat 2)) h []) (h = h ∧ ∃ _ : Unit, True ∧ slx (kEI KN A n 0 g) = slx (kEI KN A n 0 g) ∧ K (.int .i64 (Int.ofNat 0)) h []) := fun K => by kernel_rfl
  refine ⟨Eq.mpr (key _) ?_⟩
  exact bcase_ff (by rw [ltI_eq]; simp; omega) ⟨rfl, (), trivial, rfl, rfl, rfl⟩
/-- .. in a heap that holds more -/
theorem askI_ok {h : H} {KN n : Nat} {l : Nat → Int} {z : T Blk} {N : Nat} (hN : h.next = N) (hKN : KN < N) (hz30 : 51 < N) (hn : n ≤ 40) (g : Nat → CV) (hzo : ZoneOK z N) (hcs : belL N (zrowsT 0 1 n) = true) (hne : KN ≠ 50)
    (hB : lmap (fun a => T.get h.b a) [KN, 50] = [some (.row [.int .i64 2] 3 true []), some (.row (zrowsT 0 1 n) 22 true [])]) (hz : zget h.b 12 = z) (hlit : KN % 4096 ≠ 4095)
    (hins : ∀ j, j < n → z.get j = some (.row [.int .i64 (l j)] 3 true [])) (hsm : ∀ j, -128 ≤ l j ∧ l j ≤ 127) {ds : List Bool} {K : KV} (hK : K (.int .i64 (Int.ofNat 0)) h ds) :
    CallOK Tryz.prog (fun _ => none) 24 [.slc KN 0 1 1 false 1, .vs 50 0 n g] h K := by
  subst hN
  have hs : ZS.ok ⟨[], [(KN, .row [.int .i64 2] 3 true []), (50, .row (zrowsT 0 1 n) 22 true [])], z, h.next⟩ h.next := ⟨rfl, rfl, by
    show Bool.and (Bool.and (Nat.ble (Nat.succ KN) h.next) true) (Bool.and (Bool.and (Nat.ble (Nat.succ 50) h.next) (belL h.next (zrowsT 0 1 n))) true) = true
    rw [show Nat.ble (Nat.succ KN) h.next = true from Nat.ble_eq_true_of_le hKN, show Nat.ble (Nat.succ 50) h.next = true from Nat.ble_eq_true_of_le (by omega), hcs]; rfl, hzo⟩
  have g1 : (mkB z [(KN, .row [.int .i64 2] 3 true []), (50, .row (zrowsT 0 1 n) 22 true [])]).get KN = some (.row [.int .i64 2] 3 true []) := T.get_set_same _ _
  have g2 : (mkB z [(KN, .row [.int .i64 2] 3 true []), (50, .row (zrowsT 0 1 n) 22 true [])]).get 50 = some (.row (zrowsT 0 1 n) 22 true []) := by
    rw [mkB_cons, T.get_set_other _ _ _ (Ne.symm hne), mkB_cons]; exact T.get_set_same _ _
  have g3 : ∀ j, j < n → (mkB z [(KN, .row [.int .i64 2] 3 true []), (50, .row (zrowsT 0 1 n) 22 true [])]).get (zn j) = some (.row [.int .i64 (l j)] 3 true []) := by
    intro j hj
    rw [mkB_cons, T.get_set_other _ _ _ (by show zn j ≠ KN; rw [zn_eq]; omega), mkB_cons, T.get_set_other _ _ _ (by show zn j ≠ 50; rw [zn_eq]; omega), zput_zn]; exact hins j hj
  refine call_args (args2 := [.vs KN 0 1 gkI, .vs 50 0 n g]) (fun L vs hv => ?_) ?_
  · cases hv with
    | cons _ _ _ _ a b => exact .cons _ _ _ _ (rv_vs a) b
  · have ra : SmallRows ⟨mkB z [(KN, .row [.int .i64 2] 3 true []), (50, .row (zrowsT 0 1 n) 22 true [])], h.next⟩ 50 n zn l := by
      intro i hi
      refine ⟨fun c => ⟨1, true, Nat.le_refl _, ?_⟩, ?_⟩
      · have := zrowsT_get (x := 0) (m := 1) hi
        rw [Nat.zero_add] at this
        exact cellOf_of g2 this
      · exact ⟨cellOf_of (g3 i hi) rfl, (hsm i).1, (hsm i).2⟩
    have hk : cellIs ⟨mkB z [(KN, .row [.int .i64 2] 3 true []), (50, .row (zrowsT 0 1 n) 22 true [])], h.next⟩ KN 0 (.sc 2) := cellOf_of g1 rfl
    have G := askI_good hs.hc (KN := KN) (A := 50) hKN (by show 50 < h.next; omega) ra hk (by omega) g
    refine frame_part G rfl (B := [(KN, .row [.int .i64 2] 3 true []), (50, .row (zrowsT 0 1 n) 22 true [])]) (z := z) hB hz hs.bl rfl hzo ?_ rfl (askI_run hs.hc hKN (by show 50 < h.next; omega) ra hk (by omega) g) hK
    show Bool.and (Nat.ble (Nat.succ KN) h.next) (Bool.and (Nat.ble (Nat.succ 50) h.next) true) = true
    rw [show Nat.ble (Nat.succ KN) h.next = true from Nat.ble_eq_true_of_le hKN, show Nat.ble (Nat.succ 50) h.next = true from Nat.ble_eq_true_of_le (by omega)]; rfl
end
end Go.Proofs.YtkfhjobebhdpoaaGreat

/- Stream: Ask at rows of one small number and one truth value, with a bad row behind them or none. -/
import Derived.Test.YtkfhjobebhdpoaaGreatKX
import Derived.Test.YtkfhjobebhdpoaaGreatE7
set_option linter.unusedVariables false
set_option autoImplicit false
set_option maxRecDepth 1000000
set_option maxHeartbeats 2000000
set_option linter.unusedVariables false
namespace Go.X
noncomputable section
section
variable {P : Program} {S0 S : Type}
/-- a loop at a heap that is any, with decisions per state -/
theorem Good.addHRd {C : Cfg} (G : Good C P) {h0 : H} (hc : HC h0) (ι : S0 → S) {ok0 : S0 → Prop} {ts : List Nat} {E0 : S0 → List (Nat × AV)} {f0 : S0 → XE × List (Nat × AV)} {tsF : List Nat} {ok : S → Prop} {E : S → List (Nat × AV)} (Er : S → List (Nat × AV)) {μ : S → Nat} {fin : S → XE × List (Nat × AV)} (dr : S → List Bool) {fuel f k : Nat}
    (h1 : llen (loopAt P f k) = 1)
    (hEr : ∀ s, ok s → Pe (E s) (Er s))
    (hi : ∀ s, ok0 s → ok (ι s) ∧ E (ι s) = E0 s ∧ fin (ι s) = f0 s)
    (hs : ∀ s, ok s → lmap (fun p => p.1) (E s) = ts ∧ belEs h0.next (E s) = true ∧ lmap (fun p => p.1) (fin s).2 = tsF ∧ belEs h0.next (fin s).2 = true)
    (hrun : ∀ s, ok s → Ran (xcode C P fuel f (loopC P f k) (C.mask f) (tmpsN P f) (mkE (Er s)) h0 (dr s) (fun x env h ds => h = h0 ∧ match x with
      | .nrm => ∃ s', ok s' ∧ μ s' < μ s ∧ fin s' = fin s ∧ sl ts env = slx (E s')
      | x => (fin s).1 = x ∧ sl tsF env = slx (fin s).2)))
    (hgl : ∀ g i, C.gl g = some i → i < h0.next) : Good (C.addLc f k (lcH h0 ok0 ts E0 f0)) P := by
  refine G.addLc f k _ lcH_spl h1 fun sb => ?_
  refine lcOf_okR (S := {s // ok s}) (Cs := fun _ => C) (fun _ => G.ok) (fun _ => G.spl) (fun _ => rfl) (n0 := h0.next) (E := fun s => mkE (E s.1)) (Er := fun s => mkE (Er s.1)) (Hs := fun _ => h0) (μ := fun s => μ s.1) (fin := fun s => ((fin s.1).1, mkE (fin s.1).2, h0)) (fun s => dr s.1) (fuel := fuel) (fun _ => sb) (fun s L a r => (hEr s.1 s.2).re r) ?_ _ ?_ hgl
  · intro s _
    have := (hrun s.1 s.2).out
    obtain ⟨x, e, h', ds', ⟨rfl, q⟩, _, back⟩ := xcode_spl G.spl fuel _ _ _ _ _ _ _ _ this
    refine ⟨back _ ?_⟩
    cases x with
    | nrm =>
      obtain ⟨s', a, b, c, d⟩ := q
      obtain ⟨g1, g2, g4, g3⟩ := hs s' a
      refine ⟨⟨s', a⟩, id, b, ?_, abs_same hc g1 g2 d⟩
      show ((fin s').1, mkE (fin s').2, h') = ((fin s.1).1, mkE (fin s.1).2, h')
      rw [c]
    | _ =>
      obtain ⟨a, b⟩ := q
      obtain ⟨g1, g2, g4, g3⟩ := hs s.1 s.2
      exact ⟨id, a, abs_same hc g4 g3 b⟩
  · rintro env h ds K ⟨rfl, s, h0, h2, h3⟩
    obtain ⟨a1, a2, a3⟩ := hi s h0
    obtain ⟨g1, g2, g4, g3⟩ := hs (ι s) a1
    refine ⟨⟨ι s, a1⟩, rfl, ⟨fun t v ht => ?_, fun i k hi => (hc.ok i k hi).2⟩, ⟨fun t v ht => ?_⟩, ⟨rfl, fun i k hi => hi⟩, ?_⟩
    · exact belEs_get g2 _ (mkE_get ht)
    · exact sl_get g1 (by rw [a2]; exact h2) ht
    · show K (fin (ι s)).1 (mkE (fin (ι s)).2) h ds
      rw [a3]; exact h3
end
end
end Go.X
/- Stream: Ask at rows of one small number and one truth value: its rounds. -/
set_option autoImplicit false
set_option maxRecDepth 1000000
set_option maxHeartbeats 2000000
set_option linter.unusedVariables false
namespace Go.Proofs.YtkfhjobebhdpoaaGreat
noncomputable section
open Go.X
def gkW : Nat → CV := fun k => Nat.rec (.sc 2) (fun _ _ => .sc 1) k
def kEW (KN A n i : Nat) (g : Nat → CV) : List (Nat × AV) := [(0, .vs KN 0 2 gkW), (4, .int .i64 (Int.ofNat 0)), (12, .vs A 0 n g), (13, .int .i64 (Int.ofNat n)), (14, .int .i64 (Int.ofNat i))]
theorem ask0W (h : H) (A KN n i r : Nat) (x : Int) (Kv : XE → H → List (Option AV) → List (Option AV) → Prop) : xcode C1 Tryz.prog F 24 (loopC Tryz.prog 24 5) (mask 24) (tmpsN Tryz.prog 24) (mkE (kEW KN A n i (fun _ => .row r 2 (fun k => Nat.rec x (fun _ _ => 0) k)))) h [] (fun x env h ds => Kv x h (sl [0, 4, 12, 13, 14] env) (sl [4] env)) =
    (bcase (ltI (Int.ofNat i) (Int.ofNat n)) (bcase (inB (Int.ofNat i) n) (cellIs h A (Nat.add 0 (Nat.mul (Int.toNat (Int.ofNat i)) 1)) (.row r 2 (fun k => Nat.rec x (fun _ _ => 0) k)) ∧ cellIs h r 0 (.sc x) ∧ cellIs h KN 0 (.sc 2) ∧ bcase (inR .i8 x) (bcase (inR .i64 x) (bcase (eqI x x) (cellIs h r 1 (.sc 0) ∧ cellIs h KN 1 (.sc 1) ∧ bcase (inR .i64 (Int.ofNat i + Int.ofNat 1)) (Kv .nrm h (slx (kEW KN A n (i + 1) (fun _ => .row r 2 (fun k => Nat.rec x (fun _ _ => 0) k)))) [some (.int .i64 (Int.ofNat 0))]) False)
      (Kv .ret h [some (.vs KN 0 2 gkW), some (.int .i64 (Int.ofNat 1)), some (.vs A 0 n (fun _ => .row r 2 (fun k => Nat.rec x (fun _ _ => 0) k))), some (.int .i64 (Int.ofNat n)), some (.int .i64 (Int.ofNat i))] [some (.int .i64 (Int.ofNat 1))])) False) False) False)
      (Kv (.ext 0) h (slx (kEW KN A n i (fun _ => .row r 2 (fun k => Nat.rec x (fun _ _ => 0) k)))) [some (.int .i64 (Int.ofNat 0))])) := by kernel_rfl
theorem ask1W (h : H) (A KN n i r : Nat) (x : Int) (Kv : XE → H → List (Option AV) → List (Option AV) → Prop) : xcode C1 Tryz.prog F 24 (loopC Tryz.prog 24 5) (mask 24) (tmpsN Tryz.prog 24) (mkE (kEW KN A n i (fun _ => .row r 2 (fun k => Nat.rec x (fun _ _ => 1) k)))) h [] (fun x env h ds => Kv x h (sl [0, 4, 12, 13, 14] env) (sl [4] env)) =
    (bcase (ltI (Int.ofNat i) (Int.ofNat n)) (bcase (inB (Int.ofNat i) n) (cellIs h A (Nat.add 0 (Nat.mul (Int.toNat (Int.ofNat i)) 1)) (.row r 2 (fun k => Nat.rec x (fun _ _ => 1) k)) ∧ cellIs h r 0 (.sc x) ∧ cellIs h KN 0 (.sc 2) ∧ bcase (inR .i8 x) (bcase (inR .i64 x) (bcase (eqI x x) (cellIs h r 1 (.sc 1) ∧ cellIs h KN 1 (.sc 1) ∧ bcase (inR .i64 (Int.ofNat i + Int.ofNat 1)) (Kv .nrm h (slx (kEW KN A n (i + 1) (fun _ => .row r 2 (fun k => Nat.rec x (fun _ _ => 1) k)))) [some (.int .i64 (Int.ofNat 0))]) False)
      (Kv .ret h [some (.vs KN 0 2 gkW), some (.int .i64 (Int.ofNat 1)), some (.vs A 0 n (fun _ => .row r 2 (fun k => Nat.rec x (fun _ _ => 1) k))), some (.int .i64 (Int.ofNat n)), some (.int .i64 (Int.ofNat i))] [some (.int .i64 (Int.ofNat 1))])) False) False) False)
      (Kv (.ext 0) h (slx (kEW KN A n i (fun _ => .row r 2 (fun k => Nat.rec x (fun _ _ => 1) k)))) [some (.int .i64 (Int.ofNat 0))])) := by kernel_rfl
theorem askE1 (h : H) (A KN n i r : Nat) (Kv : XE → H → List (Option AV) → Prop) : xcode C1 Tryz.prog F 24 (loopC Tryz.prog 24 5) (mask 24) (tmpsN Tryz.prog 24) (mkE (kEW KN A n i (fun _ => (.row r 1 (fun _ => 1))))) h [] (fun x env h ds => Kv x h (sl [4] env)) = (bcase (ltI (Int.ofNat i) (Int.ofNat n)) (bcase (inB (Int.ofNat i) n) (cellIs h A (Nat.add 0 (Nat.mul (Int.toNat (Int.ofNat i)) 1)) (CV.row r 1 fun x => 1) ∧ Kv XE.ret h [Option.some (AV.int Go.IntKind.i64 (Int.ofNat 23))]) False) (Kv (XE.ext 0) h [Option.some (AV.int Go.IntKind.i64 (Int.ofNat 0))])) := by kernel_rfl
theorem askE2 (h : H) (A KN n i r : Nat) (Kv : XE → H → List (Option AV) → Prop) : xcode C1 Tryz.prog F 24 (loopC Tryz.prog 24 5) (mask 24) (tmpsN Tryz.prog 24) (mkE (kEW KN A n i (fun _ => (.row r 3 (fun _ => 1))))) h [] (fun x env h ds => Kv x h (sl [4] env)) = (bcase (ltI (Int.ofNat i) (Int.ofNat n)) (bcase (inB (Int.ofNat i) n) (cellIs h A (Nat.add 0 (Nat.mul (Int.toNat (Int.ofNat i)) 1)) (CV.row r 3 fun x => 1) ∧ Kv XE.ret h [Option.some (AV.int Go.IntKind.i64 (Int.ofNat 23))]) False) (Kv (XE.ext 0) h [Option.some (AV.int Go.IntKind.i64 (Int.ofNat 0))])) := by kernel_rfl
theorem askE3 (h : H) (A KN n i r : Nat) (Kv : XE → H → List (Option AV) → Prop) : xcode C1 Tryz.prog F 24 (loopC Tryz.prog 24 5) (mask 24) (tmpsN Tryz.prog 24) (mkE (kEW KN A n i (fun _ => (.row r 2 (fun k => Nat.rec 200 (fun _ _ => 1) k))))) h [true, true, true, false, true, true, false, true, false, true, false] (fun x env h ds => Kv x h (sl [4] env)) = (bcase (bif ltI (Int.ofNat i) (Int.ofNat n) then true else false) (bcase (inB (Int.ofNat i) n) (cellIs h A (Nat.add 0 (Nat.mul (Int.toNat (Int.ofNat i)) 1)) (CV.row r 2 fun k => Nat.rec 200 (fun x x_1 => 1) k) ∧ cellIs h r 0 (CV.sc (Int.ofNat 200)) ∧ cellIs h KN 0 (CV.sc (Int.ofNat 2)) ∧ Kv XE.ret h [Option.some (AV.int Go.IntKind.i64 (Int.ofNat 1))]) False) False) := by kernel_rfl
theorem askE4 (h : H) (A KN n i r : Nat) (Kv : XE → H → List (Option AV) → Prop) : xcode C1 Tryz.prog F 24 (loopC Tryz.prog 24 5) (mask 24) (tmpsN Tryz.prog 24) (mkE (kEW KN A n i (fun _ => (.row r 2 (fun k => Nat.rec 1 (fun _ _ => 2) k))))) h [] (fun x env h ds => Kv x h (sl [4] env)) = (bcase (ltI (Int.ofNat i) (Int.ofNat n)) (bcase (inB (Int.ofNat i) n) (cellIs h A (Nat.add 0 (Nat.mul (Int.toNat (Int.ofNat i)) 1)) (CV.row r 2 fun k => Nat.rec 1 (fun x x_1 => 2) k) ∧ cellIs h r 0 (CV.sc (Int.ofNat 1)) ∧ cellIs h KN 0 (CV.sc (Int.ofNat 2)) ∧ cellIs h r 1 (CV.sc (Int.ofNat 2)) ∧ cellIs h KN 1 (CV.sc (Int.ofNat 1)) ∧ Kv XE.ret h [Option.some (AV.int Go.IntKind.i64 (Int.ofNat 1))]) False) (Kv (XE.ext 0) h [Option.some (AV.int Go.IntKind.i64 (Int.ofNat 0))])) := by kernel_rfl
end
end Go.Proofs.YtkfhjobebhdpoaaGreat
/- Stream: Ask at rows of one small number and one truth value, a bad row behind them or none, as a contract. -/
set_option autoImplicit false
set_option maxRecDepth 1000000
set_option maxHeartbeats 2000000
set_option linter.unusedVariables false
namespace Go.Proofs.YtkfhjobebhdpoaaGreat
noncomputable section
open Go.X
/-- what is told ahead of a good row -/
def gdW (r : Nat) (p : Int × Bool) : CV := .row r 2 (fun k => Nat.rec p.1 (fun _ _ => bi p.2) k)
/-- rows of one small number and one truth value each -/
def PairRows (h : H) (A q : Nat) (r : Nat → Nat) (l : Nat → Int × Bool) : Prop := ∀ i, i < q → (∀ c, cellIs h A i (.row (r i) 2 c)) ∧ cellIs h (r i) 0 (.sc (l i).1) ∧ cellIs h (r i) 1 (.sc (bi (l i).2)) ∧ -128 ≤ (l i).1 ∧ (l i).1 ≤ 127
theorem askW_tree {h : H} {A KN n q i : Nat} {r : Nat → Nat} {l : Nat → Int × Bool} (ra : PairRows h A q r l) (hk : cellIs h KN 0 (.sc 2)) (hk2 : cellIs h KN 1 (.sc 1)) (hq : q ≤ n) (hn : n ≤ 1001) (hi : i < q) {Kv : XE → H → List (Option AV) → List (Option AV) → Prop}
    (h1 : Kv .nrm h (slx (kEW KN A n (i + 1) (fun _ => gdW (r i) (l i)))) [some (.int .i64 (Int.ofNat 0))]) :
    xcode C1 Tryz.prog F 24 (loopC Tryz.prog 24 5) (mask 24) (tmpsN Tryz.prog 24) (mkE (kEW KN A n i (fun _ => gdW (r i) (l i)))) h [] (fun x env h ds => Kv x h (sl [0, 4, 12, 13, 14] env) (sl [4] env)) := by
  obtain ⟨c1, c2, c3, c4, c5⟩ := ra i hi
  have c1 := c1 (fun k => Nat.rec (l i).1 (fun _ _ => bi (l i).2) k)
  unfold gdW at h1 ⊢
  cases hb : (l i).2 with
  | false =>
    rw [hb] at c1 c3 h1
    refine Eq.mpr (ask0W h A KN n i (r i) (l i).1 Kv) ?_
    rw [ix_eq]
    exact bcase_tt (by rw [ltI_eq]; simp; omega) (bcase_tt (inB_of (by omega)) ⟨c1, c2, hk, bcase_tt (inR_i8 c4 (by omega)) (bcase_tt (inR_i64 (by omega) (by omega)) (bcase_tt (eqII _) ⟨c3, hk2, bcase_tt (inR_add (by omega)) h1⟩))⟩)
  | true =>
    rw [hb] at c1 c3 h1
    refine Eq.mpr (ask1W h A KN n i (r i) (l i).1 Kv) ?_
    rw [ix_eq]
    exact bcase_tt (by rw [ltI_eq]; simp; omega) (bcase_tt (inB_of (by omega)) ⟨c1, c2, hk, bcase_tt (inR_i8 c4 (by omega)) (bcase_tt (inR_i64 (by omega) (by omega)) (bcase_tt (eqII _) ⟨c3, hk2, bcase_tt (inR_add (by omega)) h1⟩))⟩)
theorem pe_kEW (KN A n i : Nat) (g g' : Nat → CV) : Pe (kEW KN A n i g) (kEW KN A n i g') :=
  .cons _ _ _ _ _ (.inl rfl) (.cons _ _ _ _ _ (.inl rfl) (.cons _ _ _ _ _ (.inr ⟨_, _, _, _, _, rfl, rfl⟩) (.cons _ _ _ _ _ (.inl rfl) (.cons _ _ _ _ _ (.inl rfl) .nil))))
def lcKW (h : H) (KN A n : Nat) (g : Nat → CV) (fin : XE × List (Nat × AV)) : LCon := lcH h (S0 := Unit) (fun _ => True) [0, 4, 12, 13, 14] (fun _ => kEW KN A n 0 g) (fun _ => fin)
/-- what the round at the end answers -/
def EndW (h : H) (KN A n q : Nat) (er : CV) (dr : List Bool) (fin : XE × List (Nat × AV)) : Prop :=
  Ran (xcode C1 Tryz.prog F 24 (loopC Tryz.prog 24 5) (mask 24) (tmpsN Tryz.prog 24) (mkE (kEW KN A n q (fun _ => er))) h dr (fun x env h' ds => h' = h ∧ match x with | .nrm => False | x => fin.1 = x ∧ sl [4] env = slx fin.2))
theorem endW_use {h : H} {KN A n q : Nat} {er : CV} {dr : List Bool} {fin : XE × List (Nat × AV)} (he : EndW h KN A n q er dr fin) {Q : KE}
    (hQ : ∀ x env ds, x ≠ .nrm → fin.1 = x → sl [4] env = slx fin.2 → Q x env h ds) :
    xcode C1 Tryz.prog F 24 (loopC Tryz.prog 24 5) (mask 24) (tmpsN Tryz.prog 24) (mkE (kEW KN A n q (fun _ => er))) h dr Q := by
  obtain ⟨x, env, h', ds, ⟨q1, q2⟩, _, back⟩ := xcode_spl good1.spl F _ _ _ _ _ _ _ _ he.out
  subst q1
  refine back _ ?_
  cases x with
  | nrm => exact q2.elim
  | _ => exact hQ _ _ _ (fun e => by cases e) q2.1 q2.2
theorem askW_good {h : H} (hc : HC h) {KN A n q : Nat} (hKN : KN < h.next) (hA : A < h.next) {r : Nat → Nat} {l : Nat → Int × Bool} (ra : PairRows h A q r l) (hk : cellIs h KN 0 (.sc 2)) (hk2 : cellIs h KN 1 (.sc 1)) (hq : q ≤ n) (hn : n ≤ 1001) (g : Nat → CV)
    {er : CV} {dr : List Bool} {fin : XE × List (Nat × AV)} (hf1 : lmap (fun p => p.1) fin.2 = [4]) (hf2 : belEs h.next fin.2 = true) (he : EndW h KN A n q er dr fin) :
    X.Good (C1.addLc 24 5 (lcKW h KN A n g fin)) Tryz.prog := by
  refine good1.addHRd hc (S := Nat × (Nat → CV)) (ι := fun _ => (0, g)) (ok := fun s => s.1 ≤ q) (E := fun s => kEW KN A n s.1 s.2) (Er := fun s => kEW KN A n s.1 (fun _ => if s.1 < q then gdW (r s.1) (l s.1) else er)) (μ := fun s => q - s.1) (fin := fun _ => fin) (tsF := [4]) (dr := fun s => if s.1 < q then [] else dr) (fuel := F) (by rfl) (fun s _ => pe_kEW ..) (fun _ _ => ⟨Nat.zero_le _, rfl, rfl⟩) ?_ ?_ (fun g i h => by cases h)
  · intro s _
    have a1 := Nat.ble_eq_true_of_le hKN
    have a2 := Nat.ble_eq_true_of_le hA
    refine ⟨rfl, ?_, hf1, hf2⟩
    show Bool.and (Nat.ble (Nat.succ KN) h.next) (Bool.and true (Bool.and (Nat.ble (Nat.succ A) h.next) true)) = true
    rw [a1, a2]; rfl
  · intro s hs
    by_cases hlt : s.1 < q
    · have e1 : (if s.1 < q then gdW (r s.1) (l s.1) else er) = gdW (r s.1) (l s.1) := if_pos hlt
      have e2 : (if s.1 < q then ([] : List Bool) else dr) = [] := if_pos hlt
      show Ran (xcode C1 Tryz.prog F 24 (loopC Tryz.prog 24 5) (mask 24) (tmpsN Tryz.prog 24) (mkE (kEW KN A n s.1 (fun _ => if s.1 < q then gdW (r s.1) (l s.1) else er))) h (if s.1 < q then ([] : List Bool) else dr) _)
      rw [e1, e2]
      exact ⟨askW_tree ra hk hk2 hq hn hlt (Kv := fun x' h' s1 s2 => h' = h ∧ match x' with
        | .nrm => ∃ s' : Nat × (Nat → CV), s'.1 ≤ q ∧ q - s'.1 < q - s.1 ∧ fin = fin ∧ s1 = slx (kEW KN A n s'.1 s'.2)
        | y => fin.1 = y ∧ s2 = slx fin.2) ⟨rfl, (s.1 + 1, _), by show s.1 + 1 ≤ q; omega, by show q - (s.1 + 1) < q - s.1; omega, rfl, rfl⟩⟩
    · have e : s.1 = q := by have : s.1 ≤ q := hs; omega
      have e1 : (if s.1 < q then gdW (r s.1) (l s.1) else er) = er := if_neg hlt
      have e2 : (if s.1 < q then ([] : List Bool) else dr) = dr := if_neg hlt
      show Ran (xcode C1 Tryz.prog F 24 (loopC Tryz.prog 24 5) (mask 24) (tmpsN Tryz.prog 24) (mkE (kEW KN A n s.1 (fun _ => if s.1 < q then gdW (r s.1) (l s.1) else er))) h (if s.1 < q then ([] : List Bool) else dr) _)
      rw [e1, e2, e]
      exact ⟨endW_use he (fun x env ds hne a b => by
        cases x with
        | nrm => exact absurd rfl hne
        | _ => exact ⟨rfl, a, b⟩)⟩
end
end Go.Proofs.YtkfhjobebhdpoaaGreat
/- Stream: Ask at rows of one small number and one truth value, with or without a bad row: in a heap that holds more. -/
set_option autoImplicit false
set_option maxRecDepth 1000000
set_option maxHeartbeats 2000000
set_option linter.unusedVariables false
namespace Go.Proofs.YtkfhjobebhdpoaaGreat
noncomputable section
open Go.X
/-- how the loop is left, and what Ask answers then -/
inductive AnsW : XE × List (Nat × AV) → Nat → Prop where
  | ok : AnsW (.ext 0, [(4, .int .i64 (Int.ofNat 0))]) 0
  | bad (e : Nat) : AnsW (.ret, [(4, .int .i64 (Int.ofNat e))]) e
theorem askW_run {h : H} (hc : HC h) {KN A n q : Nat} (hKN : KN < h.next) (hA : A < h.next) {r : Nat → Nat} {l : Nat → Int × Bool} (ra : PairRows h A q r l) (hk : cellIs h KN 0 (.sc 2)) (hk2 : cellIs h KN 1 (.sc 1)) (hq : q ≤ n) (hn : n ≤ 1000) (g : Nat → CV)
    {er : CV} {dr : List Bool} {fin : XE × List (Nat × AV)} {e : Nat} (ha : AnsW fin e) (he : EndW h KN A n q er dr fin) :
    ∃ C, X.Good C Tryz.prog ∧ C.gl = (fun _ => none) ∧ Ran (xfun C Tryz.prog (xcode C Tryz.prog F) 24 [.vs KN 0 2 gkW, .vs A 0 n g] h [] (fun v h' _ => v = .int .i64 (Int.ofNat e) ∧ h' = h)) := by
  cases ha with
  | ok =>
    refine ⟨_, askW_good hc hKN hA ra hk hk2 hq (by omega) g (fin := (.ext 0, [(4, .int .i64 (Int.ofNat 0))])) rfl rfl he, rfl, ?_⟩
    have key : ∀ (K : KV), xfun (C1.addLc 24 5 (lcKW h KN A n g (.ext 0, [(4, .int .i64 (Int.ofNat 0))]))) Tryz.prog (xcode (C1.addLc 24 5 (lcKW h KN A n g (.ext 0, [(4, .int .i64 (Int.ofNat 0))]))) Tryz.prog F) 24 [.vs KN 0 2 gkW, .vs A 0 n g] h [] K =
        bcase (ltI (Int.ofNat 1000) (Int.ofNat n)) (K (.int .i64 (Int.ofNat 2)) h []) (h = h ∧ ∃ _ : Unit, True ∧ slx (kEW KN A n 0 g) = slx (kEW KN A n 0 g) ∧ K (.int .i64 (Int.ofNat 0)) h []) := fun K => by kernel_rfl
    refine ⟨Eq.mpr (key _) ?_⟩
    exact bcase_ff (by rw [ltI_eq]; simp; omega) ⟨rfl, (), trivial, rfl, rfl, rfl⟩
  | bad e =>
    refine ⟨_, askW_good hc hKN hA ra hk hk2 hq (by omega) g (fin := (.ret, [(4, .int .i64 (Int.ofNat e))])) rfl rfl he, rfl, ?_⟩
    have key : ∀ (K : KV), xfun (C1.addLc 24 5 (lcKW h KN A n g (.ret, [(4, .int .i64 (Int.ofNat e))]))) Tryz.prog (xcode (C1.addLc 24 5 (lcKW h KN A n g (.ret, [(4, .int .i64 (Int.ofNat e))]))) Tryz.prog F) 24 [.vs KN 0 2 gkW, .vs A 0 n g] h [] K =
        bcase (ltI (Int.ofNat 1000) (Int.ofNat n)) (K (.int .i64 (Int.ofNat 2)) h []) (h = h ∧ ∃ _ : Unit, True ∧ slx (kEW KN A n 0 g) = slx (kEW KN A n 0 g) ∧ K (.int .i64 (Int.ofNat e)) h []) := fun K => by kernel_rfl
    refine ⟨Eq.mpr (key _) ?_⟩
    exact bcase_ff (by rw [ltI_eq]; simp; omega) ⟨rfl, (), trivial, rfl, rfl, rfl⟩
/-- what Ask sees -/
def seeW (z : T Blk) (N KN A : Nat) (cs : List AV) (Bx : List (Nat × Blk)) : H := ⟨mkB (roT z) ((KN, .row [.int .i64 2, .int .i64 1] 3 false []) :: (A, .row cs 22 false []) :: Bx), N⟩
theorem askB_ok {h : H} {KN A n q : Nat} {sl : Nat → Nat} {l : Nat → Int × Bool} {z : T Blk} {N : Nat} (hN : h.next = N) {cs : List AV} {wk wa : Bool} {pk pa : List Nat} {Bx : List (Nat × Blk)} (g : Nat → CV)
    (hKN : KN < N) (hA : A < N) (hne : KN ≠ A) (mK : KN % 4096 ≠ 4095) (mA : A % 4096 ≠ 4095) (hzo : ZoneOK z N) (hcs : belL N cs = true)
    (hx : ∀ p ∈ Bx, p.1 < N ∧ p.1 % 4096 ≠ 4095 ∧ ∃ c e wr ps, p.2 = .row c e false [] ∧ h.b.get p.1 = some (.row c e wr ps) ∧ belL N c = true)
    (gK : h.b.get KN = some (.row [.int .i64 2, .int .i64 1] 3 wk pk)) (gA : h.b.get A = some (.row cs 22 wa pa)) (hz : zget h.b 12 = z)
    (hcell : ∀ i, i < q → lget cs i = some (.slc (zn (sl i)) 0 2 2 true 1)) (hins : ∀ j, j < q → ∃ wz, z.get (sl j) = some (.row [.int .i64 (l j).1, .int .i64 (bi (l j).2)] 3 wz [])) (hsm : ∀ j, j < q → -128 ≤ (l j).1 ∧ (l j).1 ≤ 127)
    (hq : q ≤ n) (hn : n ≤ 1000) {er : CV} {dr : List Bool} {fin : XE × List (Nat × AV)} {e : Nat} (ha : AnsW fin e) (he : EndW (seeW z N KN A cs Bx) KN A n q er dr fin)
    {ds : List Bool} {K : KV} (hK : K (.int .i64 (Int.ofNat e)) h ds) : CallOK Tryz.prog (fun _ => none) 24 [.slc KN 0 2 2 false 1, .vs A 0 n g] h K := by
  subst hN
  have g1 : (seeW z h.next KN A cs Bx).b.get KN = some (.row [.int .i64 2, .int .i64 1] 3 false []) := T.get_set_same _ _
  have g2 : (seeW z h.next KN A cs Bx).b.get A = some (.row cs 22 false []) := by
    show (mkB _ (_ :: _ :: Bx)).get A = _
    rw [mkB_cons, T.get_set_other _ _ _ (Ne.symm hne), mkB_cons]; exact T.get_set_same _ _
  have gz : ∀ {B : List (Nat × Blk)} {j : Nat} {z' : T Blk}, (∀ p ∈ B, p.1 % 4096 ≠ 4095) → (mkB z' B).get (zn j) = z'.get j := by
    intro B
    induction B with
    | nil => intro j z' _; exact zput_zn _ _
    | cons p B ih =>
      intro j z' hB
      rw [mkB_cons, T.get_set_other _ _ _ (fun e => by have := hB p (List.mem_cons_self ..); rw [← e, zn_eq] at this; omega)]
      exact ih fun p' hp => hB p' (List.mem_cons_of_mem _ hp)
  have hmod : ∀ p ∈ ((KN, Blk.row [.int .i64 2, .int .i64 1] 3 false []) :: (A, Blk.row cs 22 false []) :: Bx), p.1 % 4096 ≠ 4095 := by
    intro p hp
    rcases List.mem_cons.1 hp with rfl | hp
    · exact mK
    · rcases List.mem_cons.1 hp with rfl | hp
      · exact mA
      · exact (hx p hp).2.1
  have g3 : ∀ j, j < q → (seeW z h.next KN A cs Bx).b.get (zn (sl j)) = some (.row [.int .i64 (l j).1, .int .i64 (bi (l j).2)] 3 false []) := by
    intro j hj
    show (mkB (roT z) ((KN, Blk.row [.int .i64 2, .int .i64 1] 3 false []) :: (A, Blk.row cs 22 false []) :: Bx)).get (zn (sl j)) = _
    obtain ⟨wz, e⟩ := hins j hj
    rw [gz hmod, roT_get, e]; rfl
  have hc : HC (seeW z h.next KN A cs Bx) := by
    refine ⟨fun i k hi => ?_⟩
    rcases mkB_get (z := roT z) (B := (KN, Blk.row [.int .i64 2, .int .i64 1] 3 false []) :: (A, Blk.row cs 22 false []) :: Bx) hi with hm | ⟨x, rfl, hg⟩
    · rcases List.mem_cons.1 hm with e | hm
      · cases e; exact ⟨hKN, rfl⟩
      · rcases List.mem_cons.1 hm with e | hm
        · cases e; exact ⟨hA, hcs⟩
        · obtain ⟨a, _, c, e, wr, ps, b, _, d⟩ := hx _ hm
          have b : k = .row c e false [] := b
          subst b
          exact ⟨a, d⟩
    · have o := zone_ro hzo x k hg
      exact ⟨o.2.1, (intRow_ren o.1 id h.next).2⟩
  refine call_args (args2 := [.vs KN 0 2 gkW, .vs A 0 n g]) (fun L vs hv => ?_) ?_
  · cases hv with
    | cons _ _ _ _ a b => exact .cons _ _ _ _ (rv_vs a) b
  · have ra : PairRows (seeW z h.next KN A cs Bx) A q (fun i => zn (sl i)) l := by
      intro i hi
      refine ⟨fun c => ⟨2, true, Nat.le_refl _, cellOf_of g2 (hcell i hi)⟩, cellOf_of (g3 i hi) rfl, cellOf_of (g3 i hi) rfl, (hsm i hi).1, (hsm i hi).2⟩
    obtain ⟨C, G, hgl, hr⟩ := askW_run hc hKN hA ra (cellOf_of g1 rfl) (cellOf_of g1 rfl) hq hn g ha he
    refine frame_ro G hgl (h := h) (hs := seeW z h.next KN A cs Bx) rfl (fun i k hi => ?_) hr hK
    rcases mkB_get (z := roT z) (B := (KN, Blk.row [.int .i64 2, .int .i64 1] 3 false []) :: (A, Blk.row cs 22 false []) :: Bx) hi with hm | ⟨x, rfl, hg⟩
    · rcases List.mem_cons.1 hm with e | hm
      · cases e; exact ⟨_, _, _, _, rfl, gK⟩
      · rcases List.mem_cons.1 hm with e | hm
        · cases e; exact ⟨_, _, _, _, rfl, gA⟩
        · obtain ⟨a, _, c, e, wr, ps, b, d, _⟩ := hx _ hm
          exact ⟨c, e, wr, ps, b, d⟩
    · rw [roT_get] at hg
      cases hgz : z.get x with
      | none => rw [hgz] at hg; cases hg
      | some k0 =>
        rw [hgz] at hg
        obtain ⟨c, e, wr, ps, rfl, rfl⟩ := roB_some (by exact hg)
        refine ⟨c, e, wr, ps, rfl, ?_⟩
        show h.b.get (zname 12 x) = _
        rw [zget_get, hz]; exact hgz
/-- nothing bad -/
theorem endW_ok {h : H} {KN A n : Nat} : EndW h KN A n n (.row 0 2 (fun k => Nat.rec 0 (fun _ _ => 0) k)) [] (.ext 0, [(4, .int .i64 (Int.ofNat 0))]) :=
  ⟨Eq.mpr (ask0W h A KN n n 0 0 (fun x' h' s1 s2 => h' = h ∧ match x' with | .nrm => False | x => (XE.ext 0) = x ∧ s2 = slx [(4, .int .i64 (Int.ofNat 0))]))
    (bcase_ff (by rw [ltI_eq]; simp) ⟨rfl, rfl, rfl⟩)⟩
theorem endW_1 {h : H} {KN A n q r : Nat} (hq : q < n) (hA : cellIs h A q (.row r 1 (fun _ => 1))) : EndW h KN A n q (.row r 1 (fun _ => 1)) [] (.ret, [(4, .int .i64 (Int.ofNat 23))]) :=
  ⟨Eq.mpr (askE1 h A KN n q r (fun x' h' s2 => h' = h ∧ match x' with | .nrm => False | x => XE.ret = x ∧ s2 = slx [(4, .int .i64 (Int.ofNat 23))]))
    (bcase_tt (by rw [ltI_eq]; simp; omega) (bcase_tt (inB_of hq) ⟨by rw [ix_eq]; exact hA, rfl, rfl, rfl⟩))⟩
theorem endW_2 {h : H} {KN A n q r : Nat} (hq : q < n) (hA : cellIs h A q (.row r 3 (fun _ => 1))) : EndW h KN A n q (.row r 3 (fun _ => 1)) [] (.ret, [(4, .int .i64 (Int.ofNat 23))]) :=
  ⟨Eq.mpr (askE2 h A KN n q r (fun x' h' s2 => h' = h ∧ match x' with | .nrm => False | x => XE.ret = x ∧ s2 = slx [(4, .int .i64 (Int.ofNat 23))]))
    (bcase_tt (by rw [ltI_eq]; simp; omega) (bcase_tt (inB_of hq) ⟨by rw [ix_eq]; exact hA, rfl, rfl, rfl⟩))⟩
theorem endW_3 {h : H} {KN A n q r : Nat} (hq : q < n) (hA : cellIs h A q (.row r 2 (fun k => Nat.rec 200 (fun _ _ => 1) k))) (h1 : cellIs h r 0 (.sc (Int.ofNat 200))) (h2 : cellIs h KN 0 (.sc (Int.ofNat 2))) : EndW h KN A n q (.row r 2 (fun k => Nat.rec 200 (fun _ _ => 1) k)) [true, true, true, false, true, true, false, true, false, true, false] (.ret, [(4, .int .i64 (Int.ofNat 1))]) :=
  ⟨Eq.mpr (askE3 h A KN n q r (fun x' h' s2 => h' = h ∧ match x' with | .nrm => False | x => XE.ret = x ∧ s2 = slx [(4, .int .i64 (Int.ofNat 1))]))
    (bcase_tt (by rw [show ltI (Int.ofNat q) (Int.ofNat n) = true by rw [ltI_eq]; simp; omega]; rfl) (bcase_tt (inB_of hq) ⟨by rw [ix_eq]; exact hA, h1, h2, rfl, rfl, rfl⟩))⟩
theorem endW_4 {h : H} {KN A n q r : Nat} (hq : q < n) (hA : cellIs h A q (.row r 2 (fun k => Nat.rec 1 (fun _ _ => 2) k))) (h1 : cellIs h r 0 (.sc (Int.ofNat 1))) (h2 : cellIs h KN 0 (.sc (Int.ofNat 2))) (h3 : cellIs h r 1 (.sc (Int.ofNat 2))) (h4 : cellIs h KN 1 (.sc (Int.ofNat 1))) : EndW h KN A n q (.row r 2 (fun k => Nat.rec 1 (fun _ _ => 2) k)) [] (.ret, [(4, .int .i64 (Int.ofNat 1))]) :=
  ⟨Eq.mpr (askE4 h A KN n q r (fun x' h' s2 => h' = h ∧ match x' with | .nrm => False | x => XE.ret = x ∧ s2 = slx [(4, .int .i64 (Int.ofNat 1))]))
    (bcase_tt (by rw [ltI_eq]; simp; omega) (bcase_tt (inB_of hq) ⟨by rw [ix_eq]; exact hA, h1, h2, h3, h4, rfl, rfl, rfl⟩))⟩
end
end Go.Proofs.YtkfhjobebhdpoaaGreat

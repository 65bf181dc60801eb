/- LexSpaces: the loops. -/
import Derived.Test.YtoeoaiipchklbaaDoorP2
import Derived.Test.YtoeoaiipchklbaaDoorM5
set_option linter.unusedVariables false
set_option autoImplicit false
set_option linter.unusedVariables false
set_option maxRecDepth 100000
set_option maxHeartbeats 2000000
namespace Go.Proofs.YtoeoaiipchklbaaDoor
noncomputable section
open Go.X
theorem clean_succ {v L k : Nat} (h : k < L) : clean v (L - k) k = cond (Nat.beq (byteAt v k) 10 || Nat.beq (byteAt v k) 45) false (clean v (L - (k + 1)) (k + 1)) := by
  have : L - k = (L - (k + 1)) + 1 := by omega
  rw [this, clean]
theorem clean_end {v L k : Nat} (h : ¬ k < L) : clean v (L - k) k = true := by
  have : L - k = 0 := by omega
  rw [this, clean]
theorem allOk_succ {W : Nat → Nat × Nat} {wn i : Nat} (h : i < wn) : allOk W (wn - i) i = cond (wordOk W i) (allOk W (wn - (i + 1)) (i + 1)) false := by
  have : wn - i = (wn - (i + 1)) + 1 := by omega
  rw [this, allOk]
theorem aF_succ {W : Nat → Nat × Nat} {wn i : Nat} {s : Nat × Nat} (h : i < wn) : aF W (wn - i) i s = aF W (wn - (i + 1)) (i + 1) (Nat.add (Nat.add s.1 1) (W i).1, catV (Nat.add s.1 1) (catV s.1 s.2 32) (W i).2) := by
  have : wn - i = (wn - (i + 1)) + 1 := by omega
  rw [this, aF]
theorem bF_succ {W : Nat → Nat × Nat} {g : Nat → Nat} {wn i c : Nat} {s : Nat × Nat} (h : i < wn) (hc : g i = c) : bF W g (wn - i) i s = bF W g (wn - (i + 1)) (i + 1) (Nat.add (Nat.add s.1 (gapL c)) (W i).1, catV (Nat.add s.1 (gapL c)) (catV s.1 s.2 (gapV c)) (W i).2) := by
  have : wn - i = (wn - (i + 1)) + 1 := by omega
  rw [this, bF, hc]
theorem ix1 (i : Nat) : Nat.add 0 (Nat.mul (Int.toNat (Int.ofNat i)) 1) = i := by show 0 + i * 1 = i; omega
theorem in1w {i wn : Nat} (h : i < wn) : (Nat.ble (Nat.succ i) wn && true) = true := by rw [Nat.ble_eq_true_of_le h]; rfl
theorem tokP_ok (args : List AV) (h : H) (ds : List Bool) (K : KV) (hk : conF2 fTokP args h ds K) : CallOK Tryd.prog glA 10 args h K := by
  refine conF2_ok (F := fTokP) ?_ ?_ args h ds K hk
  · clear hk
    intro args h r1 r2 ds K hf hK
    unfold fTokP at hf
    split at hf <;> try (cases hf; done)
    rename_i n v
    split at hf <;> try (cases hf; done)
    rename_i cells e hg
    simp only [Option.some.injEq, Prod.mk.injEq] at hf
    obtain ⟨hc, ht, rfl, rfl⟩ := hf
    obtain ⟨s1, s2, s3⟩ := tCells_shape ht
    refine call_pur (h2 := hnew h (.row (tCells n v) 30 true [])) (V := vOk h.next n v) (i := h.next) (cells := tCells n v) (e := 30) (f := fPay n v) (n := Nat.mul (tCount n v) 6) (T.get_set_same _ _) ?_ (tokens_ok [.str n v] h ds _ ?_) hK
    · intro k hk
      have hk : k < tCount n v * 6 := hk
      obtain ⟨kd, tn, tv, N, tk_, at_, q⟩ := s3 (k / 6) (by omega)
      have e1 : (tCells n v)[k]? = (tok kd tn tv N tk_ at_)[k % 6]? := by
        rw [← q, ltake_eq, ldrop_eq]
        show _ = ((((tCells n v).drop (k / 6 * 6)).take 6))[k % 6]?
        rw [List.getElem?_take, if_pos (by omega), List.getElem?_drop, show k / 6 * 6 + k % 6 = k by omega]
      have e2 : fPay n v k = pvOf ((tok kd tn tv N tk_ at_)[k % 6]?) := by unfold fPay; rw [lget_eq, e1]
      rw [e1, e2]
      have h6 : k % 6 < 6 := by omega
      generalize k % 6 = o at *
      match o, h6 with
      | 0, _ => rfl
      | 1, _ => rfl
      | 2, _ => rfl
      | 3, _ => rfl
      | 4, _ => rfl
      | 5, _ => rfl
    · have hf : fTokens [.str n v] h = some (true, true, (vOk h.next n v, hnew h (.row (tCells n v) 30 true [])), (vErr n v, h)) := by
        unfold fTokens; rw [hg]; simp only [hc, ht]
      unfold conF2
      rw [hf]
      dsimp only
      rw [Nat.ble_eq_true_of_le (show h.next ≤ (hnew h (.row (tCells n v) 30 true [])).next from Nat.le_succ _)]
      exact ⟨rfl, rfl, rfl⟩
  · clear hk
    intro args h r1 r2 ds K hf hK
    unfold fTokP at hf
    split at hf <;> try (cases hf; done)
    rename_i n v
    split at hf <;> try (cases hf; done)
    rename_i cells e hg
    simp only [Option.some.injEq, Prod.mk.injEq] at hf
    obtain ⟨hc, ht, rfl, rfl⟩ := hf
    refine tokens_ok [.str n v] h ds K ?_
    have hf : fTokens [.str n v] h = some (true, false, (vOk h.next n v, hnew h (.row (tCells n v) 30 true [])), (vErr n v, h)) := by
      unfold fTokens; rw [hg]; simp only [hc, ht]
    unfold conF2
    rw [hf]
    dsimp only
    rw [Nat.ble_eq_true_of_le (Nat.le_refl h.next)]
    exact hK
theorem goodCP0 : X.Good CP0 Tryd.prog := ((goodN _ _ _ _).addCon 9 _ (conF_spl _) (conF_ok alive_ok)).addCon 10 _ (conF2_spl _) tokP_ok
theorem goodCP1A {e : Nat × Nat × Nat} {wn : Nat} {W : Nat → Nat × Nat} {gn : Nat} {G : Nat → Int} : X.Good (CP1A e wn W gn G) Tryd.prog := by
  unfold CP1A lPiA
  rw [lcE2_eq]
  refine goodCP0.addE (n0 := 3) (μ := fun s : SPi => (W s.i).1 - s.k) (fuel := F) (by kernel_rfl) ?_ ?_ ?_
  · intro s _
    refine ⟨rfl, ?_, ?_, ?_⟩
    · cases clean (W s.i).2 ((W s.i).1 - s.k) s.k <;> exact Nat.le_refl _
    · repeat' (first | exact trivial | exact rfl | refine And.intro ?_ ?_)
    · repeat' (first | exact trivial | exact rfl | exact (okA (i := 0) (σ := id) rfl).1 | refine And.intro ?_ ?_)
  · rintro ⟨i, k, an, av, bn, bv⟩ hok
    obtain ⟨hi, hw, hL⟩ := hok
    have hi : i < wn := hi
    have hw : wn ≤ 60 := hw
    have hL : (W i).1 ≤ 100 := hL
    refine ⟨Eq.mpr (pi_A e wn i k an av bn bv W gn G _) ?_⟩
    have ek : Int.toNat (Int.ofNat k) = k := rfl
    rw [ix1, ek]
    refine bcase_t (inB_of hi) (bcase_t (in1w hi) (bcase_mk (fun h1 => ?_) (fun h1 => ?_)))
    · have h1 := ltT h1
      have bad : (Nat.beq (byteAt (W i).2 k) 10 || Nat.beq (byteAt (W i).2 k) 45) = true → (cond (clean (W i).2 ((W i).1 - k) k) ((XE.ext 2 : XE), eO (.slc 2 0 gn gn false 1) wn i an av bn bv, hSA e wn W gn G) (.ret, eTrue, hSA e wn W gn G)) = (.ret, eTrue, hSA e wn W gn G) := fun h => by rw [clean_succ h1, h]; rfl
      refine bcase_t (inB_of hi) (bcase_t (in1w hi) (bcase_t (inB_of h1) (bcase_mk (fun h2 => ?_) (fun h2 => bcase_t (inB_of hi) (bcase_t (in1w hi) (bcase_t (inB_of h1) (bcase_mk (fun h3 => ?_) (fun h3 => ?_))))))))
      · have h2 := eqT h2
        have hf := bad (by rw [h2]; rfl)
        refine ⟨[], by (try dsimp only); rw [hf], ?_⟩
        (try dsimp only); rw [hf]
        (refine abs_mk rfl rfl rfl ?_ ?_ <;> repeat' (first | exact trivial | exact rfl | exact okA rfl | exact ⟨_, rfl, rfl⟩ | refine And.intro ?_ ?_))
      · have h3 := eqT h3
        have hf := bad (by rw [h3]; rfl)
        refine ⟨[], by (try dsimp only); rw [hf], ?_⟩
        (try dsimp only); rw [hf]
        (refine abs_mk rfl rfl rfl ?_ ?_ <;> repeat' (first | exact trivial | exact rfl | exact okA rfl | exact ⟨_, rfl, rfl⟩ | refine And.intro ?_ ?_))
      · have h2 := eqF h2
        have h3 := eqF h3
        have hc : clean (W i).2 ((W i).1 - k) k = clean (W i).2 ((W i).1 - (k + 1)) (k + 1) := by
          rw [clean_succ h1, beqD, beqD, decide_eq_false h2, decide_eq_false h3]; rfl
        refine bcase_t (inR_add (by omega)) ⟨⟨i, k + 1, an, av, bn, bv⟩, [], ⟨hi, hw, hL⟩, by dsimp only; omega, ?_, ?_⟩
        · dsimp only; rw [hc]
        · (refine abs_mk rfl rfl rfl ?_ ?_ <;> repeat' (first | exact trivial | exact rfl | exact okA rfl | exact ⟨_, rfl, rfl⟩ | refine And.intro ?_ ?_))
    · have h1 := ltF h1
      have hf : (cond (clean (W i).2 ((W i).1 - k) k) ((XE.ext 2 : XE), eO (.slc 2 0 gn gn false 1) wn i an av bn bv, hSA e wn W gn G) (.ret, eTrue, hSA e wn W gn G)) = (.ext 2, eO (.slc 2 0 gn gn false 1) wn i an av bn bv, hSA e wn W gn G) := by rw [clean_end h1]; rfl
      refine ⟨[], by (try dsimp only); rw [hf], ?_⟩
      (try dsimp only); rw [hf]
      (refine abs_mk rfl rfl rfl ?_ ?_ <;> repeat' (first | exact trivial | exact rfl | exact okA rfl | exact ⟨_, rfl, rfl⟩ | refine And.intro ?_ ?_))
  · intro g i hgi
    obtain ⟨rfl, _⟩ := glA_get hgi
    decide
theorem goodCP2A {e : Nat × Nat × Nat} {wn : Nat} {W : Nat → Nat × Nat} {gn : Nat} {G : Nat → Int} : X.Good (CP2A e wn W gn G) Tryd.prog := by
  unfold CP2A lPoA
  rw [lcE2_eq]
  refine (goodCP1A (e := e) (wn := wn) (W := W) (gn := gn) (G := G)).addED (n0 := 3) (μ := fun s : SPo => wn - s.i) (fun _ => [false]) (fuel := F) (by kernel_rfl) ?_ ?_ ?_
  · intro s _
    refine ⟨rfl, ?_, ?_, ?_⟩
    · cases allOk W (wn - s.i) s.i <;> exact Nat.le_refl _
    · repeat' (first | exact trivial | exact rfl | refine And.intro ?_ ?_)
    · repeat' (first | exact trivial | exact rfl | exact (okA (i := 0) (σ := id) rfl).1 | refine And.intro ?_ ?_)
  · rintro ⟨i, an, av, bn, bv⟩ hok
    obtain ⟨hw, hi, ha, hb⟩ := hok
    have hw : wn ≤ 60 := hw
    have hi : i ≤ wn := hi
    have ha : an ≤ i * 200 := ha
    have hb : bn ≤ i * 200 := hb
    refine ⟨Eq.mpr (po_A e wn i an av bn bv W gn G _) ?_⟩
    rw [ix1]
    refine bcase_mk (fun h1 => ?_) (fun h1 => ?_)
    · have h1 := ltT h1
      refine bcase_t (inB_of h1) (bcase_t (in1w h1) (bcase_mk (fun h2 => ?_) (fun h2 => ?_)))
      · have h2 := ltT h2
        have hf : (cond (allOk W (wn - i) i) ((XE.ext 0 : XE), eAB (aF W (wn - i) i (an, av)).1 (aF W (wn - i) i (an, av)).2 (bF W (gapA gn G) (wn - i) i (bn, bv)).1 (bF W (gapA gn G) (wn - i) i (bn, bv)).2, hSA e wn W gn G) (.ret, eTrue, hSA e wn W gn G)) = (.ret, eTrue, hSA e wn W gn G) := by
          have : wordOk W i = false := by unfold wordOk; rw [show Nat.ble (W i).1 100 = false by rw [bleD, decide_eq_false_iff_not]; omega]; rfl
          rw [allOk_succ h1, this]; rfl
        refine ⟨[], by (try dsimp only); rw [hf], ?_⟩
        (try dsimp only); rw [hf]
        (refine abs_mk rfl rfl rfl ?_ ?_ <;> repeat' (first | exact trivial | exact rfl | exact okA rfl | exact ⟨_, rfl, rfl⟩ | refine And.intro ?_ ?_))
      · have h2 := ltF h2
        have hL : (W i).1 ≤ 100 := by omega
        refine ⟨⟨i, 0, an, av, bn, bv⟩, ⟨h1, hw, hL⟩, by repeat' (first | exact trivial | exact rfl | refine And.intro ?_ ?_), rfl, by repeat' (first | exact trivial | exact rfl | refine And.intro ?_ ?_), ?_⟩
        dsimp only
        rw [ix1]
        refine bcase_mk (fun h3 => ?_) (fun h3 => ?_)
        · have h3 : clean (W i).2 ((W i).1 - 0) 0 = true := h3
          have wk : wordOk W i = true := by unfold wordOk; rw [Nat.ble_eq_true_of_le hL]; exact h3
          refine bcase_mk (fun h4 => ?_) (fun h4 => ?_)
          · have h4 := ltT h4
            have gb : Nat.ble (Nat.succ i) gn = true := Nat.ble_eq_true_of_le h4
            have ge : ∀ c : Nat, eqI (Int.emod (G i) (Int.ofNat 4)) (Int.ofNat c) = true → gapA gn G i = c := fun c h => by
              rw [eqI_eq, beq_iff_eq] at h
              unfold gapA; rw [gb]
              show (G i % 4).toNat = c
              have h : G i % 4 = Int.ofNat c := h
              rw [h]; rfl
            refine bcase_t (inB_of h4) (bcase_t (in1w h4) (bcase_mk (fun g0 => ?_) (fun g0 => bcase_mk (fun g1 => ?_) (fun g1 => bcase_mk (fun g2 => ?_) (fun g2 => bcase_mk (fun g3 => ?_) (fun g3 => ?_))))))
            · skip
              have hg : (gapA gn G) i = 0 := ge 0 g0
              refine bcase_t (Nat.ble_eq_true_of_le (by show an + 1 ≤ _; omega)) (bcase_t (inB_of h1) (bcase_t (in1w h1) (bcase_t (Nat.ble_eq_true_of_le (by show an + 1 + (W i).1 ≤ _; omega)) (bcase_t (inB_of h1) (bcase_t (in1w h1) (bcase_t (Nat.ble_eq_true_of_le (by show bn + 1 ≤ _; omega)) (bcase_t (Nat.ble_eq_true_of_le (by show bn + 1 + (W i).1 ≤ _; omega)) (bcase_t (inR_add (by omega)) ⟨⟨i + 1, Nat.add (Nat.add an 1) (W i).1, catV (Nat.add an 1) (catV an av 32) (W i).2, Nat.add (Nat.add bn 1) (W i).1, catV (Nat.add bn 1) (catV bn bv 32) (W i).2⟩, [], ⟨hw, (by omega : i + 1 ≤ wn), (by show an + 1 + (W i).1 ≤ (i + 1) * 200; omega), (by show bn + 1 + (W i).1 ≤ (i + 1) * 200; omega)⟩, by dsimp only; omega, ?_, ?_⟩))))))))
              · dsimp only; rw [allOk_succ h1, wk, aF_succ h1, bF_succ h1 hg]; rfl
              · (refine abs_mk rfl rfl rfl ?_ ?_ <;> repeat' (first | exact trivial | exact rfl | exact okA rfl | exact ⟨_, rfl, rfl⟩ | refine And.intro ?_ ?_))
            · skip
              have hg : (gapA gn G) i = 1 := ge 1 g1
              refine bcase_t (Nat.ble_eq_true_of_le (by show an + 1 ≤ _; omega)) (bcase_t (inB_of h1) (bcase_t (in1w h1) (bcase_t (Nat.ble_eq_true_of_le (by show an + 1 + (W i).1 ≤ _; omega)) (bcase_t (inB_of h1) (bcase_t (in1w h1) (bcase_t (Nat.ble_eq_true_of_le (by show bn + 1 ≤ _; omega)) (bcase_t (Nat.ble_eq_true_of_le (by show bn + 1 + (W i).1 ≤ _; omega)) (bcase_t (inR_add (by omega)) ⟨⟨i + 1, Nat.add (Nat.add an 1) (W i).1, catV (Nat.add an 1) (catV an av 32) (W i).2, Nat.add (Nat.add bn 1) (W i).1, catV (Nat.add bn 1) (catV bn bv 10) (W i).2⟩, [], ⟨hw, (by omega : i + 1 ≤ wn), (by show an + 1 + (W i).1 ≤ (i + 1) * 200; omega), (by show bn + 1 + (W i).1 ≤ (i + 1) * 200; omega)⟩, by dsimp only; omega, ?_, ?_⟩))))))))
              · dsimp only; rw [allOk_succ h1, wk, aF_succ h1, bF_succ h1 hg]; rfl
              · (refine abs_mk rfl rfl rfl ?_ ?_ <;> repeat' (first | exact trivial | exact rfl | exact okA rfl | exact ⟨_, rfl, rfl⟩ | refine And.intro ?_ ?_))
            · skip
              have hg : (gapA gn G) i = 2 := ge 2 g2
              refine bcase_t (Nat.ble_eq_true_of_le (by show an + 1 ≤ _; omega)) (bcase_t (inB_of h1) (bcase_t (in1w h1) (bcase_t (Nat.ble_eq_true_of_le (by show an + 1 + (W i).1 ≤ _; omega)) (bcase_t (inB_of h1) (bcase_t (in1w h1) (bcase_t (Nat.ble_eq_true_of_le (by show bn + 2 ≤ _; omega)) (bcase_t (Nat.ble_eq_true_of_le (by show bn + 2 + (W i).1 ≤ _; omega)) (bcase_t (inR_add (by omega)) ⟨⟨i + 1, Nat.add (Nat.add an 1) (W i).1, catV (Nat.add an 1) (catV an av 32) (W i).2, Nat.add (Nat.add bn 2) (W i).1, catV (Nat.add bn 2) (catV bn bv 3337) (W i).2⟩, [], ⟨hw, (by omega : i + 1 ≤ wn), (by show an + 1 + (W i).1 ≤ (i + 1) * 200; omega), (by show bn + 2 + (W i).1 ≤ (i + 1) * 200; omega)⟩, by dsimp only; omega, ?_, ?_⟩))))))))
              · dsimp only; rw [allOk_succ h1, wk, aF_succ h1, bF_succ h1 hg]; rfl
              · (refine abs_mk rfl rfl rfl ?_ ?_ <;> repeat' (first | exact trivial | exact rfl | exact okA rfl | exact ⟨_, rfl, rfl⟩ | refine And.intro ?_ ?_))
            · skip
              have hg : (gapA gn G) i = 3 := ge 3 g3
              refine bcase_t (Nat.ble_eq_true_of_le (by show an + 1 ≤ _; omega)) (bcase_t (inB_of h1) (bcase_t (in1w h1) (bcase_t (Nat.ble_eq_true_of_le (by show an + 1 + (W i).1 ≤ _; omega)) (bcase_t (inB_of h1) (bcase_t (in1w h1) (bcase_t (Nat.ble_eq_true_of_le (by show bn + 9 ≤ _; omega)) (bcase_t (Nat.ble_eq_true_of_le (by show bn + 9 + (W i).1 ≤ _; omega)) (bcase_t (inR_add (by omega)) ⟨⟨i + 1, Nat.add (Nat.add an 1) (W i).1, catV (Nat.add an 1) (catV an av 32) (W i).2, Nat.add (Nat.add bn 9) (W i).1, catV (Nat.add bn 9) (catV bn bv 192782337372193828141) (W i).2⟩, [], ⟨hw, (by omega : i + 1 ≤ wn), (by show an + 1 + (W i).1 ≤ (i + 1) * 200; omega), (by show bn + 9 + (W i).1 ≤ (i + 1) * 200; omega)⟩, by dsimp only; omega, ?_, ?_⟩))))))))
              · dsimp only; rw [allOk_succ h1, wk, aF_succ h1, bF_succ h1 hg]; rfl
              · (refine abs_mk rfl rfl rfl ?_ ?_ <;> repeat' (first | exact trivial | exact rfl | exact okA rfl | exact ⟨_, rfl, rfl⟩ | refine And.intro ?_ ?_))
            · rw [eqI_eq, beq_eq_false_iff_ne] at g0 g1 g2 g3
              have a0 : G i % 4 ≠ 0 := g0
              have a1 : G i % 4 ≠ 1 := g1
              have a2 : G i % 4 ≠ 2 := g2
              have a3 : G i % 4 ≠ 3 := g3
              omega
          · have h4 := ltF h4
            have gb : Nat.ble (Nat.succ i) gn = false := by rw [bleD, decide_eq_false_iff_not]; omega
            have hg : (gapA gn G) i = 0 := by unfold gapA; rw [gb]; rfl
            have hwr : wrapF .i64 (Int.ofNat i + Int.ofNat 1) = Int.ofNat (i + 1) := wrap_pos (by omega)
            rw [hwr]
            refine bcase_t (Nat.ble_eq_true_of_le (by show an + 1 ≤ _; omega)) (bcase_t (inB_of h1) (bcase_t (in1w h1) (bcase_t (Nat.ble_eq_true_of_le (by show an + 1 + (W i).1 ≤ _; omega)) (bcase_t (inB_of h1) (bcase_t (in1w h1) (bcase_t (Nat.ble_eq_true_of_le (by show bn + 1 ≤ _; omega)) (bcase_t (Nat.ble_eq_true_of_le (by show bn + 1 + (W i).1 ≤ _; omega)) ⟨⟨i + 1, Nat.add (Nat.add an 1) (W i).1, catV (Nat.add an 1) (catV an av 32) (W i).2, Nat.add (Nat.add bn 1) (W i).1, catV (Nat.add bn 1) (catV bn bv 32) (W i).2⟩, [], ⟨hw, (by omega : i + 1 ≤ wn), (by show an + 1 + (W i).1 ≤ (i + 1) * 200; omega), (by show bn + 1 + (W i).1 ≤ (i + 1) * 200; omega)⟩, by dsimp only; omega, ?_, ?_⟩)))))))
            · dsimp only; rw [allOk_succ h1, wk, aF_succ h1, bF_succ h1 hg]; rfl
            · (refine abs_mk rfl rfl rfl ?_ ?_ <;> repeat' (first | exact trivial | exact rfl | exact okA rfl | exact ⟨_, rfl, rfl⟩ | refine And.intro ?_ ?_))
        · have h3 : clean (W i).2 ((W i).1 - 0) 0 = false := h3
          have hf : (cond (allOk W (wn - i) i) ((XE.ext 0 : XE), eAB (aF W (wn - i) i (an, av)).1 (aF W (wn - i) i (an, av)).2 (bF W (gapA gn G) (wn - i) i (bn, bv)).1 (bF W (gapA gn G) (wn - i) i (bn, bv)).2, hSA e wn W gn G) (.ret, eTrue, hSA e wn W gn G)) = (.ret, eTrue, hSA e wn W gn G) := by
            have : wordOk W i = false := by unfold wordOk; rw [Nat.ble_eq_true_of_le hL]; exact h3
            rw [allOk_succ h1, this]; rfl
          refine ⟨[], by (try dsimp only); rw [hf], ?_⟩
          (try dsimp only); rw [hf]
          (refine abs_mk rfl rfl rfl ?_ ?_ <;> repeat' (first | exact trivial | exact rfl | exact okA rfl | exact ⟨_, rfl, rfl⟩ | refine And.intro ?_ ?_))
    · have h1 := ltF h1
      have e0 : wn - i = 0 := by omega
      refine ⟨[], by dsimp only; rw [e0]; rfl, ?_⟩
      dsimp only; rw [e0]
      (refine abs_mk rfl rfl rfl ?_ ?_ <;> repeat' (first | exact trivial | exact rfl | exact okA rfl | exact ⟨_, rfl, rfl⟩ | refine And.intro ?_ ?_))
  · intro g i hgi
    obtain ⟨rfl, _⟩ := glA_get hgi
    decide
theorem goodCP1B {e : Nat × Nat × Nat} {wn : Nat} {W : Nat → Nat × Nat}  : X.Good (CP1B e wn W) Tryd.prog := by
  unfold CP1B lPiB
  rw [lcE2_eq]
  refine goodCP0.addE (n0 := 3) (μ := fun s : SPi => (W s.i).1 - s.k) (fuel := F) (by kernel_rfl) ?_ ?_ ?_
  · intro s _
    refine ⟨rfl, ?_, ?_, ?_⟩
    · cases clean (W s.i).2 ((W s.i).1 - s.k) s.k <;> exact Nat.le_refl _
    · repeat' (first | exact trivial | exact rfl | refine And.intro ?_ ?_)
    · repeat' (first | exact trivial | exact rfl | exact (okA (i := 0) (σ := id) rfl).1 | refine And.intro ?_ ?_)
  · rintro ⟨i, k, an, av, bn, bv⟩ hok
    obtain ⟨hi, hw, hL⟩ := hok
    have hi : i < wn := hi
    have hw : wn ≤ 60 := hw
    have hL : (W i).1 ≤ 100 := hL
    refine ⟨Eq.mpr (pi_B e wn i k an av bn bv W  _) ?_⟩
    have ek : Int.toNat (Int.ofNat k) = k := rfl
    rw [ix1, ek]
    refine bcase_t (inB_of hi) (bcase_t (in1w hi) (bcase_mk (fun h1 => ?_) (fun h1 => ?_)))
    · have h1 := ltT h1
      have bad : (Nat.beq (byteAt (W i).2 k) 10 || Nat.beq (byteAt (W i).2 k) 45) = true → (cond (clean (W i).2 ((W i).1 - k) k) ((XE.ext 2 : XE), eO .emp wn i an av bn bv, hSB e wn W) (.ret, eTrue, hSB e wn W)) = (.ret, eTrue, hSB e wn W) := fun h => by rw [clean_succ h1, h]; rfl
      refine bcase_t (inB_of hi) (bcase_t (in1w hi) (bcase_t (inB_of h1) (bcase_mk (fun h2 => ?_) (fun h2 => bcase_t (inB_of hi) (bcase_t (in1w hi) (bcase_t (inB_of h1) (bcase_mk (fun h3 => ?_) (fun h3 => ?_))))))))
      · have h2 := eqT h2
        have hf := bad (by rw [h2]; rfl)
        refine ⟨[], by (try dsimp only); rw [hf], ?_⟩
        (try dsimp only); rw [hf]
        (refine abs_mk rfl rfl rfl ?_ ?_ <;> repeat' (first | exact trivial | exact rfl | exact okA rfl | exact ⟨_, rfl, rfl⟩ | refine And.intro ?_ ?_))
      · have h3 := eqT h3
        have hf := bad (by rw [h3]; rfl)
        refine ⟨[], by (try dsimp only); rw [hf], ?_⟩
        (try dsimp only); rw [hf]
        (refine abs_mk rfl rfl rfl ?_ ?_ <;> repeat' (first | exact trivial | exact rfl | exact okA rfl | exact ⟨_, rfl, rfl⟩ | refine And.intro ?_ ?_))
      · have h2 := eqF h2
        have h3 := eqF h3
        have hc : clean (W i).2 ((W i).1 - k) k = clean (W i).2 ((W i).1 - (k + 1)) (k + 1) := by
          rw [clean_succ h1, beqD, beqD, decide_eq_false h2, decide_eq_false h3]; rfl
        refine bcase_t (inR_add (by omega)) ⟨⟨i, k + 1, an, av, bn, bv⟩, [], ⟨hi, hw, hL⟩, by dsimp only; omega, ?_, ?_⟩
        · dsimp only; rw [hc]
        · (refine abs_mk rfl rfl rfl ?_ ?_ <;> repeat' (first | exact trivial | exact rfl | exact okA rfl | exact ⟨_, rfl, rfl⟩ | refine And.intro ?_ ?_))
    · have h1 := ltF h1
      have hf : (cond (clean (W i).2 ((W i).1 - k) k) ((XE.ext 2 : XE), eO .emp wn i an av bn bv, hSB e wn W) (.ret, eTrue, hSB e wn W)) = (.ext 2, eO .emp wn i an av bn bv, hSB e wn W) := by rw [clean_end h1]; rfl
      refine ⟨[], by (try dsimp only); rw [hf], ?_⟩
      (try dsimp only); rw [hf]
      (refine abs_mk rfl rfl rfl ?_ ?_ <;> repeat' (first | exact trivial | exact rfl | exact okA rfl | exact ⟨_, rfl, rfl⟩ | refine And.intro ?_ ?_))
  · intro g i hgi
    obtain ⟨rfl, _⟩ := glA_get hgi
    decide
theorem goodCP2B {e : Nat × Nat × Nat} {wn : Nat} {W : Nat → Nat × Nat}  : X.Good (CP2B e wn W) Tryd.prog := by
  unfold CP2B lPoB
  rw [lcE2_eq]
  refine (goodCP1B (e := e) (wn := wn) (W := W)).addED (n0 := 3) (μ := fun s : SPo => wn - s.i) (fun _ => [false]) (fuel := F) (by kernel_rfl) ?_ ?_ ?_
  · intro s _
    refine ⟨rfl, ?_, ?_, ?_⟩
    · cases allOk W (wn - s.i) s.i <;> exact Nat.le_refl _
    · repeat' (first | exact trivial | exact rfl | refine And.intro ?_ ?_)
    · repeat' (first | exact trivial | exact rfl | exact (okA (i := 0) (σ := id) rfl).1 | refine And.intro ?_ ?_)
  · rintro ⟨i, an, av, bn, bv⟩ hok
    obtain ⟨hw, hi, ha, hb⟩ := hok
    have hw : wn ≤ 60 := hw
    have hi : i ≤ wn := hi
    have ha : an ≤ i * 200 := ha
    have hb : bn ≤ i * 200 := hb
    refine ⟨Eq.mpr (po_B e wn i an av bn bv W  _) ?_⟩
    rw [ix1]
    refine bcase_mk (fun h1 => ?_) (fun h1 => ?_)
    · have h1 := ltT h1
      refine bcase_t (inB_of h1) (bcase_t (in1w h1) (bcase_mk (fun h2 => ?_) (fun h2 => ?_)))
      · have h2 := ltT h2
        have hf : (cond (allOk W (wn - i) i) ((XE.ext 0 : XE), eAB (aF W (wn - i) i (an, av)).1 (aF W (wn - i) i (an, av)).2 (bF W (fun _ => 0) (wn - i) i (bn, bv)).1 (bF W (fun _ => 0) (wn - i) i (bn, bv)).2, hSB e wn W) (.ret, eTrue, hSB e wn W)) = (.ret, eTrue, hSB e wn W) := by
          have : wordOk W i = false := by unfold wordOk; rw [show Nat.ble (W i).1 100 = false by rw [bleD, decide_eq_false_iff_not]; omega]; rfl
          rw [allOk_succ h1, this]; rfl
        refine ⟨[], by (try dsimp only); rw [hf], ?_⟩
        (try dsimp only); rw [hf]
        (refine abs_mk rfl rfl rfl ?_ ?_ <;> repeat' (first | exact trivial | exact rfl | exact okA rfl | exact ⟨_, rfl, rfl⟩ | refine And.intro ?_ ?_))
      · have h2 := ltF h2
        have hL : (W i).1 ≤ 100 := by omega
        refine ⟨⟨i, 0, an, av, bn, bv⟩, ⟨h1, hw, hL⟩, by repeat' (first | exact trivial | exact rfl | refine And.intro ?_ ?_), rfl, by repeat' (first | exact trivial | exact rfl | refine And.intro ?_ ?_), ?_⟩
        dsimp only
        rw [ix1]
        refine bcase_mk (fun h3 => ?_) (fun h3 => ?_)
        · have h3 : clean (W i).2 ((W i).1 - 0) 0 = true := h3
          have wk : wordOk W i = true := by unfold wordOk; rw [Nat.ble_eq_true_of_le hL]; exact h3
          have hg : (fun _ => 0) i = 0 := rfl
          have hwr : wrapF .i64 (Int.ofNat i + Int.ofNat 1) = Int.ofNat (i + 1) := wrap_pos (by omega)
          rw [hwr]
          refine bcase_t (Nat.ble_eq_true_of_le (by show an + 1 ≤ _; omega)) (bcase_t (inB_of h1) (bcase_t (in1w h1) (bcase_t (Nat.ble_eq_true_of_le (by show an + 1 + (W i).1 ≤ _; omega)) (bcase_t (inB_of h1) (bcase_t (in1w h1) (bcase_t (Nat.ble_eq_true_of_le (by show bn + 1 ≤ _; omega)) (bcase_t (Nat.ble_eq_true_of_le (by show bn + 1 + (W i).1 ≤ _; omega)) ⟨⟨i + 1, Nat.add (Nat.add an 1) (W i).1, catV (Nat.add an 1) (catV an av 32) (W i).2, Nat.add (Nat.add bn 1) (W i).1, catV (Nat.add bn 1) (catV bn bv 32) (W i).2⟩, [], ⟨hw, (by omega : i + 1 ≤ wn), (by show an + 1 + (W i).1 ≤ (i + 1) * 200; omega), (by show bn + 1 + (W i).1 ≤ (i + 1) * 200; omega)⟩, by dsimp only; omega, ?_, ?_⟩)))))))
          · dsimp only; rw [allOk_succ h1, wk, aF_succ h1, bF_succ h1 hg]; rfl
          · (refine abs_mk rfl rfl rfl ?_ ?_ <;> repeat' (first | exact trivial | exact rfl | exact okA rfl | exact ⟨_, rfl, rfl⟩ | refine And.intro ?_ ?_))
        · have h3 : clean (W i).2 ((W i).1 - 0) 0 = false := h3
          have hf : (cond (allOk W (wn - i) i) ((XE.ext 0 : XE), eAB (aF W (wn - i) i (an, av)).1 (aF W (wn - i) i (an, av)).2 (bF W (fun _ => 0) (wn - i) i (bn, bv)).1 (bF W (fun _ => 0) (wn - i) i (bn, bv)).2, hSB e wn W) (.ret, eTrue, hSB e wn W)) = (.ret, eTrue, hSB e wn W) := by
            have : wordOk W i = false := by unfold wordOk; rw [Nat.ble_eq_true_of_le hL]; exact h3
            rw [allOk_succ h1, this]; rfl
          refine ⟨[], by (try dsimp only); rw [hf], ?_⟩
          (try dsimp only); rw [hf]
          (refine abs_mk rfl rfl rfl ?_ ?_ <;> repeat' (first | exact trivial | exact rfl | exact okA rfl | exact ⟨_, rfl, rfl⟩ | refine And.intro ?_ ?_))
    · have h1 := ltF h1
      have e0 : wn - i = 0 := by omega
      refine ⟨[], by dsimp only; rw [e0]; rfl, ?_⟩
      dsimp only; rw [e0]
      (refine abs_mk rfl rfl rfl ?_ ?_ <;> repeat' (first | exact trivial | exact rfl | exact okA rfl | exact ⟨_, rfl, rfl⟩ | refine And.intro ?_ ?_))
  · intro g i hgi
    obtain ⟨rfl, _⟩ := glA_get hgi
    decide
end
end Go.Proofs.YtoeoaiipchklbaaDoor
/- LexSpaces: the run. -/
set_option autoImplicit false
set_option linter.unusedVariables false
set_option maxRecDepth 100000
set_option maxHeartbeats 2000000
namespace Go.Proofs.YtoeoaiipchklbaaDoor
noncomputable section
open Go.X
theorem typ_same (a b : Int) : xeqT Tryd.prog 20 28 (.agg [.int .i64 a, .int .i64 b]) (.agg [.int .i64 a, .int .i64 b]) = some true := by
  have h := typ_eq a b a b (fun c => xeqT Tryd.prog 20 28 (.agg [.int .i64 a, .int .i64 b]) (.agg [.int .i64 a, .int .i64 b]) = some c)
  cases hx : xeqT Tryd.prog 20 28 (.agg [.int .i64 a, .int .i64 b]) (.agg [.int .i64 a, .int .i64 b]) with
  | none =>
    have h2 := typ_eq a b a b (fun _ => True)
    rw [hx] at h2
    exact (show False from h2.mpr trivial).elim
  | some c =>
    rw [hx] at h
    have h3 : (some c = some c) = (some c = some (eqI a a && (eqI b b && true))) := h
    have h4 := h3.mp rfl
    rw [eqII, eqII] at h4
    exact h4
theorem pay_at {n v j kd tn tv tk_ p : Nat} {N : Int} (h : ltake (ldrop (tCells n v) (Nat.mul j 6)) 6 = tok kd tn tv N tk_ p) : ∀ o, o < 6 → fPay n v (j * 6 + o) = pvOf ((tok kd tn tv N tk_ p)[o]?) := by
  intro o ho
  unfold fPay
  rw [lget_eq, ← h, ltake_eq, ldrop_eq]
  show pvOf _ = pvOf ((((tCells n v).drop (j * 6)).take 6)[o]?)
  rw [List.getElem?_take, if_pos ho, List.getElem?_drop]
theorem goodPc {C : Cfg} (G : X.Good C Tryd.prog) (hgl : C.gl = glA) (hr : ∀ n1 v1 n2 v2 i e (K : KE), xcode C Tryd.prog F 5 (loopC Tryd.prog 5 27) (C.mask 5) (tmpsN Tryd.prog 5) (ePc (tCount n1 v1) i) (hPc n1 v1 n2 v2 e) [] K = xcode CP0 Tryd.prog F 5 (loopC Tryd.prog 5 27) (CP0.mask 5) (tmpsN Tryd.prog 5) (ePc (tCount n1 v1) i) (hPc n1 v1 n2 v2 e) [] K) : X.Good (C.addLc 5 27 lPc) Tryd.prog := by
  refine G.addE (n0 := 5) (μ := fun s : SPc => tCount s.n1 s.v1 - s.i) (fuel := F) (by kernel_rfl) ?_ ?_ ?_
  · intro s _
    refine ⟨rfl, Nat.le_refl _, ?_, ?_⟩
    · repeat' (first | exact trivial | exact rfl | refine And.intro ?_ ?_)
    · repeat' (first | exact trivial | exact rfl | exact (okA (i := 0) (σ := id) rfl).1 | refine And.intro ?_ ?_)
  · rintro ⟨n1, v1, n2, v2, i, e⟩ hok
    obtain ⟨hc, hp⟩ := hok
    have hc : tCount n1 v1 ≤ 20001 := hc
    have hp : Pay (tCells n1 v1) (tCells n2 v2) (tCount n1 v1) := hp
    refine ⟨Eq.mpr ((hr n1 v1 n2 v2 i e _).trans (pc_body n1 v1 n2 v2 i e _)) ?_⟩
    have ei : Nat.add 0 (Nat.mul (Int.toNat (Int.ofNat i)) 6) = i * 6 := by show 0 + i * 6 = i * 6; omega
    rw [ei]
    refine bcase_mk (fun h1 => ?_) (fun h1 => ?_)
    · have h1 := ltT h1
      obtain ⟨kd, tn, tv, N, tk_, p, q, c1, c2⟩ := hp.e i h1
      have F1 := pay_at c1
      have F2 := pay_at c2
      have a0 : fPay n1 v1 (Nat.add (i * 6) 0) = .int .i64 (.ofNat kd) := F1 0 (by decide)
      have b0 : fPay n2 v2 (Nat.add (i * 6) 0) = .int .i64 (.ofNat kd) := F2 0 (by decide)
      have a1 : fPay n1 v1 (Nat.add (i * 6) 1) = .str tn tv := F1 1 (by decide)
      have b1 : fPay n2 v2 (Nat.add (i * 6) 1) = .str tn tv := F2 1 (by decide)
      have a2 : fPay n1 v1 (Nat.add (i * 6) 2) = .int .i64 N := F1 2 (by decide)
      have b2 : fPay n2 v2 (Nat.add (i * 6) 2) = .int .i64 N := F2 2 (by decide)
      have a3 : fPay n1 v1 (Nat.add (i * 6) 3) = .int .i64 (.ofNat tk_) := F1 3 (by decide)
      have b3 : fPay n2 v2 (Nat.add (i * 6) 3) = .int .i64 (.ofNat tk_) := F2 3 (by decide)
      have a4 : fPay n1 v1 (Nat.succ (Nat.add (i * 6) 3)) = .int .i64 (.ofNat 0) := F1 4 (by decide)
      have b4 : fPay n2 v2 (Nat.succ (Nat.add (i * 6) 3)) = .int .i64 (.ofNat 0) := F2 4 (by decide)
      rw [a0, b0, a1, b1, a2, b2, a3, b3, a4, b4]
      have n0 : Nat.ble (Nat.succ (Nat.add (i * 6) 0)) (Nat.mul (tCount n1 v1) 6) = true := Nat.ble_eq_true_of_le (by show i * 6 + 0 + 1 ≤ tCount n1 v1 * 6; omega)
      have n1' : Nat.ble (Nat.succ (Nat.add (i * 6) 1)) (Nat.mul (tCount n1 v1) 6) = true := Nat.ble_eq_true_of_le (by show i * 6 + 1 + 1 ≤ tCount n1 v1 * 6; omega)
      have n2' : Nat.ble (Nat.succ (Nat.add (i * 6) 2)) (Nat.mul (tCount n1 v1) 6) = true := Nat.ble_eq_true_of_le (by show i * 6 + 2 + 1 ≤ tCount n1 v1 * 6; omega)
      have n3 : Nat.ble (Nat.add (Nat.add (i * 6) 3) 2) (Nat.mul (tCount n1 v1) 6) = true := Nat.ble_eq_true_of_le (by show i * 6 + 3 + 2 ≤ tCount n1 v1 * 6; omega)
      rw [n0, n1', n2', n3]
      have hb := inB_of h1
      refine bcase_t hb (bcase_t rfl (bcase_t hb (bcase_t rfl (bcase_mk (fun _ => ?_) (fun h => ?_)))))
      · refine bcase_t hb (bcase_t rfl (bcase_t hb (bcase_t rfl (bcase_mk (fun _ => ?_) (fun h => ?_)))))
        · refine bcase_t hb (bcase_t rfl (bcase_t hb (bcase_t rfl (bcase_mk (fun _ => ?_) (fun h => ?_)))))
          · refine bcase_t hb (bcase_t rfl (bcase_t hb (bcase_t rfl (ocase_yes (typ_same _ _) (bcase_mk (fun _ => ?_) (fun h => by cases h))))))
            refine bcase_t (inR_add (by omega)) ⟨⟨n1, v1, n2, v2, i + 1, e⟩, [], ⟨hc, hp⟩, by dsimp only; omega, rfl, ?_⟩
            (refine abs_mk rfl rfl rfl ?_ ?_ <;> repeat' (first | exact trivial | exact rfl | exact okA rfl | exact ⟨_, rfl, rfl⟩ | refine And.intro ?_ ?_))
          · have := eqII N; cases this.symm.trans h
        · have h : (Nat.beq tn tn && Nat.beq tv tv) = false := h
          rw [Nat.beq_refl, Nat.beq_refl] at h; cases h
      · have := eqIs kd; cases this.symm.trans h
    · refine ⟨[], rfl, ?_⟩
      (refine abs_mk rfl rfl rfl ?_ ?_ <;> repeat' (first | exact trivial | exact rfl | exact okA rfl | exact ⟨_, rfl, rfl⟩ | refine And.intro ?_ ?_))
  · intro g i hgi
    rw [hgl] at hgi
    obtain ⟨rfl, _⟩ := glA_get hgi
    decide
theorem goodCP3A (e : Nat × Nat × Nat) (wn : Nat) (W : Nat → Nat × Nat) (gn : Nat) (G : Nat → Int) : X.Good (CP3A e wn W gn G) Tryd.prog := by
  refine goodCP2A.addPick (by kernel_rfl) fun env h => ?_
  unfold pickPA
  split
  · exact (goodPc goodCP2A rfl fun n1 v1 n2 v2 i e2 K => (pc_A n1 v1 n2 v2 i e2 e wn W gn G K).trans (pc_body n1 v1 n2 v2 i e2 K).symm).lc (by kernel_rfl)
  · exact once_lc goodCP2A F 5 27
theorem goodCP3B (e : Nat × Nat × Nat) (wn : Nat) (W : Nat → Nat × Nat)  : X.Good (CP3B e wn W ) Tryd.prog := by
  refine goodCP2B.addPick (by kernel_rfl) fun env h => ?_
  unfold pickPB
  split
  · exact (goodPc goodCP2B rfl fun n1 v1 n2 v2 i e2 K => (pc_B n1 v1 n2 v2 i e2 e wn W  K).trans (pc_body n1 v1 n2 v2 i e2 K).symm).lc (by kernel_rfl)
  · exact once_lc goodCP2B F 5 27
/-! The texts -/
theorem clean_get {v : Nat} : ∀ {f k : Nat}, clean v f k = true → ∀ j, k ≤ j → j < k + f → byteAt v j ≠ 10 ∧ byteAt v j ≠ 45
  | 0, k, _, j, h1, h2 => by omega
  | f + 1, k, h, j, h1, h2 => by
    rw [clean] at h
    cases hb : (Nat.beq (byteAt v k) 10 || Nat.beq (byteAt v k) 45) with
    | true => rw [hb] at h; cases h
    | false =>
      rw [hb] at h
      rw [Bool.or_eq_false_iff, beqD, beqD, decide_eq_false_iff_not, decide_eq_false_iff_not] at hb
      by_cases e : j = k
      · rw [e]; exact hb
      · exact clean_get (f := f) (k := k + 1) h j (by omega) (by omega)
def wordL (W : Nat → Nat × Nat) (g : Nat → Nat) : Nat → Nat → List (Nat × Nat × Nat)
  | 0, _ => []
  | f + 1, i => (g i, (W i).1, (W i).2) :: wordL W g f (i + 1)
theorem wordL_same (W : Nat → Nat × Nat) (g h : Nat → Nat) : ∀ (f i : Nat), (wordL W g f i).map (fun x => x.2) = (wordL W h f i).map (fun x => x.2)
  | 0, _ => rfl
  | f + 1, i => by rw [wordL, wordL, List.map_cons, List.map_cons, wordL_same W g h f]
theorem gapV_lt {g : Nat} (hg : g < 4) : gapV g < 256 ^ gapL g := by
  match g, hg with
  | 0, _ => decide
  | 1, _ => decide
  | 2, _ => decide
  | 3, _ => decide
  | k + 4, h => omega
theorem gapL_le {g : Nat} : gapL g ≤ 9 := by
  unfold gapL
  cases Nat.beq g 2 <;> cases Nat.beq g 3 <;> decide
theorem aF_bF (W : Nat → Nat × Nat) : ∀ (f i : Nat) (s : Nat × Nat), aF W f i s = bF W (fun _ => 0) f i s
  | 0, _, _ => rfl
  | f + 1, i, s => by rw [aF, bF, aF_bF W f]; rfl
structure Built (N V n v : Nat) (r : List (Nat × Nat × Nat)) : Prop where
  lt : V < 256 ^ N
  pre : ∀ j, j < n → byteAt V j = byteAt v j
  text : Text N V n r
theorem built {W : Nat → Nat × Nat} {g : Nat → Nat} (hW : ∀ i, (W i).2 < 256 ^ (W i).1) (hg : ∀ i, g i < 4) : ∀ (f i n v : Nat), v < 256 ^ n → allOk W f i = true →
    Built (bF W g f i (n, v)).1 (bF W g f i (n, v)).2 n v (wordL W g f i) ∧ (bF W g f i (n, v)).1 ≤ n + f * 109
  | 0, i, n, v, hv, _ => ⟨⟨hv, fun _ _ => rfl, .nil⟩, by show n ≤ _; omega⟩
  | f + 1, i, n, v, hv, ha => by
    rw [allOk] at ha
    cases hw : wordOk W i with
    | false => rw [hw] at ha; cases ha
    | true =>
      rw [hw] at ha
      have ha : allOk W f (i + 1) = true := ha
      unfold wordOk at hw
      rw [Bool.and_eq_true] at hw
      obtain ⟨w1, w2⟩ := hw
      have w1 := bleT w1
      have cl := clean_get w2
      have h1 : catV n v (gapV (g i)) < 256 ^ (n + gapL (g i)) := catV_lt hv (gapV_lt (hg i))
      have h2 : catV (n + gapL (g i)) (catV n v (gapV (g i))) (W i).2 < 256 ^ (n + gapL (g i) + (W i).1) := catV_lt h1 (hW i)
      obtain ⟨⟨q1, q2, q3⟩, q4⟩ := built hW hg f (i + 1) (n + gapL (g i) + (W i).1) (catV (n + gapL (g i)) (catV n v (gapV (g i))) (W i).2) h2 ha
      have gl := gapL_le (g := g i)
      rw [bF, wordL]
      refine ⟨⟨q1, fun j hj => ?_, .cons n (g i) (W i).1 (W i).2 _ (hg i) (fun j hj => ?_) (fun j hj => ?_) (fun j hj => (cl j (Nat.zero_le _) (by omega)).2) q3⟩, ?_⟩
      · exact (q2 j (by omega)).trans ((byteAt_cat_lo (by omega)).trans (byteAt_cat_lo hj))
      · refine (q2 (n + j) (by omega)).trans ((byteAt_cat_lo (by omega)).trans ?_)
        rw [byteAt_cat_hi hv (Nat.le_add_right _ _), Nat.add_sub_cancel_left]
      · refine (q2 (n + gapL (g i) + j) (by omega)).trans ?_
        rw [byteAt_cat_hi h1 (Nat.le_add_right _ _), Nat.add_sub_cancel_left]
      · show _ ≤ n + (f + 1) * 109
        have : (bF W g f (i + 1) (n + gapL (g i) + (W i).1, catV (n + gapL (g i)) (catV n v (gapV (g i))) (W i).2)).1 ≤ n + gapL (g i) + (W i).1 + f * 109 := q4
        show (bF W g f (i + 1) (n + gapL (g i) + (W i).1, catV (n + gapL (g i)) (catV n v (gapV (g i))) (W i).2)).1 ≤ _
        omega
theorem spaces_alike {W : Nat → Nat × Nat} {g : Nat → Nat} {wn : Nat} (hW : ∀ i, (W i).2 < 256 ^ (W i).1) (hg : ∀ i, g i < 4) (hn : wn ≤ 60) (ha : allOk W (wn - 0) 0 = true) :
    (aF W (wn - 0) 0 (0, 0)).1 ≤ 65536 ∧ (bF W g (wn - 0) 0 (0, 0)).1 ≤ 65536 ∧
    Alike (toks (aF W (wn - 0) 0 (0, 0)).1 (aF W (wn - 0) 0 (0, 0)).2 0 [] 0) (toks (bF W g (wn - 0) 0 (0, 0)).1 (bF W g (wn - 0) 0 (0, 0)).2 0 [] 0) := by
  rw [Nat.sub_zero] at ha ⊢
  obtain ⟨⟨a1, a2, a3⟩, a4⟩ := built hW (g := fun _ => 0) (fun _ => by decide) wn 0 0 0 (by decide) ha
  obtain ⟨⟨b1, b2, b3⟩, b4⟩ := built hW hg wn 0 0 0 (by decide) ha
  rw [← aF_bF] at a1 a3 a4
  refine ⟨by omega, by omega, ?_⟩
  exact words_alike _ (wordL W (fun _ => 0) wn 0) (wordL W g wn 0) 0 0 0 0 0 0 [] [] rfl (Nat.le_refl _) (wordL_same W _ _ wn 0) ⟨a3.trm, fun j hj => by omega, fun j hj => by omega⟩ ⟨b3.trm, fun j hj => by omega, fun j hj => by omega⟩ a3 b3 (Nat.zero_le _) ⟨rfl, rfl, fun j hj => by omega⟩
theorem tOk_small {n v : Nat} (h : n ≤ 65536) : tOk n v = (toks n v 0 [] 0).ok ∧ tCode n v = (toks n v 0 [] 0).code := by
  unfold tOk tCode; rw [Nat.ble_eq_true_of_le h]; exact ⟨rfl, rfl⟩
theorem gapA_lt (gn : Nat) (G : Nat → Int) (i : Nat) : gapA gn G i < 4 := by
  unfold gapA
  cases Nat.ble (Nat.succ i) gn with
  | true => show (G i % 4).toNat < 4; omega
  | false => show 0 < 4; decide
theorem spaces_A (e : Nat × Nat × Nat) (wn : Nat) (W : Nat → Nat × Nat) (gn : Nat) (G : Nat → Int) (hW : ∀ i, (W i).2 < 256 ^ (W i).1) : Ran (xfun (CP3A e wn W gn G) Tryd.prog (xcode (CP3A e wn W gn G) Tryd.prog F) 5 [.slc 1 0 wn wn false 1, (.slc 2 0 gn gn false 1)] (hSA e wn W gn G) [] (fun u _ _ => u = .bool true)) := by
  have h := pp_A e wn W gn G (fun u => u = .bool true)
  refine ⟨?_⟩
  rw [h]; clear h
  refine bcase_mk (fun _ => rfl) fun h0 => ?_
  have h0 : wn ≤ 60 := by have := ltF h0; omega
  refine ⟨⟨0, 0, 0, 0, 0⟩, ⟨h0, Nat.zero_le _, Nat.zero_le _, Nat.zero_le _⟩, by repeat' (first | exact trivial | exact rfl | refine And.intro ?_ ?_), rfl, by repeat' (first | exact trivial | exact rfl | refine And.intro ?_ ?_), ?_⟩
  dsimp only
  refine bcase_mk (fun hA => ?_) (fun _ => rfl)
  obtain ⟨s1, s2, q1, q2, q3⟩ := spaces_alike (g := (gapA gn G)) hW (gapA_lt gn G) h0 hA
  generalize aF W (wn - 0) 0 (0, 0) = x at *
  generalize bF W (gapA gn G) (wn - 0) 0 (0, 0) = y at *
  obtain ⟨n1, v1⟩ := x
  obtain ⟨n2, v2⟩ := y
  have s1 : n1 ≤ 65536 := s1
  have s2 : n2 ≤ 65536 := s2
  obtain ⟨o1, c1⟩ := tOk_small (v := v1) s1
  obtain ⟨o2, c2⟩ := tOk_small (v := v2) s2
  have q1 : tOk n1 v1 = tOk n2 v2 := o1.trans (q1.trans o2.symm)
  refine bcase_mk (fun g1 => ?_) (fun g1 => ?_)
  · have g1 : tOk n1 v1 = true := g1
    obtain ⟨p1, p2, p3⟩ := q2 (o1.symm.trans g1)
    have p1 : tCount n1 v1 = tCount n2 v2 := p1
    have p2 : tCount n1 v1 ≤ 20001 := p2
    have p3 : Pay (tCells n1 v1) (tCells n2 v2) (tCount n1 v1) := p3
    refine bcase_mk (fun g2 => ?_) (fun g2 => by have g2 : tOk n2 v2 = false := g2; rw [← q1, g1] at g2; cases g2)
    refine bcase_mk (fun _ => ?_) (fun h => by have h : eqI (Int.ofNat (tCount n1 v1)) (Int.ofNat (tCount n2 v2)) = false := h; rw [← p1] at h; have := eqIs (tCount n1 v1); cases this.symm.trans h)
    refine ⟨⟨n1, v1, n2, v2, 0, e.1⟩, ⟨p2, p3⟩, ?_, rfl, ?_, ?_⟩
    · dsimp only
      try rw [p1]
      repeat' (first | exact trivial | exact rfl | refine And.intro ?_ ?_)
    · dsimp only
      try rw [p1]
      repeat' (first | exact trivial | exact rfl | refine And.intro ?_ ?_)
    · exact rfl
  · have g1 : tOk n1 v1 = false := g1
    have p1 : tCode n1 v1 = tCode n2 v2 := by rw [c1, c2]; exact q3 (o1.symm.trans g1)
    refine bcase_mk (fun g2 => by have g2 : tOk n2 v2 = true := g2; rw [← q1, g1] at g2; cases g2) (fun g2 => ?_)
    refine bcase_mk (fun _ => rfl) (fun h => by have h : eqI (Int.ofNat (tCode n1 v1)) (Int.ofNat (tCode n2 v2)) = false := h; rw [← p1] at h; have := eqIs (tCode n1 v1); cases this.symm.trans h)
theorem spaces_0x (e : TypeId) (g : AV) : Ran (xfun CP0 Tryd.prog (xcode CP0 Tryd.prog F) 5 [.emp, g] (hA e) [] (fun u _ _ => u = .bool true)) :=
  ⟨Eq.mpr (pp_0 e g _) rfl⟩
theorem spaces_B (e : Nat × Nat × Nat) (wn : Nat) (W : Nat → Nat × Nat)  (hW : ∀ i, (W i).2 < 256 ^ (W i).1) : Ran (xfun (CP3B e wn W ) Tryd.prog (xcode (CP3B e wn W ) Tryd.prog F) 5 [.slc 1 0 wn wn false 1, .emp] (hSB e wn W ) [] (fun u _ _ => u = .bool true)) := by
  have h := pp_B e wn W  (fun u => u = .bool true)
  refine ⟨?_⟩
  rw [h]; clear h
  refine bcase_mk (fun _ => rfl) fun h0 => ?_
  have h0 : wn ≤ 60 := by have := ltF h0; omega
  refine ⟨⟨0, 0, 0, 0, 0⟩, ⟨h0, Nat.zero_le _, Nat.zero_le _, Nat.zero_le _⟩, by repeat' (first | exact trivial | exact rfl | refine And.intro ?_ ?_), rfl, by repeat' (first | exact trivial | exact rfl | refine And.intro ?_ ?_), ?_⟩
  dsimp only
  refine bcase_mk (fun hA => ?_) (fun _ => rfl)
  obtain ⟨s1, s2, q1, q2, q3⟩ := spaces_alike (g := (fun _ => 0)) hW (fun _ => by decide) h0 hA
  generalize aF W (wn - 0) 0 (0, 0) = x at *
  generalize bF W (fun _ => 0) (wn - 0) 0 (0, 0) = y at *
  obtain ⟨n1, v1⟩ := x
  obtain ⟨n2, v2⟩ := y
  have s1 : n1 ≤ 65536 := s1
  have s2 : n2 ≤ 65536 := s2
  obtain ⟨o1, c1⟩ := tOk_small (v := v1) s1
  obtain ⟨o2, c2⟩ := tOk_small (v := v2) s2
  have q1 : tOk n1 v1 = tOk n2 v2 := o1.trans (q1.trans o2.symm)
  refine bcase_mk (fun g1 => ?_) (fun g1 => ?_)
  · have g1 : tOk n1 v1 = true := g1
    obtain ⟨p1, p2, p3⟩ := q2 (o1.symm.trans g1)
    have p1 : tCount n1 v1 = tCount n2 v2 := p1
    have p2 : tCount n1 v1 ≤ 20001 := p2
    have p3 : Pay (tCells n1 v1) (tCells n2 v2) (tCount n1 v1) := p3
    refine bcase_mk (fun g2 => ?_) (fun g2 => by have g2 : tOk n2 v2 = false := g2; rw [← q1, g1] at g2; cases g2)
    refine bcase_mk (fun _ => ?_) (fun h => by have h : eqI (Int.ofNat (tCount n1 v1)) (Int.ofNat (tCount n2 v2)) = false := h; rw [← p1] at h; have := eqIs (tCount n1 v1); cases this.symm.trans h)
    refine ⟨⟨n1, v1, n2, v2, 0, e.1⟩, ⟨p2, p3⟩, ?_, rfl, ?_, ?_⟩
    · dsimp only
      try rw [p1]
      repeat' (first | exact trivial | exact rfl | refine And.intro ?_ ?_)
    · dsimp only
      try rw [p1]
      repeat' (first | exact trivial | exact rfl | refine And.intro ?_ ?_)
    · exact rfl
  · have g1 : tOk n1 v1 = false := g1
    have p1 : tCode n1 v1 = tCode n2 v2 := by rw [c1, c2]; exact q3 (o1.symm.trans g1)
    refine bcase_mk (fun g2 => by have g2 : tOk n2 v2 = true := g2; rw [← q1, g1] at g2; cases g2) (fun g2 => ?_)
    refine bcase_mk (fun _ => rfl) (fun h => by have h : eqI (Int.ofNat (tCode n1 v1)) (Int.ofNat (tCode n2 v2)) = false := h; rw [← p1] at h; have := eqIs (tCode n1 v1); cases this.symm.trans h)
theorem spaces_0 (e : TypeId) (g : AV) : Ran (xfun CP0 Tryd.prog (xcode CP0 Tryd.prog F) 5 [.emp, g] (hA e) [] (fun u _ _ => u = .bool true)) :=
  ⟨Eq.mpr (pp_0 e g _) rfl⟩
end
end Go.Proofs.YtoeoaiipchklbaaDoor

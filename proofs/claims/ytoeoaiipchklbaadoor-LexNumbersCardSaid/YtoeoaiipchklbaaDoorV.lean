/- The law's own fill: definitions. -/
import Derived.Test.YtoeoaiipchklbaaDoorL5
set_option linter.unusedVariables false
set_option autoImplicit false
set_option linter.unusedVariables false
set_option maxRecDepth 100000
namespace Go.Proofs.YtoeoaiipchklbaaDoor
noncomputable section
open Go.X
def u8 (c : Nat) : AV := .int .u8 (.ofNat c)
def i6 (n : Nat) : AV := .int .i64 (.ofNat n)
def reps (n c : Nat) : List AV := List.replicate n (u8 c)
def fillC (i n c : Nat) : List AV := reps i c ++ reps (n - i) 0
structure SF where
  i : Nat
  n : Nat
  c : Nat
structure SF0 where
  n : Nat
  c : Nat
def eV (i n c : Nat) : Env := T.set (T.set (T.set (T.set T.leaf (i6 n) 0) (u8 c) 1) (.slc 0 0 n n true 1) 5) (i6 i) 6
def hV (cells : List AV) : H := ⟨T.set T.leaf (.row cells 5 true []) 0, 1⟩
def eVO (n : Nat) : Env := T.set T.leaf (.slc 0 0 n n true 1) 5
def lV : LCon := lcE (fun s : SF0 => s.n ≤ 100000000 ∧ s.c ≤ 255) (fun s => eV 0 s.n s.c) (fun s => hV (lrep s.n [u8 0])) (fun s => (.ext 0, eVO s.n, hV (reps s.n s.c)))
def CV : Cfg := C0.addLc 17 4 lV
end
end Go.Proofs.YtoeoaiipchklbaaDoor
set_option autoImplicit false
set_option maxRecDepth 1000000
namespace Go.Proofs.YtoeoaiipchklbaaDoor
noncomputable section
open Go.X
theorem fill_body (i n c : Nat) (cells : List AV) (K : KE) : xcode C0 Tryd.prog F 17 (loopC Tryd.prog 17 4) (C0.mask 17) (tmpsN Tryd.prog 17) (eV i n c) (hV cells) [] K = (bcase (ltI (Int.ofNat i) (Int.ofNat n)) (bcase (inB (Int.ofNat i) n) (bcase (Nat.ble (Nat.add (Nat.add 0 (Nat.mul (Int.toNat (Int.ofNat i)) 1)) (llen [AV.int Go.IntKind.u8 (Int.ofNat c)])) (llen cells)) (bcase (inR Go.IntKind.i64 (Int.ofNat i + Int.ofNat 1)) (K XE.nrm (T.node (T.node T.leaf Option.none (T.node T.leaf Option.none (T.node T.leaf (Option.some (AV.int Go.IntKind.i64 (Int.ofNat i + Int.ofNat 1))) T.leaf))) (Option.some (AV.int Go.IntKind.i64 (Int.ofNat n))) (T.node (T.node T.leaf Option.none (T.node T.leaf (Option.some (AV.slc 0 0 n n true 1)) T.leaf)) (Option.some (AV.int Go.IntKind.u8 (Int.ofNat c))) (T.node (T.node T.leaf Option.none (T.node T.leaf (Option.some (AV.bool true)) T.leaf)) Option.none T.leaf))) (H.mk (T.node T.leaf (Option.some (Blk.row (lput cells [AV.int Go.IntKind.u8 (Int.ofNat c)] (Nat.add 0 (Nat.mul (Int.toNat (Int.ofNat i)) 1))) 5 true [])) T.leaf) 1) []) False) False) False) (K (XE.ext 0) (T.node (T.node T.leaf Option.none (T.node T.leaf Option.none (T.node T.leaf (Option.some (AV.int Go.IntKind.i64 (Int.ofNat i))) T.leaf))) (Option.some (AV.int Go.IntKind.i64 (Int.ofNat n))) (T.node (T.node T.leaf Option.none (T.node T.leaf (Option.some (AV.slc 0 0 n n true 1)) T.leaf)) (Option.some (AV.int Go.IntKind.u8 (Int.ofNat c))) (T.node (T.node T.leaf Option.none (T.node T.leaf (Option.some (AV.bool false)) T.leaf)) Option.none T.leaf))) (H.mk (T.node T.leaf (Option.some (Blk.row cells 5 true [])) T.leaf) 1) [])) := by kernel_rfl
theorem fill_res (n c : Nat) (K : KV) : xfun CV Tryd.prog (xcode CV Tryd.prog F) 17 [i6 n, u8 c] hNil [] K = (bcase (Nat.ble n n && (Nat.ble n 9223372036854775807 && (Nat.ble (Nat.mul 1 n) 281474976710656 && true))) (∃ s, (Nat.le (SF0.n s) 100000000 ∧ Nat.le (SF0.c s) 255) ∧ (Option.some (AV.int Go.IntKind.i64 (Int.ofNat n)) = Option.some (AV.int Go.IntKind.i64 (Int.ofNat s.1)) ∧ (True ∧ True ∧ Option.some (AV.int Go.IntKind.i64 (Int.ofNat 0)) = Option.some (AV.int Go.IntKind.i64 (Int.ofNat 0)) ∧ True ∧ True) ∧ Option.some (AV.int Go.IntKind.u8 (Int.ofNat c)) = Option.some (AV.int Go.IntKind.u8 (Int.ofNat s.2)) ∧ (True ∧ Option.some (AV.slc 0 0 n n true 1) = Option.some (AV.slc 0 0 s.1 s.1 true 1) ∧ True ∧ True) ∧ True) ∧ 1 = 1 ∧ (Option.some (Blk.row (lrep n [AV.int Go.IntKind.u8 (Int.ofNat 0)]) 5 true []) = Option.some (Blk.row (lrep s.1 [AV.int Go.IntKind.u8 (Int.ofNat 0)]) 5 true []) ∧ True ∧ True) ∧ K (AV.slc 0 0 s.1 s.1 true 1) (H.mk (T.node T.leaf (Option.some (Blk.row (reps s.1 s.2) 5 true [])) T.leaf) 1) []) False) := by kernel_rfl
end
end Go.Proofs.YtoeoaiipchklbaaDoor
/- The law's own fill: a row of one byte. -/
set_option autoImplicit false
set_option linter.unusedVariables false
set_option maxRecDepth 1000000
set_option maxHeartbeats 1000000
namespace Go.Proofs.YtoeoaiipchklbaaDoor
noncomputable section
open Go.X
theorem lrep_reps (n c : Nat) : lrep n [u8 c] = reps n c := by
  induction n with
  | zero => rfl
  | succ n ih =>
    show lapp [u8 c] (lrep n [u8 c]) = _
    rw [ih]; rfl
theorem reps_bel (n c : Nat) : belL 0 (reps n c) = true := by
  induction n with
  | zero => rfl
  | succ n ih => exact ih
theorem fillC_len {i n c : Nat} (h : i ≤ n) : (fillC i n c).length = n := by
  unfold fillC reps; rw [List.length_append, List.length_replicate, List.length_replicate]; omega
theorem fillC_bel (i n c : Nat) : belL 0 (fillC i n c) = true := by
  have : fillC i n c = lapp (reps i c) (reps (n - i) 0) := by rw [lapp_eq]; rfl
  rw [this]; exact belL_app (reps_bel _ _) (reps_bel _ _)
theorem fillC_put {i n c : Nat} (h : i < n) : lput (fillC i n c) [u8 c] i = fillC (i + 1) n c := by
  have hl : (reps i c).length = i := List.length_replicate
  have h2 : n - i = (n - (i + 1)) + 1 := by omega
  unfold lput
  rw [lapp_eq, lapp_eq, ltake_eq, ldrop_eq, llen_eq]
  unfold fillC
  rw [h2, List.take_append_of_le_length (by omega), List.take_of_length_le (by omega)]
  have h3 : (reps i c ++ reps (n - (i + 1) + 1) 0).drop (Nat.add i [u8 c].length) = reps (n - (i + 1)) 0 := by
    show (reps i c ++ (u8 0 :: reps (n - (i + 1)) 0)).drop (i + 1) = _
    rw [List.drop_append, hl, List.drop_of_length_le (by omega)]
    simp
  rw [h3]
  have h4 : reps (i + 1) c = reps i c ++ [u8 c] := List.replicate_succ'
  rw [h4, List.append_assoc]
theorem goodCV : X.Good CV Tryd.prog := by
  unfold CV lV
  refine goodC0.addI (n0 := 1) (S := SF) (fun s : SF0 => SF.mk 0 s.n s.c) (ok := fun s => s.i ≤ s.n ∧ s.n ≤ 100000000 ∧ s.c ≤ 255) (E := fun s => eV s.i s.n s.c) (Hs := fun s => hV (fillC s.i s.n s.c)) (μ := fun s => s.n - s.i) (fin := fun s => (.ext 0, eVO s.n, hV (reps s.n s.c))) (fuel := F) (by kernel_rfl) ?_ ?_ ?_
  · rintro ⟨n, c⟩ ⟨h, hc⟩
    refine ⟨⟨Nat.zero_le _, h, hc⟩, rfl, ?_, rfl, rfl, Nat.le_refl _, ?_, ?_⟩
    · show hV (fillC 0 n c) = hV (lrep n [u8 0])
      rw [lrep_reps]; rfl
    · repeat' (first | exact trivial | exact rfl | refine And.intro ?_ ?_)
    · refine ⟨?_, trivial, trivial⟩
      show belL 1 (lrep n [u8 0]) = true
      rw [lrep_reps]; exact belL_mono (Nat.zero_le _) _ (reps_bel _ _)
  · rintro ⟨i, n, c⟩ ⟨h1, h2, h3⟩
    have h1 : i ≤ n := h1
    have h2 : n ≤ 100000000 := h2
    refine ⟨Eq.mpr (fill_body i n c (fillC i n c) _) ?_⟩
    refine bcase_mk (fun q => ?_) (fun q => ?_)
    · have q := ltT q
      have ej : Nat.add 0 (Nat.mul (Int.toNat (Int.ofNat i)) 1) = i := by show 0 + i * 1 = i; omega
      refine bcase_t (inB_of q) (bcase_t ?_ (bcase_t (inR_add (by omega)) ?_))
      · have hll : llen (fillC i n c) = n := by rw [llen_eq]; exact fillC_len h1
        rw [ej, hll]; exact Nat.ble_eq_true_of_le (by show i + 1 ≤ n; omega)
      · rw [ej]
        have hp := fillC_put (c := c) q
        refine ⟨⟨i + 1, n, c⟩, [], ⟨q, h2, h3⟩, by dsimp only; omega, rfl, ?_⟩
        refine abs_mk rfl rfl rfl ?_ ?_ <;> repeat' (first | exact trivial | exact rfl | exact okR (fillC_bel _ _ _) (congrArg (fun c => some (Blk.row c 5 true [])) hp) rfl | exact ⟨_, rfl, rfl⟩ | refine And.intro ?_ ?_)
    · have q := ltF q
      have e : i = n := by omega
      subst e
      have hr : fillC i i c = reps i c := by unfold fillC; rw [Nat.sub_self]; show reps i c ++ [] = _; rw [List.append_nil]
      rw [hr]
      refine ⟨[], rfl, ?_⟩
      refine abs_mk rfl rfl rfl ?_ ?_ <;> repeat' (first | exact trivial | exact rfl | exact okR (reps_bel _ _) rfl rfl | exact ⟨_, rfl, rfl⟩ | refine And.intro ?_ ?_)
  · intro g i h; cases h
theorem fill_run {n c : Nat} (hn : n ≤ 100000000) (hc : c ≤ 255) : Ran (xfun CV Tryd.prog (xcode CV Tryd.prog F) 17 [i6 n, u8 c] hNil [] (fun v h' _ => v = .slc 0 0 n n true 1 ∧ h'.b.get 0 = some (.row (reps n c) 5 true []))) := by
  refine ⟨Eq.mpr (fill_res n c _) ?_⟩
  refine bcase_t ?_ ?_
  · rw [Nat.ble_eq_true_of_le (Nat.le_refl n), Nat.ble_eq_true_of_le (show n ≤ 9223372036854775807 by omega), Nat.ble_eq_true_of_le (show Nat.mul 1 n ≤ 281474976710656 by show 1 * n ≤ _; omega)]; rfl
  · refine ⟨⟨n, c⟩, ⟨hn, hc⟩, by repeat' (first | exact trivial | exact rfl | refine And.intro ?_ ?_), rfl, by repeat' (first | exact trivial | exact rfl | refine And.intro ?_ ?_), rfl, rfl⟩
def fFill (args : List AV) (h : H) : Option (Bool × AV × H) := match args with
  | [.int .i64 z, .int .u8 y] => match z, y with
    | .ofNat n, .ofNat c => some (Bool.and (Nat.ble n 100000000) (Nat.ble c 255), .slc h.next 0 n n true 1, hnew h (.row (reps n c) 5 true []))
    | _, _ => none
  | _ => none
theorem fill_ok {gl : Glob} (args : List AV) (h : H) (v : AV) (h' : H) (ds : List Bool) (K : KV) (hf : fFill args h = some (true, v, h')) (hK : K v h' ds) : CallOK Tryd.prog gl 17 args h K := by
  unfold fFill at hf
  split at hf <;> try (cases hf; done)
  split at hf <;> try (cases hf; done)
  rename_i n c
  simp only [Option.some.injEq, Prod.mk.injEq] at hf
  obtain ⟨hc, rfl, rfl⟩ := hf
  obtain ⟨c1, c2⟩ := and_tt hc
  have c1 := bleT c1
  have c2 := bleT c2
  have up0 : up id 0 h.next 0 = h.next := by rw [up_new (Nat.le_refl _)]; simp
  have hr : ∀ ρ : Nat → Nat, renB ρ (.row (reps n c) 5 true []) = .row (reps n c) 5 true [] := fun ρ => by
    show Blk.row (renL ρ (reps n c)) 5 true [] = _
    rw [renL_pure (reps_bel n c)]
  let G : Nat → Option Blk := fun i => match i with
    | 0 => some (.row (reps n c) 5 true [])
    | _ => none
  have hnil : ∀ {i k}, hNil.b.get i = some k → False := fun hi => leaf_none hi
  refine frame (fuel := F) (ds1 := []) (N := 1) (G := G) (V := .slc 0 0 n n true 1) goodCV.ok goodCV.spl (h1 := hNil) (args1 := [i6 n, u8 c]) (ρ := id) (h2 := hnew h (.row (reps n c) 5 true [])) (ds := ds) ⟨?_⟩ ⟨?_, ?_, ?_⟩ ⟨?_, ?_, ?_, ?_, ?_⟩ rfl ?_ ?_
  · obtain ⟨u, h', d, ⟨q1, q2⟩, _, back⟩ := xfun_spl goodCV.spl (xcode_spl goodCV.spl F) 17 [i6 n, u8 c] hNil [] _ (fill_run (c := c) c1 c2).out
    refine back _ ⟨id, ⟨fun i hi => rfl, fun i h0 hi => h0, fun i j hi hj e => e⟩, by rw [ren_id]; exact q1, rfl, fun i k hi hG => ?_⟩
    rw [renB_id]
    match i, hi with
    | 0, _ => cases hG; exact q2
  · exact fun i k hi => (hnil hi).elim
  · exact fun i j _ _ e => e
  · exact fun i hi => absurd hi (Nat.not_lt_zero _)
  · exact Nat.zero_le 1
  · rfl
  · intro j k hj
    have hj : T.get (T.set h.b (Blk.row (reps n c) 5 true []) h.next) j = some k := hj
    rcases T.get_set hj with ⟨rfl, rfl⟩ | ⟨hne, hj⟩
    · exact .inl ⟨0, _, by omega, up0.symm, rfl, (hr _).symm⟩
    · exact .inr ⟨hj, fun i k1 hi => (hnil hi).elim⟩
  · exact fun i k hi => absurd hi (Nat.not_lt_zero _)
  · intro i k hi hG
    match i, hi with
    | 0, _ => cases hG; exact ⟨belL_mono (Nat.zero_le 1) _ (reps_bel n c), rfl⟩
  · intro g i hgi; cases hgi
  · show K (.slc (up id 0 h.next 0) 0 n n true 1) _ _
    rw [up0]; exact hK
/-- with fill -/
def C16 (m : Bool) : Cfg := (C15 m).addCon 17 (conF fFill)
theorem goodC16 (m : Bool) : X.Good (C16 m) Tryd.prog := (goodC15 m).addCon 17 _ (conF_spl _) (conF_ok fill_ok)
end
end Go.Proofs.YtoeoaiipchklbaaDoor

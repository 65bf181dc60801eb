/- The digits of a number: definitions. -/
import Derived.Test.YtoeoaiipchklbaaDoorM2
set_option linter.unusedVariables false
set_option autoImplicit false
set_option linter.unusedVariables false
set_option maxRecDepth 100000
namespace Go.Proofs.YtoeoaiipchklbaaDoor
noncomputable section
open Go.X
/-- the loop's text: digits laid ahead -/
def dS : Nat → Nat → Nat → Nat → Nat × Nat
  | 0, _, l, v => (l, v)
  | f + 1, n, l, v => cond (Nat.beq (n / 10) 0) (1 + l, catV 1 (48 + n % 10) v) (dS f (n / 10) (1 + l) (catV 1 (48 + n % 10) v))
/-- a number's digits, the first one first -/
def dD : Nat → Nat → Nat × Nat
  | 0, _ => (0, 0)
  | f + 1, n => cond (Nat.beq (n / 10) 0) (1, 48 + n % 10) ((dD f (n / 10)).1 + 1, catV (dD f (n / 10)).1 (dD f (n / 10)).2 (48 + n % 10))
def dL (n : Nat) : Nat := (dD 20 n).1
def dV (n : Nat) : Nat := (dD 20 n).2
def eDg (n l v : Nat) : Env := T.set (T.set T.leaf (.int .i64 (.ofNat n)) 0) (.str l v) 3
def eDO (l v : Nat) : Env := T.set T.leaf (.str l v) 2
structure SDg where
  f : Nat
  n : Nat
  l : Nat
  v : Nat
def lDg : LCon := lcE (fun s : SDg => 1 ≤ s.f ∧ s.n < 10 ^ s.f ∧ s.n ≤ maxI ∧ s.l + s.f ≤ 100) (fun s => eDg s.n s.l s.v) (fun _ => hNil) (fun s => (.ret, eDO (dS s.f s.n s.l s.v).1 (dS s.f s.n s.l s.v).2, hNil))
def N1 : Cfg := C0.addLc 24 3 lDg
def fDig (args : List AV) (h : H) : Option (Bool × AV × H) := match args with
  | [.int .i64 z] => some (Bool.and (Bool.not (ltI z (.ofNat 0))) (ltI z (.ofNat 9223372036854775808)), .str (dL z.toNat) (dV z.toNat), h)
  | _ => none
def N2 : Cfg := C0.addCon 24 (conF fDig)
end
end Go.Proofs.YtoeoaiipchklbaaDoor
/- The digits of a number: runs. -/
set_option autoImplicit false
set_option maxRecDepth 1000000
set_option maxHeartbeats 0
namespace Go.Proofs.YtoeoaiipchklbaaDoor
noncomputable section
open Go.X
theorem dg_body (n l v : Nat) (K : KE) : xcode C0 Tryd.prog F 24 (loopC Tryd.prog 24 3) (C0.mask 24) (tmpsN Tryd.prog 24) (eDg n l v) hNil [] K = (bcase (inR Go.IntKind.i64 (Int.tmod (Int.ofNat n) (Int.ofNat 10) + Int.ofNat 1)) (bcase (Nat.ble (n % 10 + 1) 10 && Nat.ble (n % 10) (n % 10 + 1)) (bcase (Nat.ble (Nat.add (Nat.sub (n % 10 + 1) (n % 10)) l) 9223372036854775807) (bcase (inR Go.IntKind.i64 (Int.tdiv (Int.ofNat n) (Int.ofNat 10))) (bcase (eqI (Int.tdiv (Int.ofNat n) (Int.ofNat 10)) (Int.ofNat 0)) (K XE.ret (T.node (T.node T.leaf Option.none (T.node T.leaf (Option.some (AV.str (Nat.add (Nat.sub (n % 10 + 1) (n % 10)) l) (catV (Nat.sub (n % 10 + 1) (n % 10)) (subV 270211885617516653982000 (n % 10) (n % 10 + 1)) v))) T.leaf)) (Option.some (AV.int Go.IntKind.i64 (Int.tdiv (Int.ofNat n) (Int.ofNat 10)))) (T.node T.leaf Option.none (T.node T.leaf (Option.some (AV.str (Nat.add (Nat.sub (n % 10 + 1) (n % 10)) l) (catV (Nat.sub (n % 10 + 1) (n % 10)) (subV 270211885617516653982000 (n % 10) (n % 10 + 1)) v))) (T.node T.leaf Option.none (T.node T.leaf (Option.some (AV.bool true)) T.leaf))))) (H.mk T.leaf 0) []) (K XE.nrm (T.node T.leaf (Option.some (AV.int Go.IntKind.i64 (Int.tdiv (Int.ofNat n) (Int.ofNat 10)))) (T.node T.leaf Option.none (T.node T.leaf (Option.some (AV.str (Nat.add (Nat.sub (n % 10 + 1) (n % 10)) l) (catV (Nat.sub (n % 10 + 1) (n % 10)) (subV 270211885617516653982000 (n % 10) (n % 10 + 1)) v))) (T.node T.leaf Option.none (T.node T.leaf (Option.some (AV.bool false)) T.leaf))))) (H.mk T.leaf 0) [])) False) False) False) False) := by kernel_rfl
theorem dg_res (n : Nat) (K : AV → Prop) : xfun N1 Tryd.prog (xcode N1 Tryd.prog F) 24 [.int .i64 (.ofNat n)] hNil [] (fun v _ _ => K v) = (∃ s, (Nat.le 1 (SDg.f s) ∧ Nat.le (Nat.succ (SDg.n s)) (10 ^ SDg.f s) ∧ Nat.le (SDg.n s) maxI ∧ Nat.le (SDg.l s + SDg.f s) 100) ∧ (Option.some (AV.int Go.IntKind.i64 (Int.ofNat n)) = Option.some (AV.int Go.IntKind.i64 (Int.ofNat s.2)) ∧ True ∧ True ∧ Option.some (AV.str 0 0) = Option.some (AV.str s.3 s.4) ∧ True ∧ True) ∧ 0 = 0 ∧ True ∧ K (AV.str (dS (SDg.f s) (SDg.n s) (SDg.l s) (SDg.v s)).1 (dS (SDg.f s) (SDg.n s) (SDg.l s) (SDg.v s)).2)) := by kernel_rfl
theorem un_pos (n : Nat) (K : AV → Prop) : xfun N2 Tryd.prog (xcode N2 Tryd.prog F) 14 [.int .i64 (.ofNat n)] hNil [] (fun v _ _ => K v) = (bcase (!ltI (Int.ofNat n) (Int.ofNat 0) && ltI (Int.ofNat n) (Int.ofNat 9223372036854775808)) (K (AV.str (dL (Int.toNat (Int.ofNat n))) (dV (Int.toNat (Int.ofNat n))))) False) := by kernel_rfl
theorem nu_pos (n : Nat) (K : AV → Prop) : xfun N2 Tryd.prog (xcode N2 Tryd.prog F) 15 [.int .i64 (.ofNat n)] hNil [] (fun v _ _ => K v) = (bcase (!ltI (Int.ofNat n) (Int.ofNat 0) && ltI (Int.ofNat n) (Int.ofNat 9223372036854775808)) (K (AV.str (dL (Int.toNat (Int.ofNat n))) (dV (Int.toNat (Int.ofNat n))))) False) := by kernel_rfl
end
end Go.Proofs.YtoeoaiipchklbaaDoor
/- The digits of a number: more runs. -/
set_option autoImplicit false
set_option maxRecDepth 1000000
set_option maxHeartbeats 0
namespace Go.Proofs.YtoeoaiipchklbaaDoor
noncomputable section
open Go.X
theorem un_neg (m : Nat) (K : AV → Prop) : xfun N2 Tryd.prog (xcode N2 Tryd.prog F) 14 [.int .i64 (.negSucc m)] hNil [false, true, false, false] (fun v _ _ => K v) = (∃ z, z = wrapF Go.IntKind.i64 (Int.ofNat (BitVec.toNat (BitVec.ofInt 64 (Int.fdiv (Int.negSucc m) (Int.ofNat 2)) &&& BitVec.ofInt 64 9223372036854775807))) ∧ bcase (inR Go.IntKind.i64 (Int.tdiv z (Int.ofNat 5))) (bcase (!ltI (Int.tdiv z (Int.ofNat 5)) (Int.ofNat 0) && ltI (Int.tdiv z (Int.ofNat 5)) (Int.ofNat 9223372036854775808)) (bcase (!ltI (wrapF Go.IntKind.i64 (Int.negSucc m - wrapF Go.IntKind.i64 (Int.ofNat 10 * Int.tdiv z (Int.ofNat 5)))) (Int.ofNat 0) && ltI (wrapF Go.IntKind.i64 (Int.negSucc m - wrapF Go.IntKind.i64 (Int.ofNat 10 * Int.tdiv z (Int.ofNat 5)))) (Int.ofNat 9223372036854775808)) (bcase (Nat.ble (Nat.add (dL (Int.toNat (Int.tdiv z (Int.ofNat 5)))) (dL (Int.toNat (wrapF Go.IntKind.i64 (Int.negSucc m - wrapF Go.IntKind.i64 (Int.ofNat 10 * Int.tdiv z (Int.ofNat 5))))))) 9223372036854775807) (K (AV.str (Nat.add (dL (Int.toNat (Int.tdiv z (Int.ofNat 5)))) (dL (Int.toNat (wrapF Go.IntKind.i64 (Int.negSucc m - wrapF Go.IntKind.i64 (Int.ofNat 10 * Int.tdiv z (Int.ofNat 5))))))) (catV (dL (Int.toNat (Int.tdiv z (Int.ofNat 5)))) (dV (Int.toNat (Int.tdiv z (Int.ofNat 5)))) (dV (Int.toNat (wrapF Go.IntKind.i64 (Int.negSucc m - wrapF Go.IntKind.i64 (Int.ofNat 10 * Int.tdiv z (Int.ofNat 5))))))))) False) False) False) False) := by kernel_rfl
theorem nu_neg (m : Nat) (K : AV → Prop) : xfun N2 Tryd.prog (xcode N2 Tryd.prog F) 15 [.int .i64 (.negSucc m)] hNil [] (fun v _ _ => K v) = (bcase (eqI (Int.negSucc m) (Int.negSucc 9223372036854775807)) (K (AV.str 20 320778815332036283648579022077158143777819474221)) (bcase (inR Go.IntKind.i64 (Int.ofNat 0 - Int.negSucc m)) (bcase (!ltI (Int.ofNat 0 - Int.negSucc m) (Int.ofNat 0) && ltI (Int.ofNat 0 - Int.negSucc m) (Int.ofNat 9223372036854775808)) (bcase (Nat.ble (Nat.add 1 (dL (Int.toNat (Int.ofNat 0 - Int.negSucc m)))) 9223372036854775807) (K (AV.str (Nat.add 1 (dL (Int.toNat (Int.ofNat 0 - Int.negSucc m)))) (catV 1 45 (dV (Int.toNat (Int.ofNat 0 - Int.negSucc m)))))) False) False) False)) := by kernel_rfl
end
end Go.Proofs.YtoeoaiipchklbaaDoor
/- The digits of a number, as contracts. -/
set_option autoImplicit false
set_option linter.unusedVariables false
set_option maxRecDepth 100000
set_option maxHeartbeats 1000000
namespace Go.Proofs.YtoeoaiipchklbaaDoor
noncomputable section
open Go.X
theorem dig_byte : ∀ {c : Nat}, c < 10 → subV 270211885617516653982000 c (c + 1) = 48 + c
  | 0, _ => by kernel_rfl
  | 1, _ => by kernel_rfl
  | 2, _ => by kernel_rfl
  | 3, _ => by kernel_rfl
  | 4, _ => by kernel_rfl
  | 5, _ => by kernel_rfl
  | 6, _ => by kernel_rfl
  | 7, _ => by kernel_rfl
  | 8, _ => by kernel_rfl
  | 9, _ => by kernel_rfl
  | c + 10, h => absurd h (by omega)
theorem catAs {n m k v w u : Nat} (h : k = n + m) : catV k (catV n v w) u = catV n v (catV m w u) := by
  subst h
  rw [catV_def, catV_def, catV_def, catV_def, Nat.pow_add, Nat.mul_add, Nat.add_assoc, Nat.mul_assoc]
theorem dS_eq : ∀ (f n l v : Nat), dS f n l v = ((dD f n).1 + l, catV (dD f n).1 (dD f n).2 v)
  | 0, n, l, v => by
    show (l, v) = (0 + l, catV 0 0 v)
    rw [catV_def]; simp
  | f + 1, n, l, v => by
    rw [dS, dD]
    cases h : Nat.beq (n / 10) 0 with
    | true => rfl
    | false =>
      show dS f (n / 10) (1 + l) (catV 1 (48 + n % 10) v) = ((dD f (n / 10)).1 + 1 + l, catV ((dD f (n / 10)).1 + 1) (catV (dD f (n / 10)).1 (dD f (n / 10)).2 (48 + n % 10)) v)
      rw [dS_eq f, catAs (n := (dD f (n / 10)).1) (m := 1) rfl, Nat.add_assoc]
theorem dD_fuel : ∀ (f g n : Nat), 1 ≤ f → 1 ≤ g → n < 10 ^ f → n < 10 ^ g → dD f n = dD g n
  | 0, _, _, h, _, _, _ => by omega
  | _, 0, _, _, h, _, _ => by omega
  | f + 1, g + 1, n, _, _, hf, hg => by
    rw [dD, dD]
    cases h : Nat.beq (n / 10) 0 with
    | true => rfl
    | false =>
      have h : n / 10 ≠ 0 := fun e => by rw [e] at h; cases h
      rw [Nat.pow_succ] at hf hg
      have hf1 : 1 ≤ f := by
        rcases Nat.eq_zero_or_pos f with e | e
        · subst e; simp at hf; omega
        · exact e
      have hg1 : 1 ≤ g := by
        rcases Nat.eq_zero_or_pos g with e | e
        · subst e; simp at hg; omega
        · exact e
      rw [dD_fuel f g (n / 10) hf1 hg1 (by omega) (by omega)]
theorem vVal_app (d : Nat) : ∀ (f g j u : Nat), vVal d (f + g) j u = vVal d g (j + f) (vVal d f j u)
  | 0, g, j, u => by rw [Nat.zero_add]; rfl
  | f + 1, g, j, u => by
    rw [show f + 1 + g = (f + g) + 1 by omega, vVal, vVal, vVal_app d f g, show j + 1 + f = j + (f + 1) by omega]
theorem vVal_same {d d' : Nat} : ∀ (f j u : Nat), (∀ i, i < j + f → byteAt d i = byteAt d' i) → vVal d f j u = vVal d' f j u
  | 0, j, u, _ => rfl
  | f + 1, j, u, h => by
    rw [vVal, vVal, h j (by omega)]
    exact vVal_same f (j + 1) _ fun i hi => h i (by omega)
/-- digits that say a number -/
structure Dec (n L V : Nat) : Prop where
  pos : 1 ≤ L
  lt : V < 256 ^ L
  dig : ∀ j, j < L → isD (byteAt V j) = true
  val : vVal V L 0 0 = n
theorem isD_of {c : Nat} (h : c < 10) : isD (48 + c) = true := by rw [isD_iff, decide_eq_true_iff]; omega
theorem byteAt_small {c : Nat} (h : c < 256) : byteAt c 0 = c := by rw [byteAt_def]; simp; omega
theorem dec_one {c : Nat} (h : c < 10) : Dec c 1 (48 + c) := by
  have e : byteAt (48 + c) 0 = 48 + c := byteAt_small (by omega)
  refine ⟨Nat.le_refl _, by omega, fun j hj => ?_, ?_⟩
  · have : j = 0 := by omega
    rw [this, e]; exact isD_of h
  · show 0 * 10 + (byteAt (48 + c) 0 - 48) = c
    rw [e]; omega
theorem dec_app {n L V c : Nat} (h : Dec n L V) (hc : c < 10) : Dec (n * 10 + c) (L + 1) (catV L V (48 + c)) := by
  have hlast : byteAt (catV L V (48 + c)) L = 48 + c := by rw [byteAt_cat_hi h.lt (Nat.le_refl _), Nat.sub_self]; exact byteAt_small (by omega)
  refine ⟨by omega, catV_lt (m := 1) h.lt (by omega), fun j hj => ?_, ?_⟩
  · by_cases e : j = L
    · rw [e, hlast]; exact isD_of hc
    · rw [byteAt_cat_lo (by omega)]; exact h.dig j (by omega)
  · rw [vVal_app, vVal_same (d' := V) L 0 0 (fun i hi => byteAt_cat_lo (by omega)), h.val]
    show n * 10 + (byteAt (catV L V (48 + c)) (0 + L) - 48) = _
    rw [Nat.zero_add, hlast]; omega
theorem dD_dec : ∀ (f n : Nat), 1 ≤ f → n < 10 ^ f → Dec n (dD f n).1 (dD f n).2 ∧ (dD f n).1 ≤ f
  | 0, _, h, _ => by omega
  | f + 1, n, _, hn => by
    rw [dD]
    cases h : Nat.beq (n / 10) 0 with
    | true =>
      have h := natBeq_iff.1 h
      have : n % 10 = n := by omega
      show Dec n 1 (48 + n % 10) ∧ 1 ≤ f + 1
      rw [this]
      exact ⟨dec_one (by omega), by omega⟩
    | false =>
      have h : n / 10 ≠ 0 := fun e => by rw [e] at h; cases h
      rw [Nat.pow_succ] at hn
      have hf1 : 1 ≤ f := by
        rcases Nat.eq_zero_or_pos f with e | e
        · subst e; simp at hn; omega
        · exact e
      obtain ⟨a, b⟩ := dD_dec f (n / 10) hf1 (by omega)
      have c := dec_app a (c := n % 10) (by omega)
      rw [show n / 10 * 10 + n % 10 = n by omega] at c
      exact ⟨c, by show (dD f (n / 10)).1 + 1 ≤ f + 1; omega⟩
theorem dec_of {n : Nat} (h : n < 100000000000000000000) : Dec n (dL n) (dV n) ∧ dL n ≤ 20 := dD_dec 20 n (by decide) h
theorem dL_le {n : Nat} (h : n < 100000000000000000000) : dL n ≤ 20 := (dec_of h).2
theorem d10 : (10 : Nat) ^ 19 = 10000000000000000000 := by decide
theorem goodN1 : X.Good N1 Tryd.prog := by
  refine goodC0.addE (n0 := 0) (μ := fun s : SDg => s.f) (fuel := F) (by kernel_rfl) ?_ ?_ ?_
  · intro s _
    refine ⟨rfl, Nat.le_refl _, ?_, ?_⟩ <;> repeat' (first | exact trivial | exact rfl | refine And.intro ?_ ?_)
  · rintro ⟨f, n, l, v⟩ hok
    obtain ⟨h1, h2, h3, h4⟩ := hok
    have h1 : 1 ≤ f := h1
    have h2 : n < 10 ^ f := h2
    have h3 : n ≤ 9223372036854775807 := h3
    have h4 : l + f ≤ 100 := h4
    obtain ⟨g, rfl⟩ : ∃ g, f = g + 1 := ⟨f - 1, by omega⟩
    refine ⟨Eq.mpr (dg_body n l v _) ?_⟩
    have e1 : Int.tmod (Int.ofNat n) (Int.ofNat 10) = Int.ofNat (n % 10) := rfl
    have e2 : Int.tdiv (Int.ofNat n) (Int.ofNat 10) = Int.ofNat (n / 10) := rfl
    have e3 : Nat.sub (n % 10 + 1) (n % 10) = 1 := by show n % 10 + 1 - n % 10 = 1; omega
    rw [e1, e2, e3, dig_byte (by omega)]
    refine bcase_t (inR_add (by omega)) (bcase_t (and2 (Nat.ble_eq_true_of_le (by omega)) (Nat.ble_eq_true_of_le (Nat.le_succ _))) (bcase_t (Nat.ble_eq_true_of_le (by show 1 + l ≤ _; omega)) (bcase_t (inR_of (by simp only [Int.ofNat_eq_natCast]; omega) (by simp only [Int.ofNat_eq_natCast]; omega)) (bcase_mk (fun q => ?_) (fun q => ?_)))))
    · have q := eqT q
      have hd : dS (g + 1) n l v = (1 + l, catV 1 (48 + n % 10) v) := by rw [dS, q]; rfl
      refine ⟨[], rfl, ?_⟩
      dsimp only
      rw [hd]
      refine abs_mk rfl rfl rfl ?_ ?_ <;> repeat' (first | exact trivial | exact rfl | exact ⟨_, rfl, rfl⟩ | refine And.intro ?_ ?_)
    · have q := eqF q
      have hd : dS (g + 1) n l v = dS g (n / 10) (1 + l) (catV 1 (48 + n % 10) v) := by
        rw [dS, show Nat.beq (n / 10) 0 = false by rw [beqD, decide_eq_false_iff_not]; exact q]; rfl
      rw [Nat.pow_succ] at h2
      have hg1 : 1 ≤ g := by
        rcases Nat.eq_zero_or_pos g with e | e
        · subst e; simp at h2; omega
        · exact e
      refine ⟨⟨g, n / 10, 1 + l, catV 1 (48 + n % 10) v⟩, [], ⟨hg1, (by omega : n / 10 < 10 ^ g), (by show n / 10 ≤ 9223372036854775807; omega), (by show 1 + l + g ≤ 100; omega)⟩, by dsimp only; omega, ?_, ?_⟩
      · dsimp only; rw [hd]
      · refine abs_mk rfl rfl rfl ?_ ?_ <;> repeat' (first | exact trivial | exact rfl | exact ⟨_, rfl, rfl⟩ | refine And.intro ?_ ?_)
  · intro g i h; cases h
theorem dg_run {n : Nat} (h : n < 9223372036854775808) : Ran (xfun N1 Tryd.prog (xcode N1 Tryd.prog F) 24 [.int .i64 (.ofNat n)] hNil [] (fun u _ _ => u = .str (dL n) (dV n))) := by
  have hr := dg_res n (fun u => u = .str (dL n) (dV n))
  refine ⟨?_⟩
  rw [hr]; clear hr
  have h19 : n < 10 ^ 19 := by rw [d10]; omega
  refine ⟨⟨19, n, 0, 0⟩, ⟨(by decide : 1 ≤ 19), h19, (by show n ≤ 9223372036854775807; omega), (by decide : 0 + 19 ≤ 100)⟩, by repeat' (first | exact trivial | exact rfl | refine And.intro ?_ ?_), rfl, trivial, ?_⟩
  dsimp only
  have h20 : n < 10 ^ 20 := by
    have : (10 : Nat) ^ 20 = 100000000000000000000 := by decide
    omega
  rw [dS_eq, dD_fuel 19 20 n (by decide) (by decide) h19 h20]
  show AV.str (dL n + 0) (catV (dL n) (dV n) 0) = _
  rw [catV_def]; simp
theorem dig_ok {gl : Glob} (args : List AV) (h : H) (v : AV) (h' : H) (ds : List Bool) (K : KV) (hf : fDig args h = some (true, v, h')) (hK : K v h' ds) : CallOK Tryd.prog gl 24 args h K := by
  unfold fDig at hf
  split at hf <;> try (cases hf; done)
  rename_i z
  simp only [Option.some.injEq, Prod.mk.injEq] at hf
  obtain ⟨hc, rfl, rfl⟩ := hf
  obtain ⟨c1, c2⟩ := and_tt hc
  have c1 := ltIF (notT c1)
  have c2 := ltIT c2
  obtain ⟨n, rfl⟩ : ∃ n, z = Int.ofNat n := ⟨z.toNat, by simp only [Int.ofNat_eq_natCast] at *; omega⟩
  have c2 : n < 9223372036854775808 := by simp only [Int.ofNat_eq_natCast] at *; omega
  exact frame_pure goodN1 rfl (fuel := F) (ds1 := []) rfl rfl (dg_run c2) hK
theorem goodN2 : X.Good N2 Tryd.prog := goodC0.addCon 24 _ (conF_spl _) (conF_ok dig_ok)
/-- a number, without its sign's meaning -/
def uN (z : Int) : Nat := (z % 18446744073709551616).toNat
def uL (z : Int) : Nat := dL (uN z)
def uV (z : Int) : Nat := dV (uN z)
def sL (z : Int) : Nat := cond (ltI z (.ofNat 0)) (1 + dL (-z).toNat) (dL z.toNat)
def sV (z : Int) : Nat := cond (ltI z (.ofNat 0)) (catV 1 45 (dV (-z).toNat)) (dV z.toNat)
def fUns (args : List AV) (h : H) : Option (Bool × AV × H) := match args with
  | [.int .i64 z] => some (inR .i64 z, .str (uL z) (uV z), h)
  | _ => none
def fNumS (args : List AV) (h : H) : Option (Bool × AV × H) := match args with
  | [.int .i64 z] => some (inR .i64 z, .str (sL z) (sV z), h)
  | _ => none
theorem inR_iff (z : Int) : inR .i64 z = true ↔ -9223372036854775808 ≤ z ∧ z < 9223372036854775808 := by
  show sIn 9223372036854775808 z = true ↔ _
  rw [sIn_eq, decide_eq_true_iff]; omega
theorem pos_cond {n : Nat} (h : n < 9223372036854775808) : (!ltI (Int.ofNat n) (Int.ofNat 0) && ltI (Int.ofNat n) (Int.ofNat 9223372036854775808)) = true := by
  rw [ltN, ltN, Bool.and_eq_true]
  exact ⟨by simp, by rw [decide_eq_true_iff]; exact h⟩
theorem dD_ten {q r : Nat} (hq : q ≠ 0) (hr : r < 10) (h : q < 1000000000000000000000) : dD 21 (q * 10 + r) = ((dD 20 q).1 + 1, catV (dD 20 q).1 (dD 20 q).2 (48 + r)) := by
  have e1 : (q * 10 + r) / 10 = q := by omega
  have e2 : (q * 10 + r) % 10 = r := by omega
  rw [dD, e1, e2, show Nat.beq q 0 = false by rw [beqD, decide_eq_false_iff_not]; exact hq]; rfl
theorem d_ten {q r : Nat} (hq : q ≠ 0) (hr : r < 10) (h : q * 10 + r < 100000000000000000000) : dL (q * 10 + r) = dL q + 1 ∧ dV (q * 10 + r) = catV (dL q) (dV q) (48 + r) := by
  have e := dD_ten hq hr (by omega)
  have p20 : (10 : Nat) ^ 20 = 100000000000000000000 := by decide
  have p21 : (10 : Nat) ^ 21 = 1000000000000000000000 := by decide
  have f := dD_fuel 20 21 (q * 10 + r) (by decide) (by decide) (by omega) (by omega)
  unfold dL dV
  rw [f, e]; exact ⟨rfl, rfl⟩
theorem d_one {r : Nat} (hr : r < 10) : dL r = 1 ∧ dV r = 48 + r := by
  have e : dD 20 r = (1, 48 + r) := by
    rw [dD, show Nat.beq (r / 10) 0 = true by rw [beqD, decide_eq_true_iff]; omega, show r % 10 = r by omega]; rfl
  unfold dL dV; rw [e]; exact ⟨rfl, rfl⟩
theorem half_bits {m : Nat} (h : m < 9223372036854775808) : wrapF .i64 (Int.ofNat (BitVec.toNat (BitVec.ofInt 64 (Int.fdiv (Int.negSucc m) (Int.ofNat 2)) &&& BitVec.ofInt 64 9223372036854775807))) = Int.ofNat ((18446744073709551615 - m) / 2) := by
  have e1 : Int.fdiv (Int.negSucc m) (Int.ofNat 2) = Int.negSucc (m / 2) := rfl
  have e2 : (BitVec.ofInt 64 (Int.fdiv (Int.negSucc m) (Int.ofNat 2))).toNat = 18446744073709551616 - (m / 2 + 1) := by
    rw [e1, BitVec.toNat_ofInt]
    have : Int.negSucc (m / 2) = -((m / 2 : Nat) : Int) - 1 := by omega
    rw [this]; simp; omega
  have e3 : (BitVec.ofInt 64 9223372036854775807).toNat = 2 ^ 63 - 1 := by
    show (BitVec.ofInt 64 9223372036854775807).toNat = _
    rw [BitVec.toNat_ofInt]; rfl
  have e4 : BitVec.toNat (BitVec.ofInt 64 (Int.fdiv (Int.negSucc m) (Int.ofNat 2)) &&& BitVec.ofInt 64 9223372036854775807) = (18446744073709551615 - m) / 2 := by
    have : BitVec.toNat (BitVec.ofInt 64 (Int.fdiv (Int.negSucc m) (Int.ofNat 2)) &&& BitVec.ofInt 64 9223372036854775807) = (BitVec.ofInt 64 (Int.fdiv (Int.negSucc m) (Int.ofNat 2))).toNat &&& (BitVec.ofInt 64 9223372036854775807).toNat := BitVec.toNat_and ..
    rw [this, e2, e3, Nat.and_two_pow_sub_one_eq_mod]
    omega
  rw [e4]
  have := wrap64 (Int.ofNat ((18446744073709551615 - m) / 2))
  rw [this]
  simp only [Int.ofNat_eq_natCast]
  split <;> omega
theorem un_run {z : Int} (hz : inR .i64 z = true) : ∃ ds, Ran (xfun N2 Tryd.prog (xcode N2 Tryd.prog F) 14 [.int .i64 z] hNil ds (fun u _ _ => u = .str (uL z) (uV z))) := by
  rw [inR_iff] at hz
  cases z with
  | ofNat n =>
    have hn : n < 9223372036854775808 := by simp only [Int.ofNat_eq_natCast] at hz; omega
    have hr := un_pos n (fun u => u = .str (uL (.ofNat n)) (uV (.ofNat n)))
    refine ⟨[], ⟨?_⟩⟩
    rw [hr]; clear hr
    refine bcase_t (pos_cond hn) ?_
    have e : uN (Int.ofNat n) = n := by unfold uN; simp only [Int.ofNat_eq_natCast]; omega
    unfold uL uV; rw [e]; rfl
  | negSucc m =>
    have hm : m < 9223372036854775808 := by omega
    have hr := un_neg m (fun u => u = .str (uL (.negSucc m)) (uV (.negSucc m)))
    refine ⟨[false, true, false, false], ⟨?_⟩⟩
    rw [hr]; clear hr
    refine ⟨_, rfl, ?_⟩
    rw [half_bits hm]
    have e2 : Int.tdiv (Int.ofNat ((18446744073709551615 - m) / 2)) (Int.ofNat 5) = Int.ofNat ((18446744073709551615 - m) / 2 / 5) := rfl
    rw [e2]
    have eq : (18446744073709551615 - m) / 2 / 5 = (18446744073709551615 - m) / 10 := by omega
    rw [eq]
    have er : wrapF .i64 (Int.negSucc m - wrapF .i64 (Int.ofNat 10 * Int.ofNat ((18446744073709551615 - m) / 10))) = Int.ofNat ((18446744073709551615 - m) % 10) := by
      have hq : Int.ofNat 10 * Int.ofNat ((18446744073709551615 - m) / 10) = ((10 * ((18446744073709551615 - m) / 10) : Nat) : Int) := by simp
      rw [hq]
      generalize hQ : 10 * ((18446744073709551615 - m) / 10) = Q
      have hn : Int.negSucc m = -(m : Int) - 1 := by omega
      rw [hn, wrap64 (Q : Int)]
      simp only [Int.ofNat_eq_natCast]
      split
      · rw [wrap64]; split <;> omega
      · rw [wrap64]; split <;> omega
    rw [er]
    have hu : uN (Int.negSucc m) = (18446744073709551615 - m) / 10 * 10 + (18446744073709551615 - m) % 10 := by
      unfold uN; have : Int.negSucc m = -(m : Int) - 1 := by omega
      rw [this]; omega
    generalize hQ : (18446744073709551615 - m) / 10 = Q at *
    generalize hR : (18446744073709551615 - m) % 10 = R at *
    obtain ⟨t1, t2⟩ := d_ten (q := Q) (r := R) (by omega) (by omega) (by omega)
    obtain ⟨o1, o2⟩ := d_one (r := R) (by omega)
    have l20 := dL_le (n := Q) (by omega)
    refine bcase_t (inR_of (by simp) (by simp only [Int.ofNat_eq_natCast]; omega)) (bcase_t (pos_cond (by omega)) (bcase_t (pos_cond (by omega)) ?_))
    have eQ : Int.toNat (Int.ofNat Q) = Q := rfl
    have eR : Int.toNat (Int.ofNat R) = R := rfl
    rw [eQ, eR, o1, o2]
    refine bcase_t (Nat.ble_eq_true_of_le (by show dL Q + 1 ≤ _; omega)) ?_
    unfold uL uV; rw [hu, t1, t2]
theorem nu_run {z : Int} (hz : inR .i64 z = true) : Ran (xfun N2 Tryd.prog (xcode N2 Tryd.prog F) 15 [.int .i64 z] hNil [] (fun u _ _ => u = .str (sL z) (sV z))) := by
  rw [inR_iff] at hz
  cases z with
  | ofNat n =>
    have hn : n < 9223372036854775808 := by simp only [Int.ofNat_eq_natCast] at hz; omega
    have hr := nu_pos n (fun u => u = .str (sL (.ofNat n)) (sV (.ofNat n)))
    refine ⟨?_⟩
    rw [hr]; clear hr
    refine bcase_t (pos_cond hn) ?_
    unfold sL sV
    rw [show ltI (Int.ofNat n) (Int.ofNat 0) = false by rw [ltN, decide_eq_false_iff_not]; omega]; rfl
  | negSucc m =>
    have hm : m < 9223372036854775808 := by omega
    have hr := nu_neg m (fun u => u = .str (sL (.negSucc m)) (sV (.negSucc m)))
    refine ⟨?_⟩
    rw [hr]; clear hr
    have e1 : sL (Int.negSucc m) = 1 + dL (m + 1) := rfl
    have e2 : sV (Int.negSucc m) = catV 1 45 (dV (m + 1)) := rfl
    rw [e1, e2]
    refine bcase_mk (fun q => ?_) (fun q => ?_)
    · rw [eqI_eq, beq_iff_eq] at q
      have : m = 9223372036854775807 := by omega
      subst this
      have a1 : dL (9223372036854775807 + 1) = 19 := by kernel_rfl
      have a2 : catV 1 45 (dV (9223372036854775807 + 1)) = 320778815332036283648579022077158143777819474221 := by kernel_rfl
      rw [a1, a2]
    · rw [eqI_eq, beq_eq_false_iff_ne] at q
      have e3 : Int.ofNat 0 - Int.negSucc m = Int.ofNat (m + 1) := by simp only [Int.ofNat_eq_natCast]; omega
      have hm2 : m + 1 < 9223372036854775808 := by omega
      rw [e3]
      have l20 := dL_le (n := m + 1) (by omega)
      have eQ : Int.toNat (Int.ofNat (m + 1)) = m + 1 := rfl
      rw [eQ]
      exact bcase_t (inR_of (by simp only [Int.ofNat_eq_natCast]; omega) (by simp only [Int.ofNat_eq_natCast]; omega)) (bcase_t (pos_cond hm2) (bcase_t (Nat.ble_eq_true_of_le (by show 1 + dL (m + 1) ≤ _; omega)) rfl))
theorem uns_ok {gl : Glob} (args : List AV) (h : H) (v : AV) (h' : H) (ds : List Bool) (K : KV) (hf : fUns args h = some (true, v, h')) (hK : K v h' ds) : CallOK Tryd.prog gl 14 args h K := by
  unfold fUns at hf
  split at hf <;> try (cases hf; done)
  rename_i z
  simp only [Option.some.injEq, Prod.mk.injEq] at hf
  obtain ⟨hc, rfl, rfl⟩ := hf
  obtain ⟨ds1, hr⟩ := un_run hc
  exact frame_pure goodN2 rfl (fuel := F) (ds1 := ds1) rfl rfl hr hK
theorem nums_ok {gl : Glob} (args : List AV) (h : H) (v : AV) (h' : H) (ds : List Bool) (K : KV) (hf : fNumS args h = some (true, v, h')) (hK : K v h' ds) : CallOK Tryd.prog gl 15 args h K := by
  unfold fNumS at hf
  split at hf <;> try (cases hf; done)
  rename_i z
  simp only [Option.some.injEq, Prod.mk.injEq] at hf
  obtain ⟨hc, rfl, rfl⟩ := hf
  exact frame_pure goodN2 rfl (fuel := F) (ds1 := []) rfl rfl (nu_run hc) hK
end
end Go.Proofs.YtoeoaiipchklbaaDoor

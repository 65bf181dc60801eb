/- LexNumbers: definitions. -/
import Derived.Test.YtoeoaiipchklbaaDoorN1
import Derived.Test.YtoeoaiipchklbaaDoorS
import Derived.Test.YtoeoaiipchklbaaDoorE6
import Derived.Test.YtoeoaiipchklbaaDoorM3
set_option linter.unusedVariables false
set_option autoImplicit false
set_option linter.unusedVariables false
set_option maxRecDepth 100000
namespace Go.Proofs.YtoeoaiipchklbaaDoor
noncomputable section
open Go.X
def CNa : Cfg := ((((cfgN true mask glA).addCon 9 (conF fAlive)).addCon 13 (conF fWrap)).addCon 14 (conF fUns)).addCon 15 (conF fNumS)
theorem goodCNa : X.Good CNa Tryd.prog := ((((goodN _ _ _ _).addCon 9 _ (conF_spl _) (conF_ok alive_ok)).addCon 13 _ (conF_spl _) (conF_ok rwrap_ok)).addCon 14 _ (conF_spl _) (conF_ok uns_ok)).addCon 15 _ (conF_spl _) (conF_ok nums_ok)
def CN (n0 v0 : Nat) (cells0 : List AV) : Cfg := CNa.addCon 10 (conDs (conF (fTold n0 v0 cells0 2)) (conF2 fTokens))
theorem goodCN {n0 v0 : Nat} {cells0 : List AV} (hn : n0 ≤ 65536) (ht : toks n0 v0 0 [] 0 = ⟨true, 0, 0, cells0, 2⟩) : X.Good (CN n0 v0 cells0) Tryd.prog :=
  goodCNa.addCon 10 _ (conDs_spl (conF_spl _) (conF2_spl _)) (conDs_ok (conF_ok (told_ok hn ht)) tokens_ok)
/-- the two tokens of a number's text -/
def nC (n0 x : Nat) (N : Int) (k : Nat) : List AV := lapp (tok 2 n0 x N k 0) (tok 5 0 0 0 0 n0)
def numR (e : TypeId) (n0 v0 : Nat) (cells0 : List AV) (k : Int) (n : Int) (K : AV → Prop) : Prop := xfun (CN n0 v0 cells0) Tryd.prog (xcode (CN n0 v0 cells0) Tryd.prog F) 4 [.int .i64 k, .int .i64 n] (hA e) [true, true, false, false] (fun v _ _ => K v)
end
end Go.Proofs.YtoeoaiipchklbaaDoor
/- LexNumbers: runs. -/
set_option autoImplicit false
set_option maxRecDepth 1000000
set_option maxHeartbeats 0
namespace Go.Proofs.YtoeoaiipchklbaaDoor
noncomputable section
open Go.X
theorem numl_m (e : TypeId) (n0 v0 : Nat) (cells0 : List AV) (k : Nat) (n : Int) (K : AV → Prop) : numR e n0 v0 cells0 (.negSucc k) n K = (K (AV.bool true)) := by kernel_rfl
theorem numl_b (e : TypeId) (n0 v0 : Nat) (cells0 : List AV) (k : Nat) (n : Int) (K : AV → Prop) : numR e n0 v0 cells0 (.ofNat (k + 10)) n K = (K (AV.bool true)) := by kernel_rfl
theorem numl_0 (e : TypeId) (n0 v0 : Nat) (cells0 : List AV) (n : Int) (K : AV → Prop) : numR e n0 v0 cells0 (.ofNat 0) n K = (K (AV.bool true)) := by kernel_rfl
theorem numl_1 (e : TypeId) (n0 v0 : Nat) (cells0 : List AV) (n : Int) (K : AV → Prop) : numR e n0 v0 cells0 (.ofNat 1) n K = (K (AV.bool true)) := by kernel_rfl
theorem numl_2 (e : TypeId) (n0 v0 : Nat) (n : Int) (x : Nat) (N : Int) (K : AV → Prop) : numR e n0 v0 (nC n0 x N 2) (.ofNat 2) n K = (bcase (inR Go.IntKind.i64 (wrapK 2 n)) (bcase (ltI (wrapK 2 n) (Int.ofNat 0)) (bcase (inR Go.IntKind.i64 (wrapK 2 n)) (bcase (Nat.ble (sL (wrapK 2 n)) (sL (wrapK 2 n)) && Nat.ble 1 (sL (wrapK 2 n))) (bcase (Nat.ble (Nat.add (Nat.sub (sL (wrapK 2 n)) 1) 2) 9223372036854775807) (bcase (Nat.beq (Nat.add (Nat.sub (sL (wrapK 2 n)) 1) 2) n0 && Nat.beq (catV (Nat.sub (sL (wrapK 2 n)) 1) (subV (sV (wrapK 2 n)) 1 (sL (wrapK 2 n))) 14441) v0 && (true && Nat.ble 1 (Nat.succ 1))) (bcase (eqI (wrapK 2 n) (wrapK 2 (wrapF Go.IntKind.i64 (Int.ofNat 0 - wrapK 2 n)))) (bcase (eqI N (wrapK 2 n)) (K (AV.bool true)) (K (AV.bool false))) (bcase (eqI N (wrapF Go.IntKind.i64 (Int.ofNat 0 - wrapK 2 n))) (K (AV.bool true)) (K (AV.bool false)))) False) False) False) False) (bcase (Nat.ble (Nat.add (uL (wrapK 2 n)) 2) 9223372036854775807) (bcase (Nat.beq (Nat.add (uL (wrapK 2 n)) 2) n0 && Nat.beq (catV (uL (wrapK 2 n)) (uV (wrapK 2 n)) 14441) v0 && (true && Nat.ble 1 (Nat.succ 1))) (bcase (eqI N (wrapK 2 n)) (K (AV.bool true)) (K (AV.bool false))) False) False)) False) := by kernel_rfl
theorem numl_3 (e : TypeId) (n0 v0 : Nat) (n : Int) (x : Nat) (N : Int) (K : AV → Prop) : numR e n0 v0 (nC n0 x N 3) (.ofNat 3) n K = (bcase (inR Go.IntKind.i64 (wrapK 3 n)) (bcase (ltI (wrapK 3 n) (Int.ofNat 0)) (bcase (inR Go.IntKind.i64 (wrapK 3 n)) (bcase (Nat.ble (sL (wrapK 3 n)) (sL (wrapK 3 n)) && Nat.ble 1 (sL (wrapK 3 n))) (bcase (Nat.ble (Nat.add (Nat.sub (sL (wrapK 3 n)) 1) 3) 9223372036854775807) (bcase (Nat.beq (Nat.add (Nat.sub (sL (wrapK 3 n)) 1) 3) n0 && Nat.beq (catV (Nat.sub (sL (wrapK 3 n)) 1) (subV (sV (wrapK 3 n)) 1 (sL (wrapK 3 n))) 3551593) v0 && (true && Nat.ble 1 (Nat.succ 1))) (bcase (eqI (wrapK 3 n) (wrapK 3 (wrapF Go.IntKind.i64 (Int.ofNat 0 - wrapK 3 n)))) (bcase (eqI N (wrapK 3 n)) (K (AV.bool true)) (K (AV.bool false))) (bcase (eqI N (wrapF Go.IntKind.i64 (Int.ofNat 0 - wrapK 3 n))) (K (AV.bool true)) (K (AV.bool false)))) False) False) False) False) (bcase (Nat.ble (Nat.add (uL (wrapK 3 n)) 3) 9223372036854775807) (bcase (Nat.beq (Nat.add (uL (wrapK 3 n)) 3) n0 && Nat.beq (catV (uL (wrapK 3 n)) (uV (wrapK 3 n)) 3551593) v0 && (true && Nat.ble 1 (Nat.succ 1))) (bcase (eqI N (wrapK 3 n)) (K (AV.bool true)) (K (AV.bool false))) False) False)) False) := by kernel_rfl
theorem numl_4 (e : TypeId) (n0 v0 : Nat) (n : Int) (x : Nat) (N : Int) (K : AV → Prop) : numR e n0 v0 (nC n0 x N 4) (.ofNat 4) n K = (bcase (inR Go.IntKind.i64 (wrapK 4 n)) (bcase (ltI (wrapK 4 n) (Int.ofNat 0)) (bcase (inR Go.IntKind.i64 (wrapK 4 n)) (bcase (Nat.ble (sL (wrapK 4 n)) (sL (wrapK 4 n)) && Nat.ble 1 (sL (wrapK 4 n))) (bcase (Nat.ble (Nat.add (Nat.sub (sL (wrapK 4 n)) 1) 3) 9223372036854775807) (bcase (Nat.beq (Nat.add (Nat.sub (sL (wrapK 4 n)) 1) 3) n0 && Nat.beq (catV (Nat.sub (sL (wrapK 4 n)) 1) (subV (sV (wrapK 4 n)) 1 (sL (wrapK 4 n))) 3289961) v0 && (true && Nat.ble 1 (Nat.succ 1))) (bcase (eqI (wrapK 4 n) (wrapK 4 (wrapF Go.IntKind.i64 (Int.ofNat 0 - wrapK 4 n)))) (bcase (eqI N (wrapK 4 n)) (K (AV.bool true)) (K (AV.bool false))) (bcase (eqI N (wrapF Go.IntKind.i64 (Int.ofNat 0 - wrapK 4 n))) (K (AV.bool true)) (K (AV.bool false)))) False) False) False) False) (bcase (Nat.ble (Nat.add (uL (wrapK 4 n)) 3) 9223372036854775807) (bcase (Nat.beq (Nat.add (uL (wrapK 4 n)) 3) n0 && Nat.beq (catV (uL (wrapK 4 n)) (uV (wrapK 4 n)) 3289961) v0 && (true && Nat.ble 1 (Nat.succ 1))) (bcase (eqI N (wrapK 4 n)) (K (AV.bool true)) (K (AV.bool false))) False) False)) False) := by kernel_rfl
theorem numl_5 (e : TypeId) (n0 v0 : Nat) (n : Int) (x : Nat) (N : Int) (K : AV → Prop) : numR e n0 v0 (nC n0 x N 5) (.ofNat 5) n K = (bcase (inR Go.IntKind.i64 (wrapK 5 n)) (bcase (ltI (wrapK 5 n) (Int.ofNat 0)) (bcase (inR Go.IntKind.i64 (wrapK 5 n)) (bcase (Nat.ble (sL (wrapK 5 n)) (sL (wrapK 5 n)) && Nat.ble 1 (sL (wrapK 5 n))) (bcase (Nat.ble (Nat.add (Nat.sub (sL (wrapK 5 n)) 1) 3) 9223372036854775807) (bcase (Nat.beq (Nat.add (Nat.sub (sL (wrapK 5 n)) 1) 3) n0 && Nat.beq (catV (Nat.sub (sL (wrapK 5 n)) 1) (subV (sV (wrapK 5 n)) 1 (sL (wrapK 5 n))) 3421801) v0 && (true && Nat.ble 1 (Nat.succ 1))) (bcase (eqI (wrapK 5 n) (wrapK 5 (wrapF Go.IntKind.i64 (Int.ofNat 0 - wrapK 5 n)))) (bcase (eqI N (wrapK 5 n)) (K (AV.bool true)) (K (AV.bool false))) (bcase (eqI N (wrapF Go.IntKind.i64 (Int.ofNat 0 - wrapK 5 n))) (K (AV.bool true)) (K (AV.bool false)))) False) False) False) False) (bcase (Nat.ble (Nat.add (uL (wrapK 5 n)) 3) 9223372036854775807) (bcase (Nat.beq (Nat.add (uL (wrapK 5 n)) 3) n0 && Nat.beq (catV (uL (wrapK 5 n)) (uV (wrapK 5 n)) 3421801) v0 && (true && Nat.ble 1 (Nat.succ 1))) (bcase (eqI N (wrapK 5 n)) (K (AV.bool true)) (K (AV.bool false))) False) False)) False) := by kernel_rfl
theorem numl_6 (e : TypeId) (n0 v0 : Nat) (n : Int) (x : Nat) (N : Int) (K : AV → Prop) : numR e n0 v0 (nC n0 x N 6) (.ofNat 6) n K = (bcase (inR Go.IntKind.i64 (wrapK 6 n)) (bcase (Nat.ble (Nat.add (uL (wrapK 6 n)) 2) 9223372036854775807) (bcase (Nat.beq (Nat.add (uL (wrapK 6 n)) 2) n0 && Nat.beq (catV (uL (wrapK 6 n)) (uV (wrapK 6 n)) 14453) v0 && (true && Nat.ble 1 (Nat.succ 1))) (bcase (eqI N (wrapK 6 n)) (K (AV.bool true)) (K (AV.bool false))) False) False) False) := by kernel_rfl
theorem numl_7 (e : TypeId) (n0 v0 : Nat) (n : Int) (x : Nat) (N : Int) (K : AV → Prop) : numR e n0 v0 (nC n0 x N 7) (.ofNat 7) n K = (bcase (inR Go.IntKind.i64 (wrapK 7 n)) (bcase (Nat.ble (Nat.add (uL (wrapK 7 n)) 3) 9223372036854775807) (bcase (Nat.beq (Nat.add (uL (wrapK 7 n)) 3) n0 && Nat.beq (catV (uL (wrapK 7 n)) (uV (wrapK 7 n)) 3551605) v0 && (true && Nat.ble 1 (Nat.succ 1))) (bcase (eqI N (wrapK 7 n)) (K (AV.bool true)) (K (AV.bool false))) False) False) False) := by kernel_rfl
theorem numl_8 (e : TypeId) (n0 v0 : Nat) (n : Int) (x : Nat) (N : Int) (K : AV → Prop) : numR e n0 v0 (nC n0 x N 8) (.ofNat 8) n K = (bcase (inR Go.IntKind.i64 (wrapK 8 n)) (bcase (Nat.ble (Nat.add (uL (wrapK 8 n)) 3) 9223372036854775807) (bcase (Nat.beq (Nat.add (uL (wrapK 8 n)) 3) n0 && Nat.beq (catV (uL (wrapK 8 n)) (uV (wrapK 8 n)) 3289973) v0 && (true && Nat.ble 1 (Nat.succ 1))) (bcase (eqI N (wrapK 8 n)) (K (AV.bool true)) (K (AV.bool false))) False) False) False) := by kernel_rfl
theorem numl_9 (e : TypeId) (n0 v0 : Nat) (n : Int) (x : Nat) (N : Int) (K : AV → Prop) : numR e n0 v0 (nC n0 x N 9) (.ofNat 9) n K = (bcase (inR Go.IntKind.i64 (wrapK 9 n)) (bcase (Nat.ble (Nat.add (uL (wrapK 9 n)) 3) 9223372036854775807) (bcase (Nat.beq (Nat.add (uL (wrapK 9 n)) 3) n0 && Nat.beq (catV (uL (wrapK 9 n)) (uV (wrapK 9 n)) 3421813) v0 && (true && Nat.ble 1 (Nat.succ 1))) (bcase (eqI N (wrapK 9 n)) (K (AV.bool true)) (K (AV.bool false))) False) False) False) := by kernel_rfl
end
end Go.Proofs.YtoeoaiipchklbaaDoor
/- LexNumbers: the run. -/
set_option autoImplicit false
set_option linter.unusedVariables false
set_option maxRecDepth 100000
set_option maxHeartbeats 1000000
namespace Go.Proofs.YtoeoaiipchklbaaDoor
noncomputable section
open Go.X
theorem scan_stop {p : Nat → Bool} {v e : Nat} : ∀ (f i : Nat), (∀ j, i ≤ j → j < e → p (byteAt v j) = true) → (e < i + f → p (byteAt v e) = false) → i ≤ e → e ≤ i + f → scan p v f i = e
  | 0, i, _, _, h1, h2 => by rw [scan]; omega
  | f + 1, i, h, hs, h1, h2 => by
    rw [scan]
    by_cases q : i = e
    · subst q; rw [hs (by omega)]; rfl
    · rw [h i (Nat.le_refl _) (by omega)]
      exact scan_stop f (i + 1) (fun j hj hje => h j (by omega) hje) (fun hh => hs (by omega)) (by omega) (by omega)
/-- a kind's word -/
structure Word (m w k : Nat) : Prop where
  pos : 1 ≤ m
  le : m ≤ 4
  lt : w < 256 ^ m
  all : ∀ j, j < m → isW (byteAt w j) = true
  first : isD (byteAt w 0) = false
  kind : kindF m w = k
theorem num_toks {u L V m w k : Nat} (D : Dec u L V) (hL : L ≤ 20) (W : Word m w k) (hk : 2 ≤ k) (hu : u ≤ mostK k) :
    toks (L + m) (catV L V w) 0 [] 0 = ⟨true, 0, 0, nC (L + m) (subV (catV L V w) 0 (L + m)) (wrapK k (wrapF .i64 (Int.ofNat u))) k, 2⟩ := by
  have hm := W.pos
  have hm4 := W.le
  have hL1 := D.pos
  have b1 : ∀ j, j < L → byteAt (catV L V w) j = byteAt V j := fun j hj => byteAt_cat_lo hj
  have b2 : ∀ j, byteAt (catV L V w) (L + j) = byteAt w j := fun j => by rw [byteAt_cat_hi D.lt (Nat.le_add_right _ _), Nat.add_sub_cancel_left]
  have d0 : isD (byteAt (catV L V w) 0) = true := by rw [b1 0 (by omega)]; exact D.dig 0 (by omega)
  have sub1 : subV (catV L V w) 0 L = V := (subV_eq_of (by rw [Nat.sub_zero]; exact D.lt)).2 fun i hi => by rw [Nat.zero_add]; exact b1 i (by omega)
  have sub2 : subV (catV L V w) L (L + m) = w := (subV_eq_of (by rw [Nat.add_sub_cancel_left]; exact W.lt)).2 fun i hi => b2 i
  have eE : nEnd (L + m) (catV L V w) 0 = L := by
    refine scan_stop _ 0 (fun j _ hj => by rw [b1 j hj]; exact D.dig j hj) (fun _ => ?_) (Nat.zero_le _) (by omega)
    have := b2 0
    rw [Nat.add_zero] at this
    rw [this]; exact W.first
  have eW : wordN (L + m) (catV L V w) L = m := by
    have : scan isW (catV L V w) (L + m - L) L = L + m := by
      refine scan_stop _ L (fun j h1 h2 => ?_) (fun h => by omega) (by omega) (by omega)
      have := b2 (j - L)
      rw [show L + (j - L) = j by omega] at this
      rw [this]; exact W.all _ (by omega)
    unfold wordN; rw [this]; omega
  have eT : nTok (L + m) (catV L V w) 0 = L + m := by unfold nTok; rw [eE, eW]
  have eK : nKind (L + m) (catV L V w) 0 = k := by unfold nKind; rw [eT, eE, sub2, Nat.add_sub_cancel_left]; exact W.kind
  have eLn : nLen (L + m) (catV L V w) 0 = L := by unfold nLen; rw [eE]; rfl
  have eV : nVal (L + m) (catV L V w) 0 = u := by unfold nVal; rw [eE, eLn, sub1]; exact D.val
  have bk : Nat.beq k 0 = false := by rw [beqD, decide_eq_false_iff_not]; omega
  have eB : nBad (L + m) (catV L V w) 0 = false := by
    rw [nBad_ok (by rw [eK]; omega), eLn, eE, sub1, eK]
    unfold okN
    rw [bk, D.val, Nat.ble_eq_true_of_le hL]
    show (!(true && Nat.ble u (mostK k))) = false
    rw [Nat.ble_eq_true_of_le hu]; rfl
  have eN : nInt (L + m) (catV L V w) 0 = wrapK k (wrapF .i64 (Int.ofNat u)) := by unfold nInt; rw [eK, eV, bk]; rfl
  have dd := d0
  rw [isD_iff, decide_eq_true_iff] at dd
  have ebl : bl (catV L V w) (L + m) 0 = 0 := by
    refine bl_stop ?_ ?_
    · unfold isS; rw [beqD, beqD, beqD, beqD, decide_eq_false (by omega), decide_eq_false (by omega), decide_eq_false (by omega), decide_eq_false (by omega)]; rfl
    · unfold dash; rw [beqD, decide_eq_false (by omega)]; rfl
  have ex : nx (L + m) (catV L V w) 0 = (false, 0, 2, L + m, wrapK k (wrapF .i64 (Int.ofNat u)), k) := by
    rw [nx_tk, ebl, Nat.ble_eq_true_of_le (show Nat.succ 0 ≤ L + m by omega)]
    show tk (L + m) (catV L V w) 0 = _
    unfold tk; rw [d0, eB, eT, eN, eK]; rfl
  have e0 : nxE (L + m) (catV L V w) 0 = false := by unfold nxE; rw [ex]
  have e5 : nxK (L + m) (catV L V w) 0 ≠ 5 := by unfold nxK; rw [ex]; exact (by decide : (2 : Nat) ≠ 5)
  have eX : nxX (L + m) (catV L V w) 0 = L + m := by unfold nxX nxL; rw [ebl, ex]; exact Nat.zero_add _
  have eTk : nxTok (L + m) (catV L V w) 0 = tok 2 (L + m) (subV (catV L V w) 0 (L + m)) (wrapK k (wrapF .i64 (Int.ofNat u))) k 0 := by
    unfold nxTok nxK nxL nxN nxT; rw [ex, ebl]
    show tok 2 (L + m) (subV (catV L V w) 0 (0 + (L + m))) _ k 0 = _
    rw [Nat.zero_add]
  rw [toks_next (Nat.zero_le _) e0 (by decide) e5, eX, eTk]
  have ebl2 : bl (catV L V w) (L + m) (L + m) = L + m := bl_end (by omega)
  have ex2 : nx (L + m) (catV L V w) (L + m) = (false, 0, 5, 0, .ofNat 0, 0) := by
    rw [nx_tk, ebl2, show Nat.ble (Nat.succ (L + m)) (L + m) = false by rw [bleD, decide_eq_false_iff_not]; omega]; rfl
  rw [toks_end (Nat.le_refl _) (by unfold nxE; rw [ex2]) (by decide) (by unfold nxK; rw [ex2])]
  have z : subV (catV L V w) (L + m) (L + m + 0) = 0 := by have := subV_lt (catV L V w) (L + m) (L + m + 0); simp at this; omega
  have eTk2 : nxTok (L + m) (catV L V w) (L + m) = tok 5 0 0 0 0 (L + m) := by
    unfold nxTok nxK nxL nxN nxT; rw [ex2, ebl2]
    show tok 5 0 (subV (catV L V w) (L + m) (L + m + 0)) _ 0 (L + m) = _
    rw [z]; rfl
  rw [eTk2]; rfl
theorem sub_minus {L V : Nat} (h : V < 256 ^ L) : subV (catV 1 45 V) 1 (1 + L) = V :=
  (subV_eq_of (by rw [Nat.add_sub_cancel_left]; exact h)).2 fun i hi => by rw [byteAt_cat_hi (by decide) (Nat.le_add_right _ _), Nat.add_sub_cancel_left]
theorem beq2 (a b : Nat) : (Nat.beq a a && Nat.beq b b && (true && Nat.ble 1 (Nat.succ 1))) = true := by rw [Nat.beq_refl, Nat.beq_refl]; rfl
/-- LexNumbers at a kind and a number answers true -/
def NumOK (k n : Int) : Prop := ∃ n0 v0 cells0, n0 ≤ 65536 ∧ toks n0 v0 0 [] 0 = ⟨true, 0, 0, cells0, 2⟩ ∧ ∀ e, Ran (numR e n0 v0 cells0 k n (fun v => v = .bool true))
theorem uN_pos {z : Int} (h0 : 0 ≤ z) (h : z < 18446744073709551616) : Int.ofNat (uN z) = z := by unfold uN; simp only [Int.ofNat_eq_natCast]; omega
theorem eqI_of {a b : Int} (h : a = b) : eqI a b = true := by rw [eqI_eq, h]; simp
theorem wrapF_in {z : Int} (h1 : -9223372036854775808 ≤ z) (h2 : z < 9223372036854775808) : wrapF .i64 z = z := by
  rw [wrap64]; split <;> omega
theorem worda2 : ∀ j, j < 2 → isW (byteAt 14441 j) = true
  | 0, _ => by kernel_rfl
  | 1, _ => by kernel_rfl
  | j + 2, hj => absurd hj (by omega)
theorem word2 : Word 2 14441 2 := ⟨by decide, by decide, by decide, worda2, by kernel_rfl, by kernel_rfl⟩
theorem numOK2 {n : Int} (h1 : -9223372036854775808 ≤ n) (h2 : n < 9223372036854775808) : NumOK (.ofNat 2) n := by
  have hz1 : -128 ≤ wrapK 2 n := by rw [wrapK_2]; split <;> omega
  have hz2 : wrapK 2 n < 128 := by rw [wrapK_2]; split <;> omega
  have hin : inR .i64 (wrapK 2 n) = true := (inR_iff _).2 ⟨by omega, by omega⟩
  have pos : 0 ≤ wrapK 2 n → NumOK (.ofNat 2) n := by
    intro h0
    have hlt : uN (wrapK 2 n) < 100000000000000000000 := by unfold uN; omega
    obtain ⟨D, hL⟩ := dec_of hlt
    have hu : uN (wrapK 2 n) ≤ mostK 2 := by show uN (wrapK 2 n) ≤ 128; unfold uN; omega
    have hN : wrapK 2 (wrapF .i64 (Int.ofNat (uN (wrapK 2 n)))) = wrapK 2 n := by
      rw [uN_pos (by omega) (by omega), wrapF_in (by omega) (by omega)]
      generalize wrapK 2 n = z at *
      rw [wrapK_2]; split <;> omega
    have t := num_toks D hL word2 (by decide) hu
    rw [hN] at t
    refine ⟨dL (uN (wrapK 2 n)) + 2, catV (dL (uN (wrapK 2 n))) (dV (uN (wrapK 2 n))) 14441, _, by omega, t, fun e => ⟨?_⟩⟩
    have h := numl_2 e (dL (uN (wrapK 2 n)) + 2) (catV (dL (uN (wrapK 2 n))) (dV (uN (wrapK 2 n))) 14441) n (subV (catV (dL (uN (wrapK 2 n))) (dV (uN (wrapK 2 n))) 14441) 0 (dL (uN (wrapK 2 n)) + 2)) (wrapK 2 n) (fun v => v = .bool true)
    rw [h]; clear h
    have eU : uL (wrapK 2 n) = dL (uN (wrapK 2 n)) := rfl
    have eV : uV (wrapK 2 n) = dV (uN (wrapK 2 n)) := rfl
    have hb : Nat.ble (Nat.add (dL (uN (wrapK 2 n))) 2) 9223372036854775807 = true := Nat.ble_eq_true_of_le (by show dL (uN (wrapK 2 n)) + 2 ≤ _; omega)
    rw [eU, eV]
    refine bcase_t hin ?_
    rw [show ltI (wrapK 2 n) (Int.ofNat 0) = false by rw [ltI_eq, decide_eq_false_iff_not]; simp only [Int.ofNat_eq_natCast]; omega]
    refine bcase_t hb (bcase_t (beq2 _ _) ?_)
    rw [eqI_of rfl]; rfl
  rcases Int.lt_or_le (wrapK 2 n) 0 with h0 | h0
  · have hlt : (-(wrapK 2 n)).toNat < 100000000000000000000 := by omega
    obtain ⟨D, hL⟩ := dec_of hlt
    have hu : (-(wrapK 2 n)).toNat ≤ mostK 2 := by show (-(wrapK 2 n)).toNat ≤ 128; omega
    have hO : Int.ofNat (-(wrapK 2 n)).toNat = Int.ofNat 0 - wrapK 2 n := by simp only [Int.ofNat_eq_natCast]; omega
    have t := num_toks D hL word2 (by decide) hu
    rw [hO] at t
    have lt0 : ltI (wrapK 2 n) (Int.ofNat 0) = true := by rw [ltI_eq, decide_eq_true_iff]; exact h0
    have eU : sL (wrapK 2 n) = 1 + dL (-(wrapK 2 n)).toNat := by unfold sL; rw [lt0]; rfl
    have eV : sV (wrapK 2 n) = catV 1 45 (dV (-(wrapK 2 n)).toNat) := by unfold sV; rw [lt0]; rfl
    refine ⟨dL (-(wrapK 2 n)).toNat + 2, catV (dL (-(wrapK 2 n)).toNat) (dV (-(wrapK 2 n)).toNat) 14441, _, by omega, t, fun e => ⟨?_⟩⟩
    have h := numl_2 e (dL (-(wrapK 2 n)).toNat + 2) (catV (dL (-(wrapK 2 n)).toNat) (dV (-(wrapK 2 n)).toNat) 14441) n (subV (catV (dL (-(wrapK 2 n)).toNat) (dV (-(wrapK 2 n)).toNat) 14441) 0 (dL (-(wrapK 2 n)).toNat + 2)) (wrapK 2 (wrapF .i64 (Int.ofNat 0 - wrapK 2 n))) (fun v => v = .bool true)
    rw [h]; clear h
    rw [eU, eV]
    have e1 : Nat.sub (1 + dL (-(wrapK 2 n)).toNat) 1 = dL (-(wrapK 2 n)).toNat := Nat.add_sub_cancel_left _ _
    rw [e1, sub_minus D.lt]
    have hb : Nat.ble (Nat.add (dL (-(wrapK 2 n)).toNat) 2) 9223372036854775807 = true := Nat.ble_eq_true_of_le (by show dL (-(wrapK 2 n)).toNat + 2 ≤ _; omega)
    refine bcase_t hin ?_
    rw [lt0]
    refine bcase_t hin (bcase_t ?_ (bcase_t hb (bcase_t (beq2 _ _) ?_)))
    · exact and2 (Nat.ble_eq_true_of_le (Nat.le_refl _)) (Nat.ble_eq_true_of_le (Nat.le_add_right _ _))
    refine bcase_mk (fun q => ?_) (fun q => ?_)
    · rw [eqI_eq, beq_iff_eq] at q
      rw [eqI_of q.symm]; rfl
    · rw [eqI_eq, beq_eq_false_iff_ne] at q
      have hw : wrapK 2 (wrapF .i64 (Int.ofNat 0 - wrapK 2 n)) = wrapF .i64 (Int.ofNat 0 - wrapK 2 n) := by
        rw [wrapF_in (by simp only [Int.ofNat_eq_natCast]; omega) (by simp only [Int.ofNat_eq_natCast]; omega)] at q ⊢
        generalize wrapK 2 n = z at *
        rw [wrapK_2] at q ⊢
        simp only [Int.ofNat_eq_natCast] at q ⊢
        split <;> (revert q; split <;> omega)
      rw [eqI_of hw]; rfl
  · exact pos h0
theorem worda3 : ∀ j, j < 3 → isW (byteAt 3551593 j) = true
  | 0, _ => by kernel_rfl
  | 1, _ => by kernel_rfl
  | 2, _ => by kernel_rfl
  | j + 3, hj => absurd hj (by omega)
theorem word3 : Word 3 3551593 3 := ⟨by decide, by decide, by decide, worda3, by kernel_rfl, by kernel_rfl⟩
theorem numOK3 {n : Int} (h1 : -9223372036854775808 ≤ n) (h2 : n < 9223372036854775808) : NumOK (.ofNat 3) n := by
  have hz1 : -32768 ≤ wrapK 3 n := by rw [wrapK_3]; split <;> omega
  have hz2 : wrapK 3 n < 32768 := by rw [wrapK_3]; split <;> omega
  have hin : inR .i64 (wrapK 3 n) = true := (inR_iff _).2 ⟨by omega, by omega⟩
  have pos : 0 ≤ wrapK 3 n → NumOK (.ofNat 3) n := by
    intro h0
    have hlt : uN (wrapK 3 n) < 100000000000000000000 := by unfold uN; omega
    obtain ⟨D, hL⟩ := dec_of hlt
    have hu : uN (wrapK 3 n) ≤ mostK 3 := by show uN (wrapK 3 n) ≤ 32768; unfold uN; omega
    have hN : wrapK 3 (wrapF .i64 (Int.ofNat (uN (wrapK 3 n)))) = wrapK 3 n := by
      rw [uN_pos (by omega) (by omega), wrapF_in (by omega) (by omega)]
      generalize wrapK 3 n = z at *
      rw [wrapK_3]; split <;> omega
    have t := num_toks D hL word3 (by decide) hu
    rw [hN] at t
    refine ⟨dL (uN (wrapK 3 n)) + 3, catV (dL (uN (wrapK 3 n))) (dV (uN (wrapK 3 n))) 3551593, _, by omega, t, fun e => ⟨?_⟩⟩
    have h := numl_3 e (dL (uN (wrapK 3 n)) + 3) (catV (dL (uN (wrapK 3 n))) (dV (uN (wrapK 3 n))) 3551593) n (subV (catV (dL (uN (wrapK 3 n))) (dV (uN (wrapK 3 n))) 3551593) 0 (dL (uN (wrapK 3 n)) + 3)) (wrapK 3 n) (fun v => v = .bool true)
    rw [h]; clear h
    have eU : uL (wrapK 3 n) = dL (uN (wrapK 3 n)) := rfl
    have eV : uV (wrapK 3 n) = dV (uN (wrapK 3 n)) := rfl
    have hb : Nat.ble (Nat.add (dL (uN (wrapK 3 n))) 3) 9223372036854775807 = true := Nat.ble_eq_true_of_le (by show dL (uN (wrapK 3 n)) + 3 ≤ _; omega)
    rw [eU, eV]
    refine bcase_t hin ?_
    rw [show ltI (wrapK 3 n) (Int.ofNat 0) = false by rw [ltI_eq, decide_eq_false_iff_not]; simp only [Int.ofNat_eq_natCast]; omega]
    refine bcase_t hb (bcase_t (beq2 _ _) ?_)
    rw [eqI_of rfl]; rfl
  rcases Int.lt_or_le (wrapK 3 n) 0 with h0 | h0
  · have hlt : (-(wrapK 3 n)).toNat < 100000000000000000000 := by omega
    obtain ⟨D, hL⟩ := dec_of hlt
    have hu : (-(wrapK 3 n)).toNat ≤ mostK 3 := by show (-(wrapK 3 n)).toNat ≤ 32768; omega
    have hO : Int.ofNat (-(wrapK 3 n)).toNat = Int.ofNat 0 - wrapK 3 n := by simp only [Int.ofNat_eq_natCast]; omega
    have t := num_toks D hL word3 (by decide) hu
    rw [hO] at t
    have lt0 : ltI (wrapK 3 n) (Int.ofNat 0) = true := by rw [ltI_eq, decide_eq_true_iff]; exact h0
    have eU : sL (wrapK 3 n) = 1 + dL (-(wrapK 3 n)).toNat := by unfold sL; rw [lt0]; rfl
    have eV : sV (wrapK 3 n) = catV 1 45 (dV (-(wrapK 3 n)).toNat) := by unfold sV; rw [lt0]; rfl
    refine ⟨dL (-(wrapK 3 n)).toNat + 3, catV (dL (-(wrapK 3 n)).toNat) (dV (-(wrapK 3 n)).toNat) 3551593, _, by omega, t, fun e => ⟨?_⟩⟩
    have h := numl_3 e (dL (-(wrapK 3 n)).toNat + 3) (catV (dL (-(wrapK 3 n)).toNat) (dV (-(wrapK 3 n)).toNat) 3551593) n (subV (catV (dL (-(wrapK 3 n)).toNat) (dV (-(wrapK 3 n)).toNat) 3551593) 0 (dL (-(wrapK 3 n)).toNat + 3)) (wrapK 3 (wrapF .i64 (Int.ofNat 0 - wrapK 3 n))) (fun v => v = .bool true)
    rw [h]; clear h
    rw [eU, eV]
    have e1 : Nat.sub (1 + dL (-(wrapK 3 n)).toNat) 1 = dL (-(wrapK 3 n)).toNat := Nat.add_sub_cancel_left _ _
    rw [e1, sub_minus D.lt]
    have hb : Nat.ble (Nat.add (dL (-(wrapK 3 n)).toNat) 3) 9223372036854775807 = true := Nat.ble_eq_true_of_le (by show dL (-(wrapK 3 n)).toNat + 3 ≤ _; omega)
    refine bcase_t hin ?_
    rw [lt0]
    refine bcase_t hin (bcase_t ?_ (bcase_t hb (bcase_t (beq2 _ _) ?_)))
    · exact and2 (Nat.ble_eq_true_of_le (Nat.le_refl _)) (Nat.ble_eq_true_of_le (Nat.le_add_right _ _))
    refine bcase_mk (fun q => ?_) (fun q => ?_)
    · rw [eqI_eq, beq_iff_eq] at q
      rw [eqI_of q.symm]; rfl
    · rw [eqI_eq, beq_eq_false_iff_ne] at q
      have hw : wrapK 3 (wrapF .i64 (Int.ofNat 0 - wrapK 3 n)) = wrapF .i64 (Int.ofNat 0 - wrapK 3 n) := by
        rw [wrapF_in (by simp only [Int.ofNat_eq_natCast]; omega) (by simp only [Int.ofNat_eq_natCast]; omega)] at q ⊢
        generalize wrapK 3 n = z at *
        rw [wrapK_3] at q ⊢
        simp only [Int.ofNat_eq_natCast] at q ⊢
        split <;> (revert q; split <;> omega)
      rw [eqI_of hw]; rfl
  · exact pos h0
theorem worda4 : ∀ j, j < 3 → isW (byteAt 3289961 j) = true
  | 0, _ => by kernel_rfl
  | 1, _ => by kernel_rfl
  | 2, _ => by kernel_rfl
  | j + 3, hj => absurd hj (by omega)
theorem word4 : Word 3 3289961 4 := ⟨by decide, by decide, by decide, worda4, by kernel_rfl, by kernel_rfl⟩
theorem numOK4 {n : Int} (h1 : -9223372036854775808 ≤ n) (h2 : n < 9223372036854775808) : NumOK (.ofNat 4) n := by
  have hz1 : -2147483648 ≤ wrapK 4 n := by rw [wrapK_4]; split <;> omega
  have hz2 : wrapK 4 n < 2147483648 := by rw [wrapK_4]; split <;> omega
  have hin : inR .i64 (wrapK 4 n) = true := (inR_iff _).2 ⟨by omega, by omega⟩
  have pos : 0 ≤ wrapK 4 n → NumOK (.ofNat 4) n := by
    intro h0
    have hlt : uN (wrapK 4 n) < 100000000000000000000 := by unfold uN; omega
    obtain ⟨D, hL⟩ := dec_of hlt
    have hu : uN (wrapK 4 n) ≤ mostK 4 := by show uN (wrapK 4 n) ≤ 2147483648; unfold uN; omega
    have hN : wrapK 4 (wrapF .i64 (Int.ofNat (uN (wrapK 4 n)))) = wrapK 4 n := by
      rw [uN_pos (by omega) (by omega), wrapF_in (by omega) (by omega)]
      generalize wrapK 4 n = z at *
      rw [wrapK_4]; split <;> omega
    have t := num_toks D hL word4 (by decide) hu
    rw [hN] at t
    refine ⟨dL (uN (wrapK 4 n)) + 3, catV (dL (uN (wrapK 4 n))) (dV (uN (wrapK 4 n))) 3289961, _, by omega, t, fun e => ⟨?_⟩⟩
    have h := numl_4 e (dL (uN (wrapK 4 n)) + 3) (catV (dL (uN (wrapK 4 n))) (dV (uN (wrapK 4 n))) 3289961) n (subV (catV (dL (uN (wrapK 4 n))) (dV (uN (wrapK 4 n))) 3289961) 0 (dL (uN (wrapK 4 n)) + 3)) (wrapK 4 n) (fun v => v = .bool true)
    rw [h]; clear h
    have eU : uL (wrapK 4 n) = dL (uN (wrapK 4 n)) := rfl
    have eV : uV (wrapK 4 n) = dV (uN (wrapK 4 n)) := rfl
    have hb : Nat.ble (Nat.add (dL (uN (wrapK 4 n))) 3) 9223372036854775807 = true := Nat.ble_eq_true_of_le (by show dL (uN (wrapK 4 n)) + 3 ≤ _; omega)
    rw [eU, eV]
    refine bcase_t hin ?_
    rw [show ltI (wrapK 4 n) (Int.ofNat 0) = false by rw [ltI_eq, decide_eq_false_iff_not]; simp only [Int.ofNat_eq_natCast]; omega]
    refine bcase_t hb (bcase_t (beq2 _ _) ?_)
    rw [eqI_of rfl]; rfl
  rcases Int.lt_or_le (wrapK 4 n) 0 with h0 | h0
  · have hlt : (-(wrapK 4 n)).toNat < 100000000000000000000 := by omega
    obtain ⟨D, hL⟩ := dec_of hlt
    have hu : (-(wrapK 4 n)).toNat ≤ mostK 4 := by show (-(wrapK 4 n)).toNat ≤ 2147483648; omega
    have hO : Int.ofNat (-(wrapK 4 n)).toNat = Int.ofNat 0 - wrapK 4 n := by simp only [Int.ofNat_eq_natCast]; omega
    have t := num_toks D hL word4 (by decide) hu
    rw [hO] at t
    have lt0 : ltI (wrapK 4 n) (Int.ofNat 0) = true := by rw [ltI_eq, decide_eq_true_iff]; exact h0
    have eU : sL (wrapK 4 n) = 1 + dL (-(wrapK 4 n)).toNat := by unfold sL; rw [lt0]; rfl
    have eV : sV (wrapK 4 n) = catV 1 45 (dV (-(wrapK 4 n)).toNat) := by unfold sV; rw [lt0]; rfl
    refine ⟨dL (-(wrapK 4 n)).toNat + 3, catV (dL (-(wrapK 4 n)).toNat) (dV (-(wrapK 4 n)).toNat) 3289961, _, by omega, t, fun e => ⟨?_⟩⟩
    have h := numl_4 e (dL (-(wrapK 4 n)).toNat + 3) (catV (dL (-(wrapK 4 n)).toNat) (dV (-(wrapK 4 n)).toNat) 3289961) n (subV (catV (dL (-(wrapK 4 n)).toNat) (dV (-(wrapK 4 n)).toNat) 3289961) 0 (dL (-(wrapK 4 n)).toNat + 3)) (wrapK 4 (wrapF .i64 (Int.ofNat 0 - wrapK 4 n))) (fun v => v = .bool true)
    rw [h]; clear h
    rw [eU, eV]
    have e1 : Nat.sub (1 + dL (-(wrapK 4 n)).toNat) 1 = dL (-(wrapK 4 n)).toNat := Nat.add_sub_cancel_left _ _
    rw [e1, sub_minus D.lt]
    have hb : Nat.ble (Nat.add (dL (-(wrapK 4 n)).toNat) 3) 9223372036854775807 = true := Nat.ble_eq_true_of_le (by show dL (-(wrapK 4 n)).toNat + 3 ≤ _; omega)
    refine bcase_t hin ?_
    rw [lt0]
    refine bcase_t hin (bcase_t ?_ (bcase_t hb (bcase_t (beq2 _ _) ?_)))
    · exact and2 (Nat.ble_eq_true_of_le (Nat.le_refl _)) (Nat.ble_eq_true_of_le (Nat.le_add_right _ _))
    refine bcase_mk (fun q => ?_) (fun q => ?_)
    · rw [eqI_eq, beq_iff_eq] at q
      rw [eqI_of q.symm]; rfl
    · rw [eqI_eq, beq_eq_false_iff_ne] at q
      have hw : wrapK 4 (wrapF .i64 (Int.ofNat 0 - wrapK 4 n)) = wrapF .i64 (Int.ofNat 0 - wrapK 4 n) := by
        rw [wrapF_in (by simp only [Int.ofNat_eq_natCast]; omega) (by simp only [Int.ofNat_eq_natCast]; omega)] at q ⊢
        generalize wrapK 4 n = z at *
        rw [wrapK_4] at q ⊢
        simp only [Int.ofNat_eq_natCast] at q ⊢
        split <;> (revert q; split <;> omega)
      rw [eqI_of hw]; rfl
  · exact pos h0
theorem worda5 : ∀ j, j < 3 → isW (byteAt 3421801 j) = true
  | 0, _ => by kernel_rfl
  | 1, _ => by kernel_rfl
  | 2, _ => by kernel_rfl
  | j + 3, hj => absurd hj (by omega)
theorem word5 : Word 3 3421801 5 := ⟨by decide, by decide, by decide, worda5, by kernel_rfl, by kernel_rfl⟩
theorem numOK5 {n : Int} (h1 : -9223372036854775808 ≤ n) (h2 : n < 9223372036854775808) : NumOK (.ofNat 5) n := by
  have hz1 : -9223372036854775808 ≤ wrapK 5 n := h1
  have hz2 : wrapK 5 n < 9223372036854775808 := h2
  have hin : inR .i64 (wrapK 5 n) = true := (inR_iff _).2 ⟨by omega, by omega⟩
  have pos : 0 ≤ wrapK 5 n → NumOK (.ofNat 5) n := by
    intro h0
    have hlt : uN (wrapK 5 n) < 100000000000000000000 := by unfold uN; omega
    obtain ⟨D, hL⟩ := dec_of hlt
    have hu : uN (wrapK 5 n) ≤ mostK 5 := by show uN (wrapK 5 n) ≤ 9223372036854775808; unfold uN; omega
    have hN : wrapK 5 (wrapF .i64 (Int.ofNat (uN (wrapK 5 n)))) = wrapK 5 n := by
      rw [uN_pos (by omega) (by omega), wrapF_in (by omega) (by omega)]
      generalize wrapK 5 n = z at *
      rfl
    have t := num_toks D hL word5 (by decide) hu
    rw [hN] at t
    refine ⟨dL (uN (wrapK 5 n)) + 3, catV (dL (uN (wrapK 5 n))) (dV (uN (wrapK 5 n))) 3421801, _, by omega, t, fun e => ⟨?_⟩⟩
    have h := numl_5 e (dL (uN (wrapK 5 n)) + 3) (catV (dL (uN (wrapK 5 n))) (dV (uN (wrapK 5 n))) 3421801) n (subV (catV (dL (uN (wrapK 5 n))) (dV (uN (wrapK 5 n))) 3421801) 0 (dL (uN (wrapK 5 n)) + 3)) (wrapK 5 n) (fun v => v = .bool true)
    rw [h]; clear h
    have eU : uL (wrapK 5 n) = dL (uN (wrapK 5 n)) := rfl
    have eV : uV (wrapK 5 n) = dV (uN (wrapK 5 n)) := rfl
    have hb : Nat.ble (Nat.add (dL (uN (wrapK 5 n))) 3) 9223372036854775807 = true := Nat.ble_eq_true_of_le (by show dL (uN (wrapK 5 n)) + 3 ≤ _; omega)
    rw [eU, eV]
    refine bcase_t hin ?_
    rw [show ltI (wrapK 5 n) (Int.ofNat 0) = false by rw [ltI_eq, decide_eq_false_iff_not]; simp only [Int.ofNat_eq_natCast]; omega]
    refine bcase_t hb (bcase_t (beq2 _ _) ?_)
    rw [eqI_of rfl]; rfl
  rcases Int.lt_or_le (wrapK 5 n) 0 with h0 | h0
  · have hlt : (-(wrapK 5 n)).toNat < 100000000000000000000 := by omega
    obtain ⟨D, hL⟩ := dec_of hlt
    have hu : (-(wrapK 5 n)).toNat ≤ mostK 5 := by show (-(wrapK 5 n)).toNat ≤ 9223372036854775808; omega
    have hO : Int.ofNat (-(wrapK 5 n)).toNat = Int.ofNat 0 - wrapK 5 n := by simp only [Int.ofNat_eq_natCast]; omega
    have t := num_toks D hL word5 (by decide) hu
    rw [hO] at t
    have lt0 : ltI (wrapK 5 n) (Int.ofNat 0) = true := by rw [ltI_eq, decide_eq_true_iff]; exact h0
    have eU : sL (wrapK 5 n) = 1 + dL (-(wrapK 5 n)).toNat := by unfold sL; rw [lt0]; rfl
    have eV : sV (wrapK 5 n) = catV 1 45 (dV (-(wrapK 5 n)).toNat) := by unfold sV; rw [lt0]; rfl
    refine ⟨dL (-(wrapK 5 n)).toNat + 3, catV (dL (-(wrapK 5 n)).toNat) (dV (-(wrapK 5 n)).toNat) 3421801, _, by omega, t, fun e => ⟨?_⟩⟩
    have h := numl_5 e (dL (-(wrapK 5 n)).toNat + 3) (catV (dL (-(wrapK 5 n)).toNat) (dV (-(wrapK 5 n)).toNat) 3421801) n (subV (catV (dL (-(wrapK 5 n)).toNat) (dV (-(wrapK 5 n)).toNat) 3421801) 0 (dL (-(wrapK 5 n)).toNat + 3)) (wrapK 5 (wrapF .i64 (Int.ofNat 0 - wrapK 5 n))) (fun v => v = .bool true)
    rw [h]; clear h
    rw [eU, eV]
    have e1 : Nat.sub (1 + dL (-(wrapK 5 n)).toNat) 1 = dL (-(wrapK 5 n)).toNat := Nat.add_sub_cancel_left _ _
    rw [e1, sub_minus D.lt]
    have hb : Nat.ble (Nat.add (dL (-(wrapK 5 n)).toNat) 3) 9223372036854775807 = true := Nat.ble_eq_true_of_le (by show dL (-(wrapK 5 n)).toNat + 3 ≤ _; omega)
    refine bcase_t hin ?_
    rw [lt0]
    refine bcase_t hin (bcase_t ?_ (bcase_t hb (bcase_t (beq2 _ _) ?_)))
    · exact and2 (Nat.ble_eq_true_of_le (Nat.le_refl _)) (Nat.ble_eq_true_of_le (Nat.le_add_right _ _))
    refine bcase_mk (fun q => ?_) (fun q => ?_)
    · rw [eqI_eq, beq_iff_eq] at q
      rw [eqI_of q.symm]; rfl
    · rw [eqI_eq, beq_eq_false_iff_ne] at q
      have hw : wrapK 5 (wrapF .i64 (Int.ofNat 0 - wrapK 5 n)) = wrapF .i64 (Int.ofNat 0 - wrapK 5 n) := by
        rfl
      rw [eqI_of hw]; rfl
  · exact pos h0
theorem worda6 : ∀ j, j < 2 → isW (byteAt 14453 j) = true
  | 0, _ => by kernel_rfl
  | 1, _ => by kernel_rfl
  | j + 2, hj => absurd hj (by omega)
theorem word6 : Word 2 14453 6 := ⟨by decide, by decide, by decide, worda6, by kernel_rfl, by kernel_rfl⟩
theorem numOK6 {n : Int} (h1 : -9223372036854775808 ≤ n) (h2 : n < 9223372036854775808) : NumOK (.ofNat 6) n := by
  have hz1 : 0 ≤ wrapK 6 n := by rw [wrapK_6]; omega
  have hz2 : wrapK 6 n < 256 := by rw [wrapK_6]; omega
  have hin : inR .i64 (wrapK 6 n) = true := (inR_iff _).2 ⟨by omega, by omega⟩
  have pos : NumOK (.ofNat 6) n := by
    skip
    have hlt : uN (wrapK 6 n) < 100000000000000000000 := by unfold uN; omega
    obtain ⟨D, hL⟩ := dec_of hlt
    have hu : uN (wrapK 6 n) ≤ mostK 6 := by show uN (wrapK 6 n) ≤ 255; unfold uN; omega
    have hN : wrapK 6 (wrapF .i64 (Int.ofNat (uN (wrapK 6 n)))) = wrapK 6 n := by
      rw [uN_pos (by omega) (by omega), wrapF_in (by omega) (by omega)]
      generalize wrapK 6 n = z at *
      rw [wrapK_6]; omega
    have t := num_toks D hL word6 (by decide) hu
    rw [hN] at t
    refine ⟨dL (uN (wrapK 6 n)) + 2, catV (dL (uN (wrapK 6 n))) (dV (uN (wrapK 6 n))) 14453, _, by omega, t, fun e => ⟨?_⟩⟩
    have h := numl_6 e (dL (uN (wrapK 6 n)) + 2) (catV (dL (uN (wrapK 6 n))) (dV (uN (wrapK 6 n))) 14453) n (subV (catV (dL (uN (wrapK 6 n))) (dV (uN (wrapK 6 n))) 14453) 0 (dL (uN (wrapK 6 n)) + 2)) (wrapK 6 n) (fun v => v = .bool true)
    rw [h]; clear h
    have eU : uL (wrapK 6 n) = dL (uN (wrapK 6 n)) := rfl
    have eV : uV (wrapK 6 n) = dV (uN (wrapK 6 n)) := rfl
    have hb : Nat.ble (Nat.add (dL (uN (wrapK 6 n))) 2) 9223372036854775807 = true := Nat.ble_eq_true_of_le (by show dL (uN (wrapK 6 n)) + 2 ≤ _; omega)
    rw [eU, eV]
    refine bcase_t hin ?_
    skip
    refine bcase_t hb (bcase_t (beq2 _ _) ?_)
    rw [eqI_of rfl]; rfl
  exact pos
theorem worda7 : ∀ j, j < 3 → isW (byteAt 3551605 j) = true
  | 0, _ => by kernel_rfl
  | 1, _ => by kernel_rfl
  | 2, _ => by kernel_rfl
  | j + 3, hj => absurd hj (by omega)
theorem word7 : Word 3 3551605 7 := ⟨by decide, by decide, by decide, worda7, by kernel_rfl, by kernel_rfl⟩
theorem numOK7 {n : Int} (h1 : -9223372036854775808 ≤ n) (h2 : n < 9223372036854775808) : NumOK (.ofNat 7) n := by
  have hz1 : 0 ≤ wrapK 7 n := by rw [wrapK_7]; omega
  have hz2 : wrapK 7 n < 65536 := by rw [wrapK_7]; omega
  have hin : inR .i64 (wrapK 7 n) = true := (inR_iff _).2 ⟨by omega, by omega⟩
  have pos : NumOK (.ofNat 7) n := by
    skip
    have hlt : uN (wrapK 7 n) < 100000000000000000000 := by unfold uN; omega
    obtain ⟨D, hL⟩ := dec_of hlt
    have hu : uN (wrapK 7 n) ≤ mostK 7 := by show uN (wrapK 7 n) ≤ 65535; unfold uN; omega
    have hN : wrapK 7 (wrapF .i64 (Int.ofNat (uN (wrapK 7 n)))) = wrapK 7 n := by
      rw [uN_pos (by omega) (by omega), wrapF_in (by omega) (by omega)]
      generalize wrapK 7 n = z at *
      rw [wrapK_7]; omega
    have t := num_toks D hL word7 (by decide) hu
    rw [hN] at t
    refine ⟨dL (uN (wrapK 7 n)) + 3, catV (dL (uN (wrapK 7 n))) (dV (uN (wrapK 7 n))) 3551605, _, by omega, t, fun e => ⟨?_⟩⟩
    have h := numl_7 e (dL (uN (wrapK 7 n)) + 3) (catV (dL (uN (wrapK 7 n))) (dV (uN (wrapK 7 n))) 3551605) n (subV (catV (dL (uN (wrapK 7 n))) (dV (uN (wrapK 7 n))) 3551605) 0 (dL (uN (wrapK 7 n)) + 3)) (wrapK 7 n) (fun v => v = .bool true)
    rw [h]; clear h
    have eU : uL (wrapK 7 n) = dL (uN (wrapK 7 n)) := rfl
    have eV : uV (wrapK 7 n) = dV (uN (wrapK 7 n)) := rfl
    have hb : Nat.ble (Nat.add (dL (uN (wrapK 7 n))) 3) 9223372036854775807 = true := Nat.ble_eq_true_of_le (by show dL (uN (wrapK 7 n)) + 3 ≤ _; omega)
    rw [eU, eV]
    refine bcase_t hin ?_
    skip
    refine bcase_t hb (bcase_t (beq2 _ _) ?_)
    rw [eqI_of rfl]; rfl
  exact pos
theorem worda8 : ∀ j, j < 3 → isW (byteAt 3289973 j) = true
  | 0, _ => by kernel_rfl
  | 1, _ => by kernel_rfl
  | 2, _ => by kernel_rfl
  | j + 3, hj => absurd hj (by omega)
theorem word8 : Word 3 3289973 8 := ⟨by decide, by decide, by decide, worda8, by kernel_rfl, by kernel_rfl⟩
theorem numOK8 {n : Int} (h1 : -9223372036854775808 ≤ n) (h2 : n < 9223372036854775808) : NumOK (.ofNat 8) n := by
  have hz1 : 0 ≤ wrapK 8 n := by rw [wrapK_8]; omega
  have hz2 : wrapK 8 n < 4294967296 := by rw [wrapK_8]; omega
  have hin : inR .i64 (wrapK 8 n) = true := (inR_iff _).2 ⟨by omega, by omega⟩
  have pos : NumOK (.ofNat 8) n := by
    skip
    have hlt : uN (wrapK 8 n) < 100000000000000000000 := by unfold uN; omega
    obtain ⟨D, hL⟩ := dec_of hlt
    have hu : uN (wrapK 8 n) ≤ mostK 8 := by show uN (wrapK 8 n) ≤ 4294967295; unfold uN; omega
    have hN : wrapK 8 (wrapF .i64 (Int.ofNat (uN (wrapK 8 n)))) = wrapK 8 n := by
      rw [uN_pos (by omega) (by omega), wrapF_in (by omega) (by omega)]
      generalize wrapK 8 n = z at *
      rw [wrapK_8]; omega
    have t := num_toks D hL word8 (by decide) hu
    rw [hN] at t
    refine ⟨dL (uN (wrapK 8 n)) + 3, catV (dL (uN (wrapK 8 n))) (dV (uN (wrapK 8 n))) 3289973, _, by omega, t, fun e => ⟨?_⟩⟩
    have h := numl_8 e (dL (uN (wrapK 8 n)) + 3) (catV (dL (uN (wrapK 8 n))) (dV (uN (wrapK 8 n))) 3289973) n (subV (catV (dL (uN (wrapK 8 n))) (dV (uN (wrapK 8 n))) 3289973) 0 (dL (uN (wrapK 8 n)) + 3)) (wrapK 8 n) (fun v => v = .bool true)
    rw [h]; clear h
    have eU : uL (wrapK 8 n) = dL (uN (wrapK 8 n)) := rfl
    have eV : uV (wrapK 8 n) = dV (uN (wrapK 8 n)) := rfl
    have hb : Nat.ble (Nat.add (dL (uN (wrapK 8 n))) 3) 9223372036854775807 = true := Nat.ble_eq_true_of_le (by show dL (uN (wrapK 8 n)) + 3 ≤ _; omega)
    rw [eU, eV]
    refine bcase_t hin ?_
    skip
    refine bcase_t hb (bcase_t (beq2 _ _) ?_)
    rw [eqI_of rfl]; rfl
  exact pos
theorem worda9 : ∀ j, j < 3 → isW (byteAt 3421813 j) = true
  | 0, _ => by kernel_rfl
  | 1, _ => by kernel_rfl
  | 2, _ => by kernel_rfl
  | j + 3, hj => absurd hj (by omega)
theorem word9 : Word 3 3421813 9 := ⟨by decide, by decide, by decide, worda9, by kernel_rfl, by kernel_rfl⟩
theorem numOK9 {n : Int} (h1 : -9223372036854775808 ≤ n) (h2 : n < 9223372036854775808) : NumOK (.ofNat 9) n := by
  have hz1 : -9223372036854775808 ≤ wrapK 9 n := h1
  have hz2 : wrapK 9 n < 9223372036854775808 := h2
  have hin : inR .i64 (wrapK 9 n) = true := (inR_iff _).2 ⟨by omega, by omega⟩
  have pos : NumOK (.ofNat 9) n := by
    skip
    have hlt : uN (wrapK 9 n) < 100000000000000000000 := by unfold uN; omega
    obtain ⟨D, hL⟩ := dec_of hlt
    have hu : uN (wrapK 9 n) ≤ mostK 9 := by show uN (wrapK 9 n) ≤ 18446744073709551615; unfold uN; omega
    have hN : wrapK 9 (wrapF .i64 (Int.ofNat (uN (wrapK 9 n)))) = wrapK 9 n := by
      show wrapF .i64 (Int.ofNat (uN (wrapK 9 n))) = wrapK 9 n
      have e : Int.ofNat (uN (wrapK 9 n)) = wrapK 9 n % 18446744073709551616 := by unfold uN; simp only [Int.ofNat_eq_natCast]; omega
      rw [e, wrap64]; split <;> omega
    have t := num_toks D hL word9 (by decide) hu
    rw [hN] at t
    refine ⟨dL (uN (wrapK 9 n)) + 3, catV (dL (uN (wrapK 9 n))) (dV (uN (wrapK 9 n))) 3421813, _, by omega, t, fun e => ⟨?_⟩⟩
    have h := numl_9 e (dL (uN (wrapK 9 n)) + 3) (catV (dL (uN (wrapK 9 n))) (dV (uN (wrapK 9 n))) 3421813) n (subV (catV (dL (uN (wrapK 9 n))) (dV (uN (wrapK 9 n))) 3421813) 0 (dL (uN (wrapK 9 n)) + 3)) (wrapK 9 n) (fun v => v = .bool true)
    rw [h]; clear h
    have eU : uL (wrapK 9 n) = dL (uN (wrapK 9 n)) := rfl
    have eV : uV (wrapK 9 n) = dV (uN (wrapK 9 n)) := rfl
    have hb : Nat.ble (Nat.add (dL (uN (wrapK 9 n))) 3) 9223372036854775807 = true := Nat.ble_eq_true_of_le (by show dL (uN (wrapK 9 n)) + 3 ≤ _; omega)
    rw [eU, eV]
    refine bcase_t hin ?_
    skip
    refine bcase_t hb (bcase_t (beq2 _ _) ?_)
    rw [eqI_of rfl]; rfl
  exact pos
theorem numAny {k n : Int} (h1 : -9223372036854775808 ≤ n) (h2 : n < 9223372036854775808) : NumOK k n := by
  have any : (∀ n0 v0 cells0 e, numR e n0 v0 cells0 k n (fun v => v = .bool true) = (AV.bool true = .bool true)) → NumOK k n := fun h => by
    have t := num_toks (dec_one (c := 0) (by decide)) (by decide) word2 (by decide) (by decide)
    exact ⟨_, _, _, by decide, t, fun e => ⟨by rw [h]⟩⟩
  cases k with
  | negSucc j => exact any fun n0 v0 cells0 e => numl_m e n0 v0 cells0 j n _
  | ofNat j =>
    match j with
    | 0 => exact any fun n0 v0 cells0 e => numl_0 e n0 v0 cells0 n _
    | 1 => exact any fun n0 v0 cells0 e => numl_1 e n0 v0 cells0 n _
    | 2 => exact numOK2 h1 h2
    | 3 => exact numOK3 h1 h2
    | 4 => exact numOK4 h1 h2
    | 5 => exact numOK5 h1 h2
    | 6 => exact numOK6 h1 h2
    | 7 => exact numOK7 h1 h2
    | 8 => exact numOK8 h1 h2
    | 9 => exact numOK9 h1 h2
    | j + 10 => exact any fun n0 v0 cells0 e => numl_b e n0 v0 cells0 j n _
end
end Go.Proofs.YtoeoaiipchklbaaDoor

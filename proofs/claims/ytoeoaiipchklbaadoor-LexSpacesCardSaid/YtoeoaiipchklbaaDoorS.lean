/- A text behind others: what stands in it stands there as it does alone. -/
import Derived.Test.YtoeoaiipchklbaaDoorL5
set_option linter.unusedVariables false
set_option autoImplicit false
set_option linter.unusedVariables false
set_option maxRecDepth 100000
namespace Go.Proofs.YtoeoaiipchklbaaDoor
noncomputable section
open Go.X
/-- the text w of m bytes stands at the end of the text v of n bytes, from a on -/
structure Sh (a m w n v : Nat) : Prop where
  n : n = a + m
  b : ∀ j, j < m → byteAt v (a + j) = byteAt w j
theorem scan_sh {p : Nat → Bool} {a m w n v : Nat} (h : Sh a m w n v) : ∀ (f i : Nat), i + f ≤ m → scan p v f (a + i) = a + scan p w f i
  | 0, i, _ => rfl
  | f + 1, i, hi => by
    rw [scan, scan, h.b i (by omega)]
    cases p (byteAt w i) with
    | true => exact scan_sh h f (i + 1) (by omega)
    | false => rfl
theorem sub_sh {a m w n v : Nat} (h : Sh a m w n v) {i j : Nat} (hj : j ≤ m) : subV v (a + i) (a + j) = subV w i j := by
  refine ext_bytes (n := j - i) ?_ (subV_lt _ _ _) fun k hk => ?_
  · have := subV_lt v (a + i) (a + j); rwa [show a + j - (a + i) = j - i by omega] at this
  · rw [byteAt_subV (by omega), byteAt_subV hk, Nat.add_assoc, h.b (i + k) (by omega)]
theorem scanTo_sh {p : Nat → Bool} {a m w n v : Nat} (h : Sh a m w n v) {i : Nat} (hi : i ≤ m) : scan p v (n - (a + i)) (a + i) = a + scan p w (m - i) i := by
  rw [h.n, show a + m - (a + i) = m - i by omega]; exact scan_sh h _ _ (by omega)
theorem wordN_sh {a m w n v : Nat} (h : Sh a m w n v) {i : Nat} (hi : i ≤ m) : wordN n v (a + i) = wordN m w i := by
  unfold wordN; rw [scanTo_sh h hi]; omega
theorem nEnd_sh {a m w n v : Nat} (h : Sh a m w n v) {i : Nat} (hi : i ≤ m) : nEnd n v (a + i) = a + nEnd m w i := scanTo_sh h hi
theorem nEnd_le {m w i : Nat} (hi : i ≤ m) : nEnd m w i ≤ m := scan_le_n hi
theorem nTok_sh {a m w n v : Nat} (h : Sh a m w n v) {i : Nat} (hi : i ≤ m) : nTok n v (a + i) = a + nTok m w i := by
  unfold nTok; rw [nEnd_sh h hi, wordN_sh h (nEnd_le hi)]; omega
theorem nKind_sh {a m w n v : Nat} (h : Sh a m w n v) {i : Nat} (hi : i ≤ m) : nKind n v (a + i) = nKind m w i := by
  unfold nKind; rw [nTok_sh h hi, nEnd_sh h hi, sub_sh h (nTok_le hi), show a + nTok m w i - (a + nEnd m w i) = nTok m w i - nEnd m w i by omega]
theorem nLen_sh {a m w n v : Nat} (h : Sh a m w n v) {i : Nat} (hi : i ≤ m) : nLen n v (a + i) = nLen m w i := by
  unfold nLen; rw [nEnd_sh h hi]; omega
theorem nVal_sh {a m w n v : Nat} (h : Sh a m w n v) {i : Nat} (hi : i ≤ m) : nVal n v (a + i) = nVal m w i := by
  unfold nVal; rw [nEnd_sh h hi, sub_sh h (nEnd_le hi), nLen_sh h hi]
theorem nOv_sh {a m w n v : Nat} (h : Sh a m w n v) {i : Nat} (hi : i ≤ m) : nOv n v (a + i) = nOv m w i := by
  unfold nOv; rw [nEnd_sh h hi, sub_sh h (nEnd_le hi), nLen_sh h hi]
theorem nBad_sh {a m w n v : Nat} (h : Sh a m w n v) {i : Nat} (hi : i ≤ m) : nBad n v (a + i) = nBad m w i := by
  unfold nBad; rw [nEnd_sh h hi, wordN_sh h (nEnd_le hi), nKind_sh h hi, nLen_sh h hi, nOv_sh h hi, nVal_sh h hi]
theorem nInt_sh {a m w n v : Nat} (h : Sh a m w n v) {i : Nat} (hi : i ≤ m) : nInt n v (a + i) = nInt m w i := by
  unfold nInt; rw [nKind_sh h hi, nVal_sh h hi]
theorem sLen_sh {a m w n v : Nat} (h : Sh a m w n v) {i : Nat} (hi : i < m) : sLen n v (a + i) = sLen m w i := by
  unfold sLen
  rw [h.b i hi]
  have e : Nat.ble (a + i + 2) n = Nat.ble (i + 2) m := by
    rw [bleD, bleD, h.n, Bool.eq_iff_iff, decide_eq_true_iff, decide_eq_true_iff]; omega
  rw [e]
  cases hb : Nat.ble (i + 2) m with
  | false => rfl
  | true => rw [show a + i + 2 = a + (i + 2) by omega, sub_sh h (bleT hb)]
theorem dash_sh {a m w n v : Nat} (h : Sh a m w n v) {i : Nat} (hi : i < m) : dash v n (a + i) = dash w m i := by
  unfold dash
  rw [h.b i hi]
  have e : Nat.ble (a + i + 2) n = Nat.ble (i + 2) m := by
    rw [bleD, bleD, h.n, Bool.eq_iff_iff, decide_eq_true_iff, decide_eq_true_iff]; omega
  rw [e]
  cases hb : Nat.ble (i + 2) m with
  | false => rfl
  | true =>
    have hb := bleT hb
    rw [show a + i + 1 = a + (i + 1) by omega, h.b (i + 1) (by omega)]
theorem blk_sh {a m w n v : Nat} (h : Sh a m w n v) : ∀ (f i : Nat), i ≤ m → blk v n f (a + i) = a + blk w m f i
  | 0, i, _ => rfl
  | f + 1, i, hi => by
    rw [blk, blk]
    have e : Nat.ble (a + i + 1) n = Nat.ble (i + 1) m := by
      rw [bleD, bleD, h.n, Bool.eq_iff_iff, decide_eq_true_iff, decide_eq_true_iff]; omega
    rw [e]
    cases hb : Nat.ble (i + 1) m with
    | false => rfl
    | true =>
      have hb := bleT hb
      rw [h.b i (by omega), dash_sh h (by omega)]
      cases isS (byteAt w i) with
      | true => exact blk_sh h f (i + 1) (by omega)
      | false =>
        cases dash w m i with
        | false => rfl
        | true =>
          have : lineE v n (a + i) = a + lineE w m i := scanTo_sh h hi
          show blk v n f (lineE v n (a + i)) = a + blk w m f (lineE w m i)
          rw [this]; exact blk_sh h f _ (lineE_le hi)
theorem bl_sh {a m w n v : Nat} (h : Sh a m w n v) {i : Nat} (hi : i ≤ m) : bl v n (a + i) = a + bl w m i := by
  unfold bl; rw [h.n, show a + m - (a + i) = m - i by omega, ← h.n]; exact blk_sh h _ _ hi
theorem nx_sh {a m w n v : Nat} (h : Sh a m w n v) {i : Nat} (hi : i ≤ m) : nx n v (a + i) = nx m w i := by
  have hp : bl w m i ≤ m := bl_le w m _ _ hi
  unfold nx
  rw [bl_sh h hi]
  have e : Nat.ble (Nat.succ (a + bl w m i)) n = Nat.ble (Nat.succ (bl w m i)) m := by
    rw [bleD, bleD, h.n, Bool.eq_iff_iff, decide_eq_true_iff, decide_eq_true_iff]; omega
  rw [e]
  generalize bl w m i = p at *
  cases hb : Nat.ble (Nat.succ p) m with
  | false => rfl
  | true =>
    have hb : p < m := bleT hb
    rw [h.b p hb, nBad_sh h hp, nTok_sh h hp, nInt_sh h hp, nKind_sh h hp, wordN_sh h hp, sLen_sh h hb, show a + p + wordN m w p = a + (p + wordN m w p) by omega, sub_sh h (word_end hp), show a + nTok m w p - (a + p) = nTok m w p - p by omega]
/-- a token's cells, a places further on -/
def sh6 (a : Nat) : List AV → List AV
  | k :: s :: n :: t :: z :: .int q (.ofNat p) :: r => k :: s :: n :: t :: z :: .int q (.ofNat (a + p)) :: sh6 a r
  | l => l
theorem nxTok_sh {a m w n v : Nat} (h : Sh a m w n v) {i : Nat} (hi : i ≤ m) : nxTok n v (a + i) = tok (nxK m w i) (nxL m w i) (subV w (bl w m i) (bl w m i + nxL m w i)) (nxN m w i) (nxT m w i) (a + bl w m i) := by
  have hp : bl w m i + nxL m w i ≤ m := by
    have hb : bl w m i ≤ m := bl_le w m _ _ hi
    rcases nx_cases (v := w) hi with ⟨a1, _⟩ | ⟨_, _, a1, _⟩ | ⟨_, _, _, a1⟩
    · have : nxL m w i = 0 := by
        revert a1
        unfold nxE nxL nx
        cases Nat.ble (Nat.succ (bl w m i)) m <;> cases isD (byteAt w (bl w m i)) <;> cases nBad m w (bl w m i) <;> cases isL (byteAt w (bl w m i)) <;> cases Nat.ble (wordN m w (bl w m i)) 40 <;> cases Nat.beq (sLen m w (bl w m i)) 0 <;> intro e <;> first | rfl | cases e
      omega
    · omega
    · exact a1
  have e1 : nxK n v (a + i) = nxK m w i := by unfold nxK; rw [nx_sh h hi]
  have e2 : nxL n v (a + i) = nxL m w i := by unfold nxL; rw [nx_sh h hi]
  have e3 : nxN n v (a + i) = nxN m w i := by unfold nxN; rw [nx_sh h hi]
  have e4 : nxT n v (a + i) = nxT m w i := by unfold nxT; rw [nx_sh h hi]
  unfold nxTok
  rw [e1, e2, e3, e4, bl_sh h hi, show a + bl w m i + nxL m w i = a + (bl w m i + nxL m w i) by omega, sub_sh h hp]
end
end Go.Proofs.YtoeoaiipchklbaaDoor

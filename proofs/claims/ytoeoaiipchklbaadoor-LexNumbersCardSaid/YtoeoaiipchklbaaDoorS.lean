/- A text behind others: what stands in it stands there as it does alone. -/
import Derived.Test.YtoeoaiipchklbaaDoorL5
import Derived.Test.YtoeoaiipchklbaaDoorV
set_option linter.unusedVariables false
set_option autoImplicit false
set_option linter.unusedVariables false
set_option maxRecDepth 100000
namespace Go.Proofs.YtoeoaiipchklbaaDoor
noncomputable section
open Go.X
/-- the text w of m bytes stands at the end of the text v of n bytes, from a on -/
structure Sh (a m w n v : Nat) : Prop where
  n : n = a + m
  b : ∀ j, j < m → byteAt v (a + j) = byteAt w j
theorem scan_sh {p : Nat → Bool} {a m w n v : Nat} (h : Sh a m w n v) : ∀ (f i : Nat), i + f ≤ m → scan p v f (a + i) = a + scan p w f i
  | 0, i, _ => rfl
  | f + 1, i, hi => by
    rw [scan, scan, h.b i (by omega)]
    cases p (byteAt w i) with
    | true => exact scan_sh h f (i + 1) (by omega)
    | false => rfl
theorem sub_sh {a m w n v : Nat} (h : Sh a m w n v) {i j : Nat} (hj : j ≤ m) : subV v (a + i) (a + j) = subV w i j := by
  refine ext_bytes (n := j - i) ?_ (subV_lt _ _ _) fun k hk => ?_
  · have := subV_lt v (a + i) (a + j); rwa [show a + j - (a + i) = j - i by omega] at this
  · rw [byteAt_subV (by omega), byteAt_subV hk, Nat.add_assoc, h.b (i + k) (by omega)]
theorem scanTo_sh {p : Nat → Bool} {a m w n v : Nat} (h : Sh a m w n v) {i : Nat} (hi : i ≤ m) : scan p v (n - (a + i)) (a + i) = a + scan p w (m - i) i := by
  rw [h.n, show a + m - (a + i) = m - i by omega]; exact scan_sh h _ _ (by omega)
theorem wordN_sh {a m w n v : Nat} (h : Sh a m w n v) {i : Nat} (hi : i ≤ m) : wordN n v (a + i) = wordN m w i := by
  unfold wordN; rw [scanTo_sh h hi]; omega
theorem nEnd_sh {a m w n v : Nat} (h : Sh a m w n v) {i : Nat} (hi : i ≤ m) : nEnd n v (a + i) = a + nEnd m w i := scanTo_sh h hi
theorem nEnd_le {m w i : Nat} (hi : i ≤ m) : nEnd m w i ≤ m := scan_le_n hi
theorem nTok_sh {a m w n v : Nat} (h : Sh a m w n v) {i : Nat} (hi : i ≤ m) : nTok n v (a + i) = a + nTok m w i := by
  unfold nTok; rw [nEnd_sh h hi, wordN_sh h (nEnd_le hi)]; omega
theorem nKind_sh {a m w n v : Nat} (h : Sh a m w n v) {i : Nat} (hi : i ≤ m) : nKind n v (a + i) = nKind m w i := by
  unfold nKind; rw [nTok_sh h hi, nEnd_sh h hi, sub_sh h (nTok_le hi), show a + nTok m w i - (a + nEnd m w i) = nTok m w i - nEnd m w i by omega]
theorem nLen_sh {a m w n v : Nat} (h : Sh a m w n v) {i : Nat} (hi : i ≤ m) : nLen n v (a + i) = nLen m w i := by
  unfold nLen; rw [nEnd_sh h hi]; omega
theorem nVal_sh {a m w n v : Nat} (h : Sh a m w n v) {i : Nat} (hi : i ≤ m) : nVal n v (a + i) = nVal m w i := by
  unfold nVal; rw [nEnd_sh h hi, sub_sh h (nEnd_le hi), nLen_sh h hi]
theorem nOv_sh {a m w n v : Nat} (h : Sh a m w n v) {i : Nat} (hi : i ≤ m) : nOv n v (a + i) = nOv m w i := by
  unfold nOv; rw [nEnd_sh h hi, sub_sh h (nEnd_le hi), nLen_sh h hi]
theorem nBad_sh {a m w n v : Nat} (h : Sh a m w n v) {i : Nat} (hi : i ≤ m) : nBad n v (a + i) = nBad m w i := by
  unfold nBad; rw [nEnd_sh h hi, wordN_sh h (nEnd_le hi), nKind_sh h hi, nLen_sh h hi, nOv_sh h hi, nVal_sh h hi]
theorem nInt_sh {a m w n v : Nat} (h : Sh a m w n v) {i : Nat} (hi : i ≤ m) : nInt n v (a + i) = nInt m w i := by
  unfold nInt; rw [nKind_sh h hi, nVal_sh h hi]
theorem sLen_sh {a m w n v : Nat} (h : Sh a m w n v) {i : Nat} (hi : i < m) : sLen n v (a + i) = sLen m w i := by
  unfold sLen
  rw [h.b i hi]
  have e : Nat.ble (a + i + 2) n = Nat.ble (i + 2) m := by
    rw [bleD, bleD, h.n, Bool.eq_iff_iff, decide_eq_true_iff, decide_eq_true_iff]; omega
  rw [e]
  cases hb : Nat.ble (i + 2) m with
  | false => rfl
  | true => rw [show a + i + 2 = a + (i + 2) by omega, sub_sh h (bleT hb)]
theorem dash_sh {a m w n v : Nat} (h : Sh a m w n v) {i : Nat} (hi : i < m) : dash v n (a + i) = dash w m i := by
  unfold dash
  rw [h.b i hi]
  have e : Nat.ble (a + i + 2) n = Nat.ble (i + 2) m := by
    rw [bleD, bleD, h.n, Bool.eq_iff_iff, decide_eq_true_iff, decide_eq_true_iff]; omega
  rw [e]
  cases hb : Nat.ble (i + 2) m with
  | false => rfl
  | true =>
    have hb := bleT hb
    rw [show a + i + 1 = a + (i + 1) by omega, h.b (i + 1) (by omega)]
theorem blk_sh {a m w n v : Nat} (h : Sh a m w n v) : ∀ (f i : Nat), i ≤ m → blk v n f (a + i) = a + blk w m f i
  | 0, i, _ => rfl
  | f + 1, i, hi => by
    rw [blk, blk]
    have e : Nat.ble (a + i + 1) n = Nat.ble (i + 1) m := by
      rw [bleD, bleD, h.n, Bool.eq_iff_iff, decide_eq_true_iff, decide_eq_true_iff]; omega
    rw [e]
    cases hb : Nat.ble (i + 1) m with
    | false => rfl
    | true =>
      have hb := bleT hb
      rw [h.b i (by omega), dash_sh h (by omega)]
      cases isS (byteAt w i) with
      | true => exact blk_sh h f (i + 1) (by omega)
      | false =>
        cases dash w m i with
        | false => rfl
        | true =>
          have : lineE v n (a + i) = a + lineE w m i := scanTo_sh h hi
          show blk v n f (lineE v n (a + i)) = a + blk w m f (lineE w m i)
          rw [this]; exact blk_sh h f _ (lineE_le hi)
theorem bl_sh {a m w n v : Nat} (h : Sh a m w n v) {i : Nat} (hi : i ≤ m) : bl v n (a + i) = a + bl w m i := by
  unfold bl; rw [h.n, show a + m - (a + i) = m - i by omega, ← h.n]; exact blk_sh h _ _ hi
theorem nx_sh {a m w n v : Nat} (h : Sh a m w n v) {i : Nat} (hi : i ≤ m) : nx n v (a + i) = nx m w i := by
  have hp : bl w m i ≤ m := bl_le w m _ _ hi
  unfold nx
  rw [bl_sh h hi]
  have e : Nat.ble (Nat.succ (a + bl w m i)) n = Nat.ble (Nat.succ (bl w m i)) m := by
    rw [bleD, bleD, h.n, Bool.eq_iff_iff, decide_eq_true_iff, decide_eq_true_iff]; omega
  rw [e]
  generalize bl w m i = p at *
  cases hb : Nat.ble (Nat.succ p) m with
  | false => rfl
  | true =>
    have hb : p < m := bleT hb
    rw [h.b p hb, nBad_sh h hp, nTok_sh h hp, nInt_sh h hp, nKind_sh h hp, wordN_sh h hp, sLen_sh h hb, show a + p + wordN m w p = a + (p + wordN m w p) by omega, sub_sh h (word_end hp), show a + nTok m w p - (a + p) = nTok m w p - p by omega]
/-- a token's cells, a places further on -/
def sh6 (a : Nat) : List AV → List AV
  | k :: s :: n :: t :: z :: .int q (.ofNat p) :: r => k :: s :: n :: t :: z :: .int q (.ofNat (a + p)) :: sh6 a r
  | l => l
theorem nxTok_sh {a m w n v : Nat} (h : Sh a m w n v) {i : Nat} (hi : i ≤ m) : nxTok n v (a + i) = tok (nxK m w i) (nxL m w i) (subV w (bl w m i) (bl w m i + nxL m w i)) (nxN m w i) (nxT m w i) (a + bl w m i) := by
  have hp : bl w m i + nxL m w i ≤ m := by
    have hb : bl w m i ≤ m := bl_le w m _ _ hi
    rcases nx_cases (v := w) hi with ⟨a1, _⟩ | ⟨_, _, a1, _⟩ | ⟨_, _, _, a1⟩
    · have : nxL m w i = 0 := by
        revert a1
        unfold nxE nxL nx
        cases Nat.ble (Nat.succ (bl w m i)) m <;> cases isD (byteAt w (bl w m i)) <;> cases nBad m w (bl w m i) <;> cases isL (byteAt w (bl w m i)) <;> cases Nat.ble (wordN m w (bl w m i)) 40 <;> cases Nat.beq (sLen m w (bl w m i)) 0 <;> intro e <;> first | rfl | cases e
      omega
    · omega
    · exact a1
  have e1 : nxK n v (a + i) = nxK m w i := by unfold nxK; rw [nx_sh h hi]
  have e2 : nxL n v (a + i) = nxL m w i := by unfold nxL; rw [nx_sh h hi]
  have e3 : nxN n v (a + i) = nxN m w i := by unfold nxN; rw [nx_sh h hi]
  have e4 : nxT n v (a + i) = nxT m w i := by unfold nxT; rw [nx_sh h hi]
  unfold nxTok
  rw [e1, e2, e3, e4, bl_sh h hi, show a + bl w m i + nxL m w i = a + (bl w m i + nxL m w i) by omega, sub_sh h hp]
end
end Go.Proofs.YtoeoaiipchklbaaDoor
/- A text behind blanks: its tokens; Tokens at one text, told. -/
set_option autoImplicit false
set_option linter.unusedVariables false
set_option maxRecDepth 100000
namespace Go.Proofs.YtoeoaiipchklbaaDoor
noncomputable section
open Go.X
/-- the next token's cells, a places further on -/
def tokP (a m w i : Nat) : List AV := tok (nxK m w i) (nxL m w i) (subV w (bl w m i) (bl w m i + nxL m w i)) (nxN m w i) (nxT m w i) (a + bl w m i)
def tokS (a m w : Nat) : Nat → Nat → List AV → Nat → Res
  | 0, _, _, _ => ⟨false, 0, 0, [], 0⟩
  | f + 1, i, cells, k => cond (nxE m w i) ⟨false, a + bl w m i, nxC m w i, [], 0⟩ (cond (Nat.beq k 20000) ⟨false, a + bl w m i, 2, [], 0⟩
      (cond (Nat.beq (nxK m w i) 5) ⟨true, 0, 0, lapp cells (tokP a m w i), Nat.succ k⟩ (tokS a m w f (nxX m w i) (lapp cells (tokP a m w i)) (Nat.succ k))))
theorem tokF_sh {a m w n v : Nat} (h : Sh a m w n v) (f : Nat) : ∀ (i : Nat) (cells : List AV) (k : Nat), i ≤ m → tokF n v f (a + i) cells k = tokS a m w f i cells k := by
  induction f with
  | zero => intro i cells k hi; rfl
  | succ f ih =>
    intro i cells k hi
    have e0 : nxE n v (a + i) = nxE m w i := by unfold nxE; rw [nx_sh h hi]
    have e1 : nxK n v (a + i) = nxK m w i := by unfold nxK; rw [nx_sh h hi]
    have e2 : nxC n v (a + i) = nxC m w i := by unfold nxC; rw [nx_sh h hi]
    have e3 : nxX n v (a + i) = a + nxX m w i := by
      have : nxL n v (a + i) = nxL m w i := by unfold nxL; rw [nx_sh h hi]
      unfold nxX; rw [this, bl_sh h hi]; omega
    have e4 : nxTok n v (a + i) = tokP a m w i := nxTok_sh h hi
    rw [tokF, tokS, e0, e1, e2, e3, e4, bl_sh h hi]
    cases h1 : nxE m w i with
    | true => simp only [cond_true]
    | false =>
      cases Nat.beq k 20000 with
      | true => simp only [cond_true, cond_false]
      | false =>
        cases h3 : Nat.beq (nxK m w i) 5 with
        | true => simp only [cond_true, cond_false]
        | false =>
          have hx : nxX m w i ≤ m := by
            rcases nx_cases (v := w) hi with ⟨b, _⟩ | ⟨_, b, _⟩ | ⟨_, _, _, b⟩
            · rw [h1] at b; cases b
            · rw [b] at h3; cases h3
            · exact b
          simp only [cond_false]
          exact ih _ _ _ hx
theorem toks_sh {a m w n v : Nat} (h : Sh a m w n v) (cells : List AV) (k : Nat) : toks n v a cells k = tokS a m w (m + 1) 0 cells k := by
  unfold toks
  rw [show n + 1 - a = m + 1 by have := h.n; omega]
  exact tokF_sh h _ 0 _ _ (Nat.zero_le _)
/-- blanks ahead -/
theorem bl_ahead {a n v : Nat} (hn : a ≤ n) (hb : ∀ j, j < a → byteAt v j = 32) : ∀ (d x : Nat), a - x = d → x ≤ a → bl v n x = bl v n a
  | 0, x, hd, hx => by
    have : x = a := by omega
    rw [this]
  | d + 1, x, hd, hx => by
    rw [bl_sp (by omega) (by rw [hb x (by omega)]; rfl)]
    exact bl_ahead hn hb d (x + 1) (by omega) (by omega)
theorem toks_bl {n v x y : Nat} (h : bl v n x = bl v n y) (hx : x ≤ n) (hy : y ≤ n) (cells : List AV) (k : Nat) : toks n v x cells k = toks n v y cells k := by
  have e : nx n v x = nx n v y := by unfold nx; rw [h]
  have e0 : nxE n v x = nxE n v y := by unfold nxE; rw [e]
  have e1 : nxK n v x = nxK n v y := by unfold nxK; rw [e]
  have e2 : nxC n v x = nxC n v y := by unfold nxC; rw [e]
  have e3 : nxX n v x = nxX n v y := by unfold nxX nxL; rw [e, h]
  have e4 : nxTok n v x = nxTok n v y := by unfold nxTok nxK nxL nxN nxT; rw [e, h]
  have f1 : n + 1 - x = (n - x) + 1 := by omega
  have f2 : n + 1 - y = (n - y) + 1 := by omega
  unfold toks
  rw [f1, f2, tokF, tokF, e0, e1, e2, e3, e4, h]
  cases h1 : nxE n v y with
  | true => simp only [cond_true]
  | false =>
    cases Nat.beq k 20000 with
    | true => simp only [cond_true, cond_false]
    | false =>
      cases h3 : Nat.beq (nxK n v y) 5 with
      | true => simp only [cond_true, cond_false]
      | false =>
        simp only [cond_false]
        rcases nx_cases (v := v) hy with ⟨b, _⟩ | ⟨_, b, _⟩ | ⟨_, _, b, c⟩
        · rw [h1] at b; cases b
        · rw [b] at h3; cases h3
        · have g1 := bl_x (v := v) (n := n) (x := y)
          have g2 := bl_x (v := v) (n := n) (x := x)
          exact tokF_fuel n v _ _ _ _ _ c (by unfold nxX; omega) (by unfold nxX; omega)
theorem toks_ahead {a m w n v : Nat} (h : Sh a m w n v) (hb : ∀ j, j < a → byteAt v j = 32) (cells : List AV) (k : Nat) : toks n v 0 cells k = tokS a m w (m + 1) 0 cells k := by
  have hn := h.n
  rw [toks_bl (bl_ahead (a := a) (by omega) hb _ 0 rfl (Nat.zero_le _)) (Nat.zero_le _) (by omega), toks_sh h]
/-- Tokens at one text, whose tokens are told -/
def fTold (n0 v0 : Nat) (cells0 : List AV) (cnt : Nat) (args : List AV) (h : H) : Option (Bool × AV × H) := match args with
  | [.str n v] => match h.b.get 0 with
    | some (.row cells _ false []) => some (Bool.and (Bool.and (Nat.beq n n0) (Nat.beq v v0)) (Bool.and (flatEqs cells ASCII) (Nat.ble 1 h.next)), .tup [.slc h.next 0 cnt cnt false 6, .int .i64 (.ofNat 0), .int .i64 (.ofNat 0)], hnew h (.row cells0 30 true []))
    | _ => none
  | _ => none
theorem told_ok {n0 v0 : Nat} {cells0 : List AV} {cnt : Nat} (hn : n0 ≤ 65536) (ht : toks n0 v0 0 [] 0 = ⟨true, 0, 0, cells0, cnt⟩) (args : List AV) (h : H) (v : AV) (h' : H) (ds : List Bool) (K : KV) (hf : fTold n0 v0 cells0 cnt args h = some (true, v, h')) (hK : K v h' ds) : CallOK Tryd.prog glA 10 args h K := by
  unfold fTold at hf
  split at hf <;> try (cases hf; done)
  rename_i n v
  split at hf <;> try (cases hf; done)
  rename_i cells e hg
  simp only [Option.some.injEq, Prod.mk.injEq] at hf
  obtain ⟨hc, rfl, rfl⟩ := hf
  obtain ⟨c0, c1⟩ := and_tt hc
  obtain ⟨d1, d2⟩ := and_tt c0
  have d1 := natBeq_iff.1 d1
  have d2 := natBeq_iff.1 d2
  subst d1; subst d2
  have e1 : tOk n v = true := by unfold tOk; rw [Nat.ble_eq_true_of_le hn, ht]; rfl
  have e2 : tCells n v = cells0 := by unfold tCells; rw [ht]
  have e3 : tCount n v = cnt := by unfold tCount; rw [ht]
  refine tokens_ok [.str n v] h ds K ?_
  unfold conF2 fTokens
  rw [hg]
  dsimp only
  rw [c1, e1]
  have hb : Nat.ble h.next (hnew h (.row (tCells n v) 30 true [])).next = true := Nat.ble_eq_true_of_le (Nat.le_succ _)
  unfold vOk
  rw [e2, e3]
  rw [e2] at hb
  first
  | exact hK
  | (rw [hb]; exact hK)
  | (refine ⟨?_, ?_⟩ <;> first | exact hb | exact hK)
end
end Go.Proofs.YtoeoaiipchklbaaDoor

/- Words with gaps between them: the tokens are those of the words. -/
import Derived.Test.YtoeoaiipchklbaaDoorS
import Derived.Test.YtoeoaiipchklbaaDoorM3
import Derived.Test.YtoeoaiipchklbaaDoorM4
set_option linter.unusedVariables false
set_option autoImplicit false
set_option linter.unusedVariables false
set_option maxRecDepth 100000
namespace Go.Proofs.YtoeoaiipchklbaaDoor
noncomputable section
open Go.X
/-- a byte that ends a word -/
def isT (c : Nat) : Bool := Nat.beq c 32 || (Nat.beq c 10 || (Nat.beq c 9 || Nat.beq c 45))
theorem isT_iff {c : Nat} : isT c = true ↔ c = 32 ∨ c = 10 ∨ c = 9 ∨ c = 45 := by
  unfold isT; simp only [Bool.or_eq_true, natBeq_iff]
/-- at N a word ends -/
structure Trm (n v N : Nat) : Prop where
  le : N ≤ n
  t : N < n → isT (byteAt v N) = true
theorem scan_cut {p : Nat → Bool} {n v N : Nat} (h : Trm n v N) (hp : ∀ c, isT c = true → p c = false) : ∀ (k x : Nat), N - x = k → x ≤ N → scan p v (n - x) x = scan p v (N - x) x
  | 0, x, hk, hx => by
    have : x = N := by omega
    subst this
    rw [Nat.sub_self, scan]
    exact scan_no fun hl => hp _ (h.t hl)
  | k + 1, x, hk, hx => by
    have hn := h.le
    by_cases hb : p (byteAt v x) = true
    · rw [scan_yes (by omega) hb, scan_yes (n := N) (by omega) hb]
      exact scan_cut h hp k (x + 1) (by omega) (by omega)
    · have hb : p (byteAt v x) = false := by simpa using hb
      rw [scan_no fun _ => hb, scan_no (n := N) fun _ => hb]
theorem isT_W {c : Nat} (h : isT c = true) : isW c = false := by
  rw [isT_iff] at h
  rcases h with rfl | rfl | rfl | rfl <;> rfl
theorem isT_D {c : Nat} (h : isT c = true) : isD c = false := by
  rw [isT_iff] at h
  rcases h with rfl | rfl | rfl | rfl <;> rfl
theorem wordN_cut {n v N x : Nat} (h : Trm n v N) (hx : x ≤ N) : wordN n v x = wordN N v x := by
  unfold wordN; rw [scan_cut h (fun _ => isT_W) _ x rfl hx]
theorem nEnd_cut {n v N x : Nat} (h : Trm n v N) (hx : x ≤ N) : nEnd n v x = nEnd N v x := scan_cut h (fun _ => isT_D) _ x rfl hx
theorem nTok_cut {n v N x : Nat} (h : Trm n v N) (hx : x ≤ N) : nTok n v x = nTok N v x := by
  unfold nTok; rw [nEnd_cut h hx, wordN_cut h (nEnd_le hx)]
theorem nKind_cut {n v N x : Nat} (h : Trm n v N) (hx : x ≤ N) : nKind n v x = nKind N v x := by
  unfold nKind; rw [nTok_cut h hx, nEnd_cut h hx]
theorem nLen_cut {n v N x : Nat} (h : Trm n v N) (hx : x ≤ N) : nLen n v x = nLen N v x := by
  unfold nLen; rw [nEnd_cut h hx]
theorem nVal_cut {n v N x : Nat} (h : Trm n v N) (hx : x ≤ N) : nVal n v x = nVal N v x := by
  unfold nVal; rw [nEnd_cut h hx, nLen_cut h hx]
theorem nOv_cut {n v N x : Nat} (h : Trm n v N) (hx : x ≤ N) : nOv n v x = nOv N v x := by
  unfold nOv; rw [nEnd_cut h hx, nLen_cut h hx]
theorem nBad_cut {n v N x : Nat} (h : Trm n v N) (hx : x ≤ N) : nBad n v x = nBad N v x := by
  unfold nBad; rw [nEnd_cut h hx, wordN_cut h (nEnd_le hx), nKind_cut h hx, nLen_cut h hx, nOv_cut h hx, nVal_cut h hx]
theorem nInt_cut {n v N x : Nat} (h : Trm n v N) (hx : x ≤ N) : nInt n v x = nInt N v x := by
  unfold nInt; rw [nKind_cut h hx, nVal_cut h hx]
/-- two bytes as one number -/
theorem sub_two {v x : Nat} : subV v x (x + 2) = byteAt v x + 256 * byteAt v (x + 1) := by
  have l1 := byteAt_lt v x
  have l2 := byteAt_lt v (x + 1)
  refine (subV_eq_of (by rw [Nat.add_sub_cancel_left]; show _ < 65536; omega)).2 fun i hi => ?_
  match i, hi with
  | 0, _ => rw [byteAt_def (byteAt v x + 256 * byteAt v (x + 1)), Nat.add_zero]; simp; omega
  | 1, _ => rw [byteAt_def (byteAt v x + 256 * byteAt v (x + 1))]; simp; omega
  | k + 2, hi => omega
theorem two_T {a c : Nat} (ha : a < 256) (hc : isT c = true) : isTwo (a + 256 * c) = false := by
  have : ∀ w, w ∈ [15917, 15933, 15932, 15676, 15678, 15420, 15934] → ¬ a + 256 * c = w := by
    rw [isT_iff] at hc
    intro w hw
    simp only [List.mem_cons, List.not_mem_nil, or_false] at hw
    omega
  unfold isTwo
  simp only [beqD]
  simp only [decide_eq_false (this 15917 (by decide)), decide_eq_false (this 15933 (by decide)), decide_eq_false (this 15932 (by decide)), decide_eq_false (this 15676 (by decide)), decide_eq_false (this 15678 (by decide)), decide_eq_false (this 15420 (by decide)), decide_eq_false (this 15934 (by decide))]
  rfl
theorem sLen_cut {n v N x : Nat} (h : Trm n v N) (hx : x < N) : sLen n v x = sLen N v x := by
  have hn := h.le
  unfold sLen
  by_cases h2 : x + 2 ≤ N
  · rw [Nat.ble_eq_true_of_le h2, Nat.ble_eq_true_of_le (show x + 2 ≤ n by omega)]
  · have e : Nat.ble (x + 2) N = false := by rw [bleD, decide_eq_false_iff_not]; exact h2
    rw [e]
    by_cases h3 : x + 2 ≤ n
    · have hN : x + 1 = N := by omega
      have := h.t (by omega)
      rw [sub_two, hN, two_T (byteAt_lt v x) this, Nat.ble_eq_true_of_le h3]; rfl
    · rw [show Nat.ble (x + 2) n = false by rw [bleD, decide_eq_false_iff_not]; exact h3]
theorem tk_cut {n v N x : Nat} (h : Trm n v N) (hx : x < N) : tk n v x = tk N v x := by
  unfold tk
  rw [nBad_cut h (by omega), nTok_cut h (by omega), nInt_cut h (by omega), nKind_cut h (by omega), wordN_cut h (by omega), sLen_cut h hx]
/-- the token at a place of a text that stands behind others -/
theorem tk_sh {a m w n v : Nat} (h : Sh a m w n v) {p : Nat} (hb : p < m) : tk n v (a + p) = tk m w p := by
  have hp : p ≤ m := by omega
  unfold tk
  rw [h.b p hb, nBad_sh h hp, nTok_sh h hp, nInt_sh h hp, nKind_sh h hp, wordN_sh h hp, sLen_sh h hb, show a + p + wordN m w p = a + (p + wordN m w p) by omega, sub_sh h (word_end hp), show a + nTok m w p - (a + p) = nTok m w p - p by omega]
/-- a word in a text -/
structure Cur (n v a m w : Nat) : Prop where
  t : Trm n v (a + m)
  b : ∀ j, j < m → byteAt v (a + j) = byteAt w j
  c : ∀ j, j < m → byteAt w j ≠ 45
theorem Cur.sh {n v a m w : Nat} (h : Cur n v a m w) : Sh a m w (a + m) v := ⟨rfl, h.b⟩
theorem tk_cur {n v a m w : Nat} (h : Cur n v a m w) {p : Nat} (hb : p < m) : tk n v (a + p) = tk m w p := (tk_cut h.t (by omega)).trans (tk_sh h.sh hb)
theorem dash_no {v n i : Nat} (h1 : byteAt v i ≠ 45) : dash v n i = false := by
  unfold dash; rw [beqD, decide_eq_false h1]; rfl
/-- blanks within a word -/
theorem bl_cur {n v a m w : Nat} (h : Cur n v a m w) : ∀ (k i : Nat), m - i = k → i ≤ m → bl w m i ≤ m ∧ bl v n (a + i) = (if bl w m i < m then a + bl w m i else bl v n (a + m))
  | 0, i, hk, hi => by
    have : i = m := by omega
    subst this
    rw [bl_end (by omega)]
    exact ⟨Nat.le_refl _, by rw [if_neg (by omega)]⟩
  | k + 1, i, hk, hi => by
    have hn := h.t.le
    have hb := h.b i (by omega)
    cases hs : isS (byteAt w i) with
    | true =>
      rw [bl_sp (by omega) hs, bl_sp (i := a + i) (by omega) (by rw [hb]; exact hs), show a + i + 1 = a + (i + 1) by omega]
      exact bl_cur h k (i + 1) (by omega) (by omega)
    | false =>
      have hd := dash_no (n := m) (h.c i (by omega))
      have hd2 := dash_no (v := v) (n := n) (i := a + i) (by rw [hb]; exact h.c i (by omega))
      rw [bl_stop hs hd, bl_stop (i := a + i) (by rw [hb]; exact hs) hd2]
      exact ⟨hi, by rw [if_pos (by omega)]⟩
/-- a gap, by its number: its length, its bytes -/
def gapL (g : Nat) : Nat := cond (Nat.beq g 2) 2 (cond (Nat.beq g 3) 9 1)
def gapV (g : Nat) : Nat := cond (Nat.beq g 1) 10 (cond (Nat.beq g 2) 3337 (cond (Nat.beq g 3) 192782337372193828141 32))
/-- words with gaps ahead, up to a text's end -/
inductive Text (n v : Nat) : Nat → List (Nat × Nat × Nat) → Prop where
  | nil : Text n v n []
  | cons (y g m w : Nat) (r : List (Nat × Nat × Nat)) (hg : g < 4) (hs : ∀ j, j < gapL g → byteAt v (y + j) = byteAt (gapV g) j) (hw : ∀ j, j < m → byteAt v (y + gapL g + j) = byteAt w j)
      (hc : ∀ j, j < m → byteAt w j ≠ 45) (ht : Text n v (y + gapL g + m) r) : Text n v y ((g, m, w) :: r)
theorem gap_pos {g : Nat} : 1 ≤ gapL g := by
  unfold gapL
  cases Nat.beq g 2 <;> cases Nat.beq g 3 <;> decide
theorem gapT0 : isT (byteAt (gapV 0) 0) = true := by kernel_rfl
theorem gapT1 : isT (byteAt (gapV 1) 0) = true := by kernel_rfl
theorem gapT2 : isT (byteAt (gapV 2) 0) = true := by kernel_rfl
theorem gapT3 : isT (byteAt (gapV 3) 0) = true := by kernel_rfl
theorem gap_T {g : Nat} (hg : g < 4) : isT (byteAt (gapV g) 0) = true := by
  match g, hg with
  | 0, _ => exact gapT0
  | 1, _ => exact gapT1
  | 2, _ => exact gapT2
  | 3, _ => exact gapT3
  | k + 4, h => omega
theorem Text.trm {n v : Nat} : ∀ {y : Nat} {r : List (Nat × Nat × Nat)}, Text n v y r → Trm n v y
  | _, _, .nil => ⟨Nat.le_refl _, fun h => by omega⟩
  | _, _, .cons y g m w r hg hs hw hc ht => by
    have := ht.trm.le
    have hp := gap_pos (g := g)
    refine ⟨by omega, fun _ => ?_⟩
    have e := hs 0 hp
    rw [Nat.add_zero] at e
    rw [e]; exact gap_T hg
end
end Go.Proofs.YtoeoaiipchklbaaDoor
/- Words with gaps between them: two texts of the same words have the same tokens. -/
set_option autoImplicit false
set_option linter.unusedVariables false
set_option maxRecDepth 100000
namespace Go.Proofs.YtoeoaiipchklbaaDoor
noncomputable section
open Go.X
/-- the tokens hang on where the next one begins alone -/
theorem toks_bl {n v x y k : Nat} {cells : List AV} (hx : x ≤ n) (hy : y ≤ n) (h : bl v n x = bl v n y) : toks n v x cells k = toks n v y cells k := by
  have e : nx n v x = nx n v y := by unfold nx; rw [h]
  have e0 : nxE n v x = nxE n v y := by unfold nxE; rw [e]
  have e1 : nxC n v x = nxC n v y := by unfold nxC; rw [e]
  have e2 : nxK n v x = nxK n v y := by unfold nxK; rw [e]
  have e3 : nxX n v x = nxX n v y := by unfold nxX nxL; rw [e, h]
  have e4 : nxTok n v x = nxTok n v y := by unfold nxTok nxK nxL nxN nxT; rw [e, h]
  have key : ∀ z, z ≤ n → toks n v z cells k = tokF n v (n + 2) z cells k := fun z hz => tokF_fuel n v _ _ _ _ _ hz (by omega) (by omega)
  have kk : ∀ z, z ≤ n → ∀ c k', tokF n v (n + 1) z c k' = toks n v z c k' := fun z hz c k' => (tokF_fuel n v _ _ _ _ _ hz (by omega) (by omega))
  have one : ∀ z, tokF n v (n + 1 + 1) z cells k = cond (nxE n v z) ⟨false, bl v n z, nxC n v z, [], 0⟩ (cond (Nat.beq k 20000) ⟨false, bl v n z, 2, [], 0⟩
      (cond (Nat.beq (nxK n v z) 5) ⟨true, 0, 0, lapp cells (nxTok n v z), Nat.succ k⟩ (tokF n v (n + 1) (nxX n v z) (lapp cells (nxTok n v z)) (Nat.succ k)))) := fun z => rfl
  rw [key x hx, key y hy, one, one, e0, e1, e2, e3, e4, h]
/-- two tokens, but for their places -/
def payEq (a b : List AV) : Prop := ∃ kd tn tv N tk_ p q, a = tok kd tn tv N tk_ p ∧ b = tok kd tn tv N tk_ q
/-- two lists of tokens, but for their places -/
structure Pay (a b : List AV) (k : Nat) : Prop where
  l1 : a.length = k * 6
  l2 : b.length = k * 6
  e : ∀ j, j < k → payEq (ltake (ldrop a (Nat.mul j 6)) 6) (ltake (ldrop b (Nat.mul j 6)) 6)
theorem cut_lo {cells t : List AV} {k j : Nat} (hl : cells.length = k * 6) (hj : j < k) : ltake (ldrop (lapp cells t) (Nat.mul j 6)) 6 = ltake (ldrop cells (Nat.mul j 6)) 6 := by
  rw [ltake_eq, ldrop_eq, ltake_eq, ldrop_eq, lapp_eq]
  show ((cells ++ t).drop (j * 6)).take 6 = (cells.drop (j * 6)).take 6
  rw [List.drop_append_of_le_length (by omega), List.take_append_of_le_length (by rw [List.length_drop]; omega)]
theorem cut_hi {cells t : List AV} {k : Nat} (hl : cells.length = k * 6) (ht : t.length = 6) : ltake (ldrop (lapp cells t) (Nat.mul k 6)) 6 = t := by
  rw [ltake_eq, ldrop_eq, lapp_eq]
  show ((cells ++ t).drop (k * 6)).take 6 = _
  rw [← hl, List.drop_left]
  exact List.take_of_length_le (by omega)
theorem Pay.app {a b s t : List AV} {k : Nat} (h : Pay a b k) (e : payEq s t) : Pay (lapp a s) (lapp b t) (k + 1) := by
  have hs : s.length = 6 := by obtain ⟨_, _, _, _, _, _, _, rfl, rfl⟩ := e; rfl
  have ht : t.length = 6 := by obtain ⟨_, _, _, _, _, _, _, rfl, rfl⟩ := e; rfl
  refine ⟨by rw [lapp_len, h.l1, hs]; omega, by rw [lapp_len, h.l2, ht]; omega, fun j hj => ?_⟩
  by_cases hk : j < k
  · rw [cut_lo h.l1 hk, cut_lo h.l2 hk]; exact h.e j hk
  · have : j = k := by omega
    subst this
    rw [cut_hi h.l1 hs, cut_hi h.l2 ht]; exact e
/-- two answers, but for places -/
def Alike (r s : Res) : Prop := r.ok = s.ok ∧ (r.ok = true → r.count = s.count ∧ r.count ≤ 20001 ∧ Pay r.cells s.cells r.count) ∧ (r.ok = false → r.code = s.code)
theorem alike_err {p q c : Nat} : Alike ⟨false, p, c, [], 0⟩ ⟨false, q, c, [], 0⟩ := ⟨rfl, fun h => Bool.noConfusion h, fun _ => rfl⟩
/-- one token at two places -/
theorem step_alike {n1 v1 n2 v2 x1 x2 k : Nat} {c1 c2 : List AV} (h1 : x1 ≤ n1) (h2 : x2 ≤ n2) (b1 : bl v1 n1 x1 < n1) (b2 : bl v2 n2 x2 < n2) (hk : k ≤ 20000) (P : Pay c1 c2 k)
    (he : tk n1 v1 (bl v1 n1 x1) = tk n2 v2 (bl v2 n2 x2)) (hs : subV v1 (bl v1 n1 x1) (bl v1 n1 x1 + tkL n1 v1 (bl v1 n1 x1)) = subV v2 (bl v2 n2 x2) (bl v2 n2 x2 + tkL n2 v2 (bl v2 n2 x2)))
    (next : k < 20000 → 1 ≤ tkL n1 v1 (bl v1 n1 x1) → tkE n1 v1 (bl v1 n1 x1) = false → ∀ d1 d2, Pay d1 d2 (k + 1) → Alike (toks n1 v1 (bl v1 n1 x1 + tkL n1 v1 (bl v1 n1 x1)) d1 (k + 1)) (toks n2 v2 (bl v2 n2 x2 + tkL n2 v2 (bl v2 n2 x2)) d2 (k + 1))) :
    Alike (toks n1 v1 x1 c1 k) (toks n2 v2 x2 c2 k) := by
  have e1 := nx_at b1
  have e2 := nx_at b2
  have E1 : nxE n1 v1 x1 = tkE n1 v1 (bl v1 n1 x1) := by unfold nxE tkE; rw [e1]
  have E2 : nxE n2 v2 x2 = tkE n1 v1 (bl v1 n1 x1) := by unfold nxE tkE; rw [e2, he]
  have C1 : nxC n1 v1 x1 = tkC n1 v1 (bl v1 n1 x1) := by unfold nxC tkC; rw [e1]
  have C2 : nxC n2 v2 x2 = tkC n1 v1 (bl v1 n1 x1) := by unfold nxC tkC; rw [e2, he]
  have L1 : nxL n1 v1 x1 = tkL n1 v1 (bl v1 n1 x1) := by unfold nxL tkL; rw [e1]
  have L2 : nxL n2 v2 x2 = tkL n2 v2 (bl v2 n2 x2) := by unfold nxL tkL; rw [e2]
  have hL : tkL n2 v2 (bl v2 n2 x2) = tkL n1 v1 (bl v1 n1 x1) := by unfold tkL; rw [he]
  cases hE : tkE n1 v1 (bl v1 n1 x1) with
  | true =>
    rw [toks_err h1 (E1.trans hE), toks_err h2 (E2.trans hE), C1, C2]
    exact alike_err
  | false =>
    by_cases hk0 : k = 20000
    · rw [toks_many h1 (E1.trans hE) hk0, toks_many h2 (E2.trans hE) hk0]
      exact alike_err
    · have K1 : nxK n1 v1 x1 ≠ 5 ∧ 1 ≤ nxL n1 v1 x1 := by
        rcases nx_cases (v := v1) h1 with ⟨a, _⟩ | ⟨_, _, _, a⟩ | ⟨_, a, a2, _⟩
        · rw [E1, hE] at a; cases a
        · exact absurd b1 a
        · exact ⟨a, a2⟩
      have K2 : nxK n2 v2 x2 ≠ 5 := by
        rcases nx_cases (v := v2) h2 with ⟨a, _⟩ | ⟨_, _, _, a⟩ | ⟨_, a, _, _⟩
        · rw [E2, hE] at a; cases a
        · exact absurd b2 a
        · exact a
      rw [toks_next h1 (E1.trans hE) hk0 K1.1, toks_next h2 (E2.trans hE) hk0 K2]
      have X1 : nxX n1 v1 x1 = bl v1 n1 x1 + tkL n1 v1 (bl v1 n1 x1) := by unfold nxX; rw [L1]
      have X2 : nxX n2 v2 x2 = bl v2 n2 x2 + tkL n2 v2 (bl v2 n2 x2) := by unfold nxX; rw [L2]
      rw [X1, X2]
      refine next (by omega) (by rw [← L1]; exact K1.2) hE _ _ (P.app ?_)
      rw [nxTok_at b1, nxTok_at b2]
      unfold tkTok
      have q1 : tkK n2 v2 (bl v2 n2 x2) = tkK n1 v1 (bl v1 n1 x1) := by unfold tkK; rw [he]
      have q2 : tkN n2 v2 (bl v2 n2 x2) = tkN n1 v1 (bl v1 n1 x1) := by unfold tkN; rw [he]
      have q3 : tkT n2 v2 (bl v2 n2 x2) = tkT n1 v1 (bl v1 n1 x1) := by unfold tkT; rw [he]
      rw [q1, q2, q3, ← hs, hL]
      exact ⟨_, _, _, _, _, _, _, rfl, rfl⟩
theorem end_alike {n1 v1 n2 v2 x1 x2 k : Nat} {c1 c2 : List AV} (h1 : x1 ≤ n1) (h2 : x2 ≤ n2) (b1 : ¬ bl v1 n1 x1 < n1) (b2 : ¬ bl v2 n2 x2 < n2) (hk : k ≤ 20000) (P : Pay c1 c2 k) :
    Alike (toks n1 v1 x1 c1 k) (toks n2 v2 x2 c2 k) := by
  have e1 := nx_out b1
  have e2 := nx_out b2
  have E1 : nxE n1 v1 x1 = false := by unfold nxE; rw [e1]
  have E2 : nxE n2 v2 x2 = false := by unfold nxE; rw [e2]
  by_cases hk0 : k = 20000
  · rw [toks_many h1 E1 hk0, toks_many h2 E2 hk0]
    exact alike_err
  · rw [toks_end h1 E1 hk0 (by unfold nxK; rw [e1]), toks_end h2 E2 hk0 (by unfold nxK; rw [e2]), nxTok_out b1, nxTok_out b2]
    exact ⟨rfl, fun _ => ⟨rfl, by show k + 1 ≤ 20001; omega, P.app ⟨_, _, _, _, _, _, _, rfl, rfl⟩⟩, fun h => Bool.noConfusion h⟩
theorem scan_stopG {p : Nat → Bool} {v e : Nat} : ∀ (f i : Nat), (∀ j, i ≤ j → j < e → p (byteAt v j) = true) → (e < i + f → p (byteAt v e) = false) → i ≤ e → e ≤ i + f → scan p v f i = e
  | 0, i, _, _, h1, h2 => by rw [scan]; omega
  | f + 1, i, h, hs, h1, h2 => by
    rw [scan]
    by_cases q : i = e
    · subst q; rw [hs (by omega)]; rfl
    · rw [h i (Nat.le_refl _) (by omega)]
      exact scan_stopG f (i + 1) (fun j hj hje => h j (by omega) hje) (fun hh => hs (by omega)) (by omega) (by omega)
theorem g20 : byteAt (gapV 2) 0 = 9 := by kernel_rfl
theorem g21 : byteAt (gapV 2) 1 = 13 := by kernel_rfl
theorem g30 : byteAt (gapV 3) 0 = 45 := by kernel_rfl
theorem g31 : byteAt (gapV 3) 1 = 45 := by kernel_rfl
theorem g38 : byteAt (gapV 3) 8 = 10 := by kernel_rfl
theorem g3n : ∀ i, i < 8 → isNot 10 (byteAt (gapV 3) i) = true
  | 0, _ => by kernel_rfl
  | 1, _ => by kernel_rfl
  | 2, _ => by kernel_rfl
  | 3, _ => by kernel_rfl
  | 4, _ => by kernel_rfl
  | 5, _ => by kernel_rfl
  | 6, _ => by kernel_rfl
  | 7, _ => by kernel_rfl
  | k + 8, h => absurd h (by omega)
/-- what a gap is: blanks -/
theorem bl_gap {n v y g : Nat} (hg : g < 4) (hn : y + gapL g ≤ n) (hs : ∀ j, j < gapL g → byteAt v (y + j) = byteAt (gapV g) j) : bl v n y = bl v n (y + gapL g) := by
  have sp : ∀ c x, x < n → byteAt v x = c → isS c = true → bl v n x = bl v n (x + 1) := fun c x hx hc hS => bl_sp hx (by rw [hc]; exact hS)
  match g, hg with
  | 0, _ => exact sp 32 y (by have : gapL 0 = 1 := rfl; omega) (hs 0 (by decide)) rfl
  | 1, _ => exact sp 10 y (by have : gapL 1 = 1 := rfl; omega) (hs 0 (by decide)) rfl
  | 2, _ =>
    have e : gapL 2 = 2 := rfl
    rw [e] at hn
    rw [sp 9 y (by omega) ((hs 0 (by decide)).trans g20) rfl, sp 13 (y + 1) (by omega) ((hs 1 (by decide)).trans g21) rfl, e]
  | 3, _ =>
    have e : gapL 3 = 9 := rfl
    rw [e] at hn
    have b0 : byteAt v y = 45 := (hs 0 (by decide)).trans g30
    have b1 : byteAt v (y + 1) = 45 := (hs 1 (by decide)).trans g31
    have b8 : byteAt v (y + 8) = 10 := (hs 8 (by decide)).trans g38
    have hd : dash v n y = true := by unfold dash; rw [b0, b1, Nat.ble_eq_true_of_le (by omega)]; rfl
    have hl : lineE v n y = y + 8 := by
      unfold lineE
      refine scan_stopG _ y (fun j h1 h2 => ?_) (fun _ => by rw [b8]; rfl) (by omega) (by omega)
      obtain ⟨i, rfl⟩ : ∃ i, j = y + i := ⟨j - y, by omega⟩
      rw [hs i (by rw [e]; omega)]
      exact g3n i (by omega)
    rw [bl_dash (by omega) (by rw [b0]; rfl) hd, hl, sp 10 (y + 8) (by omega) b8 rfl, e]
  | k + 4, h => omega
theorem tkL_le {m w p : Nat} (h : p < m) : p + tkL m w p ≤ m := by
  unfold tkL tk
  cases isD (byteAt w p) with
  | true =>
    cases nBad m w p with
    | true => show p + 0 ≤ m; omega
    | false =>
      have a := nTok_le (v := w) (n := m) (p := p) (by omega)
      have b : p ≤ nTok m w p := Nat.le_trans (scan_ge isD w (m - p) p) (Nat.le_add_right _ _)
      show p + (nTok m w p - p) ≤ m; omega
  | false =>
    cases isL (byteAt w p) with
    | true =>
      cases Nat.ble (wordN m w p) 40 with
      | true => exact word_end (by omega)
      | false => show p + 0 ≤ m; omega
    | false =>
      cases Nat.beq (sLen m w p) 0 with
      | true => show p + 0 ≤ m; omega
      | false => exact sLen_le h
/-- the heart: from a place in a word on -/
theorem words_alike {n1 v1 n2 v2 : Nat} (μ : Nat) : ∀ (r1 r2 : List (Nat × Nat × Nat)) (a1 a2 m w i k : Nat) (c1 c2 : List AV), n1 - (a1 + i) + r1.length = μ → i ≤ m → r1.map (fun x => x.2) = r2.map (fun x => x.2) →
    Cur n1 v1 a1 m w → Cur n2 v2 a2 m w → Text n1 v1 (a1 + m) r1 → Text n2 v2 (a2 + m) r2 → k ≤ 20000 → Pay c1 c2 k → Alike (toks n1 v1 (a1 + i) c1 k) (toks n2 v2 (a2 + i) c2 k) := by
  induction μ using Nat.strongRecOn with
  | _ μ ih =>
    intro r1 r2 a1 a2 m w i k c1 c2 hμ hi hr C1 C2 T1 T2 hk P
    have l1 := C1.t.le
    have l2 := C2.t.le
    obtain ⟨p1, p2⟩ := bl_cur C1 _ i rfl hi
    obtain ⟨_, p3⟩ := bl_cur C2 _ i rfl hi
    have pge : i ≤ bl w m i := bl_ge w m _ _
    by_cases hp : bl w m i < m
    · rw [if_pos hp] at p2 p3
      generalize bl w m i = p at *
      have t1 := tk_cur C1 hp
      have t2 := tk_cur C2 hp
      have L1 : tkL n1 v1 (a1 + p) = tkL m w p := by unfold tkL; rw [t1]
      have L2 : tkL n2 v2 (a2 + p) = tkL m w p := by unfold tkL; rw [t2]
      have hle := tkL_le (w := w) hp
      refine step_alike (by omega) (by omega) (by omega) (by omega) hk P (by rw [p2, p3, t1, t2]) ?_ ?_
      · rw [p2, p3, L1, L2, Nat.add_assoc, Nat.add_assoc, sub_sh C1.sh hle, sub_sh C2.sh hle]
      · intro hk2 hl _ d1 d2 PD
        rw [p2, L1] at hl
        rw [p2, p3, L1, L2, Nat.add_assoc, Nat.add_assoc]
        exact ih (n1 - (a1 + (p + tkL m w p)) + r1.length) (by omega) r1 r2 a1 a2 m w (p + tkL m w p) (k + 1) d1 d2 rfl hle hr C1 C2 T1 T2 (by omega) PD
    · rw [if_neg hp] at p2 p3
      cases T1 with
      | nil =>
        cases r2 with
        | cons x r2 => cases hr
        | nil =>
          have e2 : a2 + m = n2 := by
            generalize hy : a2 + m = y at T2
            cases T2; rfl
          have b1 : bl v1 (a1 + m) (a1 + m) = a1 + m := bl_end (by omega)
          have b2 : bl v2 n2 (a2 + m) = a2 + m := bl_end (by omega)
          exact end_alike (by omega) (by omega) (by rw [p2, b1]; omega) (by rw [p3, b2]; omega) hk P
      | cons y g m1 w1 q1 hg hs hw hc ht =>
        cases r2 with
        | nil => cases hr
        | cons x r2 =>
          obtain ⟨g2, m2, w2⟩ := x
          simp only [List.map_cons, List.cons.injEq, Prod.mk.injEq] at hr
          obtain ⟨⟨rfl, rfl⟩, hr⟩ := hr
          cases T2 with
          | cons _ _ _ _ _ hg2 hs2 hw2 hc2 ht2 =>
            have u1 := ht.trm.le
            have u2 := ht2.trm.le
            have gp := gap_pos (g := g)
            have g1 := bl_gap (n := n1) hg (by omega) hs
            have g2' := bl_gap (n := n2) hg2 (by omega) hs2
            rw [toks_bl (n := n1) (v := v1) (x := a1 + i) (y := a1 + m + gapL g) (by omega) (by omega) (p2.trans g1), toks_bl (n := n2) (v := v2) (x := a2 + i) (y := a2 + m + gapL g2) (by omega) (by omega) (p3.trans g2')]
            have key := ih (n1 - (a1 + m + gapL g + 0) + q1.length) (by simp only [List.length_cons] at hμ; omega) q1 r2 (a1 + m + gapL g) (a2 + m + gapL g2) m1 w1 0 k c1 c2 rfl (Nat.zero_le _) hr ⟨ht.trm, hw, hc⟩ ⟨ht2.trm, hw2, hc2⟩ ht ht2 hk P
            exact key
end
end Go.Proofs.YtoeoaiipchklbaaDoor

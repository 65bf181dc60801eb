/- The program's lexer: signs: definitions. -/
import Derived.Test.YtoeoaiipchklbaaDoorL3
set_option linter.unusedVariables false
set_option autoImplicit false
set_option linter.unusedVariables false
set_option maxRecDepth 100000
namespace Go.Proofs.YtoeoaiipchklbaaDoor
noncomputable section
open Go.X
end
end Go.Proofs.YtoeoaiipchklbaaDoor
set_option autoImplicit false
set_option maxRecDepth 1000000
set_option maxHeartbeats 0
namespace Go.Proofs.YtoeoaiipchklbaaDoor
noncomputable section
open Go.X
theorem sign_res (n v x b : Nat) (K : KV) : xfun C9 Tryd.prog (xcode C9 Tryd.prog F) 32 [.ptr 0 0] (rdr n v x b) [] K = (bcase (inR Go.IntKind.i64 (Int.ofNat x + Int.ofNat 1)) (bcase (ltI (Int.ofNat x + Int.ofNat 1) (Int.ofNat n)) (bcase (inR Go.IntKind.i64 (Int.ofNat x + Int.ofNat 2)) (bcase (Nat.ble (x + 2) n && Nat.ble x (x + 2)) (bcase (Nat.beq (Nat.sub (x + 2) x) 2 && Nat.beq (subV v x (x + 2)) 15917) (bcase (inR Go.IntKind.i64 (Int.ofNat x + Int.ofNat 2)) (bcase (Nat.ble (x + 2) n && Nat.ble x (x + 2)) (K (AV.agg [AV.int Go.IntKind.i64 (Int.ofNat 4), AV.str (Nat.sub (x + 2) x) (subV v x (x + 2)), AV.int Go.IntKind.i64 (Int.ofNat 0), AV.int Go.IntKind.i64 (Int.ofNat 0), AV.int Go.IntKind.i64 (Int.ofNat 0), AV.int Go.IntKind.i64 (Int.ofNat x)]) (H.mk (T.node (T.node T.leaf Option.none (T.node T.leaf (Option.some (Blk.row [AV.int Go.IntKind.i64 (Int.ofNat 4), AV.str (Nat.sub (x + 2) x) (subV v x (x + 2)), AV.int Go.IntKind.i64 (Int.ofNat 0), AV.int Go.IntKind.i64 (Int.ofNat 0), AV.int Go.IntKind.i64 (Int.ofNat 0), AV.int Go.IntKind.i64 (Int.ofNat x)] 30 true [])) T.leaf)) (Option.some (Blk.row [AV.str n v, AV.int Go.IntKind.i64 (Int.ofNat x), AV.map 1, AV.int Go.IntKind.i64 (Int.ofNat b)] 48 true [])) T.leaf) (Nat.succ 2)) []) False) False) (bcase (Nat.beq (Nat.sub (x + 2) x) 2 && Nat.beq (subV v x (x + 2)) 15933) (bcase (inR Go.IntKind.i64 (Int.ofNat x + Int.ofNat 2)) (bcase (Nat.ble (x + 2) n && Nat.ble x (x + 2)) (K (AV.agg [AV.int Go.IntKind.i64 (Int.ofNat 4), AV.str (Nat.sub (x + 2) x) (subV v x (x + 2)), AV.int Go.IntKind.i64 (Int.ofNat 0), AV.int Go.IntKind.i64 (Int.ofNat 0), AV.int Go.IntKind.i64 (Int.ofNat 0), AV.int Go.IntKind.i64 (Int.ofNat x)]) (H.mk (T.node (T.node T.leaf Option.none (T.node T.leaf (Option.some (Blk.row [AV.int Go.IntKind.i64 (Int.ofNat 4), AV.str (Nat.sub (x + 2) x) (subV v x (x + 2)), AV.int Go.IntKind.i64 (Int.ofNat 0), AV.int Go.IntKind.i64 (Int.ofNat 0), AV.int Go.IntKind.i64 (Int.ofNat 0), AV.int Go.IntKind.i64 (Int.ofNat x)] 30 true [])) T.leaf)) (Option.some (Blk.row [AV.str n v, AV.int Go.IntKind.i64 (Int.ofNat x), AV.map 1, AV.int Go.IntKind.i64 (Int.ofNat b)] 48 true [])) T.leaf) (Nat.succ 2)) []) False) False) (bcase (Nat.beq (Nat.sub (x + 2) x) 2 && Nat.beq (subV v x (x + 2)) 15932) (bcase (inR Go.IntKind.i64 (Int.ofNat x + Int.ofNat 2)) (bcase (Nat.ble (x + 2) n && Nat.ble x (x + 2)) (K (AV.agg [AV.int Go.IntKind.i64 (Int.ofNat 4), AV.str (Nat.sub (x + 2) x) (subV v x (x + 2)), AV.int Go.IntKind.i64 (Int.ofNat 0), AV.int Go.IntKind.i64 (Int.ofNat 0), AV.int Go.IntKind.i64 (Int.ofNat 0), AV.int Go.IntKind.i64 (Int.ofNat x)]) (H.mk (T.node (T.node T.leaf Option.none (T.node T.leaf (Option.some (Blk.row [AV.int Go.IntKind.i64 (Int.ofNat 4), AV.str (Nat.sub (x + 2) x) (subV v x (x + 2)), AV.int Go.IntKind.i64 (Int.ofNat 0), AV.int Go.IntKind.i64 (Int.ofNat 0), AV.int Go.IntKind.i64 (Int.ofNat 0), AV.int Go.IntKind.i64 (Int.ofNat x)] 30 true [])) T.leaf)) (Option.some (Blk.row [AV.str n v, AV.int Go.IntKind.i64 (Int.ofNat x), AV.map 1, AV.int Go.IntKind.i64 (Int.ofNat b)] 48 true [])) T.leaf) (Nat.succ 2)) []) False) False) (bcase (Nat.beq (Nat.sub (x + 2) x) 2 && Nat.beq (subV v x (x + 2)) 15676) (bcase (inR Go.IntKind.i64 (Int.ofNat x + Int.ofNat 2)) (bcase (Nat.ble (x + 2) n && Nat.ble x (x + 2)) (K (AV.agg [AV.int Go.IntKind.i64 (Int.ofNat 4), AV.str (Nat.sub (x + 2) x) (subV v x (x + 2)), AV.int Go.IntKind.i64 (Int.ofNat 0), AV.int Go.IntKind.i64 (Int.ofNat 0), AV.int Go.IntKind.i64 (Int.ofNat 0), AV.int Go.IntKind.i64 (Int.ofNat x)]) (H.mk (T.node (T.node T.leaf Option.none (T.node T.leaf (Option.some (Blk.row [AV.int Go.IntKind.i64 (Int.ofNat 4), AV.str (Nat.sub (x + 2) x) (subV v x (x + 2)), AV.int Go.IntKind.i64 (Int.ofNat 0), AV.int Go.IntKind.i64 (Int.ofNat 0), AV.int Go.IntKind.i64 (Int.ofNat 0), AV.int Go.IntKind.i64 (Int.ofNat x)] 30 true [])) T.leaf)) (Option.some (Blk.row [AV.str n v, AV.int Go.IntKind.i64 (Int.ofNat x), AV.map 1, AV.int Go.IntKind.i64 (Int.ofNat b)] 48 true [])) T.leaf) (Nat.succ 2)) []) False) False) (bcase (Nat.beq (Nat.sub (x + 2) x) 2 && Nat.beq (subV v x (x + 2)) 15678) (bcase (inR Go.IntKind.i64 (Int.ofNat x + Int.ofNat 2)) (bcase (Nat.ble (x + 2) n && Nat.ble x (x + 2)) (K (AV.agg [AV.int Go.IntKind.i64 (Int.ofNat 4), AV.str (Nat.sub (x + 2) x) (subV v x (x + 2)), AV.int Go.IntKind.i64 (Int.ofNat 0), AV.int Go.IntKind.i64 (Int.ofNat 0), AV.int Go.IntKind.i64 (Int.ofNat 0), AV.int Go.IntKind.i64 (Int.ofNat x)]) (H.mk (T.node (T.node T.leaf Option.none (T.node T.leaf (Option.some (Blk.row [AV.int Go.IntKind.i64 (Int.ofNat 4), AV.str (Nat.sub (x + 2) x) (subV v x (x + 2)), AV.int Go.IntKind.i64 (Int.ofNat 0), AV.int Go.IntKind.i64 (Int.ofNat 0), AV.int Go.IntKind.i64 (Int.ofNat 0), AV.int Go.IntKind.i64 (Int.ofNat x)] 30 true [])) T.leaf)) (Option.some (Blk.row [AV.str n v, AV.int Go.IntKind.i64 (Int.ofNat x), AV.map 1, AV.int Go.IntKind.i64 (Int.ofNat b)] 48 true [])) T.leaf) (Nat.succ 2)) []) False) False) (bcase (Nat.beq (Nat.sub (x + 2) x) 2 && Nat.beq (subV v x (x + 2)) 15420) (bcase (inR Go.IntKind.i64 (Int.ofNat x + Int.ofNat 2)) (bcase (Nat.ble (x + 2) n && Nat.ble x (x + 2)) (K (AV.agg [AV.int Go.IntKind.i64 (Int.ofNat 4), AV.str (Nat.sub (x + 2) x) (subV v x (x + 2)), AV.int Go.IntKind.i64 (Int.ofNat 0), AV.int Go.IntKind.i64 (Int.ofNat 0), AV.int Go.IntKind.i64 (Int.ofNat 0), AV.int Go.IntKind.i64 (Int.ofNat x)]) (H.mk (T.node (T.node T.leaf Option.none (T.node T.leaf (Option.some (Blk.row [AV.int Go.IntKind.i64 (Int.ofNat 4), AV.str (Nat.sub (x + 2) x) (subV v x (x + 2)), AV.int Go.IntKind.i64 (Int.ofNat 0), AV.int Go.IntKind.i64 (Int.ofNat 0), AV.int Go.IntKind.i64 (Int.ofNat 0), AV.int Go.IntKind.i64 (Int.ofNat x)] 30 true [])) T.leaf)) (Option.some (Blk.row [AV.str n v, AV.int Go.IntKind.i64 (Int.ofNat x), AV.map 1, AV.int Go.IntKind.i64 (Int.ofNat b)] 48 true [])) T.leaf) (Nat.succ 2)) []) False) False) (bcase (Nat.beq (Nat.sub (x + 2) x) 2 && Nat.beq (subV v x (x + 2)) 15934) (bcase (inR Go.IntKind.i64 (Int.ofNat x + Int.ofNat 2)) (bcase (Nat.ble (x + 2) n && Nat.ble x (x + 2)) (K (AV.agg [AV.int Go.IntKind.i64 (Int.ofNat 4), AV.str (Nat.sub (x + 2) x) (subV v x (x + 2)), AV.int Go.IntKind.i64 (Int.ofNat 0), AV.int Go.IntKind.i64 (Int.ofNat 0), AV.int Go.IntKind.i64 (Int.ofNat 0), AV.int Go.IntKind.i64 (Int.ofNat x)]) (H.mk (T.node (T.node T.leaf Option.none (T.node T.leaf (Option.some (Blk.row [AV.int Go.IntKind.i64 (Int.ofNat 4), AV.str (Nat.sub (x + 2) x) (subV v x (x + 2)), AV.int Go.IntKind.i64 (Int.ofNat 0), AV.int Go.IntKind.i64 (Int.ofNat 0), AV.int Go.IntKind.i64 (Int.ofNat 0), AV.int Go.IntKind.i64 (Int.ofNat x)] 30 true [])) T.leaf)) (Option.some (Blk.row [AV.str n v, AV.int Go.IntKind.i64 (Int.ofNat x), AV.map 1, AV.int Go.IntKind.i64 (Int.ofNat b)] 48 true [])) T.leaf) (Nat.succ 2)) []) False) False) (bcase (inB (Int.ofNat x) n) (bcase (Nat.ble (byteAt v (Int.toNat (Int.ofNat x))) 255) (bcase (Nat.ble (Nat.succ (scan (isNot (byteAt v (Int.toNat (Int.ofNat x)))) 32151565025940982757624923880705538861352 17 0)) 17) (bcase (inR Go.IntKind.i64 (Int.ofNat x + Int.ofNat 1)) (bcase (Nat.ble (x + 1) n && Nat.ble x (x + 1)) (K (AV.agg [AV.int Go.IntKind.i64 (Int.ofNat 4), AV.str (Nat.sub (x + 1) x) (subV v x (x + 1)), AV.int Go.IntKind.i64 (Int.ofNat 0), AV.int Go.IntKind.i64 (Int.ofNat 0), AV.int Go.IntKind.i64 (Int.ofNat 0), AV.int Go.IntKind.i64 (Int.ofNat x)]) (H.mk (T.node (T.node T.leaf Option.none (T.node T.leaf (Option.some (Blk.row [AV.int Go.IntKind.i64 (Int.ofNat 4), AV.str (Nat.sub (x + 1) x) (subV v x (x + 1)), AV.int Go.IntKind.i64 (Int.ofNat 0), AV.int Go.IntKind.i64 (Int.ofNat 0), AV.int Go.IntKind.i64 (Int.ofNat 0), AV.int Go.IntKind.i64 (Int.ofNat x)] 30 true [])) T.leaf)) (Option.some (Blk.row [AV.str n v, AV.int Go.IntKind.i64 (Int.ofNat x), AV.map 1, AV.int Go.IntKind.i64 (Int.ofNat b)] 48 true [])) T.leaf) (Nat.succ 2)) []) False) False) (K (AV.agg [AV.int Go.IntKind.i64 (Int.ofNat 0), AV.str 0 0, AV.int Go.IntKind.i64 (Int.ofNat 0), AV.int Go.IntKind.i64 (Int.ofNat 0), AV.int Go.IntKind.i64 (Int.ofNat 0), AV.int Go.IntKind.i64 (Int.ofNat x)]) (H.mk (T.node (T.node T.leaf Option.none (T.node T.leaf (Option.some (Blk.row [AV.int Go.IntKind.i64 (Int.ofNat 0), AV.str 0 0, AV.int Go.IntKind.i64 (Int.ofNat 0), AV.int Go.IntKind.i64 (Int.ofNat 0), AV.int Go.IntKind.i64 (Int.ofNat 0), AV.int Go.IntKind.i64 (Int.ofNat x)] 30 true [])) T.leaf)) (Option.some (Blk.row [AV.str n v, AV.int Go.IntKind.i64 (Int.ofNat x), AV.map 1, AV.int Go.IntKind.i64 (Int.ofNat 10)] 48 true [])) (T.node T.leaf Option.none (T.node T.leaf (Option.some (Blk.row [AV.int Go.IntKind.i64 (Int.ofNat 0), AV.str 0 0, AV.int Go.IntKind.i64 (Int.ofNat 0), AV.int Go.IntKind.i64 (Int.ofNat 0), AV.int Go.IntKind.i64 (Int.ofNat 0), AV.int Go.IntKind.i64 (Int.ofNat x)] 30 true [])) T.leaf))) (Nat.succ (Nat.succ 2))) [])) False) False)))))))) False) False) (bcase (inB (Int.ofNat x) n) (bcase (Nat.ble (byteAt v (Int.toNat (Int.ofNat x))) 255) (bcase (Nat.ble (Nat.succ (scan (isNot (byteAt v (Int.toNat (Int.ofNat x)))) 32151565025940982757624923880705538861352 17 0)) 17) (bcase (inR Go.IntKind.i64 (Int.ofNat x + Int.ofNat 1)) (bcase (Nat.ble (x + 1) n && Nat.ble x (x + 1)) (K (AV.agg [AV.int Go.IntKind.i64 (Int.ofNat 4), AV.str (Nat.sub (x + 1) x) (subV v x (x + 1)), AV.int Go.IntKind.i64 (Int.ofNat 0), AV.int Go.IntKind.i64 (Int.ofNat 0), AV.int Go.IntKind.i64 (Int.ofNat 0), AV.int Go.IntKind.i64 (Int.ofNat x)]) (H.mk (T.node (T.node T.leaf Option.none (T.node T.leaf (Option.some (Blk.row [AV.int Go.IntKind.i64 (Int.ofNat 4), AV.str (Nat.sub (x + 1) x) (subV v x (x + 1)), AV.int Go.IntKind.i64 (Int.ofNat 0), AV.int Go.IntKind.i64 (Int.ofNat 0), AV.int Go.IntKind.i64 (Int.ofNat 0), AV.int Go.IntKind.i64 (Int.ofNat x)] 30 true [])) T.leaf)) (Option.some (Blk.row [AV.str n v, AV.int Go.IntKind.i64 (Int.ofNat x), AV.map 1, AV.int Go.IntKind.i64 (Int.ofNat b)] 48 true [])) T.leaf) (Nat.succ 2)) []) False) False) (K (AV.agg [AV.int Go.IntKind.i64 (Int.ofNat 0), AV.str 0 0, AV.int Go.IntKind.i64 (Int.ofNat 0), AV.int Go.IntKind.i64 (Int.ofNat 0), AV.int Go.IntKind.i64 (Int.ofNat 0), AV.int Go.IntKind.i64 (Int.ofNat x)]) (H.mk (T.node (T.node T.leaf Option.none (T.node T.leaf (Option.some (Blk.row [AV.int Go.IntKind.i64 (Int.ofNat 0), AV.str 0 0, AV.int Go.IntKind.i64 (Int.ofNat 0), AV.int Go.IntKind.i64 (Int.ofNat 0), AV.int Go.IntKind.i64 (Int.ofNat 0), AV.int Go.IntKind.i64 (Int.ofNat x)] 30 true [])) T.leaf)) (Option.some (Blk.row [AV.str n v, AV.int Go.IntKind.i64 (Int.ofNat x), AV.map 1, AV.int Go.IntKind.i64 (Int.ofNat 10)] 48 true [])) (T.node T.leaf Option.none (T.node T.leaf (Option.some (Blk.row [AV.int Go.IntKind.i64 (Int.ofNat 0), AV.str 0 0, AV.int Go.IntKind.i64 (Int.ofNat 0), AV.int Go.IntKind.i64 (Int.ofNat 0), AV.int Go.IntKind.i64 (Int.ofNat 0), AV.int Go.IntKind.i64 (Int.ofNat x)] 30 true [])) T.leaf))) (Nat.succ (Nat.succ 2))) [])) False) False)) False) := by kernel_rfl
end
end Go.Proofs.YtoeoaiipchklbaaDoor
/- The program's lexer: signs, as a contract. -/
set_option autoImplicit false
set_option linter.unusedVariables false
set_option maxRecDepth 100000
namespace Go.Proofs.YtoeoaiipchklbaaDoor
noncomputable section
open Go.X
def isTwo (w : Nat) : Bool := Nat.beq w 15917 || (Nat.beq w 15933 || (Nat.beq w 15932 || (Nat.beq w 15676 || (Nat.beq w 15678 || (Nat.beq w 15420 || (Nat.beq w 15934))))))
def ones17 : Nat := 32151565025940982757624923880705538861352
def isOne (c : Nat) : Bool := Nat.ble (Nat.succ (scan (isNot c) ones17 17 0)) 17
/-- how many bytes the sign has that stands at a place; 0: none -/
def sLen (n v x : Nat) : Nat := cond (Nat.ble (x + 2) n && isTwo (subV v x (x + 2))) 2 (cond (isOne (byteAt v x)) 1 0)
def QSign (n v x b : Nat) : KV := fun u h' _ =>
  (Nat.beq (sLen n v x) 0 = true ∧ u = .agg (tok 0 0 0 (.ofNat 0) 0 x) ∧ h'.b.get 0 = some (rowR n v x 10)) ∨
  (Nat.beq (sLen n v x) 0 = false ∧ u = .agg (tok 4 (sLen n v x) (subV v x (x + sLen n v x)) (.ofNat 0) 0 x) ∧ h'.b.get 0 = some (rowR n v x b))
theorem sign_run {n v x b : Nat} (hx : x < n) (hn : n ≤ 9223372036854775807) : Ran (xfun C9 Tryd.prog (xcode C9 Tryd.prog F) 32 [.ptr 0 0] (rdr n v x b) [] (QSign n v x b)) := by
  refine ⟨Eq.mpr (sign_res n v x b _) ?_⟩
  have l2 : sLen n v x = 2 → ∀ {h' : H} {d : List Bool}, h'.b.get 0 = some (rowR n v x b) → QSign n v x b (.agg (tok 4 (Nat.sub (x + 2) x) (subV v x (x + 2)) (.ofNat 0) 0 x)) h' d := fun e h' d hg =>
    .inr ⟨by rw [e]; rfl, by rw [e]; show AV.agg (tok 4 (x + 2 - x) _ _ _ _) = _; rw [Nat.add_sub_cancel_left], hg⟩
  have l1 : sLen n v x = 1 → ∀ {h' : H} {d : List Bool}, h'.b.get 0 = some (rowR n v x b) → QSign n v x b (.agg (tok 4 (Nat.sub (x + 1) x) (subV v x (x + 1)) (.ofNat 0) 0 x)) h' d := fun e h' d hg =>
    .inr ⟨by rw [e]; rfl, by rw [e]; show AV.agg (tok 4 (x + 1 - x) _ _ _ _) = _; rw [Nat.add_sub_cancel_left], hg⟩
  have l0 : sLen n v x = 0 → ∀ {h' : H} {d : List Bool}, h'.b.get 0 = some (rowR n v x 10) → QSign n v x b (.agg (tok 0 0 0 (.ofNat 0) 0 x)) h' d := fun e h' d hg =>
    .inl ⟨by rw [e]; rfl, rfl, hg⟩
  have b8 : Nat.ble (byteAt v x) 255 = true := Nat.ble_eq_true_of_le (by have := byteAt_lt v x; omega)
  have c1 : (Nat.ble (x + 1) n && Nat.ble x (x + 1)) = true := and2 (Nat.ble_eq_true_of_le hx) (Nat.ble_eq_true_of_le (Nat.le_succ _))
  refine bcase_t (inR_add (by omega)) (bcase_mk (fun g0 => ?_) (fun g0 => ?_))
  · rw [addN] at g0
    have g0 := ltT g0
    have c2 : (Nat.ble (x + 2) n && Nat.ble x (x + 2)) = true := and2 (Nat.ble_eq_true_of_le g0) (Nat.ble_eq_true_of_le (Nat.le_add_right _ _))
    have d2 : Nat.beq (Nat.sub (x + 2) x) 2 = true := by show Nat.beq (x + 2 - x) 2 = true; rw [Nat.add_sub_cancel_left]; rfl
    have le2 : Nat.ble (x + 2) n = true := Nat.ble_eq_true_of_le g0
    have two : isTwo (subV v x (x + 2)) = true → sLen n v x = 2 := fun h => by unfold sLen; rw [le2, h]; rfl
    have tst : ∀ {k : Nat}, (Nat.beq (Nat.sub (x + 2) x) 2 && Nat.beq (subV v x (x + 2)) k) = Nat.beq (subV v x (x + 2)) k := fun {k} => by rw [d2]; rfl
    refine bcase_t (inR_add (by omega)) (bcase_t c2 ?_)
    simp only [tst]
    refine bcase_mk (fun q0 => bcase_t (inR_add (by omega)) (bcase_t c2 (l2 (two (by unfold isTwo; simp only [q0, Bool.true_or])) rfl))) (fun q0 => ?_)
    refine bcase_mk (fun q1 => bcase_t (inR_add (by omega)) (bcase_t c2 (l2 (two (by unfold isTwo; simp only [q0, q1, Bool.true_or, Bool.or_true])) rfl))) (fun q1 => ?_)
    refine bcase_mk (fun q2 => bcase_t (inR_add (by omega)) (bcase_t c2 (l2 (two (by unfold isTwo; simp only [q0, q1, q2, Bool.true_or, Bool.or_true])) rfl))) (fun q2 => ?_)
    refine bcase_mk (fun q3 => bcase_t (inR_add (by omega)) (bcase_t c2 (l2 (two (by unfold isTwo; simp only [q0, q1, q2, q3, Bool.true_or, Bool.or_true])) rfl))) (fun q3 => ?_)
    refine bcase_mk (fun q4 => bcase_t (inR_add (by omega)) (bcase_t c2 (l2 (two (by unfold isTwo; simp only [q0, q1, q2, q3, q4, Bool.true_or, Bool.or_true])) rfl))) (fun q4 => ?_)
    refine bcase_mk (fun q5 => bcase_t (inR_add (by omega)) (bcase_t c2 (l2 (two (by unfold isTwo; simp only [q0, q1, q2, q3, q4, q5, Bool.true_or, Bool.or_true])) rfl))) (fun q5 => ?_)
    refine bcase_mk (fun q6 => bcase_t (inR_add (by omega)) (bcase_t c2 (l2 (two (by unfold isTwo; simp only [q0, q1, q2, q3, q4, q5, q6, Bool.or_true])) rfl))) (fun q6 => ?_)
    have no2 : isTwo (subV v x (x + 2)) = false := by unfold isTwo; simp only [q0, q1, q2, q3, q4, q5, q6, Bool.or_false]
    refine bcase_t (inB_of hx) (bcase_t b8 (bcase_mk (fun q => bcase_t (inR_add (by omega)) (bcase_t c1 (l1 ?_ rfl))) (fun q => l0 ?_ rfl)))
    · have q : isOne (byteAt v x) = true := q
      unfold sLen; rw [no2, q, Bool.and_false]; rfl
    · have q : isOne (byteAt v x) = false := q
      unfold sLen; rw [no2, q, Bool.and_false]; rfl
  · rw [addN] at g0
    have g0 := ltF g0
    have le2 : Nat.ble (x + 2) n = false := by rw [bleD, decide_eq_false_iff_not]; omega
    refine bcase_t (inB_of hx) (bcase_t b8 (bcase_mk (fun q => bcase_t (inR_add (by omega)) (bcase_t c1 (l1 ?_ rfl))) (fun q => l0 ?_ rfl)))
    · have q : isOne (byteAt v x) = true := q
      unfold sLen; rw [le2, q, Bool.false_and]; rfl
    · have q : isOne (byteAt v x) = false := q
      unfold sLen; rw [le2, q, Bool.false_and]; rfl
def fSign (args : List AV) (h : H) : Option (Bool × Bool × (AV × H) × (AV × H)) := match args with
  | [.ptr i 0] => match rd h i with
    | some (c, n, v, x, j, b) => some (Bool.and c (Nat.ble (Nat.succ x) n), Nat.beq (sLen n v x) 0, (tokA 0 0 0 (.ofNat 0) 0 x, ⟨h.b.set (rowJ n v x j 10) i, h.next⟩),
        (tokA 4 (sLen n v x) (subV v x (x + sLen n v x)) (.ofNat 0) 0 x, ⟨h.b.set (rowJ n v x j b) i, h.next⟩))
    | none => none
  | _ => none
theorem sign_ok {gl : Glob} (args : List AV) (h : H) (ds : List Bool) (K : KV) (hk : conF2 fSign args h ds K) : CallOK Tryd.prog gl 32 args h K := by
  refine conF2_ok (F := fSign) ?_ ?_ args h ds K hk
  all_goals
    clear hk
    intro args h r1 r2 ds K hf hK
    unfold fSign at hf
    split at hf <;> try (cases hf; done)
    rename_i i
    split at hf <;> try (cases hf; done)
    rename_i c n v x j b hr
    simp only [Option.some.injEq, Prod.mk.injEq] at hf
    obtain ⟨hc, hbad, rfl, rfl⟩ := hf
    obtain ⟨rfl, hx⟩ := and_tt hc
    obtain ⟨g1, g2, g3, g4, g5⟩ := rd_some hr
    have run := sign_run (v := v) (b := b) (bleT hx) g2
  · exact reader_call goodC9 rfl hr rfl (ran_imp goodC9 run fun u h' d q => by
      rcases q with ⟨q1, q2, q3⟩ | ⟨q1, q2, q3⟩
      · exact ⟨q2, q3⟩
      · rw [hbad] at q1; cases q1) hK
  · exact reader_call goodC9 rfl hr rfl (ran_imp goodC9 run fun u h' d q => by
      rcases q with ⟨q1, q2, q3⟩ | ⟨q1, q2, q3⟩
      · rw [hbad] at q1; cases q1
      · exact ⟨q2, q3⟩) hK
def C10 : Cfg := C9.addCon 32 (conF2 fSign)
theorem goodC10 : X.Good C10 Tryd.prog := goodC9.addCon 32 _ (conF2_spl _) sign_ok
end
end Go.Proofs.YtoeoaiipchklbaaDoor
/- The program's lexer: the next token: definitions. -/
set_option autoImplicit false
set_option linter.unusedVariables false
set_option maxRecDepth 100000
namespace Go.Proofs.YtoeoaiipchklbaaDoor
noncomputable section
open Go.X
/-- the words of the language, as the program's map holds them -/
def KEYS : List (AV × AV) := [(.str 4 1819242338, .int .i64 (.ofNat 1)), (.str 2 14441, .int .i64 (.ofNat 2)), (.str 3 3551593, .int .i64 (.ofNat 3)), (.str 3 3289961, .int .i64 (.ofNat 4)), (.str 3 3421801, .int .i64 (.ofNat 5)), (.str 2 14453, .int .i64 (.ofNat 6)), (.str 3 3551605, .int .i64 (.ofNat 7)), (.str 3 3289973, .int .i64 (.ofNat 8)), (.str 3 3421813, .int .i64 (.ofNat 9)), (.str 4 1701080942, .int .i64 (.ofNat 10)), (.str 7 32491060197614962, .int .i64 (.ofNat 11)), (.str 3 7496054, .int .i64 (.ofNat 12)), (.str 3 7628140, .int .i64 (.ofNat 13)), (.str 3 7103860, .int .i64 (.ofNat 14)), (.str 2 26217, .int .i64 (.ofNat 15)), (.str 4 1852139636, .int .i64 (.ofNat 16)), (.str 4 1702063205, .int .i64 (.ofNat 17)), (.str 3 7630702, .int .i64 (.ofNat 18)), (.str 3 6581857, .int .i64 (.ofNat 19)), (.str 2 29295, .int .i64 (.ofNat 20)), (.str 3 7499640, .int .i64 (.ofNat 21)), (.str 3 6582125, .int .i64 (.ofNat 22)), (.str 3 6648432, .int .i64 (.ofNat 23)), (.str 3 7955046, .int .i64 (.ofNat 24)), (.str 4 1852139639, .int .i64 (.ofNat 25)), (.str 5 435527247213, .int .i64 (.ofNat 26)), (.str 4 1953718627, .int .i64 (.ofNat 27)), (.str 4 1801677172, .int .i64 (.ofNat 28)), (.str 5 499918267762, .int .i64 (.ofNat 29)), (.str 3 7366002, .int .i64 (.ofNat 30)), (.str 3 7364973, .int .i64 (.ofNat 31)), (.str 4 1684828006, .int .i64 (.ofNat 32)), (.str 2 28271, .int .i64 (.ofNat 33)), (.str 4 1702195828, .int .i64 (.ofNat 34)), (.str 5 435728179558, .int .i64 (.ofNat 35)), (.str 9 2037172999266208347489, .int .i64 (.ofNat 36)), (.str 5 435744240755, .int .i64 (.ofNat 37)), (.str 2 28516, .int .i64 (.ofNat 38)), (.str 6 126939460038261, .int .i64 (.ofNat 39)), (.str 5 465625706101, .int .i64 (.ofNat 40)), (.str 8 7310870969309884259, .int .i64 (.ofNat 41)), (.str 3 6581861, .int .i64 (.ofNat 42))]
/-- is a text of l bytes a word of the language? -/
def keyT (l w : Nat) : Bool := Nat.beq 4 l && Nat.beq 1819242338 w || (Nat.beq 2 l && Nat.beq 14441 w || (Nat.beq 3 l && Nat.beq 3551593 w || (Nat.beq 3 l && Nat.beq 3289961 w || (Nat.beq 3 l && Nat.beq 3421801 w || (Nat.beq 2 l && Nat.beq 14453 w || (Nat.beq 3 l && Nat.beq 3551605 w || (Nat.beq 3 l && Nat.beq 3289973 w || (Nat.beq 3 l && Nat.beq 3421813 w || (Nat.beq 4 l && Nat.beq 1701080942 w || (Nat.beq 7 l && Nat.beq 32491060197614962 w || (Nat.beq 3 l && Nat.beq 7496054 w || (Nat.beq 3 l && Nat.beq 7628140 w || (Nat.beq 3 l && Nat.beq 7103860 w || (Nat.beq 2 l && Nat.beq 26217 w || (Nat.beq 4 l && Nat.beq 1852139636 w || (Nat.beq 4 l && Nat.beq 1702063205 w || (Nat.beq 3 l && Nat.beq 7630702 w || (Nat.beq 3 l && Nat.beq 6581857 w || (Nat.beq 2 l && Nat.beq 29295 w || (Nat.beq 3 l && Nat.beq 7499640 w || (Nat.beq 3 l && Nat.beq 6582125 w || (Nat.beq 3 l && Nat.beq 6648432 w || (Nat.beq 3 l && Nat.beq 7955046 w || (Nat.beq 4 l && Nat.beq 1852139639 w || (Nat.beq 5 l && Nat.beq 435527247213 w || (Nat.beq 4 l && Nat.beq 1953718627 w || (Nat.beq 4 l && Nat.beq 1801677172 w || (Nat.beq 5 l && Nat.beq 499918267762 w || (Nat.beq 3 l && Nat.beq 7366002 w || (Nat.beq 3 l && Nat.beq 7364973 w || (Nat.beq 4 l && Nat.beq 1684828006 w || (Nat.beq 2 l && Nat.beq 28271 w || (Nat.beq 4 l && Nat.beq 1702195828 w || (Nat.beq 5 l && Nat.beq 435728179558 w || (Nat.beq 9 l && Nat.beq 2037172999266208347489 w || (Nat.beq 5 l && Nat.beq 435744240755 w || (Nat.beq 2 l && Nat.beq 28516 w || (Nat.beq 6 l && Nat.beq 126939460038261 w || (Nat.beq 5 l && Nat.beq 465625706101 w || (Nat.beq 8 l && Nat.beq 7310870969309884259 w || (Nat.beq 3 l && Nat.beq 6581861 w)))))))))))))))))))))))))))))))))))))))))
def hN (n v x b : Nat) : H := ⟨T.set (T.set T.leaf (rowR n v x b) 0) (.map KEYS) 1, 2⟩
end
end Go.Proofs.YtoeoaiipchklbaaDoor
set_option autoImplicit false
set_option maxRecDepth 1000000
set_option maxHeartbeats 0
namespace Go.Proofs.YtoeoaiipchklbaaDoor
noncomputable section
open Go.X
theorem next_res (n v x b : Nat) (K : KV) : xfun C10 Tryd.prog (xcode C10 Tryd.prog F) 19 [.ptr 0 0] (hN n v x b) [] K = (bcase (true && (Nat.ble 1 (Nat.succ 2) && (Nat.ble 2 (Nat.succ 2) && (true && Nat.ble n 9223372036854775807)))) (bcase (eqI (Int.ofNat (bl v n x)) (Int.ofNat n)) (K (AV.agg [AV.int Go.IntKind.i64 (Int.ofNat 5), AV.str 0 0, AV.int Go.IntKind.i64 (Int.ofNat 0), AV.int Go.IntKind.i64 (Int.ofNat 0), AV.int Go.IntKind.i64 (Int.ofNat 0), AV.int Go.IntKind.i64 (Int.ofNat (bl v n x))]) (H.mk (T.node (T.node T.leaf Option.none (T.node T.leaf (Option.some (Blk.row [AV.int Go.IntKind.i64 (Int.ofNat 5), AV.str 0 0, AV.int Go.IntKind.i64 (Int.ofNat 0), AV.int Go.IntKind.i64 (Int.ofNat 0), AV.int Go.IntKind.i64 (Int.ofNat 0), AV.int Go.IntKind.i64 (Int.ofNat (bl v n x))] 30 true [])) T.leaf)) (Option.some (Blk.row [AV.str n v, AV.int Go.IntKind.i64 (Int.ofNat (bl v n x)), AV.map 1, AV.int Go.IntKind.i64 (Int.ofNat b)] 48 true [])) (T.node T.leaf (Option.some (Blk.map KEYS)) T.leaf)) (Nat.succ 2)) []) (bcase (inB (Int.ofNat (bl v n x)) n) (bcase (isD (byteAt v (Int.toNat (Int.ofNat (bl v n x))))) (bcase (true && (Nat.ble 1 (Nat.succ (Nat.succ 2)) && (Nat.ble 2 (Nat.succ (Nat.succ 2)) && (true && Nat.ble n 9223372036854775807))) && Nat.ble (bl v n x) n) (bcase (nBad n v (bl v n x)) (bcase (inR Go.IntKind.i64 (Int.ofNat (bl v n x) + Int.ofNat 0)) (K (AV.agg [AV.int Go.IntKind.i64 (Int.ofNat 0), AV.str 0 0, AV.int Go.IntKind.i64 (Int.ofNat 0), AV.int Go.IntKind.i64 (Int.ofNat 0), AV.int Go.IntKind.i64 (Int.ofNat 0), AV.int Go.IntKind.i64 (Int.ofNat (bl v n x))]) (H.mk (T.node (T.node T.leaf Option.none (T.node T.leaf (Option.some (Blk.row [AV.int Go.IntKind.i64 (Int.ofNat 0), AV.str 0 0, AV.int Go.IntKind.i64 (Int.ofNat 0), AV.int Go.IntKind.i64 (Int.ofNat 0), AV.int Go.IntKind.i64 (Int.ofNat 0), AV.int Go.IntKind.i64 (Int.ofNat (bl v n x))] 30 true [])) T.leaf)) (Option.some (Blk.row [AV.str n v, AV.int Go.IntKind.i64 (Int.ofNat (bl v n x) + Int.ofNat 0), AV.map 1, AV.int Go.IntKind.i64 (Int.ofNat 11)] 48 true [])) (T.node T.leaf (Option.some (Blk.map KEYS)) (T.node T.leaf (Option.some (Blk.row [AV.int Go.IntKind.i64 (Int.ofNat 0), AV.str 0 0, AV.int Go.IntKind.i64 (Int.ofNat 0), AV.int Go.IntKind.i64 (Int.ofNat 0), AV.int Go.IntKind.i64 (Int.ofNat 0), AV.int Go.IntKind.i64 (Int.ofNat (bl v n x))] 30 true [])) T.leaf))) (Nat.succ (Nat.succ 2))) []) False) (bcase (inR Go.IntKind.i64 (Int.ofNat (bl v n x) + Int.ofNat (Nat.sub (nTok n v (bl v n x)) (bl v n x)))) (K (AV.agg [AV.int Go.IntKind.i64 (Int.ofNat 2), AV.str (Nat.sub (nTok n v (bl v n x)) (bl v n x)) (subV v (bl v n x) (nTok n v (bl v n x))), AV.int Go.IntKind.i64 (nInt n v (bl v n x)), AV.int Go.IntKind.i64 (Int.ofNat (nKind n v (bl v n x))), AV.int Go.IntKind.i64 (Int.ofNat 0), AV.int Go.IntKind.i64 (Int.ofNat (bl v n x))]) (H.mk (T.node (T.node T.leaf Option.none (T.node T.leaf (Option.some (Blk.row [AV.int Go.IntKind.i64 (Int.ofNat 2), AV.str (Nat.sub (nTok n v (bl v n x)) (bl v n x)) (subV v (bl v n x) (nTok n v (bl v n x))), AV.int Go.IntKind.i64 (nInt n v (bl v n x)), AV.int Go.IntKind.i64 (Int.ofNat (nKind n v (bl v n x))), AV.int Go.IntKind.i64 (Int.ofNat 0), AV.int Go.IntKind.i64 (Int.ofNat (bl v n x))] 30 true [])) T.leaf)) (Option.some (Blk.row [AV.str n v, AV.int Go.IntKind.i64 (Int.ofNat (bl v n x) + Int.ofNat (Nat.sub (nTok n v (bl v n x)) (bl v n x))), AV.map 1, AV.int Go.IntKind.i64 (Int.ofNat b)] 48 true [])) (T.node T.leaf (Option.some (Blk.map KEYS)) (T.node T.leaf (Option.some (Blk.row [AV.int Go.IntKind.i64 (Int.ofNat 2), AV.str (Nat.sub (nTok n v (bl v n x)) (bl v n x)) (subV v (bl v n x) (nTok n v (bl v n x))), AV.int Go.IntKind.i64 (nInt n v (bl v n x)), AV.int Go.IntKind.i64 (Int.ofNat (nKind n v (bl v n x))), AV.int Go.IntKind.i64 (Int.ofNat 0), AV.int Go.IntKind.i64 (Int.ofNat (bl v n x))] 30 true [])) T.leaf))) (Nat.succ (Nat.succ 2))) []) False)) False) (bcase (isL (byteAt v (Int.toNat (Int.ofNat (bl v n x))))) (bcase (true && (Nat.ble 1 (Nat.succ (Nat.succ 2)) && (Nat.ble 2 (Nat.succ (Nat.succ 2)) && (true && Nat.ble n 9223372036854775807)))) (bcase (inR Go.IntKind.i64 (Int.ofNat (bl v n x) + Int.ofNat (wordN n v (bl v n x)))) (bcase (Nat.ble (bl v n x + wordN n v (bl v n x)) n && Nat.ble (bl v n x) (bl v n x + wordN n v (bl v n x))) (bcase (ltI (Int.ofNat 40) (Int.ofNat (wordN n v (bl v n x)))) (K (AV.agg [AV.int Go.IntKind.i64 (Int.ofNat 0), AV.str 0 0, AV.int Go.IntKind.i64 (Int.ofNat 0), AV.int Go.IntKind.i64 (Int.ofNat 0), AV.int Go.IntKind.i64 (Int.ofNat 0), AV.int Go.IntKind.i64 (Int.ofNat (bl v n x))]) (H.mk (T.node (T.node (T.node T.leaf Option.none (T.node T.leaf (Option.some (Blk.row [AV.int Go.IntKind.i64 (Int.ofNat 0), AV.str 0 0, AV.int Go.IntKind.i64 (Int.ofNat 0), AV.int Go.IntKind.i64 (Int.ofNat 0), AV.int Go.IntKind.i64 (Int.ofNat 0), AV.int Go.IntKind.i64 (Int.ofNat (bl v n x))] 30 true [])) T.leaf)) Option.none (T.node T.leaf (Option.some (Blk.row [AV.int Go.IntKind.i64 (Int.ofNat 0), AV.str 0 0, AV.int Go.IntKind.i64 (Int.ofNat 0), AV.int Go.IntKind.i64 (Int.ofNat 0), AV.int Go.IntKind.i64 (Int.ofNat 0), AV.int Go.IntKind.i64 (Int.ofNat (bl v n x))] 30 true [])) T.leaf)) (Option.some (Blk.row [AV.str n v, AV.int Go.IntKind.i64 (Int.ofNat (bl v n x)), AV.map 1, AV.int Go.IntKind.i64 (Int.ofNat 2)] 48 true [])) (T.node T.leaf (Option.some (Blk.map KEYS)) (T.node T.leaf (Option.some (Blk.row [AV.int Go.IntKind.i64 (Int.ofNat 1), AV.str (Nat.sub (bl v n x + wordN n v (bl v n x)) (bl v n x)) (subV v (bl v n x) (bl v n x + wordN n v (bl v n x))), AV.int Go.IntKind.i64 (Int.ofNat 0), AV.int Go.IntKind.i64 (Int.ofNat 0), AV.int Go.IntKind.i64 (Int.ofNat 0), AV.int Go.IntKind.i64 (Int.ofNat (bl v n x))] 30 true [])) T.leaf))) (Nat.succ (Nat.succ (Nat.succ 2)))) []) (bcase (ltI (Int.ofNat 0) (findS (Nat.sub (bl v n x + wordN n v (bl v n x)) (bl v n x)) (subV v (bl v n x) (bl v n x + wordN n v (bl v n x))) KEYS (Int.ofNat 0))) (bcase (inR Go.IntKind.i64 (Int.ofNat (bl v n x) + Int.ofNat (Nat.sub (bl v n x + wordN n v (bl v n x)) (bl v n x)))) (K (AV.agg [AV.int Go.IntKind.i64 (Int.ofNat 3), AV.str (Nat.sub (bl v n x + wordN n v (bl v n x)) (bl v n x)) (subV v (bl v n x) (bl v n x + wordN n v (bl v n x))), AV.int Go.IntKind.i64 (Int.ofNat 0), AV.int Go.IntKind.i64 (Int.ofNat 0), AV.int Go.IntKind.i64 (Int.ofNat 0), AV.int Go.IntKind.i64 (Int.ofNat (bl v n x))]) (H.mk (T.node (T.node T.leaf Option.none (T.node T.leaf (Option.some (Blk.row [AV.int Go.IntKind.i64 (Int.ofNat 3), AV.str (Nat.sub (bl v n x + wordN n v (bl v n x)) (bl v n x)) (subV v (bl v n x) (bl v n x + wordN n v (bl v n x))), AV.int Go.IntKind.i64 (Int.ofNat 0), AV.int Go.IntKind.i64 (Int.ofNat 0), AV.int Go.IntKind.i64 (Int.ofNat 0), AV.int Go.IntKind.i64 (Int.ofNat (bl v n x))] 30 true [])) T.leaf)) (Option.some (Blk.row [AV.str n v, AV.int Go.IntKind.i64 (Int.ofNat (bl v n x) + Int.ofNat (Nat.sub (bl v n x + wordN n v (bl v n x)) (bl v n x))), AV.map 1, AV.int Go.IntKind.i64 (Int.ofNat b)] 48 true [])) (T.node T.leaf (Option.some (Blk.map KEYS)) (T.node T.leaf (Option.some (Blk.row [AV.int Go.IntKind.i64 (Int.ofNat 3), AV.str (Nat.sub (bl v n x + wordN n v (bl v n x)) (bl v n x)) (subV v (bl v n x) (bl v n x + wordN n v (bl v n x))), AV.int Go.IntKind.i64 (Int.ofNat 0), AV.int Go.IntKind.i64 (Int.ofNat 0), AV.int Go.IntKind.i64 (Int.ofNat 0), AV.int Go.IntKind.i64 (Int.ofNat (bl v n x))] 30 true [])) T.leaf))) (Nat.succ (Nat.succ 2))) []) False) (bcase (inR Go.IntKind.i64 (Int.ofNat (bl v n x) + Int.ofNat (Nat.sub (bl v n x + wordN n v (bl v n x)) (bl v n x)))) (K (AV.agg [AV.int Go.IntKind.i64 (Int.ofNat 1), AV.str (Nat.sub (bl v n x + wordN n v (bl v n x)) (bl v n x)) (subV v (bl v n x) (bl v n x + wordN n v (bl v n x))), AV.int Go.IntKind.i64 (Int.ofNat 0), AV.int Go.IntKind.i64 (Int.ofNat 0), AV.int Go.IntKind.i64 (Int.ofNat 0), AV.int Go.IntKind.i64 (Int.ofNat (bl v n x))]) (H.mk (T.node (T.node T.leaf Option.none (T.node T.leaf (Option.some (Blk.row [AV.int Go.IntKind.i64 (Int.ofNat 1), AV.str (Nat.sub (bl v n x + wordN n v (bl v n x)) (bl v n x)) (subV v (bl v n x) (bl v n x + wordN n v (bl v n x))), AV.int Go.IntKind.i64 (Int.ofNat 0), AV.int Go.IntKind.i64 (Int.ofNat 0), AV.int Go.IntKind.i64 (Int.ofNat 0), AV.int Go.IntKind.i64 (Int.ofNat (bl v n x))] 30 true [])) T.leaf)) (Option.some (Blk.row [AV.str n v, AV.int Go.IntKind.i64 (Int.ofNat (bl v n x) + Int.ofNat (Nat.sub (bl v n x + wordN n v (bl v n x)) (bl v n x))), AV.map 1, AV.int Go.IntKind.i64 (Int.ofNat b)] 48 true [])) (T.node T.leaf (Option.some (Blk.map KEYS)) (T.node T.leaf (Option.some (Blk.row [AV.int Go.IntKind.i64 (Int.ofNat 1), AV.str (Nat.sub (bl v n x + wordN n v (bl v n x)) (bl v n x)) (subV v (bl v n x) (bl v n x + wordN n v (bl v n x))), AV.int Go.IntKind.i64 (Int.ofNat 0), AV.int Go.IntKind.i64 (Int.ofNat 0), AV.int Go.IntKind.i64 (Int.ofNat 0), AV.int Go.IntKind.i64 (Int.ofNat (bl v n x))] 30 true [])) T.leaf))) (Nat.succ (Nat.succ 2))) []) False))) False) False) False) (bcase (true && (Nat.ble 1 (Nat.succ (Nat.succ 2)) && (Nat.ble 2 (Nat.succ (Nat.succ 2)) && (true && Nat.ble n 9223372036854775807))) && Nat.ble (Nat.succ (bl v n x)) n) (bcase (Nat.beq (sLen n v (bl v n x)) 0) (bcase (inR Go.IntKind.i64 (Int.ofNat (bl v n x) + Int.ofNat 0)) (K (AV.agg [AV.int Go.IntKind.i64 (Int.ofNat 0), AV.str 0 0, AV.int Go.IntKind.i64 (Int.ofNat 0), AV.int Go.IntKind.i64 (Int.ofNat 0), AV.int Go.IntKind.i64 (Int.ofNat 0), AV.int Go.IntKind.i64 (Int.ofNat (bl v n x))]) (H.mk (T.node (T.node T.leaf Option.none (T.node T.leaf (Option.some (Blk.row [AV.int Go.IntKind.i64 (Int.ofNat 0), AV.str 0 0, AV.int Go.IntKind.i64 (Int.ofNat 0), AV.int Go.IntKind.i64 (Int.ofNat 0), AV.int Go.IntKind.i64 (Int.ofNat 0), AV.int Go.IntKind.i64 (Int.ofNat (bl v n x))] 30 true [])) T.leaf)) (Option.some (Blk.row [AV.str n v, AV.int Go.IntKind.i64 (Int.ofNat (bl v n x) + Int.ofNat 0), AV.map 1, AV.int Go.IntKind.i64 (Int.ofNat 10)] 48 true [])) (T.node T.leaf (Option.some (Blk.map KEYS)) (T.node T.leaf (Option.some (Blk.row [AV.int Go.IntKind.i64 (Int.ofNat 0), AV.str 0 0, AV.int Go.IntKind.i64 (Int.ofNat 0), AV.int Go.IntKind.i64 (Int.ofNat 0), AV.int Go.IntKind.i64 (Int.ofNat 0), AV.int Go.IntKind.i64 (Int.ofNat (bl v n x))] 30 true [])) T.leaf))) (Nat.succ (Nat.succ 2))) []) False) (bcase (inR Go.IntKind.i64 (Int.ofNat (bl v n x) + Int.ofNat (sLen n v (bl v n x)))) (K (AV.agg [AV.int Go.IntKind.i64 (Int.ofNat 4), AV.str (sLen n v (bl v n x)) (subV v (bl v n x) (bl v n x + sLen n v (bl v n x))), AV.int Go.IntKind.i64 (Int.ofNat 0), AV.int Go.IntKind.i64 (Int.ofNat 0), AV.int Go.IntKind.i64 (Int.ofNat 0), AV.int Go.IntKind.i64 (Int.ofNat (bl v n x))]) (H.mk (T.node (T.node T.leaf Option.none (T.node T.leaf (Option.some (Blk.row [AV.int Go.IntKind.i64 (Int.ofNat 4), AV.str (sLen n v (bl v n x)) (subV v (bl v n x) (bl v n x + sLen n v (bl v n x))), AV.int Go.IntKind.i64 (Int.ofNat 0), AV.int Go.IntKind.i64 (Int.ofNat 0), AV.int Go.IntKind.i64 (Int.ofNat 0), AV.int Go.IntKind.i64 (Int.ofNat (bl v n x))] 30 true [])) T.leaf)) (Option.some (Blk.row [AV.str n v, AV.int Go.IntKind.i64 (Int.ofNat (bl v n x) + Int.ofNat (sLen n v (bl v n x))), AV.map 1, AV.int Go.IntKind.i64 (Int.ofNat b)] 48 true [])) (T.node T.leaf (Option.some (Blk.map KEYS)) (T.node T.leaf (Option.some (Blk.row [AV.int Go.IntKind.i64 (Int.ofNat 4), AV.str (sLen n v (bl v n x)) (subV v (bl v n x) (bl v n x + sLen n v (bl v n x))), AV.int Go.IntKind.i64 (Int.ofNat 0), AV.int Go.IntKind.i64 (Int.ofNat 0), AV.int Go.IntKind.i64 (Int.ofNat 0), AV.int Go.IntKind.i64 (Int.ofNat (bl v n x))] 30 true [])) T.leaf))) (Nat.succ (Nat.succ 2))) []) False)) False))) False)) False) := by kernel_rfl
end
end Go.Proofs.YtoeoaiipchklbaaDoor
/- The program's lexer: the next token, as a contract. -/
set_option autoImplicit false
set_option linter.unusedVariables false
set_option maxRecDepth 100000
namespace Go.Proofs.YtoeoaiipchklbaaDoor
noncomputable section
open Go.X
def isKey (l w : Nat) : Bool := ltI (Int.ofNat 0) (findS l w KEYS (Int.ofNat 0))
/-- the next token: is there none, and why; its kind, its length, its number, its number's kind -/
def nx (n v x : Nat) : Bool × Nat × Nat × Nat × Int × Nat :=
  cond (Nat.ble (Nat.succ (bl v n x)) n) (cond (isD (byteAt v (bl v n x))) (cond (nBad n v (bl v n x)) (true, 11, 0, 0, .ofNat 0, 0) (false, 0, 2, nTok n v (bl v n x) - bl v n x, nInt n v (bl v n x), nKind n v (bl v n x)))
    (cond (isL (byteAt v (bl v n x))) (cond (Nat.ble (wordN n v (bl v n x)) 40) (false, 0, cond (isKey (wordN n v (bl v n x)) (subV v (bl v n x) (bl v n x + wordN n v (bl v n x)))) 3 1, wordN n v (bl v n x), .ofNat 0, 0) (true, 2, 0, 0, .ofNat 0, 0))
      (cond (Nat.beq (sLen n v (bl v n x)) 0) (true, 10, 0, 0, .ofNat 0, 0) (false, 0, 4, sLen n v (bl v n x), .ofNat 0, 0)))) (false, 0, 5, 0, .ofNat 0, 0)
def nxE (n v x : Nat) : Bool := (nx n v x).1
def nxC (n v x : Nat) : Nat := (nx n v x).2.1
def nxK (n v x : Nat) : Nat := (nx n v x).2.2.1
def nxL (n v x : Nat) : Nat := (nx n v x).2.2.2.1
def nxN (n v x : Nat) : Int := (nx n v x).2.2.2.2.1
def nxT (n v x : Nat) : Nat := (nx n v x).2.2.2.2.2
def QNext (n v x b : Nat) : KV := fun u h' _ =>
  (nxE n v x = true ∧ u = tokA 0 0 0 (.ofNat 0) 0 (bl v n x) ∧ h'.b.get 0 = some (rowR n v (bl v n x) (nxC n v x)) ∧ h'.b.get 1 = some (.map KEYS)) ∨
  (nxE n v x = false ∧ u = tokA (nxK n v x) (nxL n v x) (subV v (bl v n x) (bl v n x + nxL n v x)) (nxN n v x) (nxT n v x) (bl v n x) ∧ h'.b.get 0 = some (rowR n v (bl v n x + nxL n v x) b) ∧ h'.b.get 1 = some (.map KEYS))
theorem good' {n v x b : Nat} {u : AV} {h1 h2 : H} {d1 d2 : List Bool} (q : QNext n v x b u h1 d1) (e0 : h2.b.get 0 = h1.b.get 0 := by rfl) (e1 : h2.b.get 1 = h1.b.get 1 := by rfl) : QNext n v x b u h2 d2 := by
  unfold QNext at q ⊢
  rw [e0, e1]; exact q
theorem sLen_le {n v p : Nat} (h : p < n) : p + sLen n v p ≤ n := by
  unfold sLen
  cases hb : (Nat.ble (p + 2) n && isTwo (subV v p (p + 2))) with
  | true =>
    rw [Bool.and_eq_true] at hb
    have := bleT hb.1
    show p + 2 ≤ n; omega
  | false =>
    have : cond (isOne (byteAt v p)) 1 0 ≤ 1 := cond_le (by omega) (by omega)
    show p + cond (isOne (byteAt v p)) 1 0 ≤ n; omega
theorem next_run {n v x b : Nat} (hx : x ≤ n) (hn : n ≤ 9223372036854775807) : Ran (xfun C10 Tryd.prog (xcode C10 Tryd.prog F) 19 [.ptr 0 0] (hN n v x b) [] (QNext n v x b)) := by
  refine ⟨Eq.mpr (next_res n v x b _) ?_⟩
  have hp : bl v n x ≤ n := bl_le v n _ _ hx
  have bad : ∀ {c : Nat}, nx n v x = (true, c, 0, 0, .ofNat 0, 0) → ∀ {h' : H} {d : List Bool}, h'.b.get 0 = some (rowR n v (bl v n x) c) → h'.b.get 1 = some (.map KEYS) → QNext n v x b (tokA 0 0 0 (.ofNat 0) 0 (bl v n x)) h' d := by
    intro c e h' d g0 g1
    refine .inl ⟨?_, rfl, ?_, g1⟩
    · unfold nxE; rw [e]
    · unfold nxC; rw [e]; exact g0
  have good : ∀ {k l : Nat} {N : Int} {t : Nat}, nx n v x = (false, 0, k, l, N, t) → ∀ {h' : H} {d : List Bool}, h'.b.get 0 = some (rowR n v (bl v n x + l) b) → h'.b.get 1 = some (.map KEYS) → QNext n v x b (tokA k l (subV v (bl v n x) (bl v n x + l)) N t (bl v n x)) h' d := by
    intro k l N t e h' d g0 g1
    refine .inr ⟨?_, ?_, ?_, g1⟩
    · unfold nxE; rw [e]
    · unfold nxK nxL nxN nxT; rw [e]
    · unfold nxL; rw [e]; exact g0
  have c2 : (true && (Nat.ble 1 (Nat.succ 2) && (Nat.ble 2 (Nat.succ 2) && (true && Nat.ble n 9223372036854775807)))) = true := Nat.ble_eq_true_of_le hn
  refine bcase_t c2 (bcase_mk (fun g0 => ?_) (fun g0 => ?_))
  · have g0 := eqT g0
    have e : nx n v x = (false, 0, 5, 0, .ofNat 0, 0) := by
      unfold nx
      have : Nat.ble (Nat.succ (bl v n x)) n = false := by rw [bleD, decide_eq_false_iff_not]; omega
      rw [this]; rfl
    have z : subV v (bl v n x) (bl v n x + 0) = 0 := by have := subV_lt v (bl v n x) (bl v n x + 0); simp at this; omega
    have := good e (h' := hN n v (bl v n x) b) (d := []) rfl rfl
    rw [z] at this
    exact this
  · have g0 := eqF g0
    have hlt : bl v n x < n := by omega
    have lt : Nat.ble (Nat.succ (bl v n x)) n = true := Nat.ble_eq_true_of_le hlt
    generalize hp0 : bl v n x = p at *
    refine bcase_t (inB_of hlt) (bcase_mk (fun g1 => ?_) (fun g1 => ?_))
    · have g1 : isD (byteAt v p) = true := g1
      have hNE : p ≤ nTok n v p := by have := scan_ge isD v (n - p) p; have e : nEnd n v p = scan isD v (n - p) p := rfl; unfold nTok; omega
      have hNL : nTok n v p ≤ n := by
        have e1 : nEnd n v p ≤ n := scan_le_n hp
        have a1 := scan_le_n (p := isW) (v := v) e1
        have a2 := scan_ge isW v (n - nEnd n v p) (nEnd n v p)
        unfold nTok wordN; omega
      refine bcase_t (and2 c2 (Nat.ble_eq_true_of_le hp)) (bcase_mk (fun g2 => ?_) (fun g2 => ?_))
      · refine bcase_t (inR_add (by omega)) (bad ?_ rfl rfl)
        unfold nx; rw [hp0, lt, g1, g2]; rfl
      · refine bcase_t (inR_add (by show p + (nTok n v p - p) ≤ _; omega)) ?_
        have e : nx n v x = (false, 0, 2, nTok n v p - p, nInt n v p, nKind n v p) := by unfold nx; rw [hp0, lt, g1, g2]; rfl
        have := good e (h' := hN n v (p + (nTok n v p - p)) b) (d := []) rfl rfl
        have e2 : p + (nTok n v p - p) = nTok n v p := by omega
        rw [e2] at this
        rw [addN, show p + Nat.sub (nTok n v p) p = nTok n v p from e2]
        exact good' this
    · have g1 : isD (byteAt v p) = false := g1
      refine bcase_mk (fun g2 => ?_) (fun g2 => ?_)
      · have g2 : isL (byteAt v p) = true := g2
        have hw : p + wordN n v p ≤ n := by
          have a1 := scan_le_n (p := isW) (v := v) hp
          have a2 := scan_ge isW v (n - p) p
          unfold wordN; omega
        have e3 : Nat.sub (p + wordN n v p) p = wordN n v p := Nat.add_sub_cancel_left _ _
        rw [e3]
        refine bcase_t c2 (bcase_t (inR_add (by omega)) (bcase_t (and2 (Nat.ble_eq_true_of_le hw) (Nat.ble_eq_true_of_le (Nat.le_add_right _ _))) (bcase_mk (fun g3 => ?_) (fun g3 => ?_))))
        · have g3 := ltT g3
          refine bad ?_ rfl rfl
          have : Nat.ble (wordN n v p) 40 = false := by rw [bleD, decide_eq_false_iff_not]; omega
          unfold nx; rw [hp0, lt, g1, g2, this]; rfl
        · have g3 := ltF g3
          have le40 : Nat.ble (wordN n v p) 40 = true := Nat.ble_eq_true_of_le (by omega)
          refine bcase_mk (fun g4 => bcase_t (inR_add (by omega)) (good ?_ rfl rfl)) (fun g4 => bcase_t (inR_add (by omega)) (good ?_ rfl rfl))
          · have g4 : isKey (wordN n v p) (subV v p (p + wordN n v p)) = true := g4
            unfold nx; rw [hp0, lt, g1, g2, le40, g4]; rfl
          · have g4 : isKey (wordN n v p) (subV v p (p + wordN n v p)) = false := g4
            unfold nx; rw [hp0, lt, g1, g2, le40, g4]; rfl
      · have g2 : isL (byteAt v p) = false := g2
        refine bcase_t (and2 c2 lt) (bcase_mk (fun g3 => ?_) (fun g3 => ?_))
        · refine bcase_t (inR_add (by omega)) (bad ?_ rfl rfl)
          unfold nx; rw [hp0, lt, g1, g2, g3]; rfl
        · have hs := sLen_le (v := v) hlt
          refine bcase_t (inR_of (by simp only [Int.ofNat_eq_natCast]; omega) (by simp only [Int.ofNat_eq_natCast]; omega)) (good ?_ rfl rfl)
          unfold nx; rw [hp0, lt, g1, g2, g3]; rfl
def esEq (a b : List (AV × AV)) : Bool := List.rec (motive := fun _ => List (AV × AV) → Bool) (fun b => match b with
  | [] => true
  | _ => false) (fun e _ ih b => match b with
  | [] => false
  | f :: b => Bool.and (Bool.and (avEq e.1 f.1) (avEq e.2 f.2)) (ih b)) a b
theorem esEq_eq : ∀ {a b : List (AV × AV)}, esEq a b = true → a = b
  | [], [], _ => rfl
  | [], _ :: _, h => by cases h
  | _ :: _, [], h => by cases h
  | e :: a, f :: b, h => by
    obtain ⟨h1, h2⟩ := and_tt (by exact h : Bool.and (Bool.and (avEq e.1 f.1) (avEq e.2 f.2)) (esEq a b) = true)
    obtain ⟨h3, h4⟩ := and_tt h1
    have h5 := avEq_eq h3
    have h6 := avEq_eq h4
    obtain ⟨e1, e2⟩ := e
    obtain ⟨f1, f2⟩ := f
    simp only at h5 h6
    rw [h5, h6, esEq_eq h2]
def fNext (args : List AV) (h : H) : Option (Bool × Bool × (AV × H) × (AV × H)) := match args with
  | [.ptr i 0] => match rd h i with
    | some (c, n, v, x, j, b) => match h.b.get j with
      | some (.map es) => some (Bool.and c (Bool.and (Nat.ble x n) (esEq es KEYS)), nxE n v x, (tokA 0 0 0 (.ofNat 0) 0 (bl v n x), ⟨h.b.set (rowJ n v (bl v n x) j (nxC n v x)) i, h.next⟩),
          (tokA (nxK n v x) (nxL n v x) (subV v (bl v n x) (bl v n x + nxL n v x)) (nxN n v x) (nxT n v x) (bl v n x), ⟨h.b.set (rowJ n v (bl v n x + nxL n v x) j b) i, h.next⟩))
      | _ => none
    | none => none
  | _ => none
theorem hN_plain (n v x b : Nat) : Plain (hN n v x b) := by
  have hk : belB 2 (.map KEYS) = true := by kernel_rfl
  exact ⟨⟨rfl, rfl, rfl, rfl⟩, trivial, ⟨⟨rfl, hk, rfl, rfl⟩, trivial, trivial⟩⟩
theorem keys_ren (ρ : Nat → Nat) : renB ρ (.map KEYS) = .map KEYS := by
  have : ∀ (es : List (AV × AV)), belE 0 es = true → renE ρ es = es := fun es h => by
    rw [renE_bel (N := 0) (ρ := id) (fun i hi => absurd hi (Nat.not_lt_zero _)) es h]
    unfold renE; rw [lmap_eq]; simp [ren_id]
  show Blk.map (renE ρ KEYS) = _
  rw [this KEYS (by kernel_rfl)]
/-- a call of next, as a caller sees it -/
theorem next_call {gl : Glob} {h : H} {ds : List Bool} {K : KV} {i n v x j b x' b' : Nat} {V : AV} (hr : rd h i = some (true, n, v, x, j, b)) (hm : h.b.get j = some (.map KEYS)) (hV : bel 0 V = true)
    (hk : Ran (xfun C10 Tryd.prog (xcode C10 Tryd.prog F) 19 [.ptr 0 0] (hN n v x b) [] (fun u h' _ => u = V ∧ h'.b.get 0 = some (rowR n v x' b') ∧ h'.b.get 1 = some (.map KEYS)))) (hK : K V ⟨h.b.set (rowJ n v x' j b') i, h.next⟩ ds) : CallOK Tryd.prog gl 19 [.ptr i 0] h K := by
  obtain ⟨g1, g2, g3, g4, g5⟩ := rd_some hr
  refine frame_row (args1 := [.ptr 0 0]) (h1 := hN n v x b) (k1 := rowR n v x' b') (V := V) (ρ := two i j) goodC10 rfl (fuel := F) (ds1 := []) (ds := ds) (hN_plain n v x b) (Nat.lt_succ_of_lt (Nat.lt_succ_self _)) ⟨_, rfl, rfl⟩ rfl rfl rfl (bel_mono (Nat.zero_le _) V hV)
    (ran_imp goodC10 hk fun u h' d ⟨a, b, c⟩ => ⟨a, b, ⟨fun h => absurd rfl h, trivial, ⟨fun _ => c, trivial, trivial⟩⟩⟩) ?_ (two_inj g5) (two_low g3 g4) ?_
  · refine tall_get (t := (hN n v x b).b) (p := fun a k => h.b.get (two i j a) = some (renB (two i j) k)) ⟨g1, trivial, ⟨?_, trivial, trivial⟩⟩
    show h.b.get j = some (renB (two i j) (.map KEYS))
    rw [keys_ren]; exact hm
  · rw [ren_bel (N := 0) (ρ := id) (fun i hi => absurd hi (Nat.not_lt_zero _)) V hV, ren_id]; exact hK
theorem next_ok {gl : Glob} (args : List AV) (h : H) (ds : List Bool) (K : KV) (hk : conF2 fNext args h ds K) : CallOK Tryd.prog gl 19 args h K := by
  refine conF2_ok (F := fNext) ?_ ?_ args h ds K hk
  all_goals
    clear hk
    intro args h r1 r2 ds K hf hK
    unfold fNext at hf
    split at hf <;> try (cases hf; done)
    rename_i i
    split at hf <;> try (cases hf; done)
    rename_i c n v x j b hr
    split at hf <;> try (cases hf; done)
    rename_i es hm
    simp only [Option.some.injEq, Prod.mk.injEq] at hf
    obtain ⟨hc, hbad, rfl, rfl⟩ := hf
    obtain ⟨rfl, hx2⟩ := and_tt hc
    obtain ⟨hx, he2⟩ := and_tt hx2
    have he := esEq_eq he2
    subst he
    obtain ⟨g1, g2, g3, g4, g5⟩ := rd_some hr
    have run := next_run (v := v) (b := b) (bleT hx) g2
  · exact next_call hr hm rfl (ran_imp goodC10 run fun u h' d q => by
      rcases q with ⟨q1, q2, q3⟩ | ⟨q1, q2, q3⟩
      · exact ⟨q2, q3⟩
      · rw [hbad] at q1; cases q1) hK
  · exact next_call hr hm rfl (ran_imp goodC10 run fun u h' d q => by
      rcases q with ⟨q1, q2, q3⟩ | ⟨q1, q2, q3⟩
      · rw [hbad] at q1; cases q1
      · exact ⟨q2, q3⟩) hK
def C11 : Cfg := C10.addCon 19 (conF2 fNext)
theorem goodC11 : X.Good C11 Tryd.prog := goodC10.addCon 19 _ (conF2_spl _) next_ok
end
end Go.Proofs.YtoeoaiipchklbaaDoor
/- The program's lexer: the words of the language: definitions. -/
set_option autoImplicit false
set_option linter.unusedVariables false
set_option maxRecDepth 100000
namespace Go.Proofs.YtoeoaiipchklbaaDoor
noncomputable section
open Go.X
/-- Go's own table of blanks -/
def ASCII : List AV := [.int .u8 (.ofNat 0), .int .u8 (.ofNat 0), .int .u8 (.ofNat 0), .int .u8 (.ofNat 0), .int .u8 (.ofNat 0), .int .u8 (.ofNat 0), .int .u8 (.ofNat 0), .int .u8 (.ofNat 0), .int .u8 (.ofNat 0), .int .u8 (.ofNat 1), .int .u8 (.ofNat 1), .int .u8 (.ofNat 1), .int .u8 (.ofNat 1), .int .u8 (.ofNat 1), .int .u8 (.ofNat 0), .int .u8 (.ofNat 0), .int .u8 (.ofNat 0), .int .u8 (.ofNat 0), .int .u8 (.ofNat 0), .int .u8 (.ofNat 0), .int .u8 (.ofNat 0), .int .u8 (.ofNat 0), .int .u8 (.ofNat 0), .int .u8 (.ofNat 0), .int .u8 (.ofNat 0), .int .u8 (.ofNat 0), .int .u8 (.ofNat 0), .int .u8 (.ofNat 0), .int .u8 (.ofNat 0), .int .u8 (.ofNat 0), .int .u8 (.ofNat 0), .int .u8 (.ofNat 0), .int .u8 (.ofNat 1), .int .u8 (.ofNat 0), .int .u8 (.ofNat 0), .int .u8 (.ofNat 0), .int .u8 (.ofNat 0), .int .u8 (.ofNat 0), .int .u8 (.ofNat 0), .int .u8 (.ofNat 0), .int .u8 (.ofNat 0), .int .u8 (.ofNat 0), .int .u8 (.ofNat 0), .int .u8 (.ofNat 0), .int .u8 (.ofNat 0), .int .u8 (.ofNat 0), .int .u8 (.ofNat 0), .int .u8 (.ofNat 0), .int .u8 (.ofNat 0), .int .u8 (.ofNat 0), .int .u8 (.ofNat 0), .int .u8 (.ofNat 0), .int .u8 (.ofNat 0), .int .u8 (.ofNat 0), .int .u8 (.ofNat 0), .int .u8 (.ofNat 0), .int .u8 (.ofNat 0), .int .u8 (.ofNat 0), .int .u8 (.ofNat 0), .int .u8 (.ofNat 0), .int .u8 (.ofNat 0), .int .u8 (.ofNat 0), .int .u8 (.ofNat 0), .int .u8 (.ofNat 0), .int .u8 (.ofNat 0), .int .u8 (.ofNat 0), .int .u8 (.ofNat 0), .int .u8 (.ofNat 0), .int .u8 (.ofNat 0), .int .u8 (.ofNat 0), .int .u8 (.ofNat 0), .int .u8 (.ofNat 0), .int .u8 (.ofNat 0), .int .u8 (.ofNat 0), .int .u8 (.ofNat 0), .int .u8 (.ofNat 0), .int .u8 (.ofNat 0), .int .u8 (.ofNat 0), .int .u8 (.ofNat 0), .int .u8 (.ofNat 0), .int .u8 (.ofNat 0), .int .u8 (.ofNat 0), .int .u8 (.ofNat 0), .int .u8 (.ofNat 0), .int .u8 (.ofNat 0), .int .u8 (.ofNat 0), .int .u8 (.ofNat 0), .int .u8 (.ofNat 0), .int .u8 (.ofNat 0), .int .u8 (.ofNat 0), .int .u8 (.ofNat 0), .int .u8 (.ofNat 0), .int .u8 (.ofNat 0), .int .u8 (.ofNat 0), .int .u8 (.ofNat 0), .int .u8 (.ofNat 0), .int .u8 (.ofNat 0), .int .u8 (.ofNat 0), .int .u8 (.ofNat 0), .int .u8 (.ofNat 0), .int .u8 (.ofNat 0), .int .u8 (.ofNat 0), .int .u8 (.ofNat 0), .int .u8 (.ofNat 0), .int .u8 (.ofNat 0), .int .u8 (.ofNat 0), .int .u8 (.ofNat 0), .int .u8 (.ofNat 0), .int .u8 (.ofNat 0), .int .u8 (.ofNat 0), .int .u8 (.ofNat 0), .int .u8 (.ofNat 0), .int .u8 (.ofNat 0), .int .u8 (.ofNat 0), .int .u8 (.ofNat 0), .int .u8 (.ofNat 0), .int .u8 (.ofNat 0), .int .u8 (.ofNat 0), .int .u8 (.ofNat 0), .int .u8 (.ofNat 0), .int .u8 (.ofNat 0), .int .u8 (.ofNat 0), .int .u8 (.ofNat 0), .int .u8 (.ofNat 0), .int .u8 (.ofNat 0), .int .u8 (.ofNat 0), .int .u8 (.ofNat 0), .int .u8 (.ofNat 0), .int .u8 (.ofNat 0), .int .u8 (.ofNat 0), .int .u8 (.ofNat 0), .int .u8 (.ofNat 0), .int .u8 (.ofNat 0), .int .u8 (.ofNat 0), .int .u8 (.ofNat 0), .int .u8 (.ofNat 0), .int .u8 (.ofNat 0), .int .u8 (.ofNat 0), .int .u8 (.ofNat 0), .int .u8 (.ofNat 0), .int .u8 (.ofNat 0), .int .u8 (.ofNat 0), .int .u8 (.ofNat 0), .int .u8 (.ofNat 0), .int .u8 (.ofNat 0), .int .u8 (.ofNat 0), .int .u8 (.ofNat 0), .int .u8 (.ofNat 0), .int .u8 (.ofNat 0), .int .u8 (.ofNat 0), .int .u8 (.ofNat 0), .int .u8 (.ofNat 0), .int .u8 (.ofNat 0), .int .u8 (.ofNat 0), .int .u8 (.ofNat 0), .int .u8 (.ofNat 0), .int .u8 (.ofNat 0), .int .u8 (.ofNat 0), .int .u8 (.ofNat 0), .int .u8 (.ofNat 0), .int .u8 (.ofNat 0), .int .u8 (.ofNat 0), .int .u8 (.ofNat 0), .int .u8 (.ofNat 0), .int .u8 (.ofNat 0), .int .u8 (.ofNat 0), .int .u8 (.ofNat 0), .int .u8 (.ofNat 0), .int .u8 (.ofNat 0), .int .u8 (.ofNat 0), .int .u8 (.ofNat 0), .int .u8 (.ofNat 0), .int .u8 (.ofNat 0), .int .u8 (.ofNat 0), .int .u8 (.ofNat 0), .int .u8 (.ofNat 0), .int .u8 (.ofNat 0), .int .u8 (.ofNat 0), .int .u8 (.ofNat 0), .int .u8 (.ofNat 0), .int .u8 (.ofNat 0), .int .u8 (.ofNat 0), .int .u8 (.ofNat 0), .int .u8 (.ofNat 0), .int .u8 (.ofNat 0), .int .u8 (.ofNat 0), .int .u8 (.ofNat 0), .int .u8 (.ofNat 0), .int .u8 (.ofNat 0), .int .u8 (.ofNat 0), .int .u8 (.ofNat 0), .int .u8 (.ofNat 0), .int .u8 (.ofNat 0), .int .u8 (.ofNat 0), .int .u8 (.ofNat 0), .int .u8 (.ofNat 0), .int .u8 (.ofNat 0), .int .u8 (.ofNat 0), .int .u8 (.ofNat 0), .int .u8 (.ofNat 0), .int .u8 (.ofNat 0), .int .u8 (.ofNat 0), .int .u8 (.ofNat 0), .int .u8 (.ofNat 0), .int .u8 (.ofNat 0), .int .u8 (.ofNat 0), .int .u8 (.ofNat 0), .int .u8 (.ofNat 0), .int .u8 (.ofNat 0), .int .u8 (.ofNat 0), .int .u8 (.ofNat 0), .int .u8 (.ofNat 0), .int .u8 (.ofNat 0), .int .u8 (.ofNat 0), .int .u8 (.ofNat 0), .int .u8 (.ofNat 0), .int .u8 (.ofNat 0), .int .u8 (.ofNat 0), .int .u8 (.ofNat 0), .int .u8 (.ofNat 0), .int .u8 (.ofNat 0), .int .u8 (.ofNat 0), .int .u8 (.ofNat 0), .int .u8 (.ofNat 0), .int .u8 (.ofNat 0), .int .u8 (.ofNat 0), .int .u8 (.ofNat 0), .int .u8 (.ofNat 0), .int .u8 (.ofNat 0), .int .u8 (.ofNat 0), .int .u8 (.ofNat 0), .int .u8 (.ofNat 0), .int .u8 (.ofNat 0), .int .u8 (.ofNat 0), .int .u8 (.ofNat 0), .int .u8 (.ofNat 0), .int .u8 (.ofNat 0), .int .u8 (.ofNat 0), .int .u8 (.ofNat 0), .int .u8 (.ofNat 0), .int .u8 (.ofNat 0), .int .u8 (.ofNat 0), .int .u8 (.ofNat 0), .int .u8 (.ofNat 0), .int .u8 (.ofNat 0), .int .u8 (.ofNat 0), .int .u8 (.ofNat 0), .int .u8 (.ofNat 0), .int .u8 (.ofNat 0), .int .u8 (.ofNat 0), .int .u8 (.ofNat 0), .int .u8 (.ofNat 0), .int .u8 (.ofNat 0), .int .u8 (.ofNat 0), .int .u8 (.ofNat 0), .int .u8 (.ofNat 0)]
def glA : Glob := fun g => Bool.rec none (some 0) (Nat.beq g 0)
def Ck : Cfg := cfgN false mask glA
def hA (e : TypeId) : H := ⟨T.set T.leaf (.row ASCII e false []) 0, 1⟩
end
end Go.Proofs.YtoeoaiipchklbaaDoor
/- The program's lexer: the words of the language. -/
set_option autoImplicit false
set_option linter.unusedVariables false
set_option maxRecDepth 1000000
namespace Go.Proofs.YtoeoaiipchklbaaDoor
noncomputable section
open Go.X
theorem keys_run (e : TypeId) : Ran (xfun Ck Tryd.prog (xcode Ck Tryd.prog F) 18 [] (hA e) [] (fun v h' _ => v = .map 1 ∧ h'.b.get 0 = some (.row ASCII e false []) ∧ h'.b.get 1 = some (.map KEYS))) :=
  ⟨Eq.mpr (β := AV.map 1 = .map 1 ∧ some (Blk.row ASCII e false []) = some (.row ASCII e false []) ∧ some (Blk.map KEYS) = some (.map KEYS)) (by kernel_rfl) ⟨rfl, rfl, rfl⟩⟩
theorem goodCk : X.Good Ck Tryd.prog := goodN _ _ _ _
def fKeys (args : List AV) (h : H) : Option (Bool × AV × H) := match args with
  | [] => match h.b.get 0 with
    | some (.row cells e false []) => some (Bool.and (flatEqs cells ASCII) (Nat.ble 1 h.next), .map h.next, hnew h (.map KEYS))
    | _ => none
  | _ => none
theorem keys_ok (args : List AV) (h : H) (v : AV) (h' : H) (ds : List Bool) (K : KV) (hf : fKeys args h = some (true, v, h')) (hK : K v h' ds) : CallOK Tryd.prog glA 18 args h K := by
  unfold fKeys at hf
  split at hf <;> try (cases hf; done)
  split at hf <;> try (cases hf; done)
  rename_i cells e hg
  simp only [Option.some.injEq, Prod.mk.injEq] at hf
  obtain ⟨hc, rfl, rfl⟩ := hf
  obtain ⟨c1, c2⟩ := and_tt hc
  have c1 := flatEqs_eq c1
  subst c1
  have c2 : 0 < h.next := bleT c2
  have hA0 : ∀ {i k}, (hA e).b.get i = some k → i = 0 ∧ k = .row ASCII e false [] := by
    intro i k hi
    have hi : T.get (T.set T.leaf (Blk.row ASCII e false []) 0) i = some k := hi
    rcases T.get_set hi with ⟨rfl, rfl⟩ | ⟨_, hi⟩
    · exact ⟨rfl, rfl⟩
    · exact (leaf_none hi).elim
  have hbA : ∀ N, belB N (.row ASCII e false []) = true := fun N => by
    have : belL 0 ASCII = true := by kernel_rfl
    exact belL_mono (Nat.zero_le _) _ this
  have hrA : ∀ ρ : Nat → Nat, renB ρ (.row ASCII e false []) = .row ASCII e false [] := fun ρ => by
    have : belL 0 ASCII = true := by kernel_rfl
    show Blk.row (renL ρ ASCII) e false [] = _
    rw [renL_bel (N := 0) (ρ := id) (fun i hi => absurd hi (Nat.not_lt_zero _)) ASCII this, renL_id]
  let G : Nat → Option Blk := fun i => match i with
    | 0 => some (.row ASCII e false [])
    | 1 => some (.map KEYS)
    | _ => none
  have up0 : up id 1 h.next 0 = 0 := up_old (by omega)
  have up1 : up id 1 h.next 1 = h.next := by rw [up_new (Nat.le_refl _)]; simp
  refine frame (fuel := F) (ds1 := []) (N := 2) (G := G) (V := .map 1) goodCk.ok goodCk.spl (h1 := hA e) (args1 := []) (ρ := id) (h2 := hnew h (.map KEYS)) (ds := ds) ⟨?_⟩ ⟨?_, ?_, ?_⟩ ⟨?_, ?_, ?_, ?_, ?_⟩ rfl ?_ ?_
  · obtain ⟨u, h', d, ⟨q1, q2, q3⟩, _, back⟩ := xfun_spl goodCk.spl (xcode_spl goodCk.spl F) 18 [] (hA e) [] _ (keys_run e).out
    refine back _ ⟨id, ⟨fun i hi => rfl, fun i h0 hi => h0, fun i j hi hj e => e⟩, by rw [ren_id]; exact q1, rfl, fun i k hi hG => ?_⟩
    rw [renB_id]
    match i, hi with
    | 0, _ => cases hG; exact q2
    | 1, _ => cases hG; exact q3
  · intro i k hi
    obtain ⟨rfl, rfl⟩ := hA0 hi
    exact ⟨Nat.lt_succ_self _, by rw [hrA]; exact hg, hbA _, rfl⟩
  · exact fun i j _ _ e => e
  · intro i hi
    have : i = 0 := by have : i < 1 := hi; omega
    subst this; exact c2
  · exact Nat.le_succ 1
  · rfl
  · intro j k hj
    have hj : T.get (T.set h.b (Blk.map KEYS) h.next) j = some k := hj
    rcases T.get_set hj with ⟨rfl, rfl⟩ | ⟨hne, hj⟩
    · exact .inl ⟨1, .map KEYS, by omega, up1.symm, rfl, (keys_ren _).symm⟩
    · by_cases e0 : j = 0
      · subst e0
        rw [hg] at hj; cases hj
        exact .inl ⟨0, _, by omega, up0.symm, rfl, (hrA _).symm⟩
      · exact .inr ⟨hj, fun i k1 hi => by obtain ⟨rfl, _⟩ := hA0 hi; exact fun e => e0 e.symm⟩
  · intro i k hi hG
    have : i = 0 := by have : i < 1 := hi; omega
    subst this
    cases hG
    exact ⟨_, rfl, rfl⟩
  · intro i k hi hG
    match i, hi with
    | 0, _ => cases hG; exact ⟨hbA _, rfl⟩
    | 1, _ =>
      cases hG
      have hk0 : belE 0 KEYS = true := by kernel_rfl
      exact ⟨belE_mono (M := 2) (by omega) _ hk0, rfl⟩
  · intro g i hgi
    have hgi : glA g = some i := hgi
    have : i = 0 := by
      unfold glA at hgi
      cases hb : Nat.beq g 0 with
      | false => rw [hb] at hgi; cases hgi
      | true => rw [hb] at hgi; cases hgi; rfl
    subst this
    exact ⟨Nat.lt_succ_self _, hgi⟩
  · show K (.map (up id 1 h.next 1)) _ _
    rw [up1]; exact hK
/-- what a caller of Tokens leans on -/
def C12 : Cfg := ((cfgN true mask glA).addCon 19 (conF2 fNext)).addCon 18 (conF fKeys)
theorem goodC12 : X.Good C12 Tryd.prog := ((goodN _ _ _ _).addCon 19 _ (conF2_spl _) next_ok).addCon 18 _ (conF_spl _) (conF_ok keys_ok)
end
end Go.Proofs.YtoeoaiipchklbaaDoor

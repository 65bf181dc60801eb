/- Stream: what the rounds of Run's loop do. -/
import Derived.Test.YtkfhjobebhdpoaaGreatOA
import Derived.Test.YtkfhjobebhdpoaaGreatSK
set_option linter.unusedVariables false
set_option autoImplicit false
set_option maxRecDepth 1000000
set_option maxHeartbeats 2000000
set_option linter.unusedVariables false
namespace Go.Proofs.YtkfhjobebhdpoaaGreat
noncomputable section
open Go.X
/-- in which state it is at the beginning of a tick -/
def cntO (l : Nat → Bool) : Nat → Int := fun i => Nat.rec 0 (fun j ih => Bool.rec (if ih = 0 then 1 else 0) (if ih = 0 then 0 else 2) (l j)) i
theorem cntO_succ (l : Nat → Bool) (i : Nat) : cntO l (i + 1) = Bool.rec (if cntO l i = 0 then 1 else 0) (if cntO l i = 0 then 0 else 2) (l i) := rfl
theorem cntO_true {l : Nat → Bool} {i : Nat} (h : l i = true) : (cntO l i = 0 → cntO l (i + 1) = 0) ∧ (cntO l i ≠ 0 → cntO l (i + 1) = 2) := by
  rw [cntO_succ, h]
  exact ⟨fun e => if_pos e, fun e => if_neg e⟩
theorem cntO_false {l : Nat → Bool} {i : Nat} (h : l i = false) : (cntO l i = 0 → cntO l (i + 1) = 1) ∧ (cntO l i ≠ 0 → cntO l (i + 1) = 0) := by
  rw [cntO_succ, h]
  exact ⟨fun e => if_pos e, fun e => if_neg e⟩
theorem cntO_le (l : Nat → Bool) : ∀ i : Nat, cntO l i = 0 ∨ cntO l i = 1 ∨ cntO l i = 2
  | 0 => .inl rfl
  | i + 1 => by
    have ih := cntO_le l i
    cases h : l i with
    | true => have := cntO_true h; omega
    | false => have := cntO_false h; omega
def valO (l : Nat → Bool) (j : Nat) : Int := Bool.rec (cntO l j + 1) (if cntO l j = 2 then 3 else cntO l j + 2) (l j)
theorem valO_true {l : Nat → Bool} {i : Nat} (h : l i = true) : (cntO l i = 2 → valO l i = 3) ∧ (cntO l i ≠ 2 → valO l i = cntO l i + 2) := by
  unfold valO; rw [h]
  exact ⟨fun e => if_pos e, fun e => if_neg e⟩
theorem valO_false {l : Nat → Bool} {i : Nat} (h : l i = false) : valO l i = cntO l i + 1 := by
  unfold valO; rw [h]
def inRowO (l : Nat → Bool) (j : Nat) : Blk := .row [.int .i64 (bi (l j))] 3 true []
def outO (l : Nat → Bool) (j : Nat) : Blk := rowO [.int .i64 (valO l j)]
theorem outO_int (l : Nat → Bool) (j : Nat) : IntRow (outO l j) := ⟨[valO l j], 3, true, rfl⟩
/-- the zone that holds the rows of the inputs and those that are wanted -/
structure ZinO (l : Nat → Bool) (n : Nat) (z : T Blk) : Prop where
  ins : ∀ j, j < n → z.get j = some (inRowO l j)
  want : ∀ j, j < n → z.get (100 + j) = some (outO l j)
  only : ∀ x k, z.get x = some k → x < 200 ∧ IntRow k
theorem blksO0 : blksN n0O (bO0) = true := by kernel_rfl
theorem getO0 (z : T Blk) (csI csW : List AV) : T.get (mkB z (lapp (rr0O csI csW) bO0)) 30 = some (.row csI 22 true []) := by kernel_rfl
theorem zgO0 (z : T Blk) (csI csW : List AV) : zget (mkB z (lapp (rr0O csI csW) bO0)) 12 = z := by kernel_rfl
theorem getO1 (z : T Blk) (cs csI csW : List AV) : T.get (mkB z (lapp (rrO cs csI csW) (bO1))) 30 = some (.row csI 22 true []) := by kernel_rfl
theorem zgO1 (z : T Blk) (cs csI csW : List AV) : zget (mkB z (lapp (rrO cs csI csW) (bO1))) 12 = z := by kernel_rfl
theorem getO2 (z : T Blk) (cs csI csW : List AV) (a0 : Int) (a1 : Int) : T.get (mkB z (lapp (rrO cs csI csW) (bO2 a0 a1))) 30 = some (.row csI 22 true []) := by kernel_rfl
theorem zgO2 (z : T Blk) (cs csI csW : List AV) (a0 : Int) (a1 : Int) : zget (mkB z (lapp (rrO cs csI csW) (bO2 a0 a1))) 12 = z := by kernel_rfl
theorem getO3 (z : T Blk) (cs csI csW : List AV) (a0 : Int) (a1 : Int) : T.get (mkB z (lapp (rrO cs csI csW) (bO3 a0 a1))) 30 = some (.row csI 22 true []) := by kernel_rfl
theorem zgO3 (z : T Blk) (cs csI csW : List AV) (a0 : Int) (a1 : Int) : zget (mkB z (lapp (rrO cs csI csW) (bO3 a0 a1))) 12 = z := by kernel_rfl
theorem getO4 (z : T Blk) (cs csI csW : List AV) (a0 : Int) (a1 : Int) (a2 : Int) : T.get (mkB z (lapp (rrO cs csI csW) (bO4 a0 a1 a2))) 30 = some (.row csI 22 true []) := by kernel_rfl
theorem zgO4 (z : T Blk) (cs csI csW : List AV) (a0 : Int) (a1 : Int) (a2 : Int) : zget (mkB z (lapp (rrO cs csI csW) (bO4 a0 a1 a2))) 12 = z := by kernel_rfl
theorem getO5 (z : T Blk) (cs csI csW : List AV) (a0 : Int) (a1 : Int) (a2 : Int) : T.get (mkB z (lapp (rrO cs csI csW) (bO5 a0 a1 a2))) 30 = some (.row csI 22 true []) := by kernel_rfl
theorem zgO5 (z : T Blk) (cs csI csW : List AV) (a0 : Int) (a1 : Int) (a2 : Int) : zget (mkB z (lapp (rrO cs csI csW) (bO5 a0 a1 a2))) 12 = z := by kernel_rfl
theorem getO6 (z : T Blk) (cs csI csW : List AV) (a0 : Int) (a1 : Int) (a2 : Int) : T.get (mkB z (lapp (rrO cs csI csW) (bO6 a0 a1 a2))) 30 = some (.row csI 22 true []) := by kernel_rfl
theorem zgO6 (z : T Blk) (cs csI csW : List AV) (a0 : Int) (a1 : Int) (a2 : Int) : zget (mkB z (lapp (rrO cs csI csW) (bO6 a0 a1 a2))) 12 = z := by kernel_rfl
theorem getO7 (z : T Blk) (cs csI csW : List AV) (a0 : Int) (a1 : Int) (a2 : Int) (a3 : Int) : T.get (mkB z (lapp (rrO cs csI csW) (bO7 a0 a1 a2 a3))) 30 = some (.row csI 22 true []) := by kernel_rfl
theorem zgO7 (z : T Blk) (cs csI csW : List AV) (a0 : Int) (a1 : Int) (a2 : Int) (a3 : Int) : zget (mkB z (lapp (rrO cs csI csW) (bO7 a0 a1 a2 a3))) 12 = z := by kernel_rfl
theorem getO8 (z : T Blk) (cs csI csW : List AV) (a0 : Int) : T.get (mkB z (lapp (rrO cs csI csW) (bO8 a0))) 30 = some (.row csI 22 true []) := by kernel_rfl
theorem zgO8 (z : T Blk) (cs csI csW : List AV) (a0 : Int) : zget (mkB z (lapp (rrO cs csI csW) (bO8 a0))) 12 = z := by kernel_rfl
theorem getO9 (z : T Blk) (cs csI csW : List AV) (a0 : Int) : T.get (mkB z (lapp (rrO cs csI csW) (bO9 a0))) 30 = some (.row csI 22 true []) := by kernel_rfl
theorem zgO9 (z : T Blk) (cs csI csW : List AV) (a0 : Int) : zget (mkB z (lapp (rrO cs csI csW) (bO9 a0))) 12 = z := by kernel_rfl
theorem getO10 (z : T Blk) (cs csI csW : List AV) (a0 : Int) : T.get (mkB z (lapp (rrO cs csI csW) (bO10 a0))) 30 = some (.row csI 22 true []) := by kernel_rfl
theorem zgO10 (z : T Blk) (cs csI csW : List AV) (a0 : Int) : zget (mkB z (lapp (rrO cs csI csW) (bO10 a0))) 12 = z := by kernel_rfl
theorem getO11 (z : T Blk) (cs csI csW : List AV) (a0 : Int) (a1 : Int) : T.get (mkB z (lapp (rrO cs csI csW) (bO11 a0 a1))) 30 = some (.row csI 22 true []) := by kernel_rfl
theorem zgO11 (z : T Blk) (cs csI csW : List AV) (a0 : Int) (a1 : Int) : zget (mkB z (lapp (rrO cs csI csW) (bO11 a0 a1))) 12 = z := by kernel_rfl
theorem getO12 (z : T Blk) (cs csI csW : List AV) (a0 : Int) (a1 : Int) : T.get (mkB z (lapp (rrO cs csI csW) (bO12 a0 a1))) 30 = some (.row csI 22 true []) := by kernel_rfl
theorem zgO12 (z : T Blk) (cs csI csW : List AV) (a0 : Int) (a1 : Int) : zget (mkB z (lapp (rrO cs csI csW) (bO12 a0 a1))) 12 = z := by kernel_rfl
theorem getO13 (z : T Blk) (cs csI csW : List AV) (a0 : Int) (a1 : Int) : T.get (mkB z (lapp (rrO cs csI csW) (bO13 a0 a1))) 30 = some (.row csI 22 true []) := by kernel_rfl
theorem zgO13 (z : T Blk) (cs csI csW : List AV) (a0 : Int) (a1 : Int) : zget (mkB z (lapp (rrO cs csI csW) (bO13 a0 a1))) 12 = z := by kernel_rfl
theorem getO14 (z : T Blk) (cs csI csW : List AV) (a0 : Int) (a1 : Int) (a2 : Int) : T.get (mkB z (lapp (rrO cs csI csW) (bO14 a0 a1 a2))) 30 = some (.row csI 22 true []) := by kernel_rfl
theorem zgO14 (z : T Blk) (cs csI csW : List AV) (a0 : Int) (a1 : Int) (a2 : Int) : zget (mkB z (lapp (rrO cs csI csW) (bO14 a0 a1 a2))) 12 = z := by kernel_rfl
theorem getO15 (z : T Blk) (cs csI csW : List AV) (a0 : Int) (a1 : Int) : T.get (mkB z (lapp (rrO cs csI csW) (bO15 a0 a1))) 30 = some (.row csI 22 true []) := by kernel_rfl
theorem zgO15 (z : T Blk) (cs csI csW : List AV) (a0 : Int) (a1 : Int) : zget (mkB z (lapp (rrO cs csI csW) (bO15 a0 a1))) 12 = z := by kernel_rfl
/-- the zone as far as round i -/
def zoO (l : Nat → Bool) (z : T Blk) (i : Nat) : T Blk := zgrow z 300 (outO l) i
theorem zoO_ok {l : Nat → Bool} {n : Nat} {z : T Blk} (Zs : ZinO l n z) {i : Nat} (hi : i ≤ 60) : ZoneOK (zoO l z i) 2097152 := by
  refine zgrow_ok (fun x k h => ?_) fun j hj => ⟨outO_int l j, by rw [zn_eq]; omega, by rw [zn_eq]; show _ < 1000000000000; omega⟩
  obtain ⟨a, b⟩ := Zs.only x k h
  exact ⟨b, by rw [zn_eq]; omega, by rw [zn_eq]; show _ < 1000000000000; omega⟩
theorem zoO_low {l : Nat → Bool} {z : T Blk} {i x : Nat} (hx : x < 300) : (zoO l z i).get x = z.get x := zgrow_old (.inl hx)
theorem belO_I {n : Nat} (hn : n ≤ 60) : belL 2097152 (zrowsT 0 1 n) = true := belL_slc _ _ _ _ _ fun j hj => by have := List.mem_range.1 hj; rw [zn_eq]; omega
theorem belO_W {n : Nat} (hn : n ≤ 60) : belL 2097152 (zrowsT 100 1 n) = true := belL_slc _ _ _ _ _ fun j hj => by have := List.mem_range.1 hj; rw [zn_eq]; omega
theorem belO_O {i : Nat} (hi : i ≤ 60) : belL 2097152 (zrows 300 1 i) = true := belL_slc _ _ _ _ _ fun j hj => by have := List.mem_range.1 hj; rw [zn_eq]; omega
/-- the state that shape B makes at round i -/
def stO (l : Nat → Bool) (n : Nat) (z : T Blk) (i : Nat) (g : Nat → CV) (B : List (Nat × Blk)) : ZS := ⟨eO n g (.slc n0O 0 i i false 1) i, lapp (rrO (zrows 300 1 i) (zrowsT 0 1 n) (zrowsT 100 1 n)) B, zoO l z i, 2097152⟩
def finO (l : Nat → Bool) (n : Nat) (z : T Blk) : ZS := ⟨[(6, .nils), (7, .int .i64 (Int.ofNat 0)), (17, .slc n0O 0 n n false 1)], rrO (zrows 300 1 n) (zrowsT 0 1 n) (zrowsT 100 1 n), zoO l z n, 2097152⟩
theorem keepIO {l : Nat → Bool} {n : Nat} {z : T Blk} (Zs : ZinO l n z) (hn : n ≤ 60) {i : Nat} {A Zn : List (Nat × Nat × Blk)} (hA : okLit n0O 2097152 A = true) (hZ : ∀ p ∈ Zn, 300 ≤ p.1) :
    renL (szs n0O (namesOf A Zn) (kpOf (zoO l z i))) (zrowsT 0 1 n) = (zrowsT 0 1 n) ∧ renL (szs n0O (namesOf A Zn) (kpOf (zoO l z i))) (zrowsT 100 1 n) = (zrowsT 100 1 n) := by
  constructor
  · unfold zrowsT
    rw [renL_slc]
    refine List.map_congr_left fun j hj => ?_
    have hj := List.mem_range.1 hj
    rw [szs_zone hA (k := inRowO l j) (by rw [zoO_low (by omega), Nat.zero_add]; exact Zs.ins j hj) (fun p hp e => by have := hZ p hp; omega)]
  · unfold zrowsT
    rw [renL_slc]
    refine List.map_congr_left fun j hj => ?_
    have hj := List.mem_range.1 hj
    rw [szs_zone hA (k := outO l j) (by rw [zoO_low (by omega)]; exact Zs.want j hj) (fun p hp e => by have := hZ p hp; omega)]
theorem litO_0_0 : okLit n0O 2097152 (zipA (bO1) kO_0_0) = true := by kernel_rfl
theorem keysO_0_0 (n : Nat) : nodupQ (lmap (fun p => p.1) (lapp [(n0O, 1049418, .row (zrows 300 1 1) 22 true []), (30, 30, .row (zrowsT 0 1 n) 22 true []), (31, 31, .row (zrowsT 100 1 n) 22 true [])] (zipA (bO1) kO_0_0))) = true := by kernel_rfl
theorem actsO_0_0 (n : Nat) : nodupQ (actsOf (lapp [(n0O, 1049418, .row (zrows 300 1 1) 22 true []), (30, 30, .row (zrowsT 0 1 n) 22 true []), (31, 31, .row (zrowsT 100 1 n) 22 true [])] (zipA (bO1) kO_0_0)) [(300, 1049416, rowO [.int .i64 1])]) = true := by kernel_rfl
theorem absO_0_0 {l : Nat → Bool} {n : Nat} {z : T Blk} (Zs : ZinO l n z) (hn : n ≤ 60) (hi : 0 < n) (r : Nat) (hrow : rowO [.int .i64 1] = outO l 0) {env : Env} {h : H}
    (ho : obs [6, 7, 16, 17, 71, 72, 73] (actsOf (lapp [(n0O, 1049418, .row (zrows 300 1 1) 22 true []), (30, 30, .row (zrowsT 0 1 n) 22 true []), (31, 31, .row (zrowsT 100 1 n) 22 true [])] (zipA (bO1) kO_0_0)) [(300, 1049416, rowO [.int .i64 1])]) (lapp [(n0O, 1049418, .row (zrows 300 1 1) 22 true []), (30, 30, .row (zrowsT 0 1 n) 22 true []), (31, 31, .row (zrowsT 100 1 n) 22 true [])] (zipA (bO1) kO_0_0)) [(300, 1049416, rowO [.int .i64 1])] env h = expsR n0O (kpOf z) (eO n (ggO r [0]) (.slc n0O 0 1 1 false 1) 1) [(n0O, 1049418, .row (zrows 300 1 1) 22 true []), (30, 30, .row (zrowsT 0 1 n) 22 true []), (31, 31, .row (zrowsT 100 1 n) 22 true [])] (zipA (bO1) kO_0_0) [(300, 1049416, rowO [.int .i64 1])] z [(some (.row [.slc 1049416 0 1 1 false 1] 22 true []), true), (some (.row (zrowsT 0 1 n) 22 true []), true), (some (.row (zrowsT 100 1 n) 22 true []), true)]) :
    ∃ σ, Abs n0O σ (stO l n z 1 (ggO r [0]) (bO1)).env (stO l n z 1 (ggO r [0]) (bO1)).h env h := by
  have hlit : okLit n0O 2097152 (lapp [(n0O, 1049418, .row (zrows 300 1 1) 22 true []), (30, 30, .row (zrowsT 0 1 n) 22 true []), (31, 31, .row (zrowsT 100 1 n) 22 true [])] (zipA (bO1) kO_0_0)) = true := okLit_row rfl (belO_O (by omega)) (okLit_row rfl (belO_I hn) (okLit_row rfl (belO_W hn) (litO_0_0)))
  have hZ3 : ∀ p ∈ ([(300, 1049416, rowO [.int .i64 1])] : List (Nat × Nat × Blk)), 300 ≤ p.1 := fun p hp => by rw [List.mem_singleton.1 hp]; show 300 ≤ 300; omega
  have hnd : (([(300, 1049416, rowO [.int .i64 1])] : List (Nat × Nat × Blk)).map (·.1)).Nodup := by simp
  have k1 := keepIO Zs hn (i := 0) hlit hZ3
  rw [expsR_eq] at ho
  · exact NewOK.abs (t := stO l n z 1 (ggO r [0]) (bO1)) (A := lapp [(n0O, 1049418, .row (zrows 300 1 1) 22 true []), (30, 30, .row (zrowsT 0 1 n) 22 true []), (31, 31, .row (zrowsT 100 1 n) 22 true [])] (zipA (bO1) kO_0_0)) (Z := [(300, 1049416, rowO [.int .i64 1])]) (z := z)
      ⟨by rw [lmap_app, zipA_B]; rfl, by show T.set z (outO l 0) (300 + 0) = T.set z (rowO [.int .i64 1]) 300; rw [hrow], by show 1049403 ≤ 2097152; decide, by kernel_rfl, hlit, keysO_0_0 n, actsO_0_0 n,
        fun p hp => by
          rw [List.mem_singleton.1 hp]
          refine ⟨by show 1049403 ≤ zn 300; rw [zn_eq]; omega, by show zn 300 < 2097152; rw [zn_eq]; omega, by show 1049403 ≤ 1049416; decide, by show 1049416 < 1000000000000; decide, by show 1049416 % 4096 ≠ 4095; decide, ?_⟩
          exact ⟨[1], 3, true, rfl⟩,
        hnd, by have := zoO_ok Zs (i := 0) (by omega); exact this⟩ rfl rfl rfl rfl ho
  · have e1 : [.slc 1049416 0 1 1 false 1] = renL (szs n0O (namesOf (lapp [(n0O, 1049418, .row (zrows 300 1 1) 22 true []), (30, 30, .row (zrowsT 0 1 n) 22 true []), (31, 31, .row (zrowsT 100 1 n) 22 true [])] (zipA (bO1) kO_0_0)) [(300, 1049416, rowO [.int .i64 1])]) (kpOf z)) (zrows 300 1 1) := by
      refine zrows_grow (i := 0) (fun j hj => ?_) (szs_row hlit (by show 1049403 ≤ zn (300 + 0); rw [zn_eq]; omega) (List.mem_singleton.2 rfl) hnd)
      omega
    show [(some (Blk.row _ _ _ _), true), (some (Blk.row _ _ _ _), true), (some (Blk.row _ _ _ _), true)] = [(some (Blk.row (renL _ _) _ _ _), true), (some (Blk.row (renL _ _) _ _ _), true), (some (Blk.row (renL _ _) _ _ _), true)]
    rw [← e1]
    have k1 := k1
    change renL (szs n0O (namesOf _ _) (kpOf z)) _ = _ ∧ renL (szs n0O (namesOf _ _) (kpOf z)) _ = _ at k1
    rw [k1.1, k1.2]; rfl
theorem litO_1_0 : okLit n0O 2097152 (zipA (bO2 2 0) kO_1_0) = true := by kernel_rfl
theorem keysO_1_0 (n i : Nat) : nodupQ (lmap (fun p => p.1) (lapp [(n0O, 2097203, .row (zrows 300 1 (i + 1)) 22 true []), (30, 30, .row (zrowsT 0 1 n) 22 true []), (31, 31, .row (zrowsT 100 1 n) 22 true [])] (zipA (bO2 2 0) kO_1_0))) = true := by kernel_rfl
theorem actsO_1_0 (n i : Nat) : nodupQ (actsOf (lapp [(n0O, 2097203, .row (zrows 300 1 (i + 1)) 22 true []), (30, 30, .row (zrowsT 0 1 n) 22 true []), (31, 31, .row (zrowsT 100 1 n) 22 true [])] (zipA (bO2 2 0) kO_1_0)) [(300 + i, 2097201, rowO [.int .i64 2])]) = true := by kernel_rfl
theorem absO_1_0 {l : Nat → Bool} {n : Nat} {z : T Blk} (Zs : ZinO l n z) (hn : n ≤ 60) {i : Nat} (hi : i < n) (r : Nat) (hrow : rowO [.int .i64 2] = outO l i) {env : Env} {h : H}
    (ho : obs [6, 7, 16, 17, 71, 72, 73] (actsOf (lapp [(n0O, 2097203, .row (zrows 300 1 (i + 1)) 22 true []), (30, 30, .row (zrowsT 0 1 n) 22 true []), (31, 31, .row (zrowsT 100 1 n) 22 true [])] (zipA (bO2 2 0) kO_1_0)) [(300 + i, 2097201, rowO [.int .i64 2])]) (lapp [(n0O, 2097203, .row (zrows 300 1 (i + 1)) 22 true []), (30, 30, .row (zrowsT 0 1 n) 22 true []), (31, 31, .row (zrowsT 100 1 n) 22 true [])] (zipA (bO2 2 0) kO_1_0)) [(300 + i, 2097201, rowO [.int .i64 2])] env h = expsR n0O (kpOf (zoO l z i)) (eO n (ggO r [0]) (.slc n0O 0 (i + 1) (i + 1) false 1) (i + 1)) [(n0O, 2097203, .row (zrows 300 1 (i + 1)) 22 true []), (30, 30, .row (zrowsT 0 1 n) 22 true []), (31, 31, .row (zrowsT 100 1 n) 22 true [])] (zipA (bO2 2 0) kO_1_0) [(300 + i, 2097201, rowO [.int .i64 2])] (zoO l z i) [(some (.row (lapp (ltake (ldrop (zrows 300 1 i) 0) (Nat.mul i 1)) [.slc 2097201 0 1 1 false 1]) 22 true []), true), (some (.row (zrowsT 0 1 n) 22 true []), true), (some (.row (zrowsT 100 1 n) 22 true []), true)]) :
    ∃ σ, Abs n0O σ (stO l n z (i + 1) (ggO r [0]) (bO2 2 0)).env (stO l n z (i + 1) (ggO r [0]) (bO2 2 0)).h env h := by
  have hlit : okLit n0O 2097152 (lapp [(n0O, 2097203, .row (zrows 300 1 (i + 1)) 22 true []), (30, 30, .row (zrowsT 0 1 n) 22 true []), (31, 31, .row (zrowsT 100 1 n) 22 true [])] (zipA (bO2 2 0) kO_1_0)) = true := okLit_row rfl (belO_O (by omega)) (okLit_row rfl (belO_I hn) (okLit_row rfl (belO_W hn) (litO_1_0)))
  have hZ3 : ∀ p ∈ ([(300 + i, 2097201, rowO [.int .i64 2])] : List (Nat × Nat × Blk)), 300 ≤ p.1 := fun p hp => by rw [List.mem_singleton.1 hp]; show 300 ≤ 300 + i; omega
  have hnd : (([(300 + i, 2097201, rowO [.int .i64 2])] : List (Nat × Nat × Blk)).map (·.1)).Nodup := by simp
  have k1 := keepIO Zs hn (i := i) hlit hZ3
  rw [expsR_eq] at ho
  · exact NewOK.abs (t := stO l n z (i + 1) (ggO r [0]) (bO2 2 0)) (A := lapp [(n0O, 2097203, .row (zrows 300 1 (i + 1)) 22 true []), (30, 30, .row (zrowsT 0 1 n) 22 true []), (31, 31, .row (zrowsT 100 1 n) 22 true [])] (zipA (bO2 2 0) kO_1_0)) (Z := [(300 + i, 2097201, rowO [.int .i64 2])]) (z := (zoO l z i))
      ⟨by rw [lmap_app, zipA_B]; rfl, by show T.set (zoO l z i) (outO l i) (300 + i) = T.set (zoO l z i) (rowO [.int .i64 2]) (300 + i); rw [hrow], by show 1049403 ≤ 2097152; decide, by kernel_rfl, hlit, keysO_1_0 n i, actsO_1_0 n i,
        fun p hp => by
          rw [List.mem_singleton.1 hp]
          refine ⟨by show 1049403 ≤ zn (300 + i); rw [zn_eq]; omega, by show zn (300 + i) < 2097152; rw [zn_eq]; omega, by show 1049403 ≤ 2097201; decide, by show 2097201 < 1000000000000; decide, by show 2097201 % 4096 ≠ 4095; decide, ?_⟩
          exact ⟨[2], 3, true, rfl⟩,
        hnd, zoO_ok Zs (by omega)⟩ rfl rfl rfl rfl ho
  · have e1 : (lapp (ltake (ldrop (zrows 300 1 i) 0) (Nat.mul i 1)) [.slc 2097201 0 1 1 false 1]) = renL (szs n0O (namesOf (lapp [(n0O, 2097203, .row (zrows 300 1 (i + 1)) 22 true []), (30, 30, .row (zrowsT 0 1 n) 22 true []), (31, 31, .row (zrowsT 100 1 n) 22 true [])] (zipA (bO2 2 0) kO_1_0)) [(300 + i, 2097201, rowO [.int .i64 2])]) (kpOf (zoO l z i))) (zrows 300 1 (i + 1)) := by
      refine zrows_grow (i := i) (fun j hj => ?_) (szs_row hlit (by show 1049403 ≤ zn (300 + i); rw [zn_eq]; omega) (List.mem_singleton.2 rfl) hnd)
      exact szs_zone hlit (zgrow_new hj) (fun p hp e => by rw [List.mem_singleton.1 hp] at e; have e : 300 + i = 300 + j := e; omega)
    show [(some (Blk.row _ _ _ _), true), (some (Blk.row _ _ _ _), true), (some (Blk.row _ _ _ _), true)] = [(some (Blk.row (renL _ _) _ _ _), true), (some (Blk.row (renL _ _) _ _ _), true), (some (Blk.row (renL _ _) _ _ _), true)]
    rw [← e1]
    have k1 := k1
    skip
    rw [k1.1, k1.2]; rfl
theorem litO_2_0 (a0 : Int) (a1 : Int) : okLit n0O 2097152 (zipA (bO3 (a0 + 1) a0) kO_2_0) = true := by kernel_rfl
theorem keysO_2_0 (n i : Nat) (a0 : Int) (a1 : Int) : nodupQ (lmap (fun p => p.1) (lapp [(n0O, 2097204, .row (zrows 300 1 (i + 1)) 22 true []), (30, 30, .row (zrowsT 0 1 n) 22 true []), (31, 31, .row (zrowsT 100 1 n) 22 true [])] (zipA (bO3 (a0 + 1) a0) kO_2_0))) = true := by kernel_rfl
theorem actsO_2_0 (n i : Nat) (a0 : Int) (a1 : Int) : nodupQ (actsOf (lapp [(n0O, 2097204, .row (zrows 300 1 (i + 1)) 22 true []), (30, 30, .row (zrowsT 0 1 n) 22 true []), (31, 31, .row (zrowsT 100 1 n) 22 true [])] (zipA (bO3 (a0 + 1) a0) kO_2_0)) [(300 + i, 2097202, rowO [.int .i64 1])]) = true := by kernel_rfl
theorem absO_2_0 {l : Nat → Bool} {n : Nat} {z : T Blk} (Zs : ZinO l n z) (hn : n ≤ 60) {i : Nat} (hi : i < n) (r : Nat) (a0 : Int) (a1 : Int) (hrow : rowO [.int .i64 1] = outO l i) {env : Env} {h : H}
    (ho : obs [6, 7, 16, 17, 71, 72, 73] (actsOf (lapp [(n0O, 2097204, .row (zrows 300 1 (i + 1)) 22 true []), (30, 30, .row (zrowsT 0 1 n) 22 true []), (31, 31, .row (zrowsT 100 1 n) 22 true [])] (zipA (bO3 (a0 + 1) a0) kO_2_0)) [(300 + i, 2097202, rowO [.int .i64 1])]) (lapp [(n0O, 2097204, .row (zrows 300 1 (i + 1)) 22 true []), (30, 30, .row (zrowsT 0 1 n) 22 true []), (31, 31, .row (zrowsT 100 1 n) 22 true [])] (zipA (bO3 (a0 + 1) a0) kO_2_0)) [(300 + i, 2097202, rowO [.int .i64 1])] env h = expsR n0O (kpOf (zoO l z i)) (eO n (ggO r [0]) (.slc n0O 0 (i + 1) (i + 1) false 1) (i + 1)) [(n0O, 2097204, .row (zrows 300 1 (i + 1)) 22 true []), (30, 30, .row (zrowsT 0 1 n) 22 true []), (31, 31, .row (zrowsT 100 1 n) 22 true [])] (zipA (bO3 (a0 + 1) a0) kO_2_0) [(300 + i, 2097202, rowO [.int .i64 1])] (zoO l z i) [(some (.row (lapp (ltake (ldrop (zrows 300 1 i) 0) (Nat.mul i 1)) [.slc 2097202 0 1 1 false 1]) 22 true []), true), (some (.row (zrowsT 0 1 n) 22 true []), true), (some (.row (zrowsT 100 1 n) 22 true []), true)]) :
    ∃ σ, Abs n0O σ (stO l n z (i + 1) (ggO r [0]) (bO3 (a0 + 1) a0)).env (stO l n z (i + 1) (ggO r [0]) (bO3 (a0 + 1) a0)).h env h := by
  have hlit : okLit n0O 2097152 (lapp [(n0O, 2097204, .row (zrows 300 1 (i + 1)) 22 true []), (30, 30, .row (zrowsT 0 1 n) 22 true []), (31, 31, .row (zrowsT 100 1 n) 22 true [])] (zipA (bO3 (a0 + 1) a0) kO_2_0)) = true := okLit_row rfl (belO_O (by omega)) (okLit_row rfl (belO_I hn) (okLit_row rfl (belO_W hn) (litO_2_0 a0 a1)))
  have hZ3 : ∀ p ∈ ([(300 + i, 2097202, rowO [.int .i64 1])] : List (Nat × Nat × Blk)), 300 ≤ p.1 := fun p hp => by rw [List.mem_singleton.1 hp]; show 300 ≤ 300 + i; omega
  have hnd : (([(300 + i, 2097202, rowO [.int .i64 1])] : List (Nat × Nat × Blk)).map (·.1)).Nodup := by simp
  have k1 := keepIO Zs hn (i := i) hlit hZ3
  rw [expsR_eq] at ho
  · exact NewOK.abs (t := stO l n z (i + 1) (ggO r [0]) (bO3 (a0 + 1) a0)) (A := lapp [(n0O, 2097204, .row (zrows 300 1 (i + 1)) 22 true []), (30, 30, .row (zrowsT 0 1 n) 22 true []), (31, 31, .row (zrowsT 100 1 n) 22 true [])] (zipA (bO3 (a0 + 1) a0) kO_2_0)) (Z := [(300 + i, 2097202, rowO [.int .i64 1])]) (z := (zoO l z i))
      ⟨by rw [lmap_app, zipA_B]; rfl, by show T.set (zoO l z i) (outO l i) (300 + i) = T.set (zoO l z i) (rowO [.int .i64 1]) (300 + i); rw [hrow], by show 1049403 ≤ 2097152; decide, by kernel_rfl, hlit, keysO_2_0 n i a0 a1, actsO_2_0 n i a0 a1,
        fun p hp => by
          rw [List.mem_singleton.1 hp]
          refine ⟨by show 1049403 ≤ zn (300 + i); rw [zn_eq]; omega, by show zn (300 + i) < 2097152; rw [zn_eq]; omega, by show 1049403 ≤ 2097202; decide, by show 2097202 < 1000000000000; decide, by show 2097202 % 4096 ≠ 4095; decide, ?_⟩
          exact ⟨[1], 3, true, rfl⟩,
        hnd, zoO_ok Zs (by omega)⟩ rfl rfl rfl rfl ho
  · have e1 : (lapp (ltake (ldrop (zrows 300 1 i) 0) (Nat.mul i 1)) [.slc 2097202 0 1 1 false 1]) = renL (szs n0O (namesOf (lapp [(n0O, 2097204, .row (zrows 300 1 (i + 1)) 22 true []), (30, 30, .row (zrowsT 0 1 n) 22 true []), (31, 31, .row (zrowsT 100 1 n) 22 true [])] (zipA (bO3 (a0 + 1) a0) kO_2_0)) [(300 + i, 2097202, rowO [.int .i64 1])]) (kpOf (zoO l z i))) (zrows 300 1 (i + 1)) := by
      refine zrows_grow (i := i) (fun j hj => ?_) (szs_row hlit (by show 1049403 ≤ zn (300 + i); rw [zn_eq]; omega) (List.mem_singleton.2 rfl) hnd)
      exact szs_zone hlit (zgrow_new hj) (fun p hp e => by rw [List.mem_singleton.1 hp] at e; have e : 300 + i = 300 + j := e; omega)
    show [(some (Blk.row _ _ _ _), true), (some (Blk.row _ _ _ _), true), (some (Blk.row _ _ _ _), true)] = [(some (Blk.row (renL _ _) _ _ _), true), (some (Blk.row (renL _ _) _ _ _), true), (some (Blk.row (renL _ _) _ _ _), true)]
    rw [← e1]
    have k1 := k1
    skip
    rw [k1.1, k1.2]; rfl
theorem litO_3_1 (a0 : Int) (a1 : Int) : okLit n0O 2097152 (zipA (bO4 (a0 + 1) a0 a1) kO_3_1) = true := by kernel_rfl
theorem keysO_3_1 (n i : Nat) (a0 : Int) (a1 : Int) : nodupQ (lmap (fun p => p.1) (lapp [(n0O, 2097219, .row (zrows 300 1 (i + 1)) 22 true []), (30, 30, .row (zrowsT 0 1 n) 22 true []), (31, 31, .row (zrowsT 100 1 n) 22 true [])] (zipA (bO4 (a0 + 1) a0 a1) kO_3_1))) = true := by kernel_rfl
theorem actsO_3_1 (n i : Nat) (a0 : Int) (a1 : Int) : nodupQ (actsOf (lapp [(n0O, 2097219, .row (zrows 300 1 (i + 1)) 22 true []), (30, 30, .row (zrowsT 0 1 n) 22 true []), (31, 31, .row (zrowsT 100 1 n) 22 true [])] (zipA (bO4 (a0 + 1) a0 a1) kO_3_1)) [(300 + i, 2097217, rowO [.int .i64 3])]) = true := by kernel_rfl
theorem absO_3_1 {l : Nat → Bool} {n : Nat} {z : T Blk} (Zs : ZinO l n z) (hn : n ≤ 60) {i : Nat} (hi : i < n) (r : Nat) (a0 : Int) (a1 : Int) (hrow : rowO [.int .i64 3] = outO l i) {env : Env} {h : H}
    (ho : obs [6, 7, 16, 17, 71, 72, 73] (actsOf (lapp [(n0O, 2097219, .row (zrows 300 1 (i + 1)) 22 true []), (30, 30, .row (zrowsT 0 1 n) 22 true []), (31, 31, .row (zrowsT 100 1 n) 22 true [])] (zipA (bO4 (a0 + 1) a0 a1) kO_3_1)) [(300 + i, 2097217, rowO [.int .i64 3])]) (lapp [(n0O, 2097219, .row (zrows 300 1 (i + 1)) 22 true []), (30, 30, .row (zrowsT 0 1 n) 22 true []), (31, 31, .row (zrowsT 100 1 n) 22 true [])] (zipA (bO4 (a0 + 1) a0 a1) kO_3_1)) [(300 + i, 2097217, rowO [.int .i64 3])] env h = expsR n0O (kpOf (zoO l z i)) (eO n (ggO r [1]) (.slc n0O 0 (i + 1) (i + 1) false 1) (i + 1)) [(n0O, 2097219, .row (zrows 300 1 (i + 1)) 22 true []), (30, 30, .row (zrowsT 0 1 n) 22 true []), (31, 31, .row (zrowsT 100 1 n) 22 true [])] (zipA (bO4 (a0 + 1) a0 a1) kO_3_1) [(300 + i, 2097217, rowO [.int .i64 3])] (zoO l z i) [(some (.row (lapp (ltake (ldrop (zrows 300 1 i) 0) (Nat.mul i 1)) [.slc 2097217 0 1 1 false 1]) 22 true []), true), (some (.row (zrowsT 0 1 n) 22 true []), true), (some (.row (zrowsT 100 1 n) 22 true []), true)]) :
    ∃ σ, Abs n0O σ (stO l n z (i + 1) (ggO r [1]) (bO4 (a0 + 1) a0 a1)).env (stO l n z (i + 1) (ggO r [1]) (bO4 (a0 + 1) a0 a1)).h env h := by
  have hlit : okLit n0O 2097152 (lapp [(n0O, 2097219, .row (zrows 300 1 (i + 1)) 22 true []), (30, 30, .row (zrowsT 0 1 n) 22 true []), (31, 31, .row (zrowsT 100 1 n) 22 true [])] (zipA (bO4 (a0 + 1) a0 a1) kO_3_1)) = true := okLit_row rfl (belO_O (by omega)) (okLit_row rfl (belO_I hn) (okLit_row rfl (belO_W hn) (litO_3_1 a0 a1)))
  have hZ3 : ∀ p ∈ ([(300 + i, 2097217, rowO [.int .i64 3])] : List (Nat × Nat × Blk)), 300 ≤ p.1 := fun p hp => by rw [List.mem_singleton.1 hp]; show 300 ≤ 300 + i; omega
  have hnd : (([(300 + i, 2097217, rowO [.int .i64 3])] : List (Nat × Nat × Blk)).map (·.1)).Nodup := by simp
  have k1 := keepIO Zs hn (i := i) hlit hZ3
  rw [expsR_eq] at ho
  · exact NewOK.abs (t := stO l n z (i + 1) (ggO r [1]) (bO4 (a0 + 1) a0 a1)) (A := lapp [(n0O, 2097219, .row (zrows 300 1 (i + 1)) 22 true []), (30, 30, .row (zrowsT 0 1 n) 22 true []), (31, 31, .row (zrowsT 100 1 n) 22 true [])] (zipA (bO4 (a0 + 1) a0 a1) kO_3_1)) (Z := [(300 + i, 2097217, rowO [.int .i64 3])]) (z := (zoO l z i))
      ⟨by rw [lmap_app, zipA_B]; rfl, by show T.set (zoO l z i) (outO l i) (300 + i) = T.set (zoO l z i) (rowO [.int .i64 3]) (300 + i); rw [hrow], by show 1049403 ≤ 2097152; decide, by kernel_rfl, hlit, keysO_3_1 n i a0 a1, actsO_3_1 n i a0 a1,
        fun p hp => by
          rw [List.mem_singleton.1 hp]
          refine ⟨by show 1049403 ≤ zn (300 + i); rw [zn_eq]; omega, by show zn (300 + i) < 2097152; rw [zn_eq]; omega, by show 1049403 ≤ 2097217; decide, by show 2097217 < 1000000000000; decide, by show 2097217 % 4096 ≠ 4095; decide, ?_⟩
          exact ⟨[3], 3, true, rfl⟩,
        hnd, zoO_ok Zs (by omega)⟩ rfl rfl rfl rfl ho
  · have e1 : (lapp (ltake (ldrop (zrows 300 1 i) 0) (Nat.mul i 1)) [.slc 2097217 0 1 1 false 1]) = renL (szs n0O (namesOf (lapp [(n0O, 2097219, .row (zrows 300 1 (i + 1)) 22 true []), (30, 30, .row (zrowsT 0 1 n) 22 true []), (31, 31, .row (zrowsT 100 1 n) 22 true [])] (zipA (bO4 (a0 + 1) a0 a1) kO_3_1)) [(300 + i, 2097217, rowO [.int .i64 3])]) (kpOf (zoO l z i))) (zrows 300 1 (i + 1)) := by
      refine zrows_grow (i := i) (fun j hj => ?_) (szs_row hlit (by show 1049403 ≤ zn (300 + i); rw [zn_eq]; omega) (List.mem_singleton.2 rfl) hnd)
      exact szs_zone hlit (zgrow_new hj) (fun p hp e => by rw [List.mem_singleton.1 hp] at e; have e : 300 + i = 300 + j := e; omega)
    show [(some (Blk.row _ _ _ _), true), (some (Blk.row _ _ _ _), true), (some (Blk.row _ _ _ _), true)] = [(some (Blk.row (renL _ _) _ _ _), true), (some (Blk.row (renL _ _) _ _ _), true), (some (Blk.row (renL _ _) _ _ _), true)]
    rw [← e1]
    have k1 := k1
    skip
    rw [k1.1, k1.2]; rfl
theorem litO_4_1 (a0 : Int) (a1 : Int) (a2 : Int) : okLit n0O 2097152 (zipA (bO4 (a0 + 1) a1 a2) kO_4_1) = true := by kernel_rfl
theorem keysO_4_1 (n i : Nat) (a0 : Int) (a1 : Int) (a2 : Int) : nodupQ (lmap (fun p => p.1) (lapp [(n0O, 2097165, .row (zrows 300 1 (i + 1)) 22 true []), (30, 30, .row (zrowsT 0 1 n) 22 true []), (31, 31, .row (zrowsT 100 1 n) 22 true [])] (zipA (bO4 (a0 + 1) a1 a2) kO_4_1))) = true := by kernel_rfl
theorem actsO_4_1 (n i : Nat) (a0 : Int) (a1 : Int) (a2 : Int) : nodupQ (actsOf (lapp [(n0O, 2097165, .row (zrows 300 1 (i + 1)) 22 true []), (30, 30, .row (zrowsT 0 1 n) 22 true []), (31, 31, .row (zrowsT 100 1 n) 22 true [])] (zipA (bO4 (a0 + 1) a1 a2) kO_4_1)) [(300 + i, 2097163, rowO [.int .i64 3])]) = true := by kernel_rfl
theorem absO_4_1 {l : Nat → Bool} {n : Nat} {z : T Blk} (Zs : ZinO l n z) (hn : n ≤ 60) {i : Nat} (hi : i < n) (r : Nat) (a0 : Int) (a1 : Int) (a2 : Int) (hrow : rowO [.int .i64 3] = outO l i) {env : Env} {h : H}
    (ho : obs [6, 7, 16, 17, 71, 72, 73] (actsOf (lapp [(n0O, 2097165, .row (zrows 300 1 (i + 1)) 22 true []), (30, 30, .row (zrowsT 0 1 n) 22 true []), (31, 31, .row (zrowsT 100 1 n) 22 true [])] (zipA (bO4 (a0 + 1) a1 a2) kO_4_1)) [(300 + i, 2097163, rowO [.int .i64 3])]) (lapp [(n0O, 2097165, .row (zrows 300 1 (i + 1)) 22 true []), (30, 30, .row (zrowsT 0 1 n) 22 true []), (31, 31, .row (zrowsT 100 1 n) 22 true [])] (zipA (bO4 (a0 + 1) a1 a2) kO_4_1)) [(300 + i, 2097163, rowO [.int .i64 3])] env h = expsR n0O (kpOf (zoO l z i)) (eO n (ggO r [1]) (.slc n0O 0 (i + 1) (i + 1) false 1) (i + 1)) [(n0O, 2097165, .row (zrows 300 1 (i + 1)) 22 true []), (30, 30, .row (zrowsT 0 1 n) 22 true []), (31, 31, .row (zrowsT 100 1 n) 22 true [])] (zipA (bO4 (a0 + 1) a1 a2) kO_4_1) [(300 + i, 2097163, rowO [.int .i64 3])] (zoO l z i) [(some (.row (lapp (ltake (ldrop (zrows 300 1 i) 0) (Nat.mul i 1)) [.slc 2097163 0 1 1 false 1]) 22 true []), true), (some (.row (zrowsT 0 1 n) 22 true []), true), (some (.row (zrowsT 100 1 n) 22 true []), true)]) :
    ∃ σ, Abs n0O σ (stO l n z (i + 1) (ggO r [1]) (bO4 (a0 + 1) a1 a2)).env (stO l n z (i + 1) (ggO r [1]) (bO4 (a0 + 1) a1 a2)).h env h := by
  have hlit : okLit n0O 2097152 (lapp [(n0O, 2097165, .row (zrows 300 1 (i + 1)) 22 true []), (30, 30, .row (zrowsT 0 1 n) 22 true []), (31, 31, .row (zrowsT 100 1 n) 22 true [])] (zipA (bO4 (a0 + 1) a1 a2) kO_4_1)) = true := okLit_row rfl (belO_O (by omega)) (okLit_row rfl (belO_I hn) (okLit_row rfl (belO_W hn) (litO_4_1 a0 a1 a2)))
  have hZ3 : ∀ p ∈ ([(300 + i, 2097163, rowO [.int .i64 3])] : List (Nat × Nat × Blk)), 300 ≤ p.1 := fun p hp => by rw [List.mem_singleton.1 hp]; show 300 ≤ 300 + i; omega
  have hnd : (([(300 + i, 2097163, rowO [.int .i64 3])] : List (Nat × Nat × Blk)).map (·.1)).Nodup := by simp
  have k1 := keepIO Zs hn (i := i) hlit hZ3
  rw [expsR_eq] at ho
  · exact NewOK.abs (t := stO l n z (i + 1) (ggO r [1]) (bO4 (a0 + 1) a1 a2)) (A := lapp [(n0O, 2097165, .row (zrows 300 1 (i + 1)) 22 true []), (30, 30, .row (zrowsT 0 1 n) 22 true []), (31, 31, .row (zrowsT 100 1 n) 22 true [])] (zipA (bO4 (a0 + 1) a1 a2) kO_4_1)) (Z := [(300 + i, 2097163, rowO [.int .i64 3])]) (z := (zoO l z i))
      ⟨by rw [lmap_app, zipA_B]; rfl, by show T.set (zoO l z i) (outO l i) (300 + i) = T.set (zoO l z i) (rowO [.int .i64 3]) (300 + i); rw [hrow], by show 1049403 ≤ 2097152; decide, by kernel_rfl, hlit, keysO_4_1 n i a0 a1 a2, actsO_4_1 n i a0 a1 a2,
        fun p hp => by
          rw [List.mem_singleton.1 hp]
          refine ⟨by show 1049403 ≤ zn (300 + i); rw [zn_eq]; omega, by show zn (300 + i) < 2097152; rw [zn_eq]; omega, by show 1049403 ≤ 2097163; decide, by show 2097163 < 1000000000000; decide, by show 2097163 % 4096 ≠ 4095; decide, ?_⟩
          exact ⟨[3], 3, true, rfl⟩,
        hnd, zoO_ok Zs (by omega)⟩ rfl rfl rfl rfl ho
  · have e1 : (lapp (ltake (ldrop (zrows 300 1 i) 0) (Nat.mul i 1)) [.slc 2097163 0 1 1 false 1]) = renL (szs n0O (namesOf (lapp [(n0O, 2097165, .row (zrows 300 1 (i + 1)) 22 true []), (30, 30, .row (zrowsT 0 1 n) 22 true []), (31, 31, .row (zrowsT 100 1 n) 22 true [])] (zipA (bO4 (a0 + 1) a1 a2) kO_4_1)) [(300 + i, 2097163, rowO [.int .i64 3])]) (kpOf (zoO l z i))) (zrows 300 1 (i + 1)) := by
      refine zrows_grow (i := i) (fun j hj => ?_) (szs_row hlit (by show 1049403 ≤ zn (300 + i); rw [zn_eq]; omega) (List.mem_singleton.2 rfl) hnd)
      exact szs_zone hlit (zgrow_new hj) (fun p hp e => by rw [List.mem_singleton.1 hp] at e; have e : 300 + i = 300 + j := e; omega)
    show [(some (Blk.row _ _ _ _), true), (some (Blk.row _ _ _ _), true), (some (Blk.row _ _ _ _), true)] = [(some (Blk.row (renL _ _) _ _ _), true), (some (Blk.row (renL _ _) _ _ _), true), (some (Blk.row (renL _ _) _ _ _), true)]
    rw [← e1]
    have k1 := k1
    skip
    rw [k1.1, k1.2]; rfl
theorem litO_4_0 (a0 : Int) (a1 : Int) (a2 : Int) : okLit n0O 2097152 (zipA (bO5 (a0 + 1) a1 a2) kO_4_0) = true := by kernel_rfl
theorem keysO_4_0 (n i : Nat) (a0 : Int) (a1 : Int) (a2 : Int) : nodupQ (lmap (fun p => p.1) (lapp [(n0O, 2097167, .row (zrows 300 1 (i + 1)) 22 true []), (30, 30, .row (zrowsT 0 1 n) 22 true []), (31, 31, .row (zrowsT 100 1 n) 22 true [])] (zipA (bO5 (a0 + 1) a1 a2) kO_4_0))) = true := by kernel_rfl
theorem actsO_4_0 (n i : Nat) (a0 : Int) (a1 : Int) (a2 : Int) : nodupQ (actsOf (lapp [(n0O, 2097167, .row (zrows 300 1 (i + 1)) 22 true []), (30, 30, .row (zrowsT 0 1 n) 22 true []), (31, 31, .row (zrowsT 100 1 n) 22 true [])] (zipA (bO5 (a0 + 1) a1 a2) kO_4_0)) [(300 + i, 2097165, rowO [.int .i64 3])]) = true := by kernel_rfl
theorem absO_4_0 {l : Nat → Bool} {n : Nat} {z : T Blk} (Zs : ZinO l n z) (hn : n ≤ 60) {i : Nat} (hi : i < n) (r : Nat) (a0 : Int) (a1 : Int) (a2 : Int) (hrow : rowO [.int .i64 3] = outO l i) {env : Env} {h : H}
    (ho : obs [6, 7, 16, 17, 71, 72, 73] (actsOf (lapp [(n0O, 2097167, .row (zrows 300 1 (i + 1)) 22 true []), (30, 30, .row (zrowsT 0 1 n) 22 true []), (31, 31, .row (zrowsT 100 1 n) 22 true [])] (zipA (bO5 (a0 + 1) a1 a2) kO_4_0)) [(300 + i, 2097165, rowO [.int .i64 3])]) (lapp [(n0O, 2097167, .row (zrows 300 1 (i + 1)) 22 true []), (30, 30, .row (zrowsT 0 1 n) 22 true []), (31, 31, .row (zrowsT 100 1 n) 22 true [])] (zipA (bO5 (a0 + 1) a1 a2) kO_4_0)) [(300 + i, 2097165, rowO [.int .i64 3])] env h = expsR n0O (kpOf (zoO l z i)) (eO n (ggO r [0]) (.slc n0O 0 (i + 1) (i + 1) false 1) (i + 1)) [(n0O, 2097167, .row (zrows 300 1 (i + 1)) 22 true []), (30, 30, .row (zrowsT 0 1 n) 22 true []), (31, 31, .row (zrowsT 100 1 n) 22 true [])] (zipA (bO5 (a0 + 1) a1 a2) kO_4_0) [(300 + i, 2097165, rowO [.int .i64 3])] (zoO l z i) [(some (.row (lapp (ltake (ldrop (zrows 300 1 i) 0) (Nat.mul i 1)) [.slc 2097165 0 1 1 false 1]) 22 true []), true), (some (.row (zrowsT 0 1 n) 22 true []), true), (some (.row (zrowsT 100 1 n) 22 true []), true)]) :
    ∃ σ, Abs n0O σ (stO l n z (i + 1) (ggO r [0]) (bO5 (a0 + 1) a1 a2)).env (stO l n z (i + 1) (ggO r [0]) (bO5 (a0 + 1) a1 a2)).h env h := by
  have hlit : okLit n0O 2097152 (lapp [(n0O, 2097167, .row (zrows 300 1 (i + 1)) 22 true []), (30, 30, .row (zrowsT 0 1 n) 22 true []), (31, 31, .row (zrowsT 100 1 n) 22 true [])] (zipA (bO5 (a0 + 1) a1 a2) kO_4_0)) = true := okLit_row rfl (belO_O (by omega)) (okLit_row rfl (belO_I hn) (okLit_row rfl (belO_W hn) (litO_4_0 a0 a1 a2)))
  have hZ3 : ∀ p ∈ ([(300 + i, 2097165, rowO [.int .i64 3])] : List (Nat × Nat × Blk)), 300 ≤ p.1 := fun p hp => by rw [List.mem_singleton.1 hp]; show 300 ≤ 300 + i; omega
  have hnd : (([(300 + i, 2097165, rowO [.int .i64 3])] : List (Nat × Nat × Blk)).map (·.1)).Nodup := by simp
  have k1 := keepIO Zs hn (i := i) hlit hZ3
  rw [expsR_eq] at ho
  · exact NewOK.abs (t := stO l n z (i + 1) (ggO r [0]) (bO5 (a0 + 1) a1 a2)) (A := lapp [(n0O, 2097167, .row (zrows 300 1 (i + 1)) 22 true []), (30, 30, .row (zrowsT 0 1 n) 22 true []), (31, 31, .row (zrowsT 100 1 n) 22 true [])] (zipA (bO5 (a0 + 1) a1 a2) kO_4_0)) (Z := [(300 + i, 2097165, rowO [.int .i64 3])]) (z := (zoO l z i))
      ⟨by rw [lmap_app, zipA_B]; rfl, by show T.set (zoO l z i) (outO l i) (300 + i) = T.set (zoO l z i) (rowO [.int .i64 3]) (300 + i); rw [hrow], by show 1049403 ≤ 2097152; decide, by kernel_rfl, hlit, keysO_4_0 n i a0 a1 a2, actsO_4_0 n i a0 a1 a2,
        fun p hp => by
          rw [List.mem_singleton.1 hp]
          refine ⟨by show 1049403 ≤ zn (300 + i); rw [zn_eq]; omega, by show zn (300 + i) < 2097152; rw [zn_eq]; omega, by show 1049403 ≤ 2097165; decide, by show 2097165 < 1000000000000; decide, by show 2097165 % 4096 ≠ 4095; decide, ?_⟩
          exact ⟨[3], 3, true, rfl⟩,
        hnd, zoO_ok Zs (by omega)⟩ rfl rfl rfl rfl ho
  · have e1 : (lapp (ltake (ldrop (zrows 300 1 i) 0) (Nat.mul i 1)) [.slc 2097165 0 1 1 false 1]) = renL (szs n0O (namesOf (lapp [(n0O, 2097167, .row (zrows 300 1 (i + 1)) 22 true []), (30, 30, .row (zrowsT 0 1 n) 22 true []), (31, 31, .row (zrowsT 100 1 n) 22 true [])] (zipA (bO5 (a0 + 1) a1 a2) kO_4_0)) [(300 + i, 2097165, rowO [.int .i64 3])]) (kpOf (zoO l z i))) (zrows 300 1 (i + 1)) := by
      refine zrows_grow (i := i) (fun j hj => ?_) (szs_row hlit (by show 1049403 ≤ zn (300 + i); rw [zn_eq]; omega) (List.mem_singleton.2 rfl) hnd)
      exact szs_zone hlit (zgrow_new hj) (fun p hp e => by rw [List.mem_singleton.1 hp] at e; have e : 300 + i = 300 + j := e; omega)
    show [(some (Blk.row _ _ _ _), true), (some (Blk.row _ _ _ _), true), (some (Blk.row _ _ _ _), true)] = [(some (Blk.row (renL _ _) _ _ _), true), (some (Blk.row (renL _ _) _ _ _), true), (some (Blk.row (renL _ _) _ _ _), true)]
    rw [← e1]
    have k1 := k1
    skip
    rw [k1.1, k1.2]; rfl
theorem litO_5_0 (a0 : Int) (a1 : Int) (a2 : Int) : okLit n0O 2097152 (zipA (bO6 (a0 + 1) a2 a0) kO_5_0) = true := by kernel_rfl
theorem keysO_5_0 (n i : Nat) (a0 : Int) (a1 : Int) (a2 : Int) : nodupQ (lmap (fun p => p.1) (lapp [(n0O, 2097204, .row (zrows 300 1 (i + 1)) 22 true []), (30, 30, .row (zrowsT 0 1 n) 22 true []), (31, 31, .row (zrowsT 100 1 n) 22 true [])] (zipA (bO6 (a0 + 1) a2 a0) kO_5_0))) = true := by kernel_rfl
theorem actsO_5_0 (n i : Nat) (a0 : Int) (a1 : Int) (a2 : Int) : nodupQ (actsOf (lapp [(n0O, 2097204, .row (zrows 300 1 (i + 1)) 22 true []), (30, 30, .row (zrowsT 0 1 n) 22 true []), (31, 31, .row (zrowsT 100 1 n) 22 true [])] (zipA (bO6 (a0 + 1) a2 a0) kO_5_0)) [(300 + i, 2097202, rowO [.int .i64 1])]) = true := by kernel_rfl
theorem absO_5_0 {l : Nat → Bool} {n : Nat} {z : T Blk} (Zs : ZinO l n z) (hn : n ≤ 60) {i : Nat} (hi : i < n) (r : Nat) (a0 : Int) (a1 : Int) (a2 : Int) (hrow : rowO [.int .i64 1] = outO l i) {env : Env} {h : H}
    (ho : obs [6, 7, 16, 17, 71, 72, 73] (actsOf (lapp [(n0O, 2097204, .row (zrows 300 1 (i + 1)) 22 true []), (30, 30, .row (zrowsT 0 1 n) 22 true []), (31, 31, .row (zrowsT 100 1 n) 22 true [])] (zipA (bO6 (a0 + 1) a2 a0) kO_5_0)) [(300 + i, 2097202, rowO [.int .i64 1])]) (lapp [(n0O, 2097204, .row (zrows 300 1 (i + 1)) 22 true []), (30, 30, .row (zrowsT 0 1 n) 22 true []), (31, 31, .row (zrowsT 100 1 n) 22 true [])] (zipA (bO6 (a0 + 1) a2 a0) kO_5_0)) [(300 + i, 2097202, rowO [.int .i64 1])] env h = expsR n0O (kpOf (zoO l z i)) (eO n (ggO r [0]) (.slc n0O 0 (i + 1) (i + 1) false 1) (i + 1)) [(n0O, 2097204, .row (zrows 300 1 (i + 1)) 22 true []), (30, 30, .row (zrowsT 0 1 n) 22 true []), (31, 31, .row (zrowsT 100 1 n) 22 true [])] (zipA (bO6 (a0 + 1) a2 a0) kO_5_0) [(300 + i, 2097202, rowO [.int .i64 1])] (zoO l z i) [(some (.row (lapp (ltake (ldrop (zrows 300 1 i) 0) (Nat.mul i 1)) [.slc 2097202 0 1 1 false 1]) 22 true []), true), (some (.row (zrowsT 0 1 n) 22 true []), true), (some (.row (zrowsT 100 1 n) 22 true []), true)]) :
    ∃ σ, Abs n0O σ (stO l n z (i + 1) (ggO r [0]) (bO6 (a0 + 1) a2 a0)).env (stO l n z (i + 1) (ggO r [0]) (bO6 (a0 + 1) a2 a0)).h env h := by
  have hlit : okLit n0O 2097152 (lapp [(n0O, 2097204, .row (zrows 300 1 (i + 1)) 22 true []), (30, 30, .row (zrowsT 0 1 n) 22 true []), (31, 31, .row (zrowsT 100 1 n) 22 true [])] (zipA (bO6 (a0 + 1) a2 a0) kO_5_0)) = true := okLit_row rfl (belO_O (by omega)) (okLit_row rfl (belO_I hn) (okLit_row rfl (belO_W hn) (litO_5_0 a0 a1 a2)))
  have hZ3 : ∀ p ∈ ([(300 + i, 2097202, rowO [.int .i64 1])] : List (Nat × Nat × Blk)), 300 ≤ p.1 := fun p hp => by rw [List.mem_singleton.1 hp]; show 300 ≤ 300 + i; omega
  have hnd : (([(300 + i, 2097202, rowO [.int .i64 1])] : List (Nat × Nat × Blk)).map (·.1)).Nodup := by simp
  have k1 := keepIO Zs hn (i := i) hlit hZ3
  rw [expsR_eq] at ho
  · exact NewOK.abs (t := stO l n z (i + 1) (ggO r [0]) (bO6 (a0 + 1) a2 a0)) (A := lapp [(n0O, 2097204, .row (zrows 300 1 (i + 1)) 22 true []), (30, 30, .row (zrowsT 0 1 n) 22 true []), (31, 31, .row (zrowsT 100 1 n) 22 true [])] (zipA (bO6 (a0 + 1) a2 a0) kO_5_0)) (Z := [(300 + i, 2097202, rowO [.int .i64 1])]) (z := (zoO l z i))
      ⟨by rw [lmap_app, zipA_B]; rfl, by show T.set (zoO l z i) (outO l i) (300 + i) = T.set (zoO l z i) (rowO [.int .i64 1]) (300 + i); rw [hrow], by show 1049403 ≤ 2097152; decide, by kernel_rfl, hlit, keysO_5_0 n i a0 a1 a2, actsO_5_0 n i a0 a1 a2,
        fun p hp => by
          rw [List.mem_singleton.1 hp]
          refine ⟨by show 1049403 ≤ zn (300 + i); rw [zn_eq]; omega, by show zn (300 + i) < 2097152; rw [zn_eq]; omega, by show 1049403 ≤ 2097202; decide, by show 2097202 < 1000000000000; decide, by show 2097202 % 4096 ≠ 4095; decide, ?_⟩
          exact ⟨[1], 3, true, rfl⟩,
        hnd, zoO_ok Zs (by omega)⟩ rfl rfl rfl rfl ho
  · have e1 : (lapp (ltake (ldrop (zrows 300 1 i) 0) (Nat.mul i 1)) [.slc 2097202 0 1 1 false 1]) = renL (szs n0O (namesOf (lapp [(n0O, 2097204, .row (zrows 300 1 (i + 1)) 22 true []), (30, 30, .row (zrowsT 0 1 n) 22 true []), (31, 31, .row (zrowsT 100 1 n) 22 true [])] (zipA (bO6 (a0 + 1) a2 a0) kO_5_0)) [(300 + i, 2097202, rowO [.int .i64 1])]) (kpOf (zoO l z i))) (zrows 300 1 (i + 1)) := by
      refine zrows_grow (i := i) (fun j hj => ?_) (szs_row hlit (by show 1049403 ≤ zn (300 + i); rw [zn_eq]; omega) (List.mem_singleton.2 rfl) hnd)
      exact szs_zone hlit (zgrow_new hj) (fun p hp e => by rw [List.mem_singleton.1 hp] at e; have e : 300 + i = 300 + j := e; omega)
    show [(some (Blk.row _ _ _ _), true), (some (Blk.row _ _ _ _), true), (some (Blk.row _ _ _ _), true)] = [(some (Blk.row (renL _ _) _ _ _), true), (some (Blk.row (renL _ _) _ _ _), true), (some (Blk.row (renL _ _) _ _ _), true)]
    rw [← e1]
    have k1 := k1
    skip
    rw [k1.1, k1.2]; rfl
theorem litO_6_0 (a0 : Int) (a1 : Int) (a2 : Int) : okLit n0O 2097152 (zipA (bO7 (a0 + 1) 0 a0 a2) kO_6_0) = true := by kernel_rfl
theorem keysO_6_0 (n i : Nat) (a0 : Int) (a1 : Int) (a2 : Int) : nodupQ (lmap (fun p => p.1) (lapp [(n0O, 2097203, .row (zrows 300 1 (i + 1)) 22 true []), (30, 30, .row (zrowsT 0 1 n) 22 true []), (31, 31, .row (zrowsT 100 1 n) 22 true [])] (zipA (bO7 (a0 + 1) 0 a0 a2) kO_6_0))) = true := by kernel_rfl
theorem actsO_6_0 (n i : Nat) (a0 : Int) (a1 : Int) (a2 : Int) : nodupQ (actsOf (lapp [(n0O, 2097203, .row (zrows 300 1 (i + 1)) 22 true []), (30, 30, .row (zrowsT 0 1 n) 22 true []), (31, 31, .row (zrowsT 100 1 n) 22 true [])] (zipA (bO7 (a0 + 1) 0 a0 a2) kO_6_0)) [(300 + i, 2097201, rowO [.int .i64 2])]) = true := by kernel_rfl
theorem absO_6_0 {l : Nat → Bool} {n : Nat} {z : T Blk} (Zs : ZinO l n z) (hn : n ≤ 60) {i : Nat} (hi : i < n) (r : Nat) (a0 : Int) (a1 : Int) (a2 : Int) (hrow : rowO [.int .i64 2] = outO l i) {env : Env} {h : H}
    (ho : obs [6, 7, 16, 17, 71, 72, 73] (actsOf (lapp [(n0O, 2097203, .row (zrows 300 1 (i + 1)) 22 true []), (30, 30, .row (zrowsT 0 1 n) 22 true []), (31, 31, .row (zrowsT 100 1 n) 22 true [])] (zipA (bO7 (a0 + 1) 0 a0 a2) kO_6_0)) [(300 + i, 2097201, rowO [.int .i64 2])]) (lapp [(n0O, 2097203, .row (zrows 300 1 (i + 1)) 22 true []), (30, 30, .row (zrowsT 0 1 n) 22 true []), (31, 31, .row (zrowsT 100 1 n) 22 true [])] (zipA (bO7 (a0 + 1) 0 a0 a2) kO_6_0)) [(300 + i, 2097201, rowO [.int .i64 2])] env h = expsR n0O (kpOf (zoO l z i)) (eO n (ggO r [0]) (.slc n0O 0 (i + 1) (i + 1) false 1) (i + 1)) [(n0O, 2097203, .row (zrows 300 1 (i + 1)) 22 true []), (30, 30, .row (zrowsT 0 1 n) 22 true []), (31, 31, .row (zrowsT 100 1 n) 22 true [])] (zipA (bO7 (a0 + 1) 0 a0 a2) kO_6_0) [(300 + i, 2097201, rowO [.int .i64 2])] (zoO l z i) [(some (.row (lapp (ltake (ldrop (zrows 300 1 i) 0) (Nat.mul i 1)) [.slc 2097201 0 1 1 false 1]) 22 true []), true), (some (.row (zrowsT 0 1 n) 22 true []), true), (some (.row (zrowsT 100 1 n) 22 true []), true)]) :
    ∃ σ, Abs n0O σ (stO l n z (i + 1) (ggO r [0]) (bO7 (a0 + 1) 0 a0 a2)).env (stO l n z (i + 1) (ggO r [0]) (bO7 (a0 + 1) 0 a0 a2)).h env h := by
  have hlit : okLit n0O 2097152 (lapp [(n0O, 2097203, .row (zrows 300 1 (i + 1)) 22 true []), (30, 30, .row (zrowsT 0 1 n) 22 true []), (31, 31, .row (zrowsT 100 1 n) 22 true [])] (zipA (bO7 (a0 + 1) 0 a0 a2) kO_6_0)) = true := okLit_row rfl (belO_O (by omega)) (okLit_row rfl (belO_I hn) (okLit_row rfl (belO_W hn) (litO_6_0 a0 a1 a2)))
  have hZ3 : ∀ p ∈ ([(300 + i, 2097201, rowO [.int .i64 2])] : List (Nat × Nat × Blk)), 300 ≤ p.1 := fun p hp => by rw [List.mem_singleton.1 hp]; show 300 ≤ 300 + i; omega
  have hnd : (([(300 + i, 2097201, rowO [.int .i64 2])] : List (Nat × Nat × Blk)).map (·.1)).Nodup := by simp
  have k1 := keepIO Zs hn (i := i) hlit hZ3
  rw [expsR_eq] at ho
  · exact NewOK.abs (t := stO l n z (i + 1) (ggO r [0]) (bO7 (a0 + 1) 0 a0 a2)) (A := lapp [(n0O, 2097203, .row (zrows 300 1 (i + 1)) 22 true []), (30, 30, .row (zrowsT 0 1 n) 22 true []), (31, 31, .row (zrowsT 100 1 n) 22 true [])] (zipA (bO7 (a0 + 1) 0 a0 a2) kO_6_0)) (Z := [(300 + i, 2097201, rowO [.int .i64 2])]) (z := (zoO l z i))
      ⟨by rw [lmap_app, zipA_B]; rfl, by show T.set (zoO l z i) (outO l i) (300 + i) = T.set (zoO l z i) (rowO [.int .i64 2]) (300 + i); rw [hrow], by show 1049403 ≤ 2097152; decide, by kernel_rfl, hlit, keysO_6_0 n i a0 a1 a2, actsO_6_0 n i a0 a1 a2,
        fun p hp => by
          rw [List.mem_singleton.1 hp]
          refine ⟨by show 1049403 ≤ zn (300 + i); rw [zn_eq]; omega, by show zn (300 + i) < 2097152; rw [zn_eq]; omega, by show 1049403 ≤ 2097201; decide, by show 2097201 < 1000000000000; decide, by show 2097201 % 4096 ≠ 4095; decide, ?_⟩
          exact ⟨[2], 3, true, rfl⟩,
        hnd, zoO_ok Zs (by omega)⟩ rfl rfl rfl rfl ho
  · have e1 : (lapp (ltake (ldrop (zrows 300 1 i) 0) (Nat.mul i 1)) [.slc 2097201 0 1 1 false 1]) = renL (szs n0O (namesOf (lapp [(n0O, 2097203, .row (zrows 300 1 (i + 1)) 22 true []), (30, 30, .row (zrowsT 0 1 n) 22 true []), (31, 31, .row (zrowsT 100 1 n) 22 true [])] (zipA (bO7 (a0 + 1) 0 a0 a2) kO_6_0)) [(300 + i, 2097201, rowO [.int .i64 2])]) (kpOf (zoO l z i))) (zrows 300 1 (i + 1)) := by
      refine zrows_grow (i := i) (fun j hj => ?_) (szs_row hlit (by show 1049403 ≤ zn (300 + i); rw [zn_eq]; omega) (List.mem_singleton.2 rfl) hnd)
      exact szs_zone hlit (zgrow_new hj) (fun p hp e => by rw [List.mem_singleton.1 hp] at e; have e : 300 + i = 300 + j := e; omega)
    show [(some (Blk.row _ _ _ _), true), (some (Blk.row _ _ _ _), true), (some (Blk.row _ _ _ _), true)] = [(some (Blk.row (renL _ _) _ _ _), true), (some (Blk.row (renL _ _) _ _ _), true), (some (Blk.row (renL _ _) _ _ _), true)]
    rw [← e1]
    have k1 := k1
    skip
    rw [k1.1, k1.2]; rfl
theorem litO_7_1 (a0 : Int) (a1 : Int) (a2 : Int) (a3 : Int) : okLit n0O 2097152 (zipA (bO7 (a0 + 1) 1 a2 a3) kO_7_1) = true := by kernel_rfl
theorem keysO_7_1 (n i : Nat) (a0 : Int) (a1 : Int) (a2 : Int) (a3 : Int) : nodupQ (lmap (fun p => p.1) (lapp [(n0O, 2097206, .row (zrows 300 1 (i + 1)) 22 true []), (30, 30, .row (zrowsT 0 1 n) 22 true []), (31, 31, .row (zrowsT 100 1 n) 22 true [])] (zipA (bO7 (a0 + 1) 1 a2 a3) kO_7_1))) = true := by kernel_rfl
theorem actsO_7_1 (n i : Nat) (a0 : Int) (a1 : Int) (a2 : Int) (a3 : Int) : nodupQ (actsOf (lapp [(n0O, 2097206, .row (zrows 300 1 (i + 1)) 22 true []), (30, 30, .row (zrowsT 0 1 n) 22 true []), (31, 31, .row (zrowsT 100 1 n) 22 true [])] (zipA (bO7 (a0 + 1) 1 a2 a3) kO_7_1)) [(300 + i, 2097204, rowO [.int .i64 2])]) = true := by kernel_rfl
theorem absO_7_1 {l : Nat → Bool} {n : Nat} {z : T Blk} (Zs : ZinO l n z) (hn : n ≤ 60) {i : Nat} (hi : i < n) (r : Nat) (a0 : Int) (a1 : Int) (a2 : Int) (a3 : Int) (hrow : rowO [.int .i64 2] = outO l i) {env : Env} {h : H}
    (ho : obs [6, 7, 16, 17, 71, 72, 73] (actsOf (lapp [(n0O, 2097206, .row (zrows 300 1 (i + 1)) 22 true []), (30, 30, .row (zrowsT 0 1 n) 22 true []), (31, 31, .row (zrowsT 100 1 n) 22 true [])] (zipA (bO7 (a0 + 1) 1 a2 a3) kO_7_1)) [(300 + i, 2097204, rowO [.int .i64 2])]) (lapp [(n0O, 2097206, .row (zrows 300 1 (i + 1)) 22 true []), (30, 30, .row (zrowsT 0 1 n) 22 true []), (31, 31, .row (zrowsT 100 1 n) 22 true [])] (zipA (bO7 (a0 + 1) 1 a2 a3) kO_7_1)) [(300 + i, 2097204, rowO [.int .i64 2])] env h = expsR n0O (kpOf (zoO l z i)) (eO n (ggO r [1]) (.slc n0O 0 (i + 1) (i + 1) false 1) (i + 1)) [(n0O, 2097206, .row (zrows 300 1 (i + 1)) 22 true []), (30, 30, .row (zrowsT 0 1 n) 22 true []), (31, 31, .row (zrowsT 100 1 n) 22 true [])] (zipA (bO7 (a0 + 1) 1 a2 a3) kO_7_1) [(300 + i, 2097204, rowO [.int .i64 2])] (zoO l z i) [(some (.row (lapp (ltake (ldrop (zrows 300 1 i) 0) (Nat.mul i 1)) [.slc 2097204 0 1 1 false 1]) 22 true []), true), (some (.row (zrowsT 0 1 n) 22 true []), true), (some (.row (zrowsT 100 1 n) 22 true []), true)]) :
    ∃ σ, Abs n0O σ (stO l n z (i + 1) (ggO r [1]) (bO7 (a0 + 1) 1 a2 a3)).env (stO l n z (i + 1) (ggO r [1]) (bO7 (a0 + 1) 1 a2 a3)).h env h := by
  have hlit : okLit n0O 2097152 (lapp [(n0O, 2097206, .row (zrows 300 1 (i + 1)) 22 true []), (30, 30, .row (zrowsT 0 1 n) 22 true []), (31, 31, .row (zrowsT 100 1 n) 22 true [])] (zipA (bO7 (a0 + 1) 1 a2 a3) kO_7_1)) = true := okLit_row rfl (belO_O (by omega)) (okLit_row rfl (belO_I hn) (okLit_row rfl (belO_W hn) (litO_7_1 a0 a1 a2 a3)))
  have hZ3 : ∀ p ∈ ([(300 + i, 2097204, rowO [.int .i64 2])] : List (Nat × Nat × Blk)), 300 ≤ p.1 := fun p hp => by rw [List.mem_singleton.1 hp]; show 300 ≤ 300 + i; omega
  have hnd : (([(300 + i, 2097204, rowO [.int .i64 2])] : List (Nat × Nat × Blk)).map (·.1)).Nodup := by simp
  have k1 := keepIO Zs hn (i := i) hlit hZ3
  rw [expsR_eq] at ho
  · exact NewOK.abs (t := stO l n z (i + 1) (ggO r [1]) (bO7 (a0 + 1) 1 a2 a3)) (A := lapp [(n0O, 2097206, .row (zrows 300 1 (i + 1)) 22 true []), (30, 30, .row (zrowsT 0 1 n) 22 true []), (31, 31, .row (zrowsT 100 1 n) 22 true [])] (zipA (bO7 (a0 + 1) 1 a2 a3) kO_7_1)) (Z := [(300 + i, 2097204, rowO [.int .i64 2])]) (z := (zoO l z i))
      ⟨by rw [lmap_app, zipA_B]; rfl, by show T.set (zoO l z i) (outO l i) (300 + i) = T.set (zoO l z i) (rowO [.int .i64 2]) (300 + i); rw [hrow], by show 1049403 ≤ 2097152; decide, by kernel_rfl, hlit, keysO_7_1 n i a0 a1 a2 a3, actsO_7_1 n i a0 a1 a2 a3,
        fun p hp => by
          rw [List.mem_singleton.1 hp]
          refine ⟨by show 1049403 ≤ zn (300 + i); rw [zn_eq]; omega, by show zn (300 + i) < 2097152; rw [zn_eq]; omega, by show 1049403 ≤ 2097204; decide, by show 2097204 < 1000000000000; decide, by show 2097204 % 4096 ≠ 4095; decide, ?_⟩
          exact ⟨[2], 3, true, rfl⟩,
        hnd, zoO_ok Zs (by omega)⟩ rfl rfl rfl rfl ho
  · have e1 : (lapp (ltake (ldrop (zrows 300 1 i) 0) (Nat.mul i 1)) [.slc 2097204 0 1 1 false 1]) = renL (szs n0O (namesOf (lapp [(n0O, 2097206, .row (zrows 300 1 (i + 1)) 22 true []), (30, 30, .row (zrowsT 0 1 n) 22 true []), (31, 31, .row (zrowsT 100 1 n) 22 true [])] (zipA (bO7 (a0 + 1) 1 a2 a3) kO_7_1)) [(300 + i, 2097204, rowO [.int .i64 2])]) (kpOf (zoO l z i))) (zrows 300 1 (i + 1)) := by
      refine zrows_grow (i := i) (fun j hj => ?_) (szs_row hlit (by show 1049403 ≤ zn (300 + i); rw [zn_eq]; omega) (List.mem_singleton.2 rfl) hnd)
      exact szs_zone hlit (zgrow_new hj) (fun p hp e => by rw [List.mem_singleton.1 hp] at e; have e : 300 + i = 300 + j := e; omega)
    show [(some (Blk.row _ _ _ _), true), (some (Blk.row _ _ _ _), true), (some (Blk.row _ _ _ _), true)] = [(some (Blk.row (renL _ _) _ _ _), true), (some (Blk.row (renL _ _) _ _ _), true), (some (Blk.row (renL _ _) _ _ _), true)]
    rw [← e1]
    have k1 := k1
    skip
    rw [k1.1, k1.2]; rfl
theorem litO_7_0 (a0 : Int) (a1 : Int) (a2 : Int) (a3 : Int) : okLit n0O 2097152 (zipA (bO6 (a0 + 1) a0 a3) kO_7_0) = true := by kernel_rfl
theorem keysO_7_0 (n i : Nat) (a0 : Int) (a1 : Int) (a2 : Int) (a3 : Int) : nodupQ (lmap (fun p => p.1) (lapp [(n0O, 2097204, .row (zrows 300 1 (i + 1)) 22 true []), (30, 30, .row (zrowsT 0 1 n) 22 true []), (31, 31, .row (zrowsT 100 1 n) 22 true [])] (zipA (bO6 (a0 + 1) a0 a3) kO_7_0))) = true := by kernel_rfl
theorem actsO_7_0 (n i : Nat) (a0 : Int) (a1 : Int) (a2 : Int) (a3 : Int) : nodupQ (actsOf (lapp [(n0O, 2097204, .row (zrows 300 1 (i + 1)) 22 true []), (30, 30, .row (zrowsT 0 1 n) 22 true []), (31, 31, .row (zrowsT 100 1 n) 22 true [])] (zipA (bO6 (a0 + 1) a0 a3) kO_7_0)) [(300 + i, 2097202, rowO [.int .i64 1])]) = true := by kernel_rfl
theorem absO_7_0 {l : Nat → Bool} {n : Nat} {z : T Blk} (Zs : ZinO l n z) (hn : n ≤ 60) {i : Nat} (hi : i < n) (r : Nat) (a0 : Int) (a1 : Int) (a2 : Int) (a3 : Int) (hrow : rowO [.int .i64 1] = outO l i) {env : Env} {h : H}
    (ho : obs [6, 7, 16, 17, 71, 72, 73] (actsOf (lapp [(n0O, 2097204, .row (zrows 300 1 (i + 1)) 22 true []), (30, 30, .row (zrowsT 0 1 n) 22 true []), (31, 31, .row (zrowsT 100 1 n) 22 true [])] (zipA (bO6 (a0 + 1) a0 a3) kO_7_0)) [(300 + i, 2097202, rowO [.int .i64 1])]) (lapp [(n0O, 2097204, .row (zrows 300 1 (i + 1)) 22 true []), (30, 30, .row (zrowsT 0 1 n) 22 true []), (31, 31, .row (zrowsT 100 1 n) 22 true [])] (zipA (bO6 (a0 + 1) a0 a3) kO_7_0)) [(300 + i, 2097202, rowO [.int .i64 1])] env h = expsR n0O (kpOf (zoO l z i)) (eO n (ggO r [0]) (.slc n0O 0 (i + 1) (i + 1) false 1) (i + 1)) [(n0O, 2097204, .row (zrows 300 1 (i + 1)) 22 true []), (30, 30, .row (zrowsT 0 1 n) 22 true []), (31, 31, .row (zrowsT 100 1 n) 22 true [])] (zipA (bO6 (a0 + 1) a0 a3) kO_7_0) [(300 + i, 2097202, rowO [.int .i64 1])] (zoO l z i) [(some (.row (lapp (ltake (ldrop (zrows 300 1 i) 0) (Nat.mul i 1)) [.slc 2097202 0 1 1 false 1]) 22 true []), true), (some (.row (zrowsT 0 1 n) 22 true []), true), (some (.row (zrowsT 100 1 n) 22 true []), true)]) :
    ∃ σ, Abs n0O σ (stO l n z (i + 1) (ggO r [0]) (bO6 (a0 + 1) a0 a3)).env (stO l n z (i + 1) (ggO r [0]) (bO6 (a0 + 1) a0 a3)).h env h := by
  have hlit : okLit n0O 2097152 (lapp [(n0O, 2097204, .row (zrows 300 1 (i + 1)) 22 true []), (30, 30, .row (zrowsT 0 1 n) 22 true []), (31, 31, .row (zrowsT 100 1 n) 22 true [])] (zipA (bO6 (a0 + 1) a0 a3) kO_7_0)) = true := okLit_row rfl (belO_O (by omega)) (okLit_row rfl (belO_I hn) (okLit_row rfl (belO_W hn) (litO_7_0 a0 a1 a2 a3)))
  have hZ3 : ∀ p ∈ ([(300 + i, 2097202, rowO [.int .i64 1])] : List (Nat × Nat × Blk)), 300 ≤ p.1 := fun p hp => by rw [List.mem_singleton.1 hp]; show 300 ≤ 300 + i; omega
  have hnd : (([(300 + i, 2097202, rowO [.int .i64 1])] : List (Nat × Nat × Blk)).map (·.1)).Nodup := by simp
  have k1 := keepIO Zs hn (i := i) hlit hZ3
  rw [expsR_eq] at ho
  · exact NewOK.abs (t := stO l n z (i + 1) (ggO r [0]) (bO6 (a0 + 1) a0 a3)) (A := lapp [(n0O, 2097204, .row (zrows 300 1 (i + 1)) 22 true []), (30, 30, .row (zrowsT 0 1 n) 22 true []), (31, 31, .row (zrowsT 100 1 n) 22 true [])] (zipA (bO6 (a0 + 1) a0 a3) kO_7_0)) (Z := [(300 + i, 2097202, rowO [.int .i64 1])]) (z := (zoO l z i))
      ⟨by rw [lmap_app, zipA_B]; rfl, by show T.set (zoO l z i) (outO l i) (300 + i) = T.set (zoO l z i) (rowO [.int .i64 1]) (300 + i); rw [hrow], by show 1049403 ≤ 2097152; decide, by kernel_rfl, hlit, keysO_7_0 n i a0 a1 a2 a3, actsO_7_0 n i a0 a1 a2 a3,
        fun p hp => by
          rw [List.mem_singleton.1 hp]
          refine ⟨by show 1049403 ≤ zn (300 + i); rw [zn_eq]; omega, by show zn (300 + i) < 2097152; rw [zn_eq]; omega, by show 1049403 ≤ 2097202; decide, by show 2097202 < 1000000000000; decide, by show 2097202 % 4096 ≠ 4095; decide, ?_⟩
          exact ⟨[1], 3, true, rfl⟩,
        hnd, zoO_ok Zs (by omega)⟩ rfl rfl rfl rfl ho
  · have e1 : (lapp (ltake (ldrop (zrows 300 1 i) 0) (Nat.mul i 1)) [.slc 2097202 0 1 1 false 1]) = renL (szs n0O (namesOf (lapp [(n0O, 2097204, .row (zrows 300 1 (i + 1)) 22 true []), (30, 30, .row (zrowsT 0 1 n) 22 true []), (31, 31, .row (zrowsT 100 1 n) 22 true [])] (zipA (bO6 (a0 + 1) a0 a3) kO_7_0)) [(300 + i, 2097202, rowO [.int .i64 1])]) (kpOf (zoO l z i))) (zrows 300 1 (i + 1)) := by
      refine zrows_grow (i := i) (fun j hj => ?_) (szs_row hlit (by show 1049403 ≤ zn (300 + i); rw [zn_eq]; omega) (List.mem_singleton.2 rfl) hnd)
      exact szs_zone hlit (zgrow_new hj) (fun p hp e => by rw [List.mem_singleton.1 hp] at e; have e : 300 + i = 300 + j := e; omega)
    show [(some (Blk.row _ _ _ _), true), (some (Blk.row _ _ _ _), true), (some (Blk.row _ _ _ _), true)] = [(some (Blk.row (renL _ _) _ _ _), true), (some (Blk.row (renL _ _) _ _ _), true), (some (Blk.row (renL _ _) _ _ _), true)]
    rw [← e1]
    have k1 := k1
    skip
    rw [k1.1, k1.2]; rfl
theorem litO_6_1 (a0 : Int) (a1 : Int) (a2 : Int) : okLit n0O 2097152 (zipA (bO4 (a0 + 1) a0 a1) kO_6_1) = true := by kernel_rfl
theorem keysO_6_1 (n i : Nat) (a0 : Int) (a1 : Int) (a2 : Int) : nodupQ (lmap (fun p => p.1) (lapp [(n0O, 2097219, .row (zrows 300 1 (i + 1)) 22 true []), (30, 30, .row (zrowsT 0 1 n) 22 true []), (31, 31, .row (zrowsT 100 1 n) 22 true [])] (zipA (bO4 (a0 + 1) a0 a1) kO_6_1))) = true := by kernel_rfl
theorem actsO_6_1 (n i : Nat) (a0 : Int) (a1 : Int) (a2 : Int) : nodupQ (actsOf (lapp [(n0O, 2097219, .row (zrows 300 1 (i + 1)) 22 true []), (30, 30, .row (zrowsT 0 1 n) 22 true []), (31, 31, .row (zrowsT 100 1 n) 22 true [])] (zipA (bO4 (a0 + 1) a0 a1) kO_6_1)) [(300 + i, 2097217, rowO [.int .i64 3])]) = true := by kernel_rfl
theorem absO_6_1 {l : Nat → Bool} {n : Nat} {z : T Blk} (Zs : ZinO l n z) (hn : n ≤ 60) {i : Nat} (hi : i < n) (r : Nat) (a0 : Int) (a1 : Int) (a2 : Int) (hrow : rowO [.int .i64 3] = outO l i) {env : Env} {h : H}
    (ho : obs [6, 7, 16, 17, 71, 72, 73] (actsOf (lapp [(n0O, 2097219, .row (zrows 300 1 (i + 1)) 22 true []), (30, 30, .row (zrowsT 0 1 n) 22 true []), (31, 31, .row (zrowsT 100 1 n) 22 true [])] (zipA (bO4 (a0 + 1) a0 a1) kO_6_1)) [(300 + i, 2097217, rowO [.int .i64 3])]) (lapp [(n0O, 2097219, .row (zrows 300 1 (i + 1)) 22 true []), (30, 30, .row (zrowsT 0 1 n) 22 true []), (31, 31, .row (zrowsT 100 1 n) 22 true [])] (zipA (bO4 (a0 + 1) a0 a1) kO_6_1)) [(300 + i, 2097217, rowO [.int .i64 3])] env h = expsR n0O (kpOf (zoO l z i)) (eO n (ggO r [1]) (.slc n0O 0 (i + 1) (i + 1) false 1) (i + 1)) [(n0O, 2097219, .row (zrows 300 1 (i + 1)) 22 true []), (30, 30, .row (zrowsT 0 1 n) 22 true []), (31, 31, .row (zrowsT 100 1 n) 22 true [])] (zipA (bO4 (a0 + 1) a0 a1) kO_6_1) [(300 + i, 2097217, rowO [.int .i64 3])] (zoO l z i) [(some (.row (lapp (ltake (ldrop (zrows 300 1 i) 0) (Nat.mul i 1)) [.slc 2097217 0 1 1 false 1]) 22 true []), true), (some (.row (zrowsT 0 1 n) 22 true []), true), (some (.row (zrowsT 100 1 n) 22 true []), true)]) :
    ∃ σ, Abs n0O σ (stO l n z (i + 1) (ggO r [1]) (bO4 (a0 + 1) a0 a1)).env (stO l n z (i + 1) (ggO r [1]) (bO4 (a0 + 1) a0 a1)).h env h := by
  have hlit : okLit n0O 2097152 (lapp [(n0O, 2097219, .row (zrows 300 1 (i + 1)) 22 true []), (30, 30, .row (zrowsT 0 1 n) 22 true []), (31, 31, .row (zrowsT 100 1 n) 22 true [])] (zipA (bO4 (a0 + 1) a0 a1) kO_6_1)) = true := okLit_row rfl (belO_O (by omega)) (okLit_row rfl (belO_I hn) (okLit_row rfl (belO_W hn) (litO_6_1 a0 a1 a2)))
  have hZ3 : ∀ p ∈ ([(300 + i, 2097217, rowO [.int .i64 3])] : List (Nat × Nat × Blk)), 300 ≤ p.1 := fun p hp => by rw [List.mem_singleton.1 hp]; show 300 ≤ 300 + i; omega
  have hnd : (([(300 + i, 2097217, rowO [.int .i64 3])] : List (Nat × Nat × Blk)).map (·.1)).Nodup := by simp
  have k1 := keepIO Zs hn (i := i) hlit hZ3
  rw [expsR_eq] at ho
  · exact NewOK.abs (t := stO l n z (i + 1) (ggO r [1]) (bO4 (a0 + 1) a0 a1)) (A := lapp [(n0O, 2097219, .row (zrows 300 1 (i + 1)) 22 true []), (30, 30, .row (zrowsT 0 1 n) 22 true []), (31, 31, .row (zrowsT 100 1 n) 22 true [])] (zipA (bO4 (a0 + 1) a0 a1) kO_6_1)) (Z := [(300 + i, 2097217, rowO [.int .i64 3])]) (z := (zoO l z i))
      ⟨by rw [lmap_app, zipA_B]; rfl, by show T.set (zoO l z i) (outO l i) (300 + i) = T.set (zoO l z i) (rowO [.int .i64 3]) (300 + i); rw [hrow], by show 1049403 ≤ 2097152; decide, by kernel_rfl, hlit, keysO_6_1 n i a0 a1 a2, actsO_6_1 n i a0 a1 a2,
        fun p hp => by
          rw [List.mem_singleton.1 hp]
          refine ⟨by show 1049403 ≤ zn (300 + i); rw [zn_eq]; omega, by show zn (300 + i) < 2097152; rw [zn_eq]; omega, by show 1049403 ≤ 2097217; decide, by show 2097217 < 1000000000000; decide, by show 2097217 % 4096 ≠ 4095; decide, ?_⟩
          exact ⟨[3], 3, true, rfl⟩,
        hnd, zoO_ok Zs (by omega)⟩ rfl rfl rfl rfl ho
  · have e1 : (lapp (ltake (ldrop (zrows 300 1 i) 0) (Nat.mul i 1)) [.slc 2097217 0 1 1 false 1]) = renL (szs n0O (namesOf (lapp [(n0O, 2097219, .row (zrows 300 1 (i + 1)) 22 true []), (30, 30, .row (zrowsT 0 1 n) 22 true []), (31, 31, .row (zrowsT 100 1 n) 22 true [])] (zipA (bO4 (a0 + 1) a0 a1) kO_6_1)) [(300 + i, 2097217, rowO [.int .i64 3])]) (kpOf (zoO l z i))) (zrows 300 1 (i + 1)) := by
      refine zrows_grow (i := i) (fun j hj => ?_) (szs_row hlit (by show 1049403 ≤ zn (300 + i); rw [zn_eq]; omega) (List.mem_singleton.2 rfl) hnd)
      exact szs_zone hlit (zgrow_new hj) (fun p hp e => by rw [List.mem_singleton.1 hp] at e; have e : 300 + i = 300 + j := e; omega)
    show [(some (Blk.row _ _ _ _), true), (some (Blk.row _ _ _ _), true), (some (Blk.row _ _ _ _), true)] = [(some (Blk.row (renL _ _) _ _ _), true), (some (Blk.row (renL _ _) _ _ _), true), (some (Blk.row (renL _ _) _ _ _), true)]
    rw [← e1]
    have k1 := k1
    skip
    rw [k1.1, k1.2]; rfl
theorem litO_0_1 : okLit n0O 2097152 (zipA (bO8 1) kO_0_1) = true := by kernel_rfl
theorem keysO_0_1 (n : Nat) : nodupQ (lmap (fun p => p.1) (lapp [(n0O, 1049457, .row (zrows 300 1 1) 22 true []), (30, 30, .row (zrowsT 0 1 n) 22 true []), (31, 31, .row (zrowsT 100 1 n) 22 true [])] (zipA (bO8 1) kO_0_1))) = true := by kernel_rfl
theorem actsO_0_1 (n : Nat) : nodupQ (actsOf (lapp [(n0O, 1049457, .row (zrows 300 1 1) 22 true []), (30, 30, .row (zrowsT 0 1 n) 22 true []), (31, 31, .row (zrowsT 100 1 n) 22 true [])] (zipA (bO8 1) kO_0_1)) [(300, 1049455, rowO [.int .i64 2])]) = true := by kernel_rfl
theorem absO_0_1 {l : Nat → Bool} {n : Nat} {z : T Blk} (Zs : ZinO l n z) (hn : n ≤ 60) (hi : 0 < n) (r : Nat) (hrow : rowO [.int .i64 2] = outO l 0) {env : Env} {h : H}
    (ho : obs [6, 7, 16, 17, 71, 72, 73] (actsOf (lapp [(n0O, 1049457, .row (zrows 300 1 1) 22 true []), (30, 30, .row (zrowsT 0 1 n) 22 true []), (31, 31, .row (zrowsT 100 1 n) 22 true [])] (zipA (bO8 1) kO_0_1)) [(300, 1049455, rowO [.int .i64 2])]) (lapp [(n0O, 1049457, .row (zrows 300 1 1) 22 true []), (30, 30, .row (zrowsT 0 1 n) 22 true []), (31, 31, .row (zrowsT 100 1 n) 22 true [])] (zipA (bO8 1) kO_0_1)) [(300, 1049455, rowO [.int .i64 2])] env h = expsR n0O (kpOf z) (eO n (ggO r [1]) (.slc n0O 0 1 1 false 1) 1) [(n0O, 1049457, .row (zrows 300 1 1) 22 true []), (30, 30, .row (zrowsT 0 1 n) 22 true []), (31, 31, .row (zrowsT 100 1 n) 22 true [])] (zipA (bO8 1) kO_0_1) [(300, 1049455, rowO [.int .i64 2])] z [(some (.row [.slc 1049455 0 1 1 false 1] 22 true []), true), (some (.row (zrowsT 0 1 n) 22 true []), true), (some (.row (zrowsT 100 1 n) 22 true []), true)]) :
    ∃ σ, Abs n0O σ (stO l n z 1 (ggO r [1]) (bO8 1)).env (stO l n z 1 (ggO r [1]) (bO8 1)).h env h := by
  have hlit : okLit n0O 2097152 (lapp [(n0O, 1049457, .row (zrows 300 1 1) 22 true []), (30, 30, .row (zrowsT 0 1 n) 22 true []), (31, 31, .row (zrowsT 100 1 n) 22 true [])] (zipA (bO8 1) kO_0_1)) = true := okLit_row rfl (belO_O (by omega)) (okLit_row rfl (belO_I hn) (okLit_row rfl (belO_W hn) (litO_0_1)))
  have hZ3 : ∀ p ∈ ([(300, 1049455, rowO [.int .i64 2])] : List (Nat × Nat × Blk)), 300 ≤ p.1 := fun p hp => by rw [List.mem_singleton.1 hp]; show 300 ≤ 300; omega
  have hnd : (([(300, 1049455, rowO [.int .i64 2])] : List (Nat × Nat × Blk)).map (·.1)).Nodup := by simp
  have k1 := keepIO Zs hn (i := 0) hlit hZ3
  rw [expsR_eq] at ho
  · exact NewOK.abs (t := stO l n z 1 (ggO r [1]) (bO8 1)) (A := lapp [(n0O, 1049457, .row (zrows 300 1 1) 22 true []), (30, 30, .row (zrowsT 0 1 n) 22 true []), (31, 31, .row (zrowsT 100 1 n) 22 true [])] (zipA (bO8 1) kO_0_1)) (Z := [(300, 1049455, rowO [.int .i64 2])]) (z := z)
      ⟨by rw [lmap_app, zipA_B]; rfl, by show T.set z (outO l 0) (300 + 0) = T.set z (rowO [.int .i64 2]) 300; rw [hrow], by show 1049403 ≤ 2097152; decide, by kernel_rfl, hlit, keysO_0_1 n, actsO_0_1 n,
        fun p hp => by
          rw [List.mem_singleton.1 hp]
          refine ⟨by show 1049403 ≤ zn 300; rw [zn_eq]; omega, by show zn 300 < 2097152; rw [zn_eq]; omega, by show 1049403 ≤ 1049455; decide, by show 1049455 < 1000000000000; decide, by show 1049455 % 4096 ≠ 4095; decide, ?_⟩
          exact ⟨[2], 3, true, rfl⟩,
        hnd, by have := zoO_ok Zs (i := 0) (by omega); exact this⟩ rfl rfl rfl rfl ho
  · have e1 : [.slc 1049455 0 1 1 false 1] = renL (szs n0O (namesOf (lapp [(n0O, 1049457, .row (zrows 300 1 1) 22 true []), (30, 30, .row (zrowsT 0 1 n) 22 true []), (31, 31, .row (zrowsT 100 1 n) 22 true [])] (zipA (bO8 1) kO_0_1)) [(300, 1049455, rowO [.int .i64 2])]) (kpOf z)) (zrows 300 1 1) := by
      refine zrows_grow (i := 0) (fun j hj => ?_) (szs_row hlit (by show 1049403 ≤ zn (300 + 0); rw [zn_eq]; omega) (List.mem_singleton.2 rfl) hnd)
      omega
    show [(some (Blk.row _ _ _ _), true), (some (Blk.row _ _ _ _), true), (some (Blk.row _ _ _ _), true)] = [(some (Blk.row (renL _ _) _ _ _), true), (some (Blk.row (renL _ _) _ _ _), true), (some (Blk.row (renL _ _) _ _ _), true)]
    rw [← e1]
    have k1 := k1
    change renL (szs n0O (namesOf _ _) (kpOf z)) _ = _ ∧ renL (szs n0O (namesOf _ _) (kpOf z)) _ = _ at k1
    rw [k1.1, k1.2]; rfl
theorem litO_8_0 (a0 : Int) : okLit n0O 2097152 (zipA (bO3 (a0 + 1) a0) kO_8_0) = true := by kernel_rfl
theorem keysO_8_0 (n i : Nat) (a0 : Int) : nodupQ (lmap (fun p => p.1) (lapp [(n0O, 2097204, .row (zrows 300 1 (i + 1)) 22 true []), (30, 30, .row (zrowsT 0 1 n) 22 true []), (31, 31, .row (zrowsT 100 1 n) 22 true [])] (zipA (bO3 (a0 + 1) a0) kO_8_0))) = true := by kernel_rfl
theorem actsO_8_0 (n i : Nat) (a0 : Int) : nodupQ (actsOf (lapp [(n0O, 2097204, .row (zrows 300 1 (i + 1)) 22 true []), (30, 30, .row (zrowsT 0 1 n) 22 true []), (31, 31, .row (zrowsT 100 1 n) 22 true [])] (zipA (bO3 (a0 + 1) a0) kO_8_0)) [(300 + i, 2097202, rowO [.int .i64 1])]) = true := by kernel_rfl
theorem absO_8_0 {l : Nat → Bool} {n : Nat} {z : T Blk} (Zs : ZinO l n z) (hn : n ≤ 60) {i : Nat} (hi : i < n) (r : Nat) (a0 : Int) (hrow : rowO [.int .i64 1] = outO l i) {env : Env} {h : H}
    (ho : obs [6, 7, 16, 17, 71, 72, 73] (actsOf (lapp [(n0O, 2097204, .row (zrows 300 1 (i + 1)) 22 true []), (30, 30, .row (zrowsT 0 1 n) 22 true []), (31, 31, .row (zrowsT 100 1 n) 22 true [])] (zipA (bO3 (a0 + 1) a0) kO_8_0)) [(300 + i, 2097202, rowO [.int .i64 1])]) (lapp [(n0O, 2097204, .row (zrows 300 1 (i + 1)) 22 true []), (30, 30, .row (zrowsT 0 1 n) 22 true []), (31, 31, .row (zrowsT 100 1 n) 22 true [])] (zipA (bO3 (a0 + 1) a0) kO_8_0)) [(300 + i, 2097202, rowO [.int .i64 1])] env h = expsR n0O (kpOf (zoO l z i)) (eO n (ggO r [0]) (.slc n0O 0 (i + 1) (i + 1) false 1) (i + 1)) [(n0O, 2097204, .row (zrows 300 1 (i + 1)) 22 true []), (30, 30, .row (zrowsT 0 1 n) 22 true []), (31, 31, .row (zrowsT 100 1 n) 22 true [])] (zipA (bO3 (a0 + 1) a0) kO_8_0) [(300 + i, 2097202, rowO [.int .i64 1])] (zoO l z i) [(some (.row (lapp (ltake (ldrop (zrows 300 1 i) 0) (Nat.mul i 1)) [.slc 2097202 0 1 1 false 1]) 22 true []), true), (some (.row (zrowsT 0 1 n) 22 true []), true), (some (.row (zrowsT 100 1 n) 22 true []), true)]) :
    ∃ σ, Abs n0O σ (stO l n z (i + 1) (ggO r [0]) (bO3 (a0 + 1) a0)).env (stO l n z (i + 1) (ggO r [0]) (bO3 (a0 + 1) a0)).h env h := by
  have hlit : okLit n0O 2097152 (lapp [(n0O, 2097204, .row (zrows 300 1 (i + 1)) 22 true []), (30, 30, .row (zrowsT 0 1 n) 22 true []), (31, 31, .row (zrowsT 100 1 n) 22 true [])] (zipA (bO3 (a0 + 1) a0) kO_8_0)) = true := okLit_row rfl (belO_O (by omega)) (okLit_row rfl (belO_I hn) (okLit_row rfl (belO_W hn) (litO_8_0 a0)))
  have hZ3 : ∀ p ∈ ([(300 + i, 2097202, rowO [.int .i64 1])] : List (Nat × Nat × Blk)), 300 ≤ p.1 := fun p hp => by rw [List.mem_singleton.1 hp]; show 300 ≤ 300 + i; omega
  have hnd : (([(300 + i, 2097202, rowO [.int .i64 1])] : List (Nat × Nat × Blk)).map (·.1)).Nodup := by simp
  have k1 := keepIO Zs hn (i := i) hlit hZ3
  rw [expsR_eq] at ho
  · exact NewOK.abs (t := stO l n z (i + 1) (ggO r [0]) (bO3 (a0 + 1) a0)) (A := lapp [(n0O, 2097204, .row (zrows 300 1 (i + 1)) 22 true []), (30, 30, .row (zrowsT 0 1 n) 22 true []), (31, 31, .row (zrowsT 100 1 n) 22 true [])] (zipA (bO3 (a0 + 1) a0) kO_8_0)) (Z := [(300 + i, 2097202, rowO [.int .i64 1])]) (z := (zoO l z i))
      ⟨by rw [lmap_app, zipA_B]; rfl, by show T.set (zoO l z i) (outO l i) (300 + i) = T.set (zoO l z i) (rowO [.int .i64 1]) (300 + i); rw [hrow], by show 1049403 ≤ 2097152; decide, by kernel_rfl, hlit, keysO_8_0 n i a0, actsO_8_0 n i a0,
        fun p hp => by
          rw [List.mem_singleton.1 hp]
          refine ⟨by show 1049403 ≤ zn (300 + i); rw [zn_eq]; omega, by show zn (300 + i) < 2097152; rw [zn_eq]; omega, by show 1049403 ≤ 2097202; decide, by show 2097202 < 1000000000000; decide, by show 2097202 % 4096 ≠ 4095; decide, ?_⟩
          exact ⟨[1], 3, true, rfl⟩,
        hnd, zoO_ok Zs (by omega)⟩ rfl rfl rfl rfl ho
  · have e1 : (lapp (ltake (ldrop (zrows 300 1 i) 0) (Nat.mul i 1)) [.slc 2097202 0 1 1 false 1]) = renL (szs n0O (namesOf (lapp [(n0O, 2097204, .row (zrows 300 1 (i + 1)) 22 true []), (30, 30, .row (zrowsT 0 1 n) 22 true []), (31, 31, .row (zrowsT 100 1 n) 22 true [])] (zipA (bO3 (a0 + 1) a0) kO_8_0)) [(300 + i, 2097202, rowO [.int .i64 1])]) (kpOf (zoO l z i))) (zrows 300 1 (i + 1)) := by
      refine zrows_grow (i := i) (fun j hj => ?_) (szs_row hlit (by show 1049403 ≤ zn (300 + i); rw [zn_eq]; omega) (List.mem_singleton.2 rfl) hnd)
      exact szs_zone hlit (zgrow_new hj) (fun p hp e => by rw [List.mem_singleton.1 hp] at e; have e : 300 + i = 300 + j := e; omega)
    show [(some (Blk.row _ _ _ _), true), (some (Blk.row _ _ _ _), true), (some (Blk.row _ _ _ _), true)] = [(some (Blk.row (renL _ _) _ _ _), true), (some (Blk.row (renL _ _) _ _ _), true), (some (Blk.row (renL _ _) _ _ _), true)]
    rw [← e1]
    have k1 := k1
    skip
    rw [k1.1, k1.2]; rfl
theorem litO_5_1 (a0 : Int) (a1 : Int) (a2 : Int) : okLit n0O 2097152 (zipA (bO7 (a0 + 1) 1 a1 a0) kO_5_1) = true := by kernel_rfl
theorem keysO_5_1 (n i : Nat) (a0 : Int) (a1 : Int) (a2 : Int) : nodupQ (lmap (fun p => p.1) (lapp [(n0O, 2097206, .row (zrows 300 1 (i + 1)) 22 true []), (30, 30, .row (zrowsT 0 1 n) 22 true []), (31, 31, .row (zrowsT 100 1 n) 22 true [])] (zipA (bO7 (a0 + 1) 1 a1 a0) kO_5_1))) = true := by kernel_rfl
theorem actsO_5_1 (n i : Nat) (a0 : Int) (a1 : Int) (a2 : Int) : nodupQ (actsOf (lapp [(n0O, 2097206, .row (zrows 300 1 (i + 1)) 22 true []), (30, 30, .row (zrowsT 0 1 n) 22 true []), (31, 31, .row (zrowsT 100 1 n) 22 true [])] (zipA (bO7 (a0 + 1) 1 a1 a0) kO_5_1)) [(300 + i, 2097204, rowO [.int .i64 2])]) = true := by kernel_rfl
theorem absO_5_1 {l : Nat → Bool} {n : Nat} {z : T Blk} (Zs : ZinO l n z) (hn : n ≤ 60) {i : Nat} (hi : i < n) (r : Nat) (a0 : Int) (a1 : Int) (a2 : Int) (hrow : rowO [.int .i64 2] = outO l i) {env : Env} {h : H}
    (ho : obs [6, 7, 16, 17, 71, 72, 73] (actsOf (lapp [(n0O, 2097206, .row (zrows 300 1 (i + 1)) 22 true []), (30, 30, .row (zrowsT 0 1 n) 22 true []), (31, 31, .row (zrowsT 100 1 n) 22 true [])] (zipA (bO7 (a0 + 1) 1 a1 a0) kO_5_1)) [(300 + i, 2097204, rowO [.int .i64 2])]) (lapp [(n0O, 2097206, .row (zrows 300 1 (i + 1)) 22 true []), (30, 30, .row (zrowsT 0 1 n) 22 true []), (31, 31, .row (zrowsT 100 1 n) 22 true [])] (zipA (bO7 (a0 + 1) 1 a1 a0) kO_5_1)) [(300 + i, 2097204, rowO [.int .i64 2])] env h = expsR n0O (kpOf (zoO l z i)) (eO n (ggO r [1]) (.slc n0O 0 (i + 1) (i + 1) false 1) (i + 1)) [(n0O, 2097206, .row (zrows 300 1 (i + 1)) 22 true []), (30, 30, .row (zrowsT 0 1 n) 22 true []), (31, 31, .row (zrowsT 100 1 n) 22 true [])] (zipA (bO7 (a0 + 1) 1 a1 a0) kO_5_1) [(300 + i, 2097204, rowO [.int .i64 2])] (zoO l z i) [(some (.row (lapp (ltake (ldrop (zrows 300 1 i) 0) (Nat.mul i 1)) [.slc 2097204 0 1 1 false 1]) 22 true []), true), (some (.row (zrowsT 0 1 n) 22 true []), true), (some (.row (zrowsT 100 1 n) 22 true []), true)]) :
    ∃ σ, Abs n0O σ (stO l n z (i + 1) (ggO r [1]) (bO7 (a0 + 1) 1 a1 a0)).env (stO l n z (i + 1) (ggO r [1]) (bO7 (a0 + 1) 1 a1 a0)).h env h := by
  have hlit : okLit n0O 2097152 (lapp [(n0O, 2097206, .row (zrows 300 1 (i + 1)) 22 true []), (30, 30, .row (zrowsT 0 1 n) 22 true []), (31, 31, .row (zrowsT 100 1 n) 22 true [])] (zipA (bO7 (a0 + 1) 1 a1 a0) kO_5_1)) = true := okLit_row rfl (belO_O (by omega)) (okLit_row rfl (belO_I hn) (okLit_row rfl (belO_W hn) (litO_5_1 a0 a1 a2)))
  have hZ3 : ∀ p ∈ ([(300 + i, 2097204, rowO [.int .i64 2])] : List (Nat × Nat × Blk)), 300 ≤ p.1 := fun p hp => by rw [List.mem_singleton.1 hp]; show 300 ≤ 300 + i; omega
  have hnd : (([(300 + i, 2097204, rowO [.int .i64 2])] : List (Nat × Nat × Blk)).map (·.1)).Nodup := by simp
  have k1 := keepIO Zs hn (i := i) hlit hZ3
  rw [expsR_eq] at ho
  · exact NewOK.abs (t := stO l n z (i + 1) (ggO r [1]) (bO7 (a0 + 1) 1 a1 a0)) (A := lapp [(n0O, 2097206, .row (zrows 300 1 (i + 1)) 22 true []), (30, 30, .row (zrowsT 0 1 n) 22 true []), (31, 31, .row (zrowsT 100 1 n) 22 true [])] (zipA (bO7 (a0 + 1) 1 a1 a0) kO_5_1)) (Z := [(300 + i, 2097204, rowO [.int .i64 2])]) (z := (zoO l z i))
      ⟨by rw [lmap_app, zipA_B]; rfl, by show T.set (zoO l z i) (outO l i) (300 + i) = T.set (zoO l z i) (rowO [.int .i64 2]) (300 + i); rw [hrow], by show 1049403 ≤ 2097152; decide, by kernel_rfl, hlit, keysO_5_1 n i a0 a1 a2, actsO_5_1 n i a0 a1 a2,
        fun p hp => by
          rw [List.mem_singleton.1 hp]
          refine ⟨by show 1049403 ≤ zn (300 + i); rw [zn_eq]; omega, by show zn (300 + i) < 2097152; rw [zn_eq]; omega, by show 1049403 ≤ 2097204; decide, by show 2097204 < 1000000000000; decide, by show 2097204 % 4096 ≠ 4095; decide, ?_⟩
          exact ⟨[2], 3, true, rfl⟩,
        hnd, zoO_ok Zs (by omega)⟩ rfl rfl rfl rfl ho
  · have e1 : (lapp (ltake (ldrop (zrows 300 1 i) 0) (Nat.mul i 1)) [.slc 2097204 0 1 1 false 1]) = renL (szs n0O (namesOf (lapp [(n0O, 2097206, .row (zrows 300 1 (i + 1)) 22 true []), (30, 30, .row (zrowsT 0 1 n) 22 true []), (31, 31, .row (zrowsT 100 1 n) 22 true [])] (zipA (bO7 (a0 + 1) 1 a1 a0) kO_5_1)) [(300 + i, 2097204, rowO [.int .i64 2])]) (kpOf (zoO l z i))) (zrows 300 1 (i + 1)) := by
      refine zrows_grow (i := i) (fun j hj => ?_) (szs_row hlit (by show 1049403 ≤ zn (300 + i); rw [zn_eq]; omega) (List.mem_singleton.2 rfl) hnd)
      exact szs_zone hlit (zgrow_new hj) (fun p hp e => by rw [List.mem_singleton.1 hp] at e; have e : 300 + i = 300 + j := e; omega)
    show [(some (Blk.row _ _ _ _), true), (some (Blk.row _ _ _ _), true), (some (Blk.row _ _ _ _), true)] = [(some (Blk.row (renL _ _) _ _ _), true), (some (Blk.row (renL _ _) _ _ _), true), (some (Blk.row (renL _ _) _ _ _), true)]
    rw [← e1]
    have k1 := k1
    skip
    rw [k1.1, k1.2]; rfl
theorem litO_8_1 (a0 : Int) : okLit n0O 2097152 (zipA (bO8 (a0 + 1)) kO_8_1) = true := by kernel_rfl
theorem keysO_8_1 (n i : Nat) (a0 : Int) : nodupQ (lmap (fun p => p.1) (lapp [(n0O, 2097206, .row (zrows 300 1 (i + 1)) 22 true []), (30, 30, .row (zrowsT 0 1 n) 22 true []), (31, 31, .row (zrowsT 100 1 n) 22 true [])] (zipA (bO8 (a0 + 1)) kO_8_1))) = true := by kernel_rfl
theorem actsO_8_1 (n i : Nat) (a0 : Int) : nodupQ (actsOf (lapp [(n0O, 2097206, .row (zrows 300 1 (i + 1)) 22 true []), (30, 30, .row (zrowsT 0 1 n) 22 true []), (31, 31, .row (zrowsT 100 1 n) 22 true [])] (zipA (bO8 (a0 + 1)) kO_8_1)) [(300 + i, 2097204, rowO [.int .i64 2])]) = true := by kernel_rfl
theorem absO_8_1 {l : Nat → Bool} {n : Nat} {z : T Blk} (Zs : ZinO l n z) (hn : n ≤ 60) {i : Nat} (hi : i < n) (r : Nat) (a0 : Int) (hrow : rowO [.int .i64 2] = outO l i) {env : Env} {h : H}
    (ho : obs [6, 7, 16, 17, 71, 72, 73] (actsOf (lapp [(n0O, 2097206, .row (zrows 300 1 (i + 1)) 22 true []), (30, 30, .row (zrowsT 0 1 n) 22 true []), (31, 31, .row (zrowsT 100 1 n) 22 true [])] (zipA (bO8 (a0 + 1)) kO_8_1)) [(300 + i, 2097204, rowO [.int .i64 2])]) (lapp [(n0O, 2097206, .row (zrows 300 1 (i + 1)) 22 true []), (30, 30, .row (zrowsT 0 1 n) 22 true []), (31, 31, .row (zrowsT 100 1 n) 22 true [])] (zipA (bO8 (a0 + 1)) kO_8_1)) [(300 + i, 2097204, rowO [.int .i64 2])] env h = expsR n0O (kpOf (zoO l z i)) (eO n (ggO r [1]) (.slc n0O 0 (i + 1) (i + 1) false 1) (i + 1)) [(n0O, 2097206, .row (zrows 300 1 (i + 1)) 22 true []), (30, 30, .row (zrowsT 0 1 n) 22 true []), (31, 31, .row (zrowsT 100 1 n) 22 true [])] (zipA (bO8 (a0 + 1)) kO_8_1) [(300 + i, 2097204, rowO [.int .i64 2])] (zoO l z i) [(some (.row (lapp (ltake (ldrop (zrows 300 1 i) 0) (Nat.mul i 1)) [.slc 2097204 0 1 1 false 1]) 22 true []), true), (some (.row (zrowsT 0 1 n) 22 true []), true), (some (.row (zrowsT 100 1 n) 22 true []), true)]) :
    ∃ σ, Abs n0O σ (stO l n z (i + 1) (ggO r [1]) (bO8 (a0 + 1))).env (stO l n z (i + 1) (ggO r [1]) (bO8 (a0 + 1))).h env h := by
  have hlit : okLit n0O 2097152 (lapp [(n0O, 2097206, .row (zrows 300 1 (i + 1)) 22 true []), (30, 30, .row (zrowsT 0 1 n) 22 true []), (31, 31, .row (zrowsT 100 1 n) 22 true [])] (zipA (bO8 (a0 + 1)) kO_8_1)) = true := okLit_row rfl (belO_O (by omega)) (okLit_row rfl (belO_I hn) (okLit_row rfl (belO_W hn) (litO_8_1 a0)))
  have hZ3 : ∀ p ∈ ([(300 + i, 2097204, rowO [.int .i64 2])] : List (Nat × Nat × Blk)), 300 ≤ p.1 := fun p hp => by rw [List.mem_singleton.1 hp]; show 300 ≤ 300 + i; omega
  have hnd : (([(300 + i, 2097204, rowO [.int .i64 2])] : List (Nat × Nat × Blk)).map (·.1)).Nodup := by simp
  have k1 := keepIO Zs hn (i := i) hlit hZ3
  rw [expsR_eq] at ho
  · exact NewOK.abs (t := stO l n z (i + 1) (ggO r [1]) (bO8 (a0 + 1))) (A := lapp [(n0O, 2097206, .row (zrows 300 1 (i + 1)) 22 true []), (30, 30, .row (zrowsT 0 1 n) 22 true []), (31, 31, .row (zrowsT 100 1 n) 22 true [])] (zipA (bO8 (a0 + 1)) kO_8_1)) (Z := [(300 + i, 2097204, rowO [.int .i64 2])]) (z := (zoO l z i))
      ⟨by rw [lmap_app, zipA_B]; rfl, by show T.set (zoO l z i) (outO l i) (300 + i) = T.set (zoO l z i) (rowO [.int .i64 2]) (300 + i); rw [hrow], by show 1049403 ≤ 2097152; decide, by kernel_rfl, hlit, keysO_8_1 n i a0, actsO_8_1 n i a0,
        fun p hp => by
          rw [List.mem_singleton.1 hp]
          refine ⟨by show 1049403 ≤ zn (300 + i); rw [zn_eq]; omega, by show zn (300 + i) < 2097152; rw [zn_eq]; omega, by show 1049403 ≤ 2097204; decide, by show 2097204 < 1000000000000; decide, by show 2097204 % 4096 ≠ 4095; decide, ?_⟩
          exact ⟨[2], 3, true, rfl⟩,
        hnd, zoO_ok Zs (by omega)⟩ rfl rfl rfl rfl ho
  · have e1 : (lapp (ltake (ldrop (zrows 300 1 i) 0) (Nat.mul i 1)) [.slc 2097204 0 1 1 false 1]) = renL (szs n0O (namesOf (lapp [(n0O, 2097206, .row (zrows 300 1 (i + 1)) 22 true []), (30, 30, .row (zrowsT 0 1 n) 22 true []), (31, 31, .row (zrowsT 100 1 n) 22 true [])] (zipA (bO8 (a0 + 1)) kO_8_1)) [(300 + i, 2097204, rowO [.int .i64 2])]) (kpOf (zoO l z i))) (zrows 300 1 (i + 1)) := by
      refine zrows_grow (i := i) (fun j hj => ?_) (szs_row hlit (by show 1049403 ≤ zn (300 + i); rw [zn_eq]; omega) (List.mem_singleton.2 rfl) hnd)
      exact szs_zone hlit (zgrow_new hj) (fun p hp e => by rw [List.mem_singleton.1 hp] at e; have e : 300 + i = 300 + j := e; omega)
    show [(some (Blk.row _ _ _ _), true), (some (Blk.row _ _ _ _), true), (some (Blk.row _ _ _ _), true)] = [(some (Blk.row (renL _ _) _ _ _), true), (some (Blk.row (renL _ _) _ _ _), true), (some (Blk.row (renL _ _) _ _ _), true)]
    rw [← e1]
    have k1 := k1
    skip
    rw [k1.1, k1.2]; rfl
theorem litO_1_1 : okLit n0O 2097152 (zipA (bO9 2) kO_1_1) = true := by kernel_rfl
theorem keysO_1_1 (n i : Nat) : nodupQ (lmap (fun p => p.1) (lapp [(n0O, 2097219, .row (zrows 300 1 (i + 1)) 22 true []), (30, 30, .row (zrowsT 0 1 n) 22 true []), (31, 31, .row (zrowsT 100 1 n) 22 true [])] (zipA (bO9 2) kO_1_1))) = true := by kernel_rfl
theorem actsO_1_1 (n i : Nat) : nodupQ (actsOf (lapp [(n0O, 2097219, .row (zrows 300 1 (i + 1)) 22 true []), (30, 30, .row (zrowsT 0 1 n) 22 true []), (31, 31, .row (zrowsT 100 1 n) 22 true [])] (zipA (bO9 2) kO_1_1)) [(300 + i, 2097217, rowO [.int .i64 3])]) = true := by kernel_rfl
theorem absO_1_1 {l : Nat → Bool} {n : Nat} {z : T Blk} (Zs : ZinO l n z) (hn : n ≤ 60) {i : Nat} (hi : i < n) (r : Nat) (hrow : rowO [.int .i64 3] = outO l i) {env : Env} {h : H}
    (ho : obs [6, 7, 16, 17, 71, 72, 73] (actsOf (lapp [(n0O, 2097219, .row (zrows 300 1 (i + 1)) 22 true []), (30, 30, .row (zrowsT 0 1 n) 22 true []), (31, 31, .row (zrowsT 100 1 n) 22 true [])] (zipA (bO9 2) kO_1_1)) [(300 + i, 2097217, rowO [.int .i64 3])]) (lapp [(n0O, 2097219, .row (zrows 300 1 (i + 1)) 22 true []), (30, 30, .row (zrowsT 0 1 n) 22 true []), (31, 31, .row (zrowsT 100 1 n) 22 true [])] (zipA (bO9 2) kO_1_1)) [(300 + i, 2097217, rowO [.int .i64 3])] env h = expsR n0O (kpOf (zoO l z i)) (eO n (ggO r [1]) (.slc n0O 0 (i + 1) (i + 1) false 1) (i + 1)) [(n0O, 2097219, .row (zrows 300 1 (i + 1)) 22 true []), (30, 30, .row (zrowsT 0 1 n) 22 true []), (31, 31, .row (zrowsT 100 1 n) 22 true [])] (zipA (bO9 2) kO_1_1) [(300 + i, 2097217, rowO [.int .i64 3])] (zoO l z i) [(some (.row (lapp (ltake (ldrop (zrows 300 1 i) 0) (Nat.mul i 1)) [.slc 2097217 0 1 1 false 1]) 22 true []), true), (some (.row (zrowsT 0 1 n) 22 true []), true), (some (.row (zrowsT 100 1 n) 22 true []), true)]) :
    ∃ σ, Abs n0O σ (stO l n z (i + 1) (ggO r [1]) (bO9 2)).env (stO l n z (i + 1) (ggO r [1]) (bO9 2)).h env h := by
  have hlit : okLit n0O 2097152 (lapp [(n0O, 2097219, .row (zrows 300 1 (i + 1)) 22 true []), (30, 30, .row (zrowsT 0 1 n) 22 true []), (31, 31, .row (zrowsT 100 1 n) 22 true [])] (zipA (bO9 2) kO_1_1)) = true := okLit_row rfl (belO_O (by omega)) (okLit_row rfl (belO_I hn) (okLit_row rfl (belO_W hn) (litO_1_1)))
  have hZ3 : ∀ p ∈ ([(300 + i, 2097217, rowO [.int .i64 3])] : List (Nat × Nat × Blk)), 300 ≤ p.1 := fun p hp => by rw [List.mem_singleton.1 hp]; show 300 ≤ 300 + i; omega
  have hnd : (([(300 + i, 2097217, rowO [.int .i64 3])] : List (Nat × Nat × Blk)).map (·.1)).Nodup := by simp
  have k1 := keepIO Zs hn (i := i) hlit hZ3
  rw [expsR_eq] at ho
  · exact NewOK.abs (t := stO l n z (i + 1) (ggO r [1]) (bO9 2)) (A := lapp [(n0O, 2097219, .row (zrows 300 1 (i + 1)) 22 true []), (30, 30, .row (zrowsT 0 1 n) 22 true []), (31, 31, .row (zrowsT 100 1 n) 22 true [])] (zipA (bO9 2) kO_1_1)) (Z := [(300 + i, 2097217, rowO [.int .i64 3])]) (z := (zoO l z i))
      ⟨by rw [lmap_app, zipA_B]; rfl, by show T.set (zoO l z i) (outO l i) (300 + i) = T.set (zoO l z i) (rowO [.int .i64 3]) (300 + i); rw [hrow], by show 1049403 ≤ 2097152; decide, by kernel_rfl, hlit, keysO_1_1 n i, actsO_1_1 n i,
        fun p hp => by
          rw [List.mem_singleton.1 hp]
          refine ⟨by show 1049403 ≤ zn (300 + i); rw [zn_eq]; omega, by show zn (300 + i) < 2097152; rw [zn_eq]; omega, by show 1049403 ≤ 2097217; decide, by show 2097217 < 1000000000000; decide, by show 2097217 % 4096 ≠ 4095; decide, ?_⟩
          exact ⟨[3], 3, true, rfl⟩,
        hnd, zoO_ok Zs (by omega)⟩ rfl rfl rfl rfl ho
  · have e1 : (lapp (ltake (ldrop (zrows 300 1 i) 0) (Nat.mul i 1)) [.slc 2097217 0 1 1 false 1]) = renL (szs n0O (namesOf (lapp [(n0O, 2097219, .row (zrows 300 1 (i + 1)) 22 true []), (30, 30, .row (zrowsT 0 1 n) 22 true []), (31, 31, .row (zrowsT 100 1 n) 22 true [])] (zipA (bO9 2) kO_1_1)) [(300 + i, 2097217, rowO [.int .i64 3])]) (kpOf (zoO l z i))) (zrows 300 1 (i + 1)) := by
      refine zrows_grow (i := i) (fun j hj => ?_) (szs_row hlit (by show 1049403 ≤ zn (300 + i); rw [zn_eq]; omega) (List.mem_singleton.2 rfl) hnd)
      exact szs_zone hlit (zgrow_new hj) (fun p hp e => by rw [List.mem_singleton.1 hp] at e; have e : 300 + i = 300 + j := e; omega)
    show [(some (Blk.row _ _ _ _), true), (some (Blk.row _ _ _ _), true), (some (Blk.row _ _ _ _), true)] = [(some (Blk.row (renL _ _) _ _ _), true), (some (Blk.row (renL _ _) _ _ _), true), (some (Blk.row (renL _ _) _ _ _), true)]
    rw [← e1]
    have k1 := k1
    skip
    rw [k1.1, k1.2]; rfl
theorem litO_9_0 (a0 : Int) : okLit n0O 2097152 (zipA (bO10 (a0 + 1)) kO_9_0) = true := by kernel_rfl
theorem keysO_9_0 (n i : Nat) (a0 : Int) : nodupQ (lmap (fun p => p.1) (lapp [(n0O, 2097167, .row (zrows 300 1 (i + 1)) 22 true []), (30, 30, .row (zrowsT 0 1 n) 22 true []), (31, 31, .row (zrowsT 100 1 n) 22 true [])] (zipA (bO10 (a0 + 1)) kO_9_0))) = true := by kernel_rfl
theorem actsO_9_0 (n i : Nat) (a0 : Int) : nodupQ (actsOf (lapp [(n0O, 2097167, .row (zrows 300 1 (i + 1)) 22 true []), (30, 30, .row (zrowsT 0 1 n) 22 true []), (31, 31, .row (zrowsT 100 1 n) 22 true [])] (zipA (bO10 (a0 + 1)) kO_9_0)) [(300 + i, 2097165, rowO [.int .i64 3])]) = true := by kernel_rfl
theorem absO_9_0 {l : Nat → Bool} {n : Nat} {z : T Blk} (Zs : ZinO l n z) (hn : n ≤ 60) {i : Nat} (hi : i < n) (r : Nat) (a0 : Int) (hrow : rowO [.int .i64 3] = outO l i) {env : Env} {h : H}
    (ho : obs [6, 7, 16, 17, 71, 72, 73] (actsOf (lapp [(n0O, 2097167, .row (zrows 300 1 (i + 1)) 22 true []), (30, 30, .row (zrowsT 0 1 n) 22 true []), (31, 31, .row (zrowsT 100 1 n) 22 true [])] (zipA (bO10 (a0 + 1)) kO_9_0)) [(300 + i, 2097165, rowO [.int .i64 3])]) (lapp [(n0O, 2097167, .row (zrows 300 1 (i + 1)) 22 true []), (30, 30, .row (zrowsT 0 1 n) 22 true []), (31, 31, .row (zrowsT 100 1 n) 22 true [])] (zipA (bO10 (a0 + 1)) kO_9_0)) [(300 + i, 2097165, rowO [.int .i64 3])] env h = expsR n0O (kpOf (zoO l z i)) (eO n (ggO r [0]) (.slc n0O 0 (i + 1) (i + 1) false 1) (i + 1)) [(n0O, 2097167, .row (zrows 300 1 (i + 1)) 22 true []), (30, 30, .row (zrowsT 0 1 n) 22 true []), (31, 31, .row (zrowsT 100 1 n) 22 true [])] (zipA (bO10 (a0 + 1)) kO_9_0) [(300 + i, 2097165, rowO [.int .i64 3])] (zoO l z i) [(some (.row (lapp (ltake (ldrop (zrows 300 1 i) 0) (Nat.mul i 1)) [.slc 2097165 0 1 1 false 1]) 22 true []), true), (some (.row (zrowsT 0 1 n) 22 true []), true), (some (.row (zrowsT 100 1 n) 22 true []), true)]) :
    ∃ σ, Abs n0O σ (stO l n z (i + 1) (ggO r [0]) (bO10 (a0 + 1))).env (stO l n z (i + 1) (ggO r [0]) (bO10 (a0 + 1))).h env h := by
  have hlit : okLit n0O 2097152 (lapp [(n0O, 2097167, .row (zrows 300 1 (i + 1)) 22 true []), (30, 30, .row (zrowsT 0 1 n) 22 true []), (31, 31, .row (zrowsT 100 1 n) 22 true [])] (zipA (bO10 (a0 + 1)) kO_9_0)) = true := okLit_row rfl (belO_O (by omega)) (okLit_row rfl (belO_I hn) (okLit_row rfl (belO_W hn) (litO_9_0 a0)))
  have hZ3 : ∀ p ∈ ([(300 + i, 2097165, rowO [.int .i64 3])] : List (Nat × Nat × Blk)), 300 ≤ p.1 := fun p hp => by rw [List.mem_singleton.1 hp]; show 300 ≤ 300 + i; omega
  have hnd : (([(300 + i, 2097165, rowO [.int .i64 3])] : List (Nat × Nat × Blk)).map (·.1)).Nodup := by simp
  have k1 := keepIO Zs hn (i := i) hlit hZ3
  rw [expsR_eq] at ho
  · exact NewOK.abs (t := stO l n z (i + 1) (ggO r [0]) (bO10 (a0 + 1))) (A := lapp [(n0O, 2097167, .row (zrows 300 1 (i + 1)) 22 true []), (30, 30, .row (zrowsT 0 1 n) 22 true []), (31, 31, .row (zrowsT 100 1 n) 22 true [])] (zipA (bO10 (a0 + 1)) kO_9_0)) (Z := [(300 + i, 2097165, rowO [.int .i64 3])]) (z := (zoO l z i))
      ⟨by rw [lmap_app, zipA_B]; rfl, by show T.set (zoO l z i) (outO l i) (300 + i) = T.set (zoO l z i) (rowO [.int .i64 3]) (300 + i); rw [hrow], by show 1049403 ≤ 2097152; decide, by kernel_rfl, hlit, keysO_9_0 n i a0, actsO_9_0 n i a0,
        fun p hp => by
          rw [List.mem_singleton.1 hp]
          refine ⟨by show 1049403 ≤ zn (300 + i); rw [zn_eq]; omega, by show zn (300 + i) < 2097152; rw [zn_eq]; omega, by show 1049403 ≤ 2097165; decide, by show 2097165 < 1000000000000; decide, by show 2097165 % 4096 ≠ 4095; decide, ?_⟩
          exact ⟨[3], 3, true, rfl⟩,
        hnd, zoO_ok Zs (by omega)⟩ rfl rfl rfl rfl ho
  · have e1 : (lapp (ltake (ldrop (zrows 300 1 i) 0) (Nat.mul i 1)) [.slc 2097165 0 1 1 false 1]) = renL (szs n0O (namesOf (lapp [(n0O, 2097167, .row (zrows 300 1 (i + 1)) 22 true []), (30, 30, .row (zrowsT 0 1 n) 22 true []), (31, 31, .row (zrowsT 100 1 n) 22 true [])] (zipA (bO10 (a0 + 1)) kO_9_0)) [(300 + i, 2097165, rowO [.int .i64 3])]) (kpOf (zoO l z i))) (zrows 300 1 (i + 1)) := by
      refine zrows_grow (i := i) (fun j hj => ?_) (szs_row hlit (by show 1049403 ≤ zn (300 + i); rw [zn_eq]; omega) (List.mem_singleton.2 rfl) hnd)
      exact szs_zone hlit (zgrow_new hj) (fun p hp e => by rw [List.mem_singleton.1 hp] at e; have e : 300 + i = 300 + j := e; omega)
    show [(some (Blk.row _ _ _ _), true), (some (Blk.row _ _ _ _), true), (some (Blk.row _ _ _ _), true)] = [(some (Blk.row (renL _ _) _ _ _), true), (some (Blk.row (renL _ _) _ _ _), true), (some (Blk.row (renL _ _) _ _ _), true)]
    rw [← e1]
    have k1 := k1
    skip
    rw [k1.1, k1.2]; rfl
theorem litO_10_0 (a0 : Int) : okLit n0O 2097152 (zipA (bO11 (a0 + 1) a0) kO_10_0) = true := by kernel_rfl
theorem keysO_10_0 (n i : Nat) (a0 : Int) : nodupQ (lmap (fun p => p.1) (lapp [(n0O, 2097204, .row (zrows 300 1 (i + 1)) 22 true []), (30, 30, .row (zrowsT 0 1 n) 22 true []), (31, 31, .row (zrowsT 100 1 n) 22 true [])] (zipA (bO11 (a0 + 1) a0) kO_10_0))) = true := by kernel_rfl
theorem actsO_10_0 (n i : Nat) (a0 : Int) : nodupQ (actsOf (lapp [(n0O, 2097204, .row (zrows 300 1 (i + 1)) 22 true []), (30, 30, .row (zrowsT 0 1 n) 22 true []), (31, 31, .row (zrowsT 100 1 n) 22 true [])] (zipA (bO11 (a0 + 1) a0) kO_10_0)) [(300 + i, 2097202, rowO [.int .i64 1])]) = true := by kernel_rfl
theorem absO_10_0 {l : Nat → Bool} {n : Nat} {z : T Blk} (Zs : ZinO l n z) (hn : n ≤ 60) {i : Nat} (hi : i < n) (r : Nat) (a0 : Int) (hrow : rowO [.int .i64 1] = outO l i) {env : Env} {h : H}
    (ho : obs [6, 7, 16, 17, 71, 72, 73] (actsOf (lapp [(n0O, 2097204, .row (zrows 300 1 (i + 1)) 22 true []), (30, 30, .row (zrowsT 0 1 n) 22 true []), (31, 31, .row (zrowsT 100 1 n) 22 true [])] (zipA (bO11 (a0 + 1) a0) kO_10_0)) [(300 + i, 2097202, rowO [.int .i64 1])]) (lapp [(n0O, 2097204, .row (zrows 300 1 (i + 1)) 22 true []), (30, 30, .row (zrowsT 0 1 n) 22 true []), (31, 31, .row (zrowsT 100 1 n) 22 true [])] (zipA (bO11 (a0 + 1) a0) kO_10_0)) [(300 + i, 2097202, rowO [.int .i64 1])] env h = expsR n0O (kpOf (zoO l z i)) (eO n (ggO r [0]) (.slc n0O 0 (i + 1) (i + 1) false 1) (i + 1)) [(n0O, 2097204, .row (zrows 300 1 (i + 1)) 22 true []), (30, 30, .row (zrowsT 0 1 n) 22 true []), (31, 31, .row (zrowsT 100 1 n) 22 true [])] (zipA (bO11 (a0 + 1) a0) kO_10_0) [(300 + i, 2097202, rowO [.int .i64 1])] (zoO l z i) [(some (.row (lapp (ltake (ldrop (zrows 300 1 i) 0) (Nat.mul i 1)) [.slc 2097202 0 1 1 false 1]) 22 true []), true), (some (.row (zrowsT 0 1 n) 22 true []), true), (some (.row (zrowsT 100 1 n) 22 true []), true)]) :
    ∃ σ, Abs n0O σ (stO l n z (i + 1) (ggO r [0]) (bO11 (a0 + 1) a0)).env (stO l n z (i + 1) (ggO r [0]) (bO11 (a0 + 1) a0)).h env h := by
  have hlit : okLit n0O 2097152 (lapp [(n0O, 2097204, .row (zrows 300 1 (i + 1)) 22 true []), (30, 30, .row (zrowsT 0 1 n) 22 true []), (31, 31, .row (zrowsT 100 1 n) 22 true [])] (zipA (bO11 (a0 + 1) a0) kO_10_0)) = true := okLit_row rfl (belO_O (by omega)) (okLit_row rfl (belO_I hn) (okLit_row rfl (belO_W hn) (litO_10_0 a0)))
  have hZ3 : ∀ p ∈ ([(300 + i, 2097202, rowO [.int .i64 1])] : List (Nat × Nat × Blk)), 300 ≤ p.1 := fun p hp => by rw [List.mem_singleton.1 hp]; show 300 ≤ 300 + i; omega
  have hnd : (([(300 + i, 2097202, rowO [.int .i64 1])] : List (Nat × Nat × Blk)).map (·.1)).Nodup := by simp
  have k1 := keepIO Zs hn (i := i) hlit hZ3
  rw [expsR_eq] at ho
  · exact NewOK.abs (t := stO l n z (i + 1) (ggO r [0]) (bO11 (a0 + 1) a0)) (A := lapp [(n0O, 2097204, .row (zrows 300 1 (i + 1)) 22 true []), (30, 30, .row (zrowsT 0 1 n) 22 true []), (31, 31, .row (zrowsT 100 1 n) 22 true [])] (zipA (bO11 (a0 + 1) a0) kO_10_0)) (Z := [(300 + i, 2097202, rowO [.int .i64 1])]) (z := (zoO l z i))
      ⟨by rw [lmap_app, zipA_B]; rfl, by show T.set (zoO l z i) (outO l i) (300 + i) = T.set (zoO l z i) (rowO [.int .i64 1]) (300 + i); rw [hrow], by show 1049403 ≤ 2097152; decide, by kernel_rfl, hlit, keysO_10_0 n i a0, actsO_10_0 n i a0,
        fun p hp => by
          rw [List.mem_singleton.1 hp]
          refine ⟨by show 1049403 ≤ zn (300 + i); rw [zn_eq]; omega, by show zn (300 + i) < 2097152; rw [zn_eq]; omega, by show 1049403 ≤ 2097202; decide, by show 2097202 < 1000000000000; decide, by show 2097202 % 4096 ≠ 4095; decide, ?_⟩
          exact ⟨[1], 3, true, rfl⟩,
        hnd, zoO_ok Zs (by omega)⟩ rfl rfl rfl rfl ho
  · have e1 : (lapp (ltake (ldrop (zrows 300 1 i) 0) (Nat.mul i 1)) [.slc 2097202 0 1 1 false 1]) = renL (szs n0O (namesOf (lapp [(n0O, 2097204, .row (zrows 300 1 (i + 1)) 22 true []), (30, 30, .row (zrowsT 0 1 n) 22 true []), (31, 31, .row (zrowsT 100 1 n) 22 true [])] (zipA (bO11 (a0 + 1) a0) kO_10_0)) [(300 + i, 2097202, rowO [.int .i64 1])]) (kpOf (zoO l z i))) (zrows 300 1 (i + 1)) := by
      refine zrows_grow (i := i) (fun j hj => ?_) (szs_row hlit (by show 1049403 ≤ zn (300 + i); rw [zn_eq]; omega) (List.mem_singleton.2 rfl) hnd)
      exact szs_zone hlit (zgrow_new hj) (fun p hp e => by rw [List.mem_singleton.1 hp] at e; have e : 300 + i = 300 + j := e; omega)
    show [(some (Blk.row _ _ _ _), true), (some (Blk.row _ _ _ _), true), (some (Blk.row _ _ _ _), true)] = [(some (Blk.row (renL _ _) _ _ _), true), (some (Blk.row (renL _ _) _ _ _), true), (some (Blk.row (renL _ _) _ _ _), true)]
    rw [← e1]
    have k1 := k1
    skip
    rw [k1.1, k1.2]; rfl
theorem litO_11_1 (a0 : Int) (a1 : Int) : okLit n0O 2097152 (zipA (bO12 (a0 + 1) a0) kO_11_1) = true := by kernel_rfl
theorem keysO_11_1 (n i : Nat) (a0 : Int) (a1 : Int) : nodupQ (lmap (fun p => p.1) (lapp [(n0O, 2097219, .row (zrows 300 1 (i + 1)) 22 true []), (30, 30, .row (zrowsT 0 1 n) 22 true []), (31, 31, .row (zrowsT 100 1 n) 22 true [])] (zipA (bO12 (a0 + 1) a0) kO_11_1))) = true := by kernel_rfl
theorem actsO_11_1 (n i : Nat) (a0 : Int) (a1 : Int) : nodupQ (actsOf (lapp [(n0O, 2097219, .row (zrows 300 1 (i + 1)) 22 true []), (30, 30, .row (zrowsT 0 1 n) 22 true []), (31, 31, .row (zrowsT 100 1 n) 22 true [])] (zipA (bO12 (a0 + 1) a0) kO_11_1)) [(300 + i, 2097217, rowO [.int .i64 3])]) = true := by kernel_rfl
theorem absO_11_1 {l : Nat → Bool} {n : Nat} {z : T Blk} (Zs : ZinO l n z) (hn : n ≤ 60) {i : Nat} (hi : i < n) (r : Nat) (a0 : Int) (a1 : Int) (hrow : rowO [.int .i64 3] = outO l i) {env : Env} {h : H}
    (ho : obs [6, 7, 16, 17, 71, 72, 73] (actsOf (lapp [(n0O, 2097219, .row (zrows 300 1 (i + 1)) 22 true []), (30, 30, .row (zrowsT 0 1 n) 22 true []), (31, 31, .row (zrowsT 100 1 n) 22 true [])] (zipA (bO12 (a0 + 1) a0) kO_11_1)) [(300 + i, 2097217, rowO [.int .i64 3])]) (lapp [(n0O, 2097219, .row (zrows 300 1 (i + 1)) 22 true []), (30, 30, .row (zrowsT 0 1 n) 22 true []), (31, 31, .row (zrowsT 100 1 n) 22 true [])] (zipA (bO12 (a0 + 1) a0) kO_11_1)) [(300 + i, 2097217, rowO [.int .i64 3])] env h = expsR n0O (kpOf (zoO l z i)) (eO n (ggO r [1]) (.slc n0O 0 (i + 1) (i + 1) false 1) (i + 1)) [(n0O, 2097219, .row (zrows 300 1 (i + 1)) 22 true []), (30, 30, .row (zrowsT 0 1 n) 22 true []), (31, 31, .row (zrowsT 100 1 n) 22 true [])] (zipA (bO12 (a0 + 1) a0) kO_11_1) [(300 + i, 2097217, rowO [.int .i64 3])] (zoO l z i) [(some (.row (lapp (ltake (ldrop (zrows 300 1 i) 0) (Nat.mul i 1)) [.slc 2097217 0 1 1 false 1]) 22 true []), true), (some (.row (zrowsT 0 1 n) 22 true []), true), (some (.row (zrowsT 100 1 n) 22 true []), true)]) :
    ∃ σ, Abs n0O σ (stO l n z (i + 1) (ggO r [1]) (bO12 (a0 + 1) a0)).env (stO l n z (i + 1) (ggO r [1]) (bO12 (a0 + 1) a0)).h env h := by
  have hlit : okLit n0O 2097152 (lapp [(n0O, 2097219, .row (zrows 300 1 (i + 1)) 22 true []), (30, 30, .row (zrowsT 0 1 n) 22 true []), (31, 31, .row (zrowsT 100 1 n) 22 true [])] (zipA (bO12 (a0 + 1) a0) kO_11_1)) = true := okLit_row rfl (belO_O (by omega)) (okLit_row rfl (belO_I hn) (okLit_row rfl (belO_W hn) (litO_11_1 a0 a1)))
  have hZ3 : ∀ p ∈ ([(300 + i, 2097217, rowO [.int .i64 3])] : List (Nat × Nat × Blk)), 300 ≤ p.1 := fun p hp => by rw [List.mem_singleton.1 hp]; show 300 ≤ 300 + i; omega
  have hnd : (([(300 + i, 2097217, rowO [.int .i64 3])] : List (Nat × Nat × Blk)).map (·.1)).Nodup := by simp
  have k1 := keepIO Zs hn (i := i) hlit hZ3
  rw [expsR_eq] at ho
  · exact NewOK.abs (t := stO l n z (i + 1) (ggO r [1]) (bO12 (a0 + 1) a0)) (A := lapp [(n0O, 2097219, .row (zrows 300 1 (i + 1)) 22 true []), (30, 30, .row (zrowsT 0 1 n) 22 true []), (31, 31, .row (zrowsT 100 1 n) 22 true [])] (zipA (bO12 (a0 + 1) a0) kO_11_1)) (Z := [(300 + i, 2097217, rowO [.int .i64 3])]) (z := (zoO l z i))
      ⟨by rw [lmap_app, zipA_B]; rfl, by show T.set (zoO l z i) (outO l i) (300 + i) = T.set (zoO l z i) (rowO [.int .i64 3]) (300 + i); rw [hrow], by show 1049403 ≤ 2097152; decide, by kernel_rfl, hlit, keysO_11_1 n i a0 a1, actsO_11_1 n i a0 a1,
        fun p hp => by
          rw [List.mem_singleton.1 hp]
          refine ⟨by show 1049403 ≤ zn (300 + i); rw [zn_eq]; omega, by show zn (300 + i) < 2097152; rw [zn_eq]; omega, by show 1049403 ≤ 2097217; decide, by show 2097217 < 1000000000000; decide, by show 2097217 % 4096 ≠ 4095; decide, ?_⟩
          exact ⟨[3], 3, true, rfl⟩,
        hnd, zoO_ok Zs (by omega)⟩ rfl rfl rfl rfl ho
  · have e1 : (lapp (ltake (ldrop (zrows 300 1 i) 0) (Nat.mul i 1)) [.slc 2097217 0 1 1 false 1]) = renL (szs n0O (namesOf (lapp [(n0O, 2097219, .row (zrows 300 1 (i + 1)) 22 true []), (30, 30, .row (zrowsT 0 1 n) 22 true []), (31, 31, .row (zrowsT 100 1 n) 22 true [])] (zipA (bO12 (a0 + 1) a0) kO_11_1)) [(300 + i, 2097217, rowO [.int .i64 3])]) (kpOf (zoO l z i))) (zrows 300 1 (i + 1)) := by
      refine zrows_grow (i := i) (fun j hj => ?_) (szs_row hlit (by show 1049403 ≤ zn (300 + i); rw [zn_eq]; omega) (List.mem_singleton.2 rfl) hnd)
      exact szs_zone hlit (zgrow_new hj) (fun p hp e => by rw [List.mem_singleton.1 hp] at e; have e : 300 + i = 300 + j := e; omega)
    show [(some (Blk.row _ _ _ _), true), (some (Blk.row _ _ _ _), true), (some (Blk.row _ _ _ _), true)] = [(some (Blk.row (renL _ _) _ _ _), true), (some (Blk.row (renL _ _) _ _ _), true), (some (Blk.row (renL _ _) _ _ _), true)]
    rw [← e1]
    have k1 := k1
    skip
    rw [k1.1, k1.2]; rfl
theorem litO_12_1 (a0 : Int) (a1 : Int) : okLit n0O 2097152 (zipA (bO12 (a0 + 1) a1) kO_12_1) = true := by kernel_rfl
theorem keysO_12_1 (n i : Nat) (a0 : Int) (a1 : Int) : nodupQ (lmap (fun p => p.1) (lapp [(n0O, 2097165, .row (zrows 300 1 (i + 1)) 22 true []), (30, 30, .row (zrowsT 0 1 n) 22 true []), (31, 31, .row (zrowsT 100 1 n) 22 true [])] (zipA (bO12 (a0 + 1) a1) kO_12_1))) = true := by kernel_rfl
theorem actsO_12_1 (n i : Nat) (a0 : Int) (a1 : Int) : nodupQ (actsOf (lapp [(n0O, 2097165, .row (zrows 300 1 (i + 1)) 22 true []), (30, 30, .row (zrowsT 0 1 n) 22 true []), (31, 31, .row (zrowsT 100 1 n) 22 true [])] (zipA (bO12 (a0 + 1) a1) kO_12_1)) [(300 + i, 2097163, rowO [.int .i64 3])]) = true := by kernel_rfl
theorem absO_12_1 {l : Nat → Bool} {n : Nat} {z : T Blk} (Zs : ZinO l n z) (hn : n ≤ 60) {i : Nat} (hi : i < n) (r : Nat) (a0 : Int) (a1 : Int) (hrow : rowO [.int .i64 3] = outO l i) {env : Env} {h : H}
    (ho : obs [6, 7, 16, 17, 71, 72, 73] (actsOf (lapp [(n0O, 2097165, .row (zrows 300 1 (i + 1)) 22 true []), (30, 30, .row (zrowsT 0 1 n) 22 true []), (31, 31, .row (zrowsT 100 1 n) 22 true [])] (zipA (bO12 (a0 + 1) a1) kO_12_1)) [(300 + i, 2097163, rowO [.int .i64 3])]) (lapp [(n0O, 2097165, .row (zrows 300 1 (i + 1)) 22 true []), (30, 30, .row (zrowsT 0 1 n) 22 true []), (31, 31, .row (zrowsT 100 1 n) 22 true [])] (zipA (bO12 (a0 + 1) a1) kO_12_1)) [(300 + i, 2097163, rowO [.int .i64 3])] env h = expsR n0O (kpOf (zoO l z i)) (eO n (ggO r [1]) (.slc n0O 0 (i + 1) (i + 1) false 1) (i + 1)) [(n0O, 2097165, .row (zrows 300 1 (i + 1)) 22 true []), (30, 30, .row (zrowsT 0 1 n) 22 true []), (31, 31, .row (zrowsT 100 1 n) 22 true [])] (zipA (bO12 (a0 + 1) a1) kO_12_1) [(300 + i, 2097163, rowO [.int .i64 3])] (zoO l z i) [(some (.row (lapp (ltake (ldrop (zrows 300 1 i) 0) (Nat.mul i 1)) [.slc 2097163 0 1 1 false 1]) 22 true []), true), (some (.row (zrowsT 0 1 n) 22 true []), true), (some (.row (zrowsT 100 1 n) 22 true []), true)]) :
    ∃ σ, Abs n0O σ (stO l n z (i + 1) (ggO r [1]) (bO12 (a0 + 1) a1)).env (stO l n z (i + 1) (ggO r [1]) (bO12 (a0 + 1) a1)).h env h := by
  have hlit : okLit n0O 2097152 (lapp [(n0O, 2097165, .row (zrows 300 1 (i + 1)) 22 true []), (30, 30, .row (zrowsT 0 1 n) 22 true []), (31, 31, .row (zrowsT 100 1 n) 22 true [])] (zipA (bO12 (a0 + 1) a1) kO_12_1)) = true := okLit_row rfl (belO_O (by omega)) (okLit_row rfl (belO_I hn) (okLit_row rfl (belO_W hn) (litO_12_1 a0 a1)))
  have hZ3 : ∀ p ∈ ([(300 + i, 2097163, rowO [.int .i64 3])] : List (Nat × Nat × Blk)), 300 ≤ p.1 := fun p hp => by rw [List.mem_singleton.1 hp]; show 300 ≤ 300 + i; omega
  have hnd : (([(300 + i, 2097163, rowO [.int .i64 3])] : List (Nat × Nat × Blk)).map (·.1)).Nodup := by simp
  have k1 := keepIO Zs hn (i := i) hlit hZ3
  rw [expsR_eq] at ho
  · exact NewOK.abs (t := stO l n z (i + 1) (ggO r [1]) (bO12 (a0 + 1) a1)) (A := lapp [(n0O, 2097165, .row (zrows 300 1 (i + 1)) 22 true []), (30, 30, .row (zrowsT 0 1 n) 22 true []), (31, 31, .row (zrowsT 100 1 n) 22 true [])] (zipA (bO12 (a0 + 1) a1) kO_12_1)) (Z := [(300 + i, 2097163, rowO [.int .i64 3])]) (z := (zoO l z i))
      ⟨by rw [lmap_app, zipA_B]; rfl, by show T.set (zoO l z i) (outO l i) (300 + i) = T.set (zoO l z i) (rowO [.int .i64 3]) (300 + i); rw [hrow], by show 1049403 ≤ 2097152; decide, by kernel_rfl, hlit, keysO_12_1 n i a0 a1, actsO_12_1 n i a0 a1,
        fun p hp => by
          rw [List.mem_singleton.1 hp]
          refine ⟨by show 1049403 ≤ zn (300 + i); rw [zn_eq]; omega, by show zn (300 + i) < 2097152; rw [zn_eq]; omega, by show 1049403 ≤ 2097163; decide, by show 2097163 < 1000000000000; decide, by show 2097163 % 4096 ≠ 4095; decide, ?_⟩
          exact ⟨[3], 3, true, rfl⟩,
        hnd, zoO_ok Zs (by omega)⟩ rfl rfl rfl rfl ho
  · have e1 : (lapp (ltake (ldrop (zrows 300 1 i) 0) (Nat.mul i 1)) [.slc 2097163 0 1 1 false 1]) = renL (szs n0O (namesOf (lapp [(n0O, 2097165, .row (zrows 300 1 (i + 1)) 22 true []), (30, 30, .row (zrowsT 0 1 n) 22 true []), (31, 31, .row (zrowsT 100 1 n) 22 true [])] (zipA (bO12 (a0 + 1) a1) kO_12_1)) [(300 + i, 2097163, rowO [.int .i64 3])]) (kpOf (zoO l z i))) (zrows 300 1 (i + 1)) := by
      refine zrows_grow (i := i) (fun j hj => ?_) (szs_row hlit (by show 1049403 ≤ zn (300 + i); rw [zn_eq]; omega) (List.mem_singleton.2 rfl) hnd)
      exact szs_zone hlit (zgrow_new hj) (fun p hp e => by rw [List.mem_singleton.1 hp] at e; have e : 300 + i = 300 + j := e; omega)
    show [(some (Blk.row _ _ _ _), true), (some (Blk.row _ _ _ _), true), (some (Blk.row _ _ _ _), true)] = [(some (Blk.row (renL _ _) _ _ _), true), (some (Blk.row (renL _ _) _ _ _), true), (some (Blk.row (renL _ _) _ _ _), true)]
    rw [← e1]
    have k1 := k1
    skip
    rw [k1.1, k1.2]; rfl
theorem litO_12_0 (a0 : Int) (a1 : Int) : okLit n0O 2097152 (zipA (bO13 (a0 + 1) a1) kO_12_0) = true := by kernel_rfl
theorem keysO_12_0 (n i : Nat) (a0 : Int) (a1 : Int) : nodupQ (lmap (fun p => p.1) (lapp [(n0O, 2097167, .row (zrows 300 1 (i + 1)) 22 true []), (30, 30, .row (zrowsT 0 1 n) 22 true []), (31, 31, .row (zrowsT 100 1 n) 22 true [])] (zipA (bO13 (a0 + 1) a1) kO_12_0))) = true := by kernel_rfl
theorem actsO_12_0 (n i : Nat) (a0 : Int) (a1 : Int) : nodupQ (actsOf (lapp [(n0O, 2097167, .row (zrows 300 1 (i + 1)) 22 true []), (30, 30, .row (zrowsT 0 1 n) 22 true []), (31, 31, .row (zrowsT 100 1 n) 22 true [])] (zipA (bO13 (a0 + 1) a1) kO_12_0)) [(300 + i, 2097165, rowO [.int .i64 3])]) = true := by kernel_rfl
theorem absO_12_0 {l : Nat → Bool} {n : Nat} {z : T Blk} (Zs : ZinO l n z) (hn : n ≤ 60) {i : Nat} (hi : i < n) (r : Nat) (a0 : Int) (a1 : Int) (hrow : rowO [.int .i64 3] = outO l i) {env : Env} {h : H}
    (ho : obs [6, 7, 16, 17, 71, 72, 73] (actsOf (lapp [(n0O, 2097167, .row (zrows 300 1 (i + 1)) 22 true []), (30, 30, .row (zrowsT 0 1 n) 22 true []), (31, 31, .row (zrowsT 100 1 n) 22 true [])] (zipA (bO13 (a0 + 1) a1) kO_12_0)) [(300 + i, 2097165, rowO [.int .i64 3])]) (lapp [(n0O, 2097167, .row (zrows 300 1 (i + 1)) 22 true []), (30, 30, .row (zrowsT 0 1 n) 22 true []), (31, 31, .row (zrowsT 100 1 n) 22 true [])] (zipA (bO13 (a0 + 1) a1) kO_12_0)) [(300 + i, 2097165, rowO [.int .i64 3])] env h = expsR n0O (kpOf (zoO l z i)) (eO n (ggO r [0]) (.slc n0O 0 (i + 1) (i + 1) false 1) (i + 1)) [(n0O, 2097167, .row (zrows 300 1 (i + 1)) 22 true []), (30, 30, .row (zrowsT 0 1 n) 22 true []), (31, 31, .row (zrowsT 100 1 n) 22 true [])] (zipA (bO13 (a0 + 1) a1) kO_12_0) [(300 + i, 2097165, rowO [.int .i64 3])] (zoO l z i) [(some (.row (lapp (ltake (ldrop (zrows 300 1 i) 0) (Nat.mul i 1)) [.slc 2097165 0 1 1 false 1]) 22 true []), true), (some (.row (zrowsT 0 1 n) 22 true []), true), (some (.row (zrowsT 100 1 n) 22 true []), true)]) :
    ∃ σ, Abs n0O σ (stO l n z (i + 1) (ggO r [0]) (bO13 (a0 + 1) a1)).env (stO l n z (i + 1) (ggO r [0]) (bO13 (a0 + 1) a1)).h env h := by
  have hlit : okLit n0O 2097152 (lapp [(n0O, 2097167, .row (zrows 300 1 (i + 1)) 22 true []), (30, 30, .row (zrowsT 0 1 n) 22 true []), (31, 31, .row (zrowsT 100 1 n) 22 true [])] (zipA (bO13 (a0 + 1) a1) kO_12_0)) = true := okLit_row rfl (belO_O (by omega)) (okLit_row rfl (belO_I hn) (okLit_row rfl (belO_W hn) (litO_12_0 a0 a1)))
  have hZ3 : ∀ p ∈ ([(300 + i, 2097165, rowO [.int .i64 3])] : List (Nat × Nat × Blk)), 300 ≤ p.1 := fun p hp => by rw [List.mem_singleton.1 hp]; show 300 ≤ 300 + i; omega
  have hnd : (([(300 + i, 2097165, rowO [.int .i64 3])] : List (Nat × Nat × Blk)).map (·.1)).Nodup := by simp
  have k1 := keepIO Zs hn (i := i) hlit hZ3
  rw [expsR_eq] at ho
  · exact NewOK.abs (t := stO l n z (i + 1) (ggO r [0]) (bO13 (a0 + 1) a1)) (A := lapp [(n0O, 2097167, .row (zrows 300 1 (i + 1)) 22 true []), (30, 30, .row (zrowsT 0 1 n) 22 true []), (31, 31, .row (zrowsT 100 1 n) 22 true [])] (zipA (bO13 (a0 + 1) a1) kO_12_0)) (Z := [(300 + i, 2097165, rowO [.int .i64 3])]) (z := (zoO l z i))
      ⟨by rw [lmap_app, zipA_B]; rfl, by show T.set (zoO l z i) (outO l i) (300 + i) = T.set (zoO l z i) (rowO [.int .i64 3]) (300 + i); rw [hrow], by show 1049403 ≤ 2097152; decide, by kernel_rfl, hlit, keysO_12_0 n i a0 a1, actsO_12_0 n i a0 a1,
        fun p hp => by
          rw [List.mem_singleton.1 hp]
          refine ⟨by show 1049403 ≤ zn (300 + i); rw [zn_eq]; omega, by show zn (300 + i) < 2097152; rw [zn_eq]; omega, by show 1049403 ≤ 2097165; decide, by show 2097165 < 1000000000000; decide, by show 2097165 % 4096 ≠ 4095; decide, ?_⟩
          exact ⟨[3], 3, true, rfl⟩,
        hnd, zoO_ok Zs (by omega)⟩ rfl rfl rfl rfl ho
  · have e1 : (lapp (ltake (ldrop (zrows 300 1 i) 0) (Nat.mul i 1)) [.slc 2097165 0 1 1 false 1]) = renL (szs n0O (namesOf (lapp [(n0O, 2097167, .row (zrows 300 1 (i + 1)) 22 true []), (30, 30, .row (zrowsT 0 1 n) 22 true []), (31, 31, .row (zrowsT 100 1 n) 22 true [])] (zipA (bO13 (a0 + 1) a1) kO_12_0)) [(300 + i, 2097165, rowO [.int .i64 3])]) (kpOf (zoO l z i))) (zrows 300 1 (i + 1)) := by
      refine zrows_grow (i := i) (fun j hj => ?_) (szs_row hlit (by show 1049403 ≤ zn (300 + i); rw [zn_eq]; omega) (List.mem_singleton.2 rfl) hnd)
      exact szs_zone hlit (zgrow_new hj) (fun p hp e => by rw [List.mem_singleton.1 hp] at e; have e : 300 + i = 300 + j := e; omega)
    show [(some (Blk.row _ _ _ _), true), (some (Blk.row _ _ _ _), true), (some (Blk.row _ _ _ _), true)] = [(some (Blk.row (renL _ _) _ _ _), true), (some (Blk.row (renL _ _) _ _ _), true), (some (Blk.row (renL _ _) _ _ _), true)]
    rw [← e1]
    have k1 := k1
    skip
    rw [k1.1, k1.2]; rfl
theorem litO_13_0 (a0 : Int) (a1 : Int) : okLit n0O 2097152 (zipA (bO11 (a0 + 1) a0) kO_13_0) = true := by kernel_rfl
theorem keysO_13_0 (n i : Nat) (a0 : Int) (a1 : Int) : nodupQ (lmap (fun p => p.1) (lapp [(n0O, 2097204, .row (zrows 300 1 (i + 1)) 22 true []), (30, 30, .row (zrowsT 0 1 n) 22 true []), (31, 31, .row (zrowsT 100 1 n) 22 true [])] (zipA (bO11 (a0 + 1) a0) kO_13_0))) = true := by kernel_rfl
theorem actsO_13_0 (n i : Nat) (a0 : Int) (a1 : Int) : nodupQ (actsOf (lapp [(n0O, 2097204, .row (zrows 300 1 (i + 1)) 22 true []), (30, 30, .row (zrowsT 0 1 n) 22 true []), (31, 31, .row (zrowsT 100 1 n) 22 true [])] (zipA (bO11 (a0 + 1) a0) kO_13_0)) [(300 + i, 2097202, rowO [.int .i64 1])]) = true := by kernel_rfl
theorem absO_13_0 {l : Nat → Bool} {n : Nat} {z : T Blk} (Zs : ZinO l n z) (hn : n ≤ 60) {i : Nat} (hi : i < n) (r : Nat) (a0 : Int) (a1 : Int) (hrow : rowO [.int .i64 1] = outO l i) {env : Env} {h : H}
    (ho : obs [6, 7, 16, 17, 71, 72, 73] (actsOf (lapp [(n0O, 2097204, .row (zrows 300 1 (i + 1)) 22 true []), (30, 30, .row (zrowsT 0 1 n) 22 true []), (31, 31, .row (zrowsT 100 1 n) 22 true [])] (zipA (bO11 (a0 + 1) a0) kO_13_0)) [(300 + i, 2097202, rowO [.int .i64 1])]) (lapp [(n0O, 2097204, .row (zrows 300 1 (i + 1)) 22 true []), (30, 30, .row (zrowsT 0 1 n) 22 true []), (31, 31, .row (zrowsT 100 1 n) 22 true [])] (zipA (bO11 (a0 + 1) a0) kO_13_0)) [(300 + i, 2097202, rowO [.int .i64 1])] env h = expsR n0O (kpOf (zoO l z i)) (eO n (ggO r [0]) (.slc n0O 0 (i + 1) (i + 1) false 1) (i + 1)) [(n0O, 2097204, .row (zrows 300 1 (i + 1)) 22 true []), (30, 30, .row (zrowsT 0 1 n) 22 true []), (31, 31, .row (zrowsT 100 1 n) 22 true [])] (zipA (bO11 (a0 + 1) a0) kO_13_0) [(300 + i, 2097202, rowO [.int .i64 1])] (zoO l z i) [(some (.row (lapp (ltake (ldrop (zrows 300 1 i) 0) (Nat.mul i 1)) [.slc 2097202 0 1 1 false 1]) 22 true []), true), (some (.row (zrowsT 0 1 n) 22 true []), true), (some (.row (zrowsT 100 1 n) 22 true []), true)]) :
    ∃ σ, Abs n0O σ (stO l n z (i + 1) (ggO r [0]) (bO11 (a0 + 1) a0)).env (stO l n z (i + 1) (ggO r [0]) (bO11 (a0 + 1) a0)).h env h := by
  have hlit : okLit n0O 2097152 (lapp [(n0O, 2097204, .row (zrows 300 1 (i + 1)) 22 true []), (30, 30, .row (zrowsT 0 1 n) 22 true []), (31, 31, .row (zrowsT 100 1 n) 22 true [])] (zipA (bO11 (a0 + 1) a0) kO_13_0)) = true := okLit_row rfl (belO_O (by omega)) (okLit_row rfl (belO_I hn) (okLit_row rfl (belO_W hn) (litO_13_0 a0 a1)))
  have hZ3 : ∀ p ∈ ([(300 + i, 2097202, rowO [.int .i64 1])] : List (Nat × Nat × Blk)), 300 ≤ p.1 := fun p hp => by rw [List.mem_singleton.1 hp]; show 300 ≤ 300 + i; omega
  have hnd : (([(300 + i, 2097202, rowO [.int .i64 1])] : List (Nat × Nat × Blk)).map (·.1)).Nodup := by simp
  have k1 := keepIO Zs hn (i := i) hlit hZ3
  rw [expsR_eq] at ho
  · exact NewOK.abs (t := stO l n z (i + 1) (ggO r [0]) (bO11 (a0 + 1) a0)) (A := lapp [(n0O, 2097204, .row (zrows 300 1 (i + 1)) 22 true []), (30, 30, .row (zrowsT 0 1 n) 22 true []), (31, 31, .row (zrowsT 100 1 n) 22 true [])] (zipA (bO11 (a0 + 1) a0) kO_13_0)) (Z := [(300 + i, 2097202, rowO [.int .i64 1])]) (z := (zoO l z i))
      ⟨by rw [lmap_app, zipA_B]; rfl, by show T.set (zoO l z i) (outO l i) (300 + i) = T.set (zoO l z i) (rowO [.int .i64 1]) (300 + i); rw [hrow], by show 1049403 ≤ 2097152; decide, by kernel_rfl, hlit, keysO_13_0 n i a0 a1, actsO_13_0 n i a0 a1,
        fun p hp => by
          rw [List.mem_singleton.1 hp]
          refine ⟨by show 1049403 ≤ zn (300 + i); rw [zn_eq]; omega, by show zn (300 + i) < 2097152; rw [zn_eq]; omega, by show 1049403 ≤ 2097202; decide, by show 2097202 < 1000000000000; decide, by show 2097202 % 4096 ≠ 4095; decide, ?_⟩
          exact ⟨[1], 3, true, rfl⟩,
        hnd, zoO_ok Zs (by omega)⟩ rfl rfl rfl rfl ho
  · have e1 : (lapp (ltake (ldrop (zrows 300 1 i) 0) (Nat.mul i 1)) [.slc 2097202 0 1 1 false 1]) = renL (szs n0O (namesOf (lapp [(n0O, 2097204, .row (zrows 300 1 (i + 1)) 22 true []), (30, 30, .row (zrowsT 0 1 n) 22 true []), (31, 31, .row (zrowsT 100 1 n) 22 true [])] (zipA (bO11 (a0 + 1) a0) kO_13_0)) [(300 + i, 2097202, rowO [.int .i64 1])]) (kpOf (zoO l z i))) (zrows 300 1 (i + 1)) := by
      refine zrows_grow (i := i) (fun j hj => ?_) (szs_row hlit (by show 1049403 ≤ zn (300 + i); rw [zn_eq]; omega) (List.mem_singleton.2 rfl) hnd)
      exact szs_zone hlit (zgrow_new hj) (fun p hp e => by rw [List.mem_singleton.1 hp] at e; have e : 300 + i = 300 + j := e; omega)
    show [(some (Blk.row _ _ _ _), true), (some (Blk.row _ _ _ _), true), (some (Blk.row _ _ _ _), true)] = [(some (Blk.row (renL _ _) _ _ _), true), (some (Blk.row (renL _ _) _ _ _), true), (some (Blk.row (renL _ _) _ _ _), true)]
    rw [← e1]
    have k1 := k1
    skip
    rw [k1.1, k1.2]; rfl
theorem litO_2_1 (a0 : Int) (a1 : Int) : okLit n0O 2097152 (zipA (bO2 (a0 + 1) 1) kO_2_1) = true := by kernel_rfl
theorem keysO_2_1 (n i : Nat) (a0 : Int) (a1 : Int) : nodupQ (lmap (fun p => p.1) (lapp [(n0O, 2097206, .row (zrows 300 1 (i + 1)) 22 true []), (30, 30, .row (zrowsT 0 1 n) 22 true []), (31, 31, .row (zrowsT 100 1 n) 22 true [])] (zipA (bO2 (a0 + 1) 1) kO_2_1))) = true := by kernel_rfl
theorem actsO_2_1 (n i : Nat) (a0 : Int) (a1 : Int) : nodupQ (actsOf (lapp [(n0O, 2097206, .row (zrows 300 1 (i + 1)) 22 true []), (30, 30, .row (zrowsT 0 1 n) 22 true []), (31, 31, .row (zrowsT 100 1 n) 22 true [])] (zipA (bO2 (a0 + 1) 1) kO_2_1)) [(300 + i, 2097204, rowO [.int .i64 2])]) = true := by kernel_rfl
theorem absO_2_1 {l : Nat → Bool} {n : Nat} {z : T Blk} (Zs : ZinO l n z) (hn : n ≤ 60) {i : Nat} (hi : i < n) (r : Nat) (a0 : Int) (a1 : Int) (hrow : rowO [.int .i64 2] = outO l i) {env : Env} {h : H}
    (ho : obs [6, 7, 16, 17, 71, 72, 73] (actsOf (lapp [(n0O, 2097206, .row (zrows 300 1 (i + 1)) 22 true []), (30, 30, .row (zrowsT 0 1 n) 22 true []), (31, 31, .row (zrowsT 100 1 n) 22 true [])] (zipA (bO2 (a0 + 1) 1) kO_2_1)) [(300 + i, 2097204, rowO [.int .i64 2])]) (lapp [(n0O, 2097206, .row (zrows 300 1 (i + 1)) 22 true []), (30, 30, .row (zrowsT 0 1 n) 22 true []), (31, 31, .row (zrowsT 100 1 n) 22 true [])] (zipA (bO2 (a0 + 1) 1) kO_2_1)) [(300 + i, 2097204, rowO [.int .i64 2])] env h = expsR n0O (kpOf (zoO l z i)) (eO n (ggO r [1]) (.slc n0O 0 (i + 1) (i + 1) false 1) (i + 1)) [(n0O, 2097206, .row (zrows 300 1 (i + 1)) 22 true []), (30, 30, .row (zrowsT 0 1 n) 22 true []), (31, 31, .row (zrowsT 100 1 n) 22 true [])] (zipA (bO2 (a0 + 1) 1) kO_2_1) [(300 + i, 2097204, rowO [.int .i64 2])] (zoO l z i) [(some (.row (lapp (ltake (ldrop (zrows 300 1 i) 0) (Nat.mul i 1)) [.slc 2097204 0 1 1 false 1]) 22 true []), true), (some (.row (zrowsT 0 1 n) 22 true []), true), (some (.row (zrowsT 100 1 n) 22 true []), true)]) :
    ∃ σ, Abs n0O σ (stO l n z (i + 1) (ggO r [1]) (bO2 (a0 + 1) 1)).env (stO l n z (i + 1) (ggO r [1]) (bO2 (a0 + 1) 1)).h env h := by
  have hlit : okLit n0O 2097152 (lapp [(n0O, 2097206, .row (zrows 300 1 (i + 1)) 22 true []), (30, 30, .row (zrowsT 0 1 n) 22 true []), (31, 31, .row (zrowsT 100 1 n) 22 true [])] (zipA (bO2 (a0 + 1) 1) kO_2_1)) = true := okLit_row rfl (belO_O (by omega)) (okLit_row rfl (belO_I hn) (okLit_row rfl (belO_W hn) (litO_2_1 a0 a1)))
  have hZ3 : ∀ p ∈ ([(300 + i, 2097204, rowO [.int .i64 2])] : List (Nat × Nat × Blk)), 300 ≤ p.1 := fun p hp => by rw [List.mem_singleton.1 hp]; show 300 ≤ 300 + i; omega
  have hnd : (([(300 + i, 2097204, rowO [.int .i64 2])] : List (Nat × Nat × Blk)).map (·.1)).Nodup := by simp
  have k1 := keepIO Zs hn (i := i) hlit hZ3
  rw [expsR_eq] at ho
  · exact NewOK.abs (t := stO l n z (i + 1) (ggO r [1]) (bO2 (a0 + 1) 1)) (A := lapp [(n0O, 2097206, .row (zrows 300 1 (i + 1)) 22 true []), (30, 30, .row (zrowsT 0 1 n) 22 true []), (31, 31, .row (zrowsT 100 1 n) 22 true [])] (zipA (bO2 (a0 + 1) 1) kO_2_1)) (Z := [(300 + i, 2097204, rowO [.int .i64 2])]) (z := (zoO l z i))
      ⟨by rw [lmap_app, zipA_B]; rfl, by show T.set (zoO l z i) (outO l i) (300 + i) = T.set (zoO l z i) (rowO [.int .i64 2]) (300 + i); rw [hrow], by show 1049403 ≤ 2097152; decide, by kernel_rfl, hlit, keysO_2_1 n i a0 a1, actsO_2_1 n i a0 a1,
        fun p hp => by
          rw [List.mem_singleton.1 hp]
          refine ⟨by show 1049403 ≤ zn (300 + i); rw [zn_eq]; omega, by show zn (300 + i) < 2097152; rw [zn_eq]; omega, by show 1049403 ≤ 2097204; decide, by show 2097204 < 1000000000000; decide, by show 2097204 % 4096 ≠ 4095; decide, ?_⟩
          exact ⟨[2], 3, true, rfl⟩,
        hnd, zoO_ok Zs (by omega)⟩ rfl rfl rfl rfl ho
  · have e1 : (lapp (ltake (ldrop (zrows 300 1 i) 0) (Nat.mul i 1)) [.slc 2097204 0 1 1 false 1]) = renL (szs n0O (namesOf (lapp [(n0O, 2097206, .row (zrows 300 1 (i + 1)) 22 true []), (30, 30, .row (zrowsT 0 1 n) 22 true []), (31, 31, .row (zrowsT 100 1 n) 22 true [])] (zipA (bO2 (a0 + 1) 1) kO_2_1)) [(300 + i, 2097204, rowO [.int .i64 2])]) (kpOf (zoO l z i))) (zrows 300 1 (i + 1)) := by
      refine zrows_grow (i := i) (fun j hj => ?_) (szs_row hlit (by show 1049403 ≤ zn (300 + i); rw [zn_eq]; omega) (List.mem_singleton.2 rfl) hnd)
      exact szs_zone hlit (zgrow_new hj) (fun p hp e => by rw [List.mem_singleton.1 hp] at e; have e : 300 + i = 300 + j := e; omega)
    show [(some (Blk.row _ _ _ _), true), (some (Blk.row _ _ _ _), true), (some (Blk.row _ _ _ _), true)] = [(some (Blk.row (renL _ _) _ _ _), true), (some (Blk.row (renL _ _) _ _ _), true), (some (Blk.row (renL _ _) _ _ _), true)]
    rw [← e1]
    have k1 := k1
    skip
    rw [k1.1, k1.2]; rfl
theorem litO_3_0 (a0 : Int) (a1 : Int) : okLit n0O 2097152 (zipA (bO14 (a0 + 1) 0 a0) kO_3_0) = true := by kernel_rfl
theorem keysO_3_0 (n i : Nat) (a0 : Int) (a1 : Int) : nodupQ (lmap (fun p => p.1) (lapp [(n0O, 2097203, .row (zrows 300 1 (i + 1)) 22 true []), (30, 30, .row (zrowsT 0 1 n) 22 true []), (31, 31, .row (zrowsT 100 1 n) 22 true [])] (zipA (bO14 (a0 + 1) 0 a0) kO_3_0))) = true := by kernel_rfl
theorem actsO_3_0 (n i : Nat) (a0 : Int) (a1 : Int) : nodupQ (actsOf (lapp [(n0O, 2097203, .row (zrows 300 1 (i + 1)) 22 true []), (30, 30, .row (zrowsT 0 1 n) 22 true []), (31, 31, .row (zrowsT 100 1 n) 22 true [])] (zipA (bO14 (a0 + 1) 0 a0) kO_3_0)) [(300 + i, 2097201, rowO [.int .i64 2])]) = true := by kernel_rfl
theorem absO_3_0 {l : Nat → Bool} {n : Nat} {z : T Blk} (Zs : ZinO l n z) (hn : n ≤ 60) {i : Nat} (hi : i < n) (r : Nat) (a0 : Int) (a1 : Int) (hrow : rowO [.int .i64 2] = outO l i) {env : Env} {h : H}
    (ho : obs [6, 7, 16, 17, 71, 72, 73] (actsOf (lapp [(n0O, 2097203, .row (zrows 300 1 (i + 1)) 22 true []), (30, 30, .row (zrowsT 0 1 n) 22 true []), (31, 31, .row (zrowsT 100 1 n) 22 true [])] (zipA (bO14 (a0 + 1) 0 a0) kO_3_0)) [(300 + i, 2097201, rowO [.int .i64 2])]) (lapp [(n0O, 2097203, .row (zrows 300 1 (i + 1)) 22 true []), (30, 30, .row (zrowsT 0 1 n) 22 true []), (31, 31, .row (zrowsT 100 1 n) 22 true [])] (zipA (bO14 (a0 + 1) 0 a0) kO_3_0)) [(300 + i, 2097201, rowO [.int .i64 2])] env h = expsR n0O (kpOf (zoO l z i)) (eO n (ggO r [0]) (.slc n0O 0 (i + 1) (i + 1) false 1) (i + 1)) [(n0O, 2097203, .row (zrows 300 1 (i + 1)) 22 true []), (30, 30, .row (zrowsT 0 1 n) 22 true []), (31, 31, .row (zrowsT 100 1 n) 22 true [])] (zipA (bO14 (a0 + 1) 0 a0) kO_3_0) [(300 + i, 2097201, rowO [.int .i64 2])] (zoO l z i) [(some (.row (lapp (ltake (ldrop (zrows 300 1 i) 0) (Nat.mul i 1)) [.slc 2097201 0 1 1 false 1]) 22 true []), true), (some (.row (zrowsT 0 1 n) 22 true []), true), (some (.row (zrowsT 100 1 n) 22 true []), true)]) :
    ∃ σ, Abs n0O σ (stO l n z (i + 1) (ggO r [0]) (bO14 (a0 + 1) 0 a0)).env (stO l n z (i + 1) (ggO r [0]) (bO14 (a0 + 1) 0 a0)).h env h := by
  have hlit : okLit n0O 2097152 (lapp [(n0O, 2097203, .row (zrows 300 1 (i + 1)) 22 true []), (30, 30, .row (zrowsT 0 1 n) 22 true []), (31, 31, .row (zrowsT 100 1 n) 22 true [])] (zipA (bO14 (a0 + 1) 0 a0) kO_3_0)) = true := okLit_row rfl (belO_O (by omega)) (okLit_row rfl (belO_I hn) (okLit_row rfl (belO_W hn) (litO_3_0 a0 a1)))
  have hZ3 : ∀ p ∈ ([(300 + i, 2097201, rowO [.int .i64 2])] : List (Nat × Nat × Blk)), 300 ≤ p.1 := fun p hp => by rw [List.mem_singleton.1 hp]; show 300 ≤ 300 + i; omega
  have hnd : (([(300 + i, 2097201, rowO [.int .i64 2])] : List (Nat × Nat × Blk)).map (·.1)).Nodup := by simp
  have k1 := keepIO Zs hn (i := i) hlit hZ3
  rw [expsR_eq] at ho
  · exact NewOK.abs (t := stO l n z (i + 1) (ggO r [0]) (bO14 (a0 + 1) 0 a0)) (A := lapp [(n0O, 2097203, .row (zrows 300 1 (i + 1)) 22 true []), (30, 30, .row (zrowsT 0 1 n) 22 true []), (31, 31, .row (zrowsT 100 1 n) 22 true [])] (zipA (bO14 (a0 + 1) 0 a0) kO_3_0)) (Z := [(300 + i, 2097201, rowO [.int .i64 2])]) (z := (zoO l z i))
      ⟨by rw [lmap_app, zipA_B]; rfl, by show T.set (zoO l z i) (outO l i) (300 + i) = T.set (zoO l z i) (rowO [.int .i64 2]) (300 + i); rw [hrow], by show 1049403 ≤ 2097152; decide, by kernel_rfl, hlit, keysO_3_0 n i a0 a1, actsO_3_0 n i a0 a1,
        fun p hp => by
          rw [List.mem_singleton.1 hp]
          refine ⟨by show 1049403 ≤ zn (300 + i); rw [zn_eq]; omega, by show zn (300 + i) < 2097152; rw [zn_eq]; omega, by show 1049403 ≤ 2097201; decide, by show 2097201 < 1000000000000; decide, by show 2097201 % 4096 ≠ 4095; decide, ?_⟩
          exact ⟨[2], 3, true, rfl⟩,
        hnd, zoO_ok Zs (by omega)⟩ rfl rfl rfl rfl ho
  · have e1 : (lapp (ltake (ldrop (zrows 300 1 i) 0) (Nat.mul i 1)) [.slc 2097201 0 1 1 false 1]) = renL (szs n0O (namesOf (lapp [(n0O, 2097203, .row (zrows 300 1 (i + 1)) 22 true []), (30, 30, .row (zrowsT 0 1 n) 22 true []), (31, 31, .row (zrowsT 100 1 n) 22 true [])] (zipA (bO14 (a0 + 1) 0 a0) kO_3_0)) [(300 + i, 2097201, rowO [.int .i64 2])]) (kpOf (zoO l z i))) (zrows 300 1 (i + 1)) := by
      refine zrows_grow (i := i) (fun j hj => ?_) (szs_row hlit (by show 1049403 ≤ zn (300 + i); rw [zn_eq]; omega) (List.mem_singleton.2 rfl) hnd)
      exact szs_zone hlit (zgrow_new hj) (fun p hp e => by rw [List.mem_singleton.1 hp] at e; have e : 300 + i = 300 + j := e; omega)
    show [(some (Blk.row _ _ _ _), true), (some (Blk.row _ _ _ _), true), (some (Blk.row _ _ _ _), true)] = [(some (Blk.row (renL _ _) _ _ _), true), (some (Blk.row (renL _ _) _ _ _), true), (some (Blk.row (renL _ _) _ _ _), true)]
    rw [← e1]
    have k1 := k1
    skip
    rw [k1.1, k1.2]; rfl
theorem litO_9_1 (a0 : Int) : okLit n0O 2097152 (zipA (bO9 (a0 + 1)) kO_9_1) = true := by kernel_rfl
theorem keysO_9_1 (n i : Nat) (a0 : Int) : nodupQ (lmap (fun p => p.1) (lapp [(n0O, 2097165, .row (zrows 300 1 (i + 1)) 22 true []), (30, 30, .row (zrowsT 0 1 n) 22 true []), (31, 31, .row (zrowsT 100 1 n) 22 true [])] (zipA (bO9 (a0 + 1)) kO_9_1))) = true := by kernel_rfl
theorem actsO_9_1 (n i : Nat) (a0 : Int) : nodupQ (actsOf (lapp [(n0O, 2097165, .row (zrows 300 1 (i + 1)) 22 true []), (30, 30, .row (zrowsT 0 1 n) 22 true []), (31, 31, .row (zrowsT 100 1 n) 22 true [])] (zipA (bO9 (a0 + 1)) kO_9_1)) [(300 + i, 2097163, rowO [.int .i64 3])]) = true := by kernel_rfl
theorem absO_9_1 {l : Nat → Bool} {n : Nat} {z : T Blk} (Zs : ZinO l n z) (hn : n ≤ 60) {i : Nat} (hi : i < n) (r : Nat) (a0 : Int) (hrow : rowO [.int .i64 3] = outO l i) {env : Env} {h : H}
    (ho : obs [6, 7, 16, 17, 71, 72, 73] (actsOf (lapp [(n0O, 2097165, .row (zrows 300 1 (i + 1)) 22 true []), (30, 30, .row (zrowsT 0 1 n) 22 true []), (31, 31, .row (zrowsT 100 1 n) 22 true [])] (zipA (bO9 (a0 + 1)) kO_9_1)) [(300 + i, 2097163, rowO [.int .i64 3])]) (lapp [(n0O, 2097165, .row (zrows 300 1 (i + 1)) 22 true []), (30, 30, .row (zrowsT 0 1 n) 22 true []), (31, 31, .row (zrowsT 100 1 n) 22 true [])] (zipA (bO9 (a0 + 1)) kO_9_1)) [(300 + i, 2097163, rowO [.int .i64 3])] env h = expsR n0O (kpOf (zoO l z i)) (eO n (ggO r [1]) (.slc n0O 0 (i + 1) (i + 1) false 1) (i + 1)) [(n0O, 2097165, .row (zrows 300 1 (i + 1)) 22 true []), (30, 30, .row (zrowsT 0 1 n) 22 true []), (31, 31, .row (zrowsT 100 1 n) 22 true [])] (zipA (bO9 (a0 + 1)) kO_9_1) [(300 + i, 2097163, rowO [.int .i64 3])] (zoO l z i) [(some (.row (lapp (ltake (ldrop (zrows 300 1 i) 0) (Nat.mul i 1)) [.slc 2097163 0 1 1 false 1]) 22 true []), true), (some (.row (zrowsT 0 1 n) 22 true []), true), (some (.row (zrowsT 100 1 n) 22 true []), true)]) :
    ∃ σ, Abs n0O σ (stO l n z (i + 1) (ggO r [1]) (bO9 (a0 + 1))).env (stO l n z (i + 1) (ggO r [1]) (bO9 (a0 + 1))).h env h := by
  have hlit : okLit n0O 2097152 (lapp [(n0O, 2097165, .row (zrows 300 1 (i + 1)) 22 true []), (30, 30, .row (zrowsT 0 1 n) 22 true []), (31, 31, .row (zrowsT 100 1 n) 22 true [])] (zipA (bO9 (a0 + 1)) kO_9_1)) = true := okLit_row rfl (belO_O (by omega)) (okLit_row rfl (belO_I hn) (okLit_row rfl (belO_W hn) (litO_9_1 a0)))
  have hZ3 : ∀ p ∈ ([(300 + i, 2097163, rowO [.int .i64 3])] : List (Nat × Nat × Blk)), 300 ≤ p.1 := fun p hp => by rw [List.mem_singleton.1 hp]; show 300 ≤ 300 + i; omega
  have hnd : (([(300 + i, 2097163, rowO [.int .i64 3])] : List (Nat × Nat × Blk)).map (·.1)).Nodup := by simp
  have k1 := keepIO Zs hn (i := i) hlit hZ3
  rw [expsR_eq] at ho
  · exact NewOK.abs (t := stO l n z (i + 1) (ggO r [1]) (bO9 (a0 + 1))) (A := lapp [(n0O, 2097165, .row (zrows 300 1 (i + 1)) 22 true []), (30, 30, .row (zrowsT 0 1 n) 22 true []), (31, 31, .row (zrowsT 100 1 n) 22 true [])] (zipA (bO9 (a0 + 1)) kO_9_1)) (Z := [(300 + i, 2097163, rowO [.int .i64 3])]) (z := (zoO l z i))
      ⟨by rw [lmap_app, zipA_B]; rfl, by show T.set (zoO l z i) (outO l i) (300 + i) = T.set (zoO l z i) (rowO [.int .i64 3]) (300 + i); rw [hrow], by show 1049403 ≤ 2097152; decide, by kernel_rfl, hlit, keysO_9_1 n i a0, actsO_9_1 n i a0,
        fun p hp => by
          rw [List.mem_singleton.1 hp]
          refine ⟨by show 1049403 ≤ zn (300 + i); rw [zn_eq]; omega, by show zn (300 + i) < 2097152; rw [zn_eq]; omega, by show 1049403 ≤ 2097163; decide, by show 2097163 < 1000000000000; decide, by show 2097163 % 4096 ≠ 4095; decide, ?_⟩
          exact ⟨[3], 3, true, rfl⟩,
        hnd, zoO_ok Zs (by omega)⟩ rfl rfl rfl rfl ho
  · have e1 : (lapp (ltake (ldrop (zrows 300 1 i) 0) (Nat.mul i 1)) [.slc 2097163 0 1 1 false 1]) = renL (szs n0O (namesOf (lapp [(n0O, 2097165, .row (zrows 300 1 (i + 1)) 22 true []), (30, 30, .row (zrowsT 0 1 n) 22 true []), (31, 31, .row (zrowsT 100 1 n) 22 true [])] (zipA (bO9 (a0 + 1)) kO_9_1)) [(300 + i, 2097163, rowO [.int .i64 3])]) (kpOf (zoO l z i))) (zrows 300 1 (i + 1)) := by
      refine zrows_grow (i := i) (fun j hj => ?_) (szs_row hlit (by show 1049403 ≤ zn (300 + i); rw [zn_eq]; omega) (List.mem_singleton.2 rfl) hnd)
      exact szs_zone hlit (zgrow_new hj) (fun p hp e => by rw [List.mem_singleton.1 hp] at e; have e : 300 + i = 300 + j := e; omega)
    show [(some (Blk.row _ _ _ _), true), (some (Blk.row _ _ _ _), true), (some (Blk.row _ _ _ _), true)] = [(some (Blk.row (renL _ _) _ _ _), true), (some (Blk.row (renL _ _) _ _ _), true), (some (Blk.row (renL _ _) _ _ _), true)]
    rw [← e1]
    have k1 := k1
    skip
    rw [k1.1, k1.2]; rfl
theorem litO_10_1 (a0 : Int) : okLit n0O 2097152 (zipA (bO15 (a0 + 1) a0) kO_10_1) = true := by kernel_rfl
theorem keysO_10_1 (n i : Nat) (a0 : Int) : nodupQ (lmap (fun p => p.1) (lapp [(n0O, 2097206, .row (zrows 300 1 (i + 1)) 22 true []), (30, 30, .row (zrowsT 0 1 n) 22 true []), (31, 31, .row (zrowsT 100 1 n) 22 true [])] (zipA (bO15 (a0 + 1) a0) kO_10_1))) = true := by kernel_rfl
theorem actsO_10_1 (n i : Nat) (a0 : Int) : nodupQ (actsOf (lapp [(n0O, 2097206, .row (zrows 300 1 (i + 1)) 22 true []), (30, 30, .row (zrowsT 0 1 n) 22 true []), (31, 31, .row (zrowsT 100 1 n) 22 true [])] (zipA (bO15 (a0 + 1) a0) kO_10_1)) [(300 + i, 2097204, rowO [.int .i64 2])]) = true := by kernel_rfl
theorem absO_10_1 {l : Nat → Bool} {n : Nat} {z : T Blk} (Zs : ZinO l n z) (hn : n ≤ 60) {i : Nat} (hi : i < n) (r : Nat) (a0 : Int) (hrow : rowO [.int .i64 2] = outO l i) {env : Env} {h : H}
    (ho : obs [6, 7, 16, 17, 71, 72, 73] (actsOf (lapp [(n0O, 2097206, .row (zrows 300 1 (i + 1)) 22 true []), (30, 30, .row (zrowsT 0 1 n) 22 true []), (31, 31, .row (zrowsT 100 1 n) 22 true [])] (zipA (bO15 (a0 + 1) a0) kO_10_1)) [(300 + i, 2097204, rowO [.int .i64 2])]) (lapp [(n0O, 2097206, .row (zrows 300 1 (i + 1)) 22 true []), (30, 30, .row (zrowsT 0 1 n) 22 true []), (31, 31, .row (zrowsT 100 1 n) 22 true [])] (zipA (bO15 (a0 + 1) a0) kO_10_1)) [(300 + i, 2097204, rowO [.int .i64 2])] env h = expsR n0O (kpOf (zoO l z i)) (eO n (ggO r [1]) (.slc n0O 0 (i + 1) (i + 1) false 1) (i + 1)) [(n0O, 2097206, .row (zrows 300 1 (i + 1)) 22 true []), (30, 30, .row (zrowsT 0 1 n) 22 true []), (31, 31, .row (zrowsT 100 1 n) 22 true [])] (zipA (bO15 (a0 + 1) a0) kO_10_1) [(300 + i, 2097204, rowO [.int .i64 2])] (zoO l z i) [(some (.row (lapp (ltake (ldrop (zrows 300 1 i) 0) (Nat.mul i 1)) [.slc 2097204 0 1 1 false 1]) 22 true []), true), (some (.row (zrowsT 0 1 n) 22 true []), true), (some (.row (zrowsT 100 1 n) 22 true []), true)]) :
    ∃ σ, Abs n0O σ (stO l n z (i + 1) (ggO r [1]) (bO15 (a0 + 1) a0)).env (stO l n z (i + 1) (ggO r [1]) (bO15 (a0 + 1) a0)).h env h := by
  have hlit : okLit n0O 2097152 (lapp [(n0O, 2097206, .row (zrows 300 1 (i + 1)) 22 true []), (30, 30, .row (zrowsT 0 1 n) 22 true []), (31, 31, .row (zrowsT 100 1 n) 22 true [])] (zipA (bO15 (a0 + 1) a0) kO_10_1)) = true := okLit_row rfl (belO_O (by omega)) (okLit_row rfl (belO_I hn) (okLit_row rfl (belO_W hn) (litO_10_1 a0)))
  have hZ3 : ∀ p ∈ ([(300 + i, 2097204, rowO [.int .i64 2])] : List (Nat × Nat × Blk)), 300 ≤ p.1 := fun p hp => by rw [List.mem_singleton.1 hp]; show 300 ≤ 300 + i; omega
  have hnd : (([(300 + i, 2097204, rowO [.int .i64 2])] : List (Nat × Nat × Blk)).map (·.1)).Nodup := by simp
  have k1 := keepIO Zs hn (i := i) hlit hZ3
  rw [expsR_eq] at ho
  · exact NewOK.abs (t := stO l n z (i + 1) (ggO r [1]) (bO15 (a0 + 1) a0)) (A := lapp [(n0O, 2097206, .row (zrows 300 1 (i + 1)) 22 true []), (30, 30, .row (zrowsT 0 1 n) 22 true []), (31, 31, .row (zrowsT 100 1 n) 22 true [])] (zipA (bO15 (a0 + 1) a0) kO_10_1)) (Z := [(300 + i, 2097204, rowO [.int .i64 2])]) (z := (zoO l z i))
      ⟨by rw [lmap_app, zipA_B]; rfl, by show T.set (zoO l z i) (outO l i) (300 + i) = T.set (zoO l z i) (rowO [.int .i64 2]) (300 + i); rw [hrow], by show 1049403 ≤ 2097152; decide, by kernel_rfl, hlit, keysO_10_1 n i a0, actsO_10_1 n i a0,
        fun p hp => by
          rw [List.mem_singleton.1 hp]
          refine ⟨by show 1049403 ≤ zn (300 + i); rw [zn_eq]; omega, by show zn (300 + i) < 2097152; rw [zn_eq]; omega, by show 1049403 ≤ 2097204; decide, by show 2097204 < 1000000000000; decide, by show 2097204 % 4096 ≠ 4095; decide, ?_⟩
          exact ⟨[2], 3, true, rfl⟩,
        hnd, zoO_ok Zs (by omega)⟩ rfl rfl rfl rfl ho
  · have e1 : (lapp (ltake (ldrop (zrows 300 1 i) 0) (Nat.mul i 1)) [.slc 2097204 0 1 1 false 1]) = renL (szs n0O (namesOf (lapp [(n0O, 2097206, .row (zrows 300 1 (i + 1)) 22 true []), (30, 30, .row (zrowsT 0 1 n) 22 true []), (31, 31, .row (zrowsT 100 1 n) 22 true [])] (zipA (bO15 (a0 + 1) a0) kO_10_1)) [(300 + i, 2097204, rowO [.int .i64 2])]) (kpOf (zoO l z i))) (zrows 300 1 (i + 1)) := by
      refine zrows_grow (i := i) (fun j hj => ?_) (szs_row hlit (by show 1049403 ≤ zn (300 + i); rw [zn_eq]; omega) (List.mem_singleton.2 rfl) hnd)
      exact szs_zone hlit (zgrow_new hj) (fun p hp e => by rw [List.mem_singleton.1 hp] at e; have e : 300 + i = 300 + j := e; omega)
    show [(some (Blk.row _ _ _ _), true), (some (Blk.row _ _ _ _), true), (some (Blk.row _ _ _ _), true)] = [(some (Blk.row (renL _ _) _ _ _), true), (some (Blk.row (renL _ _) _ _ _), true), (some (Blk.row (renL _ _) _ _ _), true)]
    rw [← e1]
    have k1 := k1
    skip
    rw [k1.1, k1.2]; rfl
theorem litO_11_0 (a0 : Int) (a1 : Int) : okLit n0O 2097152 (zipA (bO7 (a0 + 1) 0 a0 a1) kO_11_0) = true := by kernel_rfl
theorem keysO_11_0 (n i : Nat) (a0 : Int) (a1 : Int) : nodupQ (lmap (fun p => p.1) (lapp [(n0O, 2097203, .row (zrows 300 1 (i + 1)) 22 true []), (30, 30, .row (zrowsT 0 1 n) 22 true []), (31, 31, .row (zrowsT 100 1 n) 22 true [])] (zipA (bO7 (a0 + 1) 0 a0 a1) kO_11_0))) = true := by kernel_rfl
theorem actsO_11_0 (n i : Nat) (a0 : Int) (a1 : Int) : nodupQ (actsOf (lapp [(n0O, 2097203, .row (zrows 300 1 (i + 1)) 22 true []), (30, 30, .row (zrowsT 0 1 n) 22 true []), (31, 31, .row (zrowsT 100 1 n) 22 true [])] (zipA (bO7 (a0 + 1) 0 a0 a1) kO_11_0)) [(300 + i, 2097201, rowO [.int .i64 2])]) = true := by kernel_rfl
theorem absO_11_0 {l : Nat → Bool} {n : Nat} {z : T Blk} (Zs : ZinO l n z) (hn : n ≤ 60) {i : Nat} (hi : i < n) (r : Nat) (a0 : Int) (a1 : Int) (hrow : rowO [.int .i64 2] = outO l i) {env : Env} {h : H}
    (ho : obs [6, 7, 16, 17, 71, 72, 73] (actsOf (lapp [(n0O, 2097203, .row (zrows 300 1 (i + 1)) 22 true []), (30, 30, .row (zrowsT 0 1 n) 22 true []), (31, 31, .row (zrowsT 100 1 n) 22 true [])] (zipA (bO7 (a0 + 1) 0 a0 a1) kO_11_0)) [(300 + i, 2097201, rowO [.int .i64 2])]) (lapp [(n0O, 2097203, .row (zrows 300 1 (i + 1)) 22 true []), (30, 30, .row (zrowsT 0 1 n) 22 true []), (31, 31, .row (zrowsT 100 1 n) 22 true [])] (zipA (bO7 (a0 + 1) 0 a0 a1) kO_11_0)) [(300 + i, 2097201, rowO [.int .i64 2])] env h = expsR n0O (kpOf (zoO l z i)) (eO n (ggO r [0]) (.slc n0O 0 (i + 1) (i + 1) false 1) (i + 1)) [(n0O, 2097203, .row (zrows 300 1 (i + 1)) 22 true []), (30, 30, .row (zrowsT 0 1 n) 22 true []), (31, 31, .row (zrowsT 100 1 n) 22 true [])] (zipA (bO7 (a0 + 1) 0 a0 a1) kO_11_0) [(300 + i, 2097201, rowO [.int .i64 2])] (zoO l z i) [(some (.row (lapp (ltake (ldrop (zrows 300 1 i) 0) (Nat.mul i 1)) [.slc 2097201 0 1 1 false 1]) 22 true []), true), (some (.row (zrowsT 0 1 n) 22 true []), true), (some (.row (zrowsT 100 1 n) 22 true []), true)]) :
    ∃ σ, Abs n0O σ (stO l n z (i + 1) (ggO r [0]) (bO7 (a0 + 1) 0 a0 a1)).env (stO l n z (i + 1) (ggO r [0]) (bO7 (a0 + 1) 0 a0 a1)).h env h := by
  have hlit : okLit n0O 2097152 (lapp [(n0O, 2097203, .row (zrows 300 1 (i + 1)) 22 true []), (30, 30, .row (zrowsT 0 1 n) 22 true []), (31, 31, .row (zrowsT 100 1 n) 22 true [])] (zipA (bO7 (a0 + 1) 0 a0 a1) kO_11_0)) = true := okLit_row rfl (belO_O (by omega)) (okLit_row rfl (belO_I hn) (okLit_row rfl (belO_W hn) (litO_11_0 a0 a1)))
  have hZ3 : ∀ p ∈ ([(300 + i, 2097201, rowO [.int .i64 2])] : List (Nat × Nat × Blk)), 300 ≤ p.1 := fun p hp => by rw [List.mem_singleton.1 hp]; show 300 ≤ 300 + i; omega
  have hnd : (([(300 + i, 2097201, rowO [.int .i64 2])] : List (Nat × Nat × Blk)).map (·.1)).Nodup := by simp
  have k1 := keepIO Zs hn (i := i) hlit hZ3
  rw [expsR_eq] at ho
  · exact NewOK.abs (t := stO l n z (i + 1) (ggO r [0]) (bO7 (a0 + 1) 0 a0 a1)) (A := lapp [(n0O, 2097203, .row (zrows 300 1 (i + 1)) 22 true []), (30, 30, .row (zrowsT 0 1 n) 22 true []), (31, 31, .row (zrowsT 100 1 n) 22 true [])] (zipA (bO7 (a0 + 1) 0 a0 a1) kO_11_0)) (Z := [(300 + i, 2097201, rowO [.int .i64 2])]) (z := (zoO l z i))
      ⟨by rw [lmap_app, zipA_B]; rfl, by show T.set (zoO l z i) (outO l i) (300 + i) = T.set (zoO l z i) (rowO [.int .i64 2]) (300 + i); rw [hrow], by show 1049403 ≤ 2097152; decide, by kernel_rfl, hlit, keysO_11_0 n i a0 a1, actsO_11_0 n i a0 a1,
        fun p hp => by
          rw [List.mem_singleton.1 hp]
          refine ⟨by show 1049403 ≤ zn (300 + i); rw [zn_eq]; omega, by show zn (300 + i) < 2097152; rw [zn_eq]; omega, by show 1049403 ≤ 2097201; decide, by show 2097201 < 1000000000000; decide, by show 2097201 % 4096 ≠ 4095; decide, ?_⟩
          exact ⟨[2], 3, true, rfl⟩,
        hnd, zoO_ok Zs (by omega)⟩ rfl rfl rfl rfl ho
  · have e1 : (lapp (ltake (ldrop (zrows 300 1 i) 0) (Nat.mul i 1)) [.slc 2097201 0 1 1 false 1]) = renL (szs n0O (namesOf (lapp [(n0O, 2097203, .row (zrows 300 1 (i + 1)) 22 true []), (30, 30, .row (zrowsT 0 1 n) 22 true []), (31, 31, .row (zrowsT 100 1 n) 22 true [])] (zipA (bO7 (a0 + 1) 0 a0 a1) kO_11_0)) [(300 + i, 2097201, rowO [.int .i64 2])]) (kpOf (zoO l z i))) (zrows 300 1 (i + 1)) := by
      refine zrows_grow (i := i) (fun j hj => ?_) (szs_row hlit (by show 1049403 ≤ zn (300 + i); rw [zn_eq]; omega) (List.mem_singleton.2 rfl) hnd)
      exact szs_zone hlit (zgrow_new hj) (fun p hp e => by rw [List.mem_singleton.1 hp] at e; have e : 300 + i = 300 + j := e; omega)
    show [(some (Blk.row _ _ _ _), true), (some (Blk.row _ _ _ _), true), (some (Blk.row _ _ _ _), true)] = [(some (Blk.row (renL _ _) _ _ _), true), (some (Blk.row (renL _ _) _ _ _), true), (some (Blk.row (renL _ _) _ _ _), true)]
    rw [← e1]
    have k1 := k1
    skip
    rw [k1.1, k1.2]; rfl
theorem litO_13_1 (a0 : Int) (a1 : Int) : okLit n0O 2097152 (zipA (bO7 (a0 + 1) 1 a1 a0) kO_13_1) = true := by kernel_rfl
theorem keysO_13_1 (n i : Nat) (a0 : Int) (a1 : Int) : nodupQ (lmap (fun p => p.1) (lapp [(n0O, 2097206, .row (zrows 300 1 (i + 1)) 22 true []), (30, 30, .row (zrowsT 0 1 n) 22 true []), (31, 31, .row (zrowsT 100 1 n) 22 true [])] (zipA (bO7 (a0 + 1) 1 a1 a0) kO_13_1))) = true := by kernel_rfl
theorem actsO_13_1 (n i : Nat) (a0 : Int) (a1 : Int) : nodupQ (actsOf (lapp [(n0O, 2097206, .row (zrows 300 1 (i + 1)) 22 true []), (30, 30, .row (zrowsT 0 1 n) 22 true []), (31, 31, .row (zrowsT 100 1 n) 22 true [])] (zipA (bO7 (a0 + 1) 1 a1 a0) kO_13_1)) [(300 + i, 2097204, rowO [.int .i64 2])]) = true := by kernel_rfl
theorem absO_13_1 {l : Nat → Bool} {n : Nat} {z : T Blk} (Zs : ZinO l n z) (hn : n ≤ 60) {i : Nat} (hi : i < n) (r : Nat) (a0 : Int) (a1 : Int) (hrow : rowO [.int .i64 2] = outO l i) {env : Env} {h : H}
    (ho : obs [6, 7, 16, 17, 71, 72, 73] (actsOf (lapp [(n0O, 2097206, .row (zrows 300 1 (i + 1)) 22 true []), (30, 30, .row (zrowsT 0 1 n) 22 true []), (31, 31, .row (zrowsT 100 1 n) 22 true [])] (zipA (bO7 (a0 + 1) 1 a1 a0) kO_13_1)) [(300 + i, 2097204, rowO [.int .i64 2])]) (lapp [(n0O, 2097206, .row (zrows 300 1 (i + 1)) 22 true []), (30, 30, .row (zrowsT 0 1 n) 22 true []), (31, 31, .row (zrowsT 100 1 n) 22 true [])] (zipA (bO7 (a0 + 1) 1 a1 a0) kO_13_1)) [(300 + i, 2097204, rowO [.int .i64 2])] env h = expsR n0O (kpOf (zoO l z i)) (eO n (ggO r [1]) (.slc n0O 0 (i + 1) (i + 1) false 1) (i + 1)) [(n0O, 2097206, .row (zrows 300 1 (i + 1)) 22 true []), (30, 30, .row (zrowsT 0 1 n) 22 true []), (31, 31, .row (zrowsT 100 1 n) 22 true [])] (zipA (bO7 (a0 + 1) 1 a1 a0) kO_13_1) [(300 + i, 2097204, rowO [.int .i64 2])] (zoO l z i) [(some (.row (lapp (ltake (ldrop (zrows 300 1 i) 0) (Nat.mul i 1)) [.slc 2097204 0 1 1 false 1]) 22 true []), true), (some (.row (zrowsT 0 1 n) 22 true []), true), (some (.row (zrowsT 100 1 n) 22 true []), true)]) :
    ∃ σ, Abs n0O σ (stO l n z (i + 1) (ggO r [1]) (bO7 (a0 + 1) 1 a1 a0)).env (stO l n z (i + 1) (ggO r [1]) (bO7 (a0 + 1) 1 a1 a0)).h env h := by
  have hlit : okLit n0O 2097152 (lapp [(n0O, 2097206, .row (zrows 300 1 (i + 1)) 22 true []), (30, 30, .row (zrowsT 0 1 n) 22 true []), (31, 31, .row (zrowsT 100 1 n) 22 true [])] (zipA (bO7 (a0 + 1) 1 a1 a0) kO_13_1)) = true := okLit_row rfl (belO_O (by omega)) (okLit_row rfl (belO_I hn) (okLit_row rfl (belO_W hn) (litO_13_1 a0 a1)))
  have hZ3 : ∀ p ∈ ([(300 + i, 2097204, rowO [.int .i64 2])] : List (Nat × Nat × Blk)), 300 ≤ p.1 := fun p hp => by rw [List.mem_singleton.1 hp]; show 300 ≤ 300 + i; omega
  have hnd : (([(300 + i, 2097204, rowO [.int .i64 2])] : List (Nat × Nat × Blk)).map (·.1)).Nodup := by simp
  have k1 := keepIO Zs hn (i := i) hlit hZ3
  rw [expsR_eq] at ho
  · exact NewOK.abs (t := stO l n z (i + 1) (ggO r [1]) (bO7 (a0 + 1) 1 a1 a0)) (A := lapp [(n0O, 2097206, .row (zrows 300 1 (i + 1)) 22 true []), (30, 30, .row (zrowsT 0 1 n) 22 true []), (31, 31, .row (zrowsT 100 1 n) 22 true [])] (zipA (bO7 (a0 + 1) 1 a1 a0) kO_13_1)) (Z := [(300 + i, 2097204, rowO [.int .i64 2])]) (z := (zoO l z i))
      ⟨by rw [lmap_app, zipA_B]; rfl, by show T.set (zoO l z i) (outO l i) (300 + i) = T.set (zoO l z i) (rowO [.int .i64 2]) (300 + i); rw [hrow], by show 1049403 ≤ 2097152; decide, by kernel_rfl, hlit, keysO_13_1 n i a0 a1, actsO_13_1 n i a0 a1,
        fun p hp => by
          rw [List.mem_singleton.1 hp]
          refine ⟨by show 1049403 ≤ zn (300 + i); rw [zn_eq]; omega, by show zn (300 + i) < 2097152; rw [zn_eq]; omega, by show 1049403 ≤ 2097204; decide, by show 2097204 < 1000000000000; decide, by show 2097204 % 4096 ≠ 4095; decide, ?_⟩
          exact ⟨[2], 3, true, rfl⟩,
        hnd, zoO_ok Zs (by omega)⟩ rfl rfl rfl rfl ho
  · have e1 : (lapp (ltake (ldrop (zrows 300 1 i) 0) (Nat.mul i 1)) [.slc 2097204 0 1 1 false 1]) = renL (szs n0O (namesOf (lapp [(n0O, 2097206, .row (zrows 300 1 (i + 1)) 22 true []), (30, 30, .row (zrowsT 0 1 n) 22 true []), (31, 31, .row (zrowsT 100 1 n) 22 true [])] (zipA (bO7 (a0 + 1) 1 a1 a0) kO_13_1)) [(300 + i, 2097204, rowO [.int .i64 2])]) (kpOf (zoO l z i))) (zrows 300 1 (i + 1)) := by
      refine zrows_grow (i := i) (fun j hj => ?_) (szs_row hlit (by show 1049403 ≤ zn (300 + i); rw [zn_eq]; omega) (List.mem_singleton.2 rfl) hnd)
      exact szs_zone hlit (zgrow_new hj) (fun p hp e => by rw [List.mem_singleton.1 hp] at e; have e : 300 + i = 300 + j := e; omega)
    show [(some (Blk.row _ _ _ _), true), (some (Blk.row _ _ _ _), true), (some (Blk.row _ _ _ _), true)] = [(some (Blk.row (renL _ _) _ _ _), true), (some (Blk.row (renL _ _) _ _ _), true), (some (Blk.row (renL _ _) _ _ _), true)]
    rw [← e1]
    have k1 := k1
    skip
    rw [k1.1, k1.2]; rfl
theorem litO_14_0 (a0 : Int) (a1 : Int) (a2 : Int) : okLit n0O 2097152 (zipA (bO3 (a0 + 1) a0) kO_14_0) = true := by kernel_rfl
theorem keysO_14_0 (n i : Nat) (a0 : Int) (a1 : Int) (a2 : Int) : nodupQ (lmap (fun p => p.1) (lapp [(n0O, 2097204, .row (zrows 300 1 (i + 1)) 22 true []), (30, 30, .row (zrowsT 0 1 n) 22 true []), (31, 31, .row (zrowsT 100 1 n) 22 true [])] (zipA (bO3 (a0 + 1) a0) kO_14_0))) = true := by kernel_rfl
theorem actsO_14_0 (n i : Nat) (a0 : Int) (a1 : Int) (a2 : Int) : nodupQ (actsOf (lapp [(n0O, 2097204, .row (zrows 300 1 (i + 1)) 22 true []), (30, 30, .row (zrowsT 0 1 n) 22 true []), (31, 31, .row (zrowsT 100 1 n) 22 true [])] (zipA (bO3 (a0 + 1) a0) kO_14_0)) [(300 + i, 2097202, rowO [.int .i64 1])]) = true := by kernel_rfl
theorem absO_14_0 {l : Nat → Bool} {n : Nat} {z : T Blk} (Zs : ZinO l n z) (hn : n ≤ 60) {i : Nat} (hi : i < n) (r : Nat) (a0 : Int) (a1 : Int) (a2 : Int) (hrow : rowO [.int .i64 1] = outO l i) {env : Env} {h : H}
    (ho : obs [6, 7, 16, 17, 71, 72, 73] (actsOf (lapp [(n0O, 2097204, .row (zrows 300 1 (i + 1)) 22 true []), (30, 30, .row (zrowsT 0 1 n) 22 true []), (31, 31, .row (zrowsT 100 1 n) 22 true [])] (zipA (bO3 (a0 + 1) a0) kO_14_0)) [(300 + i, 2097202, rowO [.int .i64 1])]) (lapp [(n0O, 2097204, .row (zrows 300 1 (i + 1)) 22 true []), (30, 30, .row (zrowsT 0 1 n) 22 true []), (31, 31, .row (zrowsT 100 1 n) 22 true [])] (zipA (bO3 (a0 + 1) a0) kO_14_0)) [(300 + i, 2097202, rowO [.int .i64 1])] env h = expsR n0O (kpOf (zoO l z i)) (eO n (ggO r [0]) (.slc n0O 0 (i + 1) (i + 1) false 1) (i + 1)) [(n0O, 2097204, .row (zrows 300 1 (i + 1)) 22 true []), (30, 30, .row (zrowsT 0 1 n) 22 true []), (31, 31, .row (zrowsT 100 1 n) 22 true [])] (zipA (bO3 (a0 + 1) a0) kO_14_0) [(300 + i, 2097202, rowO [.int .i64 1])] (zoO l z i) [(some (.row (lapp (ltake (ldrop (zrows 300 1 i) 0) (Nat.mul i 1)) [.slc 2097202 0 1 1 false 1]) 22 true []), true), (some (.row (zrowsT 0 1 n) 22 true []), true), (some (.row (zrowsT 100 1 n) 22 true []), true)]) :
    ∃ σ, Abs n0O σ (stO l n z (i + 1) (ggO r [0]) (bO3 (a0 + 1) a0)).env (stO l n z (i + 1) (ggO r [0]) (bO3 (a0 + 1) a0)).h env h := by
  have hlit : okLit n0O 2097152 (lapp [(n0O, 2097204, .row (zrows 300 1 (i + 1)) 22 true []), (30, 30, .row (zrowsT 0 1 n) 22 true []), (31, 31, .row (zrowsT 100 1 n) 22 true [])] (zipA (bO3 (a0 + 1) a0) kO_14_0)) = true := okLit_row rfl (belO_O (by omega)) (okLit_row rfl (belO_I hn) (okLit_row rfl (belO_W hn) (litO_14_0 a0 a1 a2)))
  have hZ3 : ∀ p ∈ ([(300 + i, 2097202, rowO [.int .i64 1])] : List (Nat × Nat × Blk)), 300 ≤ p.1 := fun p hp => by rw [List.mem_singleton.1 hp]; show 300 ≤ 300 + i; omega
  have hnd : (([(300 + i, 2097202, rowO [.int .i64 1])] : List (Nat × Nat × Blk)).map (·.1)).Nodup := by simp
  have k1 := keepIO Zs hn (i := i) hlit hZ3
  rw [expsR_eq] at ho
  · exact NewOK.abs (t := stO l n z (i + 1) (ggO r [0]) (bO3 (a0 + 1) a0)) (A := lapp [(n0O, 2097204, .row (zrows 300 1 (i + 1)) 22 true []), (30, 30, .row (zrowsT 0 1 n) 22 true []), (31, 31, .row (zrowsT 100 1 n) 22 true [])] (zipA (bO3 (a0 + 1) a0) kO_14_0)) (Z := [(300 + i, 2097202, rowO [.int .i64 1])]) (z := (zoO l z i))
      ⟨by rw [lmap_app, zipA_B]; rfl, by show T.set (zoO l z i) (outO l i) (300 + i) = T.set (zoO l z i) (rowO [.int .i64 1]) (300 + i); rw [hrow], by show 1049403 ≤ 2097152; decide, by kernel_rfl, hlit, keysO_14_0 n i a0 a1 a2, actsO_14_0 n i a0 a1 a2,
        fun p hp => by
          rw [List.mem_singleton.1 hp]
          refine ⟨by show 1049403 ≤ zn (300 + i); rw [zn_eq]; omega, by show zn (300 + i) < 2097152; rw [zn_eq]; omega, by show 1049403 ≤ 2097202; decide, by show 2097202 < 1000000000000; decide, by show 2097202 % 4096 ≠ 4095; decide, ?_⟩
          exact ⟨[1], 3, true, rfl⟩,
        hnd, zoO_ok Zs (by omega)⟩ rfl rfl rfl rfl ho
  · have e1 : (lapp (ltake (ldrop (zrows 300 1 i) 0) (Nat.mul i 1)) [.slc 2097202 0 1 1 false 1]) = renL (szs n0O (namesOf (lapp [(n0O, 2097204, .row (zrows 300 1 (i + 1)) 22 true []), (30, 30, .row (zrowsT 0 1 n) 22 true []), (31, 31, .row (zrowsT 100 1 n) 22 true [])] (zipA (bO3 (a0 + 1) a0) kO_14_0)) [(300 + i, 2097202, rowO [.int .i64 1])]) (kpOf (zoO l z i))) (zrows 300 1 (i + 1)) := by
      refine zrows_grow (i := i) (fun j hj => ?_) (szs_row hlit (by show 1049403 ≤ zn (300 + i); rw [zn_eq]; omega) (List.mem_singleton.2 rfl) hnd)
      exact szs_zone hlit (zgrow_new hj) (fun p hp e => by rw [List.mem_singleton.1 hp] at e; have e : 300 + i = 300 + j := e; omega)
    show [(some (Blk.row _ _ _ _), true), (some (Blk.row _ _ _ _), true), (some (Blk.row _ _ _ _), true)] = [(some (Blk.row (renL _ _) _ _ _), true), (some (Blk.row (renL _ _) _ _ _), true), (some (Blk.row (renL _ _) _ _ _), true)]
    rw [← e1]
    have k1 := k1
    skip
    rw [k1.1, k1.2]; rfl
theorem litO_14_1 (a0 : Int) (a1 : Int) (a2 : Int) : okLit n0O 2097152 (zipA (bO14 (a0 + 1) 1 a2) kO_14_1) = true := by kernel_rfl
theorem keysO_14_1 (n i : Nat) (a0 : Int) (a1 : Int) (a2 : Int) : nodupQ (lmap (fun p => p.1) (lapp [(n0O, 2097206, .row (zrows 300 1 (i + 1)) 22 true []), (30, 30, .row (zrowsT 0 1 n) 22 true []), (31, 31, .row (zrowsT 100 1 n) 22 true [])] (zipA (bO14 (a0 + 1) 1 a2) kO_14_1))) = true := by kernel_rfl
theorem actsO_14_1 (n i : Nat) (a0 : Int) (a1 : Int) (a2 : Int) : nodupQ (actsOf (lapp [(n0O, 2097206, .row (zrows 300 1 (i + 1)) 22 true []), (30, 30, .row (zrowsT 0 1 n) 22 true []), (31, 31, .row (zrowsT 100 1 n) 22 true [])] (zipA (bO14 (a0 + 1) 1 a2) kO_14_1)) [(300 + i, 2097204, rowO [.int .i64 2])]) = true := by kernel_rfl
theorem absO_14_1 {l : Nat → Bool} {n : Nat} {z : T Blk} (Zs : ZinO l n z) (hn : n ≤ 60) {i : Nat} (hi : i < n) (r : Nat) (a0 : Int) (a1 : Int) (a2 : Int) (hrow : rowO [.int .i64 2] = outO l i) {env : Env} {h : H}
    (ho : obs [6, 7, 16, 17, 71, 72, 73] (actsOf (lapp [(n0O, 2097206, .row (zrows 300 1 (i + 1)) 22 true []), (30, 30, .row (zrowsT 0 1 n) 22 true []), (31, 31, .row (zrowsT 100 1 n) 22 true [])] (zipA (bO14 (a0 + 1) 1 a2) kO_14_1)) [(300 + i, 2097204, rowO [.int .i64 2])]) (lapp [(n0O, 2097206, .row (zrows 300 1 (i + 1)) 22 true []), (30, 30, .row (zrowsT 0 1 n) 22 true []), (31, 31, .row (zrowsT 100 1 n) 22 true [])] (zipA (bO14 (a0 + 1) 1 a2) kO_14_1)) [(300 + i, 2097204, rowO [.int .i64 2])] env h = expsR n0O (kpOf (zoO l z i)) (eO n (ggO r [1]) (.slc n0O 0 (i + 1) (i + 1) false 1) (i + 1)) [(n0O, 2097206, .row (zrows 300 1 (i + 1)) 22 true []), (30, 30, .row (zrowsT 0 1 n) 22 true []), (31, 31, .row (zrowsT 100 1 n) 22 true [])] (zipA (bO14 (a0 + 1) 1 a2) kO_14_1) [(300 + i, 2097204, rowO [.int .i64 2])] (zoO l z i) [(some (.row (lapp (ltake (ldrop (zrows 300 1 i) 0) (Nat.mul i 1)) [.slc 2097204 0 1 1 false 1]) 22 true []), true), (some (.row (zrowsT 0 1 n) 22 true []), true), (some (.row (zrowsT 100 1 n) 22 true []), true)]) :
    ∃ σ, Abs n0O σ (stO l n z (i + 1) (ggO r [1]) (bO14 (a0 + 1) 1 a2)).env (stO l n z (i + 1) (ggO r [1]) (bO14 (a0 + 1) 1 a2)).h env h := by
  have hlit : okLit n0O 2097152 (lapp [(n0O, 2097206, .row (zrows 300 1 (i + 1)) 22 true []), (30, 30, .row (zrowsT 0 1 n) 22 true []), (31, 31, .row (zrowsT 100 1 n) 22 true [])] (zipA (bO14 (a0 + 1) 1 a2) kO_14_1)) = true := okLit_row rfl (belO_O (by omega)) (okLit_row rfl (belO_I hn) (okLit_row rfl (belO_W hn) (litO_14_1 a0 a1 a2)))
  have hZ3 : ∀ p ∈ ([(300 + i, 2097204, rowO [.int .i64 2])] : List (Nat × Nat × Blk)), 300 ≤ p.1 := fun p hp => by rw [List.mem_singleton.1 hp]; show 300 ≤ 300 + i; omega
  have hnd : (([(300 + i, 2097204, rowO [.int .i64 2])] : List (Nat × Nat × Blk)).map (·.1)).Nodup := by simp
  have k1 := keepIO Zs hn (i := i) hlit hZ3
  rw [expsR_eq] at ho
  · exact NewOK.abs (t := stO l n z (i + 1) (ggO r [1]) (bO14 (a0 + 1) 1 a2)) (A := lapp [(n0O, 2097206, .row (zrows 300 1 (i + 1)) 22 true []), (30, 30, .row (zrowsT 0 1 n) 22 true []), (31, 31, .row (zrowsT 100 1 n) 22 true [])] (zipA (bO14 (a0 + 1) 1 a2) kO_14_1)) (Z := [(300 + i, 2097204, rowO [.int .i64 2])]) (z := (zoO l z i))
      ⟨by rw [lmap_app, zipA_B]; rfl, by show T.set (zoO l z i) (outO l i) (300 + i) = T.set (zoO l z i) (rowO [.int .i64 2]) (300 + i); rw [hrow], by show 1049403 ≤ 2097152; decide, by kernel_rfl, hlit, keysO_14_1 n i a0 a1 a2, actsO_14_1 n i a0 a1 a2,
        fun p hp => by
          rw [List.mem_singleton.1 hp]
          refine ⟨by show 1049403 ≤ zn (300 + i); rw [zn_eq]; omega, by show zn (300 + i) < 2097152; rw [zn_eq]; omega, by show 1049403 ≤ 2097204; decide, by show 2097204 < 1000000000000; decide, by show 2097204 % 4096 ≠ 4095; decide, ?_⟩
          exact ⟨[2], 3, true, rfl⟩,
        hnd, zoO_ok Zs (by omega)⟩ rfl rfl rfl rfl ho
  · have e1 : (lapp (ltake (ldrop (zrows 300 1 i) 0) (Nat.mul i 1)) [.slc 2097204 0 1 1 false 1]) = renL (szs n0O (namesOf (lapp [(n0O, 2097206, .row (zrows 300 1 (i + 1)) 22 true []), (30, 30, .row (zrowsT 0 1 n) 22 true []), (31, 31, .row (zrowsT 100 1 n) 22 true [])] (zipA (bO14 (a0 + 1) 1 a2) kO_14_1)) [(300 + i, 2097204, rowO [.int .i64 2])]) (kpOf (zoO l z i))) (zrows 300 1 (i + 1)) := by
      refine zrows_grow (i := i) (fun j hj => ?_) (szs_row hlit (by show 1049403 ≤ zn (300 + i); rw [zn_eq]; omega) (List.mem_singleton.2 rfl) hnd)
      exact szs_zone hlit (zgrow_new hj) (fun p hp e => by rw [List.mem_singleton.1 hp] at e; have e : 300 + i = 300 + j := e; omega)
    show [(some (Blk.row _ _ _ _), true), (some (Blk.row _ _ _ _), true), (some (Blk.row _ _ _ _), true)] = [(some (Blk.row (renL _ _) _ _ _), true), (some (Blk.row (renL _ _) _ _ _), true), (some (Blk.row (renL _ _) _ _ _), true)]
    rw [← e1]
    have k1 := k1
    skip
    rw [k1.1, k1.2]; rfl
theorem litO_15_0 (a0 : Int) (a1 : Int) : okLit n0O 2097152 (zipA (bO6 (a0 + 1) a0 a1) kO_15_0) = true := by kernel_rfl
theorem keysO_15_0 (n i : Nat) (a0 : Int) (a1 : Int) : nodupQ (lmap (fun p => p.1) (lapp [(n0O, 2097204, .row (zrows 300 1 (i + 1)) 22 true []), (30, 30, .row (zrowsT 0 1 n) 22 true []), (31, 31, .row (zrowsT 100 1 n) 22 true [])] (zipA (bO6 (a0 + 1) a0 a1) kO_15_0))) = true := by kernel_rfl
theorem actsO_15_0 (n i : Nat) (a0 : Int) (a1 : Int) : nodupQ (actsOf (lapp [(n0O, 2097204, .row (zrows 300 1 (i + 1)) 22 true []), (30, 30, .row (zrowsT 0 1 n) 22 true []), (31, 31, .row (zrowsT 100 1 n) 22 true [])] (zipA (bO6 (a0 + 1) a0 a1) kO_15_0)) [(300 + i, 2097202, rowO [.int .i64 1])]) = true := by kernel_rfl
theorem absO_15_0 {l : Nat → Bool} {n : Nat} {z : T Blk} (Zs : ZinO l n z) (hn : n ≤ 60) {i : Nat} (hi : i < n) (r : Nat) (a0 : Int) (a1 : Int) (hrow : rowO [.int .i64 1] = outO l i) {env : Env} {h : H}
    (ho : obs [6, 7, 16, 17, 71, 72, 73] (actsOf (lapp [(n0O, 2097204, .row (zrows 300 1 (i + 1)) 22 true []), (30, 30, .row (zrowsT 0 1 n) 22 true []), (31, 31, .row (zrowsT 100 1 n) 22 true [])] (zipA (bO6 (a0 + 1) a0 a1) kO_15_0)) [(300 + i, 2097202, rowO [.int .i64 1])]) (lapp [(n0O, 2097204, .row (zrows 300 1 (i + 1)) 22 true []), (30, 30, .row (zrowsT 0 1 n) 22 true []), (31, 31, .row (zrowsT 100 1 n) 22 true [])] (zipA (bO6 (a0 + 1) a0 a1) kO_15_0)) [(300 + i, 2097202, rowO [.int .i64 1])] env h = expsR n0O (kpOf (zoO l z i)) (eO n (ggO r [0]) (.slc n0O 0 (i + 1) (i + 1) false 1) (i + 1)) [(n0O, 2097204, .row (zrows 300 1 (i + 1)) 22 true []), (30, 30, .row (zrowsT 0 1 n) 22 true []), (31, 31, .row (zrowsT 100 1 n) 22 true [])] (zipA (bO6 (a0 + 1) a0 a1) kO_15_0) [(300 + i, 2097202, rowO [.int .i64 1])] (zoO l z i) [(some (.row (lapp (ltake (ldrop (zrows 300 1 i) 0) (Nat.mul i 1)) [.slc 2097202 0 1 1 false 1]) 22 true []), true), (some (.row (zrowsT 0 1 n) 22 true []), true), (some (.row (zrowsT 100 1 n) 22 true []), true)]) :
    ∃ σ, Abs n0O σ (stO l n z (i + 1) (ggO r [0]) (bO6 (a0 + 1) a0 a1)).env (stO l n z (i + 1) (ggO r [0]) (bO6 (a0 + 1) a0 a1)).h env h := by
  have hlit : okLit n0O 2097152 (lapp [(n0O, 2097204, .row (zrows 300 1 (i + 1)) 22 true []), (30, 30, .row (zrowsT 0 1 n) 22 true []), (31, 31, .row (zrowsT 100 1 n) 22 true [])] (zipA (bO6 (a0 + 1) a0 a1) kO_15_0)) = true := okLit_row rfl (belO_O (by omega)) (okLit_row rfl (belO_I hn) (okLit_row rfl (belO_W hn) (litO_15_0 a0 a1)))
  have hZ3 : ∀ p ∈ ([(300 + i, 2097202, rowO [.int .i64 1])] : List (Nat × Nat × Blk)), 300 ≤ p.1 := fun p hp => by rw [List.mem_singleton.1 hp]; show 300 ≤ 300 + i; omega
  have hnd : (([(300 + i, 2097202, rowO [.int .i64 1])] : List (Nat × Nat × Blk)).map (·.1)).Nodup := by simp
  have k1 := keepIO Zs hn (i := i) hlit hZ3
  rw [expsR_eq] at ho
  · exact NewOK.abs (t := stO l n z (i + 1) (ggO r [0]) (bO6 (a0 + 1) a0 a1)) (A := lapp [(n0O, 2097204, .row (zrows 300 1 (i + 1)) 22 true []), (30, 30, .row (zrowsT 0 1 n) 22 true []), (31, 31, .row (zrowsT 100 1 n) 22 true [])] (zipA (bO6 (a0 + 1) a0 a1) kO_15_0)) (Z := [(300 + i, 2097202, rowO [.int .i64 1])]) (z := (zoO l z i))
      ⟨by rw [lmap_app, zipA_B]; rfl, by show T.set (zoO l z i) (outO l i) (300 + i) = T.set (zoO l z i) (rowO [.int .i64 1]) (300 + i); rw [hrow], by show 1049403 ≤ 2097152; decide, by kernel_rfl, hlit, keysO_15_0 n i a0 a1, actsO_15_0 n i a0 a1,
        fun p hp => by
          rw [List.mem_singleton.1 hp]
          refine ⟨by show 1049403 ≤ zn (300 + i); rw [zn_eq]; omega, by show zn (300 + i) < 2097152; rw [zn_eq]; omega, by show 1049403 ≤ 2097202; decide, by show 2097202 < 1000000000000; decide, by show 2097202 % 4096 ≠ 4095; decide, ?_⟩
          exact ⟨[1], 3, true, rfl⟩,
        hnd, zoO_ok Zs (by omega)⟩ rfl rfl rfl rfl ho
  · have e1 : (lapp (ltake (ldrop (zrows 300 1 i) 0) (Nat.mul i 1)) [.slc 2097202 0 1 1 false 1]) = renL (szs n0O (namesOf (lapp [(n0O, 2097204, .row (zrows 300 1 (i + 1)) 22 true []), (30, 30, .row (zrowsT 0 1 n) 22 true []), (31, 31, .row (zrowsT 100 1 n) 22 true [])] (zipA (bO6 (a0 + 1) a0 a1) kO_15_0)) [(300 + i, 2097202, rowO [.int .i64 1])]) (kpOf (zoO l z i))) (zrows 300 1 (i + 1)) := by
      refine zrows_grow (i := i) (fun j hj => ?_) (szs_row hlit (by show 1049403 ≤ zn (300 + i); rw [zn_eq]; omega) (List.mem_singleton.2 rfl) hnd)
      exact szs_zone hlit (zgrow_new hj) (fun p hp e => by rw [List.mem_singleton.1 hp] at e; have e : 300 + i = 300 + j := e; omega)
    show [(some (Blk.row _ _ _ _), true), (some (Blk.row _ _ _ _), true), (some (Blk.row _ _ _ _), true)] = [(some (Blk.row (renL _ _) _ _ _), true), (some (Blk.row (renL _ _) _ _ _), true), (some (Blk.row (renL _ _) _ _ _), true)]
    rw [← e1]
    have k1 := k1
    skip
    rw [k1.1, k1.2]; rfl
theorem litO_15_1 (a0 : Int) (a1 : Int) : okLit n0O 2097152 (zipA (bO15 (a0 + 1) a1) kO_15_1) = true := by kernel_rfl
theorem keysO_15_1 (n i : Nat) (a0 : Int) (a1 : Int) : nodupQ (lmap (fun p => p.1) (lapp [(n0O, 2097206, .row (zrows 300 1 (i + 1)) 22 true []), (30, 30, .row (zrowsT 0 1 n) 22 true []), (31, 31, .row (zrowsT 100 1 n) 22 true [])] (zipA (bO15 (a0 + 1) a1) kO_15_1))) = true := by kernel_rfl
theorem actsO_15_1 (n i : Nat) (a0 : Int) (a1 : Int) : nodupQ (actsOf (lapp [(n0O, 2097206, .row (zrows 300 1 (i + 1)) 22 true []), (30, 30, .row (zrowsT 0 1 n) 22 true []), (31, 31, .row (zrowsT 100 1 n) 22 true [])] (zipA (bO15 (a0 + 1) a1) kO_15_1)) [(300 + i, 2097204, rowO [.int .i64 2])]) = true := by kernel_rfl
theorem absO_15_1 {l : Nat → Bool} {n : Nat} {z : T Blk} (Zs : ZinO l n z) (hn : n ≤ 60) {i : Nat} (hi : i < n) (r : Nat) (a0 : Int) (a1 : Int) (hrow : rowO [.int .i64 2] = outO l i) {env : Env} {h : H}
    (ho : obs [6, 7, 16, 17, 71, 72, 73] (actsOf (lapp [(n0O, 2097206, .row (zrows 300 1 (i + 1)) 22 true []), (30, 30, .row (zrowsT 0 1 n) 22 true []), (31, 31, .row (zrowsT 100 1 n) 22 true [])] (zipA (bO15 (a0 + 1) a1) kO_15_1)) [(300 + i, 2097204, rowO [.int .i64 2])]) (lapp [(n0O, 2097206, .row (zrows 300 1 (i + 1)) 22 true []), (30, 30, .row (zrowsT 0 1 n) 22 true []), (31, 31, .row (zrowsT 100 1 n) 22 true [])] (zipA (bO15 (a0 + 1) a1) kO_15_1)) [(300 + i, 2097204, rowO [.int .i64 2])] env h = expsR n0O (kpOf (zoO l z i)) (eO n (ggO r [1]) (.slc n0O 0 (i + 1) (i + 1) false 1) (i + 1)) [(n0O, 2097206, .row (zrows 300 1 (i + 1)) 22 true []), (30, 30, .row (zrowsT 0 1 n) 22 true []), (31, 31, .row (zrowsT 100 1 n) 22 true [])] (zipA (bO15 (a0 + 1) a1) kO_15_1) [(300 + i, 2097204, rowO [.int .i64 2])] (zoO l z i) [(some (.row (lapp (ltake (ldrop (zrows 300 1 i) 0) (Nat.mul i 1)) [.slc 2097204 0 1 1 false 1]) 22 true []), true), (some (.row (zrowsT 0 1 n) 22 true []), true), (some (.row (zrowsT 100 1 n) 22 true []), true)]) :
    ∃ σ, Abs n0O σ (stO l n z (i + 1) (ggO r [1]) (bO15 (a0 + 1) a1)).env (stO l n z (i + 1) (ggO r [1]) (bO15 (a0 + 1) a1)).h env h := by
  have hlit : okLit n0O 2097152 (lapp [(n0O, 2097206, .row (zrows 300 1 (i + 1)) 22 true []), (30, 30, .row (zrowsT 0 1 n) 22 true []), (31, 31, .row (zrowsT 100 1 n) 22 true [])] (zipA (bO15 (a0 + 1) a1) kO_15_1)) = true := okLit_row rfl (belO_O (by omega)) (okLit_row rfl (belO_I hn) (okLit_row rfl (belO_W hn) (litO_15_1 a0 a1)))
  have hZ3 : ∀ p ∈ ([(300 + i, 2097204, rowO [.int .i64 2])] : List (Nat × Nat × Blk)), 300 ≤ p.1 := fun p hp => by rw [List.mem_singleton.1 hp]; show 300 ≤ 300 + i; omega
  have hnd : (([(300 + i, 2097204, rowO [.int .i64 2])] : List (Nat × Nat × Blk)).map (·.1)).Nodup := by simp
  have k1 := keepIO Zs hn (i := i) hlit hZ3
  rw [expsR_eq] at ho
  · exact NewOK.abs (t := stO l n z (i + 1) (ggO r [1]) (bO15 (a0 + 1) a1)) (A := lapp [(n0O, 2097206, .row (zrows 300 1 (i + 1)) 22 true []), (30, 30, .row (zrowsT 0 1 n) 22 true []), (31, 31, .row (zrowsT 100 1 n) 22 true [])] (zipA (bO15 (a0 + 1) a1) kO_15_1)) (Z := [(300 + i, 2097204, rowO [.int .i64 2])]) (z := (zoO l z i))
      ⟨by rw [lmap_app, zipA_B]; rfl, by show T.set (zoO l z i) (outO l i) (300 + i) = T.set (zoO l z i) (rowO [.int .i64 2]) (300 + i); rw [hrow], by show 1049403 ≤ 2097152; decide, by kernel_rfl, hlit, keysO_15_1 n i a0 a1, actsO_15_1 n i a0 a1,
        fun p hp => by
          rw [List.mem_singleton.1 hp]
          refine ⟨by show 1049403 ≤ zn (300 + i); rw [zn_eq]; omega, by show zn (300 + i) < 2097152; rw [zn_eq]; omega, by show 1049403 ≤ 2097204; decide, by show 2097204 < 1000000000000; decide, by show 2097204 % 4096 ≠ 4095; decide, ?_⟩
          exact ⟨[2], 3, true, rfl⟩,
        hnd, zoO_ok Zs (by omega)⟩ rfl rfl rfl rfl ho
  · have e1 : (lapp (ltake (ldrop (zrows 300 1 i) 0) (Nat.mul i 1)) [.slc 2097204 0 1 1 false 1]) = renL (szs n0O (namesOf (lapp [(n0O, 2097206, .row (zrows 300 1 (i + 1)) 22 true []), (30, 30, .row (zrowsT 0 1 n) 22 true []), (31, 31, .row (zrowsT 100 1 n) 22 true [])] (zipA (bO15 (a0 + 1) a1) kO_15_1)) [(300 + i, 2097204, rowO [.int .i64 2])]) (kpOf (zoO l z i))) (zrows 300 1 (i + 1)) := by
      refine zrows_grow (i := i) (fun j hj => ?_) (szs_row hlit (by show 1049403 ≤ zn (300 + i); rw [zn_eq]; omega) (List.mem_singleton.2 rfl) hnd)
      exact szs_zone hlit (zgrow_new hj) (fun p hp e => by rw [List.mem_singleton.1 hp] at e; have e : 300 + i = 300 + j := e; omega)
    show [(some (Blk.row _ _ _ _), true), (some (Blk.row _ _ _ _), true), (some (Blk.row _ _ _ _), true)] = [(some (Blk.row (renL _ _) _ _ _), true), (some (Blk.row (renL _ _) _ _ _), true), (some (Blk.row (renL _ _) _ _ _), true)]
    rw [← e1]
    have k1 := k1
    skip
    rw [k1.1, k1.2]; rfl
theorem useO_0_0 {l : Nat → Bool} {n : Nat} {z : T Blk} (Zs : ZinO l n z) (hn : n ≤ 60) (hi : 0 < n) (hrow : rowO [.int .i64 1] = outO l 0)
    (hcI : cellIs ⟨mkB z (lapp (rr0O (zrowsT 0 1 n) (zrowsT 100 1 n)) bO0), n0O⟩ 30 0 (.row (zn 0) 1 (fun k => Option.rec 0 (fun x => x) (lget [0] k)))) (hcR : cellsAre ⟨mkB z (lapp (rr0O (zrowsT 0 1 n) (zrowsT 100 1 n)) bO0), n0O⟩ (zn 0) (fun k => .sc (Option.rec 0 (fun x => x) (lget ([0] : List Int) k))) 1 0)
    {K : KE} (hK : ∀ env h ds σ, Abs n0O σ (stO l n z 1 (ggO (zn 0) [0]) (bO1)).env (stO l n z 1 (ggO (zn 0) [0]) (bO1)).h env h → K .nrm env h ds) :
    xcode C1 Tryz.prog F 14 (loopC Tryz.prog 14 22) (mask 14) (tmpsN Tryz.prog 14) (mkE (eO n (ggO (zn 0) [0]) .nils 0)) ⟨mkB z (lapp (rr0O (zrowsT 0 1 n) (zrowsT 100 1 n)) bO0), n0O⟩ dO_0_0 K :=
  round_use2 good1.spl (fun Kv => tO_0_0 z (zrowsT 0 1 n) (zrowsT 100 1 n) n (zn 0) Kv)
    (bcase_tt (dcq_lt (by simp only [Int.ofNat_eq_natCast]; omega)) (bcase_tt (inB_of hi) ⟨hcI, hcR, (fun env h ds ho => (absO_0_0 Zs hn hi (zn 0) hrow ho).elim fun σ ab => hK env h ds σ ab)⟩))
theorem useO_1_0 {l : Nat → Bool} {n : Nat} {z : T Blk} (Zs : ZinO l n z) (hn : n ≤ 60) {i : Nat} (hi : i < n) (hrow : rowO [.int .i64 2] = outO l i)
    (hcI : cellIs ⟨mkB (zoO l z i) (lapp (rrO (zrows 300 1 i) (zrowsT 0 1 n) (zrowsT 100 1 n)) (bO1)), 2097152⟩ 30 (Nat.add 0 (Nat.mul (Int.toNat (Int.ofNat i)) 1)) (.row (zn i) 1 (fun k => Option.rec 0 (fun x => x) (lget [0] k)))) (hcR : cellsAre ⟨mkB (zoO l z i) (lapp (rrO (zrows 300 1 i) (zrowsT 0 1 n) (zrowsT 100 1 n)) (bO1)), 2097152⟩ (zn i) (fun k => .sc (Option.rec 0 (fun x => x) (lget ([0] : List Int) k))) 1 0)
    {K : KE} (hK : ∀ env h ds σ, Abs n0O σ (stO l n z (i + 1) (ggO (zn i) [0]) (bO2 2 0)).env (stO l n z (i + 1) (ggO (zn i) [0]) (bO2 2 0)).h env h → K .nrm env h ds) :
    xcode C1 Tryz.prog F 14 (loopC Tryz.prog 14 22) (mask 14) (tmpsN Tryz.prog 14) (mkE (eO n (ggO (zn i) [0]) (.slc n0O 0 i i false 1) i)) ⟨mkB (zoO l z i) (lapp (rrO (zrows 300 1 i) (zrowsT 0 1 n) (zrowsT 100 1 n)) (bO1)), 2097152⟩ dO_1_0 K :=
  round_use2 good1.spl (fun Kv => tO_1_0 (zoO l z i) (zrowsT 0 1 n) (zrowsT 100 1 n) n i (zn i) Kv)
    (bcase_tt (dcq_lt (by simp only [Int.ofNat_eq_natCast]; omega)) (bcase_tt (inB_of hi) ⟨hcI, hcR, (bcase_tt (dcq_cap i) (bcase_tt (appC_ok (by rw [zrows_len]) (by omega)) (bcase_any (bcase_tt (inR_add (by omega)) (fun env h ds ho => (absO_1_0 Zs hn hi (zn i) hrow ho).elim fun σ ab => hK env h ds σ ab)) (bcase_tt (inR_add (by omega)) (fun env h ds ho => (absO_1_0 Zs hn hi (zn i) hrow ho).elim fun σ ab => hK env h ds σ ab)))))⟩))
theorem useO_2_0 {l : Nat → Bool} {n : Nat} {z : T Blk} (Zs : ZinO l n z) (hn : n ≤ 60) {i : Nat} (hi : i < n) (a0 : Int) (a1 : Int) (ha0 : 0 ≤ a0) (ha0' : a0 ≤ 100) (hrow : rowO [.int .i64 1] = outO l i)
    (hcI : cellIs ⟨mkB (zoO l z i) (lapp (rrO (zrows 300 1 i) (zrowsT 0 1 n) (zrowsT 100 1 n)) (bO2 a0 a1)), 2097152⟩ 30 (Nat.add 0 (Nat.mul (Int.toNat (Int.ofNat i)) 1)) (.row (zn i) 1 (fun k => Option.rec 0 (fun x => x) (lget [0] k)))) (hcR : cellsAre ⟨mkB (zoO l z i) (lapp (rrO (zrows 300 1 i) (zrowsT 0 1 n) (zrowsT 100 1 n)) (bO2 a0 a1)), 2097152⟩ (zn i) (fun k => .sc (Option.rec 0 (fun x => x) (lget ([0] : List Int) k))) 1 0)
    {K : KE} (hK : ∀ env h ds σ, Abs n0O σ (stO l n z (i + 1) (ggO (zn i) [0]) (bO3 (a0 + 1) a0)).env (stO l n z (i + 1) (ggO (zn i) [0]) (bO3 (a0 + 1) a0)).h env h → K .nrm env h ds) :
    xcode C1 Tryz.prog F 14 (loopC Tryz.prog 14 22) (mask 14) (tmpsN Tryz.prog 14) (mkE (eO n (ggO (zn i) [0]) (.slc n0O 0 i i false 1) i)) ⟨mkB (zoO l z i) (lapp (rrO (zrows 300 1 i) (zrowsT 0 1 n) (zrowsT 100 1 n)) (bO2 a0 a1)), 2097152⟩ dO_2_0 K :=
  round_use2 good1.spl (fun Kv => tO_2_0 (zoO l z i) (zrowsT 0 1 n) (zrowsT 100 1 n) n i (zn i) a0 a1 Kv)
    (bcase_tt (dcq_lt (by simp only [Int.ofNat_eq_natCast]; omega)) (bcase_tt (inB_of hi) ⟨hcI, hcR, (bcase_tt (inR_i64 (by omega) (by omega)) (bcase_tt (dcq_ne (by omega)) (bcase_tt (dcq_ne (by omega)) (bcase_tt (dcq_eq (by omega)) (bcase_tt (dcq_ne (by omega)) (bcase_tt (dcq_ne (by omega)) (bcase_tt (dcq_eq (by omega)) (bcase_tt (dcq_eq (by omega)) (bcase_tt (dcq_cap i) (bcase_tt (appC_ok (by rw [zrows_len]) (by omega)) (bcase_any (bcase_tt (inR_add (by omega)) (fun env h ds ho => (absO_2_0 Zs hn hi (zn i) a0 a1 hrow ho).elim fun σ ab => hK env h ds σ ab)) (bcase_tt (inR_add (by omega)) (fun env h ds ho => (absO_2_0 Zs hn hi (zn i) a0 a1 hrow ho).elim fun σ ab => hK env h ds σ ab)))))))))))))⟩))
theorem useO_3_1 {l : Nat → Bool} {n : Nat} {z : T Blk} (Zs : ZinO l n z) (hn : n ≤ 60) {i : Nat} (hi : i < n) (a0 : Int) (a1 : Int) (ha0 : 0 ≤ a0) (ha0' : a0 ≤ 100) (hrow : rowO [.int .i64 3] = outO l i)
    (hcI : cellIs ⟨mkB (zoO l z i) (lapp (rrO (zrows 300 1 i) (zrowsT 0 1 n) (zrowsT 100 1 n)) (bO3 a0 a1)), 2097152⟩ 30 (Nat.add 0 (Nat.mul (Int.toNat (Int.ofNat i)) 1)) (.row (zn i) 1 (fun k => Option.rec 0 (fun x => x) (lget [1] k)))) (hcR : cellsAre ⟨mkB (zoO l z i) (lapp (rrO (zrows 300 1 i) (zrowsT 0 1 n) (zrowsT 100 1 n)) (bO3 a0 a1)), 2097152⟩ (zn i) (fun k => .sc (Option.rec 0 (fun x => x) (lget ([1] : List Int) k))) 1 0)
    {K : KE} (hK : ∀ env h ds σ, Abs n0O σ (stO l n z (i + 1) (ggO (zn i) [1]) (bO4 (a0 + 1) a0 a1)).env (stO l n z (i + 1) (ggO (zn i) [1]) (bO4 (a0 + 1) a0 a1)).h env h → K .nrm env h ds) :
    xcode C1 Tryz.prog F 14 (loopC Tryz.prog 14 22) (mask 14) (tmpsN Tryz.prog 14) (mkE (eO n (ggO (zn i) [1]) (.slc n0O 0 i i false 1) i)) ⟨mkB (zoO l z i) (lapp (rrO (zrows 300 1 i) (zrowsT 0 1 n) (zrowsT 100 1 n)) (bO3 a0 a1)), 2097152⟩ dO_3_1 K :=
  round_use2 good1.spl (fun Kv => tO_3_1 (zoO l z i) (zrowsT 0 1 n) (zrowsT 100 1 n) n i (zn i) a0 a1 Kv)
    (bcase_tt (dcq_lt (by simp only [Int.ofNat_eq_natCast]; omega)) (bcase_tt (inB_of hi) ⟨hcI, hcR, (bcase_tt (inR_i64 (by omega) (by omega)) (bcase_tt (dcq_ne (by omega)) (bcase_tt (dcq_ne (by omega)) (bcase_tt (dcq_eq (by omega)) (bcase_tt (dcq_ne (by omega)) (bcase_tt (dcq_ne (by omega)) (bcase_tt (dcq_eq (by omega)) (bcase_tt (dcq_eq (by omega)) (bcase_tt (dcq_eq (by omega)) (bcase_tt (dcq_cap i) (bcase_tt (appC_ok (by rw [zrows_len]) (by omega)) (bcase_any (bcase_tt (inR_add (by omega)) (fun env h ds ho => (absO_3_1 Zs hn hi (zn i) a0 a1 hrow ho).elim fun σ ab => hK env h ds σ ab)) (bcase_tt (inR_add (by omega)) (fun env h ds ho => (absO_3_1 Zs hn hi (zn i) a0 a1 hrow ho).elim fun σ ab => hK env h ds σ ab))))))))))))))⟩))
theorem useO_4_1 {l : Nat → Bool} {n : Nat} {z : T Blk} (Zs : ZinO l n z) (hn : n ≤ 60) {i : Nat} (hi : i < n) (a0 : Int) (a1 : Int) (a2 : Int) (ha0 : 0 ≤ a0) (ha0' : a0 ≤ 100) (hrow : rowO [.int .i64 3] = outO l i)
    (hcI : cellIs ⟨mkB (zoO l z i) (lapp (rrO (zrows 300 1 i) (zrowsT 0 1 n) (zrowsT 100 1 n)) (bO4 a0 a1 a2)), 2097152⟩ 30 (Nat.add 0 (Nat.mul (Int.toNat (Int.ofNat i)) 1)) (.row (zn i) 1 (fun k => Option.rec 0 (fun x => x) (lget [1] k)))) (hcR : cellsAre ⟨mkB (zoO l z i) (lapp (rrO (zrows 300 1 i) (zrowsT 0 1 n) (zrowsT 100 1 n)) (bO4 a0 a1 a2)), 2097152⟩ (zn i) (fun k => .sc (Option.rec 0 (fun x => x) (lget ([1] : List Int) k))) 1 0)
    {K : KE} (hK : ∀ env h ds σ, Abs n0O σ (stO l n z (i + 1) (ggO (zn i) [1]) (bO4 (a0 + 1) a1 a2)).env (stO l n z (i + 1) (ggO (zn i) [1]) (bO4 (a0 + 1) a1 a2)).h env h → K .nrm env h ds) :
    xcode C1 Tryz.prog F 14 (loopC Tryz.prog 14 22) (mask 14) (tmpsN Tryz.prog 14) (mkE (eO n (ggO (zn i) [1]) (.slc n0O 0 i i false 1) i)) ⟨mkB (zoO l z i) (lapp (rrO (zrows 300 1 i) (zrowsT 0 1 n) (zrowsT 100 1 n)) (bO4 a0 a1 a2)), 2097152⟩ dO_4_1 K :=
  round_use2 good1.spl (fun Kv => tO_4_1 (zoO l z i) (zrowsT 0 1 n) (zrowsT 100 1 n) n i (zn i) a0 a1 a2 Kv)
    (bcase_tt (dcq_lt (by simp only [Int.ofNat_eq_natCast]; omega)) (bcase_tt (inB_of hi) ⟨hcI, hcR, (bcase_tt (inR_i64 (by omega) (by omega)) (bcase_tt (dcq_ne (by omega)) (bcase_tt (dcq_ne (by omega)) (bcase_tt (dcq_ne (by omega)) (bcase_tt (dcq_ne (by omega)) (bcase_tt (dcq_eq (by omega)) (bcase_tt (dcq_eq (by omega)) (bcase_tt (dcq_eq (by omega)) (bcase_tt (dcq_cap i) (bcase_tt (appC_ok (by rw [zrows_len]) (by omega)) (bcase_any (bcase_tt (inR_add (by omega)) (fun env h ds ho => (absO_4_1 Zs hn hi (zn i) a0 a1 a2 hrow ho).elim fun σ ab => hK env h ds σ ab)) (bcase_tt (inR_add (by omega)) (fun env h ds ho => (absO_4_1 Zs hn hi (zn i) a0 a1 a2 hrow ho).elim fun σ ab => hK env h ds σ ab)))))))))))))⟩))
theorem useO_4_0 {l : Nat → Bool} {n : Nat} {z : T Blk} (Zs : ZinO l n z) (hn : n ≤ 60) {i : Nat} (hi : i < n) (a0 : Int) (a1 : Int) (a2 : Int) (ha0 : 0 ≤ a0) (ha0' : a0 ≤ 100) (hrow : rowO [.int .i64 3] = outO l i)
    (hcI : cellIs ⟨mkB (zoO l z i) (lapp (rrO (zrows 300 1 i) (zrowsT 0 1 n) (zrowsT 100 1 n)) (bO4 a0 a1 a2)), 2097152⟩ 30 (Nat.add 0 (Nat.mul (Int.toNat (Int.ofNat i)) 1)) (.row (zn i) 1 (fun k => Option.rec 0 (fun x => x) (lget [0] k)))) (hcR : cellsAre ⟨mkB (zoO l z i) (lapp (rrO (zrows 300 1 i) (zrowsT 0 1 n) (zrowsT 100 1 n)) (bO4 a0 a1 a2)), 2097152⟩ (zn i) (fun k => .sc (Option.rec 0 (fun x => x) (lget ([0] : List Int) k))) 1 0)
    {K : KE} (hK : ∀ env h ds σ, Abs n0O σ (stO l n z (i + 1) (ggO (zn i) [0]) (bO5 (a0 + 1) a1 a2)).env (stO l n z (i + 1) (ggO (zn i) [0]) (bO5 (a0 + 1) a1 a2)).h env h → K .nrm env h ds) :
    xcode C1 Tryz.prog F 14 (loopC Tryz.prog 14 22) (mask 14) (tmpsN Tryz.prog 14) (mkE (eO n (ggO (zn i) [0]) (.slc n0O 0 i i false 1) i)) ⟨mkB (zoO l z i) (lapp (rrO (zrows 300 1 i) (zrowsT 0 1 n) (zrowsT 100 1 n)) (bO4 a0 a1 a2)), 2097152⟩ dO_4_0 K :=
  round_use2 good1.spl (fun Kv => tO_4_0 (zoO l z i) (zrowsT 0 1 n) (zrowsT 100 1 n) n i (zn i) a0 a1 a2 Kv)
    (bcase_tt (dcq_lt (by simp only [Int.ofNat_eq_natCast]; omega)) (bcase_tt (inB_of hi) ⟨hcI, hcR, (bcase_tt (inR_i64 (by omega) (by omega)) (bcase_tt (dcq_ne (by omega)) (bcase_tt (dcq_ne (by omega)) (bcase_tt (dcq_ne (by omega)) (bcase_tt (dcq_ne (by omega)) (bcase_tt (dcq_eq (by omega)) (bcase_tt (dcq_eq (by omega)) (bcase_tt (dcq_eq (by omega)) (bcase_tt (dcq_cap i) (bcase_tt (appC_ok (by rw [zrows_len]) (by omega)) (bcase_any (bcase_tt (inR_add (by omega)) (fun env h ds ho => (absO_4_0 Zs hn hi (zn i) a0 a1 a2 hrow ho).elim fun σ ab => hK env h ds σ ab)) (bcase_tt (inR_add (by omega)) (fun env h ds ho => (absO_4_0 Zs hn hi (zn i) a0 a1 a2 hrow ho).elim fun σ ab => hK env h ds σ ab)))))))))))))⟩))
theorem useO_5_0 {l : Nat → Bool} {n : Nat} {z : T Blk} (Zs : ZinO l n z) (hn : n ≤ 60) {i : Nat} (hi : i < n) (a0 : Int) (a1 : Int) (a2 : Int) (ha0 : 0 ≤ a0) (ha0' : a0 ≤ 100) (hrow : rowO [.int .i64 1] = outO l i)
    (hcI : cellIs ⟨mkB (zoO l z i) (lapp (rrO (zrows 300 1 i) (zrowsT 0 1 n) (zrowsT 100 1 n)) (bO5 a0 a1 a2)), 2097152⟩ 30 (Nat.add 0 (Nat.mul (Int.toNat (Int.ofNat i)) 1)) (.row (zn i) 1 (fun k => Option.rec 0 (fun x => x) (lget [0] k)))) (hcR : cellsAre ⟨mkB (zoO l z i) (lapp (rrO (zrows 300 1 i) (zrowsT 0 1 n) (zrowsT 100 1 n)) (bO5 a0 a1 a2)), 2097152⟩ (zn i) (fun k => .sc (Option.rec 0 (fun x => x) (lget ([0] : List Int) k))) 1 0)
    {K : KE} (hK : ∀ env h ds σ, Abs n0O σ (stO l n z (i + 1) (ggO (zn i) [0]) (bO6 (a0 + 1) a2 a0)).env (stO l n z (i + 1) (ggO (zn i) [0]) (bO6 (a0 + 1) a2 a0)).h env h → K .nrm env h ds) :
    xcode C1 Tryz.prog F 14 (loopC Tryz.prog 14 22) (mask 14) (tmpsN Tryz.prog 14) (mkE (eO n (ggO (zn i) [0]) (.slc n0O 0 i i false 1) i)) ⟨mkB (zoO l z i) (lapp (rrO (zrows 300 1 i) (zrowsT 0 1 n) (zrowsT 100 1 n)) (bO5 a0 a1 a2)), 2097152⟩ dO_5_0 K :=
  round_use2 good1.spl (fun Kv => tO_5_0 (zoO l z i) (zrowsT 0 1 n) (zrowsT 100 1 n) n i (zn i) a0 a1 a2 Kv)
    (bcase_tt (dcq_lt (by simp only [Int.ofNat_eq_natCast]; omega)) (bcase_tt (inB_of hi) ⟨hcI, hcR, (bcase_tt (inR_i64 (by omega) (by omega)) (bcase_tt (dcq_ne (by omega)) (bcase_tt (dcq_ne (by omega)) (bcase_tt (dcq_eq (by omega)) (bcase_tt (dcq_ne (by omega)) (bcase_tt (dcq_ne (by omega)) (bcase_tt (dcq_eq (by omega)) (bcase_tt (dcq_eq (by omega)) (bcase_tt (dcq_cap i) (bcase_tt (appC_ok (by rw [zrows_len]) (by omega)) (bcase_any (bcase_tt (inR_add (by omega)) (fun env h ds ho => (absO_5_0 Zs hn hi (zn i) a0 a1 a2 hrow ho).elim fun σ ab => hK env h ds σ ab)) (bcase_tt (inR_add (by omega)) (fun env h ds ho => (absO_5_0 Zs hn hi (zn i) a0 a1 a2 hrow ho).elim fun σ ab => hK env h ds σ ab)))))))))))))⟩))
theorem useO_6_0 {l : Nat → Bool} {n : Nat} {z : T Blk} (Zs : ZinO l n z) (hn : n ≤ 60) {i : Nat} (hi : i < n) (a0 : Int) (a1 : Int) (a2 : Int) (ha0 : 0 ≤ a0) (ha0' : a0 ≤ 100) (hrow : rowO [.int .i64 2] = outO l i)
    (hcI : cellIs ⟨mkB (zoO l z i) (lapp (rrO (zrows 300 1 i) (zrowsT 0 1 n) (zrowsT 100 1 n)) (bO6 a0 a1 a2)), 2097152⟩ 30 (Nat.add 0 (Nat.mul (Int.toNat (Int.ofNat i)) 1)) (.row (zn i) 1 (fun k => Option.rec 0 (fun x => x) (lget [0] k)))) (hcR : cellsAre ⟨mkB (zoO l z i) (lapp (rrO (zrows 300 1 i) (zrowsT 0 1 n) (zrowsT 100 1 n)) (bO6 a0 a1 a2)), 2097152⟩ (zn i) (fun k => .sc (Option.rec 0 (fun x => x) (lget ([0] : List Int) k))) 1 0)
    {K : KE} (hK : ∀ env h ds σ, Abs n0O σ (stO l n z (i + 1) (ggO (zn i) [0]) (bO7 (a0 + 1) 0 a0 a2)).env (stO l n z (i + 1) (ggO (zn i) [0]) (bO7 (a0 + 1) 0 a0 a2)).h env h → K .nrm env h ds) :
    xcode C1 Tryz.prog F 14 (loopC Tryz.prog 14 22) (mask 14) (tmpsN Tryz.prog 14) (mkE (eO n (ggO (zn i) [0]) (.slc n0O 0 i i false 1) i)) ⟨mkB (zoO l z i) (lapp (rrO (zrows 300 1 i) (zrowsT 0 1 n) (zrowsT 100 1 n)) (bO6 a0 a1 a2)), 2097152⟩ dO_6_0 K :=
  round_use2 good1.spl (fun Kv => tO_6_0 (zoO l z i) (zrowsT 0 1 n) (zrowsT 100 1 n) n i (zn i) a0 a1 a2 Kv)
    (bcase_tt (dcq_lt (by simp only [Int.ofNat_eq_natCast]; omega)) (bcase_tt (inB_of hi) ⟨hcI, hcR, (bcase_tt (inR_i64 (by omega) (by omega)) (bcase_tt (dcq_ne (by omega)) (bcase_tt (dcq_ne (by omega)) (bcase_tt (dcq_eq (by omega)) (bcase_tt (dcq_ne (by omega)) (bcase_tt (dcq_ne (by omega)) (bcase_tt (dcq_eq (by omega)) (bcase_tt (dcq_eq (by omega)) (bcase_tt (dcq_cap i) (bcase_tt (appC_ok (by rw [zrows_len]) (by omega)) (bcase_any (bcase_tt (inR_add (by omega)) (fun env h ds ho => (absO_6_0 Zs hn hi (zn i) a0 a1 a2 hrow ho).elim fun σ ab => hK env h ds σ ab)) (bcase_tt (inR_add (by omega)) (fun env h ds ho => (absO_6_0 Zs hn hi (zn i) a0 a1 a2 hrow ho).elim fun σ ab => hK env h ds σ ab)))))))))))))⟩))
theorem useO_7_1 {l : Nat → Bool} {n : Nat} {z : T Blk} (Zs : ZinO l n z) (hn : n ≤ 60) {i : Nat} (hi : i < n) (a0 : Int) (a1 : Int) (a2 : Int) (a3 : Int) (ha0 : 0 ≤ a0) (ha0' : a0 ≤ 100) (hrow : rowO [.int .i64 2] = outO l i)
    (hcI : cellIs ⟨mkB (zoO l z i) (lapp (rrO (zrows 300 1 i) (zrowsT 0 1 n) (zrowsT 100 1 n)) (bO7 a0 a1 a2 a3)), 2097152⟩ 30 (Nat.add 0 (Nat.mul (Int.toNat (Int.ofNat i)) 1)) (.row (zn i) 1 (fun k => Option.rec 0 (fun x => x) (lget [1] k)))) (hcR : cellsAre ⟨mkB (zoO l z i) (lapp (rrO (zrows 300 1 i) (zrowsT 0 1 n) (zrowsT 100 1 n)) (bO7 a0 a1 a2 a3)), 2097152⟩ (zn i) (fun k => .sc (Option.rec 0 (fun x => x) (lget ([1] : List Int) k))) 1 0)
    {K : KE} (hK : ∀ env h ds σ, Abs n0O σ (stO l n z (i + 1) (ggO (zn i) [1]) (bO7 (a0 + 1) 1 a2 a3)).env (stO l n z (i + 1) (ggO (zn i) [1]) (bO7 (a0 + 1) 1 a2 a3)).h env h → K .nrm env h ds) :
    xcode C1 Tryz.prog F 14 (loopC Tryz.prog 14 22) (mask 14) (tmpsN Tryz.prog 14) (mkE (eO n (ggO (zn i) [1]) (.slc n0O 0 i i false 1) i)) ⟨mkB (zoO l z i) (lapp (rrO (zrows 300 1 i) (zrowsT 0 1 n) (zrowsT 100 1 n)) (bO7 a0 a1 a2 a3)), 2097152⟩ dO_7_1 K :=
  round_use2 good1.spl (fun Kv => tO_7_1 (zoO l z i) (zrowsT 0 1 n) (zrowsT 100 1 n) n i (zn i) a0 a1 a2 a3 Kv)
    (bcase_tt (dcq_lt (by simp only [Int.ofNat_eq_natCast]; omega)) (bcase_tt (inB_of hi) ⟨hcI, hcR, (bcase_tt (inR_i64 (by omega) (by omega)) (bcase_tt (dcq_ne (by omega)) (bcase_tt (dcq_ne (by omega)) (bcase_tt (dcq_eq (by omega)) (bcase_tt (dcq_ne (by omega)) (bcase_tt (dcq_ne (by omega)) (bcase_tt (dcq_eq (by omega)) (bcase_tt (dcq_eq (by omega)) (bcase_tt (dcq_cap i) (bcase_tt (appC_ok (by rw [zrows_len]) (by omega)) (bcase_any (bcase_tt (inR_add (by omega)) (fun env h ds ho => (absO_7_1 Zs hn hi (zn i) a0 a1 a2 a3 hrow ho).elim fun σ ab => hK env h ds σ ab)) (bcase_tt (inR_add (by omega)) (fun env h ds ho => (absO_7_1 Zs hn hi (zn i) a0 a1 a2 a3 hrow ho).elim fun σ ab => hK env h ds σ ab)))))))))))))⟩))
theorem useO_7_0 {l : Nat → Bool} {n : Nat} {z : T Blk} (Zs : ZinO l n z) (hn : n ≤ 60) {i : Nat} (hi : i < n) (a0 : Int) (a1 : Int) (a2 : Int) (a3 : Int) (ha0 : 0 ≤ a0) (ha0' : a0 ≤ 100) (hrow : rowO [.int .i64 1] = outO l i)
    (hcI : cellIs ⟨mkB (zoO l z i) (lapp (rrO (zrows 300 1 i) (zrowsT 0 1 n) (zrowsT 100 1 n)) (bO7 a0 a1 a2 a3)), 2097152⟩ 30 (Nat.add 0 (Nat.mul (Int.toNat (Int.ofNat i)) 1)) (.row (zn i) 1 (fun k => Option.rec 0 (fun x => x) (lget [0] k)))) (hcR : cellsAre ⟨mkB (zoO l z i) (lapp (rrO (zrows 300 1 i) (zrowsT 0 1 n) (zrowsT 100 1 n)) (bO7 a0 a1 a2 a3)), 2097152⟩ (zn i) (fun k => .sc (Option.rec 0 (fun x => x) (lget ([0] : List Int) k))) 1 0)
    {K : KE} (hK : ∀ env h ds σ, Abs n0O σ (stO l n z (i + 1) (ggO (zn i) [0]) (bO6 (a0 + 1) a0 a3)).env (stO l n z (i + 1) (ggO (zn i) [0]) (bO6 (a0 + 1) a0 a3)).h env h → K .nrm env h ds) :
    xcode C1 Tryz.prog F 14 (loopC Tryz.prog 14 22) (mask 14) (tmpsN Tryz.prog 14) (mkE (eO n (ggO (zn i) [0]) (.slc n0O 0 i i false 1) i)) ⟨mkB (zoO l z i) (lapp (rrO (zrows 300 1 i) (zrowsT 0 1 n) (zrowsT 100 1 n)) (bO7 a0 a1 a2 a3)), 2097152⟩ dO_7_0 K :=
  round_use2 good1.spl (fun Kv => tO_7_0 (zoO l z i) (zrowsT 0 1 n) (zrowsT 100 1 n) n i (zn i) a0 a1 a2 a3 Kv)
    (bcase_tt (dcq_lt (by simp only [Int.ofNat_eq_natCast]; omega)) (bcase_tt (inB_of hi) ⟨hcI, hcR, (bcase_tt (inR_i64 (by omega) (by omega)) (bcase_tt (dcq_ne (by omega)) (bcase_tt (dcq_ne (by omega)) (bcase_tt (dcq_eq (by omega)) (bcase_tt (dcq_ne (by omega)) (bcase_tt (dcq_ne (by omega)) (bcase_tt (dcq_eq (by omega)) (bcase_tt (dcq_eq (by omega)) (bcase_tt (dcq_cap i) (bcase_tt (appC_ok (by rw [zrows_len]) (by omega)) (bcase_any (bcase_tt (inR_add (by omega)) (fun env h ds ho => (absO_7_0 Zs hn hi (zn i) a0 a1 a2 a3 hrow ho).elim fun σ ab => hK env h ds σ ab)) (bcase_tt (inR_add (by omega)) (fun env h ds ho => (absO_7_0 Zs hn hi (zn i) a0 a1 a2 a3 hrow ho).elim fun σ ab => hK env h ds σ ab)))))))))))))⟩))
theorem useO_6_1 {l : Nat → Bool} {n : Nat} {z : T Blk} (Zs : ZinO l n z) (hn : n ≤ 60) {i : Nat} (hi : i < n) (a0 : Int) (a1 : Int) (a2 : Int) (ha0 : 0 ≤ a0) (ha0' : a0 ≤ 100) (hrow : rowO [.int .i64 3] = outO l i)
    (hcI : cellIs ⟨mkB (zoO l z i) (lapp (rrO (zrows 300 1 i) (zrowsT 0 1 n) (zrowsT 100 1 n)) (bO6 a0 a1 a2)), 2097152⟩ 30 (Nat.add 0 (Nat.mul (Int.toNat (Int.ofNat i)) 1)) (.row (zn i) 1 (fun k => Option.rec 0 (fun x => x) (lget [1] k)))) (hcR : cellsAre ⟨mkB (zoO l z i) (lapp (rrO (zrows 300 1 i) (zrowsT 0 1 n) (zrowsT 100 1 n)) (bO6 a0 a1 a2)), 2097152⟩ (zn i) (fun k => .sc (Option.rec 0 (fun x => x) (lget ([1] : List Int) k))) 1 0)
    {K : KE} (hK : ∀ env h ds σ, Abs n0O σ (stO l n z (i + 1) (ggO (zn i) [1]) (bO4 (a0 + 1) a0 a1)).env (stO l n z (i + 1) (ggO (zn i) [1]) (bO4 (a0 + 1) a0 a1)).h env h → K .nrm env h ds) :
    xcode C1 Tryz.prog F 14 (loopC Tryz.prog 14 22) (mask 14) (tmpsN Tryz.prog 14) (mkE (eO n (ggO (zn i) [1]) (.slc n0O 0 i i false 1) i)) ⟨mkB (zoO l z i) (lapp (rrO (zrows 300 1 i) (zrowsT 0 1 n) (zrowsT 100 1 n)) (bO6 a0 a1 a2)), 2097152⟩ dO_6_1 K :=
  round_use2 good1.spl (fun Kv => tO_6_1 (zoO l z i) (zrowsT 0 1 n) (zrowsT 100 1 n) n i (zn i) a0 a1 a2 Kv)
    (bcase_tt (dcq_lt (by simp only [Int.ofNat_eq_natCast]; omega)) (bcase_tt (inB_of hi) ⟨hcI, hcR, (bcase_tt (inR_i64 (by omega) (by omega)) (bcase_tt (dcq_ne (by omega)) (bcase_tt (dcq_ne (by omega)) (bcase_tt (dcq_eq (by omega)) (bcase_tt (dcq_ne (by omega)) (bcase_tt (dcq_ne (by omega)) (bcase_tt (dcq_eq (by omega)) (bcase_tt (dcq_eq (by omega)) (bcase_tt (dcq_eq (by omega)) (bcase_tt (dcq_cap i) (bcase_tt (appC_ok (by rw [zrows_len]) (by omega)) (bcase_any (bcase_tt (inR_add (by omega)) (fun env h ds ho => (absO_6_1 Zs hn hi (zn i) a0 a1 a2 hrow ho).elim fun σ ab => hK env h ds σ ab)) (bcase_tt (inR_add (by omega)) (fun env h ds ho => (absO_6_1 Zs hn hi (zn i) a0 a1 a2 hrow ho).elim fun σ ab => hK env h ds σ ab))))))))))))))⟩))
theorem useO_0_1 {l : Nat → Bool} {n : Nat} {z : T Blk} (Zs : ZinO l n z) (hn : n ≤ 60) (hi : 0 < n) (hrow : rowO [.int .i64 2] = outO l 0)
    (hcI : cellIs ⟨mkB z (lapp (rr0O (zrowsT 0 1 n) (zrowsT 100 1 n)) bO0), n0O⟩ 30 0 (.row (zn 0) 1 (fun k => Option.rec 0 (fun x => x) (lget [1] k)))) (hcR : cellsAre ⟨mkB z (lapp (rr0O (zrowsT 0 1 n) (zrowsT 100 1 n)) bO0), n0O⟩ (zn 0) (fun k => .sc (Option.rec 0 (fun x => x) (lget ([1] : List Int) k))) 1 0)
    {K : KE} (hK : ∀ env h ds σ, Abs n0O σ (stO l n z 1 (ggO (zn 0) [1]) (bO8 1)).env (stO l n z 1 (ggO (zn 0) [1]) (bO8 1)).h env h → K .nrm env h ds) :
    xcode C1 Tryz.prog F 14 (loopC Tryz.prog 14 22) (mask 14) (tmpsN Tryz.prog 14) (mkE (eO n (ggO (zn 0) [1]) .nils 0)) ⟨mkB z (lapp (rr0O (zrowsT 0 1 n) (zrowsT 100 1 n)) bO0), n0O⟩ dO_0_1 K :=
  round_use2 good1.spl (fun Kv => tO_0_1 z (zrowsT 0 1 n) (zrowsT 100 1 n) n (zn 0) Kv)
    (bcase_tt (dcq_lt (by simp only [Int.ofNat_eq_natCast]; omega)) (bcase_tt (inB_of hi) ⟨hcI, hcR, (fun env h ds ho => (absO_0_1 Zs hn hi (zn 0) hrow ho).elim fun σ ab => hK env h ds σ ab)⟩))
theorem useO_8_0 {l : Nat → Bool} {n : Nat} {z : T Blk} (Zs : ZinO l n z) (hn : n ≤ 60) {i : Nat} (hi : i < n) (a0 : Int) (ha0 : 0 ≤ a0) (ha0' : a0 ≤ 100) (hrow : rowO [.int .i64 1] = outO l i)
    (hcI : cellIs ⟨mkB (zoO l z i) (lapp (rrO (zrows 300 1 i) (zrowsT 0 1 n) (zrowsT 100 1 n)) (bO8 a0)), 2097152⟩ 30 (Nat.add 0 (Nat.mul (Int.toNat (Int.ofNat i)) 1)) (.row (zn i) 1 (fun k => Option.rec 0 (fun x => x) (lget [0] k)))) (hcR : cellsAre ⟨mkB (zoO l z i) (lapp (rrO (zrows 300 1 i) (zrowsT 0 1 n) (zrowsT 100 1 n)) (bO8 a0)), 2097152⟩ (zn i) (fun k => .sc (Option.rec 0 (fun x => x) (lget ([0] : List Int) k))) 1 0)
    {K : KE} (hK : ∀ env h ds σ, Abs n0O σ (stO l n z (i + 1) (ggO (zn i) [0]) (bO3 (a0 + 1) a0)).env (stO l n z (i + 1) (ggO (zn i) [0]) (bO3 (a0 + 1) a0)).h env h → K .nrm env h ds) :
    xcode C1 Tryz.prog F 14 (loopC Tryz.prog 14 22) (mask 14) (tmpsN Tryz.prog 14) (mkE (eO n (ggO (zn i) [0]) (.slc n0O 0 i i false 1) i)) ⟨mkB (zoO l z i) (lapp (rrO (zrows 300 1 i) (zrowsT 0 1 n) (zrowsT 100 1 n)) (bO8 a0)), 2097152⟩ dO_8_0 K :=
  round_use2 good1.spl (fun Kv => tO_8_0 (zoO l z i) (zrowsT 0 1 n) (zrowsT 100 1 n) n i (zn i) a0 Kv)
    (bcase_tt (dcq_lt (by simp only [Int.ofNat_eq_natCast]; omega)) (bcase_tt (inB_of hi) ⟨hcI, hcR, (bcase_tt (inR_i64 (by omega) (by omega)) (bcase_tt (dcq_ne (by omega)) (bcase_tt (dcq_ne (by omega)) (bcase_tt (dcq_eq (by omega)) (bcase_tt (dcq_ne (by omega)) (bcase_tt (dcq_ne (by omega)) (bcase_tt (dcq_eq (by omega)) (bcase_tt (dcq_eq (by omega)) (bcase_tt (dcq_cap i) (bcase_tt (appC_ok (by rw [zrows_len]) (by omega)) (bcase_any (bcase_tt (inR_add (by omega)) (fun env h ds ho => (absO_8_0 Zs hn hi (zn i) a0 hrow ho).elim fun σ ab => hK env h ds σ ab)) (bcase_tt (inR_add (by omega)) (fun env h ds ho => (absO_8_0 Zs hn hi (zn i) a0 hrow ho).elim fun σ ab => hK env h ds σ ab)))))))))))))⟩))
theorem useO_5_1 {l : Nat → Bool} {n : Nat} {z : T Blk} (Zs : ZinO l n z) (hn : n ≤ 60) {i : Nat} (hi : i < n) (a0 : Int) (a1 : Int) (a2 : Int) (ha0 : 0 ≤ a0) (ha0' : a0 ≤ 100) (hrow : rowO [.int .i64 2] = outO l i)
    (hcI : cellIs ⟨mkB (zoO l z i) (lapp (rrO (zrows 300 1 i) (zrowsT 0 1 n) (zrowsT 100 1 n)) (bO5 a0 a1 a2)), 2097152⟩ 30 (Nat.add 0 (Nat.mul (Int.toNat (Int.ofNat i)) 1)) (.row (zn i) 1 (fun k => Option.rec 0 (fun x => x) (lget [1] k)))) (hcR : cellsAre ⟨mkB (zoO l z i) (lapp (rrO (zrows 300 1 i) (zrowsT 0 1 n) (zrowsT 100 1 n)) (bO5 a0 a1 a2)), 2097152⟩ (zn i) (fun k => .sc (Option.rec 0 (fun x => x) (lget ([1] : List Int) k))) 1 0)
    {K : KE} (hK : ∀ env h ds σ, Abs n0O σ (stO l n z (i + 1) (ggO (zn i) [1]) (bO7 (a0 + 1) 1 a1 a0)).env (stO l n z (i + 1) (ggO (zn i) [1]) (bO7 (a0 + 1) 1 a1 a0)).h env h → K .nrm env h ds) :
    xcode C1 Tryz.prog F 14 (loopC Tryz.prog 14 22) (mask 14) (tmpsN Tryz.prog 14) (mkE (eO n (ggO (zn i) [1]) (.slc n0O 0 i i false 1) i)) ⟨mkB (zoO l z i) (lapp (rrO (zrows 300 1 i) (zrowsT 0 1 n) (zrowsT 100 1 n)) (bO5 a0 a1 a2)), 2097152⟩ dO_5_1 K :=
  round_use2 good1.spl (fun Kv => tO_5_1 (zoO l z i) (zrowsT 0 1 n) (zrowsT 100 1 n) n i (zn i) a0 a1 a2 Kv)
    (bcase_tt (dcq_lt (by simp only [Int.ofNat_eq_natCast]; omega)) (bcase_tt (inB_of hi) ⟨hcI, hcR, (bcase_tt (inR_i64 (by omega) (by omega)) (bcase_tt (dcq_ne (by omega)) (bcase_tt (dcq_ne (by omega)) (bcase_tt (dcq_eq (by omega)) (bcase_tt (dcq_ne (by omega)) (bcase_tt (dcq_ne (by omega)) (bcase_tt (dcq_eq (by omega)) (bcase_tt (dcq_eq (by omega)) (bcase_tt (dcq_cap i) (bcase_tt (appC_ok (by rw [zrows_len]) (by omega)) (bcase_any (bcase_tt (inR_add (by omega)) (fun env h ds ho => (absO_5_1 Zs hn hi (zn i) a0 a1 a2 hrow ho).elim fun σ ab => hK env h ds σ ab)) (bcase_tt (inR_add (by omega)) (fun env h ds ho => (absO_5_1 Zs hn hi (zn i) a0 a1 a2 hrow ho).elim fun σ ab => hK env h ds σ ab)))))))))))))⟩))
theorem useO_8_1 {l : Nat → Bool} {n : Nat} {z : T Blk} (Zs : ZinO l n z) (hn : n ≤ 60) {i : Nat} (hi : i < n) (a0 : Int) (ha0 : 0 ≤ a0) (ha0' : a0 ≤ 100) (hrow : rowO [.int .i64 2] = outO l i)
    (hcI : cellIs ⟨mkB (zoO l z i) (lapp (rrO (zrows 300 1 i) (zrowsT 0 1 n) (zrowsT 100 1 n)) (bO8 a0)), 2097152⟩ 30 (Nat.add 0 (Nat.mul (Int.toNat (Int.ofNat i)) 1)) (.row (zn i) 1 (fun k => Option.rec 0 (fun x => x) (lget [1] k)))) (hcR : cellsAre ⟨mkB (zoO l z i) (lapp (rrO (zrows 300 1 i) (zrowsT 0 1 n) (zrowsT 100 1 n)) (bO8 a0)), 2097152⟩ (zn i) (fun k => .sc (Option.rec 0 (fun x => x) (lget ([1] : List Int) k))) 1 0)
    {K : KE} (hK : ∀ env h ds σ, Abs n0O σ (stO l n z (i + 1) (ggO (zn i) [1]) (bO8 (a0 + 1))).env (stO l n z (i + 1) (ggO (zn i) [1]) (bO8 (a0 + 1))).h env h → K .nrm env h ds) :
    xcode C1 Tryz.prog F 14 (loopC Tryz.prog 14 22) (mask 14) (tmpsN Tryz.prog 14) (mkE (eO n (ggO (zn i) [1]) (.slc n0O 0 i i false 1) i)) ⟨mkB (zoO l z i) (lapp (rrO (zrows 300 1 i) (zrowsT 0 1 n) (zrowsT 100 1 n)) (bO8 a0)), 2097152⟩ dO_8_1 K :=
  round_use2 good1.spl (fun Kv => tO_8_1 (zoO l z i) (zrowsT 0 1 n) (zrowsT 100 1 n) n i (zn i) a0 Kv)
    (bcase_tt (dcq_lt (by simp only [Int.ofNat_eq_natCast]; omega)) (bcase_tt (inB_of hi) ⟨hcI, hcR, (bcase_tt (inR_i64 (by omega) (by omega)) (bcase_tt (dcq_ne (by omega)) (bcase_tt (dcq_ne (by omega)) (bcase_tt (dcq_eq (by omega)) (bcase_tt (dcq_ne (by omega)) (bcase_tt (dcq_ne (by omega)) (bcase_tt (dcq_eq (by omega)) (bcase_tt (dcq_eq (by omega)) (bcase_tt (dcq_cap i) (bcase_tt (appC_ok (by rw [zrows_len]) (by omega)) (bcase_any (bcase_tt (inR_add (by omega)) (fun env h ds ho => (absO_8_1 Zs hn hi (zn i) a0 hrow ho).elim fun σ ab => hK env h ds σ ab)) (bcase_tt (inR_add (by omega)) (fun env h ds ho => (absO_8_1 Zs hn hi (zn i) a0 hrow ho).elim fun σ ab => hK env h ds σ ab)))))))))))))⟩))
theorem useO_1_1 {l : Nat → Bool} {n : Nat} {z : T Blk} (Zs : ZinO l n z) (hn : n ≤ 60) {i : Nat} (hi : i < n) (hrow : rowO [.int .i64 3] = outO l i)
    (hcI : cellIs ⟨mkB (zoO l z i) (lapp (rrO (zrows 300 1 i) (zrowsT 0 1 n) (zrowsT 100 1 n)) (bO1)), 2097152⟩ 30 (Nat.add 0 (Nat.mul (Int.toNat (Int.ofNat i)) 1)) (.row (zn i) 1 (fun k => Option.rec 0 (fun x => x) (lget [1] k)))) (hcR : cellsAre ⟨mkB (zoO l z i) (lapp (rrO (zrows 300 1 i) (zrowsT 0 1 n) (zrowsT 100 1 n)) (bO1)), 2097152⟩ (zn i) (fun k => .sc (Option.rec 0 (fun x => x) (lget ([1] : List Int) k))) 1 0)
    {K : KE} (hK : ∀ env h ds σ, Abs n0O σ (stO l n z (i + 1) (ggO (zn i) [1]) (bO9 2)).env (stO l n z (i + 1) (ggO (zn i) [1]) (bO9 2)).h env h → K .nrm env h ds) :
    xcode C1 Tryz.prog F 14 (loopC Tryz.prog 14 22) (mask 14) (tmpsN Tryz.prog 14) (mkE (eO n (ggO (zn i) [1]) (.slc n0O 0 i i false 1) i)) ⟨mkB (zoO l z i) (lapp (rrO (zrows 300 1 i) (zrowsT 0 1 n) (zrowsT 100 1 n)) (bO1)), 2097152⟩ dO_1_1 K :=
  round_use2 good1.spl (fun Kv => tO_1_1 (zoO l z i) (zrowsT 0 1 n) (zrowsT 100 1 n) n i (zn i) Kv)
    (bcase_tt (dcq_lt (by simp only [Int.ofNat_eq_natCast]; omega)) (bcase_tt (inB_of hi) ⟨hcI, hcR, (bcase_tt (dcq_cap i) (bcase_tt (appC_ok (by rw [zrows_len]) (by omega)) (bcase_any (bcase_tt (inR_add (by omega)) (fun env h ds ho => (absO_1_1 Zs hn hi (zn i) hrow ho).elim fun σ ab => hK env h ds σ ab)) (bcase_tt (inR_add (by omega)) (fun env h ds ho => (absO_1_1 Zs hn hi (zn i) hrow ho).elim fun σ ab => hK env h ds σ ab)))))⟩))
theorem useO_9_0 {l : Nat → Bool} {n : Nat} {z : T Blk} (Zs : ZinO l n z) (hn : n ≤ 60) {i : Nat} (hi : i < n) (a0 : Int) (ha0 : 0 ≤ a0) (ha0' : a0 ≤ 100) (hrow : rowO [.int .i64 3] = outO l i)
    (hcI : cellIs ⟨mkB (zoO l z i) (lapp (rrO (zrows 300 1 i) (zrowsT 0 1 n) (zrowsT 100 1 n)) (bO9 a0)), 2097152⟩ 30 (Nat.add 0 (Nat.mul (Int.toNat (Int.ofNat i)) 1)) (.row (zn i) 1 (fun k => Option.rec 0 (fun x => x) (lget [0] k)))) (hcR : cellsAre ⟨mkB (zoO l z i) (lapp (rrO (zrows 300 1 i) (zrowsT 0 1 n) (zrowsT 100 1 n)) (bO9 a0)), 2097152⟩ (zn i) (fun k => .sc (Option.rec 0 (fun x => x) (lget ([0] : List Int) k))) 1 0)
    {K : KE} (hK : ∀ env h ds σ, Abs n0O σ (stO l n z (i + 1) (ggO (zn i) [0]) (bO10 (a0 + 1))).env (stO l n z (i + 1) (ggO (zn i) [0]) (bO10 (a0 + 1))).h env h → K .nrm env h ds) :
    xcode C1 Tryz.prog F 14 (loopC Tryz.prog 14 22) (mask 14) (tmpsN Tryz.prog 14) (mkE (eO n (ggO (zn i) [0]) (.slc n0O 0 i i false 1) i)) ⟨mkB (zoO l z i) (lapp (rrO (zrows 300 1 i) (zrowsT 0 1 n) (zrowsT 100 1 n)) (bO9 a0)), 2097152⟩ dO_9_0 K :=
  round_use2 good1.spl (fun Kv => tO_9_0 (zoO l z i) (zrowsT 0 1 n) (zrowsT 100 1 n) n i (zn i) a0 Kv)
    (bcase_tt (dcq_lt (by simp only [Int.ofNat_eq_natCast]; omega)) (bcase_tt (inB_of hi) ⟨hcI, hcR, (bcase_tt (inR_i64 (by omega) (by omega)) (bcase_tt (dcq_ne (by omega)) (bcase_tt (dcq_ne (by omega)) (bcase_tt (dcq_ne (by omega)) (bcase_tt (dcq_ne (by omega)) (bcase_tt (dcq_eq (by omega)) (bcase_tt (dcq_eq (by omega)) (bcase_tt (dcq_eq (by omega)) (bcase_tt (dcq_cap i) (bcase_tt (appC_ok (by rw [zrows_len]) (by omega)) (bcase_any (bcase_tt (inR_add (by omega)) (fun env h ds ho => (absO_9_0 Zs hn hi (zn i) a0 hrow ho).elim fun σ ab => hK env h ds σ ab)) (bcase_tt (inR_add (by omega)) (fun env h ds ho => (absO_9_0 Zs hn hi (zn i) a0 hrow ho).elim fun σ ab => hK env h ds σ ab)))))))))))))⟩))
theorem useO_10_0 {l : Nat → Bool} {n : Nat} {z : T Blk} (Zs : ZinO l n z) (hn : n ≤ 60) {i : Nat} (hi : i < n) (a0 : Int) (ha0 : 0 ≤ a0) (ha0' : a0 ≤ 100) (hrow : rowO [.int .i64 1] = outO l i)
    (hcI : cellIs ⟨mkB (zoO l z i) (lapp (rrO (zrows 300 1 i) (zrowsT 0 1 n) (zrowsT 100 1 n)) (bO10 a0)), 2097152⟩ 30 (Nat.add 0 (Nat.mul (Int.toNat (Int.ofNat i)) 1)) (.row (zn i) 1 (fun k => Option.rec 0 (fun x => x) (lget [0] k)))) (hcR : cellsAre ⟨mkB (zoO l z i) (lapp (rrO (zrows 300 1 i) (zrowsT 0 1 n) (zrowsT 100 1 n)) (bO10 a0)), 2097152⟩ (zn i) (fun k => .sc (Option.rec 0 (fun x => x) (lget ([0] : List Int) k))) 1 0)
    {K : KE} (hK : ∀ env h ds σ, Abs n0O σ (stO l n z (i + 1) (ggO (zn i) [0]) (bO11 (a0 + 1) a0)).env (stO l n z (i + 1) (ggO (zn i) [0]) (bO11 (a0 + 1) a0)).h env h → K .nrm env h ds) :
    xcode C1 Tryz.prog F 14 (loopC Tryz.prog 14 22) (mask 14) (tmpsN Tryz.prog 14) (mkE (eO n (ggO (zn i) [0]) (.slc n0O 0 i i false 1) i)) ⟨mkB (zoO l z i) (lapp (rrO (zrows 300 1 i) (zrowsT 0 1 n) (zrowsT 100 1 n)) (bO10 a0)), 2097152⟩ dO_10_0 K :=
  round_use2 good1.spl (fun Kv => tO_10_0 (zoO l z i) (zrowsT 0 1 n) (zrowsT 100 1 n) n i (zn i) a0 Kv)
    (bcase_tt (dcq_lt (by simp only [Int.ofNat_eq_natCast]; omega)) (bcase_tt (inB_of hi) ⟨hcI, hcR, (bcase_tt (inR_i64 (by omega) (by omega)) (bcase_tt (dcq_ne (by omega)) (bcase_tt (dcq_ne (by omega)) (bcase_tt (dcq_eq (by omega)) (bcase_tt (dcq_ne (by omega)) (bcase_tt (dcq_ne (by omega)) (bcase_tt (dcq_eq (by omega)) (bcase_tt (dcq_eq (by omega)) (bcase_tt (dcq_cap i) (bcase_tt (appC_ok (by rw [zrows_len]) (by omega)) (bcase_any (bcase_tt (inR_add (by omega)) (fun env h ds ho => (absO_10_0 Zs hn hi (zn i) a0 hrow ho).elim fun σ ab => hK env h ds σ ab)) (bcase_tt (inR_add (by omega)) (fun env h ds ho => (absO_10_0 Zs hn hi (zn i) a0 hrow ho).elim fun σ ab => hK env h ds σ ab)))))))))))))⟩))
theorem useO_11_1 {l : Nat → Bool} {n : Nat} {z : T Blk} (Zs : ZinO l n z) (hn : n ≤ 60) {i : Nat} (hi : i < n) (a0 : Int) (a1 : Int) (ha0 : 0 ≤ a0) (ha0' : a0 ≤ 100) (hrow : rowO [.int .i64 3] = outO l i)
    (hcI : cellIs ⟨mkB (zoO l z i) (lapp (rrO (zrows 300 1 i) (zrowsT 0 1 n) (zrowsT 100 1 n)) (bO11 a0 a1)), 2097152⟩ 30 (Nat.add 0 (Nat.mul (Int.toNat (Int.ofNat i)) 1)) (.row (zn i) 1 (fun k => Option.rec 0 (fun x => x) (lget [1] k)))) (hcR : cellsAre ⟨mkB (zoO l z i) (lapp (rrO (zrows 300 1 i) (zrowsT 0 1 n) (zrowsT 100 1 n)) (bO11 a0 a1)), 2097152⟩ (zn i) (fun k => .sc (Option.rec 0 (fun x => x) (lget ([1] : List Int) k))) 1 0)
    {K : KE} (hK : ∀ env h ds σ, Abs n0O σ (stO l n z (i + 1) (ggO (zn i) [1]) (bO12 (a0 + 1) a0)).env (stO l n z (i + 1) (ggO (zn i) [1]) (bO12 (a0 + 1) a0)).h env h → K .nrm env h ds) :
    xcode C1 Tryz.prog F 14 (loopC Tryz.prog 14 22) (mask 14) (tmpsN Tryz.prog 14) (mkE (eO n (ggO (zn i) [1]) (.slc n0O 0 i i false 1) i)) ⟨mkB (zoO l z i) (lapp (rrO (zrows 300 1 i) (zrowsT 0 1 n) (zrowsT 100 1 n)) (bO11 a0 a1)), 2097152⟩ dO_11_1 K :=
  round_use2 good1.spl (fun Kv => tO_11_1 (zoO l z i) (zrowsT 0 1 n) (zrowsT 100 1 n) n i (zn i) a0 a1 Kv)
    (bcase_tt (dcq_lt (by simp only [Int.ofNat_eq_natCast]; omega)) (bcase_tt (inB_of hi) ⟨hcI, hcR, (bcase_tt (inR_i64 (by omega) (by omega)) (bcase_tt (dcq_ne (by omega)) (bcase_tt (dcq_ne (by omega)) (bcase_tt (dcq_eq (by omega)) (bcase_tt (dcq_ne (by omega)) (bcase_tt (dcq_ne (by omega)) (bcase_tt (dcq_eq (by omega)) (bcase_tt (dcq_eq (by omega)) (bcase_tt (dcq_eq (by omega)) (bcase_tt (dcq_cap i) (bcase_tt (appC_ok (by rw [zrows_len]) (by omega)) (bcase_any (bcase_tt (inR_add (by omega)) (fun env h ds ho => (absO_11_1 Zs hn hi (zn i) a0 a1 hrow ho).elim fun σ ab => hK env h ds σ ab)) (bcase_tt (inR_add (by omega)) (fun env h ds ho => (absO_11_1 Zs hn hi (zn i) a0 a1 hrow ho).elim fun σ ab => hK env h ds σ ab))))))))))))))⟩))
theorem useO_12_1 {l : Nat → Bool} {n : Nat} {z : T Blk} (Zs : ZinO l n z) (hn : n ≤ 60) {i : Nat} (hi : i < n) (a0 : Int) (a1 : Int) (ha0 : 0 ≤ a0) (ha0' : a0 ≤ 100) (hrow : rowO [.int .i64 3] = outO l i)
    (hcI : cellIs ⟨mkB (zoO l z i) (lapp (rrO (zrows 300 1 i) (zrowsT 0 1 n) (zrowsT 100 1 n)) (bO12 a0 a1)), 2097152⟩ 30 (Nat.add 0 (Nat.mul (Int.toNat (Int.ofNat i)) 1)) (.row (zn i) 1 (fun k => Option.rec 0 (fun x => x) (lget [1] k)))) (hcR : cellsAre ⟨mkB (zoO l z i) (lapp (rrO (zrows 300 1 i) (zrowsT 0 1 n) (zrowsT 100 1 n)) (bO12 a0 a1)), 2097152⟩ (zn i) (fun k => .sc (Option.rec 0 (fun x => x) (lget ([1] : List Int) k))) 1 0)
    {K : KE} (hK : ∀ env h ds σ, Abs n0O σ (stO l n z (i + 1) (ggO (zn i) [1]) (bO12 (a0 + 1) a1)).env (stO l n z (i + 1) (ggO (zn i) [1]) (bO12 (a0 + 1) a1)).h env h → K .nrm env h ds) :
    xcode C1 Tryz.prog F 14 (loopC Tryz.prog 14 22) (mask 14) (tmpsN Tryz.prog 14) (mkE (eO n (ggO (zn i) [1]) (.slc n0O 0 i i false 1) i)) ⟨mkB (zoO l z i) (lapp (rrO (zrows 300 1 i) (zrowsT 0 1 n) (zrowsT 100 1 n)) (bO12 a0 a1)), 2097152⟩ dO_12_1 K :=
  round_use2 good1.spl (fun Kv => tO_12_1 (zoO l z i) (zrowsT 0 1 n) (zrowsT 100 1 n) n i (zn i) a0 a1 Kv)
    (bcase_tt (dcq_lt (by simp only [Int.ofNat_eq_natCast]; omega)) (bcase_tt (inB_of hi) ⟨hcI, hcR, (bcase_tt (inR_i64 (by omega) (by omega)) (bcase_tt (dcq_ne (by omega)) (bcase_tt (dcq_ne (by omega)) (bcase_tt (dcq_ne (by omega)) (bcase_tt (dcq_ne (by omega)) (bcase_tt (dcq_eq (by omega)) (bcase_tt (dcq_eq (by omega)) (bcase_tt (dcq_eq (by omega)) (bcase_tt (dcq_cap i) (bcase_tt (appC_ok (by rw [zrows_len]) (by omega)) (bcase_any (bcase_tt (inR_add (by omega)) (fun env h ds ho => (absO_12_1 Zs hn hi (zn i) a0 a1 hrow ho).elim fun σ ab => hK env h ds σ ab)) (bcase_tt (inR_add (by omega)) (fun env h ds ho => (absO_12_1 Zs hn hi (zn i) a0 a1 hrow ho).elim fun σ ab => hK env h ds σ ab)))))))))))))⟩))
theorem useO_12_0 {l : Nat → Bool} {n : Nat} {z : T Blk} (Zs : ZinO l n z) (hn : n ≤ 60) {i : Nat} (hi : i < n) (a0 : Int) (a1 : Int) (ha0 : 0 ≤ a0) (ha0' : a0 ≤ 100) (hrow : rowO [.int .i64 3] = outO l i)
    (hcI : cellIs ⟨mkB (zoO l z i) (lapp (rrO (zrows 300 1 i) (zrowsT 0 1 n) (zrowsT 100 1 n)) (bO12 a0 a1)), 2097152⟩ 30 (Nat.add 0 (Nat.mul (Int.toNat (Int.ofNat i)) 1)) (.row (zn i) 1 (fun k => Option.rec 0 (fun x => x) (lget [0] k)))) (hcR : cellsAre ⟨mkB (zoO l z i) (lapp (rrO (zrows 300 1 i) (zrowsT 0 1 n) (zrowsT 100 1 n)) (bO12 a0 a1)), 2097152⟩ (zn i) (fun k => .sc (Option.rec 0 (fun x => x) (lget ([0] : List Int) k))) 1 0)
    {K : KE} (hK : ∀ env h ds σ, Abs n0O σ (stO l n z (i + 1) (ggO (zn i) [0]) (bO13 (a0 + 1) a1)).env (stO l n z (i + 1) (ggO (zn i) [0]) (bO13 (a0 + 1) a1)).h env h → K .nrm env h ds) :
    xcode C1 Tryz.prog F 14 (loopC Tryz.prog 14 22) (mask 14) (tmpsN Tryz.prog 14) (mkE (eO n (ggO (zn i) [0]) (.slc n0O 0 i i false 1) i)) ⟨mkB (zoO l z i) (lapp (rrO (zrows 300 1 i) (zrowsT 0 1 n) (zrowsT 100 1 n)) (bO12 a0 a1)), 2097152⟩ dO_12_0 K :=
  round_use2 good1.spl (fun Kv => tO_12_0 (zoO l z i) (zrowsT 0 1 n) (zrowsT 100 1 n) n i (zn i) a0 a1 Kv)
    (bcase_tt (dcq_lt (by simp only [Int.ofNat_eq_natCast]; omega)) (bcase_tt (inB_of hi) ⟨hcI, hcR, (bcase_tt (inR_i64 (by omega) (by omega)) (bcase_tt (dcq_ne (by omega)) (bcase_tt (dcq_ne (by omega)) (bcase_tt (dcq_ne (by omega)) (bcase_tt (dcq_ne (by omega)) (bcase_tt (dcq_eq (by omega)) (bcase_tt (dcq_eq (by omega)) (bcase_tt (dcq_eq (by omega)) (bcase_tt (dcq_cap i) (bcase_tt (appC_ok (by rw [zrows_len]) (by omega)) (bcase_any (bcase_tt (inR_add (by omega)) (fun env h ds ho => (absO_12_0 Zs hn hi (zn i) a0 a1 hrow ho).elim fun σ ab => hK env h ds σ ab)) (bcase_tt (inR_add (by omega)) (fun env h ds ho => (absO_12_0 Zs hn hi (zn i) a0 a1 hrow ho).elim fun σ ab => hK env h ds σ ab)))))))))))))⟩))
theorem useO_13_0 {l : Nat → Bool} {n : Nat} {z : T Blk} (Zs : ZinO l n z) (hn : n ≤ 60) {i : Nat} (hi : i < n) (a0 : Int) (a1 : Int) (ha0 : 0 ≤ a0) (ha0' : a0 ≤ 100) (hrow : rowO [.int .i64 1] = outO l i)
    (hcI : cellIs ⟨mkB (zoO l z i) (lapp (rrO (zrows 300 1 i) (zrowsT 0 1 n) (zrowsT 100 1 n)) (bO13 a0 a1)), 2097152⟩ 30 (Nat.add 0 (Nat.mul (Int.toNat (Int.ofNat i)) 1)) (.row (zn i) 1 (fun k => Option.rec 0 (fun x => x) (lget [0] k)))) (hcR : cellsAre ⟨mkB (zoO l z i) (lapp (rrO (zrows 300 1 i) (zrowsT 0 1 n) (zrowsT 100 1 n)) (bO13 a0 a1)), 2097152⟩ (zn i) (fun k => .sc (Option.rec 0 (fun x => x) (lget ([0] : List Int) k))) 1 0)
    {K : KE} (hK : ∀ env h ds σ, Abs n0O σ (stO l n z (i + 1) (ggO (zn i) [0]) (bO11 (a0 + 1) a0)).env (stO l n z (i + 1) (ggO (zn i) [0]) (bO11 (a0 + 1) a0)).h env h → K .nrm env h ds) :
    xcode C1 Tryz.prog F 14 (loopC Tryz.prog 14 22) (mask 14) (tmpsN Tryz.prog 14) (mkE (eO n (ggO (zn i) [0]) (.slc n0O 0 i i false 1) i)) ⟨mkB (zoO l z i) (lapp (rrO (zrows 300 1 i) (zrowsT 0 1 n) (zrowsT 100 1 n)) (bO13 a0 a1)), 2097152⟩ dO_13_0 K :=
  round_use2 good1.spl (fun Kv => tO_13_0 (zoO l z i) (zrowsT 0 1 n) (zrowsT 100 1 n) n i (zn i) a0 a1 Kv)
    (bcase_tt (dcq_lt (by simp only [Int.ofNat_eq_natCast]; omega)) (bcase_tt (inB_of hi) ⟨hcI, hcR, (bcase_tt (inR_i64 (by omega) (by omega)) (bcase_tt (dcq_ne (by omega)) (bcase_tt (dcq_ne (by omega)) (bcase_tt (dcq_eq (by omega)) (bcase_tt (dcq_ne (by omega)) (bcase_tt (dcq_ne (by omega)) (bcase_tt (dcq_eq (by omega)) (bcase_tt (dcq_eq (by omega)) (bcase_tt (dcq_cap i) (bcase_tt (appC_ok (by rw [zrows_len]) (by omega)) (bcase_any (bcase_tt (inR_add (by omega)) (fun env h ds ho => (absO_13_0 Zs hn hi (zn i) a0 a1 hrow ho).elim fun σ ab => hK env h ds σ ab)) (bcase_tt (inR_add (by omega)) (fun env h ds ho => (absO_13_0 Zs hn hi (zn i) a0 a1 hrow ho).elim fun σ ab => hK env h ds σ ab)))))))))))))⟩))
theorem useO_2_1 {l : Nat → Bool} {n : Nat} {z : T Blk} (Zs : ZinO l n z) (hn : n ≤ 60) {i : Nat} (hi : i < n) (a0 : Int) (a1 : Int) (ha0 : 0 ≤ a0) (ha0' : a0 ≤ 100) (hrow : rowO [.int .i64 2] = outO l i)
    (hcI : cellIs ⟨mkB (zoO l z i) (lapp (rrO (zrows 300 1 i) (zrowsT 0 1 n) (zrowsT 100 1 n)) (bO2 a0 a1)), 2097152⟩ 30 (Nat.add 0 (Nat.mul (Int.toNat (Int.ofNat i)) 1)) (.row (zn i) 1 (fun k => Option.rec 0 (fun x => x) (lget [1] k)))) (hcR : cellsAre ⟨mkB (zoO l z i) (lapp (rrO (zrows 300 1 i) (zrowsT 0 1 n) (zrowsT 100 1 n)) (bO2 a0 a1)), 2097152⟩ (zn i) (fun k => .sc (Option.rec 0 (fun x => x) (lget ([1] : List Int) k))) 1 0)
    {K : KE} (hK : ∀ env h ds σ, Abs n0O σ (stO l n z (i + 1) (ggO (zn i) [1]) (bO2 (a0 + 1) 1)).env (stO l n z (i + 1) (ggO (zn i) [1]) (bO2 (a0 + 1) 1)).h env h → K .nrm env h ds) :
    xcode C1 Tryz.prog F 14 (loopC Tryz.prog 14 22) (mask 14) (tmpsN Tryz.prog 14) (mkE (eO n (ggO (zn i) [1]) (.slc n0O 0 i i false 1) i)) ⟨mkB (zoO l z i) (lapp (rrO (zrows 300 1 i) (zrowsT 0 1 n) (zrowsT 100 1 n)) (bO2 a0 a1)), 2097152⟩ dO_2_1 K :=
  round_use2 good1.spl (fun Kv => tO_2_1 (zoO l z i) (zrowsT 0 1 n) (zrowsT 100 1 n) n i (zn i) a0 a1 Kv)
    (bcase_tt (dcq_lt (by simp only [Int.ofNat_eq_natCast]; omega)) (bcase_tt (inB_of hi) ⟨hcI, hcR, (bcase_tt (inR_i64 (by omega) (by omega)) (bcase_tt (dcq_ne (by omega)) (bcase_tt (dcq_ne (by omega)) (bcase_tt (dcq_eq (by omega)) (bcase_tt (dcq_ne (by omega)) (bcase_tt (dcq_ne (by omega)) (bcase_tt (dcq_eq (by omega)) (bcase_tt (dcq_eq (by omega)) (bcase_tt (dcq_cap i) (bcase_tt (appC_ok (by rw [zrows_len]) (by omega)) (bcase_any (bcase_tt (inR_add (by omega)) (fun env h ds ho => (absO_2_1 Zs hn hi (zn i) a0 a1 hrow ho).elim fun σ ab => hK env h ds σ ab)) (bcase_tt (inR_add (by omega)) (fun env h ds ho => (absO_2_1 Zs hn hi (zn i) a0 a1 hrow ho).elim fun σ ab => hK env h ds σ ab)))))))))))))⟩))
theorem useO_3_0 {l : Nat → Bool} {n : Nat} {z : T Blk} (Zs : ZinO l n z) (hn : n ≤ 60) {i : Nat} (hi : i < n) (a0 : Int) (a1 : Int) (ha0 : 0 ≤ a0) (ha0' : a0 ≤ 100) (hrow : rowO [.int .i64 2] = outO l i)
    (hcI : cellIs ⟨mkB (zoO l z i) (lapp (rrO (zrows 300 1 i) (zrowsT 0 1 n) (zrowsT 100 1 n)) (bO3 a0 a1)), 2097152⟩ 30 (Nat.add 0 (Nat.mul (Int.toNat (Int.ofNat i)) 1)) (.row (zn i) 1 (fun k => Option.rec 0 (fun x => x) (lget [0] k)))) (hcR : cellsAre ⟨mkB (zoO l z i) (lapp (rrO (zrows 300 1 i) (zrowsT 0 1 n) (zrowsT 100 1 n)) (bO3 a0 a1)), 2097152⟩ (zn i) (fun k => .sc (Option.rec 0 (fun x => x) (lget ([0] : List Int) k))) 1 0)
    {K : KE} (hK : ∀ env h ds σ, Abs n0O σ (stO l n z (i + 1) (ggO (zn i) [0]) (bO14 (a0 + 1) 0 a0)).env (stO l n z (i + 1) (ggO (zn i) [0]) (bO14 (a0 + 1) 0 a0)).h env h → K .nrm env h ds) :
    xcode C1 Tryz.prog F 14 (loopC Tryz.prog 14 22) (mask 14) (tmpsN Tryz.prog 14) (mkE (eO n (ggO (zn i) [0]) (.slc n0O 0 i i false 1) i)) ⟨mkB (zoO l z i) (lapp (rrO (zrows 300 1 i) (zrowsT 0 1 n) (zrowsT 100 1 n)) (bO3 a0 a1)), 2097152⟩ dO_3_0 K :=
  round_use2 good1.spl (fun Kv => tO_3_0 (zoO l z i) (zrowsT 0 1 n) (zrowsT 100 1 n) n i (zn i) a0 a1 Kv)
    (bcase_tt (dcq_lt (by simp only [Int.ofNat_eq_natCast]; omega)) (bcase_tt (inB_of hi) ⟨hcI, hcR, (bcase_tt (inR_i64 (by omega) (by omega)) (bcase_tt (dcq_ne (by omega)) (bcase_tt (dcq_ne (by omega)) (bcase_tt (dcq_eq (by omega)) (bcase_tt (dcq_ne (by omega)) (bcase_tt (dcq_ne (by omega)) (bcase_tt (dcq_eq (by omega)) (bcase_tt (dcq_eq (by omega)) (bcase_tt (dcq_cap i) (bcase_tt (appC_ok (by rw [zrows_len]) (by omega)) (bcase_any (bcase_tt (inR_add (by omega)) (fun env h ds ho => (absO_3_0 Zs hn hi (zn i) a0 a1 hrow ho).elim fun σ ab => hK env h ds σ ab)) (bcase_tt (inR_add (by omega)) (fun env h ds ho => (absO_3_0 Zs hn hi (zn i) a0 a1 hrow ho).elim fun σ ab => hK env h ds σ ab)))))))))))))⟩))
theorem useO_9_1 {l : Nat → Bool} {n : Nat} {z : T Blk} (Zs : ZinO l n z) (hn : n ≤ 60) {i : Nat} (hi : i < n) (a0 : Int) (ha0 : 0 ≤ a0) (ha0' : a0 ≤ 100) (hrow : rowO [.int .i64 3] = outO l i)
    (hcI : cellIs ⟨mkB (zoO l z i) (lapp (rrO (zrows 300 1 i) (zrowsT 0 1 n) (zrowsT 100 1 n)) (bO9 a0)), 2097152⟩ 30 (Nat.add 0 (Nat.mul (Int.toNat (Int.ofNat i)) 1)) (.row (zn i) 1 (fun k => Option.rec 0 (fun x => x) (lget [1] k)))) (hcR : cellsAre ⟨mkB (zoO l z i) (lapp (rrO (zrows 300 1 i) (zrowsT 0 1 n) (zrowsT 100 1 n)) (bO9 a0)), 2097152⟩ (zn i) (fun k => .sc (Option.rec 0 (fun x => x) (lget ([1] : List Int) k))) 1 0)
    {K : KE} (hK : ∀ env h ds σ, Abs n0O σ (stO l n z (i + 1) (ggO (zn i) [1]) (bO9 (a0 + 1))).env (stO l n z (i + 1) (ggO (zn i) [1]) (bO9 (a0 + 1))).h env h → K .nrm env h ds) :
    xcode C1 Tryz.prog F 14 (loopC Tryz.prog 14 22) (mask 14) (tmpsN Tryz.prog 14) (mkE (eO n (ggO (zn i) [1]) (.slc n0O 0 i i false 1) i)) ⟨mkB (zoO l z i) (lapp (rrO (zrows 300 1 i) (zrowsT 0 1 n) (zrowsT 100 1 n)) (bO9 a0)), 2097152⟩ dO_9_1 K :=
  round_use2 good1.spl (fun Kv => tO_9_1 (zoO l z i) (zrowsT 0 1 n) (zrowsT 100 1 n) n i (zn i) a0 Kv)
    (bcase_tt (dcq_lt (by simp only [Int.ofNat_eq_natCast]; omega)) (bcase_tt (inB_of hi) ⟨hcI, hcR, (bcase_tt (inR_i64 (by omega) (by omega)) (bcase_tt (dcq_ne (by omega)) (bcase_tt (dcq_ne (by omega)) (bcase_tt (dcq_ne (by omega)) (bcase_tt (dcq_ne (by omega)) (bcase_tt (dcq_eq (by omega)) (bcase_tt (dcq_eq (by omega)) (bcase_tt (dcq_eq (by omega)) (bcase_tt (dcq_cap i) (bcase_tt (appC_ok (by rw [zrows_len]) (by omega)) (bcase_any (bcase_tt (inR_add (by omega)) (fun env h ds ho => (absO_9_1 Zs hn hi (zn i) a0 hrow ho).elim fun σ ab => hK env h ds σ ab)) (bcase_tt (inR_add (by omega)) (fun env h ds ho => (absO_9_1 Zs hn hi (zn i) a0 hrow ho).elim fun σ ab => hK env h ds σ ab)))))))))))))⟩))
theorem useO_10_1 {l : Nat → Bool} {n : Nat} {z : T Blk} (Zs : ZinO l n z) (hn : n ≤ 60) {i : Nat} (hi : i < n) (a0 : Int) (ha0 : 0 ≤ a0) (ha0' : a0 ≤ 100) (hrow : rowO [.int .i64 2] = outO l i)
    (hcI : cellIs ⟨mkB (zoO l z i) (lapp (rrO (zrows 300 1 i) (zrowsT 0 1 n) (zrowsT 100 1 n)) (bO10 a0)), 2097152⟩ 30 (Nat.add 0 (Nat.mul (Int.toNat (Int.ofNat i)) 1)) (.row (zn i) 1 (fun k => Option.rec 0 (fun x => x) (lget [1] k)))) (hcR : cellsAre ⟨mkB (zoO l z i) (lapp (rrO (zrows 300 1 i) (zrowsT 0 1 n) (zrowsT 100 1 n)) (bO10 a0)), 2097152⟩ (zn i) (fun k => .sc (Option.rec 0 (fun x => x) (lget ([1] : List Int) k))) 1 0)
    {K : KE} (hK : ∀ env h ds σ, Abs n0O σ (stO l n z (i + 1) (ggO (zn i) [1]) (bO15 (a0 + 1) a0)).env (stO l n z (i + 1) (ggO (zn i) [1]) (bO15 (a0 + 1) a0)).h env h → K .nrm env h ds) :
    xcode C1 Tryz.prog F 14 (loopC Tryz.prog 14 22) (mask 14) (tmpsN Tryz.prog 14) (mkE (eO n (ggO (zn i) [1]) (.slc n0O 0 i i false 1) i)) ⟨mkB (zoO l z i) (lapp (rrO (zrows 300 1 i) (zrowsT 0 1 n) (zrowsT 100 1 n)) (bO10 a0)), 2097152⟩ dO_10_1 K :=
  round_use2 good1.spl (fun Kv => tO_10_1 (zoO l z i) (zrowsT 0 1 n) (zrowsT 100 1 n) n i (zn i) a0 Kv)
    (bcase_tt (dcq_lt (by simp only [Int.ofNat_eq_natCast]; omega)) (bcase_tt (inB_of hi) ⟨hcI, hcR, (bcase_tt (inR_i64 (by omega) (by omega)) (bcase_tt (dcq_ne (by omega)) (bcase_tt (dcq_ne (by omega)) (bcase_tt (dcq_eq (by omega)) (bcase_tt (dcq_ne (by omega)) (bcase_tt (dcq_ne (by omega)) (bcase_tt (dcq_eq (by omega)) (bcase_tt (dcq_eq (by omega)) (bcase_tt (dcq_cap i) (bcase_tt (appC_ok (by rw [zrows_len]) (by omega)) (bcase_any (bcase_tt (inR_add (by omega)) (fun env h ds ho => (absO_10_1 Zs hn hi (zn i) a0 hrow ho).elim fun σ ab => hK env h ds σ ab)) (bcase_tt (inR_add (by omega)) (fun env h ds ho => (absO_10_1 Zs hn hi (zn i) a0 hrow ho).elim fun σ ab => hK env h ds σ ab)))))))))))))⟩))
theorem useO_11_0 {l : Nat → Bool} {n : Nat} {z : T Blk} (Zs : ZinO l n z) (hn : n ≤ 60) {i : Nat} (hi : i < n) (a0 : Int) (a1 : Int) (ha0 : 0 ≤ a0) (ha0' : a0 ≤ 100) (hrow : rowO [.int .i64 2] = outO l i)
    (hcI : cellIs ⟨mkB (zoO l z i) (lapp (rrO (zrows 300 1 i) (zrowsT 0 1 n) (zrowsT 100 1 n)) (bO11 a0 a1)), 2097152⟩ 30 (Nat.add 0 (Nat.mul (Int.toNat (Int.ofNat i)) 1)) (.row (zn i) 1 (fun k => Option.rec 0 (fun x => x) (lget [0] k)))) (hcR : cellsAre ⟨mkB (zoO l z i) (lapp (rrO (zrows 300 1 i) (zrowsT 0 1 n) (zrowsT 100 1 n)) (bO11 a0 a1)), 2097152⟩ (zn i) (fun k => .sc (Option.rec 0 (fun x => x) (lget ([0] : List Int) k))) 1 0)
    {K : KE} (hK : ∀ env h ds σ, Abs n0O σ (stO l n z (i + 1) (ggO (zn i) [0]) (bO7 (a0 + 1) 0 a0 a1)).env (stO l n z (i + 1) (ggO (zn i) [0]) (bO7 (a0 + 1) 0 a0 a1)).h env h → K .nrm env h ds) :
    xcode C1 Tryz.prog F 14 (loopC Tryz.prog 14 22) (mask 14) (tmpsN Tryz.prog 14) (mkE (eO n (ggO (zn i) [0]) (.slc n0O 0 i i false 1) i)) ⟨mkB (zoO l z i) (lapp (rrO (zrows 300 1 i) (zrowsT 0 1 n) (zrowsT 100 1 n)) (bO11 a0 a1)), 2097152⟩ dO_11_0 K :=
  round_use2 good1.spl (fun Kv => tO_11_0 (zoO l z i) (zrowsT 0 1 n) (zrowsT 100 1 n) n i (zn i) a0 a1 Kv)
    (bcase_tt (dcq_lt (by simp only [Int.ofNat_eq_natCast]; omega)) (bcase_tt (inB_of hi) ⟨hcI, hcR, (bcase_tt (inR_i64 (by omega) (by omega)) (bcase_tt (dcq_ne (by omega)) (bcase_tt (dcq_ne (by omega)) (bcase_tt (dcq_eq (by omega)) (bcase_tt (dcq_ne (by omega)) (bcase_tt (dcq_ne (by omega)) (bcase_tt (dcq_eq (by omega)) (bcase_tt (dcq_eq (by omega)) (bcase_tt (dcq_cap i) (bcase_tt (appC_ok (by rw [zrows_len]) (by omega)) (bcase_any (bcase_tt (inR_add (by omega)) (fun env h ds ho => (absO_11_0 Zs hn hi (zn i) a0 a1 hrow ho).elim fun σ ab => hK env h ds σ ab)) (bcase_tt (inR_add (by omega)) (fun env h ds ho => (absO_11_0 Zs hn hi (zn i) a0 a1 hrow ho).elim fun σ ab => hK env h ds σ ab)))))))))))))⟩))
theorem useO_13_1 {l : Nat → Bool} {n : Nat} {z : T Blk} (Zs : ZinO l n z) (hn : n ≤ 60) {i : Nat} (hi : i < n) (a0 : Int) (a1 : Int) (ha0 : 0 ≤ a0) (ha0' : a0 ≤ 100) (hrow : rowO [.int .i64 2] = outO l i)
    (hcI : cellIs ⟨mkB (zoO l z i) (lapp (rrO (zrows 300 1 i) (zrowsT 0 1 n) (zrowsT 100 1 n)) (bO13 a0 a1)), 2097152⟩ 30 (Nat.add 0 (Nat.mul (Int.toNat (Int.ofNat i)) 1)) (.row (zn i) 1 (fun k => Option.rec 0 (fun x => x) (lget [1] k)))) (hcR : cellsAre ⟨mkB (zoO l z i) (lapp (rrO (zrows 300 1 i) (zrowsT 0 1 n) (zrowsT 100 1 n)) (bO13 a0 a1)), 2097152⟩ (zn i) (fun k => .sc (Option.rec 0 (fun x => x) (lget ([1] : List Int) k))) 1 0)
    {K : KE} (hK : ∀ env h ds σ, Abs n0O σ (stO l n z (i + 1) (ggO (zn i) [1]) (bO7 (a0 + 1) 1 a1 a0)).env (stO l n z (i + 1) (ggO (zn i) [1]) (bO7 (a0 + 1) 1 a1 a0)).h env h → K .nrm env h ds) :
    xcode C1 Tryz.prog F 14 (loopC Tryz.prog 14 22) (mask 14) (tmpsN Tryz.prog 14) (mkE (eO n (ggO (zn i) [1]) (.slc n0O 0 i i false 1) i)) ⟨mkB (zoO l z i) (lapp (rrO (zrows 300 1 i) (zrowsT 0 1 n) (zrowsT 100 1 n)) (bO13 a0 a1)), 2097152⟩ dO_13_1 K :=
  round_use2 good1.spl (fun Kv => tO_13_1 (zoO l z i) (zrowsT 0 1 n) (zrowsT 100 1 n) n i (zn i) a0 a1 Kv)
    (bcase_tt (dcq_lt (by simp only [Int.ofNat_eq_natCast]; omega)) (bcase_tt (inB_of hi) ⟨hcI, hcR, (bcase_tt (inR_i64 (by omega) (by omega)) (bcase_tt (dcq_ne (by omega)) (bcase_tt (dcq_ne (by omega)) (bcase_tt (dcq_eq (by omega)) (bcase_tt (dcq_ne (by omega)) (bcase_tt (dcq_ne (by omega)) (bcase_tt (dcq_eq (by omega)) (bcase_tt (dcq_eq (by omega)) (bcase_tt (dcq_cap i) (bcase_tt (appC_ok (by rw [zrows_len]) (by omega)) (bcase_any (bcase_tt (inR_add (by omega)) (fun env h ds ho => (absO_13_1 Zs hn hi (zn i) a0 a1 hrow ho).elim fun σ ab => hK env h ds σ ab)) (bcase_tt (inR_add (by omega)) (fun env h ds ho => (absO_13_1 Zs hn hi (zn i) a0 a1 hrow ho).elim fun σ ab => hK env h ds σ ab)))))))))))))⟩))
theorem useO_14_0 {l : Nat → Bool} {n : Nat} {z : T Blk} (Zs : ZinO l n z) (hn : n ≤ 60) {i : Nat} (hi : i < n) (a0 : Int) (a1 : Int) (a2 : Int) (ha0 : 0 ≤ a0) (ha0' : a0 ≤ 100) (hrow : rowO [.int .i64 1] = outO l i)
    (hcI : cellIs ⟨mkB (zoO l z i) (lapp (rrO (zrows 300 1 i) (zrowsT 0 1 n) (zrowsT 100 1 n)) (bO14 a0 a1 a2)), 2097152⟩ 30 (Nat.add 0 (Nat.mul (Int.toNat (Int.ofNat i)) 1)) (.row (zn i) 1 (fun k => Option.rec 0 (fun x => x) (lget [0] k)))) (hcR : cellsAre ⟨mkB (zoO l z i) (lapp (rrO (zrows 300 1 i) (zrowsT 0 1 n) (zrowsT 100 1 n)) (bO14 a0 a1 a2)), 2097152⟩ (zn i) (fun k => .sc (Option.rec 0 (fun x => x) (lget ([0] : List Int) k))) 1 0)
    {K : KE} (hK : ∀ env h ds σ, Abs n0O σ (stO l n z (i + 1) (ggO (zn i) [0]) (bO3 (a0 + 1) a0)).env (stO l n z (i + 1) (ggO (zn i) [0]) (bO3 (a0 + 1) a0)).h env h → K .nrm env h ds) :
    xcode C1 Tryz.prog F 14 (loopC Tryz.prog 14 22) (mask 14) (tmpsN Tryz.prog 14) (mkE (eO n (ggO (zn i) [0]) (.slc n0O 0 i i false 1) i)) ⟨mkB (zoO l z i) (lapp (rrO (zrows 300 1 i) (zrowsT 0 1 n) (zrowsT 100 1 n)) (bO14 a0 a1 a2)), 2097152⟩ dO_14_0 K :=
  round_use2 good1.spl (fun Kv => tO_14_0 (zoO l z i) (zrowsT 0 1 n) (zrowsT 100 1 n) n i (zn i) a0 a1 a2 Kv)
    (bcase_tt (dcq_lt (by simp only [Int.ofNat_eq_natCast]; omega)) (bcase_tt (inB_of hi) ⟨hcI, hcR, (bcase_tt (inR_i64 (by omega) (by omega)) (bcase_tt (dcq_ne (by omega)) (bcase_tt (dcq_ne (by omega)) (bcase_tt (dcq_eq (by omega)) (bcase_tt (dcq_ne (by omega)) (bcase_tt (dcq_ne (by omega)) (bcase_tt (dcq_eq (by omega)) (bcase_tt (dcq_eq (by omega)) (bcase_tt (dcq_cap i) (bcase_tt (appC_ok (by rw [zrows_len]) (by omega)) (bcase_any (bcase_tt (inR_add (by omega)) (fun env h ds ho => (absO_14_0 Zs hn hi (zn i) a0 a1 a2 hrow ho).elim fun σ ab => hK env h ds σ ab)) (bcase_tt (inR_add (by omega)) (fun env h ds ho => (absO_14_0 Zs hn hi (zn i) a0 a1 a2 hrow ho).elim fun σ ab => hK env h ds σ ab)))))))))))))⟩))
theorem useO_14_1 {l : Nat → Bool} {n : Nat} {z : T Blk} (Zs : ZinO l n z) (hn : n ≤ 60) {i : Nat} (hi : i < n) (a0 : Int) (a1 : Int) (a2 : Int) (ha0 : 0 ≤ a0) (ha0' : a0 ≤ 100) (hrow : rowO [.int .i64 2] = outO l i)
    (hcI : cellIs ⟨mkB (zoO l z i) (lapp (rrO (zrows 300 1 i) (zrowsT 0 1 n) (zrowsT 100 1 n)) (bO14 a0 a1 a2)), 2097152⟩ 30 (Nat.add 0 (Nat.mul (Int.toNat (Int.ofNat i)) 1)) (.row (zn i) 1 (fun k => Option.rec 0 (fun x => x) (lget [1] k)))) (hcR : cellsAre ⟨mkB (zoO l z i) (lapp (rrO (zrows 300 1 i) (zrowsT 0 1 n) (zrowsT 100 1 n)) (bO14 a0 a1 a2)), 2097152⟩ (zn i) (fun k => .sc (Option.rec 0 (fun x => x) (lget ([1] : List Int) k))) 1 0)
    {K : KE} (hK : ∀ env h ds σ, Abs n0O σ (stO l n z (i + 1) (ggO (zn i) [1]) (bO14 (a0 + 1) 1 a2)).env (stO l n z (i + 1) (ggO (zn i) [1]) (bO14 (a0 + 1) 1 a2)).h env h → K .nrm env h ds) :
    xcode C1 Tryz.prog F 14 (loopC Tryz.prog 14 22) (mask 14) (tmpsN Tryz.prog 14) (mkE (eO n (ggO (zn i) [1]) (.slc n0O 0 i i false 1) i)) ⟨mkB (zoO l z i) (lapp (rrO (zrows 300 1 i) (zrowsT 0 1 n) (zrowsT 100 1 n)) (bO14 a0 a1 a2)), 2097152⟩ dO_14_1 K :=
  round_use2 good1.spl (fun Kv => tO_14_1 (zoO l z i) (zrowsT 0 1 n) (zrowsT 100 1 n) n i (zn i) a0 a1 a2 Kv)
    (bcase_tt (dcq_lt (by simp only [Int.ofNat_eq_natCast]; omega)) (bcase_tt (inB_of hi) ⟨hcI, hcR, (bcase_tt (inR_i64 (by omega) (by omega)) (bcase_tt (dcq_ne (by omega)) (bcase_tt (dcq_ne (by omega)) (bcase_tt (dcq_eq (by omega)) (bcase_tt (dcq_ne (by omega)) (bcase_tt (dcq_ne (by omega)) (bcase_tt (dcq_eq (by omega)) (bcase_tt (dcq_eq (by omega)) (bcase_tt (dcq_cap i) (bcase_tt (appC_ok (by rw [zrows_len]) (by omega)) (bcase_any (bcase_tt (inR_add (by omega)) (fun env h ds ho => (absO_14_1 Zs hn hi (zn i) a0 a1 a2 hrow ho).elim fun σ ab => hK env h ds σ ab)) (bcase_tt (inR_add (by omega)) (fun env h ds ho => (absO_14_1 Zs hn hi (zn i) a0 a1 a2 hrow ho).elim fun σ ab => hK env h ds σ ab)))))))))))))⟩))
theorem useO_15_0 {l : Nat → Bool} {n : Nat} {z : T Blk} (Zs : ZinO l n z) (hn : n ≤ 60) {i : Nat} (hi : i < n) (a0 : Int) (a1 : Int) (ha0 : 0 ≤ a0) (ha0' : a0 ≤ 100) (hrow : rowO [.int .i64 1] = outO l i)
    (hcI : cellIs ⟨mkB (zoO l z i) (lapp (rrO (zrows 300 1 i) (zrowsT 0 1 n) (zrowsT 100 1 n)) (bO15 a0 a1)), 2097152⟩ 30 (Nat.add 0 (Nat.mul (Int.toNat (Int.ofNat i)) 1)) (.row (zn i) 1 (fun k => Option.rec 0 (fun x => x) (lget [0] k)))) (hcR : cellsAre ⟨mkB (zoO l z i) (lapp (rrO (zrows 300 1 i) (zrowsT 0 1 n) (zrowsT 100 1 n)) (bO15 a0 a1)), 2097152⟩ (zn i) (fun k => .sc (Option.rec 0 (fun x => x) (lget ([0] : List Int) k))) 1 0)
    {K : KE} (hK : ∀ env h ds σ, Abs n0O σ (stO l n z (i + 1) (ggO (zn i) [0]) (bO6 (a0 + 1) a0 a1)).env (stO l n z (i + 1) (ggO (zn i) [0]) (bO6 (a0 + 1) a0 a1)).h env h → K .nrm env h ds) :
    xcode C1 Tryz.prog F 14 (loopC Tryz.prog 14 22) (mask 14) (tmpsN Tryz.prog 14) (mkE (eO n (ggO (zn i) [0]) (.slc n0O 0 i i false 1) i)) ⟨mkB (zoO l z i) (lapp (rrO (zrows 300 1 i) (zrowsT 0 1 n) (zrowsT 100 1 n)) (bO15 a0 a1)), 2097152⟩ dO_15_0 K :=
  round_use2 good1.spl (fun Kv => tO_15_0 (zoO l z i) (zrowsT 0 1 n) (zrowsT 100 1 n) n i (zn i) a0 a1 Kv)
    (bcase_tt (dcq_lt (by simp only [Int.ofNat_eq_natCast]; omega)) (bcase_tt (inB_of hi) ⟨hcI, hcR, (bcase_tt (inR_i64 (by omega) (by omega)) (bcase_tt (dcq_ne (by omega)) (bcase_tt (dcq_ne (by omega)) (bcase_tt (dcq_eq (by omega)) (bcase_tt (dcq_ne (by omega)) (bcase_tt (dcq_ne (by omega)) (bcase_tt (dcq_eq (by omega)) (bcase_tt (dcq_eq (by omega)) (bcase_tt (dcq_cap i) (bcase_tt (appC_ok (by rw [zrows_len]) (by omega)) (bcase_any (bcase_tt (inR_add (by omega)) (fun env h ds ho => (absO_15_0 Zs hn hi (zn i) a0 a1 hrow ho).elim fun σ ab => hK env h ds σ ab)) (bcase_tt (inR_add (by omega)) (fun env h ds ho => (absO_15_0 Zs hn hi (zn i) a0 a1 hrow ho).elim fun σ ab => hK env h ds σ ab)))))))))))))⟩))
theorem useO_15_1 {l : Nat → Bool} {n : Nat} {z : T Blk} (Zs : ZinO l n z) (hn : n ≤ 60) {i : Nat} (hi : i < n) (a0 : Int) (a1 : Int) (ha0 : 0 ≤ a0) (ha0' : a0 ≤ 100) (hrow : rowO [.int .i64 2] = outO l i)
    (hcI : cellIs ⟨mkB (zoO l z i) (lapp (rrO (zrows 300 1 i) (zrowsT 0 1 n) (zrowsT 100 1 n)) (bO15 a0 a1)), 2097152⟩ 30 (Nat.add 0 (Nat.mul (Int.toNat (Int.ofNat i)) 1)) (.row (zn i) 1 (fun k => Option.rec 0 (fun x => x) (lget [1] k)))) (hcR : cellsAre ⟨mkB (zoO l z i) (lapp (rrO (zrows 300 1 i) (zrowsT 0 1 n) (zrowsT 100 1 n)) (bO15 a0 a1)), 2097152⟩ (zn i) (fun k => .sc (Option.rec 0 (fun x => x) (lget ([1] : List Int) k))) 1 0)
    {K : KE} (hK : ∀ env h ds σ, Abs n0O σ (stO l n z (i + 1) (ggO (zn i) [1]) (bO15 (a0 + 1) a1)).env (stO l n z (i + 1) (ggO (zn i) [1]) (bO15 (a0 + 1) a1)).h env h → K .nrm env h ds) :
    xcode C1 Tryz.prog F 14 (loopC Tryz.prog 14 22) (mask 14) (tmpsN Tryz.prog 14) (mkE (eO n (ggO (zn i) [1]) (.slc n0O 0 i i false 1) i)) ⟨mkB (zoO l z i) (lapp (rrO (zrows 300 1 i) (zrowsT 0 1 n) (zrowsT 100 1 n)) (bO15 a0 a1)), 2097152⟩ dO_15_1 K :=
  round_use2 good1.spl (fun Kv => tO_15_1 (zoO l z i) (zrowsT 0 1 n) (zrowsT 100 1 n) n i (zn i) a0 a1 Kv)
    (bcase_tt (dcq_lt (by simp only [Int.ofNat_eq_natCast]; omega)) (bcase_tt (inB_of hi) ⟨hcI, hcR, (bcase_tt (inR_i64 (by omega) (by omega)) (bcase_tt (dcq_ne (by omega)) (bcase_tt (dcq_ne (by omega)) (bcase_tt (dcq_eq (by omega)) (bcase_tt (dcq_ne (by omega)) (bcase_tt (dcq_ne (by omega)) (bcase_tt (dcq_eq (by omega)) (bcase_tt (dcq_eq (by omega)) (bcase_tt (dcq_cap i) (bcase_tt (appC_ok (by rw [zrows_len]) (by omega)) (bcase_any (bcase_tt (inR_add (by omega)) (fun env h ds ho => (absO_15_1 Zs hn hi (zn i) a0 a1 hrow ho).elim fun σ ab => hK env h ds σ ab)) (bcase_tt (inR_add (by omega)) (fun env h ds ho => (absO_15_1 Zs hn hi (zn i) a0 a1 hrow ho).elim fun σ ab => hK env h ds σ ab)))))))))))))⟩))
end
end Go.Proofs.YtkfhjobebhdpoaaGreat

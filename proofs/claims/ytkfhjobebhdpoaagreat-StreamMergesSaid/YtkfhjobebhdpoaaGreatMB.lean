/- Stream: what the rounds of Run's loop do. -/
import Derived.Test.YtkfhjobebhdpoaaGreatMA
import Derived.Test.YtkfhjobebhdpoaaGreatSK
import Derived.Test.YtkfhjobebhdpoaaGreatG
set_option linter.unusedVariables false
set_option autoImplicit false
set_option maxRecDepth 1000000
set_option maxHeartbeats 2000000
set_option linter.unusedVariables false
namespace Go.Proofs.YtkfhjobebhdpoaaGreat
noncomputable section
open Go.X
/-- how often it was true so far -/
def cntM (l : Nat → Bool) : Nat → Int := fun i => Nat.rec 0 (fun j ih => Bool.rec ih (ih + 1) (l j)) i
/-- how often it was not -/
def cntN (l : Nat → Bool) : Nat → Int := fun i => Nat.rec 0 (fun j ih => Bool.rec (ih + 1) ih (l j)) i
theorem cntM_succ (l : Nat → Bool) (i : Nat) : cntM l (i + 1) = Bool.rec (cntM l i) (cntM l i + 1) (l i) := rfl
theorem cntN_succ (l : Nat → Bool) (i : Nat) : cntN l (i + 1) = Bool.rec (cntN l i + 1) (cntN l i) (l i) := rfl
theorem cntM_le (l : Nat → Bool) : ∀ i : Nat, 0 ≤ cntM l i ∧ 0 ≤ cntN l i ∧ cntM l i + cntN l i = i
  | 0 => ⟨Int.le_refl _, Int.le_refl _, rfl⟩
  | i + 1 => by
    obtain ⟨a, b, c⟩ := cntM_le l i
    rw [cntM_succ, cntN_succ]
    cases l i with
    | true => show 0 ≤ cntM l i + 1 ∧ 0 ≤ cntN l i ∧ cntM l i + 1 + cntN l i = ((i + 1 : Nat) : Int); omega
    | false => show 0 ≤ cntM l i ∧ 0 ≤ cntN l i + 1 ∧ cntM l i + (cntN l i + 1) = ((i + 1 : Nat) : Int); omega
def valM (l : Nat → Bool) (j : Nat) : Int := Bool.rec (-(cntN l (j + 1))) (cntM l (j + 1)) (l j)
def inRowM (l : Nat → Bool) (j : Nat) : Blk := .row [.int .i64 (bi (l j))] 3 true []
def outM (l : Nat → Bool) (j : Nat) : Blk := rowM [.int .i64 (valM l j)]
theorem outM_int (l : Nat → Bool) (j : Nat) : IntRow (outM l j) := ⟨[valM l j], 3, true, rfl⟩
/-- the zone that holds the rows of the inputs and those that are wanted -/
structure ZinM (l : Nat → Bool) (n : Nat) (z : T Blk) : Prop where
  ins : ∀ j, j < n → z.get j = some (inRowM l j)
  want : ∀ j, j < n → z.get (100 + j) = some (outM l j)
  only : ∀ x k, z.get x = some k → x < 200 ∧ IntRow k
theorem blksM0 : blksN n0M (bM0) = true := by kernel_rfl
theorem getM0 (z : T Blk) (csI csW : List AV) : T.get (mkB z (lapp (rr0M csI csW) bM0)) 30 = some (.row csI 22 true []) := by kernel_rfl
theorem zgM0 (z : T Blk) (csI csW : List AV) : zget (mkB z (lapp (rr0M csI csW) bM0)) 12 = z := by kernel_rfl
theorem getM1 (z : T Blk) (cs csI csW : List AV) (a0 : Int) (a1 : Int) (a2 : Int) : T.get (mkB z (lapp (rrM cs csI csW) (bM1 a0 a1 a2))) 30 = some (.row csI 22 true []) := by kernel_rfl
theorem zgM1 (z : T Blk) (cs csI csW : List AV) (a0 : Int) (a1 : Int) (a2 : Int) : zget (mkB z (lapp (rrM cs csI csW) (bM1 a0 a1 a2))) 12 = z := by kernel_rfl
theorem getM2 (z : T Blk) (cs csI csW : List AV) (a0 : Int) (a1 : Int) (a2 : Int) (a3 : Int) (a4 : Int) (a5 : Int) (a6 : Int) (a7 : Int) : T.get (mkB z (lapp (rrM cs csI csW) (bM2 a0 a1 a2 a3 a4 a5 a6 a7))) 30 = some (.row csI 22 true []) := by kernel_rfl
theorem zgM2 (z : T Blk) (cs csI csW : List AV) (a0 : Int) (a1 : Int) (a2 : Int) (a3 : Int) (a4 : Int) (a5 : Int) (a6 : Int) (a7 : Int) : zget (mkB z (lapp (rrM cs csI csW) (bM2 a0 a1 a2 a3 a4 a5 a6 a7))) 12 = z := by kernel_rfl
theorem getM3 (z : T Blk) (cs csI csW : List AV) (a0 : Int) (a1 : Int) (a2 : Int) (a3 : Int) (a4 : Int) (a5 : Int) (a6 : Int) (a7 : Int) : T.get (mkB z (lapp (rrM cs csI csW) (bM3 a0 a1 a2 a3 a4 a5 a6 a7))) 30 = some (.row csI 22 true []) := by kernel_rfl
theorem zgM3 (z : T Blk) (cs csI csW : List AV) (a0 : Int) (a1 : Int) (a2 : Int) (a3 : Int) (a4 : Int) (a5 : Int) (a6 : Int) (a7 : Int) : zget (mkB z (lapp (rrM cs csI csW) (bM3 a0 a1 a2 a3 a4 a5 a6 a7))) 12 = z := by kernel_rfl
theorem getM4 (z : T Blk) (cs csI csW : List AV) (a0 : Int) (a1 : Int) (a2 : Int) (a3 : Int) : T.get (mkB z (lapp (rrM cs csI csW) (bM4 a0 a1 a2 a3))) 30 = some (.row csI 22 true []) := by kernel_rfl
theorem zgM4 (z : T Blk) (cs csI csW : List AV) (a0 : Int) (a1 : Int) (a2 : Int) (a3 : Int) : zget (mkB z (lapp (rrM cs csI csW) (bM4 a0 a1 a2 a3))) 12 = z := by kernel_rfl
/-- the zone as far as round i -/
def zoM (l : Nat → Bool) (z : T Blk) (i : Nat) : T Blk := zgrow z 300 (outM l) i
theorem zoM_ok {l : Nat → Bool} {n : Nat} {z : T Blk} (Zs : ZinM l n z) {i : Nat} (hi : i ≤ 60) : ZoneOK (zoM l z i) 2097152 := by
  refine zgrow_ok (fun x k h => ?_) fun j hj => ⟨outM_int l j, by rw [zn_eq]; omega, by rw [zn_eq]; show _ < 1000000000000; omega⟩
  obtain ⟨a, b⟩ := Zs.only x k h
  exact ⟨b, by rw [zn_eq]; omega, by rw [zn_eq]; show _ < 1000000000000; omega⟩
theorem zoM_low {l : Nat → Bool} {z : T Blk} {i x : Nat} (hx : x < 300) : (zoM l z i).get x = z.get x := zgrow_old (.inl hx)
theorem belM_I {n : Nat} (hn : n ≤ 60) : belL 2097152 (zrowsT 0 1 n) = true := belL_slc _ _ _ _ _ fun j hj => by have := List.mem_range.1 hj; rw [zn_eq]; omega
theorem belM_W {n : Nat} (hn : n ≤ 60) : belL 2097152 (zrowsT 100 1 n) = true := belL_slc _ _ _ _ _ fun j hj => by have := List.mem_range.1 hj; rw [zn_eq]; omega
theorem belM_O {i : Nat} (hi : i ≤ 60) : belL 2097152 (zrows 300 1 i) = true := belL_slc _ _ _ _ _ fun j hj => by have := List.mem_range.1 hj; rw [zn_eq]; omega
/-- the state that shape B makes at round i -/
def stM (l : Nat → Bool) (n : Nat) (z : T Blk) (i : Nat) (g : Nat → CV) (B : List (Nat × Blk)) : ZS := ⟨eM n g (.slc n0M 0 i i false 1) i, lapp (rrM (zrows 300 1 i) (zrowsT 0 1 n) (zrowsT 100 1 n)) B, zoM l z i, 2097152⟩
def finM (l : Nat → Bool) (n : Nat) (z : T Blk) : ZS := ⟨[(6, .nils), (7, .int .i64 (Int.ofNat 0)), (17, .slc n0M 0 n n false 1)], rrM (zrows 300 1 n) (zrowsT 0 1 n) (zrowsT 100 1 n), zoM l z n, 2097152⟩
theorem keepIM {l : Nat → Bool} {n : Nat} {z : T Blk} (Zs : ZinM l n z) (hn : n ≤ 60) {i : Nat} {A Zn : List (Nat × Nat × Blk)} (hA : okLit n0M 2097152 A = true) (hZ : ∀ p ∈ Zn, 300 ≤ p.1) :
    renL (szs n0M (namesOf A Zn) (kpOf (zoM l z i))) (zrowsT 0 1 n) = (zrowsT 0 1 n) ∧ renL (szs n0M (namesOf A Zn) (kpOf (zoM l z i))) (zrowsT 100 1 n) = (zrowsT 100 1 n) := by
  constructor
  · unfold zrowsT
    rw [renL_slc]
    refine List.map_congr_left fun j hj => ?_
    have hj := List.mem_range.1 hj
    rw [szs_zone hA (k := inRowM l j) (by rw [zoM_low (by omega), Nat.zero_add]; exact Zs.ins j hj) (fun p hp e => by have := hZ p hp; omega)]
  · unfold zrowsT
    rw [renL_slc]
    refine List.map_congr_left fun j hj => ?_
    have hj := List.mem_range.1 hj
    rw [szs_zone hA (k := outM l j) (by rw [zoM_low (by omega)]; exact Zs.want j hj) (fun p hp e => by have := hZ p hp; omega)]
theorem litM_0_1 : okLit n0M 2097152 (zipA (bM1 1 1 2) kM_0_1) = true := by kernel_rfl
theorem keysM_0_1 (n : Nat) : nodupQ (lmap (fun p => p.1) (lapp [(n0M, 1049575, .row (zrows 300 1 1) 22 true []), (30, 30, .row (zrowsT 0 1 n) 22 true []), (31, 31, .row (zrowsT 100 1 n) 22 true [])] (zipA (bM1 1 1 2) kM_0_1))) = true := by kernel_rfl
theorem actsM_0_1 (n : Nat) : nodupQ (actsOf (lapp [(n0M, 1049575, .row (zrows 300 1 1) 22 true []), (30, 30, .row (zrowsT 0 1 n) 22 true []), (31, 31, .row (zrowsT 100 1 n) 22 true [])] (zipA (bM1 1 1 2) kM_0_1)) [(300, 1049573, rowM [.int .i64 1])]) = true := by kernel_rfl
theorem absM_0_1 {l : Nat → Bool} {n : Nat} {z : T Blk} (Zs : ZinM l n z) (hn : n ≤ 60) (hi : 0 < n) (r : Nat) (hrow : rowM [.int .i64 1] = outM l 0) {env : Env} {h : H}
    (ho : obs [6, 7, 16, 17, 71, 72, 73] (actsOf (lapp [(n0M, 1049575, .row (zrows 300 1 1) 22 true []), (30, 30, .row (zrowsT 0 1 n) 22 true []), (31, 31, .row (zrowsT 100 1 n) 22 true [])] (zipA (bM1 1 1 2) kM_0_1)) [(300, 1049573, rowM [.int .i64 1])]) (lapp [(n0M, 1049575, .row (zrows 300 1 1) 22 true []), (30, 30, .row (zrowsT 0 1 n) 22 true []), (31, 31, .row (zrowsT 100 1 n) 22 true [])] (zipA (bM1 1 1 2) kM_0_1)) [(300, 1049573, rowM [.int .i64 1])] env h = expsR n0M (kpOf z) (eM n (ggM r [1]) (.slc n0M 0 1 1 false 1) 1) [(n0M, 1049575, .row (zrows 300 1 1) 22 true []), (30, 30, .row (zrowsT 0 1 n) 22 true []), (31, 31, .row (zrowsT 100 1 n) 22 true [])] (zipA (bM1 1 1 2) kM_0_1) [(300, 1049573, rowM [.int .i64 1])] z [(some (.row [.slc 1049573 0 1 1 false 1] 22 true []), true), (some (.row (zrowsT 0 1 n) 22 true []), true), (some (.row (zrowsT 100 1 n) 22 true []), true)]) :
    ∃ σ, Abs n0M σ (stM l n z 1 (ggM r [1]) (bM1 1 1 2)).env (stM l n z 1 (ggM r [1]) (bM1 1 1 2)).h env h := by
  have hlit : okLit n0M 2097152 (lapp [(n0M, 1049575, .row (zrows 300 1 1) 22 true []), (30, 30, .row (zrowsT 0 1 n) 22 true []), (31, 31, .row (zrowsT 100 1 n) 22 true [])] (zipA (bM1 1 1 2) kM_0_1)) = true := okLit_row rfl (belM_O (by omega)) (okLit_row rfl (belM_I hn) (okLit_row rfl (belM_W hn) (litM_0_1)))
  have hZ3 : ∀ p ∈ ([(300, 1049573, rowM [.int .i64 1])] : List (Nat × Nat × Blk)), 300 ≤ p.1 := fun p hp => by rw [List.mem_singleton.1 hp]; show 300 ≤ 300; omega
  have hnd : (([(300, 1049573, rowM [.int .i64 1])] : List (Nat × Nat × Blk)).map (·.1)).Nodup := by simp
  have k1 := keepIM Zs hn (i := 0) hlit hZ3
  rw [expsR_eq] at ho
  · exact NewOK.abs (t := stM l n z 1 (ggM r [1]) (bM1 1 1 2)) (A := lapp [(n0M, 1049575, .row (zrows 300 1 1) 22 true []), (30, 30, .row (zrowsT 0 1 n) 22 true []), (31, 31, .row (zrowsT 100 1 n) 22 true [])] (zipA (bM1 1 1 2) kM_0_1)) (Z := [(300, 1049573, rowM [.int .i64 1])]) (z := z)
      ⟨by rw [lmap_app, zipA_B]; rfl, by show T.set z (outM l 0) (300 + 0) = T.set z (rowM [.int .i64 1]) 300; rw [hrow], by show 1049540 ≤ 2097152; decide, by kernel_rfl, hlit, keysM_0_1 n, actsM_0_1 n,
        fun p hp => by
          rw [List.mem_singleton.1 hp]
          refine ⟨by show 1049540 ≤ zn 300; rw [zn_eq]; omega, by show zn 300 < 2097152; rw [zn_eq]; omega, by show 1049540 ≤ 1049573; decide, by show 1049573 < 1000000000000; decide, by show 1049573 % 4096 ≠ 4095; decide, ?_⟩
          exact ⟨[1], 3, true, rfl⟩,
        hnd, by have := zoM_ok Zs (i := 0) (by omega); exact this⟩ rfl rfl rfl rfl ho
  · have e1 : [.slc 1049573 0 1 1 false 1] = renL (szs n0M (namesOf (lapp [(n0M, 1049575, .row (zrows 300 1 1) 22 true []), (30, 30, .row (zrowsT 0 1 n) 22 true []), (31, 31, .row (zrowsT 100 1 n) 22 true [])] (zipA (bM1 1 1 2) kM_0_1)) [(300, 1049573, rowM [.int .i64 1])]) (kpOf z)) (zrows 300 1 1) := by
      refine zrows_grow (i := 0) (fun j hj => ?_) (szs_row hlit (by show 1049540 ≤ zn (300 + 0); rw [zn_eq]; omega) (List.mem_singleton.2 rfl) hnd)
      omega
    show [(some (Blk.row _ _ _ _), true), (some (Blk.row _ _ _ _), true), (some (Blk.row _ _ _ _), true)] = [(some (Blk.row (renL _ _) _ _ _), true), (some (Blk.row (renL _ _) _ _ _), true), (some (Blk.row (renL _ _) _ _ _), true)]
    rw [← e1]
    have k1 := k1
    change renL (szs n0M (namesOf _ _) (kpOf z)) _ = _ ∧ renL (szs n0M (namesOf _ _) (kpOf z)) _ = _ at k1
    rw [k1.1, k1.2]; rfl
theorem litM_1_0 (a0 : Int) (a1 : Int) (a2 : Int) : okLit n0M 2097152 (zipA (bM2 (a0 + 1) a1 (-1) a0 1 a2 1 2) kM_1_0) = true := by kernel_rfl
theorem keysM_1_0 (n i : Nat) (a0 : Int) (a1 : Int) (a2 : Int) : nodupQ (lmap (fun p => p.1) (lapp [(n0M, 2097191, .row (zrows 300 1 (i + 1)) 22 true []), (30, 30, .row (zrowsT 0 1 n) 22 true []), (31, 31, .row (zrowsT 100 1 n) 22 true [])] (zipA (bM2 (a0 + 1) a1 (-1) a0 1 a2 1 2) kM_1_0))) = true := by kernel_rfl
theorem actsM_1_0 (n i : Nat) (a0 : Int) (a1 : Int) (a2 : Int) : nodupQ (actsOf (lapp [(n0M, 2097191, .row (zrows 300 1 (i + 1)) 22 true []), (30, 30, .row (zrowsT 0 1 n) 22 true []), (31, 31, .row (zrowsT 100 1 n) 22 true [])] (zipA (bM2 (a0 + 1) a1 (-1) a0 1 a2 1 2) kM_1_0)) [(300 + i, 2097189, rowM [.int .i64 (-1)])]) = true := by kernel_rfl
theorem absM_1_0 {l : Nat → Bool} {n : Nat} {z : T Blk} (Zs : ZinM l n z) (hn : n ≤ 60) {i : Nat} (hi : i < n) (r : Nat) (a0 : Int) (a1 : Int) (a2 : Int) (hrow : rowM [.int .i64 (-1)] = outM l i) {env : Env} {h : H}
    (ho : obs [6, 7, 16, 17, 71, 72, 73] (actsOf (lapp [(n0M, 2097191, .row (zrows 300 1 (i + 1)) 22 true []), (30, 30, .row (zrowsT 0 1 n) 22 true []), (31, 31, .row (zrowsT 100 1 n) 22 true [])] (zipA (bM2 (a0 + 1) a1 (-1) a0 1 a2 1 2) kM_1_0)) [(300 + i, 2097189, rowM [.int .i64 (-1)])]) (lapp [(n0M, 2097191, .row (zrows 300 1 (i + 1)) 22 true []), (30, 30, .row (zrowsT 0 1 n) 22 true []), (31, 31, .row (zrowsT 100 1 n) 22 true [])] (zipA (bM2 (a0 + 1) a1 (-1) a0 1 a2 1 2) kM_1_0)) [(300 + i, 2097189, rowM [.int .i64 (-1)])] env h = expsR n0M (kpOf (zoM l z i)) (eM n (ggM r [0]) (.slc n0M 0 (i + 1) (i + 1) false 1) (i + 1)) [(n0M, 2097191, .row (zrows 300 1 (i + 1)) 22 true []), (30, 30, .row (zrowsT 0 1 n) 22 true []), (31, 31, .row (zrowsT 100 1 n) 22 true [])] (zipA (bM2 (a0 + 1) a1 (-1) a0 1 a2 1 2) kM_1_0) [(300 + i, 2097189, rowM [.int .i64 (-1)])] (zoM l z i) [(some (.row (lapp (ltake (ldrop (zrows 300 1 i) 0) (Nat.mul i 1)) [.slc 2097189 0 1 1 false 1]) 22 true []), true), (some (.row (zrowsT 0 1 n) 22 true []), true), (some (.row (zrowsT 100 1 n) 22 true []), true)]) :
    ∃ σ, Abs n0M σ (stM l n z (i + 1) (ggM r [0]) (bM2 (a0 + 1) a1 (-1) a0 1 a2 1 2)).env (stM l n z (i + 1) (ggM r [0]) (bM2 (a0 + 1) a1 (-1) a0 1 a2 1 2)).h env h := by
  have hlit : okLit n0M 2097152 (lapp [(n0M, 2097191, .row (zrows 300 1 (i + 1)) 22 true []), (30, 30, .row (zrowsT 0 1 n) 22 true []), (31, 31, .row (zrowsT 100 1 n) 22 true [])] (zipA (bM2 (a0 + 1) a1 (-1) a0 1 a2 1 2) kM_1_0)) = true := okLit_row rfl (belM_O (by omega)) (okLit_row rfl (belM_I hn) (okLit_row rfl (belM_W hn) (litM_1_0 a0 a1 a2)))
  have hZ3 : ∀ p ∈ ([(300 + i, 2097189, rowM [.int .i64 (-1)])] : List (Nat × Nat × Blk)), 300 ≤ p.1 := fun p hp => by rw [List.mem_singleton.1 hp]; show 300 ≤ 300 + i; omega
  have hnd : (([(300 + i, 2097189, rowM [.int .i64 (-1)])] : List (Nat × Nat × Blk)).map (·.1)).Nodup := by simp
  have k1 := keepIM Zs hn (i := i) hlit hZ3
  rw [expsR_eq] at ho
  · exact NewOK.abs (t := stM l n z (i + 1) (ggM r [0]) (bM2 (a0 + 1) a1 (-1) a0 1 a2 1 2)) (A := lapp [(n0M, 2097191, .row (zrows 300 1 (i + 1)) 22 true []), (30, 30, .row (zrowsT 0 1 n) 22 true []), (31, 31, .row (zrowsT 100 1 n) 22 true [])] (zipA (bM2 (a0 + 1) a1 (-1) a0 1 a2 1 2) kM_1_0)) (Z := [(300 + i, 2097189, rowM [.int .i64 (-1)])]) (z := (zoM l z i))
      ⟨by rw [lmap_app, zipA_B]; rfl, by show T.set (zoM l z i) (outM l i) (300 + i) = T.set (zoM l z i) (rowM [.int .i64 (-1)]) (300 + i); rw [hrow], by show 1049540 ≤ 2097152; decide, by kernel_rfl, hlit, keysM_1_0 n i a0 a1 a2, actsM_1_0 n i a0 a1 a2,
        fun p hp => by
          rw [List.mem_singleton.1 hp]
          refine ⟨by show 1049540 ≤ zn (300 + i); rw [zn_eq]; omega, by show zn (300 + i) < 2097152; rw [zn_eq]; omega, by show 1049540 ≤ 2097189; decide, by show 2097189 < 1000000000000; decide, by show 2097189 % 4096 ≠ 4095; decide, ?_⟩
          exact ⟨[(-1)], 3, true, rfl⟩,
        hnd, zoM_ok Zs (by omega)⟩ rfl rfl rfl rfl ho
  · have e1 : (lapp (ltake (ldrop (zrows 300 1 i) 0) (Nat.mul i 1)) [.slc 2097189 0 1 1 false 1]) = renL (szs n0M (namesOf (lapp [(n0M, 2097191, .row (zrows 300 1 (i + 1)) 22 true []), (30, 30, .row (zrowsT 0 1 n) 22 true []), (31, 31, .row (zrowsT 100 1 n) 22 true [])] (zipA (bM2 (a0 + 1) a1 (-1) a0 1 a2 1 2) kM_1_0)) [(300 + i, 2097189, rowM [.int .i64 (-1)])]) (kpOf (zoM l z i))) (zrows 300 1 (i + 1)) := by
      refine zrows_grow (i := i) (fun j hj => ?_) (szs_row hlit (by show 1049540 ≤ zn (300 + i); rw [zn_eq]; omega) (List.mem_singleton.2 rfl) hnd)
      exact szs_zone hlit (zgrow_new hj) (fun p hp e => by rw [List.mem_singleton.1 hp] at e; have e : 300 + i = 300 + j := e; omega)
    show [(some (Blk.row _ _ _ _), true), (some (Blk.row _ _ _ _), true), (some (Blk.row _ _ _ _), true)] = [(some (Blk.row (renL _ _) _ _ _), true), (some (Blk.row (renL _ _) _ _ _), true), (some (Blk.row (renL _ _) _ _ _), true)]
    rw [← e1]
    have k1 := k1
    skip
    rw [k1.1, k1.2]; rfl
theorem litM_2_1 (a0 : Int) (a1 : Int) (a2 : Int) (a3 : Int) (a4 : Int) (a5 : Int) (a6 : Int) (a7 : Int) : okLit n0M 2097152 (zipA (bM3 (a0 + 1) a5 a2 (a3 + 1) a4 (a5 + 1) a6 a7) kM_2_1) = true := by kernel_rfl
theorem keysM_2_1 (n i : Nat) (a0 : Int) (a1 : Int) (a2 : Int) (a3 : Int) (a4 : Int) (a5 : Int) (a6 : Int) (a7 : Int) : nodupQ (lmap (fun p => p.1) (lapp [(n0M, 2097187, .row (zrows 300 1 (i + 1)) 22 true []), (30, 30, .row (zrowsT 0 1 n) 22 true []), (31, 31, .row (zrowsT 100 1 n) 22 true [])] (zipA (bM3 (a0 + 1) a5 a2 (a3 + 1) a4 (a5 + 1) a6 a7) kM_2_1))) = true := by kernel_rfl
theorem actsM_2_1 (n i : Nat) (a0 : Int) (a1 : Int) (a2 : Int) (a3 : Int) (a4 : Int) (a5 : Int) (a6 : Int) (a7 : Int) : nodupQ (actsOf (lapp [(n0M, 2097187, .row (zrows 300 1 (i + 1)) 22 true []), (30, 30, .row (zrowsT 0 1 n) 22 true []), (31, 31, .row (zrowsT 100 1 n) 22 true [])] (zipA (bM3 (a0 + 1) a5 a2 (a3 + 1) a4 (a5 + 1) a6 a7) kM_2_1)) [(300 + i, 2097185, rowM [.int .i64 a5])]) = true := by kernel_rfl
theorem absM_2_1 {l : Nat → Bool} {n : Nat} {z : T Blk} (Zs : ZinM l n z) (hn : n ≤ 60) {i : Nat} (hi : i < n) (r : Nat) (a0 : Int) (a1 : Int) (a2 : Int) (a3 : Int) (a4 : Int) (a5 : Int) (a6 : Int) (a7 : Int) (hrow : rowM [.int .i64 a5] = outM l i) {env : Env} {h : H}
    (ho : obs [6, 7, 16, 17, 71, 72, 73] (actsOf (lapp [(n0M, 2097187, .row (zrows 300 1 (i + 1)) 22 true []), (30, 30, .row (zrowsT 0 1 n) 22 true []), (31, 31, .row (zrowsT 100 1 n) 22 true [])] (zipA (bM3 (a0 + 1) a5 a2 (a3 + 1) a4 (a5 + 1) a6 a7) kM_2_1)) [(300 + i, 2097185, rowM [.int .i64 a5])]) (lapp [(n0M, 2097187, .row (zrows 300 1 (i + 1)) 22 true []), (30, 30, .row (zrowsT 0 1 n) 22 true []), (31, 31, .row (zrowsT 100 1 n) 22 true [])] (zipA (bM3 (a0 + 1) a5 a2 (a3 + 1) a4 (a5 + 1) a6 a7) kM_2_1)) [(300 + i, 2097185, rowM [.int .i64 a5])] env h = expsR n0M (kpOf (zoM l z i)) (eM n (ggM r [1]) (.slc n0M 0 (i + 1) (i + 1) false 1) (i + 1)) [(n0M, 2097187, .row (zrows 300 1 (i + 1)) 22 true []), (30, 30, .row (zrowsT 0 1 n) 22 true []), (31, 31, .row (zrowsT 100 1 n) 22 true [])] (zipA (bM3 (a0 + 1) a5 a2 (a3 + 1) a4 (a5 + 1) a6 a7) kM_2_1) [(300 + i, 2097185, rowM [.int .i64 a5])] (zoM l z i) [(some (.row (lapp (ltake (ldrop (zrows 300 1 i) 0) (Nat.mul i 1)) [.slc 2097185 0 1 1 false 1]) 22 true []), true), (some (.row (zrowsT 0 1 n) 22 true []), true), (some (.row (zrowsT 100 1 n) 22 true []), true)]) :
    ∃ σ, Abs n0M σ (stM l n z (i + 1) (ggM r [1]) (bM3 (a0 + 1) a5 a2 (a3 + 1) a4 (a5 + 1) a6 a7)).env (stM l n z (i + 1) (ggM r [1]) (bM3 (a0 + 1) a5 a2 (a3 + 1) a4 (a5 + 1) a6 a7)).h env h := by
  have hlit : okLit n0M 2097152 (lapp [(n0M, 2097187, .row (zrows 300 1 (i + 1)) 22 true []), (30, 30, .row (zrowsT 0 1 n) 22 true []), (31, 31, .row (zrowsT 100 1 n) 22 true [])] (zipA (bM3 (a0 + 1) a5 a2 (a3 + 1) a4 (a5 + 1) a6 a7) kM_2_1)) = true := okLit_row rfl (belM_O (by omega)) (okLit_row rfl (belM_I hn) (okLit_row rfl (belM_W hn) (litM_2_1 a0 a1 a2 a3 a4 a5 a6 a7)))
  have hZ3 : ∀ p ∈ ([(300 + i, 2097185, rowM [.int .i64 a5])] : List (Nat × Nat × Blk)), 300 ≤ p.1 := fun p hp => by rw [List.mem_singleton.1 hp]; show 300 ≤ 300 + i; omega
  have hnd : (([(300 + i, 2097185, rowM [.int .i64 a5])] : List (Nat × Nat × Blk)).map (·.1)).Nodup := by simp
  have k1 := keepIM Zs hn (i := i) hlit hZ3
  rw [expsR_eq] at ho
  · exact NewOK.abs (t := stM l n z (i + 1) (ggM r [1]) (bM3 (a0 + 1) a5 a2 (a3 + 1) a4 (a5 + 1) a6 a7)) (A := lapp [(n0M, 2097187, .row (zrows 300 1 (i + 1)) 22 true []), (30, 30, .row (zrowsT 0 1 n) 22 true []), (31, 31, .row (zrowsT 100 1 n) 22 true [])] (zipA (bM3 (a0 + 1) a5 a2 (a3 + 1) a4 (a5 + 1) a6 a7) kM_2_1)) (Z := [(300 + i, 2097185, rowM [.int .i64 a5])]) (z := (zoM l z i))
      ⟨by rw [lmap_app, zipA_B]; rfl, by show T.set (zoM l z i) (outM l i) (300 + i) = T.set (zoM l z i) (rowM [.int .i64 a5]) (300 + i); rw [hrow], by show 1049540 ≤ 2097152; decide, by kernel_rfl, hlit, keysM_2_1 n i a0 a1 a2 a3 a4 a5 a6 a7, actsM_2_1 n i a0 a1 a2 a3 a4 a5 a6 a7,
        fun p hp => by
          rw [List.mem_singleton.1 hp]
          refine ⟨by show 1049540 ≤ zn (300 + i); rw [zn_eq]; omega, by show zn (300 + i) < 2097152; rw [zn_eq]; omega, by show 1049540 ≤ 2097185; decide, by show 2097185 < 1000000000000; decide, by show 2097185 % 4096 ≠ 4095; decide, ?_⟩
          exact ⟨[a5], 3, true, rfl⟩,
        hnd, zoM_ok Zs (by omega)⟩ rfl rfl rfl rfl ho
  · have e1 : (lapp (ltake (ldrop (zrows 300 1 i) 0) (Nat.mul i 1)) [.slc 2097185 0 1 1 false 1]) = renL (szs n0M (namesOf (lapp [(n0M, 2097187, .row (zrows 300 1 (i + 1)) 22 true []), (30, 30, .row (zrowsT 0 1 n) 22 true []), (31, 31, .row (zrowsT 100 1 n) 22 true [])] (zipA (bM3 (a0 + 1) a5 a2 (a3 + 1) a4 (a5 + 1) a6 a7) kM_2_1)) [(300 + i, 2097185, rowM [.int .i64 a5])]) (kpOf (zoM l z i))) (zrows 300 1 (i + 1)) := by
      refine zrows_grow (i := i) (fun j hj => ?_) (szs_row hlit (by show 1049540 ≤ zn (300 + i); rw [zn_eq]; omega) (List.mem_singleton.2 rfl) hnd)
      exact szs_zone hlit (zgrow_new hj) (fun p hp e => by rw [List.mem_singleton.1 hp] at e; have e : 300 + i = 300 + j := e; omega)
    show [(some (Blk.row _ _ _ _), true), (some (Blk.row _ _ _ _), true), (some (Blk.row _ _ _ _), true)] = [(some (Blk.row (renL _ _) _ _ _), true), (some (Blk.row (renL _ _) _ _ _), true), (some (Blk.row (renL _ _) _ _ _), true)]
    rw [← e1]
    have k1 := k1
    skip
    rw [k1.1, k1.2]; rfl
theorem litM_3_1 (a0 : Int) (a1 : Int) (a2 : Int) (a3 : Int) (a4 : Int) (a5 : Int) (a6 : Int) (a7 : Int) : okLit n0M 2097152 (zipA (bM3 (a0 + 1) a5 a2 (a3 + 1) a4 (a5 + 1) a6 a7) kM_3_1) = true := by kernel_rfl
theorem keysM_3_1 (n i : Nat) (a0 : Int) (a1 : Int) (a2 : Int) (a3 : Int) (a4 : Int) (a5 : Int) (a6 : Int) (a7 : Int) : nodupQ (lmap (fun p => p.1) (lapp [(n0M, 2097187, .row (zrows 300 1 (i + 1)) 22 true []), (30, 30, .row (zrowsT 0 1 n) 22 true []), (31, 31, .row (zrowsT 100 1 n) 22 true [])] (zipA (bM3 (a0 + 1) a5 a2 (a3 + 1) a4 (a5 + 1) a6 a7) kM_3_1))) = true := by kernel_rfl
theorem actsM_3_1 (n i : Nat) (a0 : Int) (a1 : Int) (a2 : Int) (a3 : Int) (a4 : Int) (a5 : Int) (a6 : Int) (a7 : Int) : nodupQ (actsOf (lapp [(n0M, 2097187, .row (zrows 300 1 (i + 1)) 22 true []), (30, 30, .row (zrowsT 0 1 n) 22 true []), (31, 31, .row (zrowsT 100 1 n) 22 true [])] (zipA (bM3 (a0 + 1) a5 a2 (a3 + 1) a4 (a5 + 1) a6 a7) kM_3_1)) [(300 + i, 2097185, rowM [.int .i64 a5])]) = true := by kernel_rfl
theorem absM_3_1 {l : Nat → Bool} {n : Nat} {z : T Blk} (Zs : ZinM l n z) (hn : n ≤ 60) {i : Nat} (hi : i < n) (r : Nat) (a0 : Int) (a1 : Int) (a2 : Int) (a3 : Int) (a4 : Int) (a5 : Int) (a6 : Int) (a7 : Int) (hrow : rowM [.int .i64 a5] = outM l i) {env : Env} {h : H}
    (ho : obs [6, 7, 16, 17, 71, 72, 73] (actsOf (lapp [(n0M, 2097187, .row (zrows 300 1 (i + 1)) 22 true []), (30, 30, .row (zrowsT 0 1 n) 22 true []), (31, 31, .row (zrowsT 100 1 n) 22 true [])] (zipA (bM3 (a0 + 1) a5 a2 (a3 + 1) a4 (a5 + 1) a6 a7) kM_3_1)) [(300 + i, 2097185, rowM [.int .i64 a5])]) (lapp [(n0M, 2097187, .row (zrows 300 1 (i + 1)) 22 true []), (30, 30, .row (zrowsT 0 1 n) 22 true []), (31, 31, .row (zrowsT 100 1 n) 22 true [])] (zipA (bM3 (a0 + 1) a5 a2 (a3 + 1) a4 (a5 + 1) a6 a7) kM_3_1)) [(300 + i, 2097185, rowM [.int .i64 a5])] env h = expsR n0M (kpOf (zoM l z i)) (eM n (ggM r [1]) (.slc n0M 0 (i + 1) (i + 1) false 1) (i + 1)) [(n0M, 2097187, .row (zrows 300 1 (i + 1)) 22 true []), (30, 30, .row (zrowsT 0 1 n) 22 true []), (31, 31, .row (zrowsT 100 1 n) 22 true [])] (zipA (bM3 (a0 + 1) a5 a2 (a3 + 1) a4 (a5 + 1) a6 a7) kM_3_1) [(300 + i, 2097185, rowM [.int .i64 a5])] (zoM l z i) [(some (.row (lapp (ltake (ldrop (zrows 300 1 i) 0) (Nat.mul i 1)) [.slc 2097185 0 1 1 false 1]) 22 true []), true), (some (.row (zrowsT 0 1 n) 22 true []), true), (some (.row (zrowsT 100 1 n) 22 true []), true)]) :
    ∃ σ, Abs n0M σ (stM l n z (i + 1) (ggM r [1]) (bM3 (a0 + 1) a5 a2 (a3 + 1) a4 (a5 + 1) a6 a7)).env (stM l n z (i + 1) (ggM r [1]) (bM3 (a0 + 1) a5 a2 (a3 + 1) a4 (a5 + 1) a6 a7)).h env h := by
  have hlit : okLit n0M 2097152 (lapp [(n0M, 2097187, .row (zrows 300 1 (i + 1)) 22 true []), (30, 30, .row (zrowsT 0 1 n) 22 true []), (31, 31, .row (zrowsT 100 1 n) 22 true [])] (zipA (bM3 (a0 + 1) a5 a2 (a3 + 1) a4 (a5 + 1) a6 a7) kM_3_1)) = true := okLit_row rfl (belM_O (by omega)) (okLit_row rfl (belM_I hn) (okLit_row rfl (belM_W hn) (litM_3_1 a0 a1 a2 a3 a4 a5 a6 a7)))
  have hZ3 : ∀ p ∈ ([(300 + i, 2097185, rowM [.int .i64 a5])] : List (Nat × Nat × Blk)), 300 ≤ p.1 := fun p hp => by rw [List.mem_singleton.1 hp]; show 300 ≤ 300 + i; omega
  have hnd : (([(300 + i, 2097185, rowM [.int .i64 a5])] : List (Nat × Nat × Blk)).map (·.1)).Nodup := by simp
  have k1 := keepIM Zs hn (i := i) hlit hZ3
  rw [expsR_eq] at ho
  · exact NewOK.abs (t := stM l n z (i + 1) (ggM r [1]) (bM3 (a0 + 1) a5 a2 (a3 + 1) a4 (a5 + 1) a6 a7)) (A := lapp [(n0M, 2097187, .row (zrows 300 1 (i + 1)) 22 true []), (30, 30, .row (zrowsT 0 1 n) 22 true []), (31, 31, .row (zrowsT 100 1 n) 22 true [])] (zipA (bM3 (a0 + 1) a5 a2 (a3 + 1) a4 (a5 + 1) a6 a7) kM_3_1)) (Z := [(300 + i, 2097185, rowM [.int .i64 a5])]) (z := (zoM l z i))
      ⟨by rw [lmap_app, zipA_B]; rfl, by show T.set (zoM l z i) (outM l i) (300 + i) = T.set (zoM l z i) (rowM [.int .i64 a5]) (300 + i); rw [hrow], by show 1049540 ≤ 2097152; decide, by kernel_rfl, hlit, keysM_3_1 n i a0 a1 a2 a3 a4 a5 a6 a7, actsM_3_1 n i a0 a1 a2 a3 a4 a5 a6 a7,
        fun p hp => by
          rw [List.mem_singleton.1 hp]
          refine ⟨by show 1049540 ≤ zn (300 + i); rw [zn_eq]; omega, by show zn (300 + i) < 2097152; rw [zn_eq]; omega, by show 1049540 ≤ 2097185; decide, by show 2097185 < 1000000000000; decide, by show 2097185 % 4096 ≠ 4095; decide, ?_⟩
          exact ⟨[a5], 3, true, rfl⟩,
        hnd, zoM_ok Zs (by omega)⟩ rfl rfl rfl rfl ho
  · have e1 : (lapp (ltake (ldrop (zrows 300 1 i) 0) (Nat.mul i 1)) [.slc 2097185 0 1 1 false 1]) = renL (szs n0M (namesOf (lapp [(n0M, 2097187, .row (zrows 300 1 (i + 1)) 22 true []), (30, 30, .row (zrowsT 0 1 n) 22 true []), (31, 31, .row (zrowsT 100 1 n) 22 true [])] (zipA (bM3 (a0 + 1) a5 a2 (a3 + 1) a4 (a5 + 1) a6 a7) kM_3_1)) [(300 + i, 2097185, rowM [.int .i64 a5])]) (kpOf (zoM l z i))) (zrows 300 1 (i + 1)) := by
      refine zrows_grow (i := i) (fun j hj => ?_) (szs_row hlit (by show 1049540 ≤ zn (300 + i); rw [zn_eq]; omega) (List.mem_singleton.2 rfl) hnd)
      exact szs_zone hlit (zgrow_new hj) (fun p hp e => by rw [List.mem_singleton.1 hp] at e; have e : 300 + i = 300 + j := e; omega)
    show [(some (Blk.row _ _ _ _), true), (some (Blk.row _ _ _ _), true), (some (Blk.row _ _ _ _), true)] = [(some (Blk.row (renL _ _) _ _ _), true), (some (Blk.row (renL _ _) _ _ _), true), (some (Blk.row (renL _ _) _ _ _), true)]
    rw [← e1]
    have k1 := k1
    skip
    rw [k1.1, k1.2]; rfl
theorem litM_3_0 (a0 : Int) (a1 : Int) (a2 : Int) (a3 : Int) (a4 : Int) (a5 : Int) (a6 : Int) (a7 : Int) : okLit n0M 2097152 (zipA (bM2 (a0 + 1) a1 (0 - a7) a3 (a4 + 1) a5 a7 (a7 + 1)) kM_3_0) = true := by kernel_rfl
theorem keysM_3_0 (n i : Nat) (a0 : Int) (a1 : Int) (a2 : Int) (a3 : Int) (a4 : Int) (a5 : Int) (a6 : Int) (a7 : Int) : nodupQ (lmap (fun p => p.1) (lapp [(n0M, 2097191, .row (zrows 300 1 (i + 1)) 22 true []), (30, 30, .row (zrowsT 0 1 n) 22 true []), (31, 31, .row (zrowsT 100 1 n) 22 true [])] (zipA (bM2 (a0 + 1) a1 (0 - a7) a3 (a4 + 1) a5 a7 (a7 + 1)) kM_3_0))) = true := by kernel_rfl
theorem actsM_3_0 (n i : Nat) (a0 : Int) (a1 : Int) (a2 : Int) (a3 : Int) (a4 : Int) (a5 : Int) (a6 : Int) (a7 : Int) : nodupQ (actsOf (lapp [(n0M, 2097191, .row (zrows 300 1 (i + 1)) 22 true []), (30, 30, .row (zrowsT 0 1 n) 22 true []), (31, 31, .row (zrowsT 100 1 n) 22 true [])] (zipA (bM2 (a0 + 1) a1 (0 - a7) a3 (a4 + 1) a5 a7 (a7 + 1)) kM_3_0)) [(300 + i, 2097189, rowM [.int .i64 (0 - a7)])]) = true := by kernel_rfl
theorem absM_3_0 {l : Nat → Bool} {n : Nat} {z : T Blk} (Zs : ZinM l n z) (hn : n ≤ 60) {i : Nat} (hi : i < n) (r : Nat) (a0 : Int) (a1 : Int) (a2 : Int) (a3 : Int) (a4 : Int) (a5 : Int) (a6 : Int) (a7 : Int) (hrow : rowM [.int .i64 (0 - a7)] = outM l i) {env : Env} {h : H}
    (ho : obs [6, 7, 16, 17, 71, 72, 73] (actsOf (lapp [(n0M, 2097191, .row (zrows 300 1 (i + 1)) 22 true []), (30, 30, .row (zrowsT 0 1 n) 22 true []), (31, 31, .row (zrowsT 100 1 n) 22 true [])] (zipA (bM2 (a0 + 1) a1 (0 - a7) a3 (a4 + 1) a5 a7 (a7 + 1)) kM_3_0)) [(300 + i, 2097189, rowM [.int .i64 (0 - a7)])]) (lapp [(n0M, 2097191, .row (zrows 300 1 (i + 1)) 22 true []), (30, 30, .row (zrowsT 0 1 n) 22 true []), (31, 31, .row (zrowsT 100 1 n) 22 true [])] (zipA (bM2 (a0 + 1) a1 (0 - a7) a3 (a4 + 1) a5 a7 (a7 + 1)) kM_3_0)) [(300 + i, 2097189, rowM [.int .i64 (0 - a7)])] env h = expsR n0M (kpOf (zoM l z i)) (eM n (ggM r [0]) (.slc n0M 0 (i + 1) (i + 1) false 1) (i + 1)) [(n0M, 2097191, .row (zrows 300 1 (i + 1)) 22 true []), (30, 30, .row (zrowsT 0 1 n) 22 true []), (31, 31, .row (zrowsT 100 1 n) 22 true [])] (zipA (bM2 (a0 + 1) a1 (0 - a7) a3 (a4 + 1) a5 a7 (a7 + 1)) kM_3_0) [(300 + i, 2097189, rowM [.int .i64 (0 - a7)])] (zoM l z i) [(some (.row (lapp (ltake (ldrop (zrows 300 1 i) 0) (Nat.mul i 1)) [.slc 2097189 0 1 1 false 1]) 22 true []), true), (some (.row (zrowsT 0 1 n) 22 true []), true), (some (.row (zrowsT 100 1 n) 22 true []), true)]) :
    ∃ σ, Abs n0M σ (stM l n z (i + 1) (ggM r [0]) (bM2 (a0 + 1) a1 (0 - a7) a3 (a4 + 1) a5 a7 (a7 + 1))).env (stM l n z (i + 1) (ggM r [0]) (bM2 (a0 + 1) a1 (0 - a7) a3 (a4 + 1) a5 a7 (a7 + 1))).h env h := by
  have hlit : okLit n0M 2097152 (lapp [(n0M, 2097191, .row (zrows 300 1 (i + 1)) 22 true []), (30, 30, .row (zrowsT 0 1 n) 22 true []), (31, 31, .row (zrowsT 100 1 n) 22 true [])] (zipA (bM2 (a0 + 1) a1 (0 - a7) a3 (a4 + 1) a5 a7 (a7 + 1)) kM_3_0)) = true := okLit_row rfl (belM_O (by omega)) (okLit_row rfl (belM_I hn) (okLit_row rfl (belM_W hn) (litM_3_0 a0 a1 a2 a3 a4 a5 a6 a7)))
  have hZ3 : ∀ p ∈ ([(300 + i, 2097189, rowM [.int .i64 (0 - a7)])] : List (Nat × Nat × Blk)), 300 ≤ p.1 := fun p hp => by rw [List.mem_singleton.1 hp]; show 300 ≤ 300 + i; omega
  have hnd : (([(300 + i, 2097189, rowM [.int .i64 (0 - a7)])] : List (Nat × Nat × Blk)).map (·.1)).Nodup := by simp
  have k1 := keepIM Zs hn (i := i) hlit hZ3
  rw [expsR_eq] at ho
  · exact NewOK.abs (t := stM l n z (i + 1) (ggM r [0]) (bM2 (a0 + 1) a1 (0 - a7) a3 (a4 + 1) a5 a7 (a7 + 1))) (A := lapp [(n0M, 2097191, .row (zrows 300 1 (i + 1)) 22 true []), (30, 30, .row (zrowsT 0 1 n) 22 true []), (31, 31, .row (zrowsT 100 1 n) 22 true [])] (zipA (bM2 (a0 + 1) a1 (0 - a7) a3 (a4 + 1) a5 a7 (a7 + 1)) kM_3_0)) (Z := [(300 + i, 2097189, rowM [.int .i64 (0 - a7)])]) (z := (zoM l z i))
      ⟨by rw [lmap_app, zipA_B]; rfl, by show T.set (zoM l z i) (outM l i) (300 + i) = T.set (zoM l z i) (rowM [.int .i64 (0 - a7)]) (300 + i); rw [hrow], by show 1049540 ≤ 2097152; decide, by kernel_rfl, hlit, keysM_3_0 n i a0 a1 a2 a3 a4 a5 a6 a7, actsM_3_0 n i a0 a1 a2 a3 a4 a5 a6 a7,
        fun p hp => by
          rw [List.mem_singleton.1 hp]
          refine ⟨by show 1049540 ≤ zn (300 + i); rw [zn_eq]; omega, by show zn (300 + i) < 2097152; rw [zn_eq]; omega, by show 1049540 ≤ 2097189; decide, by show 2097189 < 1000000000000; decide, by show 2097189 % 4096 ≠ 4095; decide, ?_⟩
          exact ⟨[(0 - a7)], 3, true, rfl⟩,
        hnd, zoM_ok Zs (by omega)⟩ rfl rfl rfl rfl ho
  · have e1 : (lapp (ltake (ldrop (zrows 300 1 i) 0) (Nat.mul i 1)) [.slc 2097189 0 1 1 false 1]) = renL (szs n0M (namesOf (lapp [(n0M, 2097191, .row (zrows 300 1 (i + 1)) 22 true []), (30, 30, .row (zrowsT 0 1 n) 22 true []), (31, 31, .row (zrowsT 100 1 n) 22 true [])] (zipA (bM2 (a0 + 1) a1 (0 - a7) a3 (a4 + 1) a5 a7 (a7 + 1)) kM_3_0)) [(300 + i, 2097189, rowM [.int .i64 (0 - a7)])]) (kpOf (zoM l z i))) (zrows 300 1 (i + 1)) := by
      refine zrows_grow (i := i) (fun j hj => ?_) (szs_row hlit (by show 1049540 ≤ zn (300 + i); rw [zn_eq]; omega) (List.mem_singleton.2 rfl) hnd)
      exact szs_zone hlit (zgrow_new hj) (fun p hp e => by rw [List.mem_singleton.1 hp] at e; have e : 300 + i = 300 + j := e; omega)
    show [(some (Blk.row _ _ _ _), true), (some (Blk.row _ _ _ _), true), (some (Blk.row _ _ _ _), true)] = [(some (Blk.row (renL _ _) _ _ _), true), (some (Blk.row (renL _ _) _ _ _), true), (some (Blk.row (renL _ _) _ _ _), true)]
    rw [← e1]
    have k1 := k1
    skip
    rw [k1.1, k1.2]; rfl
theorem litM_2_0 (a0 : Int) (a1 : Int) (a2 : Int) (a3 : Int) (a4 : Int) (a5 : Int) (a6 : Int) (a7 : Int) : okLit n0M 2097152 (zipA (bM2 (a0 + 1) a1 (0 - a7) a3 (a4 + 1) a5 a7 (a7 + 1)) kM_2_0) = true := by kernel_rfl
theorem keysM_2_0 (n i : Nat) (a0 : Int) (a1 : Int) (a2 : Int) (a3 : Int) (a4 : Int) (a5 : Int) (a6 : Int) (a7 : Int) : nodupQ (lmap (fun p => p.1) (lapp [(n0M, 2097191, .row (zrows 300 1 (i + 1)) 22 true []), (30, 30, .row (zrowsT 0 1 n) 22 true []), (31, 31, .row (zrowsT 100 1 n) 22 true [])] (zipA (bM2 (a0 + 1) a1 (0 - a7) a3 (a4 + 1) a5 a7 (a7 + 1)) kM_2_0))) = true := by kernel_rfl
theorem actsM_2_0 (n i : Nat) (a0 : Int) (a1 : Int) (a2 : Int) (a3 : Int) (a4 : Int) (a5 : Int) (a6 : Int) (a7 : Int) : nodupQ (actsOf (lapp [(n0M, 2097191, .row (zrows 300 1 (i + 1)) 22 true []), (30, 30, .row (zrowsT 0 1 n) 22 true []), (31, 31, .row (zrowsT 100 1 n) 22 true [])] (zipA (bM2 (a0 + 1) a1 (0 - a7) a3 (a4 + 1) a5 a7 (a7 + 1)) kM_2_0)) [(300 + i, 2097189, rowM [.int .i64 (0 - a7)])]) = true := by kernel_rfl
theorem absM_2_0 {l : Nat → Bool} {n : Nat} {z : T Blk} (Zs : ZinM l n z) (hn : n ≤ 60) {i : Nat} (hi : i < n) (r : Nat) (a0 : Int) (a1 : Int) (a2 : Int) (a3 : Int) (a4 : Int) (a5 : Int) (a6 : Int) (a7 : Int) (hrow : rowM [.int .i64 (0 - a7)] = outM l i) {env : Env} {h : H}
    (ho : obs [6, 7, 16, 17, 71, 72, 73] (actsOf (lapp [(n0M, 2097191, .row (zrows 300 1 (i + 1)) 22 true []), (30, 30, .row (zrowsT 0 1 n) 22 true []), (31, 31, .row (zrowsT 100 1 n) 22 true [])] (zipA (bM2 (a0 + 1) a1 (0 - a7) a3 (a4 + 1) a5 a7 (a7 + 1)) kM_2_0)) [(300 + i, 2097189, rowM [.int .i64 (0 - a7)])]) (lapp [(n0M, 2097191, .row (zrows 300 1 (i + 1)) 22 true []), (30, 30, .row (zrowsT 0 1 n) 22 true []), (31, 31, .row (zrowsT 100 1 n) 22 true [])] (zipA (bM2 (a0 + 1) a1 (0 - a7) a3 (a4 + 1) a5 a7 (a7 + 1)) kM_2_0)) [(300 + i, 2097189, rowM [.int .i64 (0 - a7)])] env h = expsR n0M (kpOf (zoM l z i)) (eM n (ggM r [0]) (.slc n0M 0 (i + 1) (i + 1) false 1) (i + 1)) [(n0M, 2097191, .row (zrows 300 1 (i + 1)) 22 true []), (30, 30, .row (zrowsT 0 1 n) 22 true []), (31, 31, .row (zrowsT 100 1 n) 22 true [])] (zipA (bM2 (a0 + 1) a1 (0 - a7) a3 (a4 + 1) a5 a7 (a7 + 1)) kM_2_0) [(300 + i, 2097189, rowM [.int .i64 (0 - a7)])] (zoM l z i) [(some (.row (lapp (ltake (ldrop (zrows 300 1 i) 0) (Nat.mul i 1)) [.slc 2097189 0 1 1 false 1]) 22 true []), true), (some (.row (zrowsT 0 1 n) 22 true []), true), (some (.row (zrowsT 100 1 n) 22 true []), true)]) :
    ∃ σ, Abs n0M σ (stM l n z (i + 1) (ggM r [0]) (bM2 (a0 + 1) a1 (0 - a7) a3 (a4 + 1) a5 a7 (a7 + 1))).env (stM l n z (i + 1) (ggM r [0]) (bM2 (a0 + 1) a1 (0 - a7) a3 (a4 + 1) a5 a7 (a7 + 1))).h env h := by
  have hlit : okLit n0M 2097152 (lapp [(n0M, 2097191, .row (zrows 300 1 (i + 1)) 22 true []), (30, 30, .row (zrowsT 0 1 n) 22 true []), (31, 31, .row (zrowsT 100 1 n) 22 true [])] (zipA (bM2 (a0 + 1) a1 (0 - a7) a3 (a4 + 1) a5 a7 (a7 + 1)) kM_2_0)) = true := okLit_row rfl (belM_O (by omega)) (okLit_row rfl (belM_I hn) (okLit_row rfl (belM_W hn) (litM_2_0 a0 a1 a2 a3 a4 a5 a6 a7)))
  have hZ3 : ∀ p ∈ ([(300 + i, 2097189, rowM [.int .i64 (0 - a7)])] : List (Nat × Nat × Blk)), 300 ≤ p.1 := fun p hp => by rw [List.mem_singleton.1 hp]; show 300 ≤ 300 + i; omega
  have hnd : (([(300 + i, 2097189, rowM [.int .i64 (0 - a7)])] : List (Nat × Nat × Blk)).map (·.1)).Nodup := by simp
  have k1 := keepIM Zs hn (i := i) hlit hZ3
  rw [expsR_eq] at ho
  · exact NewOK.abs (t := stM l n z (i + 1) (ggM r [0]) (bM2 (a0 + 1) a1 (0 - a7) a3 (a4 + 1) a5 a7 (a7 + 1))) (A := lapp [(n0M, 2097191, .row (zrows 300 1 (i + 1)) 22 true []), (30, 30, .row (zrowsT 0 1 n) 22 true []), (31, 31, .row (zrowsT 100 1 n) 22 true [])] (zipA (bM2 (a0 + 1) a1 (0 - a7) a3 (a4 + 1) a5 a7 (a7 + 1)) kM_2_0)) (Z := [(300 + i, 2097189, rowM [.int .i64 (0 - a7)])]) (z := (zoM l z i))
      ⟨by rw [lmap_app, zipA_B]; rfl, by show T.set (zoM l z i) (outM l i) (300 + i) = T.set (zoM l z i) (rowM [.int .i64 (0 - a7)]) (300 + i); rw [hrow], by show 1049540 ≤ 2097152; decide, by kernel_rfl, hlit, keysM_2_0 n i a0 a1 a2 a3 a4 a5 a6 a7, actsM_2_0 n i a0 a1 a2 a3 a4 a5 a6 a7,
        fun p hp => by
          rw [List.mem_singleton.1 hp]
          refine ⟨by show 1049540 ≤ zn (300 + i); rw [zn_eq]; omega, by show zn (300 + i) < 2097152; rw [zn_eq]; omega, by show 1049540 ≤ 2097189; decide, by show 2097189 < 1000000000000; decide, by show 2097189 % 4096 ≠ 4095; decide, ?_⟩
          exact ⟨[(0 - a7)], 3, true, rfl⟩,
        hnd, zoM_ok Zs (by omega)⟩ rfl rfl rfl rfl ho
  · have e1 : (lapp (ltake (ldrop (zrows 300 1 i) 0) (Nat.mul i 1)) [.slc 2097189 0 1 1 false 1]) = renL (szs n0M (namesOf (lapp [(n0M, 2097191, .row (zrows 300 1 (i + 1)) 22 true []), (30, 30, .row (zrowsT 0 1 n) 22 true []), (31, 31, .row (zrowsT 100 1 n) 22 true [])] (zipA (bM2 (a0 + 1) a1 (0 - a7) a3 (a4 + 1) a5 a7 (a7 + 1)) kM_2_0)) [(300 + i, 2097189, rowM [.int .i64 (0 - a7)])]) (kpOf (zoM l z i))) (zrows 300 1 (i + 1)) := by
      refine zrows_grow (i := i) (fun j hj => ?_) (szs_row hlit (by show 1049540 ≤ zn (300 + i); rw [zn_eq]; omega) (List.mem_singleton.2 rfl) hnd)
      exact szs_zone hlit (zgrow_new hj) (fun p hp e => by rw [List.mem_singleton.1 hp] at e; have e : 300 + i = 300 + j := e; omega)
    show [(some (Blk.row _ _ _ _), true), (some (Blk.row _ _ _ _), true), (some (Blk.row _ _ _ _), true)] = [(some (Blk.row (renL _ _) _ _ _), true), (some (Blk.row (renL _ _) _ _ _), true), (some (Blk.row (renL _ _) _ _ _), true)]
    rw [← e1]
    have k1 := k1
    skip
    rw [k1.1, k1.2]; rfl
theorem litM_0_0 : okLit n0M 2097152 (zipA (bM4 1 (-1) 1 2) kM_0_0) = true := by kernel_rfl
theorem keysM_0_0 (n : Nat) : nodupQ (lmap (fun p => p.1) (lapp [(n0M, 1049579, .row (zrows 300 1 1) 22 true []), (30, 30, .row (zrowsT 0 1 n) 22 true []), (31, 31, .row (zrowsT 100 1 n) 22 true [])] (zipA (bM4 1 (-1) 1 2) kM_0_0))) = true := by kernel_rfl
theorem actsM_0_0 (n : Nat) : nodupQ (actsOf (lapp [(n0M, 1049579, .row (zrows 300 1 1) 22 true []), (30, 30, .row (zrowsT 0 1 n) 22 true []), (31, 31, .row (zrowsT 100 1 n) 22 true [])] (zipA (bM4 1 (-1) 1 2) kM_0_0)) [(300, 1049577, rowM [.int .i64 (-1)])]) = true := by kernel_rfl
theorem absM_0_0 {l : Nat → Bool} {n : Nat} {z : T Blk} (Zs : ZinM l n z) (hn : n ≤ 60) (hi : 0 < n) (r : Nat) (hrow : rowM [.int .i64 (-1)] = outM l 0) {env : Env} {h : H}
    (ho : obs [6, 7, 16, 17, 71, 72, 73] (actsOf (lapp [(n0M, 1049579, .row (zrows 300 1 1) 22 true []), (30, 30, .row (zrowsT 0 1 n) 22 true []), (31, 31, .row (zrowsT 100 1 n) 22 true [])] (zipA (bM4 1 (-1) 1 2) kM_0_0)) [(300, 1049577, rowM [.int .i64 (-1)])]) (lapp [(n0M, 1049579, .row (zrows 300 1 1) 22 true []), (30, 30, .row (zrowsT 0 1 n) 22 true []), (31, 31, .row (zrowsT 100 1 n) 22 true [])] (zipA (bM4 1 (-1) 1 2) kM_0_0)) [(300, 1049577, rowM [.int .i64 (-1)])] env h = expsR n0M (kpOf z) (eM n (ggM r [0]) (.slc n0M 0 1 1 false 1) 1) [(n0M, 1049579, .row (zrows 300 1 1) 22 true []), (30, 30, .row (zrowsT 0 1 n) 22 true []), (31, 31, .row (zrowsT 100 1 n) 22 true [])] (zipA (bM4 1 (-1) 1 2) kM_0_0) [(300, 1049577, rowM [.int .i64 (-1)])] z [(some (.row [.slc 1049577 0 1 1 false 1] 22 true []), true), (some (.row (zrowsT 0 1 n) 22 true []), true), (some (.row (zrowsT 100 1 n) 22 true []), true)]) :
    ∃ σ, Abs n0M σ (stM l n z 1 (ggM r [0]) (bM4 1 (-1) 1 2)).env (stM l n z 1 (ggM r [0]) (bM4 1 (-1) 1 2)).h env h := by
  have hlit : okLit n0M 2097152 (lapp [(n0M, 1049579, .row (zrows 300 1 1) 22 true []), (30, 30, .row (zrowsT 0 1 n) 22 true []), (31, 31, .row (zrowsT 100 1 n) 22 true [])] (zipA (bM4 1 (-1) 1 2) kM_0_0)) = true := okLit_row rfl (belM_O (by omega)) (okLit_row rfl (belM_I hn) (okLit_row rfl (belM_W hn) (litM_0_0)))
  have hZ3 : ∀ p ∈ ([(300, 1049577, rowM [.int .i64 (-1)])] : List (Nat × Nat × Blk)), 300 ≤ p.1 := fun p hp => by rw [List.mem_singleton.1 hp]; show 300 ≤ 300; omega
  have hnd : (([(300, 1049577, rowM [.int .i64 (-1)])] : List (Nat × Nat × Blk)).map (·.1)).Nodup := by simp
  have k1 := keepIM Zs hn (i := 0) hlit hZ3
  rw [expsR_eq] at ho
  · exact NewOK.abs (t := stM l n z 1 (ggM r [0]) (bM4 1 (-1) 1 2)) (A := lapp [(n0M, 1049579, .row (zrows 300 1 1) 22 true []), (30, 30, .row (zrowsT 0 1 n) 22 true []), (31, 31, .row (zrowsT 100 1 n) 22 true [])] (zipA (bM4 1 (-1) 1 2) kM_0_0)) (Z := [(300, 1049577, rowM [.int .i64 (-1)])]) (z := z)
      ⟨by rw [lmap_app, zipA_B]; rfl, by show T.set z (outM l 0) (300 + 0) = T.set z (rowM [.int .i64 (-1)]) 300; rw [hrow], by show 1049540 ≤ 2097152; decide, by kernel_rfl, hlit, keysM_0_0 n, actsM_0_0 n,
        fun p hp => by
          rw [List.mem_singleton.1 hp]
          refine ⟨by show 1049540 ≤ zn 300; rw [zn_eq]; omega, by show zn 300 < 2097152; rw [zn_eq]; omega, by show 1049540 ≤ 1049577; decide, by show 1049577 < 1000000000000; decide, by show 1049577 % 4096 ≠ 4095; decide, ?_⟩
          exact ⟨[(-1)], 3, true, rfl⟩,
        hnd, by have := zoM_ok Zs (i := 0) (by omega); exact this⟩ rfl rfl rfl rfl ho
  · have e1 : [.slc 1049577 0 1 1 false 1] = renL (szs n0M (namesOf (lapp [(n0M, 1049579, .row (zrows 300 1 1) 22 true []), (30, 30, .row (zrowsT 0 1 n) 22 true []), (31, 31, .row (zrowsT 100 1 n) 22 true [])] (zipA (bM4 1 (-1) 1 2) kM_0_0)) [(300, 1049577, rowM [.int .i64 (-1)])]) (kpOf z)) (zrows 300 1 1) := by
      refine zrows_grow (i := 0) (fun j hj => ?_) (szs_row hlit (by show 1049540 ≤ zn (300 + 0); rw [zn_eq]; omega) (List.mem_singleton.2 rfl) hnd)
      omega
    show [(some (Blk.row _ _ _ _), true), (some (Blk.row _ _ _ _), true), (some (Blk.row _ _ _ _), true)] = [(some (Blk.row (renL _ _) _ _ _), true), (some (Blk.row (renL _ _) _ _ _), true), (some (Blk.row (renL _ _) _ _ _), true)]
    rw [← e1]
    have k1 := k1
    change renL (szs n0M (namesOf _ _) (kpOf z)) _ = _ ∧ renL (szs n0M (namesOf _ _) (kpOf z)) _ = _ at k1
    rw [k1.1, k1.2]; rfl
theorem litM_4_0 (a0 : Int) (a1 : Int) (a2 : Int) (a3 : Int) : okLit n0M 2097152 (zipA (bM4 (a0 + 1) (0 - a3) a3 (a3 + 1)) kM_4_0) = true := by kernel_rfl
theorem keysM_4_0 (n i : Nat) (a0 : Int) (a1 : Int) (a2 : Int) (a3 : Int) : nodupQ (lmap (fun p => p.1) (lapp [(n0M, 2097191, .row (zrows 300 1 (i + 1)) 22 true []), (30, 30, .row (zrowsT 0 1 n) 22 true []), (31, 31, .row (zrowsT 100 1 n) 22 true [])] (zipA (bM4 (a0 + 1) (0 - a3) a3 (a3 + 1)) kM_4_0))) = true := by kernel_rfl
theorem actsM_4_0 (n i : Nat) (a0 : Int) (a1 : Int) (a2 : Int) (a3 : Int) : nodupQ (actsOf (lapp [(n0M, 2097191, .row (zrows 300 1 (i + 1)) 22 true []), (30, 30, .row (zrowsT 0 1 n) 22 true []), (31, 31, .row (zrowsT 100 1 n) 22 true [])] (zipA (bM4 (a0 + 1) (0 - a3) a3 (a3 + 1)) kM_4_0)) [(300 + i, 2097189, rowM [.int .i64 (0 - a3)])]) = true := by kernel_rfl
theorem absM_4_0 {l : Nat → Bool} {n : Nat} {z : T Blk} (Zs : ZinM l n z) (hn : n ≤ 60) {i : Nat} (hi : i < n) (r : Nat) (a0 : Int) (a1 : Int) (a2 : Int) (a3 : Int) (hrow : rowM [.int .i64 (0 - a3)] = outM l i) {env : Env} {h : H}
    (ho : obs [6, 7, 16, 17, 71, 72, 73] (actsOf (lapp [(n0M, 2097191, .row (zrows 300 1 (i + 1)) 22 true []), (30, 30, .row (zrowsT 0 1 n) 22 true []), (31, 31, .row (zrowsT 100 1 n) 22 true [])] (zipA (bM4 (a0 + 1) (0 - a3) a3 (a3 + 1)) kM_4_0)) [(300 + i, 2097189, rowM [.int .i64 (0 - a3)])]) (lapp [(n0M, 2097191, .row (zrows 300 1 (i + 1)) 22 true []), (30, 30, .row (zrowsT 0 1 n) 22 true []), (31, 31, .row (zrowsT 100 1 n) 22 true [])] (zipA (bM4 (a0 + 1) (0 - a3) a3 (a3 + 1)) kM_4_0)) [(300 + i, 2097189, rowM [.int .i64 (0 - a3)])] env h = expsR n0M (kpOf (zoM l z i)) (eM n (ggM r [0]) (.slc n0M 0 (i + 1) (i + 1) false 1) (i + 1)) [(n0M, 2097191, .row (zrows 300 1 (i + 1)) 22 true []), (30, 30, .row (zrowsT 0 1 n) 22 true []), (31, 31, .row (zrowsT 100 1 n) 22 true [])] (zipA (bM4 (a0 + 1) (0 - a3) a3 (a3 + 1)) kM_4_0) [(300 + i, 2097189, rowM [.int .i64 (0 - a3)])] (zoM l z i) [(some (.row (lapp (ltake (ldrop (zrows 300 1 i) 0) (Nat.mul i 1)) [.slc 2097189 0 1 1 false 1]) 22 true []), true), (some (.row (zrowsT 0 1 n) 22 true []), true), (some (.row (zrowsT 100 1 n) 22 true []), true)]) :
    ∃ σ, Abs n0M σ (stM l n z (i + 1) (ggM r [0]) (bM4 (a0 + 1) (0 - a3) a3 (a3 + 1))).env (stM l n z (i + 1) (ggM r [0]) (bM4 (a0 + 1) (0 - a3) a3 (a3 + 1))).h env h := by
  have hlit : okLit n0M 2097152 (lapp [(n0M, 2097191, .row (zrows 300 1 (i + 1)) 22 true []), (30, 30, .row (zrowsT 0 1 n) 22 true []), (31, 31, .row (zrowsT 100 1 n) 22 true [])] (zipA (bM4 (a0 + 1) (0 - a3) a3 (a3 + 1)) kM_4_0)) = true := okLit_row rfl (belM_O (by omega)) (okLit_row rfl (belM_I hn) (okLit_row rfl (belM_W hn) (litM_4_0 a0 a1 a2 a3)))
  have hZ3 : ∀ p ∈ ([(300 + i, 2097189, rowM [.int .i64 (0 - a3)])] : List (Nat × Nat × Blk)), 300 ≤ p.1 := fun p hp => by rw [List.mem_singleton.1 hp]; show 300 ≤ 300 + i; omega
  have hnd : (([(300 + i, 2097189, rowM [.int .i64 (0 - a3)])] : List (Nat × Nat × Blk)).map (·.1)).Nodup := by simp
  have k1 := keepIM Zs hn (i := i) hlit hZ3
  rw [expsR_eq] at ho
  · exact NewOK.abs (t := stM l n z (i + 1) (ggM r [0]) (bM4 (a0 + 1) (0 - a3) a3 (a3 + 1))) (A := lapp [(n0M, 2097191, .row (zrows 300 1 (i + 1)) 22 true []), (30, 30, .row (zrowsT 0 1 n) 22 true []), (31, 31, .row (zrowsT 100 1 n) 22 true [])] (zipA (bM4 (a0 + 1) (0 - a3) a3 (a3 + 1)) kM_4_0)) (Z := [(300 + i, 2097189, rowM [.int .i64 (0 - a3)])]) (z := (zoM l z i))
      ⟨by rw [lmap_app, zipA_B]; rfl, by show T.set (zoM l z i) (outM l i) (300 + i) = T.set (zoM l z i) (rowM [.int .i64 (0 - a3)]) (300 + i); rw [hrow], by show 1049540 ≤ 2097152; decide, by kernel_rfl, hlit, keysM_4_0 n i a0 a1 a2 a3, actsM_4_0 n i a0 a1 a2 a3,
        fun p hp => by
          rw [List.mem_singleton.1 hp]
          refine ⟨by show 1049540 ≤ zn (300 + i); rw [zn_eq]; omega, by show zn (300 + i) < 2097152; rw [zn_eq]; omega, by show 1049540 ≤ 2097189; decide, by show 2097189 < 1000000000000; decide, by show 2097189 % 4096 ≠ 4095; decide, ?_⟩
          exact ⟨[(0 - a3)], 3, true, rfl⟩,
        hnd, zoM_ok Zs (by omega)⟩ rfl rfl rfl rfl ho
  · have e1 : (lapp (ltake (ldrop (zrows 300 1 i) 0) (Nat.mul i 1)) [.slc 2097189 0 1 1 false 1]) = renL (szs n0M (namesOf (lapp [(n0M, 2097191, .row (zrows 300 1 (i + 1)) 22 true []), (30, 30, .row (zrowsT 0 1 n) 22 true []), (31, 31, .row (zrowsT 100 1 n) 22 true [])] (zipA (bM4 (a0 + 1) (0 - a3) a3 (a3 + 1)) kM_4_0)) [(300 + i, 2097189, rowM [.int .i64 (0 - a3)])]) (kpOf (zoM l z i))) (zrows 300 1 (i + 1)) := by
      refine zrows_grow (i := i) (fun j hj => ?_) (szs_row hlit (by show 1049540 ≤ zn (300 + i); rw [zn_eq]; omega) (List.mem_singleton.2 rfl) hnd)
      exact szs_zone hlit (zgrow_new hj) (fun p hp e => by rw [List.mem_singleton.1 hp] at e; have e : 300 + i = 300 + j := e; omega)
    show [(some (Blk.row _ _ _ _), true), (some (Blk.row _ _ _ _), true), (some (Blk.row _ _ _ _), true)] = [(some (Blk.row (renL _ _) _ _ _), true), (some (Blk.row (renL _ _) _ _ _), true), (some (Blk.row (renL _ _) _ _ _), true)]
    rw [← e1]
    have k1 := k1
    skip
    rw [k1.1, k1.2]; rfl
theorem litM_4_1 (a0 : Int) (a1 : Int) (a2 : Int) (a3 : Int) : okLit n0M 2097152 (zipA (bM3 (a0 + 1) 1 a1 1 a0 2 a2 a3) kM_4_1) = true := by kernel_rfl
theorem keysM_4_1 (n i : Nat) (a0 : Int) (a1 : Int) (a2 : Int) (a3 : Int) : nodupQ (lmap (fun p => p.1) (lapp [(n0M, 2097187, .row (zrows 300 1 (i + 1)) 22 true []), (30, 30, .row (zrowsT 0 1 n) 22 true []), (31, 31, .row (zrowsT 100 1 n) 22 true [])] (zipA (bM3 (a0 + 1) 1 a1 1 a0 2 a2 a3) kM_4_1))) = true := by kernel_rfl
theorem actsM_4_1 (n i : Nat) (a0 : Int) (a1 : Int) (a2 : Int) (a3 : Int) : nodupQ (actsOf (lapp [(n0M, 2097187, .row (zrows 300 1 (i + 1)) 22 true []), (30, 30, .row (zrowsT 0 1 n) 22 true []), (31, 31, .row (zrowsT 100 1 n) 22 true [])] (zipA (bM3 (a0 + 1) 1 a1 1 a0 2 a2 a3) kM_4_1)) [(300 + i, 2097185, rowM [.int .i64 1])]) = true := by kernel_rfl
theorem absM_4_1 {l : Nat → Bool} {n : Nat} {z : T Blk} (Zs : ZinM l n z) (hn : n ≤ 60) {i : Nat} (hi : i < n) (r : Nat) (a0 : Int) (a1 : Int) (a2 : Int) (a3 : Int) (hrow : rowM [.int .i64 1] = outM l i) {env : Env} {h : H}
    (ho : obs [6, 7, 16, 17, 71, 72, 73] (actsOf (lapp [(n0M, 2097187, .row (zrows 300 1 (i + 1)) 22 true []), (30, 30, .row (zrowsT 0 1 n) 22 true []), (31, 31, .row (zrowsT 100 1 n) 22 true [])] (zipA (bM3 (a0 + 1) 1 a1 1 a0 2 a2 a3) kM_4_1)) [(300 + i, 2097185, rowM [.int .i64 1])]) (lapp [(n0M, 2097187, .row (zrows 300 1 (i + 1)) 22 true []), (30, 30, .row (zrowsT 0 1 n) 22 true []), (31, 31, .row (zrowsT 100 1 n) 22 true [])] (zipA (bM3 (a0 + 1) 1 a1 1 a0 2 a2 a3) kM_4_1)) [(300 + i, 2097185, rowM [.int .i64 1])] env h = expsR n0M (kpOf (zoM l z i)) (eM n (ggM r [1]) (.slc n0M 0 (i + 1) (i + 1) false 1) (i + 1)) [(n0M, 2097187, .row (zrows 300 1 (i + 1)) 22 true []), (30, 30, .row (zrowsT 0 1 n) 22 true []), (31, 31, .row (zrowsT 100 1 n) 22 true [])] (zipA (bM3 (a0 + 1) 1 a1 1 a0 2 a2 a3) kM_4_1) [(300 + i, 2097185, rowM [.int .i64 1])] (zoM l z i) [(some (.row (lapp (ltake (ldrop (zrows 300 1 i) 0) (Nat.mul i 1)) [.slc 2097185 0 1 1 false 1]) 22 true []), true), (some (.row (zrowsT 0 1 n) 22 true []), true), (some (.row (zrowsT 100 1 n) 22 true []), true)]) :
    ∃ σ, Abs n0M σ (stM l n z (i + 1) (ggM r [1]) (bM3 (a0 + 1) 1 a1 1 a0 2 a2 a3)).env (stM l n z (i + 1) (ggM r [1]) (bM3 (a0 + 1) 1 a1 1 a0 2 a2 a3)).h env h := by
  have hlit : okLit n0M 2097152 (lapp [(n0M, 2097187, .row (zrows 300 1 (i + 1)) 22 true []), (30, 30, .row (zrowsT 0 1 n) 22 true []), (31, 31, .row (zrowsT 100 1 n) 22 true [])] (zipA (bM3 (a0 + 1) 1 a1 1 a0 2 a2 a3) kM_4_1)) = true := okLit_row rfl (belM_O (by omega)) (okLit_row rfl (belM_I hn) (okLit_row rfl (belM_W hn) (litM_4_1 a0 a1 a2 a3)))
  have hZ3 : ∀ p ∈ ([(300 + i, 2097185, rowM [.int .i64 1])] : List (Nat × Nat × Blk)), 300 ≤ p.1 := fun p hp => by rw [List.mem_singleton.1 hp]; show 300 ≤ 300 + i; omega
  have hnd : (([(300 + i, 2097185, rowM [.int .i64 1])] : List (Nat × Nat × Blk)).map (·.1)).Nodup := by simp
  have k1 := keepIM Zs hn (i := i) hlit hZ3
  rw [expsR_eq] at ho
  · exact NewOK.abs (t := stM l n z (i + 1) (ggM r [1]) (bM3 (a0 + 1) 1 a1 1 a0 2 a2 a3)) (A := lapp [(n0M, 2097187, .row (zrows 300 1 (i + 1)) 22 true []), (30, 30, .row (zrowsT 0 1 n) 22 true []), (31, 31, .row (zrowsT 100 1 n) 22 true [])] (zipA (bM3 (a0 + 1) 1 a1 1 a0 2 a2 a3) kM_4_1)) (Z := [(300 + i, 2097185, rowM [.int .i64 1])]) (z := (zoM l z i))
      ⟨by rw [lmap_app, zipA_B]; rfl, by show T.set (zoM l z i) (outM l i) (300 + i) = T.set (zoM l z i) (rowM [.int .i64 1]) (300 + i); rw [hrow], by show 1049540 ≤ 2097152; decide, by kernel_rfl, hlit, keysM_4_1 n i a0 a1 a2 a3, actsM_4_1 n i a0 a1 a2 a3,
        fun p hp => by
          rw [List.mem_singleton.1 hp]
          refine ⟨by show 1049540 ≤ zn (300 + i); rw [zn_eq]; omega, by show zn (300 + i) < 2097152; rw [zn_eq]; omega, by show 1049540 ≤ 2097185; decide, by show 2097185 < 1000000000000; decide, by show 2097185 % 4096 ≠ 4095; decide, ?_⟩
          exact ⟨[1], 3, true, rfl⟩,
        hnd, zoM_ok Zs (by omega)⟩ rfl rfl rfl rfl ho
  · have e1 : (lapp (ltake (ldrop (zrows 300 1 i) 0) (Nat.mul i 1)) [.slc 2097185 0 1 1 false 1]) = renL (szs n0M (namesOf (lapp [(n0M, 2097187, .row (zrows 300 1 (i + 1)) 22 true []), (30, 30, .row (zrowsT 0 1 n) 22 true []), (31, 31, .row (zrowsT 100 1 n) 22 true [])] (zipA (bM3 (a0 + 1) 1 a1 1 a0 2 a2 a3) kM_4_1)) [(300 + i, 2097185, rowM [.int .i64 1])]) (kpOf (zoM l z i))) (zrows 300 1 (i + 1)) := by
      refine zrows_grow (i := i) (fun j hj => ?_) (szs_row hlit (by show 1049540 ≤ zn (300 + i); rw [zn_eq]; omega) (List.mem_singleton.2 rfl) hnd)
      exact szs_zone hlit (zgrow_new hj) (fun p hp e => by rw [List.mem_singleton.1 hp] at e; have e : 300 + i = 300 + j := e; omega)
    show [(some (Blk.row _ _ _ _), true), (some (Blk.row _ _ _ _), true), (some (Blk.row _ _ _ _), true)] = [(some (Blk.row (renL _ _) _ _ _), true), (some (Blk.row (renL _ _) _ _ _), true), (some (Blk.row (renL _ _) _ _ _), true)]
    rw [← e1]
    have k1 := k1
    skip
    rw [k1.1, k1.2]; rfl
theorem litM_1_1 (a0 : Int) (a1 : Int) (a2 : Int) : okLit n0M 2097152 (zipA (bM1 (a0 + 1) a2 (a2 + 1)) kM_1_1) = true := by kernel_rfl
theorem keysM_1_1 (n i : Nat) (a0 : Int) (a1 : Int) (a2 : Int) : nodupQ (lmap (fun p => p.1) (lapp [(n0M, 2097187, .row (zrows 300 1 (i + 1)) 22 true []), (30, 30, .row (zrowsT 0 1 n) 22 true []), (31, 31, .row (zrowsT 100 1 n) 22 true [])] (zipA (bM1 (a0 + 1) a2 (a2 + 1)) kM_1_1))) = true := by kernel_rfl
theorem actsM_1_1 (n i : Nat) (a0 : Int) (a1 : Int) (a2 : Int) : nodupQ (actsOf (lapp [(n0M, 2097187, .row (zrows 300 1 (i + 1)) 22 true []), (30, 30, .row (zrowsT 0 1 n) 22 true []), (31, 31, .row (zrowsT 100 1 n) 22 true [])] (zipA (bM1 (a0 + 1) a2 (a2 + 1)) kM_1_1)) [(300 + i, 2097185, rowM [.int .i64 a2])]) = true := by kernel_rfl
theorem absM_1_1 {l : Nat → Bool} {n : Nat} {z : T Blk} (Zs : ZinM l n z) (hn : n ≤ 60) {i : Nat} (hi : i < n) (r : Nat) (a0 : Int) (a1 : Int) (a2 : Int) (hrow : rowM [.int .i64 a2] = outM l i) {env : Env} {h : H}
    (ho : obs [6, 7, 16, 17, 71, 72, 73] (actsOf (lapp [(n0M, 2097187, .row (zrows 300 1 (i + 1)) 22 true []), (30, 30, .row (zrowsT 0 1 n) 22 true []), (31, 31, .row (zrowsT 100 1 n) 22 true [])] (zipA (bM1 (a0 + 1) a2 (a2 + 1)) kM_1_1)) [(300 + i, 2097185, rowM [.int .i64 a2])]) (lapp [(n0M, 2097187, .row (zrows 300 1 (i + 1)) 22 true []), (30, 30, .row (zrowsT 0 1 n) 22 true []), (31, 31, .row (zrowsT 100 1 n) 22 true [])] (zipA (bM1 (a0 + 1) a2 (a2 + 1)) kM_1_1)) [(300 + i, 2097185, rowM [.int .i64 a2])] env h = expsR n0M (kpOf (zoM l z i)) (eM n (ggM r [1]) (.slc n0M 0 (i + 1) (i + 1) false 1) (i + 1)) [(n0M, 2097187, .row (zrows 300 1 (i + 1)) 22 true []), (30, 30, .row (zrowsT 0 1 n) 22 true []), (31, 31, .row (zrowsT 100 1 n) 22 true [])] (zipA (bM1 (a0 + 1) a2 (a2 + 1)) kM_1_1) [(300 + i, 2097185, rowM [.int .i64 a2])] (zoM l z i) [(some (.row (lapp (ltake (ldrop (zrows 300 1 i) 0) (Nat.mul i 1)) [.slc 2097185 0 1 1 false 1]) 22 true []), true), (some (.row (zrowsT 0 1 n) 22 true []), true), (some (.row (zrowsT 100 1 n) 22 true []), true)]) :
    ∃ σ, Abs n0M σ (stM l n z (i + 1) (ggM r [1]) (bM1 (a0 + 1) a2 (a2 + 1))).env (stM l n z (i + 1) (ggM r [1]) (bM1 (a0 + 1) a2 (a2 + 1))).h env h := by
  have hlit : okLit n0M 2097152 (lapp [(n0M, 2097187, .row (zrows 300 1 (i + 1)) 22 true []), (30, 30, .row (zrowsT 0 1 n) 22 true []), (31, 31, .row (zrowsT 100 1 n) 22 true [])] (zipA (bM1 (a0 + 1) a2 (a2 + 1)) kM_1_1)) = true := okLit_row rfl (belM_O (by omega)) (okLit_row rfl (belM_I hn) (okLit_row rfl (belM_W hn) (litM_1_1 a0 a1 a2)))
  have hZ3 : ∀ p ∈ ([(300 + i, 2097185, rowM [.int .i64 a2])] : List (Nat × Nat × Blk)), 300 ≤ p.1 := fun p hp => by rw [List.mem_singleton.1 hp]; show 300 ≤ 300 + i; omega
  have hnd : (([(300 + i, 2097185, rowM [.int .i64 a2])] : List (Nat × Nat × Blk)).map (·.1)).Nodup := by simp
  have k1 := keepIM Zs hn (i := i) hlit hZ3
  rw [expsR_eq] at ho
  · exact NewOK.abs (t := stM l n z (i + 1) (ggM r [1]) (bM1 (a0 + 1) a2 (a2 + 1))) (A := lapp [(n0M, 2097187, .row (zrows 300 1 (i + 1)) 22 true []), (30, 30, .row (zrowsT 0 1 n) 22 true []), (31, 31, .row (zrowsT 100 1 n) 22 true [])] (zipA (bM1 (a0 + 1) a2 (a2 + 1)) kM_1_1)) (Z := [(300 + i, 2097185, rowM [.int .i64 a2])]) (z := (zoM l z i))
      ⟨by rw [lmap_app, zipA_B]; rfl, by show T.set (zoM l z i) (outM l i) (300 + i) = T.set (zoM l z i) (rowM [.int .i64 a2]) (300 + i); rw [hrow], by show 1049540 ≤ 2097152; decide, by kernel_rfl, hlit, keysM_1_1 n i a0 a1 a2, actsM_1_1 n i a0 a1 a2,
        fun p hp => by
          rw [List.mem_singleton.1 hp]
          refine ⟨by show 1049540 ≤ zn (300 + i); rw [zn_eq]; omega, by show zn (300 + i) < 2097152; rw [zn_eq]; omega, by show 1049540 ≤ 2097185; decide, by show 2097185 < 1000000000000; decide, by show 2097185 % 4096 ≠ 4095; decide, ?_⟩
          exact ⟨[a2], 3, true, rfl⟩,
        hnd, zoM_ok Zs (by omega)⟩ rfl rfl rfl rfl ho
  · have e1 : (lapp (ltake (ldrop (zrows 300 1 i) 0) (Nat.mul i 1)) [.slc 2097185 0 1 1 false 1]) = renL (szs n0M (namesOf (lapp [(n0M, 2097187, .row (zrows 300 1 (i + 1)) 22 true []), (30, 30, .row (zrowsT 0 1 n) 22 true []), (31, 31, .row (zrowsT 100 1 n) 22 true [])] (zipA (bM1 (a0 + 1) a2 (a2 + 1)) kM_1_1)) [(300 + i, 2097185, rowM [.int .i64 a2])]) (kpOf (zoM l z i))) (zrows 300 1 (i + 1)) := by
      refine zrows_grow (i := i) (fun j hj => ?_) (szs_row hlit (by show 1049540 ≤ zn (300 + i); rw [zn_eq]; omega) (List.mem_singleton.2 rfl) hnd)
      exact szs_zone hlit (zgrow_new hj) (fun p hp e => by rw [List.mem_singleton.1 hp] at e; have e : 300 + i = 300 + j := e; omega)
    show [(some (Blk.row _ _ _ _), true), (some (Blk.row _ _ _ _), true), (some (Blk.row _ _ _ _), true)] = [(some (Blk.row (renL _ _) _ _ _), true), (some (Blk.row (renL _ _) _ _ _), true), (some (Blk.row (renL _ _) _ _ _), true)]
    rw [← e1]
    have k1 := k1
    skip
    rw [k1.1, k1.2]; rfl
theorem useM_0_1 {l : Nat → Bool} {n : Nat} {z : T Blk} (Zs : ZinM l n z) (hn : n ≤ 60) (hi : 0 < n) (hrow : rowM [.int .i64 1] = outM l 0)
    (hcI : cellIs ⟨mkB z (lapp (rr0M (zrowsT 0 1 n) (zrowsT 100 1 n)) bM0), n0M⟩ 30 0 (.row (zn 0) 1 (fun k => Option.rec 0 (fun x => x) (lget [1] k)))) (hcR : cellsAre ⟨mkB z (lapp (rr0M (zrowsT 0 1 n) (zrowsT 100 1 n)) bM0), n0M⟩ (zn 0) (fun k => .sc (Option.rec 0 (fun x => x) (lget ([1] : List Int) k))) 1 0)
    {K : KE} (hK : ∀ env h ds σ, Abs n0M σ (stM l n z 1 (ggM (zn 0) [1]) (bM1 1 1 2)).env (stM l n z 1 (ggM (zn 0) [1]) (bM1 1 1 2)).h env h → K .nrm env h ds) :
    xcode C1 Tryz.prog F 14 (loopC Tryz.prog 14 22) (mask 14) (tmpsN Tryz.prog 14) (mkE (eM n (ggM (zn 0) [1]) .nils 0)) ⟨mkB z (lapp (rr0M (zrowsT 0 1 n) (zrowsT 100 1 n)) bM0), n0M⟩ dM_0_1 K :=
  round_use2 good1.spl (fun Kv => tM_0_1 z (zrowsT 0 1 n) (zrowsT 100 1 n) n (zn 0) Kv)
    (bcase_tt (dcq_lt (by simp only [Int.ofNat_eq_natCast]; omega)) (bcase_tt (inB_of hi) ⟨hcI, hcR, (fun env h ds ho => (absM_0_1 Zs hn hi (zn 0) hrow ho).elim fun σ ab => hK env h ds σ ab)⟩))
theorem useM_1_0 {l : Nat → Bool} {n : Nat} {z : T Blk} (Zs : ZinM l n z) (hn : n ≤ 60) {i : Nat} (hi : i < n) (a0 : Int) (a1 : Int) (a2 : Int) (ha0 : -100 ≤ a0) (ha0' : a0 ≤ 100) (hrow : rowM [.int .i64 (-1)] = outM l i)
    (hcI : cellIs ⟨mkB (zoM l z i) (lapp (rrM (zrows 300 1 i) (zrowsT 0 1 n) (zrowsT 100 1 n)) (bM1 a0 a1 a2)), 2097152⟩ 30 (Nat.add 0 (Nat.mul (Int.toNat (Int.ofNat i)) 1)) (.row (zn i) 1 (fun k => Option.rec 0 (fun x => x) (lget [0] k)))) (hcR : cellsAre ⟨mkB (zoM l z i) (lapp (rrM (zrows 300 1 i) (zrowsT 0 1 n) (zrowsT 100 1 n)) (bM1 a0 a1 a2)), 2097152⟩ (zn i) (fun k => .sc (Option.rec 0 (fun x => x) (lget ([0] : List Int) k))) 1 0)
    {K : KE} (hK : ∀ env h ds σ, Abs n0M σ (stM l n z (i + 1) (ggM (zn i) [0]) (bM2 (a0 + 1) a1 (-1) a0 1 a2 1 2)).env (stM l n z (i + 1) (ggM (zn i) [0]) (bM2 (a0 + 1) a1 (-1) a0 1 a2 1 2)).h env h → K .nrm env h ds) :
    xcode C1 Tryz.prog F 14 (loopC Tryz.prog 14 22) (mask 14) (tmpsN Tryz.prog 14) (mkE (eM n (ggM (zn i) [0]) (.slc n0M 0 i i false 1) i)) ⟨mkB (zoM l z i) (lapp (rrM (zrows 300 1 i) (zrowsT 0 1 n) (zrowsT 100 1 n)) (bM1 a0 a1 a2)), 2097152⟩ dM_1_0 K :=
  round_use2 good1.spl (fun Kv => tM_1_0 (zoM l z i) (zrowsT 0 1 n) (zrowsT 100 1 n) n i (zn i) a0 a1 a2 Kv)
    (bcase_tt (dcq_lt (by simp only [Int.ofNat_eq_natCast]; omega)) (bcase_tt (inB_of hi) ⟨hcI, hcR, (bcase_tt (inR_i64 (by omega) (by omega)) (bcase_tt (dcq_ne (by omega)) (bcase_tt (dcq_ne (by omega)) (bcase_tt (dcq_eq (by omega)) (bcase_tt (dcq_ne (by omega)) (bcase_tt (dcq_ne (by omega)) (bcase_tt (dcq_eq (by omega)) (bcase_tt (dcq_ne (by omega)) (bcase_tt (dcq_ne (by omega)) (bcase_tt (dcq_eq (by omega)) (bcase_tt (dcq_eq (by omega)) (bcase_tt (dcq_cap i) (bcase_tt (appC_ok (by rw [zrows_len]) (by omega)) (bcase_any (bcase_tt (inR_add (by omega)) (fun env h ds ho => (absM_1_0 Zs hn hi (zn i) a0 a1 a2 hrow ho).elim fun σ ab => hK env h ds σ ab)) (bcase_tt (inR_add (by omega)) (fun env h ds ho => (absM_1_0 Zs hn hi (zn i) a0 a1 a2 hrow ho).elim fun σ ab => hK env h ds σ ab))))))))))))))))⟩))
theorem useM_2_1 {l : Nat → Bool} {n : Nat} {z : T Blk} (Zs : ZinM l n z) (hn : n ≤ 60) {i : Nat} (hi : i < n) (a0 : Int) (a1 : Int) (a2 : Int) (a3 : Int) (a4 : Int) (a5 : Int) (a6 : Int) (a7 : Int) (ha0 : -100 ≤ a0) (ha0' : a0 ≤ 100) (ha3 : -100 ≤ a3) (ha3' : a3 ≤ 100) (ha5 : -100 ≤ a5) (ha5' : a5 ≤ 100) (hrow : rowM [.int .i64 a5] = outM l i)
    (hcI : cellIs ⟨mkB (zoM l z i) (lapp (rrM (zrows 300 1 i) (zrowsT 0 1 n) (zrowsT 100 1 n)) (bM2 a0 a1 a2 a3 a4 a5 a6 a7)), 2097152⟩ 30 (Nat.add 0 (Nat.mul (Int.toNat (Int.ofNat i)) 1)) (.row (zn i) 1 (fun k => Option.rec 0 (fun x => x) (lget [1] k)))) (hcR : cellsAre ⟨mkB (zoM l z i) (lapp (rrM (zrows 300 1 i) (zrowsT 0 1 n) (zrowsT 100 1 n)) (bM2 a0 a1 a2 a3 a4 a5 a6 a7)), 2097152⟩ (zn i) (fun k => .sc (Option.rec 0 (fun x => x) (lget ([1] : List Int) k))) 1 0)
    {K : KE} (hK : ∀ env h ds σ, Abs n0M σ (stM l n z (i + 1) (ggM (zn i) [1]) (bM3 (a0 + 1) a5 a2 (a3 + 1) a4 (a5 + 1) a6 a7)).env (stM l n z (i + 1) (ggM (zn i) [1]) (bM3 (a0 + 1) a5 a2 (a3 + 1) a4 (a5 + 1) a6 a7)).h env h → K .nrm env h ds) :
    xcode C1 Tryz.prog F 14 (loopC Tryz.prog 14 22) (mask 14) (tmpsN Tryz.prog 14) (mkE (eM n (ggM (zn i) [1]) (.slc n0M 0 i i false 1) i)) ⟨mkB (zoM l z i) (lapp (rrM (zrows 300 1 i) (zrowsT 0 1 n) (zrowsT 100 1 n)) (bM2 a0 a1 a2 a3 a4 a5 a6 a7)), 2097152⟩ dM_2_1 K :=
  round_use2 good1.spl (fun Kv => tM_2_1 (zoM l z i) (zrowsT 0 1 n) (zrowsT 100 1 n) n i (zn i) a0 a1 a2 a3 a4 a5 a6 a7 Kv)
    (bcase_tt (dcq_lt (by simp only [Int.ofNat_eq_natCast]; omega)) (bcase_tt (inB_of hi) ⟨hcI, hcR, (bcase_tt (inR_i64 (by omega) (by omega)) (bcase_tt (dcq_ne (by omega)) (bcase_tt (dcq_ne (by omega)) (bcase_tt (dcq_eq (by omega)) (bcase_tt (inR_i64 (by omega) (by omega)) (bcase_tt (dcq_ne (by omega)) (bcase_tt (dcq_ne (by omega)) (bcase_tt (dcq_eq (by omega)) (bcase_tt (inR_i16 (by omega) (by omega)) (bcase_tt (inR_i64 (by omega) (by omega)) (bcase_tt (dcq_eq (by omega)) (bcase_tt (inR_i64 (by omega) (by omega)) (bcase_tt (inR_i16 (by omega) (by omega)) (bcase_tt (inR_i64 (by omega) (by omega)) (bcase_tt (dcq_ne (by omega)) (bcase_tt (dcq_ne (by omega)) (bcase_tt (dcq_eq (by omega)) (bcase_tt (dcq_ne (by omega)) (bcase_tt (dcq_ne (by omega)) (bcase_tt (dcq_eq (by omega)) (bcase_tt (dcq_eq (by omega)) (bcase_tt (dcq_cap i) (bcase_tt (appC_ok (by rw [zrows_len]) (by omega)) (bcase_any (bcase_tt (inR_add (by omega)) (fun env h ds ho => (absM_2_1 Zs hn hi (zn i) a0 a1 a2 a3 a4 a5 a6 a7 hrow ho).elim fun σ ab => hK env h ds σ ab)) (bcase_tt (inR_add (by omega)) (fun env h ds ho => (absM_2_1 Zs hn hi (zn i) a0 a1 a2 a3 a4 a5 a6 a7 hrow ho).elim fun σ ab => hK env h ds σ ab))))))))))))))))))))))))))⟩))
theorem useM_3_1 {l : Nat → Bool} {n : Nat} {z : T Blk} (Zs : ZinM l n z) (hn : n ≤ 60) {i : Nat} (hi : i < n) (a0 : Int) (a1 : Int) (a2 : Int) (a3 : Int) (a4 : Int) (a5 : Int) (a6 : Int) (a7 : Int) (ha0 : -100 ≤ a0) (ha0' : a0 ≤ 100) (ha3 : -100 ≤ a3) (ha3' : a3 ≤ 100) (ha5 : -100 ≤ a5) (ha5' : a5 ≤ 100) (hrow : rowM [.int .i64 a5] = outM l i)
    (hcI : cellIs ⟨mkB (zoM l z i) (lapp (rrM (zrows 300 1 i) (zrowsT 0 1 n) (zrowsT 100 1 n)) (bM3 a0 a1 a2 a3 a4 a5 a6 a7)), 2097152⟩ 30 (Nat.add 0 (Nat.mul (Int.toNat (Int.ofNat i)) 1)) (.row (zn i) 1 (fun k => Option.rec 0 (fun x => x) (lget [1] k)))) (hcR : cellsAre ⟨mkB (zoM l z i) (lapp (rrM (zrows 300 1 i) (zrowsT 0 1 n) (zrowsT 100 1 n)) (bM3 a0 a1 a2 a3 a4 a5 a6 a7)), 2097152⟩ (zn i) (fun k => .sc (Option.rec 0 (fun x => x) (lget ([1] : List Int) k))) 1 0)
    {K : KE} (hK : ∀ env h ds σ, Abs n0M σ (stM l n z (i + 1) (ggM (zn i) [1]) (bM3 (a0 + 1) a5 a2 (a3 + 1) a4 (a5 + 1) a6 a7)).env (stM l n z (i + 1) (ggM (zn i) [1]) (bM3 (a0 + 1) a5 a2 (a3 + 1) a4 (a5 + 1) a6 a7)).h env h → K .nrm env h ds) :
    xcode C1 Tryz.prog F 14 (loopC Tryz.prog 14 22) (mask 14) (tmpsN Tryz.prog 14) (mkE (eM n (ggM (zn i) [1]) (.slc n0M 0 i i false 1) i)) ⟨mkB (zoM l z i) (lapp (rrM (zrows 300 1 i) (zrowsT 0 1 n) (zrowsT 100 1 n)) (bM3 a0 a1 a2 a3 a4 a5 a6 a7)), 2097152⟩ dM_3_1 K :=
  round_use2 good1.spl (fun Kv => tM_3_1 (zoM l z i) (zrowsT 0 1 n) (zrowsT 100 1 n) n i (zn i) a0 a1 a2 a3 a4 a5 a6 a7 Kv)
    (bcase_tt (dcq_lt (by simp only [Int.ofNat_eq_natCast]; omega)) (bcase_tt (inB_of hi) ⟨hcI, hcR, (bcase_tt (inR_i64 (by omega) (by omega)) (bcase_tt (dcq_ne (by omega)) (bcase_tt (dcq_ne (by omega)) (bcase_tt (dcq_eq (by omega)) (bcase_tt (inR_i64 (by omega) (by omega)) (bcase_tt (dcq_ne (by omega)) (bcase_tt (dcq_ne (by omega)) (bcase_tt (dcq_eq (by omega)) (bcase_tt (inR_i16 (by omega) (by omega)) (bcase_tt (inR_i64 (by omega) (by omega)) (bcase_tt (dcq_eq (by omega)) (bcase_tt (inR_i64 (by omega) (by omega)) (bcase_tt (inR_i16 (by omega) (by omega)) (bcase_tt (inR_i64 (by omega) (by omega)) (bcase_tt (dcq_ne (by omega)) (bcase_tt (dcq_ne (by omega)) (bcase_tt (dcq_eq (by omega)) (bcase_tt (dcq_ne (by omega)) (bcase_tt (dcq_ne (by omega)) (bcase_tt (dcq_eq (by omega)) (bcase_tt (dcq_eq (by omega)) (bcase_tt (dcq_cap i) (bcase_tt (appC_ok (by rw [zrows_len]) (by omega)) (bcase_any (bcase_tt (inR_add (by omega)) (fun env h ds ho => (absM_3_1 Zs hn hi (zn i) a0 a1 a2 a3 a4 a5 a6 a7 hrow ho).elim fun σ ab => hK env h ds σ ab)) (bcase_tt (inR_add (by omega)) (fun env h ds ho => (absM_3_1 Zs hn hi (zn i) a0 a1 a2 a3 a4 a5 a6 a7 hrow ho).elim fun σ ab => hK env h ds σ ab))))))))))))))))))))))))))⟩))
theorem useM_3_0 {l : Nat → Bool} {n : Nat} {z : T Blk} (Zs : ZinM l n z) (hn : n ≤ 60) {i : Nat} (hi : i < n) (a0 : Int) (a1 : Int) (a2 : Int) (a3 : Int) (a4 : Int) (a5 : Int) (a6 : Int) (a7 : Int) (ha0 : -100 ≤ a0) (ha0' : a0 ≤ 100) (ha4 : -100 ≤ a4) (ha4' : a4 ≤ 100) (ha7 : -100 ≤ a7) (ha7' : a7 ≤ 100) (hrow : rowM [.int .i64 (0 - a7)] = outM l i)
    (hcI : cellIs ⟨mkB (zoM l z i) (lapp (rrM (zrows 300 1 i) (zrowsT 0 1 n) (zrowsT 100 1 n)) (bM3 a0 a1 a2 a3 a4 a5 a6 a7)), 2097152⟩ 30 (Nat.add 0 (Nat.mul (Int.toNat (Int.ofNat i)) 1)) (.row (zn i) 1 (fun k => Option.rec 0 (fun x => x) (lget [0] k)))) (hcR : cellsAre ⟨mkB (zoM l z i) (lapp (rrM (zrows 300 1 i) (zrowsT 0 1 n) (zrowsT 100 1 n)) (bM3 a0 a1 a2 a3 a4 a5 a6 a7)), 2097152⟩ (zn i) (fun k => .sc (Option.rec 0 (fun x => x) (lget ([0] : List Int) k))) 1 0)
    {K : KE} (hK : ∀ env h ds σ, Abs n0M σ (stM l n z (i + 1) (ggM (zn i) [0]) (bM2 (a0 + 1) a1 (0 - a7) a3 (a4 + 1) a5 a7 (a7 + 1))).env (stM l n z (i + 1) (ggM (zn i) [0]) (bM2 (a0 + 1) a1 (0 - a7) a3 (a4 + 1) a5 a7 (a7 + 1))).h env h → K .nrm env h ds) :
    xcode C1 Tryz.prog F 14 (loopC Tryz.prog 14 22) (mask 14) (tmpsN Tryz.prog 14) (mkE (eM n (ggM (zn i) [0]) (.slc n0M 0 i i false 1) i)) ⟨mkB (zoM l z i) (lapp (rrM (zrows 300 1 i) (zrowsT 0 1 n) (zrowsT 100 1 n)) (bM3 a0 a1 a2 a3 a4 a5 a6 a7)), 2097152⟩ dM_3_0 K :=
  round_use2 good1.spl (fun Kv => tM_3_0 (zoM l z i) (zrowsT 0 1 n) (zrowsT 100 1 n) n i (zn i) a0 a1 a2 a3 a4 a5 a6 a7 Kv)
    (bcase_tt (dcq_lt (by simp only [Int.ofNat_eq_natCast]; omega)) (bcase_tt (inB_of hi) ⟨hcI, hcR, (bcase_tt (inR_i64 (by omega) (by omega)) (bcase_tt (dcq_ne (by omega)) (bcase_tt (dcq_ne (by omega)) (bcase_tt (dcq_eq (by omega)) (bcase_tt (dcq_ne (by omega)) (bcase_tt (dcq_ne (by omega)) (bcase_tt (dcq_eq (by omega)) (bcase_tt (inR_i64 (by omega) (by omega)) (bcase_tt (dcq_ne (by omega)) (bcase_tt (dcq_ne (by omega)) (bcase_tt (dcq_eq (by omega)) (bcase_tt (inR_i16 (by omega) (by omega)) (bcase_tt (inR_i64 (by omega) (by omega)) (bcase_tt (dcq_eq (by omega)) (bcase_tt (inR_i64 (by omega) (by omega)) (bcase_tt (inR_i16 (by omega) (by omega)) (bcase_tt (inR_i64 (by omega) (by omega)) (bcase_tt (inR_i16 (by omega) (by omega)) (bcase_tt (inR_i64 (by omega) (by omega)) (bcase_tt (dcq_eq (by omega)) (bcase_tt (inR_i64 (by omega) (by omega)) (bcase_tt (inR_i16 (by omega) (by omega)) (bcase_tt (inR_i64 (by omega) (by omega)) (bcase_tt (dcq_ne (by omega)) (bcase_tt (dcq_ne (by omega)) (bcase_tt (dcq_eq (by omega)) (bcase_tt (dcq_eq (by omega)) (bcase_tt (dcq_cap i) (bcase_tt (appC_ok (by rw [zrows_len]) (by omega)) (bcase_any (bcase_tt (inR_add (by omega)) (fun env h ds ho => (absM_3_0 Zs hn hi (zn i) a0 a1 a2 a3 a4 a5 a6 a7 hrow ho).elim fun σ ab => hK env h ds σ ab)) (bcase_tt (inR_add (by omega)) (fun env h ds ho => (absM_3_0 Zs hn hi (zn i) a0 a1 a2 a3 a4 a5 a6 a7 hrow ho).elim fun σ ab => hK env h ds σ ab))))))))))))))))))))))))))))))))⟩))
theorem useM_2_0 {l : Nat → Bool} {n : Nat} {z : T Blk} (Zs : ZinM l n z) (hn : n ≤ 60) {i : Nat} (hi : i < n) (a0 : Int) (a1 : Int) (a2 : Int) (a3 : Int) (a4 : Int) (a5 : Int) (a6 : Int) (a7 : Int) (ha0 : -100 ≤ a0) (ha0' : a0 ≤ 100) (ha4 : -100 ≤ a4) (ha4' : a4 ≤ 100) (ha7 : -100 ≤ a7) (ha7' : a7 ≤ 100) (hrow : rowM [.int .i64 (0 - a7)] = outM l i)
    (hcI : cellIs ⟨mkB (zoM l z i) (lapp (rrM (zrows 300 1 i) (zrowsT 0 1 n) (zrowsT 100 1 n)) (bM2 a0 a1 a2 a3 a4 a5 a6 a7)), 2097152⟩ 30 (Nat.add 0 (Nat.mul (Int.toNat (Int.ofNat i)) 1)) (.row (zn i) 1 (fun k => Option.rec 0 (fun x => x) (lget [0] k)))) (hcR : cellsAre ⟨mkB (zoM l z i) (lapp (rrM (zrows 300 1 i) (zrowsT 0 1 n) (zrowsT 100 1 n)) (bM2 a0 a1 a2 a3 a4 a5 a6 a7)), 2097152⟩ (zn i) (fun k => .sc (Option.rec 0 (fun x => x) (lget ([0] : List Int) k))) 1 0)
    {K : KE} (hK : ∀ env h ds σ, Abs n0M σ (stM l n z (i + 1) (ggM (zn i) [0]) (bM2 (a0 + 1) a1 (0 - a7) a3 (a4 + 1) a5 a7 (a7 + 1))).env (stM l n z (i + 1) (ggM (zn i) [0]) (bM2 (a0 + 1) a1 (0 - a7) a3 (a4 + 1) a5 a7 (a7 + 1))).h env h → K .nrm env h ds) :
    xcode C1 Tryz.prog F 14 (loopC Tryz.prog 14 22) (mask 14) (tmpsN Tryz.prog 14) (mkE (eM n (ggM (zn i) [0]) (.slc n0M 0 i i false 1) i)) ⟨mkB (zoM l z i) (lapp (rrM (zrows 300 1 i) (zrowsT 0 1 n) (zrowsT 100 1 n)) (bM2 a0 a1 a2 a3 a4 a5 a6 a7)), 2097152⟩ dM_2_0 K :=
  round_use2 good1.spl (fun Kv => tM_2_0 (zoM l z i) (zrowsT 0 1 n) (zrowsT 100 1 n) n i (zn i) a0 a1 a2 a3 a4 a5 a6 a7 Kv)
    (bcase_tt (dcq_lt (by simp only [Int.ofNat_eq_natCast]; omega)) (bcase_tt (inB_of hi) ⟨hcI, hcR, (bcase_tt (inR_i64 (by omega) (by omega)) (bcase_tt (dcq_ne (by omega)) (bcase_tt (dcq_ne (by omega)) (bcase_tt (dcq_eq (by omega)) (bcase_tt (dcq_ne (by omega)) (bcase_tt (dcq_ne (by omega)) (bcase_tt (dcq_eq (by omega)) (bcase_tt (inR_i64 (by omega) (by omega)) (bcase_tt (dcq_ne (by omega)) (bcase_tt (dcq_ne (by omega)) (bcase_tt (dcq_eq (by omega)) (bcase_tt (inR_i16 (by omega) (by omega)) (bcase_tt (inR_i64 (by omega) (by omega)) (bcase_tt (dcq_eq (by omega)) (bcase_tt (inR_i64 (by omega) (by omega)) (bcase_tt (inR_i16 (by omega) (by omega)) (bcase_tt (inR_i64 (by omega) (by omega)) (bcase_tt (inR_i16 (by omega) (by omega)) (bcase_tt (inR_i64 (by omega) (by omega)) (bcase_tt (dcq_eq (by omega)) (bcase_tt (inR_i64 (by omega) (by omega)) (bcase_tt (inR_i16 (by omega) (by omega)) (bcase_tt (inR_i64 (by omega) (by omega)) (bcase_tt (dcq_ne (by omega)) (bcase_tt (dcq_ne (by omega)) (bcase_tt (dcq_eq (by omega)) (bcase_tt (dcq_eq (by omega)) (bcase_tt (dcq_cap i) (bcase_tt (appC_ok (by rw [zrows_len]) (by omega)) (bcase_any (bcase_tt (inR_add (by omega)) (fun env h ds ho => (absM_2_0 Zs hn hi (zn i) a0 a1 a2 a3 a4 a5 a6 a7 hrow ho).elim fun σ ab => hK env h ds σ ab)) (bcase_tt (inR_add (by omega)) (fun env h ds ho => (absM_2_0 Zs hn hi (zn i) a0 a1 a2 a3 a4 a5 a6 a7 hrow ho).elim fun σ ab => hK env h ds σ ab))))))))))))))))))))))))))))))))⟩))
theorem useM_0_0 {l : Nat → Bool} {n : Nat} {z : T Blk} (Zs : ZinM l n z) (hn : n ≤ 60) (hi : 0 < n) (hrow : rowM [.int .i64 (-1)] = outM l 0)
    (hcI : cellIs ⟨mkB z (lapp (rr0M (zrowsT 0 1 n) (zrowsT 100 1 n)) bM0), n0M⟩ 30 0 (.row (zn 0) 1 (fun k => Option.rec 0 (fun x => x) (lget [0] k)))) (hcR : cellsAre ⟨mkB z (lapp (rr0M (zrowsT 0 1 n) (zrowsT 100 1 n)) bM0), n0M⟩ (zn 0) (fun k => .sc (Option.rec 0 (fun x => x) (lget ([0] : List Int) k))) 1 0)
    {K : KE} (hK : ∀ env h ds σ, Abs n0M σ (stM l n z 1 (ggM (zn 0) [0]) (bM4 1 (-1) 1 2)).env (stM l n z 1 (ggM (zn 0) [0]) (bM4 1 (-1) 1 2)).h env h → K .nrm env h ds) :
    xcode C1 Tryz.prog F 14 (loopC Tryz.prog 14 22) (mask 14) (tmpsN Tryz.prog 14) (mkE (eM n (ggM (zn 0) [0]) .nils 0)) ⟨mkB z (lapp (rr0M (zrowsT 0 1 n) (zrowsT 100 1 n)) bM0), n0M⟩ dM_0_0 K :=
  round_use2 good1.spl (fun Kv => tM_0_0 z (zrowsT 0 1 n) (zrowsT 100 1 n) n (zn 0) Kv)
    (bcase_tt (dcq_lt (by simp only [Int.ofNat_eq_natCast]; omega)) (bcase_tt (inB_of hi) ⟨hcI, hcR, (fun env h ds ho => (absM_0_0 Zs hn hi (zn 0) hrow ho).elim fun σ ab => hK env h ds σ ab)⟩))
theorem useM_4_0 {l : Nat → Bool} {n : Nat} {z : T Blk} (Zs : ZinM l n z) (hn : n ≤ 60) {i : Nat} (hi : i < n) (a0 : Int) (a1 : Int) (a2 : Int) (a3 : Int) (ha0 : -100 ≤ a0) (ha0' : a0 ≤ 100) (ha3 : -100 ≤ a3) (ha3' : a3 ≤ 100) (hrow : rowM [.int .i64 (0 - a3)] = outM l i)
    (hcI : cellIs ⟨mkB (zoM l z i) (lapp (rrM (zrows 300 1 i) (zrowsT 0 1 n) (zrowsT 100 1 n)) (bM4 a0 a1 a2 a3)), 2097152⟩ 30 (Nat.add 0 (Nat.mul (Int.toNat (Int.ofNat i)) 1)) (.row (zn i) 1 (fun k => Option.rec 0 (fun x => x) (lget [0] k)))) (hcR : cellsAre ⟨mkB (zoM l z i) (lapp (rrM (zrows 300 1 i) (zrowsT 0 1 n) (zrowsT 100 1 n)) (bM4 a0 a1 a2 a3)), 2097152⟩ (zn i) (fun k => .sc (Option.rec 0 (fun x => x) (lget ([0] : List Int) k))) 1 0)
    {K : KE} (hK : ∀ env h ds σ, Abs n0M σ (stM l n z (i + 1) (ggM (zn i) [0]) (bM4 (a0 + 1) (0 - a3) a3 (a3 + 1))).env (stM l n z (i + 1) (ggM (zn i) [0]) (bM4 (a0 + 1) (0 - a3) a3 (a3 + 1))).h env h → K .nrm env h ds) :
    xcode C1 Tryz.prog F 14 (loopC Tryz.prog 14 22) (mask 14) (tmpsN Tryz.prog 14) (mkE (eM n (ggM (zn i) [0]) (.slc n0M 0 i i false 1) i)) ⟨mkB (zoM l z i) (lapp (rrM (zrows 300 1 i) (zrowsT 0 1 n) (zrowsT 100 1 n)) (bM4 a0 a1 a2 a3)), 2097152⟩ dM_4_0 K :=
  round_use2 good1.spl (fun Kv => tM_4_0 (zoM l z i) (zrowsT 0 1 n) (zrowsT 100 1 n) n i (zn i) a0 a1 a2 a3 Kv)
    (bcase_tt (dcq_lt (by simp only [Int.ofNat_eq_natCast]; omega)) (bcase_tt (inB_of hi) ⟨hcI, hcR, (bcase_tt (inR_i64 (by omega) (by omega)) (bcase_tt (dcq_ne (by omega)) (bcase_tt (dcq_ne (by omega)) (bcase_tt (dcq_eq (by omega)) (bcase_tt (dcq_ne (by omega)) (bcase_tt (dcq_ne (by omega)) (bcase_tt (dcq_eq (by omega)) (bcase_tt (inR_i64 (by omega) (by omega)) (bcase_tt (dcq_ne (by omega)) (bcase_tt (dcq_ne (by omega)) (bcase_tt (dcq_eq (by omega)) (bcase_tt (inR_i16 (by omega) (by omega)) (bcase_tt (inR_i64 (by omega) (by omega)) (bcase_tt (dcq_eq (by omega)) (bcase_tt (inR_i64 (by omega) (by omega)) (bcase_tt (inR_i16 (by omega) (by omega)) (bcase_tt (inR_i64 (by omega) (by omega)) (bcase_tt (inR_i16 (by omega) (by omega)) (bcase_tt (inR_i64 (by omega) (by omega)) (bcase_tt (dcq_eq (by omega)) (bcase_tt (inR_i64 (by omega) (by omega)) (bcase_tt (inR_i16 (by omega) (by omega)) (bcase_tt (inR_i64 (by omega) (by omega)) (bcase_tt (dcq_ne (by omega)) (bcase_tt (dcq_ne (by omega)) (bcase_tt (dcq_eq (by omega)) (bcase_tt (dcq_eq (by omega)) (bcase_tt (dcq_cap i) (bcase_tt (appC_ok (by rw [zrows_len]) (by omega)) (bcase_any (bcase_tt (inR_add (by omega)) (fun env h ds ho => (absM_4_0 Zs hn hi (zn i) a0 a1 a2 a3 hrow ho).elim fun σ ab => hK env h ds σ ab)) (bcase_tt (inR_add (by omega)) (fun env h ds ho => (absM_4_0 Zs hn hi (zn i) a0 a1 a2 a3 hrow ho).elim fun σ ab => hK env h ds σ ab))))))))))))))))))))))))))))))))⟩))
theorem useM_4_1 {l : Nat → Bool} {n : Nat} {z : T Blk} (Zs : ZinM l n z) (hn : n ≤ 60) {i : Nat} (hi : i < n) (a0 : Int) (a1 : Int) (a2 : Int) (a3 : Int) (ha0 : -100 ≤ a0) (ha0' : a0 ≤ 100) (hrow : rowM [.int .i64 1] = outM l i)
    (hcI : cellIs ⟨mkB (zoM l z i) (lapp (rrM (zrows 300 1 i) (zrowsT 0 1 n) (zrowsT 100 1 n)) (bM4 a0 a1 a2 a3)), 2097152⟩ 30 (Nat.add 0 (Nat.mul (Int.toNat (Int.ofNat i)) 1)) (.row (zn i) 1 (fun k => Option.rec 0 (fun x => x) (lget [1] k)))) (hcR : cellsAre ⟨mkB (zoM l z i) (lapp (rrM (zrows 300 1 i) (zrowsT 0 1 n) (zrowsT 100 1 n)) (bM4 a0 a1 a2 a3)), 2097152⟩ (zn i) (fun k => .sc (Option.rec 0 (fun x => x) (lget ([1] : List Int) k))) 1 0)
    {K : KE} (hK : ∀ env h ds σ, Abs n0M σ (stM l n z (i + 1) (ggM (zn i) [1]) (bM3 (a0 + 1) 1 a1 1 a0 2 a2 a3)).env (stM l n z (i + 1) (ggM (zn i) [1]) (bM3 (a0 + 1) 1 a1 1 a0 2 a2 a3)).h env h → K .nrm env h ds) :
    xcode C1 Tryz.prog F 14 (loopC Tryz.prog 14 22) (mask 14) (tmpsN Tryz.prog 14) (mkE (eM n (ggM (zn i) [1]) (.slc n0M 0 i i false 1) i)) ⟨mkB (zoM l z i) (lapp (rrM (zrows 300 1 i) (zrowsT 0 1 n) (zrowsT 100 1 n)) (bM4 a0 a1 a2 a3)), 2097152⟩ dM_4_1 K :=
  round_use2 good1.spl (fun Kv => tM_4_1 (zoM l z i) (zrowsT 0 1 n) (zrowsT 100 1 n) n i (zn i) a0 a1 a2 a3 Kv)
    (bcase_tt (dcq_lt (by simp only [Int.ofNat_eq_natCast]; omega)) (bcase_tt (inB_of hi) ⟨hcI, hcR, (bcase_tt (inR_i64 (by omega) (by omega)) (bcase_tt (dcq_ne (by omega)) (bcase_tt (dcq_ne (by omega)) (bcase_tt (dcq_eq (by omega)) (bcase_tt (dcq_ne (by omega)) (bcase_tt (dcq_ne (by omega)) (bcase_tt (dcq_eq (by omega)) (bcase_tt (dcq_ne (by omega)) (bcase_tt (dcq_ne (by omega)) (bcase_tt (dcq_eq (by omega)) (bcase_tt (dcq_eq (by omega)) (bcase_tt (dcq_cap i) (bcase_tt (appC_ok (by rw [zrows_len]) (by omega)) (bcase_any (bcase_tt (inR_add (by omega)) (fun env h ds ho => (absM_4_1 Zs hn hi (zn i) a0 a1 a2 a3 hrow ho).elim fun σ ab => hK env h ds σ ab)) (bcase_tt (inR_add (by omega)) (fun env h ds ho => (absM_4_1 Zs hn hi (zn i) a0 a1 a2 a3 hrow ho).elim fun σ ab => hK env h ds σ ab))))))))))))))))⟩))
theorem useM_1_1 {l : Nat → Bool} {n : Nat} {z : T Blk} (Zs : ZinM l n z) (hn : n ≤ 60) {i : Nat} (hi : i < n) (a0 : Int) (a1 : Int) (a2 : Int) (ha0 : -100 ≤ a0) (ha0' : a0 ≤ 100) (ha2 : -100 ≤ a2) (ha2' : a2 ≤ 100) (hrow : rowM [.int .i64 a2] = outM l i)
    (hcI : cellIs ⟨mkB (zoM l z i) (lapp (rrM (zrows 300 1 i) (zrowsT 0 1 n) (zrowsT 100 1 n)) (bM1 a0 a1 a2)), 2097152⟩ 30 (Nat.add 0 (Nat.mul (Int.toNat (Int.ofNat i)) 1)) (.row (zn i) 1 (fun k => Option.rec 0 (fun x => x) (lget [1] k)))) (hcR : cellsAre ⟨mkB (zoM l z i) (lapp (rrM (zrows 300 1 i) (zrowsT 0 1 n) (zrowsT 100 1 n)) (bM1 a0 a1 a2)), 2097152⟩ (zn i) (fun k => .sc (Option.rec 0 (fun x => x) (lget ([1] : List Int) k))) 1 0)
    {K : KE} (hK : ∀ env h ds σ, Abs n0M σ (stM l n z (i + 1) (ggM (zn i) [1]) (bM1 (a0 + 1) a2 (a2 + 1))).env (stM l n z (i + 1) (ggM (zn i) [1]) (bM1 (a0 + 1) a2 (a2 + 1))).h env h → K .nrm env h ds) :
    xcode C1 Tryz.prog F 14 (loopC Tryz.prog 14 22) (mask 14) (tmpsN Tryz.prog 14) (mkE (eM n (ggM (zn i) [1]) (.slc n0M 0 i i false 1) i)) ⟨mkB (zoM l z i) (lapp (rrM (zrows 300 1 i) (zrowsT 0 1 n) (zrowsT 100 1 n)) (bM1 a0 a1 a2)), 2097152⟩ dM_1_1 K :=
  round_use2 good1.spl (fun Kv => tM_1_1 (zoM l z i) (zrowsT 0 1 n) (zrowsT 100 1 n) n i (zn i) a0 a1 a2 Kv)
    (bcase_tt (dcq_lt (by simp only [Int.ofNat_eq_natCast]; omega)) (bcase_tt (inB_of hi) ⟨hcI, hcR, (bcase_tt (inR_i64 (by omega) (by omega)) (bcase_tt (dcq_ne (by omega)) (bcase_tt (dcq_ne (by omega)) (bcase_tt (dcq_eq (by omega)) (bcase_tt (inR_i64 (by omega) (by omega)) (bcase_tt (dcq_ne (by omega)) (bcase_tt (dcq_ne (by omega)) (bcase_tt (dcq_eq (by omega)) (bcase_tt (inR_i16 (by omega) (by omega)) (bcase_tt (inR_i64 (by omega) (by omega)) (bcase_tt (dcq_eq (by omega)) (bcase_tt (inR_i64 (by omega) (by omega)) (bcase_tt (inR_i16 (by omega) (by omega)) (bcase_tt (inR_i64 (by omega) (by omega)) (bcase_tt (dcq_ne (by omega)) (bcase_tt (dcq_ne (by omega)) (bcase_tt (dcq_eq (by omega)) (bcase_tt (dcq_ne (by omega)) (bcase_tt (dcq_ne (by omega)) (bcase_tt (dcq_eq (by omega)) (bcase_tt (dcq_eq (by omega)) (bcase_tt (dcq_cap i) (bcase_tt (appC_ok (by rw [zrows_len]) (by omega)) (bcase_any (bcase_tt (inR_add (by omega)) (fun env h ds ho => (absM_1_1 Zs hn hi (zn i) a0 a1 a2 hrow ho).elim fun σ ab => hK env h ds σ ab)) (bcase_tt (inR_add (by omega)) (fun env h ds ho => (absM_1_1 Zs hn hi (zn i) a0 a1 a2 hrow ho).elim fun σ ab => hK env h ds σ ab))))))))))))))))))))))))))⟩))
end
end Go.Proofs.YtkfhjobebhdpoaaGreat
/- Stream: Run's loop over ticks, as a contract (the program of StreamMerges). -/
set_option autoImplicit false
set_option maxRecDepth 1000000
set_option maxHeartbeats 2000000
set_option linter.unusedVariables false
namespace Go.Proofs.YtkfhjobebhdpoaaGreat
noncomputable section
open Go.X
inductive SM where
  | s0 (g : Nat → CV)
  | s1 (i : Nat) (a0 : Int) (a1 : Int) (a2 : Int) (g : Nat → CV)
  | s2 (i : Nat) (a0 : Int) (a1 : Int) (a2 : Int) (a3 : Int) (a4 : Int) (a5 : Int) (a6 : Int) (a7 : Int) (g : Nat → CV)
  | s3 (i : Nat) (a0 : Int) (a1 : Int) (a2 : Int) (a3 : Int) (a4 : Int) (a5 : Int) (a6 : Int) (a7 : Int) (g : Nat → CV)
  | s4 (i : Nat) (a0 : Int) (a1 : Int) (a2 : Int) (a3 : Int) (g : Nat → CV)
def SM.ok (l : Nat → Bool) (n : Nat) : SM → Prop
  | .s0 _ => True
  | .s1 i a0 a1 a2 _ => 1 ≤ i ∧ i ≤ n ∧ a0 = (i : Int) ∧ cntM l i = a0 ∧ cntN l i = 0 ∧ a2 = a0 + 1
  | .s2 i a0 a1 a2 a3 a4 a5 a6 a7 _ => 1 ≤ i ∧ i ≤ n ∧ a0 = (i : Int) ∧ a3 = cntM l i ∧ a4 = cntN l i ∧ a5 = a3 + 1 ∧ a7 = a4 + 1
  | .s3 i a0 a1 a2 a3 a4 a5 a6 a7 _ => 1 ≤ i ∧ i ≤ n ∧ a0 = (i : Int) ∧ a3 = cntM l i ∧ a4 = cntN l i ∧ a5 = a3 + 1 ∧ a7 = a4 + 1
  | .s4 i a0 a1 a2 a3 _ => 1 ≤ i ∧ i ≤ n ∧ a0 = (i : Int) ∧ cntM l i = 0 ∧ cntN l i = a0 ∧ a2 = a0 ∧ a3 = a0 + 1
def SM.st (l : Nat → Bool) (n : Nat) (z : T Blk) : SM → ZS
  | .s0 g => ⟨eM n g .nils 0, lapp (rr0M (zrowsT 0 1 n) (zrowsT 100 1 n)) bM0, z, n0M⟩
  | .s1 i a0 a1 a2 g => stM l n z i g (bM1 a0 a1 a2)
  | .s2 i a0 a1 a2 a3 a4 a5 a6 a7 g => stM l n z i g (bM2 a0 a1 a2 a3 a4 a5 a6 a7)
  | .s3 i a0 a1 a2 a3 a4 a5 a6 a7 g => stM l n z i g (bM3 a0 a1 a2 a3 a4 a5 a6 a7)
  | .s4 i a0 a1 a2 a3 g => stM l n z i g (bM4 a0 a1 a2 a3)
def SM.er (l : Nat → Bool) (n : Nat) : SM → List (Nat × AV)
  | .s0 _ => eM n (ggM (zn 0) [bi (l 0)]) .nils 0
  | .s1 i _ _ _ _ => eM n (ggM (zn i) [bi (l i)]) (.slc n0M 0 i i false 1) i
  | .s2 i _ _ _ _ _ _ _ _ _ => eM n (ggM (zn i) [bi (l i)]) (.slc n0M 0 i i false 1) i
  | .s3 i _ _ _ _ _ _ _ _ _ => eM n (ggM (zn i) [bi (l i)]) (.slc n0M 0 i i false 1) i
  | .s4 i _ _ _ _ _ => eM n (ggM (zn i) [bi (l i)]) (.slc n0M 0 i i false 1) i
def SM.dr (l : Nat → Bool) (n : Nat) : SM → List Bool
  | .s0 _ => (cond (l 0) dM_0_1 dM_0_0)
  | .s1 i _ _ _ _ => cond (Nat.ble (i + 1) n) (cond (l i) dM_1_1 dM_1_0) [false]
  | .s2 i _ _ _ _ _ _ _ _ _ => cond (Nat.ble (i + 1) n) (cond (l i) dM_2_1 dM_2_0) [false]
  | .s3 i _ _ _ _ _ _ _ _ _ => cond (Nat.ble (i + 1) n) (cond (l i) dM_3_1 dM_3_0) [false]
  | .s4 i _ _ _ _ _ => cond (Nat.ble (i + 1) n) (cond (l i) dM_4_1 dM_4_0) [false]
def SM.mu (n : Nat) : SM → Nat
  | .s0 _ => n + 1
  | .s1 i _ _ _ _ => n - i
  | .s2 i _ _ _ _ _ _ _ _ _ => n - i
  | .s3 i _ _ _ _ _ _ _ _ _ => n - i
  | .s4 i _ _ _ _ _ => n - i
theorem pe_eM (n : Nat) (g g' : Nat → CV) (out : AV) (i : Nat) : Pe (eM n g out i) (eM n g' out i) :=
  .cons _ _ _ _ _ (.inl rfl) (.cons _ _ _ _ _ (.inl rfl) (.cons _ _ _ _ _ (.inl rfl) (.cons _ _ _ _ _ (.inl rfl) (.cons _ _ _ _ _ (.inr ⟨_, _, _, _, _, rfl, rfl⟩) (.cons _ _ _ _ _ (.inl rfl) (.cons _ _ _ _ _ (.inl rfl) .nil))))))
theorem done_M1 {l : Nat → Bool} {n : Nat} {z : T Blk} (Zs : ZinM l n z) (hn : n ≤ 60) (R : List (Nat × Nat × Blk)) (hR : R = [(n0M, n0M, .row (zrows 300 1 n) 22 true []), (30, 30, .row (zrowsT 0 1 n) 22 true []), (31, 31, .row (zrowsT 100 1 n) 22 true [])]) {env : Env} {h : H}
    (ho : obs [6, 7, 17] (actsOf (lapp R []) []) (lapp R []) [] env h = expsR n0M (kpOf (zoM l z n)) [(6, .nils), (7, .int .i64 (Int.ofNat 0)), (17, .slc n0M 0 n n false 1)] R [] [] (zoM l z n) [(some (.row (zrows 300 1 n) 22 true []), true), (some (.row (zrowsT 0 1 n) 22 true []), true), (some (.row (zrowsT 100 1 n) 22 true []), true)]) :
    ∃ σ, Abs n0M σ (finM l n z).env (finM l n z).h env h := by
  subst hR
  have hlit : okLit n0M 2097152 (lapp [(n0M, n0M, .row (zrows 300 1 n) 22 true []), (30, 30, .row (zrowsT 0 1 n) 22 true []), (31, 31, .row (zrowsT 100 1 n) 22 true [])] []) = true := okLit_row rfl (belM_O (by omega)) (okLit_row rfl (belM_I hn) (okLit_row rfl (belM_W hn) rfl))
  have k1 := keepIM Zs hn (i := n) (Zn := []) hlit (fun p hp => by cases hp)
  have k2 : renL (szs n0M (namesOf (lapp [(n0M, n0M, .row (zrows 300 1 n) 22 true []), (30, 30, .row (zrowsT 0 1 n) 22 true []), (31, 31, .row (zrowsT 100 1 n) 22 true [])] []) []) (kpOf (zoM l z n))) (zrows 300 1 n) = zrows 300 1 n := by
    exact zrows_keep fun j hj => szs_zone hlit (zgrow_new hj) (fun p hp e => by cases hp)
  rw [expsR_eq] at ho
  · exact NewOK.abs (t := finM l n z) (A := lapp [(n0M, n0M, .row (zrows 300 1 n) 22 true []), (30, 30, .row (zrowsT 0 1 n) 22 true []), (31, 31, .row (zrowsT 100 1 n) 22 true [])] []) (Z := []) (z := zoM l z n)
      ⟨rfl, rfl, by show 1049540 ≤ 2097152; decide, rfl, hlit, rfl, rfl, (fun p hp => (by cases hp)), List.nodup_nil, zoM_ok Zs (by omega)⟩ rfl rfl rfl rfl ho
  · show _ = [(some (Blk.row (renL _ _) _ _ _), true), (some (Blk.row (renL _ _) _ _ _), true), (some (Blk.row (renL _ _) _ _ _), true)]
    rw [k2, k1.1, k1.2]; rfl
theorem belM_I0 {n : Nat} (hn : n ≤ 60) : belL n0M (zrowsT 0 1 n) = true := belL_slc _ (fun j => zn (0 + j)) _ _ _ fun j hj => by have := List.mem_range.1 hj; rw [zn_eq]; show _ < 1049540; omega
theorem belM_W0 {n : Nat} (hn : n ≤ 60) : belL n0M (zrowsT 100 1 n) = true := belL_slc _ (fun j => zn (100 + j)) _ _ _ fun j hj => by have := List.mem_range.1 hj; rw [zn_eq]; show _ < 1049540; omega
theorem loopM_good {C : Cfg} (G : X.Good C Tryz.prog) (hg : C.gl = fun _ => none) (hm : C.mask 14 = mask 14) {l : Nat → Bool} {n : Nat} (hn1 : 1 ≤ n) (hn : n ≤ 60) {z : T Blk} (Zs : ZinM l n z) (g : Nat → CV) :
    X.Good (C.addLc 14 22 (lcZ (S0 := Unit) (fun _ => True) (lmap (fun p => p.1) (eM n g .nils 0)) (lmap (fun p => p.1) (lapp (rr0M (zrowsT 0 1 n) (zrowsT 100 1 n)) bM0)) (fun _ => SM.st l n z (.s0 g)) (fun _ => (.ext 2, finM l n z)))) Tryz.prog := by
  refine G.addZR good1 (by rw [hg]; rfl) (S := SM) (SM.dr l n) (n0 := n0M) (ι := fun _ => .s0 g) (ok := SM.ok l n) (St := SM.st l n z) (SM.er l n) (μ := SM.mu n) (fin := fun _ => (.ext 2, finM l n z)) (fuel := F) hm.symm (by rfl) ?_ ?_ ?_ (fun g i h => by rw [hg] at h; cases h)
  · intro s _
    cases s <;> exact pe_eM ..
  · intro _ _
    refine ⟨trivial, rfl, rfl, ⟨rfl, ?_, ?_, ?_⟩, by show 1049540 ≤ 2097152; decide, rfl, rfl⟩
    · show belEs n0M (eM n g .nils 0) = true
      kernel_rfl
    · exact blksN_app (R := rr0M (zrowsT 0 1 n) (zrowsT 100 1 n)) blksM0 (blksN_row (by show 30 < 1049540; decide) (belM_I0 hn) (blksN_row (by show 31 < 1049540; decide) (belM_W0 hn) rfl))
    · intro x k h
      obtain ⟨a, b⟩ := Zs.only x k h
      exact ⟨b, by rw [zn_eq]; show _ < 1049540; omega, by rw [zn_eq]; show _ < 1000000000000; omega⟩
  · intro s hs
    rw [hm]
    cases s with
    | s0 g0 =>
      have hc := cntM_le l 0
      have z0 : cntM l 0 = 0 := rfl
      have z1 : cntN l 0 = 0 := rfl
      cases hb : l 0 with
      | false =>
        have q1 : cntM l (0 + 1) = cntM l 0 := by rw [cntM_succ, hb]
        have q2 : cntN l (0 + 1) = cntN l 0 + 1 := by rw [cntN_succ, hb]
        have q3 : valM l 0 = -(cntN l (0 + 1)) := by unfold valM; rw [hb]
        have q1' : cntM l 1 = cntM l 0 := q1
        have q2' : cntN l 1 = cntN l 0 + 1 := q2
        have q3' : valM l 0 = -(cntN l 1) := q3
        refine ⟨?_⟩
        show xcode C1 Tryz.prog F 14 (loopC Tryz.prog 14 22) (mask 14) (tmpsN Tryz.prog 14) (mkE (eM n (ggM (zn 0) [bi (l 0)]) .nils 0)) _ (cond (l 0) dM_0_1 dM_0_0) _
        rw [hb]
        exact useM_0_0 Zs hn (by omega) (row1_eq (by omega)) (cellI (i := 0) (by omega) (getM0 ..) _) (cellR (zgM0 ..) (by rw [Zs.ins 0 (by omega)]; unfold inRowM; rw [hb]; rfl) _ rfl)
          (fun env h ds σ ab => ⟨.s4 1 1 (-1) 1 2 _, σ, ⟨Nat.le_refl _, hn1, by omega, by omega, by omega, by omega, by omega⟩, (by show n - 1 < n + 1; omega), rfl, ab⟩)
      | true =>
        have q1 : cntM l (0 + 1) = cntM l 0 + 1 := by rw [cntM_succ, hb]
        have q2 : cntN l (0 + 1) = cntN l 0 := by rw [cntN_succ, hb]
        have q3 : valM l 0 = cntM l (0 + 1) := by unfold valM; rw [hb]
        have q1' : cntM l 1 = cntM l 0 + 1 := q1
        have q2' : cntN l 1 = cntN l 0 := q2
        have q3' : valM l 0 = cntM l 1 := q3
        refine ⟨?_⟩
        show xcode C1 Tryz.prog F 14 (loopC Tryz.prog 14 22) (mask 14) (tmpsN Tryz.prog 14) (mkE (eM n (ggM (zn 0) [bi (l 0)]) .nils 0)) _ (cond (l 0) dM_0_1 dM_0_0) _
        rw [hb]
        exact useM_0_1 Zs hn (by omega) (row1_eq (by omega)) (cellI (i := 0) (by omega) (getM0 ..) _) (cellR (zgM0 ..) (by rw [Zs.ins 0 (by omega)]; unfold inRowM; rw [hb]; rfl) _ rfl)
          (fun env h ds σ ab => ⟨.s1 1 1 1 2 _, σ, ⟨Nat.le_refl _, hn1, by omega, by omega, by omega, by omega⟩, (by show n - 1 < n + 1; omega), rfl, ab⟩)
    | s1 i a0 a1 a2 g0 =>
      obtain ⟨h1, h2, p0, p1, p2, p3⟩ := hs
      have hc := cntM_le l i
      by_cases hlt : i < n
      · cases hb : l i with
        | false =>
          have q1 : cntM l (i + 1) = cntM l i := by rw [cntM_succ, hb]
          have q2 : cntN l (i + 1) = cntN l i + 1 := by rw [cntN_succ, hb]
          have q3 : valM l i = -(cntN l (i + 1)) := by unfold valM; rw [hb]
          refine ⟨?_⟩
          show xcode C1 Tryz.prog F 14 (loopC Tryz.prog 14 22) (mask 14) (tmpsN Tryz.prog 14) (mkE (eM n (ggM (zn i) [bi (l i)]) (.slc n0M 0 i i false 1) i)) _ (cond (Nat.ble (i + 1) n) (cond (l i) dM_1_1 dM_1_0) [false]) _
          rw [hb, ble_t hlt]
          exact useM_1_0 Zs hn hlt a0 a1 a2 (by omega) (by omega) (row1_eq (by omega)) (cellI hlt (getM1 ..) _) (cellR (zgM1 ..) (by rw [zoM_low (by omega), Zs.ins i hlt]; unfold inRowM; rw [hb]; rfl) _ rfl)
            (fun env h ds σ ab => ⟨.s2 (i + 1) (a0 + 1) a1 (-1) a0 1 a2 1 2 _, σ, ⟨by omega, hlt, by omega, by omega, by omega, by omega, by omega⟩, (by show n - (i + 1) < n - i; omega), rfl, ab⟩)
        | true =>
          have q1 : cntM l (i + 1) = cntM l i + 1 := by rw [cntM_succ, hb]
          have q2 : cntN l (i + 1) = cntN l i := by rw [cntN_succ, hb]
          have q3 : valM l i = cntM l (i + 1) := by unfold valM; rw [hb]
          refine ⟨?_⟩
          show xcode C1 Tryz.prog F 14 (loopC Tryz.prog 14 22) (mask 14) (tmpsN Tryz.prog 14) (mkE (eM n (ggM (zn i) [bi (l i)]) (.slc n0M 0 i i false 1) i)) _ (cond (Nat.ble (i + 1) n) (cond (l i) dM_1_1 dM_1_0) [false]) _
          rw [hb, ble_t hlt]
          exact useM_1_1 Zs hn hlt a0 a1 a2 (by omega) (by omega) (by omega) (by omega) (row1_eq (by omega)) (cellI hlt (getM1 ..) _) (cellR (zgM1 ..) (by rw [zoM_low (by omega), Zs.ins i hlt]; unfold inRowM; rw [hb]; rfl) _ rfl)
            (fun env h ds σ ab => ⟨.s1 (i + 1) (a0 + 1) a2 (a2 + 1) _, σ, ⟨by omega, hlt, by omega, by omega, by omega, by omega⟩, (by show n - (i + 1) < n - i; omega), rfl, ab⟩)
      · have hin : i = n := by omega
        subst hin
        refine ⟨?_⟩
        show xcode C1 Tryz.prog F 14 (loopC Tryz.prog 14 22) (mask 14) (tmpsN Tryz.prog 14) (mkE (eM i (ggM (zn i) [bi (l i)]) (.slc n0M 0 i i false 1) i)) _ (cond (Nat.ble (i + 1) i) (cond (l i) dM_1_1 dM_1_0) [false]) _
        rw [ble_f (Nat.lt_irrefl i)]
        exact round_use2 good1.spl (fun Kv => xM_1 (zoM l z i) (zrowsT 0 1 i) (zrowsT 100 1 i) i i _ a0 a1 a2 Kv)
          (bcase_tt (dcq_ge (by omega)) (fun env h ds ho => (done_M1 Zs hn _ rfl ho).elim fun σ ab => ⟨σ, rfl, ab⟩))
    | s2 i a0 a1 a2 a3 a4 a5 a6 a7 g0 =>
      obtain ⟨h1, h2, p0, p1, p2, p3, p4⟩ := hs
      have hc := cntM_le l i
      by_cases hlt : i < n
      · cases hb : l i with
        | false =>
          have q1 : cntM l (i + 1) = cntM l i := by rw [cntM_succ, hb]
          have q2 : cntN l (i + 1) = cntN l i + 1 := by rw [cntN_succ, hb]
          have q3 : valM l i = -(cntN l (i + 1)) := by unfold valM; rw [hb]
          refine ⟨?_⟩
          show xcode C1 Tryz.prog F 14 (loopC Tryz.prog 14 22) (mask 14) (tmpsN Tryz.prog 14) (mkE (eM n (ggM (zn i) [bi (l i)]) (.slc n0M 0 i i false 1) i)) _ (cond (Nat.ble (i + 1) n) (cond (l i) dM_2_1 dM_2_0) [false]) _
          rw [hb, ble_t hlt]
          exact useM_2_0 Zs hn hlt a0 a1 a2 a3 a4 a5 a6 a7 (by omega) (by omega) (by omega) (by omega) (by omega) (by omega) (row1_eq (by omega)) (cellI hlt (getM2 ..) _) (cellR (zgM2 ..) (by rw [zoM_low (by omega), Zs.ins i hlt]; unfold inRowM; rw [hb]; rfl) _ rfl)
            (fun env h ds σ ab => ⟨.s2 (i + 1) (a0 + 1) a1 (0 - a7) a3 (a4 + 1) a5 a7 (a7 + 1) _, σ, ⟨by omega, hlt, by omega, by omega, by omega, by omega, by omega⟩, (by show n - (i + 1) < n - i; omega), rfl, ab⟩)
        | true =>
          have q1 : cntM l (i + 1) = cntM l i + 1 := by rw [cntM_succ, hb]
          have q2 : cntN l (i + 1) = cntN l i := by rw [cntN_succ, hb]
          have q3 : valM l i = cntM l (i + 1) := by unfold valM; rw [hb]
          refine ⟨?_⟩
          show xcode C1 Tryz.prog F 14 (loopC Tryz.prog 14 22) (mask 14) (tmpsN Tryz.prog 14) (mkE (eM n (ggM (zn i) [bi (l i)]) (.slc n0M 0 i i false 1) i)) _ (cond (Nat.ble (i + 1) n) (cond (l i) dM_2_1 dM_2_0) [false]) _
          rw [hb, ble_t hlt]
          exact useM_2_1 Zs hn hlt a0 a1 a2 a3 a4 a5 a6 a7 (by omega) (by omega) (by omega) (by omega) (by omega) (by omega) (row1_eq (by omega)) (cellI hlt (getM2 ..) _) (cellR (zgM2 ..) (by rw [zoM_low (by omega), Zs.ins i hlt]; unfold inRowM; rw [hb]; rfl) _ rfl)
            (fun env h ds σ ab => ⟨.s3 (i + 1) (a0 + 1) a5 a2 (a3 + 1) a4 (a5 + 1) a6 a7 _, σ, ⟨by omega, hlt, by omega, by omega, by omega, by omega, by omega⟩, (by show n - (i + 1) < n - i; omega), rfl, ab⟩)
      · have hin : i = n := by omega
        subst hin
        refine ⟨?_⟩
        show xcode C1 Tryz.prog F 14 (loopC Tryz.prog 14 22) (mask 14) (tmpsN Tryz.prog 14) (mkE (eM i (ggM (zn i) [bi (l i)]) (.slc n0M 0 i i false 1) i)) _ (cond (Nat.ble (i + 1) i) (cond (l i) dM_2_1 dM_2_0) [false]) _
        rw [ble_f (Nat.lt_irrefl i)]
        exact round_use2 good1.spl (fun Kv => xM_2 (zoM l z i) (zrowsT 0 1 i) (zrowsT 100 1 i) i i _ a0 a1 a2 a3 a4 a5 a6 a7 Kv)
          (bcase_tt (dcq_ge (by omega)) (fun env h ds ho => (done_M1 Zs hn _ rfl ho).elim fun σ ab => ⟨σ, rfl, ab⟩))
    | s3 i a0 a1 a2 a3 a4 a5 a6 a7 g0 =>
      obtain ⟨h1, h2, p0, p1, p2, p3, p4⟩ := hs
      have hc := cntM_le l i
      by_cases hlt : i < n
      · cases hb : l i with
        | false =>
          have q1 : cntM l (i + 1) = cntM l i := by rw [cntM_succ, hb]
          have q2 : cntN l (i + 1) = cntN l i + 1 := by rw [cntN_succ, hb]
          have q3 : valM l i = -(cntN l (i + 1)) := by unfold valM; rw [hb]
          refine ⟨?_⟩
          show xcode C1 Tryz.prog F 14 (loopC Tryz.prog 14 22) (mask 14) (tmpsN Tryz.prog 14) (mkE (eM n (ggM (zn i) [bi (l i)]) (.slc n0M 0 i i false 1) i)) _ (cond (Nat.ble (i + 1) n) (cond (l i) dM_3_1 dM_3_0) [false]) _
          rw [hb, ble_t hlt]
          exact useM_3_0 Zs hn hlt a0 a1 a2 a3 a4 a5 a6 a7 (by omega) (by omega) (by omega) (by omega) (by omega) (by omega) (row1_eq (by omega)) (cellI hlt (getM3 ..) _) (cellR (zgM3 ..) (by rw [zoM_low (by omega), Zs.ins i hlt]; unfold inRowM; rw [hb]; rfl) _ rfl)
            (fun env h ds σ ab => ⟨.s2 (i + 1) (a0 + 1) a1 (0 - a7) a3 (a4 + 1) a5 a7 (a7 + 1) _, σ, ⟨by omega, hlt, by omega, by omega, by omega, by omega, by omega⟩, (by show n - (i + 1) < n - i; omega), rfl, ab⟩)
        | true =>
          have q1 : cntM l (i + 1) = cntM l i + 1 := by rw [cntM_succ, hb]
          have q2 : cntN l (i + 1) = cntN l i := by rw [cntN_succ, hb]
          have q3 : valM l i = cntM l (i + 1) := by unfold valM; rw [hb]
          refine ⟨?_⟩
          show xcode C1 Tryz.prog F 14 (loopC Tryz.prog 14 22) (mask 14) (tmpsN Tryz.prog 14) (mkE (eM n (ggM (zn i) [bi (l i)]) (.slc n0M 0 i i false 1) i)) _ (cond (Nat.ble (i + 1) n) (cond (l i) dM_3_1 dM_3_0) [false]) _
          rw [hb, ble_t hlt]
          exact useM_3_1 Zs hn hlt a0 a1 a2 a3 a4 a5 a6 a7 (by omega) (by omega) (by omega) (by omega) (by omega) (by omega) (row1_eq (by omega)) (cellI hlt (getM3 ..) _) (cellR (zgM3 ..) (by rw [zoM_low (by omega), Zs.ins i hlt]; unfold inRowM; rw [hb]; rfl) _ rfl)
            (fun env h ds σ ab => ⟨.s3 (i + 1) (a0 + 1) a5 a2 (a3 + 1) a4 (a5 + 1) a6 a7 _, σ, ⟨by omega, hlt, by omega, by omega, by omega, by omega, by omega⟩, (by show n - (i + 1) < n - i; omega), rfl, ab⟩)
      · have hin : i = n := by omega
        subst hin
        refine ⟨?_⟩
        show xcode C1 Tryz.prog F 14 (loopC Tryz.prog 14 22) (mask 14) (tmpsN Tryz.prog 14) (mkE (eM i (ggM (zn i) [bi (l i)]) (.slc n0M 0 i i false 1) i)) _ (cond (Nat.ble (i + 1) i) (cond (l i) dM_3_1 dM_3_0) [false]) _
        rw [ble_f (Nat.lt_irrefl i)]
        exact round_use2 good1.spl (fun Kv => xM_3 (zoM l z i) (zrowsT 0 1 i) (zrowsT 100 1 i) i i _ a0 a1 a2 a3 a4 a5 a6 a7 Kv)
          (bcase_tt (dcq_ge (by omega)) (fun env h ds ho => (done_M1 Zs hn _ rfl ho).elim fun σ ab => ⟨σ, rfl, ab⟩))
    | s4 i a0 a1 a2 a3 g0 =>
      obtain ⟨h1, h2, p0, p1, p2, p3, p4⟩ := hs
      have hc := cntM_le l i
      by_cases hlt : i < n
      · cases hb : l i with
        | false =>
          have q1 : cntM l (i + 1) = cntM l i := by rw [cntM_succ, hb]
          have q2 : cntN l (i + 1) = cntN l i + 1 := by rw [cntN_succ, hb]
          have q3 : valM l i = -(cntN l (i + 1)) := by unfold valM; rw [hb]
          refine ⟨?_⟩
          show xcode C1 Tryz.prog F 14 (loopC Tryz.prog 14 22) (mask 14) (tmpsN Tryz.prog 14) (mkE (eM n (ggM (zn i) [bi (l i)]) (.slc n0M 0 i i false 1) i)) _ (cond (Nat.ble (i + 1) n) (cond (l i) dM_4_1 dM_4_0) [false]) _
          rw [hb, ble_t hlt]
          exact useM_4_0 Zs hn hlt a0 a1 a2 a3 (by omega) (by omega) (by omega) (by omega) (row1_eq (by omega)) (cellI hlt (getM4 ..) _) (cellR (zgM4 ..) (by rw [zoM_low (by omega), Zs.ins i hlt]; unfold inRowM; rw [hb]; rfl) _ rfl)
            (fun env h ds σ ab => ⟨.s4 (i + 1) (a0 + 1) (0 - a3) a3 (a3 + 1) _, σ, ⟨by omega, hlt, by omega, by omega, by omega, by omega, by omega⟩, (by show n - (i + 1) < n - i; omega), rfl, ab⟩)
        | true =>
          have q1 : cntM l (i + 1) = cntM l i + 1 := by rw [cntM_succ, hb]
          have q2 : cntN l (i + 1) = cntN l i := by rw [cntN_succ, hb]
          have q3 : valM l i = cntM l (i + 1) := by unfold valM; rw [hb]
          refine ⟨?_⟩
          show xcode C1 Tryz.prog F 14 (loopC Tryz.prog 14 22) (mask 14) (tmpsN Tryz.prog 14) (mkE (eM n (ggM (zn i) [bi (l i)]) (.slc n0M 0 i i false 1) i)) _ (cond (Nat.ble (i + 1) n) (cond (l i) dM_4_1 dM_4_0) [false]) _
          rw [hb, ble_t hlt]
          exact useM_4_1 Zs hn hlt a0 a1 a2 a3 (by omega) (by omega) (row1_eq (by omega)) (cellI hlt (getM4 ..) _) (cellR (zgM4 ..) (by rw [zoM_low (by omega), Zs.ins i hlt]; unfold inRowM; rw [hb]; rfl) _ rfl)
            (fun env h ds σ ab => ⟨.s3 (i + 1) (a0 + 1) 1 a1 1 a0 2 a2 a3 _, σ, ⟨by omega, hlt, by omega, by omega, by omega, by omega, by omega⟩, (by show n - (i + 1) < n - i; omega), rfl, ab⟩)
      · have hin : i = n := by omega
        subst hin
        refine ⟨?_⟩
        show xcode C1 Tryz.prog F 14 (loopC Tryz.prog 14 22) (mask 14) (tmpsN Tryz.prog 14) (mkE (eM i (ggM (zn i) [bi (l i)]) (.slc n0M 0 i i false 1) i)) _ (cond (Nat.ble (i + 1) i) (cond (l i) dM_4_1 dM_4_0) [false]) _
        rw [ble_f (Nat.lt_irrefl i)]
        exact round_use2 good1.spl (fun Kv => xM_4 (zoM l z i) (zrowsT 0 1 i) (zrowsT 100 1 i) i i _ a0 a1 a2 a3 Kv)
          (bcase_tt (dcq_ge (by omega)) (fun env h ds ho => (done_M1 Zs hn _ rfl ho).elim fun σ ab => ⟨σ, rfl, ab⟩))
end
end Go.Proofs.YtkfhjobebhdpoaaGreat

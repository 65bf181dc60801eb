/- Stream: what the rounds of Run's loop do. -/
import Derived.Test.YtkfhjobebhdpoaaGreatRA
import Derived.Test.YtkfhjobebhdpoaaGreatSK
set_option linter.unusedVariables false
set_option autoImplicit false
set_option maxRecDepth 1000000
set_option maxHeartbeats 2000000
set_option linter.unusedVariables false

namespace Go.Proofs.YtkfhjobebhdpoaaGreat
noncomputable section
open Go.X
/-- how often it was counted since it was last reset -/
def cntR (l : Nat → Bool) : Nat → Int := fun i => Nat.rec 0 (fun j ih => (Bool.rec ih 0 (l j)) + 1) i
theorem cntR_succ (l : Nat → Bool) (i : Nat) : cntR l (i + 1) = (Bool.rec (cntR l i) 0 (l i)) + 1 := rfl
theorem cntR_le (l : Nat → Bool) : ∀ i : Nat, 0 ≤ cntR l i ∧ cntR l i ≤ i
  | 0 => ⟨Int.le_refl _, Int.le_refl _⟩
  | i + 1 => by
    obtain ⟨a, b⟩ := cntR_le l i
    rw [cntR_succ]
    cases l i with
    | true => show 0 ≤ (0 : Int) + 1 ∧ (0 : Int) + 1 ≤ ((i + 1 : Nat) : Int); omega
    | false => show 0 ≤ cntR l i + 1 ∧ cntR l i + 1 ≤ ((i + 1 : Nat) : Int); omega
def cvR (l : Nat → Bool) (j : Nat) : Int := Bool.rec (cntR l j) 0 (l j)
def inRowR (l : Nat → Bool) (j : Nat) : Blk := .row [.int .i64 (bi (l j))] 3 true []
def outR (l : Nat → Bool) (j : Nat) : Blk := rowR [.int .i64 (cvR l j), .int .i64 (j : Int)]
theorem outR_int (l : Nat → Bool) (j : Nat) : IntRow (outR l j) := ⟨[cvR l j, (j : Int)], 3, true, rfl⟩
/-- the zone that holds the rows of the inputs and those that are wanted -/
structure ZinR (l : Nat → Bool) (n : Nat) (z : T Blk) : Prop where
  ins : ∀ j, j < n → z.get j = some (inRowR l j)
  want : ∀ j, j < n → z.get (100 + j) = some (outR l j)
  only : ∀ x k, z.get x = some k → x < 200 ∧ IntRow k
theorem blksR0 : blksN n0R (bR0) = true := by kernel_rfl
theorem getR0 (z : T Blk) (csI csW : List AV) : T.get (mkB z (lapp (rr0R csI csW) bR0)) 30 = some (.row csI 22 true []) := by kernel_rfl
theorem zgR0 (z : T Blk) (csI csW : List AV) : zget (mkB z (lapp (rr0R csI csW) bR0)) 12 = z := by kernel_rfl
theorem getR1 (z : T Blk) (cs csI csW : List AV) (a0 : Int) (a1 : Int) : T.get (mkB z (lapp (rrR cs csI csW) (bR1 a0 a1))) 30 = some (.row csI 22 true []) := by kernel_rfl
theorem zgR1 (z : T Blk) (cs csI csW : List AV) (a0 : Int) (a1 : Int) : zget (mkB z (lapp (rrR cs csI csW) (bR1 a0 a1))) 12 = z := by kernel_rfl
theorem getR2 (z : T Blk) (cs csI csW : List AV) (a0 : Int) (a1 : Int) (a2 : Int) (a3 : Int) (a4 : Int) : T.get (mkB z (lapp (rrR cs csI csW) (bR2 a0 a1 a2 a3 a4))) 30 = some (.row csI 22 true []) := by kernel_rfl
theorem zgR2 (z : T Blk) (cs csI csW : List AV) (a0 : Int) (a1 : Int) (a2 : Int) (a3 : Int) (a4 : Int) : zget (mkB z (lapp (rrR cs csI csW) (bR2 a0 a1 a2 a3 a4))) 12 = z := by kernel_rfl
/-- the zone as far as round i -/
def zoR (l : Nat → Bool) (z : T Blk) (i : Nat) : T Blk := zgrow z 300 (outR l) i
theorem zoR_ok {l : Nat → Bool} {n : Nat} {z : T Blk} (Zs : ZinR l n z) {i : Nat} (hi : i ≤ 60) : ZoneOK (zoR l z i) 2097152 := by
  refine zgrow_ok (fun x k h => ?_) fun j hj => ⟨outR_int l j, by rw [zn_eq]; omega, by rw [zn_eq]; show _ < 1000000000000; omega⟩
  obtain ⟨a, b⟩ := Zs.only x k h
  exact ⟨b, by rw [zn_eq]; omega, by rw [zn_eq]; show _ < 1000000000000; omega⟩
theorem zoR_low {l : Nat → Bool} {z : T Blk} {i x : Nat} (hx : x < 300) : (zoR l z i).get x = z.get x := zgrow_old (.inl hx)
theorem belR_I {n : Nat} (hn : n ≤ 60) : belL 2097152 (zrowsT 0 1 n) = true := belL_slc _ _ _ _ _ fun j hj => by have := List.mem_range.1 hj; rw [zn_eq]; omega
theorem belR_W {n : Nat} (hn : n ≤ 60) : belL 2097152 (zrowsT 100 2 n) = true := belL_slc _ _ _ _ _ fun j hj => by have := List.mem_range.1 hj; rw [zn_eq]; omega
theorem belR_O {i : Nat} (hi : i ≤ 60) : belL 2097152 (zrows 300 2 i) = true := belL_slc _ _ _ _ _ fun j hj => by have := List.mem_range.1 hj; rw [zn_eq]; omega
/-- the state that shape B makes at round i -/
def stR (l : Nat → Bool) (n : Nat) (z : T Blk) (i : Nat) (g : Nat → CV) (B : List (Nat × Blk)) : ZS := ⟨eR n g (.slc n0R 0 i i false 1) i, lapp (rrR (zrows 300 2 i) (zrowsT 0 1 n) (zrowsT 100 2 n)) B, zoR l z i, 2097152⟩
def finR (l : Nat → Bool) (n : Nat) (z : T Blk) : ZS := ⟨[(6, .nils), (7, .int .i64 (Int.ofNat 0)), (17, .slc n0R 0 n n false 1)], rrR (zrows 300 2 n) (zrowsT 0 1 n) (zrowsT 100 2 n), zoR l z n, 2097152⟩
theorem keepIR {l : Nat → Bool} {n : Nat} {z : T Blk} (Zs : ZinR l n z) (hn : n ≤ 60) {i : Nat} {A Zn : List (Nat × Nat × Blk)} (hA : okLit n0R 2097152 A = true) (hZ : ∀ p ∈ Zn, 300 ≤ p.1) :
    renL (szs n0R (namesOf A Zn) (kpOf (zoR l z i))) (zrowsT 0 1 n) = (zrowsT 0 1 n) ∧ renL (szs n0R (namesOf A Zn) (kpOf (zoR l z i))) (zrowsT 100 2 n) = (zrowsT 100 2 n) := by
  constructor
  · unfold zrowsT
    rw [renL_slc]
    refine List.map_congr_left fun j hj => ?_
    have hj := List.mem_range.1 hj
    rw [szs_zone hA (k := inRowR l j) (by rw [zoR_low (by omega), Nat.zero_add]; exact Zs.ins j hj) (fun p hp e => by have := hZ p hp; omega)]
  · unfold zrowsT
    rw [renL_slc]
    refine List.map_congr_left fun j hj => ?_
    have hj := List.mem_range.1 hj
    rw [szs_zone hA (k := outR l j) (by rw [zoR_low (by omega)]; exact Zs.want j hj) (fun p hp e => by have := hZ p hp; omega)]
theorem litR_0_0 : okLit n0R 2097152 (zipA (bR1 1 0) kR_0_0) = true := by kernel_rfl
theorem keysR_0_0 (n : Nat) : nodupQ (lmap (fun p => p.1) (lapp [(n0R, 1049373, .row (zrows 300 2 1) 22 true []), (30, 30, .row (zrowsT 0 1 n) 22 true []), (31, 31, .row (zrowsT 100 2 n) 22 true [])] (zipA (bR1 1 0) kR_0_0))) = true := by kernel_rfl
theorem actsR_0_0 (n : Nat) : nodupQ (actsOf (lapp [(n0R, 1049373, .row (zrows 300 2 1) 22 true []), (30, 30, .row (zrowsT 0 1 n) 22 true []), (31, 31, .row (zrowsT 100 2 n) 22 true [])] (zipA (bR1 1 0) kR_0_0)) [(300, 1049371, rowR [.int .i64 0, .int .i64 0])]) = true := by kernel_rfl
theorem absR_0_0 {l : Nat → Bool} {n : Nat} {z : T Blk} (Zs : ZinR l n z) (hn : n ≤ 60) (hi : 0 < n) (r : Nat) (hrow : rowR [.int .i64 0, .int .i64 0] = outR l 0) {env : Env} {h : H}
    (ho : obs [6, 7, 16, 17, 71, 72, 73] (actsOf (lapp [(n0R, 1049373, .row (zrows 300 2 1) 22 true []), (30, 30, .row (zrowsT 0 1 n) 22 true []), (31, 31, .row (zrowsT 100 2 n) 22 true [])] (zipA (bR1 1 0) kR_0_0)) [(300, 1049371, rowR [.int .i64 0, .int .i64 0])]) (lapp [(n0R, 1049373, .row (zrows 300 2 1) 22 true []), (30, 30, .row (zrowsT 0 1 n) 22 true []), (31, 31, .row (zrowsT 100 2 n) 22 true [])] (zipA (bR1 1 0) kR_0_0)) [(300, 1049371, rowR [.int .i64 0, .int .i64 0])] env h = expsR n0R (kpOf z) (eR n (ggR r [0]) (.slc n0R 0 1 1 false 1) 1) [(n0R, 1049373, .row (zrows 300 2 1) 22 true []), (30, 30, .row (zrowsT 0 1 n) 22 true []), (31, 31, .row (zrowsT 100 2 n) 22 true [])] (zipA (bR1 1 0) kR_0_0) [(300, 1049371, rowR [.int .i64 0, .int .i64 0])] z [(some (.row [.slc 1049371 0 2 2 false 1] 22 true []), true), (some (.row (zrowsT 0 1 n) 22 true []), true), (some (.row (zrowsT 100 2 n) 22 true []), true)]) :
    ∃ σ, Abs n0R σ (stR l n z 1 (ggR r [0]) (bR1 1 0)).env (stR l n z 1 (ggR r [0]) (bR1 1 0)).h env h := by
  have hlit : okLit n0R 2097152 (lapp [(n0R, 1049373, .row (zrows 300 2 1) 22 true []), (30, 30, .row (zrowsT 0 1 n) 22 true []), (31, 31, .row (zrowsT 100 2 n) 22 true [])] (zipA (bR1 1 0) kR_0_0)) = true := okLit_row rfl (belR_O (by omega)) (okLit_row rfl (belR_I hn) (okLit_row rfl (belR_W hn) (litR_0_0)))
  have hZ3 : ∀ p ∈ ([(300, 1049371, rowR [.int .i64 0, .int .i64 0])] : List (Nat × Nat × Blk)), 300 ≤ p.1 := fun p hp => by rw [List.mem_singleton.1 hp]; show 300 ≤ 300; omega
  have hnd : (([(300, 1049371, rowR [.int .i64 0, .int .i64 0])] : List (Nat × Nat × Blk)).map (·.1)).Nodup := by simp
  have k1 := keepIR Zs hn (i := 0) hlit hZ3
  rw [expsR_eq] at ho
  · exact NewOK.abs (t := stR l n z 1 (ggR r [0]) (bR1 1 0)) (A := lapp [(n0R, 1049373, .row (zrows 300 2 1) 22 true []), (30, 30, .row (zrowsT 0 1 n) 22 true []), (31, 31, .row (zrowsT 100 2 n) 22 true [])] (zipA (bR1 1 0) kR_0_0)) (Z := [(300, 1049371, rowR [.int .i64 0, .int .i64 0])]) (z := z)
      ⟨by rw [lmap_app, zipA_B]; rfl, by show T.set z (outR l 0) (300 + 0) = T.set z (rowR [.int .i64 0, .int .i64 0]) 300; rw [hrow], by show 1049321 ≤ 2097152; decide, by kernel_rfl, hlit, keysR_0_0 n, actsR_0_0 n,
        fun p hp => by
          rw [List.mem_singleton.1 hp]
          refine ⟨by show 1049321 ≤ zn 300; rw [zn_eq]; omega, by show zn 300 < 2097152; rw [zn_eq]; omega, by show 1049321 ≤ 1049371; decide, by show 1049371 < 1000000000000; decide, by show 1049371 % 4096 ≠ 4095; decide, ?_⟩
          exact ⟨[0, 0], 3, true, rfl⟩,
        hnd, by have := zoR_ok Zs (i := 0) (by omega); exact this⟩ rfl rfl rfl rfl ho
  · have e1 : [.slc 1049371 0 2 2 false 1] = renL (szs n0R (namesOf (lapp [(n0R, 1049373, .row (zrows 300 2 1) 22 true []), (30, 30, .row (zrowsT 0 1 n) 22 true []), (31, 31, .row (zrowsT 100 2 n) 22 true [])] (zipA (bR1 1 0) kR_0_0)) [(300, 1049371, rowR [.int .i64 0, .int .i64 0])]) (kpOf z)) (zrows 300 2 1) := by
      refine zrows_grow (i := 0) (fun j hj => ?_) (szs_row hlit (by show 1049321 ≤ zn (300 + 0); rw [zn_eq]; omega) (List.mem_singleton.2 rfl) hnd)
      omega
    show [(some (Blk.row _ _ _ _), true), (some (Blk.row _ _ _ _), true), (some (Blk.row _ _ _ _), true)] = [(some (Blk.row (renL _ _) _ _ _), true), (some (Blk.row (renL _ _) _ _ _), true), (some (Blk.row (renL _ _) _ _ _), true)]
    rw [← e1]
    have k1 := k1
    change renL (szs n0R (namesOf _ _) (kpOf z)) _ = _ ∧ renL (szs n0R (namesOf _ _) (kpOf z)) _ = _ at k1
    rw [k1.1, k1.2]; rfl
theorem litR_1_0 (a0 : Int) (a1 : Int) : okLit n0R 2097152 (zipA (bR1 (a0 + 1) a0) kR_1_0) = true := by kernel_rfl
theorem keysR_1_0 (n i : Nat) (a0 : Int) (a1 : Int) : nodupQ (lmap (fun p => p.1) (lapp [(n0R, 2097204, .row (zrows 300 2 (i + 1)) 22 true []), (30, 30, .row (zrowsT 0 1 n) 22 true []), (31, 31, .row (zrowsT 100 2 n) 22 true [])] (zipA (bR1 (a0 + 1) a0) kR_1_0))) = true := by kernel_rfl
theorem actsR_1_0 (n i : Nat) (a0 : Int) (a1 : Int) : nodupQ (actsOf (lapp [(n0R, 2097204, .row (zrows 300 2 (i + 1)) 22 true []), (30, 30, .row (zrowsT 0 1 n) 22 true []), (31, 31, .row (zrowsT 100 2 n) 22 true [])] (zipA (bR1 (a0 + 1) a0) kR_1_0)) [(300 + i, 2097202, rowR [.int .i64 a0, .int .i64 a0])]) = true := by kernel_rfl
theorem absR_1_0 {l : Nat → Bool} {n : Nat} {z : T Blk} (Zs : ZinR l n z) (hn : n ≤ 60) {i : Nat} (hi : i < n) (r : Nat) (a0 : Int) (a1 : Int) (hrow : rowR [.int .i64 a0, .int .i64 a0] = outR l i) {env : Env} {h : H}
    (ho : obs [6, 7, 16, 17, 71, 72, 73] (actsOf (lapp [(n0R, 2097204, .row (zrows 300 2 (i + 1)) 22 true []), (30, 30, .row (zrowsT 0 1 n) 22 true []), (31, 31, .row (zrowsT 100 2 n) 22 true [])] (zipA (bR1 (a0 + 1) a0) kR_1_0)) [(300 + i, 2097202, rowR [.int .i64 a0, .int .i64 a0])]) (lapp [(n0R, 2097204, .row (zrows 300 2 (i + 1)) 22 true []), (30, 30, .row (zrowsT 0 1 n) 22 true []), (31, 31, .row (zrowsT 100 2 n) 22 true [])] (zipA (bR1 (a0 + 1) a0) kR_1_0)) [(300 + i, 2097202, rowR [.int .i64 a0, .int .i64 a0])] env h = expsR n0R (kpOf (zoR l z i)) (eR n (ggR r [0]) (.slc n0R 0 (i + 1) (i + 1) false 1) (i + 1)) [(n0R, 2097204, .row (zrows 300 2 (i + 1)) 22 true []), (30, 30, .row (zrowsT 0 1 n) 22 true []), (31, 31, .row (zrowsT 100 2 n) 22 true [])] (zipA (bR1 (a0 + 1) a0) kR_1_0) [(300 + i, 2097202, rowR [.int .i64 a0, .int .i64 a0])] (zoR l z i) [(some (.row (lapp (ltake (ldrop (zrows 300 2 i) 0) (Nat.mul i 1)) [.slc 2097202 0 2 2 false 1]) 22 true []), true), (some (.row (zrowsT 0 1 n) 22 true []), true), (some (.row (zrowsT 100 2 n) 22 true []), true)]) :
    ∃ σ, Abs n0R σ (stR l n z (i + 1) (ggR r [0]) (bR1 (a0 + 1) a0)).env (stR l n z (i + 1) (ggR r [0]) (bR1 (a0 + 1) a0)).h env h := by
  have hlit : okLit n0R 2097152 (lapp [(n0R, 2097204, .row (zrows 300 2 (i + 1)) 22 true []), (30, 30, .row (zrowsT 0 1 n) 22 true []), (31, 31, .row (zrowsT 100 2 n) 22 true [])] (zipA (bR1 (a0 + 1) a0) kR_1_0)) = true := okLit_row rfl (belR_O (by omega)) (okLit_row rfl (belR_I hn) (okLit_row rfl (belR_W hn) (litR_1_0 a0 a1)))
  have hZ3 : ∀ p ∈ ([(300 + i, 2097202, rowR [.int .i64 a0, .int .i64 a0])] : List (Nat × Nat × Blk)), 300 ≤ p.1 := fun p hp => by rw [List.mem_singleton.1 hp]; show 300 ≤ 300 + i; omega
  have hnd : (([(300 + i, 2097202, rowR [.int .i64 a0, .int .i64 a0])] : List (Nat × Nat × Blk)).map (·.1)).Nodup := by simp
  have k1 := keepIR Zs hn (i := i) hlit hZ3
  rw [expsR_eq] at ho
  · exact NewOK.abs (t := stR l n z (i + 1) (ggR r [0]) (bR1 (a0 + 1) a0)) (A := lapp [(n0R, 2097204, .row (zrows 300 2 (i + 1)) 22 true []), (30, 30, .row (zrowsT 0 1 n) 22 true []), (31, 31, .row (zrowsT 100 2 n) 22 true [])] (zipA (bR1 (a0 + 1) a0) kR_1_0)) (Z := [(300 + i, 2097202, rowR [.int .i64 a0, .int .i64 a0])]) (z := (zoR l z i))
      ⟨by rw [lmap_app, zipA_B]; rfl, by show T.set (zoR l z i) (outR l i) (300 + i) = T.set (zoR l z i) (rowR [.int .i64 a0, .int .i64 a0]) (300 + i); rw [hrow], by show 1049321 ≤ 2097152; decide, by kernel_rfl, hlit, keysR_1_0 n i a0 a1, actsR_1_0 n i a0 a1,
        fun p hp => by
          rw [List.mem_singleton.1 hp]
          refine ⟨by show 1049321 ≤ zn (300 + i); rw [zn_eq]; omega, by show zn (300 + i) < 2097152; rw [zn_eq]; omega, by show 1049321 ≤ 2097202; decide, by show 2097202 < 1000000000000; decide, by show 2097202 % 4096 ≠ 4095; decide, ?_⟩
          exact ⟨[a0, a0], 3, true, rfl⟩,
        hnd, zoR_ok Zs (by omega)⟩ rfl rfl rfl rfl ho
  · have e1 : (lapp (ltake (ldrop (zrows 300 2 i) 0) (Nat.mul i 1)) [.slc 2097202 0 2 2 false 1]) = renL (szs n0R (namesOf (lapp [(n0R, 2097204, .row (zrows 300 2 (i + 1)) 22 true []), (30, 30, .row (zrowsT 0 1 n) 22 true []), (31, 31, .row (zrowsT 100 2 n) 22 true [])] (zipA (bR1 (a0 + 1) a0) kR_1_0)) [(300 + i, 2097202, rowR [.int .i64 a0, .int .i64 a0])]) (kpOf (zoR l z i))) (zrows 300 2 (i + 1)) := by
      refine zrows_grow (i := i) (fun j hj => ?_) (szs_row hlit (by show 1049321 ≤ zn (300 + i); rw [zn_eq]; omega) (List.mem_singleton.2 rfl) hnd)
      exact szs_zone hlit (zgrow_new hj) (fun p hp e => by rw [List.mem_singleton.1 hp] at e; have e : 300 + i = 300 + j := e; omega)
    show [(some (Blk.row _ _ _ _), true), (some (Blk.row _ _ _ _), true), (some (Blk.row _ _ _ _), true)] = [(some (Blk.row (renL _ _) _ _ _), true), (some (Blk.row (renL _ _) _ _ _), true), (some (Blk.row (renL _ _) _ _ _), true)]
    rw [← e1]
    have k1 := k1
    skip
    rw [k1.1, k1.2]; rfl
theorem litR_1_1 (a0 : Int) (a1 : Int) : okLit n0R 2097152 (zipA (bR2 (a0 + 1) 0 a0 1 1) kR_1_1) = true := by kernel_rfl
theorem keysR_1_1 (n i : Nat) (a0 : Int) (a1 : Int) : nodupQ (lmap (fun p => p.1) (lapp [(n0R, 2097283, .row (zrows 300 2 (i + 1)) 22 true []), (30, 30, .row (zrowsT 0 1 n) 22 true []), (31, 31, .row (zrowsT 100 2 n) 22 true [])] (zipA (bR2 (a0 + 1) 0 a0 1 1) kR_1_1))) = true := by kernel_rfl
theorem actsR_1_1 (n i : Nat) (a0 : Int) (a1 : Int) : nodupQ (actsOf (lapp [(n0R, 2097283, .row (zrows 300 2 (i + 1)) 22 true []), (30, 30, .row (zrowsT 0 1 n) 22 true []), (31, 31, .row (zrowsT 100 2 n) 22 true [])] (zipA (bR2 (a0 + 1) 0 a0 1 1) kR_1_1)) [(300 + i, 2097281, rowR [.int .i64 0, .int .i64 a0])]) = true := by kernel_rfl
theorem absR_1_1 {l : Nat → Bool} {n : Nat} {z : T Blk} (Zs : ZinR l n z) (hn : n ≤ 60) {i : Nat} (hi : i < n) (r : Nat) (a0 : Int) (a1 : Int) (hrow : rowR [.int .i64 0, .int .i64 a0] = outR l i) {env : Env} {h : H}
    (ho : obs [6, 7, 16, 17, 71, 72, 73] (actsOf (lapp [(n0R, 2097283, .row (zrows 300 2 (i + 1)) 22 true []), (30, 30, .row (zrowsT 0 1 n) 22 true []), (31, 31, .row (zrowsT 100 2 n) 22 true [])] (zipA (bR2 (a0 + 1) 0 a0 1 1) kR_1_1)) [(300 + i, 2097281, rowR [.int .i64 0, .int .i64 a0])]) (lapp [(n0R, 2097283, .row (zrows 300 2 (i + 1)) 22 true []), (30, 30, .row (zrowsT 0 1 n) 22 true []), (31, 31, .row (zrowsT 100 2 n) 22 true [])] (zipA (bR2 (a0 + 1) 0 a0 1 1) kR_1_1)) [(300 + i, 2097281, rowR [.int .i64 0, .int .i64 a0])] env h = expsR n0R (kpOf (zoR l z i)) (eR n (ggR r [1]) (.slc n0R 0 (i + 1) (i + 1) false 1) (i + 1)) [(n0R, 2097283, .row (zrows 300 2 (i + 1)) 22 true []), (30, 30, .row (zrowsT 0 1 n) 22 true []), (31, 31, .row (zrowsT 100 2 n) 22 true [])] (zipA (bR2 (a0 + 1) 0 a0 1 1) kR_1_1) [(300 + i, 2097281, rowR [.int .i64 0, .int .i64 a0])] (zoR l z i) [(some (.row (lapp (ltake (ldrop (zrows 300 2 i) 0) (Nat.mul i 1)) [.slc 2097281 0 2 2 false 1]) 22 true []), true), (some (.row (zrowsT 0 1 n) 22 true []), true), (some (.row (zrowsT 100 2 n) 22 true []), true)]) :
    ∃ σ, Abs n0R σ (stR l n z (i + 1) (ggR r [1]) (bR2 (a0 + 1) 0 a0 1 1)).env (stR l n z (i + 1) (ggR r [1]) (bR2 (a0 + 1) 0 a0 1 1)).h env h := by
  have hlit : okLit n0R 2097152 (lapp [(n0R, 2097283, .row (zrows 300 2 (i + 1)) 22 true []), (30, 30, .row (zrowsT 0 1 n) 22 true []), (31, 31, .row (zrowsT 100 2 n) 22 true [])] (zipA (bR2 (a0 + 1) 0 a0 1 1) kR_1_1)) = true := okLit_row rfl (belR_O (by omega)) (okLit_row rfl (belR_I hn) (okLit_row rfl (belR_W hn) (litR_1_1 a0 a1)))
  have hZ3 : ∀ p ∈ ([(300 + i, 2097281, rowR [.int .i64 0, .int .i64 a0])] : List (Nat × Nat × Blk)), 300 ≤ p.1 := fun p hp => by rw [List.mem_singleton.1 hp]; show 300 ≤ 300 + i; omega
  have hnd : (([(300 + i, 2097281, rowR [.int .i64 0, .int .i64 a0])] : List (Nat × Nat × Blk)).map (·.1)).Nodup := by simp
  have k1 := keepIR Zs hn (i := i) hlit hZ3
  rw [expsR_eq] at ho
  · exact NewOK.abs (t := stR l n z (i + 1) (ggR r [1]) (bR2 (a0 + 1) 0 a0 1 1)) (A := lapp [(n0R, 2097283, .row (zrows 300 2 (i + 1)) 22 true []), (30, 30, .row (zrowsT 0 1 n) 22 true []), (31, 31, .row (zrowsT 100 2 n) 22 true [])] (zipA (bR2 (a0 + 1) 0 a0 1 1) kR_1_1)) (Z := [(300 + i, 2097281, rowR [.int .i64 0, .int .i64 a0])]) (z := (zoR l z i))
      ⟨by rw [lmap_app, zipA_B]; rfl, by show T.set (zoR l z i) (outR l i) (300 + i) = T.set (zoR l z i) (rowR [.int .i64 0, .int .i64 a0]) (300 + i); rw [hrow], by show 1049321 ≤ 2097152; decide, by kernel_rfl, hlit, keysR_1_1 n i a0 a1, actsR_1_1 n i a0 a1,
        fun p hp => by
          rw [List.mem_singleton.1 hp]
          refine ⟨by show 1049321 ≤ zn (300 + i); rw [zn_eq]; omega, by show zn (300 + i) < 2097152; rw [zn_eq]; omega, by show 1049321 ≤ 2097281; decide, by show 2097281 < 1000000000000; decide, by show 2097281 % 4096 ≠ 4095; decide, ?_⟩
          exact ⟨[0, a0], 3, true, rfl⟩,
        hnd, zoR_ok Zs (by omega)⟩ rfl rfl rfl rfl ho
  · have e1 : (lapp (ltake (ldrop (zrows 300 2 i) 0) (Nat.mul i 1)) [.slc 2097281 0 2 2 false 1]) = renL (szs n0R (namesOf (lapp [(n0R, 2097283, .row (zrows 300 2 (i + 1)) 22 true []), (30, 30, .row (zrowsT 0 1 n) 22 true []), (31, 31, .row (zrowsT 100 2 n) 22 true [])] (zipA (bR2 (a0 + 1) 0 a0 1 1) kR_1_1)) [(300 + i, 2097281, rowR [.int .i64 0, .int .i64 a0])]) (kpOf (zoR l z i))) (zrows 300 2 (i + 1)) := by
      refine zrows_grow (i := i) (fun j hj => ?_) (szs_row hlit (by show 1049321 ≤ zn (300 + i); rw [zn_eq]; omega) (List.mem_singleton.2 rfl) hnd)
      exact szs_zone hlit (zgrow_new hj) (fun p hp e => by rw [List.mem_singleton.1 hp] at e; have e : 300 + i = 300 + j := e; omega)
    show [(some (Blk.row _ _ _ _), true), (some (Blk.row _ _ _ _), true), (some (Blk.row _ _ _ _), true)] = [(some (Blk.row (renL _ _) _ _ _), true), (some (Blk.row (renL _ _) _ _ _), true), (some (Blk.row (renL _ _) _ _ _), true)]
    rw [← e1]
    have k1 := k1
    skip
    rw [k1.1, k1.2]; rfl
theorem litR_2_0 (a0 : Int) (a1 : Int) (a2 : Int) (a3 : Int) (a4 : Int) : okLit n0R 2097152 (zipA (bR2 (a0 + 1) a4 a0 0 (a4 + 1)) kR_2_0) = true := by kernel_rfl
theorem keysR_2_0 (n i : Nat) (a0 : Int) (a1 : Int) (a2 : Int) (a3 : Int) (a4 : Int) : nodupQ (lmap (fun p => p.1) (lapp [(n0R, 2097204, .row (zrows 300 2 (i + 1)) 22 true []), (30, 30, .row (zrowsT 0 1 n) 22 true []), (31, 31, .row (zrowsT 100 2 n) 22 true [])] (zipA (bR2 (a0 + 1) a4 a0 0 (a4 + 1)) kR_2_0))) = true := by kernel_rfl
theorem actsR_2_0 (n i : Nat) (a0 : Int) (a1 : Int) (a2 : Int) (a3 : Int) (a4 : Int) : nodupQ (actsOf (lapp [(n0R, 2097204, .row (zrows 300 2 (i + 1)) 22 true []), (30, 30, .row (zrowsT 0 1 n) 22 true []), (31, 31, .row (zrowsT 100 2 n) 22 true [])] (zipA (bR2 (a0 + 1) a4 a0 0 (a4 + 1)) kR_2_0)) [(300 + i, 2097202, rowR [.int .i64 a4, .int .i64 a0])]) = true := by kernel_rfl
theorem absR_2_0 {l : Nat → Bool} {n : Nat} {z : T Blk} (Zs : ZinR l n z) (hn : n ≤ 60) {i : Nat} (hi : i < n) (r : Nat) (a0 : Int) (a1 : Int) (a2 : Int) (a3 : Int) (a4 : Int) (hrow : rowR [.int .i64 a4, .int .i64 a0] = outR l i) {env : Env} {h : H}
    (ho : obs [6, 7, 16, 17, 71, 72, 73] (actsOf (lapp [(n0R, 2097204, .row (zrows 300 2 (i + 1)) 22 true []), (30, 30, .row (zrowsT 0 1 n) 22 true []), (31, 31, .row (zrowsT 100 2 n) 22 true [])] (zipA (bR2 (a0 + 1) a4 a0 0 (a4 + 1)) kR_2_0)) [(300 + i, 2097202, rowR [.int .i64 a4, .int .i64 a0])]) (lapp [(n0R, 2097204, .row (zrows 300 2 (i + 1)) 22 true []), (30, 30, .row (zrowsT 0 1 n) 22 true []), (31, 31, .row (zrowsT 100 2 n) 22 true [])] (zipA (bR2 (a0 + 1) a4 a0 0 (a4 + 1)) kR_2_0)) [(300 + i, 2097202, rowR [.int .i64 a4, .int .i64 a0])] env h = expsR n0R (kpOf (zoR l z i)) (eR n (ggR r [0]) (.slc n0R 0 (i + 1) (i + 1) false 1) (i + 1)) [(n0R, 2097204, .row (zrows 300 2 (i + 1)) 22 true []), (30, 30, .row (zrowsT 0 1 n) 22 true []), (31, 31, .row (zrowsT 100 2 n) 22 true [])] (zipA (bR2 (a0 + 1) a4 a0 0 (a4 + 1)) kR_2_0) [(300 + i, 2097202, rowR [.int .i64 a4, .int .i64 a0])] (zoR l z i) [(some (.row (lapp (ltake (ldrop (zrows 300 2 i) 0) (Nat.mul i 1)) [.slc 2097202 0 2 2 false 1]) 22 true []), true), (some (.row (zrowsT 0 1 n) 22 true []), true), (some (.row (zrowsT 100 2 n) 22 true []), true)]) :
    ∃ σ, Abs n0R σ (stR l n z (i + 1) (ggR r [0]) (bR2 (a0 + 1) a4 a0 0 (a4 + 1))).env (stR l n z (i + 1) (ggR r [0]) (bR2 (a0 + 1) a4 a0 0 (a4 + 1))).h env h := by
  have hlit : okLit n0R 2097152 (lapp [(n0R, 2097204, .row (zrows 300 2 (i + 1)) 22 true []), (30, 30, .row (zrowsT 0 1 n) 22 true []), (31, 31, .row (zrowsT 100 2 n) 22 true [])] (zipA (bR2 (a0 + 1) a4 a0 0 (a4 + 1)) kR_2_0)) = true := okLit_row rfl (belR_O (by omega)) (okLit_row rfl (belR_I hn) (okLit_row rfl (belR_W hn) (litR_2_0 a0 a1 a2 a3 a4)))
  have hZ3 : ∀ p ∈ ([(300 + i, 2097202, rowR [.int .i64 a4, .int .i64 a0])] : List (Nat × Nat × Blk)), 300 ≤ p.1 := fun p hp => by rw [List.mem_singleton.1 hp]; show 300 ≤ 300 + i; omega
  have hnd : (([(300 + i, 2097202, rowR [.int .i64 a4, .int .i64 a0])] : List (Nat × Nat × Blk)).map (·.1)).Nodup := by simp
  have k1 := keepIR Zs hn (i := i) hlit hZ3
  rw [expsR_eq] at ho
  · exact NewOK.abs (t := stR l n z (i + 1) (ggR r [0]) (bR2 (a0 + 1) a4 a0 0 (a4 + 1))) (A := lapp [(n0R, 2097204, .row (zrows 300 2 (i + 1)) 22 true []), (30, 30, .row (zrowsT 0 1 n) 22 true []), (31, 31, .row (zrowsT 100 2 n) 22 true [])] (zipA (bR2 (a0 + 1) a4 a0 0 (a4 + 1)) kR_2_0)) (Z := [(300 + i, 2097202, rowR [.int .i64 a4, .int .i64 a0])]) (z := (zoR l z i))
      ⟨by rw [lmap_app, zipA_B]; rfl, by show T.set (zoR l z i) (outR l i) (300 + i) = T.set (zoR l z i) (rowR [.int .i64 a4, .int .i64 a0]) (300 + i); rw [hrow], by show 1049321 ≤ 2097152; decide, by kernel_rfl, hlit, keysR_2_0 n i a0 a1 a2 a3 a4, actsR_2_0 n i a0 a1 a2 a3 a4,
        fun p hp => by
          rw [List.mem_singleton.1 hp]
          refine ⟨by show 1049321 ≤ zn (300 + i); rw [zn_eq]; omega, by show zn (300 + i) < 2097152; rw [zn_eq]; omega, by show 1049321 ≤ 2097202; decide, by show 2097202 < 1000000000000; decide, by show 2097202 % 4096 ≠ 4095; decide, ?_⟩
          exact ⟨[a4, a0], 3, true, rfl⟩,
        hnd, zoR_ok Zs (by omega)⟩ rfl rfl rfl rfl ho
  · have e1 : (lapp (ltake (ldrop (zrows 300 2 i) 0) (Nat.mul i 1)) [.slc 2097202 0 2 2 false 1]) = renL (szs n0R (namesOf (lapp [(n0R, 2097204, .row (zrows 300 2 (i + 1)) 22 true []), (30, 30, .row (zrowsT 0 1 n) 22 true []), (31, 31, .row (zrowsT 100 2 n) 22 true [])] (zipA (bR2 (a0 + 1) a4 a0 0 (a4 + 1)) kR_2_0)) [(300 + i, 2097202, rowR [.int .i64 a4, .int .i64 a0])]) (kpOf (zoR l z i))) (zrows 300 2 (i + 1)) := by
      refine zrows_grow (i := i) (fun j hj => ?_) (szs_row hlit (by show 1049321 ≤ zn (300 + i); rw [zn_eq]; omega) (List.mem_singleton.2 rfl) hnd)
      exact szs_zone hlit (zgrow_new hj) (fun p hp e => by rw [List.mem_singleton.1 hp] at e; have e : 300 + i = 300 + j := e; omega)
    show [(some (Blk.row _ _ _ _), true), (some (Blk.row _ _ _ _), true), (some (Blk.row _ _ _ _), true)] = [(some (Blk.row (renL _ _) _ _ _), true), (some (Blk.row (renL _ _) _ _ _), true), (some (Blk.row (renL _ _) _ _ _), true)]
    rw [← e1]
    have k1 := k1
    skip
    rw [k1.1, k1.2]; rfl
theorem litR_2_1 (a0 : Int) (a1 : Int) (a2 : Int) (a3 : Int) (a4 : Int) : okLit n0R 2097152 (zipA (bR2 (a0 + 1) 0 a0 1 1) kR_2_1) = true := by kernel_rfl
theorem keysR_2_1 (n i : Nat) (a0 : Int) (a1 : Int) (a2 : Int) (a3 : Int) (a4 : Int) : nodupQ (lmap (fun p => p.1) (lapp [(n0R, 2097283, .row (zrows 300 2 (i + 1)) 22 true []), (30, 30, .row (zrowsT 0 1 n) 22 true []), (31, 31, .row (zrowsT 100 2 n) 22 true [])] (zipA (bR2 (a0 + 1) 0 a0 1 1) kR_2_1))) = true := by kernel_rfl
theorem actsR_2_1 (n i : Nat) (a0 : Int) (a1 : Int) (a2 : Int) (a3 : Int) (a4 : Int) : nodupQ (actsOf (lapp [(n0R, 2097283, .row (zrows 300 2 (i + 1)) 22 true []), (30, 30, .row (zrowsT 0 1 n) 22 true []), (31, 31, .row (zrowsT 100 2 n) 22 true [])] (zipA (bR2 (a0 + 1) 0 a0 1 1) kR_2_1)) [(300 + i, 2097281, rowR [.int .i64 0, .int .i64 a0])]) = true := by kernel_rfl
theorem absR_2_1 {l : Nat → Bool} {n : Nat} {z : T Blk} (Zs : ZinR l n z) (hn : n ≤ 60) {i : Nat} (hi : i < n) (r : Nat) (a0 : Int) (a1 : Int) (a2 : Int) (a3 : Int) (a4 : Int) (hrow : rowR [.int .i64 0, .int .i64 a0] = outR l i) {env : Env} {h : H}
    (ho : obs [6, 7, 16, 17, 71, 72, 73] (actsOf (lapp [(n0R, 2097283, .row (zrows 300 2 (i + 1)) 22 true []), (30, 30, .row (zrowsT 0 1 n) 22 true []), (31, 31, .row (zrowsT 100 2 n) 22 true [])] (zipA (bR2 (a0 + 1) 0 a0 1 1) kR_2_1)) [(300 + i, 2097281, rowR [.int .i64 0, .int .i64 a0])]) (lapp [(n0R, 2097283, .row (zrows 300 2 (i + 1)) 22 true []), (30, 30, .row (zrowsT 0 1 n) 22 true []), (31, 31, .row (zrowsT 100 2 n) 22 true [])] (zipA (bR2 (a0 + 1) 0 a0 1 1) kR_2_1)) [(300 + i, 2097281, rowR [.int .i64 0, .int .i64 a0])] env h = expsR n0R (kpOf (zoR l z i)) (eR n (ggR r [1]) (.slc n0R 0 (i + 1) (i + 1) false 1) (i + 1)) [(n0R, 2097283, .row (zrows 300 2 (i + 1)) 22 true []), (30, 30, .row (zrowsT 0 1 n) 22 true []), (31, 31, .row (zrowsT 100 2 n) 22 true [])] (zipA (bR2 (a0 + 1) 0 a0 1 1) kR_2_1) [(300 + i, 2097281, rowR [.int .i64 0, .int .i64 a0])] (zoR l z i) [(some (.row (lapp (ltake (ldrop (zrows 300 2 i) 0) (Nat.mul i 1)) [.slc 2097281 0 2 2 false 1]) 22 true []), true), (some (.row (zrowsT 0 1 n) 22 true []), true), (some (.row (zrowsT 100 2 n) 22 true []), true)]) :
    ∃ σ, Abs n0R σ (stR l n z (i + 1) (ggR r [1]) (bR2 (a0 + 1) 0 a0 1 1)).env (stR l n z (i + 1) (ggR r [1]) (bR2 (a0 + 1) 0 a0 1 1)).h env h := by
  have hlit : okLit n0R 2097152 (lapp [(n0R, 2097283, .row (zrows 300 2 (i + 1)) 22 true []), (30, 30, .row (zrowsT 0 1 n) 22 true []), (31, 31, .row (zrowsT 100 2 n) 22 true [])] (zipA (bR2 (a0 + 1) 0 a0 1 1) kR_2_1)) = true := okLit_row rfl (belR_O (by omega)) (okLit_row rfl (belR_I hn) (okLit_row rfl (belR_W hn) (litR_2_1 a0 a1 a2 a3 a4)))
  have hZ3 : ∀ p ∈ ([(300 + i, 2097281, rowR [.int .i64 0, .int .i64 a0])] : List (Nat × Nat × Blk)), 300 ≤ p.1 := fun p hp => by rw [List.mem_singleton.1 hp]; show 300 ≤ 300 + i; omega
  have hnd : (([(300 + i, 2097281, rowR [.int .i64 0, .int .i64 a0])] : List (Nat × Nat × Blk)).map (·.1)).Nodup := by simp
  have k1 := keepIR Zs hn (i := i) hlit hZ3
  rw [expsR_eq] at ho
  · exact NewOK.abs (t := stR l n z (i + 1) (ggR r [1]) (bR2 (a0 + 1) 0 a0 1 1)) (A := lapp [(n0R, 2097283, .row (zrows 300 2 (i + 1)) 22 true []), (30, 30, .row (zrowsT 0 1 n) 22 true []), (31, 31, .row (zrowsT 100 2 n) 22 true [])] (zipA (bR2 (a0 + 1) 0 a0 1 1) kR_2_1)) (Z := [(300 + i, 2097281, rowR [.int .i64 0, .int .i64 a0])]) (z := (zoR l z i))
      ⟨by rw [lmap_app, zipA_B]; rfl, by show T.set (zoR l z i) (outR l i) (300 + i) = T.set (zoR l z i) (rowR [.int .i64 0, .int .i64 a0]) (300 + i); rw [hrow], by show 1049321 ≤ 2097152; decide, by kernel_rfl, hlit, keysR_2_1 n i a0 a1 a2 a3 a4, actsR_2_1 n i a0 a1 a2 a3 a4,
        fun p hp => by
          rw [List.mem_singleton.1 hp]
          refine ⟨by show 1049321 ≤ zn (300 + i); rw [zn_eq]; omega, by show zn (300 + i) < 2097152; rw [zn_eq]; omega, by show 1049321 ≤ 2097281; decide, by show 2097281 < 1000000000000; decide, by show 2097281 % 4096 ≠ 4095; decide, ?_⟩
          exact ⟨[0, a0], 3, true, rfl⟩,
        hnd, zoR_ok Zs (by omega)⟩ rfl rfl rfl rfl ho
  · have e1 : (lapp (ltake (ldrop (zrows 300 2 i) 0) (Nat.mul i 1)) [.slc 2097281 0 2 2 false 1]) = renL (szs n0R (namesOf (lapp [(n0R, 2097283, .row (zrows 300 2 (i + 1)) 22 true []), (30, 30, .row (zrowsT 0 1 n) 22 true []), (31, 31, .row (zrowsT 100 2 n) 22 true [])] (zipA (bR2 (a0 + 1) 0 a0 1 1) kR_2_1)) [(300 + i, 2097281, rowR [.int .i64 0, .int .i64 a0])]) (kpOf (zoR l z i))) (zrows 300 2 (i + 1)) := by
      refine zrows_grow (i := i) (fun j hj => ?_) (szs_row hlit (by show 1049321 ≤ zn (300 + i); rw [zn_eq]; omega) (List.mem_singleton.2 rfl) hnd)
      exact szs_zone hlit (zgrow_new hj) (fun p hp e => by rw [List.mem_singleton.1 hp] at e; have e : 300 + i = 300 + j := e; omega)
    show [(some (Blk.row _ _ _ _), true), (some (Blk.row _ _ _ _), true), (some (Blk.row _ _ _ _), true)] = [(some (Blk.row (renL _ _) _ _ _), true), (some (Blk.row (renL _ _) _ _ _), true), (some (Blk.row (renL _ _) _ _ _), true)]
    rw [← e1]
    have k1 := k1
    skip
    rw [k1.1, k1.2]; rfl
theorem litR_0_1 : okLit n0R 2097152 (zipA (bR2 1 0 0 1 1) kR_0_1) = true := by kernel_rfl
theorem keysR_0_1 (n : Nat) : nodupQ (lmap (fun p => p.1) (lapp [(n0R, 1049452, .row (zrows 300 2 1) 22 true []), (30, 30, .row (zrowsT 0 1 n) 22 true []), (31, 31, .row (zrowsT 100 2 n) 22 true [])] (zipA (bR2 1 0 0 1 1) kR_0_1))) = true := by kernel_rfl
theorem actsR_0_1 (n : Nat) : nodupQ (actsOf (lapp [(n0R, 1049452, .row (zrows 300 2 1) 22 true []), (30, 30, .row (zrowsT 0 1 n) 22 true []), (31, 31, .row (zrowsT 100 2 n) 22 true [])] (zipA (bR2 1 0 0 1 1) kR_0_1)) [(300, 1049450, rowR [.int .i64 0, .int .i64 0])]) = true := by kernel_rfl
theorem absR_0_1 {l : Nat → Bool} {n : Nat} {z : T Blk} (Zs : ZinR l n z) (hn : n ≤ 60) (hi : 0 < n) (r : Nat) (hrow : rowR [.int .i64 0, .int .i64 0] = outR l 0) {env : Env} {h : H}
    (ho : obs [6, 7, 16, 17, 71, 72, 73] (actsOf (lapp [(n0R, 1049452, .row (zrows 300 2 1) 22 true []), (30, 30, .row (zrowsT 0 1 n) 22 true []), (31, 31, .row (zrowsT 100 2 n) 22 true [])] (zipA (bR2 1 0 0 1 1) kR_0_1)) [(300, 1049450, rowR [.int .i64 0, .int .i64 0])]) (lapp [(n0R, 1049452, .row (zrows 300 2 1) 22 true []), (30, 30, .row (zrowsT 0 1 n) 22 true []), (31, 31, .row (zrowsT 100 2 n) 22 true [])] (zipA (bR2 1 0 0 1 1) kR_0_1)) [(300, 1049450, rowR [.int .i64 0, .int .i64 0])] env h = expsR n0R (kpOf z) (eR n (ggR r [1]) (.slc n0R 0 1 1 false 1) 1) [(n0R, 1049452, .row (zrows 300 2 1) 22 true []), (30, 30, .row (zrowsT 0 1 n) 22 true []), (31, 31, .row (zrowsT 100 2 n) 22 true [])] (zipA (bR2 1 0 0 1 1) kR_0_1) [(300, 1049450, rowR [.int .i64 0, .int .i64 0])] z [(some (.row [.slc 1049450 0 2 2 false 1] 22 true []), true), (some (.row (zrowsT 0 1 n) 22 true []), true), (some (.row (zrowsT 100 2 n) 22 true []), true)]) :
    ∃ σ, Abs n0R σ (stR l n z 1 (ggR r [1]) (bR2 1 0 0 1 1)).env (stR l n z 1 (ggR r [1]) (bR2 1 0 0 1 1)).h env h := by
  have hlit : okLit n0R 2097152 (lapp [(n0R, 1049452, .row (zrows 300 2 1) 22 true []), (30, 30, .row (zrowsT 0 1 n) 22 true []), (31, 31, .row (zrowsT 100 2 n) 22 true [])] (zipA (bR2 1 0 0 1 1) kR_0_1)) = true := okLit_row rfl (belR_O (by omega)) (okLit_row rfl (belR_I hn) (okLit_row rfl (belR_W hn) (litR_0_1)))
  have hZ3 : ∀ p ∈ ([(300, 1049450, rowR [.int .i64 0, .int .i64 0])] : List (Nat × Nat × Blk)), 300 ≤ p.1 := fun p hp => by rw [List.mem_singleton.1 hp]; show 300 ≤ 300; omega
  have hnd : (([(300, 1049450, rowR [.int .i64 0, .int .i64 0])] : List (Nat × Nat × Blk)).map (·.1)).Nodup := by simp
  have k1 := keepIR Zs hn (i := 0) hlit hZ3
  rw [expsR_eq] at ho
  · exact NewOK.abs (t := stR l n z 1 (ggR r [1]) (bR2 1 0 0 1 1)) (A := lapp [(n0R, 1049452, .row (zrows 300 2 1) 22 true []), (30, 30, .row (zrowsT 0 1 n) 22 true []), (31, 31, .row (zrowsT 100 2 n) 22 true [])] (zipA (bR2 1 0 0 1 1) kR_0_1)) (Z := [(300, 1049450, rowR [.int .i64 0, .int .i64 0])]) (z := z)
      ⟨by rw [lmap_app, zipA_B]; rfl, by show T.set z (outR l 0) (300 + 0) = T.set z (rowR [.int .i64 0, .int .i64 0]) 300; rw [hrow], by show 1049321 ≤ 2097152; decide, by kernel_rfl, hlit, keysR_0_1 n, actsR_0_1 n,
        fun p hp => by
          rw [List.mem_singleton.1 hp]
          refine ⟨by show 1049321 ≤ zn 300; rw [zn_eq]; omega, by show zn 300 < 2097152; rw [zn_eq]; omega, by show 1049321 ≤ 1049450; decide, by show 1049450 < 1000000000000; decide, by show 1049450 % 4096 ≠ 4095; decide, ?_⟩
          exact ⟨[0, 0], 3, true, rfl⟩,
        hnd, by have := zoR_ok Zs (i := 0) (by omega); exact this⟩ rfl rfl rfl rfl ho
  · have e1 : [.slc 1049450 0 2 2 false 1] = renL (szs n0R (namesOf (lapp [(n0R, 1049452, .row (zrows 300 2 1) 22 true []), (30, 30, .row (zrowsT 0 1 n) 22 true []), (31, 31, .row (zrowsT 100 2 n) 22 true [])] (zipA (bR2 1 0 0 1 1) kR_0_1)) [(300, 1049450, rowR [.int .i64 0, .int .i64 0])]) (kpOf z)) (zrows 300 2 1) := by
      refine zrows_grow (i := 0) (fun j hj => ?_) (szs_row hlit (by show 1049321 ≤ zn (300 + 0); rw [zn_eq]; omega) (List.mem_singleton.2 rfl) hnd)
      omega
    show [(some (Blk.row _ _ _ _), true), (some (Blk.row _ _ _ _), true), (some (Blk.row _ _ _ _), true)] = [(some (Blk.row (renL _ _) _ _ _), true), (some (Blk.row (renL _ _) _ _ _), true), (some (Blk.row (renL _ _) _ _ _), true)]
    rw [← e1]
    have k1 := k1
    change renL (szs n0R (namesOf _ _) (kpOf z)) _ = _ ∧ renL (szs n0R (namesOf _ _) (kpOf z)) _ = _ at k1
    rw [k1.1, k1.2]; rfl
theorem useR_0_0 {l : Nat → Bool} {n : Nat} {z : T Blk} (Zs : ZinR l n z) (hn : n ≤ 60) (hi : 0 < n) (hrow : rowR [.int .i64 0, .int .i64 0] = outR l 0)
    (hcI : cellIs ⟨mkB z (lapp (rr0R (zrowsT 0 1 n) (zrowsT 100 2 n)) bR0), n0R⟩ 30 0 (.row (zn 0) 1 (fun k => Option.rec 0 (fun x => x) (lget [0] k)))) (hcR : cellsAre ⟨mkB z (lapp (rr0R (zrowsT 0 1 n) (zrowsT 100 2 n)) bR0), n0R⟩ (zn 0) (fun k => .sc (Option.rec 0 (fun x => x) (lget ([0] : List Int) k))) 1 0)
    {K : KE} (hK : ∀ env h ds σ, Abs n0R σ (stR l n z 1 (ggR (zn 0) [0]) (bR1 1 0)).env (stR l n z 1 (ggR (zn 0) [0]) (bR1 1 0)).h env h → K .nrm env h ds) :
    xcode C1 Tryz.prog F 14 (loopC Tryz.prog 14 22) (mask 14) (tmpsN Tryz.prog 14) (mkE (eR n (ggR (zn 0) [0]) .nils 0)) ⟨mkB z (lapp (rr0R (zrowsT 0 1 n) (zrowsT 100 2 n)) bR0), n0R⟩ dR_0_0 K :=
  round_use2 good1.spl (fun Kv => tR_0_0 z (zrowsT 0 1 n) (zrowsT 100 2 n) n (zn 0) Kv)
    (bcase_tt (dcq_lt (by simp only [Int.ofNat_eq_natCast]; omega)) (bcase_tt (inB_of hi) ⟨hcI, hcR, (fun env h ds ho => (absR_0_0 Zs hn hi (zn 0) hrow ho).elim fun σ ab => hK env h ds σ ab)⟩))
theorem useR_1_0 {l : Nat → Bool} {n : Nat} {z : T Blk} (Zs : ZinR l n z) (hn : n ≤ 60) {i : Nat} (hi : i < n) (a0 : Int) (a1 : Int) (ha0 : 0 ≤ a0) (ha0' : a0 ≤ 100) (hrow : rowR [.int .i64 a0, .int .i64 a0] = outR l i)
    (hcI : cellIs ⟨mkB (zoR l z i) (lapp (rrR (zrows 300 2 i) (zrowsT 0 1 n) (zrowsT 100 2 n)) (bR1 a0 a1)), 2097152⟩ 30 (Nat.add 0 (Nat.mul (Int.toNat (Int.ofNat i)) 1)) (.row (zn i) 1 (fun k => Option.rec 0 (fun x => x) (lget [0] k)))) (hcR : cellsAre ⟨mkB (zoR l z i) (lapp (rrR (zrows 300 2 i) (zrowsT 0 1 n) (zrowsT 100 2 n)) (bR1 a0 a1)), 2097152⟩ (zn i) (fun k => .sc (Option.rec 0 (fun x => x) (lget ([0] : List Int) k))) 1 0)
    {K : KE} (hK : ∀ env h ds σ, Abs n0R σ (stR l n z (i + 1) (ggR (zn i) [0]) (bR1 (a0 + 1) a0)).env (stR l n z (i + 1) (ggR (zn i) [0]) (bR1 (a0 + 1) a0)).h env h → K .nrm env h ds) :
    xcode C1 Tryz.prog F 14 (loopC Tryz.prog 14 22) (mask 14) (tmpsN Tryz.prog 14) (mkE (eR n (ggR (zn i) [0]) (.slc n0R 0 i i false 1) i)) ⟨mkB (zoR l z i) (lapp (rrR (zrows 300 2 i) (zrowsT 0 1 n) (zrowsT 100 2 n)) (bR1 a0 a1)), 2097152⟩ dR_1_0 K :=
  round_use2 good1.spl (fun Kv => tR_1_0 (zoR l z i) (zrowsT 0 1 n) (zrowsT 100 2 n) n i (zn i) a0 a1 Kv)
    (bcase_tt (dcq_lt (by simp only [Int.ofNat_eq_natCast]; omega)) (bcase_tt (inB_of hi) ⟨hcI, hcR, (bcase_tt (inR_i64 (by omega) (by omega)) (bcase_tt (dcq_ne (by omega)) (bcase_tt (dcq_ne (by omega)) (bcase_tt (dcq_eq (by omega)) (bcase_tt (inR_i64 (by omega) (by omega)) (bcase_tt (dcq_ne (by omega)) (bcase_tt (dcq_ne (by omega)) (bcase_tt (dcq_eq (by omega)) (bcase_tt (inR_u8 (by omega) (by omega)) (bcase_tt (inR_i64 (by omega) (by omega)) (bcase_tt (dcq_eq (by omega)) (bcase_tt (inR_i64 (by omega) (by omega)) (bcase_tt (inR_u8 (by omega) (by omega)) (bcase_tt (inR_i64 (by omega) (by omega)) (bcase_tt (dcq_ne (by omega)) (bcase_tt (dcq_ne (by omega)) (bcase_tt (inR_i64 (by omega) (by omega)) (bcase_tt (dcq_ne (by omega)) (bcase_tt (dcq_ne (by omega)) (bcase_tt (dcq_eq (by omega)) (bcase_tt (inR_u8 (by omega) (by omega)) (bcase_tt (inR_i64 (by omega) (by omega)) (bcase_tt (dcq_eq (by omega)) (bcase_tt (inR_i64 (by omega) (by omega)) (bcase_tt (inR_u8 (by omega) (by omega)) (bcase_tt (inR_i64 (by omega) (by omega)) (bcase_tt (dcq_cap i) (bcase_tt (appC_ok (by rw [zrows_len]) (by omega)) (bcase_any (bcase_tt (inR_add (by omega)) (fun env h ds ho => (absR_1_0 Zs hn hi (zn i) a0 a1 hrow ho).elim fun σ ab => hK env h ds σ ab)) (bcase_tt (inR_add (by omega)) (fun env h ds ho => (absR_1_0 Zs hn hi (zn i) a0 a1 hrow ho).elim fun σ ab => hK env h ds σ ab)))))))))))))))))))))))))))))))⟩))
theorem useR_1_1 {l : Nat → Bool} {n : Nat} {z : T Blk} (Zs : ZinR l n z) (hn : n ≤ 60) {i : Nat} (hi : i < n) (a0 : Int) (a1 : Int) (ha0 : 0 ≤ a0) (ha0' : a0 ≤ 100) (hrow : rowR [.int .i64 0, .int .i64 a0] = outR l i)
    (hcI : cellIs ⟨mkB (zoR l z i) (lapp (rrR (zrows 300 2 i) (zrowsT 0 1 n) (zrowsT 100 2 n)) (bR1 a0 a1)), 2097152⟩ 30 (Nat.add 0 (Nat.mul (Int.toNat (Int.ofNat i)) 1)) (.row (zn i) 1 (fun k => Option.rec 0 (fun x => x) (lget [1] k)))) (hcR : cellsAre ⟨mkB (zoR l z i) (lapp (rrR (zrows 300 2 i) (zrowsT 0 1 n) (zrowsT 100 2 n)) (bR1 a0 a1)), 2097152⟩ (zn i) (fun k => .sc (Option.rec 0 (fun x => x) (lget ([1] : List Int) k))) 1 0)
    {K : KE} (hK : ∀ env h ds σ, Abs n0R σ (stR l n z (i + 1) (ggR (zn i) [1]) (bR2 (a0 + 1) 0 a0 1 1)).env (stR l n z (i + 1) (ggR (zn i) [1]) (bR2 (a0 + 1) 0 a0 1 1)).h env h → K .nrm env h ds) :
    xcode C1 Tryz.prog F 14 (loopC Tryz.prog 14 22) (mask 14) (tmpsN Tryz.prog 14) (mkE (eR n (ggR (zn i) [1]) (.slc n0R 0 i i false 1) i)) ⟨mkB (zoR l z i) (lapp (rrR (zrows 300 2 i) (zrowsT 0 1 n) (zrowsT 100 2 n)) (bR1 a0 a1)), 2097152⟩ dR_1_1 K :=
  round_use2 good1.spl (fun Kv => tR_1_1 (zoR l z i) (zrowsT 0 1 n) (zrowsT 100 2 n) n i (zn i) a0 a1 Kv)
    (bcase_tt (dcq_lt (by simp only [Int.ofNat_eq_natCast]; omega)) (bcase_tt (inB_of hi) ⟨hcI, hcR, (bcase_tt (inR_i64 (by omega) (by omega)) (bcase_tt (dcq_ne (by omega)) (bcase_tt (dcq_ne (by omega)) (bcase_tt (dcq_eq (by omega)) (bcase_tt (dcq_ne (by omega)) (bcase_tt (dcq_ne (by omega)) (bcase_tt (inR_i64 (by omega) (by omega)) (bcase_tt (dcq_ne (by omega)) (bcase_tt (dcq_ne (by omega)) (bcase_tt (dcq_eq (by omega)) (bcase_tt (inR_u8 (by omega) (by omega)) (bcase_tt (inR_i64 (by omega) (by omega)) (bcase_tt (dcq_eq (by omega)) (bcase_tt (inR_i64 (by omega) (by omega)) (bcase_tt (inR_u8 (by omega) (by omega)) (bcase_tt (inR_i64 (by omega) (by omega)) (bcase_tt (dcq_cap i) (bcase_tt (appC_ok (by rw [zrows_len]) (by omega)) (bcase_any (bcase_tt (inR_add (by omega)) (fun env h ds ho => (absR_1_1 Zs hn hi (zn i) a0 a1 hrow ho).elim fun σ ab => hK env h ds σ ab)) (bcase_tt (inR_add (by omega)) (fun env h ds ho => (absR_1_1 Zs hn hi (zn i) a0 a1 hrow ho).elim fun σ ab => hK env h ds σ ab)))))))))))))))))))))⟩))
theorem useR_2_0 {l : Nat → Bool} {n : Nat} {z : T Blk} (Zs : ZinR l n z) (hn : n ≤ 60) {i : Nat} (hi : i < n) (a0 : Int) (a1 : Int) (a2 : Int) (a3 : Int) (a4 : Int) (ha0 : 0 ≤ a0) (ha0' : a0 ≤ 100) (ha4 : 0 ≤ a4) (ha4' : a4 ≤ 100) (hrow : rowR [.int .i64 a4, .int .i64 a0] = outR l i)
    (hcI : cellIs ⟨mkB (zoR l z i) (lapp (rrR (zrows 300 2 i) (zrowsT 0 1 n) (zrowsT 100 2 n)) (bR2 a0 a1 a2 a3 a4)), 2097152⟩ 30 (Nat.add 0 (Nat.mul (Int.toNat (Int.ofNat i)) 1)) (.row (zn i) 1 (fun k => Option.rec 0 (fun x => x) (lget [0] k)))) (hcR : cellsAre ⟨mkB (zoR l z i) (lapp (rrR (zrows 300 2 i) (zrowsT 0 1 n) (zrowsT 100 2 n)) (bR2 a0 a1 a2 a3 a4)), 2097152⟩ (zn i) (fun k => .sc (Option.rec 0 (fun x => x) (lget ([0] : List Int) k))) 1 0)
    {K : KE} (hK : ∀ env h ds σ, Abs n0R σ (stR l n z (i + 1) (ggR (zn i) [0]) (bR2 (a0 + 1) a4 a0 0 (a4 + 1))).env (stR l n z (i + 1) (ggR (zn i) [0]) (bR2 (a0 + 1) a4 a0 0 (a4 + 1))).h env h → K .nrm env h ds) :
    xcode C1 Tryz.prog F 14 (loopC Tryz.prog 14 22) (mask 14) (tmpsN Tryz.prog 14) (mkE (eR n (ggR (zn i) [0]) (.slc n0R 0 i i false 1) i)) ⟨mkB (zoR l z i) (lapp (rrR (zrows 300 2 i) (zrowsT 0 1 n) (zrowsT 100 2 n)) (bR2 a0 a1 a2 a3 a4)), 2097152⟩ dR_2_0 K :=
  round_use2 good1.spl (fun Kv => tR_2_0 (zoR l z i) (zrowsT 0 1 n) (zrowsT 100 2 n) n i (zn i) a0 a1 a2 a3 a4 Kv)
    (bcase_tt (dcq_lt (by simp only [Int.ofNat_eq_natCast]; omega)) (bcase_tt (inB_of hi) ⟨hcI, hcR, (bcase_tt (inR_i64 (by omega) (by omega)) (bcase_tt (dcq_ne (by omega)) (bcase_tt (dcq_ne (by omega)) (bcase_tt (dcq_eq (by omega)) (bcase_tt (inR_i64 (by omega) (by omega)) (bcase_tt (dcq_ne (by omega)) (bcase_tt (dcq_ne (by omega)) (bcase_tt (dcq_eq (by omega)) (bcase_tt (inR_u8 (by omega) (by omega)) (bcase_tt (inR_i64 (by omega) (by omega)) (bcase_tt (dcq_eq (by omega)) (bcase_tt (inR_i64 (by omega) (by omega)) (bcase_tt (inR_u8 (by omega) (by omega)) (bcase_tt (inR_i64 (by omega) (by omega)) (bcase_tt (dcq_ne (by omega)) (bcase_tt (dcq_ne (by omega)) (bcase_tt (inR_i64 (by omega) (by omega)) (bcase_tt (dcq_ne (by omega)) (bcase_tt (dcq_ne (by omega)) (bcase_tt (dcq_eq (by omega)) (bcase_tt (inR_u8 (by omega) (by omega)) (bcase_tt (inR_i64 (by omega) (by omega)) (bcase_tt (dcq_eq (by omega)) (bcase_tt (inR_i64 (by omega) (by omega)) (bcase_tt (inR_u8 (by omega) (by omega)) (bcase_tt (inR_i64 (by omega) (by omega)) (bcase_tt (dcq_cap i) (bcase_tt (appC_ok (by rw [zrows_len]) (by omega)) (bcase_any (bcase_tt (inR_add (by omega)) (fun env h ds ho => (absR_2_0 Zs hn hi (zn i) a0 a1 a2 a3 a4 hrow ho).elim fun σ ab => hK env h ds σ ab)) (bcase_tt (inR_add (by omega)) (fun env h ds ho => (absR_2_0 Zs hn hi (zn i) a0 a1 a2 a3 a4 hrow ho).elim fun σ ab => hK env h ds σ ab)))))))))))))))))))))))))))))))⟩))
theorem useR_2_1 {l : Nat → Bool} {n : Nat} {z : T Blk} (Zs : ZinR l n z) (hn : n ≤ 60) {i : Nat} (hi : i < n) (a0 : Int) (a1 : Int) (a2 : Int) (a3 : Int) (a4 : Int) (ha0 : 0 ≤ a0) (ha0' : a0 ≤ 100) (hrow : rowR [.int .i64 0, .int .i64 a0] = outR l i)
    (hcI : cellIs ⟨mkB (zoR l z i) (lapp (rrR (zrows 300 2 i) (zrowsT 0 1 n) (zrowsT 100 2 n)) (bR2 a0 a1 a2 a3 a4)), 2097152⟩ 30 (Nat.add 0 (Nat.mul (Int.toNat (Int.ofNat i)) 1)) (.row (zn i) 1 (fun k => Option.rec 0 (fun x => x) (lget [1] k)))) (hcR : cellsAre ⟨mkB (zoR l z i) (lapp (rrR (zrows 300 2 i) (zrowsT 0 1 n) (zrowsT 100 2 n)) (bR2 a0 a1 a2 a3 a4)), 2097152⟩ (zn i) (fun k => .sc (Option.rec 0 (fun x => x) (lget ([1] : List Int) k))) 1 0)
    {K : KE} (hK : ∀ env h ds σ, Abs n0R σ (stR l n z (i + 1) (ggR (zn i) [1]) (bR2 (a0 + 1) 0 a0 1 1)).env (stR l n z (i + 1) (ggR (zn i) [1]) (bR2 (a0 + 1) 0 a0 1 1)).h env h → K .nrm env h ds) :
    xcode C1 Tryz.prog F 14 (loopC Tryz.prog 14 22) (mask 14) (tmpsN Tryz.prog 14) (mkE (eR n (ggR (zn i) [1]) (.slc n0R 0 i i false 1) i)) ⟨mkB (zoR l z i) (lapp (rrR (zrows 300 2 i) (zrowsT 0 1 n) (zrowsT 100 2 n)) (bR2 a0 a1 a2 a3 a4)), 2097152⟩ dR_2_1 K :=
  round_use2 good1.spl (fun Kv => tR_2_1 (zoR l z i) (zrowsT 0 1 n) (zrowsT 100 2 n) n i (zn i) a0 a1 a2 a3 a4 Kv)
    (bcase_tt (dcq_lt (by simp only [Int.ofNat_eq_natCast]; omega)) (bcase_tt (inB_of hi) ⟨hcI, hcR, (bcase_tt (inR_i64 (by omega) (by omega)) (bcase_tt (dcq_ne (by omega)) (bcase_tt (dcq_ne (by omega)) (bcase_tt (dcq_eq (by omega)) (bcase_tt (dcq_ne (by omega)) (bcase_tt (dcq_ne (by omega)) (bcase_tt (inR_i64 (by omega) (by omega)) (bcase_tt (dcq_ne (by omega)) (bcase_tt (dcq_ne (by omega)) (bcase_tt (dcq_eq (by omega)) (bcase_tt (inR_u8 (by omega) (by omega)) (bcase_tt (inR_i64 (by omega) (by omega)) (bcase_tt (dcq_eq (by omega)) (bcase_tt (inR_i64 (by omega) (by omega)) (bcase_tt (inR_u8 (by omega) (by omega)) (bcase_tt (inR_i64 (by omega) (by omega)) (bcase_tt (dcq_cap i) (bcase_tt (appC_ok (by rw [zrows_len]) (by omega)) (bcase_any (bcase_tt (inR_add (by omega)) (fun env h ds ho => (absR_2_1 Zs hn hi (zn i) a0 a1 a2 a3 a4 hrow ho).elim fun σ ab => hK env h ds σ ab)) (bcase_tt (inR_add (by omega)) (fun env h ds ho => (absR_2_1 Zs hn hi (zn i) a0 a1 a2 a3 a4 hrow ho).elim fun σ ab => hK env h ds σ ab)))))))))))))))))))))⟩))
theorem useR_0_1 {l : Nat → Bool} {n : Nat} {z : T Blk} (Zs : ZinR l n z) (hn : n ≤ 60) (hi : 0 < n) (hrow : rowR [.int .i64 0, .int .i64 0] = outR l 0)
    (hcI : cellIs ⟨mkB z (lapp (rr0R (zrowsT 0 1 n) (zrowsT 100 2 n)) bR0), n0R⟩ 30 0 (.row (zn 0) 1 (fun k => Option.rec 0 (fun x => x) (lget [1] k)))) (hcR : cellsAre ⟨mkB z (lapp (rr0R (zrowsT 0 1 n) (zrowsT 100 2 n)) bR0), n0R⟩ (zn 0) (fun k => .sc (Option.rec 0 (fun x => x) (lget ([1] : List Int) k))) 1 0)
    {K : KE} (hK : ∀ env h ds σ, Abs n0R σ (stR l n z 1 (ggR (zn 0) [1]) (bR2 1 0 0 1 1)).env (stR l n z 1 (ggR (zn 0) [1]) (bR2 1 0 0 1 1)).h env h → K .nrm env h ds) :
    xcode C1 Tryz.prog F 14 (loopC Tryz.prog 14 22) (mask 14) (tmpsN Tryz.prog 14) (mkE (eR n (ggR (zn 0) [1]) .nils 0)) ⟨mkB z (lapp (rr0R (zrowsT 0 1 n) (zrowsT 100 2 n)) bR0), n0R⟩ dR_0_1 K :=
  round_use2 good1.spl (fun Kv => tR_0_1 z (zrowsT 0 1 n) (zrowsT 100 2 n) n (zn 0) Kv)
    (bcase_tt (dcq_lt (by simp only [Int.ofNat_eq_natCast]; omega)) (bcase_tt (inB_of hi) ⟨hcI, hcR, (fun env h ds ho => (absR_0_1 Zs hn hi (zn 0) hrow ho).elim fun σ ab => hK env h ds σ ab)⟩))
end
end Go.Proofs.YtkfhjobebhdpoaaGreat
/- Stream: Run's loop over ticks, as a contract (the program of StreamResets). -/
set_option autoImplicit false
set_option maxRecDepth 1000000
set_option maxHeartbeats 2000000
set_option linter.unusedVariables false
namespace Go.Proofs.YtkfhjobebhdpoaaGreat
noncomputable section
open Go.X
inductive SR where
  | s0 (g : Nat → CV)
  | s1 (i : Nat) (a0 a1 : Int) (g : Nat → CV)
  | s2 (i : Nat) (a0 a1 a2 a3 a4 : Int) (g : Nat → CV)
def SR.ok (l : Nat → Bool) (n : Nat) : SR → Prop
  | .s0 _ => True
  | .s1 i a0 _ _ => 1 ≤ i ∧ i ≤ n ∧ a0 = (i : Int) ∧ cntR l i = (i : Int)
  | .s2 i a0 _ _ _ a4 _ => 1 ≤ i ∧ i ≤ n ∧ a0 = (i : Int) ∧ a4 = cntR l i
def SR.st (l : Nat → Bool) (n : Nat) (z : T Blk) : SR → ZS
  | .s0 g => ⟨eR n g .nils 0, lapp (rr0R (zrowsT 0 1 n) (zrowsT 100 2 n)) bR0, z, n0R⟩
  | .s1 i a0 a1 g => stR l n z i g (bR1 a0 a1)
  | .s2 i a0 a1 a2 a3 a4 g => stR l n z i g (bR2 a0 a1 a2 a3 a4)
def SR.er (l : Nat → Bool) (n : Nat) : SR → List (Nat × AV)
  | .s0 _ => eR n (ggR (zn 0) [bi (l 0)]) .nils 0
  | .s1 i _ _ _ => eR n (ggR (zn i) [bi (l i)]) (.slc n0R 0 i i false 1) i
  | .s2 i _ _ _ _ _ _ => eR n (ggR (zn i) [bi (l i)]) (.slc n0R 0 i i false 1) i
def SR.dr (l : Nat → Bool) (n : Nat) : SR → List Bool
  | .s0 _ => cond (l 0) dR_0_1 dR_0_0
  | .s1 i _ _ _ => cond (Nat.ble (i + 1) n) (cond (l i) dR_1_1 dR_1_0) [false]
  | .s2 i _ _ _ _ _ _ => cond (Nat.ble (i + 1) n) (cond (l i) dR_2_1 dR_2_0) [false]
def SR.mu (n : Nat) : SR → Nat
  | .s0 _ => n + 1
  | .s1 i _ _ _ => n - i
  | .s2 i _ _ _ _ _ _ => n - i
theorem pe_eR (n : Nat) (g g' : Nat → CV) (out : AV) (i : Nat) : Pe (eR n g out i) (eR n g' out i) :=
  .cons _ _ _ _ _ (.inl rfl) (.cons _ _ _ _ _ (.inl rfl) (.cons _ _ _ _ _ (.inl rfl) (.cons _ _ _ _ _ (.inl rfl) (.cons _ _ _ _ _ (.inr ⟨_, _, _, _, _, rfl, rfl⟩) (.cons _ _ _ _ _ (.inl rfl) (.cons _ _ _ _ _ (.inl rfl) .nil))))))
/-- what is told ahead holds -/
theorem cellI {b : T Blk} {N n i : Nat} (hi : i < n) {e : TypeId} (h : b.get 30 = some (.row (zrowsT 0 1 n) e true [])) (c : Nat → Int) : cellIs ⟨b, N⟩ 30 (Nat.add 0 (Nat.mul (Int.toNat (Int.ofNat i)) 1)) (.row (zn i) 1 c) := by
  rw [ix_eq]
  refine ⟨1, true, Nat.le_refl _, ?_⟩
  unfold cellOf
  show (match T.get b 30 with | some (.row cells _ _ _) => lget cells i | _ => none) = _
  rw [h]
  show lget (zrowsT 0 1 n) i = _
  rw [lget_eq]
  unfold zrowsT
  rw [List.getElem?_map, List.getElem?_range hi]
  simp
theorem cellR {b z : T Blk} {N j : Nat} {v : Int} (hz : zget b 12 = z) {e : TypeId} (h : z.get j = some (.row [.int .i64 v] e true [])) (c : Nat → CV) (hc : c 0 = .sc v) : cellsAre ⟨b, N⟩ (zn j) c 1 0 := by
  refine ⟨?_, trivial⟩
  rw [hc]
  show cellOf ⟨b, N⟩ (zn j) 0 = _
  unfold cellOf
  show (match T.get b (zname 12 j) with | some (.row cells _ _ _) => lget cells 0 | _ => none) = _
  rw [zget_get, hz, h]; rfl
theorem zrows_keep {ρ : Nat → Nat} {x m n : Nat} (h : ∀ j, j < n → ρ (zn (x + j)) = zn (x + j)) : renL ρ (zrows x m n) = zrows x m n := by
  unfold zrows
  rw [renL_slc]
  exact List.map_congr_left fun j hj => by rw [h j (List.mem_range.1 hj)]
theorem done_R1 {l : Nat → Bool} {n : Nat} {z : T Blk} (Zs : ZinR l n z) (hn : n ≤ 60) (R : List (Nat × Nat × Blk)) (hR : R = [(n0R, n0R, .row (zrows 300 2 n) 22 true []), (30, 30, .row (zrowsT 0 1 n) 22 true []), (31, 31, .row (zrowsT 100 2 n) 22 true [])]) {env : Env} {h : H}
    (ho : obs [6, 7, 17] (actsOf (lapp R []) []) (lapp R []) [] env h = expsR n0R (kpOf (zoR l z n)) [(6, .nils), (7, .int .i64 (Int.ofNat 0)), (17, .slc n0R 0 n n false 1)] R [] [] (zoR l z n) [(some (.row (zrows 300 2 n) 22 true []), true), (some (.row (zrowsT 0 1 n) 22 true []), true), (some (.row (zrowsT 100 2 n) 22 true []), true)]) :
    ∃ σ, Abs n0R σ (finR l n z).env (finR l n z).h env h := by
  subst hR
  have hlit : okLit n0R 2097152 (lapp [(n0R, n0R, .row (zrows 300 2 n) 22 true []), (30, 30, .row (zrowsT 0 1 n) 22 true []), (31, 31, .row (zrowsT 100 2 n) 22 true [])] []) = true := okLit_row rfl (belR_O (by omega)) (okLit_row rfl (belR_I hn) (okLit_row rfl (belR_W hn) rfl))
  have k1 := keepIR Zs hn (i := n) (Zn := []) hlit (fun p hp => by cases hp)
  have k2 : renL (szs n0R (namesOf (lapp [(n0R, n0R, .row (zrows 300 2 n) 22 true []), (30, 30, .row (zrowsT 0 1 n) 22 true []), (31, 31, .row (zrowsT 100 2 n) 22 true [])] []) []) (kpOf (zoR l z n))) (zrows 300 2 n) = zrows 300 2 n := by
    exact zrows_keep fun j hj => szs_zone hlit (zgrow_new hj) (fun p hp e => by cases hp)
  rw [expsR_eq] at ho
  · exact NewOK.abs (t := finR l n z) (A := lapp [(n0R, n0R, .row (zrows 300 2 n) 22 true []), (30, 30, .row (zrowsT 0 1 n) 22 true []), (31, 31, .row (zrowsT 100 2 n) 22 true [])] []) (Z := []) (z := zoR l z n)
      ⟨rfl, rfl, by show 1049321 ≤ 2097152; decide, rfl, hlit, rfl, rfl, (fun p hp => (by cases hp)), List.nodup_nil, zoR_ok Zs (by omega)⟩ rfl rfl rfl rfl ho
  · show _ = [(some (Blk.row (renL _ _) _ _ _), true), (some (Blk.row (renL _ _) _ _ _), true), (some (Blk.row (renL _ _) _ _ _), true)]
    rw [k2, k1.1, k1.2]; rfl
theorem belR_I0 {n : Nat} (hn : n ≤ 60) : belL n0R (zrowsT 0 1 n) = true := belL_slc _ (fun j => zn (0 + j)) _ _ _ fun j hj => by have := List.mem_range.1 hj; rw [zn_eq]; show _ < 1049321; omega
theorem belR_W0 {n : Nat} (hn : n ≤ 60) : belL n0R (zrowsT 100 2 n) = true := belL_slc _ (fun j => zn (100 + j)) _ _ _ fun j hj => by have := List.mem_range.1 hj; rw [zn_eq]; show _ < 1049321; omega
theorem ble_t {i n : Nat} (h : i < n) : Nat.ble (i + 1) n = true := Nat.ble_eq_true_of_le h
theorem ble_f {i n : Nat} (h : ¬ i < n) : Nat.ble (i + 1) n = false := ble_false (by omega)
theorem loopR_good {C : Cfg} (G : X.Good C Tryz.prog) (hg : C.gl = fun _ => none) (hm : C.mask 14 = mask 14) {l : Nat → Bool} {n : Nat} (hn1 : 1 ≤ n) (hn : n ≤ 60) {z : T Blk} (Zs : ZinR l n z) (g : Nat → CV) :
    X.Good (C.addLc 14 22 (lcZ (S0 := Unit) (fun _ => True) (lmap (fun p => p.1) (eR n g .nils 0)) (lmap (fun p => p.1) (lapp (rr0R (zrowsT 0 1 n) (zrowsT 100 2 n)) bR0)) (fun _ => SR.st l n z (.s0 g)) (fun _ => (.ext 2, finR l n z)))) Tryz.prog := by
  refine G.addZR good1 (by rw [hg]; rfl) (S := SR) (SR.dr l n) (n0 := n0R) (ι := fun _ => .s0 g) (ok := SR.ok l n) (St := SR.st l n z) (SR.er l n) (μ := SR.mu n) (fin := fun _ => (.ext 2, finR l n z)) (fuel := F) hm.symm (by rfl) ?_ ?_ ?_ (fun g i h => by rw [hg] at h; cases h)
  · intro s _
    cases s with
    | s0 g => exact pe_eR ..
    | s1 i a0 a1 g => exact pe_eR ..
    | s2 i a0 a1 a2 a3 a4 g => exact pe_eR ..
  · intro _ _
    refine ⟨trivial, rfl, rfl, ⟨rfl, ?_, ?_, ?_⟩, by show 1049321 ≤ 2097152; decide, rfl, rfl⟩
    · show belEs n0R (eR n g .nils 0) = true
      kernel_rfl
    · exact blksN_app (R := rr0R (zrowsT 0 1 n) (zrowsT 100 2 n)) blksR0 (blksN_row (by show 30 < 1049321; decide) (belR_I0 hn) (blksN_row (by show 31 < 1049321; decide) (belR_W0 hn) rfl))
    · intro x k h
      obtain ⟨a, b⟩ := Zs.only x k h
      exact ⟨b, by rw [zn_eq]; show _ < 1049321; omega, by rw [zn_eq]; show _ < 1000000000000; omega⟩
  · intro s hs
    rw [hm]
    cases s with
    | s0 g0 =>
      cases hb : l 0 with
      | false =>
        refine ⟨?_⟩
        show xcode C1 Tryz.prog F 14 (loopC Tryz.prog 14 22) (mask 14) (tmpsN Tryz.prog 14) (mkE (eR n (ggR (zn 0) [bi (l 0)]) .nils 0)) _ (cond (l 0) dR_0_1 dR_0_0) _
        rw [hb]
        exact useR_0_0 Zs hn (by omega) (by show rowR _ = rowR _; unfold cvR; rw [hb]; rfl) (cellI (i := 0) (by omega) (getR0 ..) _) (cellR (zgR0 ..) (by rw [Zs.ins 0 (by omega)]; unfold inRowR; rw [hb]; rfl) _ rfl)
          (fun env h ds σ ab => ⟨.s1 1 1 0 _, σ, ⟨Nat.le_refl _, hn1, rfl, by rw [cntR_succ, hb]; rfl⟩, (by show n - 1 < n + 1; omega), rfl, ab⟩)
      | true =>
        refine ⟨?_⟩
        show xcode C1 Tryz.prog F 14 (loopC Tryz.prog 14 22) (mask 14) (tmpsN Tryz.prog 14) (mkE (eR n (ggR (zn 0) [bi (l 0)]) .nils 0)) _ (cond (l 0) dR_0_1 dR_0_0) _
        rw [hb]
        exact useR_0_1 Zs hn (by omega) (by show rowR _ = rowR _; unfold cvR; rw [hb]; rfl) (cellI (i := 0) (by omega) (getR0 ..) _) (cellR (zgR0 ..) (by rw [Zs.ins 0 (by omega)]; unfold inRowR; rw [hb]; rfl) _ rfl)
          (fun env h ds σ ab => ⟨.s2 1 1 0 0 1 1 _, σ, ⟨Nat.le_refl _, hn1, rfl, by rw [cntR_succ, hb]; rfl⟩, (by show n - 1 < n + 1; omega), rfl, ab⟩)
    | s1 i a0 a1 g0 =>
      obtain ⟨h1, h2, rfl, h4⟩ := hs
      by_cases hlt : i < n
      · cases hb : l i with
        | false =>
          refine ⟨?_⟩
          show xcode C1 Tryz.prog F 14 (loopC Tryz.prog 14 22) (mask 14) (tmpsN Tryz.prog 14) (mkE (eR n (ggR (zn i) [bi (l i)]) (.slc n0R 0 i i false 1) i)) _ (cond (Nat.ble (i + 1) n) (cond (l i) dR_1_1 dR_1_0) [false]) _
          rw [hb, ble_t hlt]
          exact useR_1_0 Zs hn hlt i a1 (by omega) (by omega) (by show rowR _ = rowR _; unfold cvR; rw [hb]; show rowR _ = rowR [.int .i64 (cntR l i), _]; rw [h4]) (cellI hlt (getR1 ..) _) (cellR (zgR1 ..) (by rw [zoR_low (by omega), Zs.ins i hlt]; unfold inRowR; rw [hb]; rfl) _ rfl)
            (fun env h ds σ ab => ⟨.s1 (i + 1) (i + 1) i _, σ, ⟨by omega, hlt, (by push_cast; rfl), (by rw [cntR_succ, hb]; show cntR l i + 1 = _; rw [h4]; push_cast; rfl)⟩, (by show n - (i + 1) < n - i; omega), rfl, ab⟩)
        | true =>
          refine ⟨?_⟩
          show xcode C1 Tryz.prog F 14 (loopC Tryz.prog 14 22) (mask 14) (tmpsN Tryz.prog 14) (mkE (eR n (ggR (zn i) [bi (l i)]) (.slc n0R 0 i i false 1) i)) _ (cond (Nat.ble (i + 1) n) (cond (l i) dR_1_1 dR_1_0) [false]) _
          rw [hb, ble_t hlt]
          exact useR_1_1 Zs hn hlt i a1 (by omega) (by omega) (by show rowR _ = rowR _; unfold cvR; rw [hb]) (cellI hlt (getR1 ..) _) (cellR (zgR1 ..) (by rw [zoR_low (by omega), Zs.ins i hlt]; unfold inRowR; rw [hb]; rfl) _ rfl)
            (fun env h ds σ ab => ⟨.s2 (i + 1) (i + 1) 0 i 1 1 _, σ, ⟨by omega, hlt, (by push_cast; rfl), (by rw [cntR_succ, hb]; rfl)⟩, (by show n - (i + 1) < n - i; omega), rfl, ab⟩)
      · have hin : i = n := by omega
        subst hin
        refine ⟨?_⟩
        show xcode C1 Tryz.prog F 14 (loopC Tryz.prog 14 22) (mask 14) (tmpsN Tryz.prog 14) (mkE (eR i (ggR (zn i) [bi (l i)]) (.slc n0R 0 i i false 1) i)) _ (cond (Nat.ble (i + 1) i) (cond (l i) dR_1_1 dR_1_0) [false]) _
        rw [ble_f (Nat.lt_irrefl i)]
        exact round_use2 good1.spl (fun Kv => xR_1 (zoR l z i) (zrowsT 0 1 i) (zrowsT 100 2 i) i i _ i a1 Kv)
          (bcase_tt (dcq_ge (by omega)) (fun env h ds ho => (done_R1 Zs hn _ rfl ho).elim fun σ ab => ⟨σ, rfl, ab⟩))
    | s2 i a0 a1 a2 a3 a4 g0 =>
      obtain ⟨h1, h2, rfl, rfl⟩ := hs
      have hc := cntR_le l i
      by_cases hlt : i < n
      · cases hb : l i with
        | false =>
          refine ⟨?_⟩
          show xcode C1 Tryz.prog F 14 (loopC Tryz.prog 14 22) (mask 14) (tmpsN Tryz.prog 14) (mkE (eR n (ggR (zn i) [bi (l i)]) (.slc n0R 0 i i false 1) i)) _ (cond (Nat.ble (i + 1) n) (cond (l i) dR_2_1 dR_2_0) [false]) _
          rw [hb, ble_t hlt]
          exact useR_2_0 Zs hn hlt i a1 a2 a3 (cntR l i) (by omega) (by omega) (by omega) (by omega) (by show rowR _ = rowR _; unfold cvR; rw [hb]) (cellI hlt (getR2 ..) _) (cellR (zgR2 ..) (by rw [zoR_low (by omega), Zs.ins i hlt]; unfold inRowR; rw [hb]; rfl) _ rfl)
            (fun env h ds σ ab => ⟨.s2 (i + 1) (i + 1) (cntR l i) i 0 (cntR l i + 1) _, σ, ⟨by omega, hlt, (by push_cast; rfl), (by rw [cntR_succ, hb])⟩, (by show n - (i + 1) < n - i; omega), rfl, ab⟩)
        | true =>
          refine ⟨?_⟩
          show xcode C1 Tryz.prog F 14 (loopC Tryz.prog 14 22) (mask 14) (tmpsN Tryz.prog 14) (mkE (eR n (ggR (zn i) [bi (l i)]) (.slc n0R 0 i i false 1) i)) _ (cond (Nat.ble (i + 1) n) (cond (l i) dR_2_1 dR_2_0) [false]) _
          rw [hb, ble_t hlt]
          exact useR_2_1 Zs hn hlt i a1 a2 a3 (cntR l i) (by omega) (by omega) (by show rowR _ = rowR _; unfold cvR; rw [hb]) (cellI hlt (getR2 ..) _) (cellR (zgR2 ..) (by rw [zoR_low (by omega), Zs.ins i hlt]; unfold inRowR; rw [hb]; rfl) _ rfl)
            (fun env h ds σ ab => ⟨.s2 (i + 1) (i + 1) 0 i 1 1 _, σ, ⟨by omega, hlt, (by push_cast; rfl), (by rw [cntR_succ, hb]; rfl)⟩, (by show n - (i + 1) < n - i; omega), rfl, ab⟩)
      · have hin : i = n := by omega
        subst hin
        refine ⟨?_⟩
        show xcode C1 Tryz.prog F 14 (loopC Tryz.prog 14 22) (mask 14) (tmpsN Tryz.prog 14) (mkE (eR i (ggR (zn i) [bi (l i)]) (.slc n0R 0 i i false 1) i)) _ (cond (Nat.ble (i + 1) i) (cond (l i) dR_2_1 dR_2_0) [false]) _
        rw [ble_f (Nat.lt_irrefl i)]
        exact round_use2 good1.spl (fun Kv => xR_2 (zoR l z i) (zrowsT 0 1 i) (zrowsT 100 2 i) i i _ i a1 a2 a3 (cntR l i) Kv)
          (bcase_tt (dcq_ge (by omega)) (fun env h ds ho => (done_R1 Zs hn _ rfl ho).elim fun σ ab => ⟨σ, rfl, ab⟩))
end
end Go.Proofs.YtkfhjobebhdpoaaGreat

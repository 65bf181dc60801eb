/- Stream: what the rounds of Run's loop do. -/
import Derived.Test.YtkfhjobebhdpoaaGreatCA
import Derived.Test.YtkfhjobebhdpoaaGreatSK
import Derived.Test.YtkfhjobebhdpoaaGreatG
set_option linter.unusedVariables false
set_option autoImplicit false
set_option maxRecDepth 1000000
set_option maxHeartbeats 2000000
set_option linter.unusedVariables false
namespace Go.Proofs.YtkfhjobebhdpoaaGreat
noncomputable section
open Go.X
/-- how often it was true so far -/
def cntC (l : Nat → Bool) : Nat → Int := fun i => Nat.rec 0 (fun j ih => Bool.rec ih (ih + 1) (l j)) i
theorem cntC_succ (l : Nat → Bool) (i : Nat) : cntC l (i + 1) = Bool.rec (cntC l i) (cntC l i + 1) (l i) := rfl
theorem cntC_le (l : Nat → Bool) : ∀ i : Nat, 0 ≤ cntC l i ∧ cntC l i ≤ i
  | 0 => ⟨Int.le_refl _, Int.le_refl _⟩
  | i + 1 => by
    obtain ⟨a, b⟩ := cntC_le l i
    rw [cntC_succ]
    cases l i with
    | true => show 0 ≤ cntC l i + 1 ∧ cntC l i + 1 ≤ ((i + 1 : Nat) : Int); omega
    | false => show 0 ≤ cntC l i ∧ cntC l i ≤ ((i + 1 : Nat) : Int); omega
def inRowC (l : Nat → Bool) (j : Nat) : Blk := .row [.int .i64 (bi (l j))] 3 true []
def outC (l : Nat → Bool) (j : Nat) : Blk := rowC [.int .i64 (cntC l (j + 1))]
theorem outC_int (l : Nat → Bool) (j : Nat) : IntRow (outC l j) := ⟨[cntC l (j + 1)], 3, true, rfl⟩
/-- the zone that holds the rows of the inputs and those that are wanted -/
structure ZinC (l : Nat → Bool) (n : Nat) (z : T Blk) : Prop where
  ins : ∀ j, j < n → z.get j = some (inRowC l j)
  want : ∀ j, j < n → z.get (100 + j) = some (outC l j)
  only : ∀ x k, z.get x = some k → x < 200 ∧ IntRow k
theorem blksC0 : blksN n0C (bC0) = true := by kernel_rfl
theorem getC0 (z : T Blk) (csI csW : List AV) : T.get (mkB z (lapp (rr0C csI csW) bC0)) 30 = some (.row csI 22 true []) := by kernel_rfl
theorem zgC0 (z : T Blk) (csI csW : List AV) : zget (mkB z (lapp (rr0C csI csW) bC0)) 12 = z := by kernel_rfl
theorem getC1 (z : T Blk) (cs csI csW : List AV) (a0 : Int) (a1 : Int) (a2 : Int) (a3 : Int) : T.get (mkB z (lapp (rrC cs csI csW) (bC1 a0 a1 a2 a3))) 30 = some (.row csI 22 true []) := by kernel_rfl
theorem zgC1 (z : T Blk) (cs csI csW : List AV) (a0 : Int) (a1 : Int) (a2 : Int) (a3 : Int) : zget (mkB z (lapp (rrC cs csI csW) (bC1 a0 a1 a2 a3))) 12 = z := by kernel_rfl
theorem getC2 (z : T Blk) (cs csI csW : List AV) (a0 : Int) (a1 : Int) (a2 : Int) : T.get (mkB z (lapp (rrC cs csI csW) (bC2 a0 a1 a2))) 30 = some (.row csI 22 true []) := by kernel_rfl
theorem zgC2 (z : T Blk) (cs csI csW : List AV) (a0 : Int) (a1 : Int) (a2 : Int) : zget (mkB z (lapp (rrC cs csI csW) (bC2 a0 a1 a2))) 12 = z := by kernel_rfl
theorem getC3 (z : T Blk) (cs csI csW : List AV) (a0 : Int) : T.get (mkB z (lapp (rrC cs csI csW) (bC3 a0))) 30 = some (.row csI 22 true []) := by kernel_rfl
theorem zgC3 (z : T Blk) (cs csI csW : List AV) (a0 : Int) : zget (mkB z (lapp (rrC cs csI csW) (bC3 a0))) 12 = z := by kernel_rfl
/-- the zone as far as round i -/
def zoC (l : Nat → Bool) (z : T Blk) (i : Nat) : T Blk := zgrow z 300 (outC l) i
theorem zoC_ok {l : Nat → Bool} {n : Nat} {z : T Blk} (Zs : ZinC l n z) {i : Nat} (hi : i ≤ 60) : ZoneOK (zoC l z i) 2097152 := by
  refine zgrow_ok (fun x k h => ?_) fun j hj => ⟨outC_int l j, by rw [zn_eq]; omega, by rw [zn_eq]; show _ < 1000000000000; omega⟩
  obtain ⟨a, b⟩ := Zs.only x k h
  exact ⟨b, by rw [zn_eq]; omega, by rw [zn_eq]; show _ < 1000000000000; omega⟩
theorem zoC_low {l : Nat → Bool} {z : T Blk} {i x : Nat} (hx : x < 300) : (zoC l z i).get x = z.get x := zgrow_old (.inl hx)
theorem belC_I {n : Nat} (hn : n ≤ 60) : belL 2097152 (zrowsT 0 1 n) = true := belL_slc _ _ _ _ _ fun j hj => by have := List.mem_range.1 hj; rw [zn_eq]; omega
theorem belC_W {n : Nat} (hn : n ≤ 60) : belL 2097152 (zrowsT 100 1 n) = true := belL_slc _ _ _ _ _ fun j hj => by have := List.mem_range.1 hj; rw [zn_eq]; omega
theorem belC_O {i : Nat} (hi : i ≤ 60) : belL 2097152 (zrows 300 1 i) = true := belL_slc _ _ _ _ _ fun j hj => by have := List.mem_range.1 hj; rw [zn_eq]; omega
/-- the state that shape B makes at round i -/
def stC (l : Nat → Bool) (n : Nat) (z : T Blk) (i : Nat) (g : Nat → CV) (B : List (Nat × Blk)) : ZS := ⟨eC n g (.slc n0C 0 i i false 1) i, lapp (rrC (zrows 300 1 i) (zrowsT 0 1 n) (zrowsT 100 1 n)) B, zoC l z i, 2097152⟩
def finC (l : Nat → Bool) (n : Nat) (z : T Blk) : ZS := ⟨[(6, .nils), (7, .int .i64 (Int.ofNat 0)), (17, .slc n0C 0 n n false 1)], rrC (zrows 300 1 n) (zrowsT 0 1 n) (zrowsT 100 1 n), zoC l z n, 2097152⟩
theorem keepIC {l : Nat → Bool} {n : Nat} {z : T Blk} (Zs : ZinC l n z) (hn : n ≤ 60) {i : Nat} {A Zn : List (Nat × Nat × Blk)} (hA : okLit n0C 2097152 A = true) (hZ : ∀ p ∈ Zn, 300 ≤ p.1) :
    renL (szs n0C (namesOf A Zn) (kpOf (zoC l z i))) (zrowsT 0 1 n) = (zrowsT 0 1 n) ∧ renL (szs n0C (namesOf A Zn) (kpOf (zoC l z i))) (zrowsT 100 1 n) = (zrowsT 100 1 n) := by
  constructor
  · unfold zrowsT
    rw [renL_slc]
    refine List.map_congr_left fun j hj => ?_
    have hj := List.mem_range.1 hj
    rw [szs_zone hA (k := inRowC l j) (by rw [zoC_low (by omega), Nat.zero_add]; exact Zs.ins j hj) (fun p hp e => by have := hZ p hp; omega)]
  · unfold zrowsT
    rw [renL_slc]
    refine List.map_congr_left fun j hj => ?_
    have hj := List.mem_range.1 hj
    rw [szs_zone hA (k := outC l j) (by rw [zoC_low (by omega)]; exact Zs.want j hj) (fun p hp e => by have := hZ p hp; omega)]
theorem litC_0_1 : okLit n0C 2097152 (zipA (bC1 1 1 0 2) kC_0_1) = true := by kernel_rfl
theorem keysC_0_1 (n : Nat) : nodupQ (lmap (fun p => p.1) (lapp [(n0C, 1049390, .row (zrows 300 1 1) 22 true []), (30, 30, .row (zrowsT 0 1 n) 22 true []), (31, 31, .row (zrowsT 100 1 n) 22 true [])] (zipA (bC1 1 1 0 2) kC_0_1))) = true := by kernel_rfl
theorem actsC_0_1 (n : Nat) : nodupQ (actsOf (lapp [(n0C, 1049390, .row (zrows 300 1 1) 22 true []), (30, 30, .row (zrowsT 0 1 n) 22 true []), (31, 31, .row (zrowsT 100 1 n) 22 true [])] (zipA (bC1 1 1 0 2) kC_0_1)) [(300, 1049388, rowC [.int .i64 1])]) = true := by kernel_rfl
theorem absC_0_1 {l : Nat → Bool} {n : Nat} {z : T Blk} (Zs : ZinC l n z) (hn : n ≤ 60) (hi : 0 < n) (r : Nat) (hrow : rowC [.int .i64 1] = outC l 0) {env : Env} {h : H}
    (ho : obs [6, 7, 16, 17, 71, 72, 73] (actsOf (lapp [(n0C, 1049390, .row (zrows 300 1 1) 22 true []), (30, 30, .row (zrowsT 0 1 n) 22 true []), (31, 31, .row (zrowsT 100 1 n) 22 true [])] (zipA (bC1 1 1 0 2) kC_0_1)) [(300, 1049388, rowC [.int .i64 1])]) (lapp [(n0C, 1049390, .row (zrows 300 1 1) 22 true []), (30, 30, .row (zrowsT 0 1 n) 22 true []), (31, 31, .row (zrowsT 100 1 n) 22 true [])] (zipA (bC1 1 1 0 2) kC_0_1)) [(300, 1049388, rowC [.int .i64 1])] env h = expsR n0C (kpOf z) (eC n (ggC r [1]) (.slc n0C 0 1 1 false 1) 1) [(n0C, 1049390, .row (zrows 300 1 1) 22 true []), (30, 30, .row (zrowsT 0 1 n) 22 true []), (31, 31, .row (zrowsT 100 1 n) 22 true [])] (zipA (bC1 1 1 0 2) kC_0_1) [(300, 1049388, rowC [.int .i64 1])] z [(some (.row [.slc 1049388 0 1 1 false 1] 22 true []), true), (some (.row (zrowsT 0 1 n) 22 true []), true), (some (.row (zrowsT 100 1 n) 22 true []), true)]) :
    ∃ σ, Abs n0C σ (stC l n z 1 (ggC r [1]) (bC1 1 1 0 2)).env (stC l n z 1 (ggC r [1]) (bC1 1 1 0 2)).h env h := by
  have hlit : okLit n0C 2097152 (lapp [(n0C, 1049390, .row (zrows 300 1 1) 22 true []), (30, 30, .row (zrowsT 0 1 n) 22 true []), (31, 31, .row (zrowsT 100 1 n) 22 true [])] (zipA (bC1 1 1 0 2) kC_0_1)) = true := okLit_row rfl (belC_O (by omega)) (okLit_row rfl (belC_I hn) (okLit_row rfl (belC_W hn) (litC_0_1)))
  have hZ3 : ∀ p ∈ ([(300, 1049388, rowC [.int .i64 1])] : List (Nat × Nat × Blk)), 300 ≤ p.1 := fun p hp => by rw [List.mem_singleton.1 hp]; show 300 ≤ 300; omega
  have hnd : (([(300, 1049388, rowC [.int .i64 1])] : List (Nat × Nat × Blk)).map (·.1)).Nodup := by simp
  have k1 := keepIC Zs hn (i := 0) hlit hZ3
  rw [expsR_eq] at ho
  · exact NewOK.abs (t := stC l n z 1 (ggC r [1]) (bC1 1 1 0 2)) (A := lapp [(n0C, 1049390, .row (zrows 300 1 1) 22 true []), (30, 30, .row (zrowsT 0 1 n) 22 true []), (31, 31, .row (zrowsT 100 1 n) 22 true [])] (zipA (bC1 1 1 0 2) kC_0_1)) (Z := [(300, 1049388, rowC [.int .i64 1])]) (z := z)
      ⟨by rw [lmap_app, zipA_B]; rfl, by show T.set z (outC l 0) (300 + 0) = T.set z (rowC [.int .i64 1]) 300; rw [hrow], by show 1049359 ≤ 2097152; decide, by kernel_rfl, hlit, keysC_0_1 n, actsC_0_1 n,
        fun p hp => by
          rw [List.mem_singleton.1 hp]
          refine ⟨by show 1049359 ≤ zn 300; rw [zn_eq]; omega, by show zn 300 < 2097152; rw [zn_eq]; omega, by show 1049359 ≤ 1049388; decide, by show 1049388 < 1000000000000; decide, by show 1049388 % 4096 ≠ 4095; decide, ?_⟩
          exact ⟨[1], 3, true, rfl⟩,
        hnd, by have := zoC_ok Zs (i := 0) (by omega); exact this⟩ rfl rfl rfl rfl ho
  · have e1 : [.slc 1049388 0 1 1 false 1] = renL (szs n0C (namesOf (lapp [(n0C, 1049390, .row (zrows 300 1 1) 22 true []), (30, 30, .row (zrowsT 0 1 n) 22 true []), (31, 31, .row (zrowsT 100 1 n) 22 true [])] (zipA (bC1 1 1 0 2) kC_0_1)) [(300, 1049388, rowC [.int .i64 1])]) (kpOf z)) (zrows 300 1 1) := by
      refine zrows_grow (i := 0) (fun j hj => ?_) (szs_row hlit (by show 1049359 ≤ zn (300 + 0); rw [zn_eq]; omega) (List.mem_singleton.2 rfl) hnd)
      omega
    show [(some (Blk.row _ _ _ _), true), (some (Blk.row _ _ _ _), true), (some (Blk.row _ _ _ _), true)] = [(some (Blk.row (renL _ _) _ _ _), true), (some (Blk.row (renL _ _) _ _ _), true), (some (Blk.row (renL _ _) _ _ _), true)]
    rw [← e1]
    have k1 := k1
    change renL (szs n0C (namesOf _ _) (kpOf z)) _ = _ ∧ renL (szs n0C (namesOf _ _) (kpOf z)) _ = _ at k1
    rw [k1.1, k1.2]; rfl
theorem litC_1_0 (a0 : Int) (a1 : Int) (a2 : Int) (a3 : Int) : okLit n0C 2097152 (zipA (bC2 (a0 + 1) a1 a3) kC_1_0) = true := by kernel_rfl
theorem keysC_1_0 (n i : Nat) (a0 : Int) (a1 : Int) (a2 : Int) (a3 : Int) : nodupQ (lmap (fun p => p.1) (lapp [(n0C, 2097168, .row (zrows 300 1 (i + 1)) 22 true []), (30, 30, .row (zrowsT 0 1 n) 22 true []), (31, 31, .row (zrowsT 100 1 n) 22 true [])] (zipA (bC2 (a0 + 1) a1 a3) kC_1_0))) = true := by kernel_rfl
theorem actsC_1_0 (n i : Nat) (a0 : Int) (a1 : Int) (a2 : Int) (a3 : Int) : nodupQ (actsOf (lapp [(n0C, 2097168, .row (zrows 300 1 (i + 1)) 22 true []), (30, 30, .row (zrowsT 0 1 n) 22 true []), (31, 31, .row (zrowsT 100 1 n) 22 true [])] (zipA (bC2 (a0 + 1) a1 a3) kC_1_0)) [(300 + i, 2097166, rowC [.int .i64 a1])]) = true := by kernel_rfl
theorem absC_1_0 {l : Nat → Bool} {n : Nat} {z : T Blk} (Zs : ZinC l n z) (hn : n ≤ 60) {i : Nat} (hi : i < n) (r : Nat) (a0 : Int) (a1 : Int) (a2 : Int) (a3 : Int) (hrow : rowC [.int .i64 a1] = outC l i) {env : Env} {h : H}
    (ho : obs [6, 7, 16, 17, 71, 72, 73] (actsOf (lapp [(n0C, 2097168, .row (zrows 300 1 (i + 1)) 22 true []), (30, 30, .row (zrowsT 0 1 n) 22 true []), (31, 31, .row (zrowsT 100 1 n) 22 true [])] (zipA (bC2 (a0 + 1) a1 a3) kC_1_0)) [(300 + i, 2097166, rowC [.int .i64 a1])]) (lapp [(n0C, 2097168, .row (zrows 300 1 (i + 1)) 22 true []), (30, 30, .row (zrowsT 0 1 n) 22 true []), (31, 31, .row (zrowsT 100 1 n) 22 true [])] (zipA (bC2 (a0 + 1) a1 a3) kC_1_0)) [(300 + i, 2097166, rowC [.int .i64 a1])] env h = expsR n0C (kpOf (zoC l z i)) (eC n (ggC r [0]) (.slc n0C 0 (i + 1) (i + 1) false 1) (i + 1)) [(n0C, 2097168, .row (zrows 300 1 (i + 1)) 22 true []), (30, 30, .row (zrowsT 0 1 n) 22 true []), (31, 31, .row (zrowsT 100 1 n) 22 true [])] (zipA (bC2 (a0 + 1) a1 a3) kC_1_0) [(300 + i, 2097166, rowC [.int .i64 a1])] (zoC l z i) [(some (.row (lapp (ltake (ldrop (zrows 300 1 i) 0) (Nat.mul i 1)) [.slc 2097166 0 1 1 false 1]) 22 true []), true), (some (.row (zrowsT 0 1 n) 22 true []), true), (some (.row (zrowsT 100 1 n) 22 true []), true)]) :
    ∃ σ, Abs n0C σ (stC l n z (i + 1) (ggC r [0]) (bC2 (a0 + 1) a1 a3)).env (stC l n z (i + 1) (ggC r [0]) (bC2 (a0 + 1) a1 a3)).h env h := by
  have hlit : okLit n0C 2097152 (lapp [(n0C, 2097168, .row (zrows 300 1 (i + 1)) 22 true []), (30, 30, .row (zrowsT 0 1 n) 22 true []), (31, 31, .row (zrowsT 100 1 n) 22 true [])] (zipA (bC2 (a0 + 1) a1 a3) kC_1_0)) = true := okLit_row rfl (belC_O (by omega)) (okLit_row rfl (belC_I hn) (okLit_row rfl (belC_W hn) (litC_1_0 a0 a1 a2 a3)))
  have hZ3 : ∀ p ∈ ([(300 + i, 2097166, rowC [.int .i64 a1])] : List (Nat × Nat × Blk)), 300 ≤ p.1 := fun p hp => by rw [List.mem_singleton.1 hp]; show 300 ≤ 300 + i; omega
  have hnd : (([(300 + i, 2097166, rowC [.int .i64 a1])] : List (Nat × Nat × Blk)).map (·.1)).Nodup := by simp
  have k1 := keepIC Zs hn (i := i) hlit hZ3
  rw [expsR_eq] at ho
  · exact NewOK.abs (t := stC l n z (i + 1) (ggC r [0]) (bC2 (a0 + 1) a1 a3)) (A := lapp [(n0C, 2097168, .row (zrows 300 1 (i + 1)) 22 true []), (30, 30, .row (zrowsT 0 1 n) 22 true []), (31, 31, .row (zrowsT 100 1 n) 22 true [])] (zipA (bC2 (a0 + 1) a1 a3) kC_1_0)) (Z := [(300 + i, 2097166, rowC [.int .i64 a1])]) (z := (zoC l z i))
      ⟨by rw [lmap_app, zipA_B]; rfl, by show T.set (zoC l z i) (outC l i) (300 + i) = T.set (zoC l z i) (rowC [.int .i64 a1]) (300 + i); rw [hrow], by show 1049359 ≤ 2097152; decide, by kernel_rfl, hlit, keysC_1_0 n i a0 a1 a2 a3, actsC_1_0 n i a0 a1 a2 a3,
        fun p hp => by
          rw [List.mem_singleton.1 hp]
          refine ⟨by show 1049359 ≤ zn (300 + i); rw [zn_eq]; omega, by show zn (300 + i) < 2097152; rw [zn_eq]; omega, by show 1049359 ≤ 2097166; decide, by show 2097166 < 1000000000000; decide, by show 2097166 % 4096 ≠ 4095; decide, ?_⟩
          exact ⟨[a1], 3, true, rfl⟩,
        hnd, zoC_ok Zs (by omega)⟩ rfl rfl rfl rfl ho
  · have e1 : (lapp (ltake (ldrop (zrows 300 1 i) 0) (Nat.mul i 1)) [.slc 2097166 0 1 1 false 1]) = renL (szs n0C (namesOf (lapp [(n0C, 2097168, .row (zrows 300 1 (i + 1)) 22 true []), (30, 30, .row (zrowsT 0 1 n) 22 true []), (31, 31, .row (zrowsT 100 1 n) 22 true [])] (zipA (bC2 (a0 + 1) a1 a3) kC_1_0)) [(300 + i, 2097166, rowC [.int .i64 a1])]) (kpOf (zoC l z i))) (zrows 300 1 (i + 1)) := by
      refine zrows_grow (i := i) (fun j hj => ?_) (szs_row hlit (by show 1049359 ≤ zn (300 + i); rw [zn_eq]; omega) (List.mem_singleton.2 rfl) hnd)
      exact szs_zone hlit (zgrow_new hj) (fun p hp e => by rw [List.mem_singleton.1 hp] at e; have e : 300 + i = 300 + j := e; omega)
    show [(some (Blk.row _ _ _ _), true), (some (Blk.row _ _ _ _), true), (some (Blk.row _ _ _ _), true)] = [(some (Blk.row (renL _ _) _ _ _), true), (some (Blk.row (renL _ _) _ _ _), true), (some (Blk.row (renL _ _) _ _ _), true)]
    rw [← e1]
    have k1 := k1
    skip
    rw [k1.1, k1.2]; rfl
theorem litC_2_1 (a0 : Int) (a1 : Int) (a2 : Int) : okLit n0C 2097152 (zipA (bC1 (a0 + 1) a2 a1 (a2 + 1)) kC_2_1) = true := by kernel_rfl
theorem keysC_2_1 (n i : Nat) (a0 : Int) (a1 : Int) (a2 : Int) : nodupQ (lmap (fun p => p.1) (lapp [(n0C, 2097183, .row (zrows 300 1 (i + 1)) 22 true []), (30, 30, .row (zrowsT 0 1 n) 22 true []), (31, 31, .row (zrowsT 100 1 n) 22 true [])] (zipA (bC1 (a0 + 1) a2 a1 (a2 + 1)) kC_2_1))) = true := by kernel_rfl
theorem actsC_2_1 (n i : Nat) (a0 : Int) (a1 : Int) (a2 : Int) : nodupQ (actsOf (lapp [(n0C, 2097183, .row (zrows 300 1 (i + 1)) 22 true []), (30, 30, .row (zrowsT 0 1 n) 22 true []), (31, 31, .row (zrowsT 100 1 n) 22 true [])] (zipA (bC1 (a0 + 1) a2 a1 (a2 + 1)) kC_2_1)) [(300 + i, 2097181, rowC [.int .i64 a2])]) = true := by kernel_rfl
theorem absC_2_1 {l : Nat → Bool} {n : Nat} {z : T Blk} (Zs : ZinC l n z) (hn : n ≤ 60) {i : Nat} (hi : i < n) (r : Nat) (a0 : Int) (a1 : Int) (a2 : Int) (hrow : rowC [.int .i64 a2] = outC l i) {env : Env} {h : H}
    (ho : obs [6, 7, 16, 17, 71, 72, 73] (actsOf (lapp [(n0C, 2097183, .row (zrows 300 1 (i + 1)) 22 true []), (30, 30, .row (zrowsT 0 1 n) 22 true []), (31, 31, .row (zrowsT 100 1 n) 22 true [])] (zipA (bC1 (a0 + 1) a2 a1 (a2 + 1)) kC_2_1)) [(300 + i, 2097181, rowC [.int .i64 a2])]) (lapp [(n0C, 2097183, .row (zrows 300 1 (i + 1)) 22 true []), (30, 30, .row (zrowsT 0 1 n) 22 true []), (31, 31, .row (zrowsT 100 1 n) 22 true [])] (zipA (bC1 (a0 + 1) a2 a1 (a2 + 1)) kC_2_1)) [(300 + i, 2097181, rowC [.int .i64 a2])] env h = expsR n0C (kpOf (zoC l z i)) (eC n (ggC r [1]) (.slc n0C 0 (i + 1) (i + 1) false 1) (i + 1)) [(n0C, 2097183, .row (zrows 300 1 (i + 1)) 22 true []), (30, 30, .row (zrowsT 0 1 n) 22 true []), (31, 31, .row (zrowsT 100 1 n) 22 true [])] (zipA (bC1 (a0 + 1) a2 a1 (a2 + 1)) kC_2_1) [(300 + i, 2097181, rowC [.int .i64 a2])] (zoC l z i) [(some (.row (lapp (ltake (ldrop (zrows 300 1 i) 0) (Nat.mul i 1)) [.slc 2097181 0 1 1 false 1]) 22 true []), true), (some (.row (zrowsT 0 1 n) 22 true []), true), (some (.row (zrowsT 100 1 n) 22 true []), true)]) :
    ∃ σ, Abs n0C σ (stC l n z (i + 1) (ggC r [1]) (bC1 (a0 + 1) a2 a1 (a2 + 1))).env (stC l n z (i + 1) (ggC r [1]) (bC1 (a0 + 1) a2 a1 (a2 + 1))).h env h := by
  have hlit : okLit n0C 2097152 (lapp [(n0C, 2097183, .row (zrows 300 1 (i + 1)) 22 true []), (30, 30, .row (zrowsT 0 1 n) 22 true []), (31, 31, .row (zrowsT 100 1 n) 22 true [])] (zipA (bC1 (a0 + 1) a2 a1 (a2 + 1)) kC_2_1)) = true := okLit_row rfl (belC_O (by omega)) (okLit_row rfl (belC_I hn) (okLit_row rfl (belC_W hn) (litC_2_1 a0 a1 a2)))
  have hZ3 : ∀ p ∈ ([(300 + i, 2097181, rowC [.int .i64 a2])] : List (Nat × Nat × Blk)), 300 ≤ p.1 := fun p hp => by rw [List.mem_singleton.1 hp]; show 300 ≤ 300 + i; omega
  have hnd : (([(300 + i, 2097181, rowC [.int .i64 a2])] : List (Nat × Nat × Blk)).map (·.1)).Nodup := by simp
  have k1 := keepIC Zs hn (i := i) hlit hZ3
  rw [expsR_eq] at ho
  · exact NewOK.abs (t := stC l n z (i + 1) (ggC r [1]) (bC1 (a0 + 1) a2 a1 (a2 + 1))) (A := lapp [(n0C, 2097183, .row (zrows 300 1 (i + 1)) 22 true []), (30, 30, .row (zrowsT 0 1 n) 22 true []), (31, 31, .row (zrowsT 100 1 n) 22 true [])] (zipA (bC1 (a0 + 1) a2 a1 (a2 + 1)) kC_2_1)) (Z := [(300 + i, 2097181, rowC [.int .i64 a2])]) (z := (zoC l z i))
      ⟨by rw [lmap_app, zipA_B]; rfl, by show T.set (zoC l z i) (outC l i) (300 + i) = T.set (zoC l z i) (rowC [.int .i64 a2]) (300 + i); rw [hrow], by show 1049359 ≤ 2097152; decide, by kernel_rfl, hlit, keysC_2_1 n i a0 a1 a2, actsC_2_1 n i a0 a1 a2,
        fun p hp => by
          rw [List.mem_singleton.1 hp]
          refine ⟨by show 1049359 ≤ zn (300 + i); rw [zn_eq]; omega, by show zn (300 + i) < 2097152; rw [zn_eq]; omega, by show 1049359 ≤ 2097181; decide, by show 2097181 < 1000000000000; decide, by show 2097181 % 4096 ≠ 4095; decide, ?_⟩
          exact ⟨[a2], 3, true, rfl⟩,
        hnd, zoC_ok Zs (by omega)⟩ rfl rfl rfl rfl ho
  · have e1 : (lapp (ltake (ldrop (zrows 300 1 i) 0) (Nat.mul i 1)) [.slc 2097181 0 1 1 false 1]) = renL (szs n0C (namesOf (lapp [(n0C, 2097183, .row (zrows 300 1 (i + 1)) 22 true []), (30, 30, .row (zrowsT 0 1 n) 22 true []), (31, 31, .row (zrowsT 100 1 n) 22 true [])] (zipA (bC1 (a0 + 1) a2 a1 (a2 + 1)) kC_2_1)) [(300 + i, 2097181, rowC [.int .i64 a2])]) (kpOf (zoC l z i))) (zrows 300 1 (i + 1)) := by
      refine zrows_grow (i := i) (fun j hj => ?_) (szs_row hlit (by show 1049359 ≤ zn (300 + i); rw [zn_eq]; omega) (List.mem_singleton.2 rfl) hnd)
      exact szs_zone hlit (zgrow_new hj) (fun p hp e => by rw [List.mem_singleton.1 hp] at e; have e : 300 + i = 300 + j := e; omega)
    show [(some (Blk.row _ _ _ _), true), (some (Blk.row _ _ _ _), true), (some (Blk.row _ _ _ _), true)] = [(some (Blk.row (renL _ _) _ _ _), true), (some (Blk.row (renL _ _) _ _ _), true), (some (Blk.row (renL _ _) _ _ _), true)]
    rw [← e1]
    have k1 := k1
    skip
    rw [k1.1, k1.2]; rfl
theorem litC_1_1 (a0 : Int) (a1 : Int) (a2 : Int) (a3 : Int) : okLit n0C 2097152 (zipA (bC1 (a0 + 1) a3 a1 (a3 + 1)) kC_1_1) = true := by kernel_rfl
theorem keysC_1_1 (n i : Nat) (a0 : Int) (a1 : Int) (a2 : Int) (a3 : Int) : nodupQ (lmap (fun p => p.1) (lapp [(n0C, 2097183, .row (zrows 300 1 (i + 1)) 22 true []), (30, 30, .row (zrowsT 0 1 n) 22 true []), (31, 31, .row (zrowsT 100 1 n) 22 true [])] (zipA (bC1 (a0 + 1) a3 a1 (a3 + 1)) kC_1_1))) = true := by kernel_rfl
theorem actsC_1_1 (n i : Nat) (a0 : Int) (a1 : Int) (a2 : Int) (a3 : Int) : nodupQ (actsOf (lapp [(n0C, 2097183, .row (zrows 300 1 (i + 1)) 22 true []), (30, 30, .row (zrowsT 0 1 n) 22 true []), (31, 31, .row (zrowsT 100 1 n) 22 true [])] (zipA (bC1 (a0 + 1) a3 a1 (a3 + 1)) kC_1_1)) [(300 + i, 2097181, rowC [.int .i64 a3])]) = true := by kernel_rfl
theorem absC_1_1 {l : Nat → Bool} {n : Nat} {z : T Blk} (Zs : ZinC l n z) (hn : n ≤ 60) {i : Nat} (hi : i < n) (r : Nat) (a0 : Int) (a1 : Int) (a2 : Int) (a3 : Int) (hrow : rowC [.int .i64 a3] = outC l i) {env : Env} {h : H}
    (ho : obs [6, 7, 16, 17, 71, 72, 73] (actsOf (lapp [(n0C, 2097183, .row (zrows 300 1 (i + 1)) 22 true []), (30, 30, .row (zrowsT 0 1 n) 22 true []), (31, 31, .row (zrowsT 100 1 n) 22 true [])] (zipA (bC1 (a0 + 1) a3 a1 (a3 + 1)) kC_1_1)) [(300 + i, 2097181, rowC [.int .i64 a3])]) (lapp [(n0C, 2097183, .row (zrows 300 1 (i + 1)) 22 true []), (30, 30, .row (zrowsT 0 1 n) 22 true []), (31, 31, .row (zrowsT 100 1 n) 22 true [])] (zipA (bC1 (a0 + 1) a3 a1 (a3 + 1)) kC_1_1)) [(300 + i, 2097181, rowC [.int .i64 a3])] env h = expsR n0C (kpOf (zoC l z i)) (eC n (ggC r [1]) (.slc n0C 0 (i + 1) (i + 1) false 1) (i + 1)) [(n0C, 2097183, .row (zrows 300 1 (i + 1)) 22 true []), (30, 30, .row (zrowsT 0 1 n) 22 true []), (31, 31, .row (zrowsT 100 1 n) 22 true [])] (zipA (bC1 (a0 + 1) a3 a1 (a3 + 1)) kC_1_1) [(300 + i, 2097181, rowC [.int .i64 a3])] (zoC l z i) [(some (.row (lapp (ltake (ldrop (zrows 300 1 i) 0) (Nat.mul i 1)) [.slc 2097181 0 1 1 false 1]) 22 true []), true), (some (.row (zrowsT 0 1 n) 22 true []), true), (some (.row (zrowsT 100 1 n) 22 true []), true)]) :
    ∃ σ, Abs n0C σ (stC l n z (i + 1) (ggC r [1]) (bC1 (a0 + 1) a3 a1 (a3 + 1))).env (stC l n z (i + 1) (ggC r [1]) (bC1 (a0 + 1) a3 a1 (a3 + 1))).h env h := by
  have hlit : okLit n0C 2097152 (lapp [(n0C, 2097183, .row (zrows 300 1 (i + 1)) 22 true []), (30, 30, .row (zrowsT 0 1 n) 22 true []), (31, 31, .row (zrowsT 100 1 n) 22 true [])] (zipA (bC1 (a0 + 1) a3 a1 (a3 + 1)) kC_1_1)) = true := okLit_row rfl (belC_O (by omega)) (okLit_row rfl (belC_I hn) (okLit_row rfl (belC_W hn) (litC_1_1 a0 a1 a2 a3)))
  have hZ3 : ∀ p ∈ ([(300 + i, 2097181, rowC [.int .i64 a3])] : List (Nat × Nat × Blk)), 300 ≤ p.1 := fun p hp => by rw [List.mem_singleton.1 hp]; show 300 ≤ 300 + i; omega
  have hnd : (([(300 + i, 2097181, rowC [.int .i64 a3])] : List (Nat × Nat × Blk)).map (·.1)).Nodup := by simp
  have k1 := keepIC Zs hn (i := i) hlit hZ3
  rw [expsR_eq] at ho
  · exact NewOK.abs (t := stC l n z (i + 1) (ggC r [1]) (bC1 (a0 + 1) a3 a1 (a3 + 1))) (A := lapp [(n0C, 2097183, .row (zrows 300 1 (i + 1)) 22 true []), (30, 30, .row (zrowsT 0 1 n) 22 true []), (31, 31, .row (zrowsT 100 1 n) 22 true [])] (zipA (bC1 (a0 + 1) a3 a1 (a3 + 1)) kC_1_1)) (Z := [(300 + i, 2097181, rowC [.int .i64 a3])]) (z := (zoC l z i))
      ⟨by rw [lmap_app, zipA_B]; rfl, by show T.set (zoC l z i) (outC l i) (300 + i) = T.set (zoC l z i) (rowC [.int .i64 a3]) (300 + i); rw [hrow], by show 1049359 ≤ 2097152; decide, by kernel_rfl, hlit, keysC_1_1 n i a0 a1 a2 a3, actsC_1_1 n i a0 a1 a2 a3,
        fun p hp => by
          rw [List.mem_singleton.1 hp]
          refine ⟨by show 1049359 ≤ zn (300 + i); rw [zn_eq]; omega, by show zn (300 + i) < 2097152; rw [zn_eq]; omega, by show 1049359 ≤ 2097181; decide, by show 2097181 < 1000000000000; decide, by show 2097181 % 4096 ≠ 4095; decide, ?_⟩
          exact ⟨[a3], 3, true, rfl⟩,
        hnd, zoC_ok Zs (by omega)⟩ rfl rfl rfl rfl ho
  · have e1 : (lapp (ltake (ldrop (zrows 300 1 i) 0) (Nat.mul i 1)) [.slc 2097181 0 1 1 false 1]) = renL (szs n0C (namesOf (lapp [(n0C, 2097183, .row (zrows 300 1 (i + 1)) 22 true []), (30, 30, .row (zrowsT 0 1 n) 22 true []), (31, 31, .row (zrowsT 100 1 n) 22 true [])] (zipA (bC1 (a0 + 1) a3 a1 (a3 + 1)) kC_1_1)) [(300 + i, 2097181, rowC [.int .i64 a3])]) (kpOf (zoC l z i))) (zrows 300 1 (i + 1)) := by
      refine zrows_grow (i := i) (fun j hj => ?_) (szs_row hlit (by show 1049359 ≤ zn (300 + i); rw [zn_eq]; omega) (List.mem_singleton.2 rfl) hnd)
      exact szs_zone hlit (zgrow_new hj) (fun p hp e => by rw [List.mem_singleton.1 hp] at e; have e : 300 + i = 300 + j := e; omega)
    show [(some (Blk.row _ _ _ _), true), (some (Blk.row _ _ _ _), true), (some (Blk.row _ _ _ _), true)] = [(some (Blk.row (renL _ _) _ _ _), true), (some (Blk.row (renL _ _) _ _ _), true), (some (Blk.row (renL _ _) _ _ _), true)]
    rw [← e1]
    have k1 := k1
    skip
    rw [k1.1, k1.2]; rfl
theorem litC_2_0 (a0 : Int) (a1 : Int) (a2 : Int) : okLit n0C 2097152 (zipA (bC2 (a0 + 1) a1 a2) kC_2_0) = true := by kernel_rfl
theorem keysC_2_0 (n i : Nat) (a0 : Int) (a1 : Int) (a2 : Int) : nodupQ (lmap (fun p => p.1) (lapp [(n0C, 2097168, .row (zrows 300 1 (i + 1)) 22 true []), (30, 30, .row (zrowsT 0 1 n) 22 true []), (31, 31, .row (zrowsT 100 1 n) 22 true [])] (zipA (bC2 (a0 + 1) a1 a2) kC_2_0))) = true := by kernel_rfl
theorem actsC_2_0 (n i : Nat) (a0 : Int) (a1 : Int) (a2 : Int) : nodupQ (actsOf (lapp [(n0C, 2097168, .row (zrows 300 1 (i + 1)) 22 true []), (30, 30, .row (zrowsT 0 1 n) 22 true []), (31, 31, .row (zrowsT 100 1 n) 22 true [])] (zipA (bC2 (a0 + 1) a1 a2) kC_2_0)) [(300 + i, 2097166, rowC [.int .i64 a1])]) = true := by kernel_rfl
theorem absC_2_0 {l : Nat → Bool} {n : Nat} {z : T Blk} (Zs : ZinC l n z) (hn : n ≤ 60) {i : Nat} (hi : i < n) (r : Nat) (a0 : Int) (a1 : Int) (a2 : Int) (hrow : rowC [.int .i64 a1] = outC l i) {env : Env} {h : H}
    (ho : obs [6, 7, 16, 17, 71, 72, 73] (actsOf (lapp [(n0C, 2097168, .row (zrows 300 1 (i + 1)) 22 true []), (30, 30, .row (zrowsT 0 1 n) 22 true []), (31, 31, .row (zrowsT 100 1 n) 22 true [])] (zipA (bC2 (a0 + 1) a1 a2) kC_2_0)) [(300 + i, 2097166, rowC [.int .i64 a1])]) (lapp [(n0C, 2097168, .row (zrows 300 1 (i + 1)) 22 true []), (30, 30, .row (zrowsT 0 1 n) 22 true []), (31, 31, .row (zrowsT 100 1 n) 22 true [])] (zipA (bC2 (a0 + 1) a1 a2) kC_2_0)) [(300 + i, 2097166, rowC [.int .i64 a1])] env h = expsR n0C (kpOf (zoC l z i)) (eC n (ggC r [0]) (.slc n0C 0 (i + 1) (i + 1) false 1) (i + 1)) [(n0C, 2097168, .row (zrows 300 1 (i + 1)) 22 true []), (30, 30, .row (zrowsT 0 1 n) 22 true []), (31, 31, .row (zrowsT 100 1 n) 22 true [])] (zipA (bC2 (a0 + 1) a1 a2) kC_2_0) [(300 + i, 2097166, rowC [.int .i64 a1])] (zoC l z i) [(some (.row (lapp (ltake (ldrop (zrows 300 1 i) 0) (Nat.mul i 1)) [.slc 2097166 0 1 1 false 1]) 22 true []), true), (some (.row (zrowsT 0 1 n) 22 true []), true), (some (.row (zrowsT 100 1 n) 22 true []), true)]) :
    ∃ σ, Abs n0C σ (stC l n z (i + 1) (ggC r [0]) (bC2 (a0 + 1) a1 a2)).env (stC l n z (i + 1) (ggC r [0]) (bC2 (a0 + 1) a1 a2)).h env h := by
  have hlit : okLit n0C 2097152 (lapp [(n0C, 2097168, .row (zrows 300 1 (i + 1)) 22 true []), (30, 30, .row (zrowsT 0 1 n) 22 true []), (31, 31, .row (zrowsT 100 1 n) 22 true [])] (zipA (bC2 (a0 + 1) a1 a2) kC_2_0)) = true := okLit_row rfl (belC_O (by omega)) (okLit_row rfl (belC_I hn) (okLit_row rfl (belC_W hn) (litC_2_0 a0 a1 a2)))
  have hZ3 : ∀ p ∈ ([(300 + i, 2097166, rowC [.int .i64 a1])] : List (Nat × Nat × Blk)), 300 ≤ p.1 := fun p hp => by rw [List.mem_singleton.1 hp]; show 300 ≤ 300 + i; omega
  have hnd : (([(300 + i, 2097166, rowC [.int .i64 a1])] : List (Nat × Nat × Blk)).map (·.1)).Nodup := by simp
  have k1 := keepIC Zs hn (i := i) hlit hZ3
  rw [expsR_eq] at ho
  · exact NewOK.abs (t := stC l n z (i + 1) (ggC r [0]) (bC2 (a0 + 1) a1 a2)) (A := lapp [(n0C, 2097168, .row (zrows 300 1 (i + 1)) 22 true []), (30, 30, .row (zrowsT 0 1 n) 22 true []), (31, 31, .row (zrowsT 100 1 n) 22 true [])] (zipA (bC2 (a0 + 1) a1 a2) kC_2_0)) (Z := [(300 + i, 2097166, rowC [.int .i64 a1])]) (z := (zoC l z i))
      ⟨by rw [lmap_app, zipA_B]; rfl, by show T.set (zoC l z i) (outC l i) (300 + i) = T.set (zoC l z i) (rowC [.int .i64 a1]) (300 + i); rw [hrow], by show 1049359 ≤ 2097152; decide, by kernel_rfl, hlit, keysC_2_0 n i a0 a1 a2, actsC_2_0 n i a0 a1 a2,
        fun p hp => by
          rw [List.mem_singleton.1 hp]
          refine ⟨by show 1049359 ≤ zn (300 + i); rw [zn_eq]; omega, by show zn (300 + i) < 2097152; rw [zn_eq]; omega, by show 1049359 ≤ 2097166; decide, by show 2097166 < 1000000000000; decide, by show 2097166 % 4096 ≠ 4095; decide, ?_⟩
          exact ⟨[a1], 3, true, rfl⟩,
        hnd, zoC_ok Zs (by omega)⟩ rfl rfl rfl rfl ho
  · have e1 : (lapp (ltake (ldrop (zrows 300 1 i) 0) (Nat.mul i 1)) [.slc 2097166 0 1 1 false 1]) = renL (szs n0C (namesOf (lapp [(n0C, 2097168, .row (zrows 300 1 (i + 1)) 22 true []), (30, 30, .row (zrowsT 0 1 n) 22 true []), (31, 31, .row (zrowsT 100 1 n) 22 true [])] (zipA (bC2 (a0 + 1) a1 a2) kC_2_0)) [(300 + i, 2097166, rowC [.int .i64 a1])]) (kpOf (zoC l z i))) (zrows 300 1 (i + 1)) := by
      refine zrows_grow (i := i) (fun j hj => ?_) (szs_row hlit (by show 1049359 ≤ zn (300 + i); rw [zn_eq]; omega) (List.mem_singleton.2 rfl) hnd)
      exact szs_zone hlit (zgrow_new hj) (fun p hp e => by rw [List.mem_singleton.1 hp] at e; have e : 300 + i = 300 + j := e; omega)
    show [(some (Blk.row _ _ _ _), true), (some (Blk.row _ _ _ _), true), (some (Blk.row _ _ _ _), true)] = [(some (Blk.row (renL _ _) _ _ _), true), (some (Blk.row (renL _ _) _ _ _), true), (some (Blk.row (renL _ _) _ _ _), true)]
    rw [← e1]
    have k1 := k1
    skip
    rw [k1.1, k1.2]; rfl
theorem litC_0_0 : okLit n0C 2097152 (zipA (bC3 1) kC_0_0) = true := by kernel_rfl
theorem keysC_0_0 (n : Nat) : nodupQ (lmap (fun p => p.1) (lapp [(n0C, 1049375, .row (zrows 300 1 1) 22 true []), (30, 30, .row (zrowsT 0 1 n) 22 true []), (31, 31, .row (zrowsT 100 1 n) 22 true [])] (zipA (bC3 1) kC_0_0))) = true := by kernel_rfl
theorem actsC_0_0 (n : Nat) : nodupQ (actsOf (lapp [(n0C, 1049375, .row (zrows 300 1 1) 22 true []), (30, 30, .row (zrowsT 0 1 n) 22 true []), (31, 31, .row (zrowsT 100 1 n) 22 true [])] (zipA (bC3 1) kC_0_0)) [(300, 1049373, rowC [.int .i64 0])]) = true := by kernel_rfl
theorem absC_0_0 {l : Nat → Bool} {n : Nat} {z : T Blk} (Zs : ZinC l n z) (hn : n ≤ 60) (hi : 0 < n) (r : Nat) (hrow : rowC [.int .i64 0] = outC l 0) {env : Env} {h : H}
    (ho : obs [6, 7, 16, 17, 71, 72, 73] (actsOf (lapp [(n0C, 1049375, .row (zrows 300 1 1) 22 true []), (30, 30, .row (zrowsT 0 1 n) 22 true []), (31, 31, .row (zrowsT 100 1 n) 22 true [])] (zipA (bC3 1) kC_0_0)) [(300, 1049373, rowC [.int .i64 0])]) (lapp [(n0C, 1049375, .row (zrows 300 1 1) 22 true []), (30, 30, .row (zrowsT 0 1 n) 22 true []), (31, 31, .row (zrowsT 100 1 n) 22 true [])] (zipA (bC3 1) kC_0_0)) [(300, 1049373, rowC [.int .i64 0])] env h = expsR n0C (kpOf z) (eC n (ggC r [0]) (.slc n0C 0 1 1 false 1) 1) [(n0C, 1049375, .row (zrows 300 1 1) 22 true []), (30, 30, .row (zrowsT 0 1 n) 22 true []), (31, 31, .row (zrowsT 100 1 n) 22 true [])] (zipA (bC3 1) kC_0_0) [(300, 1049373, rowC [.int .i64 0])] z [(some (.row [.slc 1049373 0 1 1 false 1] 22 true []), true), (some (.row (zrowsT 0 1 n) 22 true []), true), (some (.row (zrowsT 100 1 n) 22 true []), true)]) :
    ∃ σ, Abs n0C σ (stC l n z 1 (ggC r [0]) (bC3 1)).env (stC l n z 1 (ggC r [0]) (bC3 1)).h env h := by
  have hlit : okLit n0C 2097152 (lapp [(n0C, 1049375, .row (zrows 300 1 1) 22 true []), (30, 30, .row (zrowsT 0 1 n) 22 true []), (31, 31, .row (zrowsT 100 1 n) 22 true [])] (zipA (bC3 1) kC_0_0)) = true := okLit_row rfl (belC_O (by omega)) (okLit_row rfl (belC_I hn) (okLit_row rfl (belC_W hn) (litC_0_0)))
  have hZ3 : ∀ p ∈ ([(300, 1049373, rowC [.int .i64 0])] : List (Nat × Nat × Blk)), 300 ≤ p.1 := fun p hp => by rw [List.mem_singleton.1 hp]; show 300 ≤ 300; omega
  have hnd : (([(300, 1049373, rowC [.int .i64 0])] : List (Nat × Nat × Blk)).map (·.1)).Nodup := by simp
  have k1 := keepIC Zs hn (i := 0) hlit hZ3
  rw [expsR_eq] at ho
  · exact NewOK.abs (t := stC l n z 1 (ggC r [0]) (bC3 1)) (A := lapp [(n0C, 1049375, .row (zrows 300 1 1) 22 true []), (30, 30, .row (zrowsT 0 1 n) 22 true []), (31, 31, .row (zrowsT 100 1 n) 22 true [])] (zipA (bC3 1) kC_0_0)) (Z := [(300, 1049373, rowC [.int .i64 0])]) (z := z)
      ⟨by rw [lmap_app, zipA_B]; rfl, by show T.set z (outC l 0) (300 + 0) = T.set z (rowC [.int .i64 0]) 300; rw [hrow], by show 1049359 ≤ 2097152; decide, by kernel_rfl, hlit, keysC_0_0 n, actsC_0_0 n,
        fun p hp => by
          rw [List.mem_singleton.1 hp]
          refine ⟨by show 1049359 ≤ zn 300; rw [zn_eq]; omega, by show zn 300 < 2097152; rw [zn_eq]; omega, by show 1049359 ≤ 1049373; decide, by show 1049373 < 1000000000000; decide, by show 1049373 % 4096 ≠ 4095; decide, ?_⟩
          exact ⟨[0], 3, true, rfl⟩,
        hnd, by have := zoC_ok Zs (i := 0) (by omega); exact this⟩ rfl rfl rfl rfl ho
  · have e1 : [.slc 1049373 0 1 1 false 1] = renL (szs n0C (namesOf (lapp [(n0C, 1049375, .row (zrows 300 1 1) 22 true []), (30, 30, .row (zrowsT 0 1 n) 22 true []), (31, 31, .row (zrowsT 100 1 n) 22 true [])] (zipA (bC3 1) kC_0_0)) [(300, 1049373, rowC [.int .i64 0])]) (kpOf z)) (zrows 300 1 1) := by
      refine zrows_grow (i := 0) (fun j hj => ?_) (szs_row hlit (by show 1049359 ≤ zn (300 + 0); rw [zn_eq]; omega) (List.mem_singleton.2 rfl) hnd)
      omega
    show [(some (Blk.row _ _ _ _), true), (some (Blk.row _ _ _ _), true), (some (Blk.row _ _ _ _), true)] = [(some (Blk.row (renL _ _) _ _ _), true), (some (Blk.row (renL _ _) _ _ _), true), (some (Blk.row (renL _ _) _ _ _), true)]
    rw [← e1]
    have k1 := k1
    change renL (szs n0C (namesOf _ _) (kpOf z)) _ = _ ∧ renL (szs n0C (namesOf _ _) (kpOf z)) _ = _ at k1
    rw [k1.1, k1.2]; rfl
theorem litC_3_0 (a0 : Int) : okLit n0C 2097152 (zipA (bC3 (a0 + 1)) kC_3_0) = true := by kernel_rfl
theorem keysC_3_0 (n i : Nat) (a0 : Int) : nodupQ (lmap (fun p => p.1) (lapp [(n0C, 2097168, .row (zrows 300 1 (i + 1)) 22 true []), (30, 30, .row (zrowsT 0 1 n) 22 true []), (31, 31, .row (zrowsT 100 1 n) 22 true [])] (zipA (bC3 (a0 + 1)) kC_3_0))) = true := by kernel_rfl
theorem actsC_3_0 (n i : Nat) (a0 : Int) : nodupQ (actsOf (lapp [(n0C, 2097168, .row (zrows 300 1 (i + 1)) 22 true []), (30, 30, .row (zrowsT 0 1 n) 22 true []), (31, 31, .row (zrowsT 100 1 n) 22 true [])] (zipA (bC3 (a0 + 1)) kC_3_0)) [(300 + i, 2097166, rowC [.int .i64 0])]) = true := by kernel_rfl
theorem absC_3_0 {l : Nat → Bool} {n : Nat} {z : T Blk} (Zs : ZinC l n z) (hn : n ≤ 60) {i : Nat} (hi : i < n) (r : Nat) (a0 : Int) (hrow : rowC [.int .i64 0] = outC l i) {env : Env} {h : H}
    (ho : obs [6, 7, 16, 17, 71, 72, 73] (actsOf (lapp [(n0C, 2097168, .row (zrows 300 1 (i + 1)) 22 true []), (30, 30, .row (zrowsT 0 1 n) 22 true []), (31, 31, .row (zrowsT 100 1 n) 22 true [])] (zipA (bC3 (a0 + 1)) kC_3_0)) [(300 + i, 2097166, rowC [.int .i64 0])]) (lapp [(n0C, 2097168, .row (zrows 300 1 (i + 1)) 22 true []), (30, 30, .row (zrowsT 0 1 n) 22 true []), (31, 31, .row (zrowsT 100 1 n) 22 true [])] (zipA (bC3 (a0 + 1)) kC_3_0)) [(300 + i, 2097166, rowC [.int .i64 0])] env h = expsR n0C (kpOf (zoC l z i)) (eC n (ggC r [0]) (.slc n0C 0 (i + 1) (i + 1) false 1) (i + 1)) [(n0C, 2097168, .row (zrows 300 1 (i + 1)) 22 true []), (30, 30, .row (zrowsT 0 1 n) 22 true []), (31, 31, .row (zrowsT 100 1 n) 22 true [])] (zipA (bC3 (a0 + 1)) kC_3_0) [(300 + i, 2097166, rowC [.int .i64 0])] (zoC l z i) [(some (.row (lapp (ltake (ldrop (zrows 300 1 i) 0) (Nat.mul i 1)) [.slc 2097166 0 1 1 false 1]) 22 true []), true), (some (.row (zrowsT 0 1 n) 22 true []), true), (some (.row (zrowsT 100 1 n) 22 true []), true)]) :
    ∃ σ, Abs n0C σ (stC l n z (i + 1) (ggC r [0]) (bC3 (a0 + 1))).env (stC l n z (i + 1) (ggC r [0]) (bC3 (a0 + 1))).h env h := by
  have hlit : okLit n0C 2097152 (lapp [(n0C, 2097168, .row (zrows 300 1 (i + 1)) 22 true []), (30, 30, .row (zrowsT 0 1 n) 22 true []), (31, 31, .row (zrowsT 100 1 n) 22 true [])] (zipA (bC3 (a0 + 1)) kC_3_0)) = true := okLit_row rfl (belC_O (by omega)) (okLit_row rfl (belC_I hn) (okLit_row rfl (belC_W hn) (litC_3_0 a0)))
  have hZ3 : ∀ p ∈ ([(300 + i, 2097166, rowC [.int .i64 0])] : List (Nat × Nat × Blk)), 300 ≤ p.1 := fun p hp => by rw [List.mem_singleton.1 hp]; show 300 ≤ 300 + i; omega
  have hnd : (([(300 + i, 2097166, rowC [.int .i64 0])] : List (Nat × Nat × Blk)).map (·.1)).Nodup := by simp
  have k1 := keepIC Zs hn (i := i) hlit hZ3
  rw [expsR_eq] at ho
  · exact NewOK.abs (t := stC l n z (i + 1) (ggC r [0]) (bC3 (a0 + 1))) (A := lapp [(n0C, 2097168, .row (zrows 300 1 (i + 1)) 22 true []), (30, 30, .row (zrowsT 0 1 n) 22 true []), (31, 31, .row (zrowsT 100 1 n) 22 true [])] (zipA (bC3 (a0 + 1)) kC_3_0)) (Z := [(300 + i, 2097166, rowC [.int .i64 0])]) (z := (zoC l z i))
      ⟨by rw [lmap_app, zipA_B]; rfl, by show T.set (zoC l z i) (outC l i) (300 + i) = T.set (zoC l z i) (rowC [.int .i64 0]) (300 + i); rw [hrow], by show 1049359 ≤ 2097152; decide, by kernel_rfl, hlit, keysC_3_0 n i a0, actsC_3_0 n i a0,
        fun p hp => by
          rw [List.mem_singleton.1 hp]
          refine ⟨by show 1049359 ≤ zn (300 + i); rw [zn_eq]; omega, by show zn (300 + i) < 2097152; rw [zn_eq]; omega, by show 1049359 ≤ 2097166; decide, by show 2097166 < 1000000000000; decide, by show 2097166 % 4096 ≠ 4095; decide, ?_⟩
          exact ⟨[0], 3, true, rfl⟩,
        hnd, zoC_ok Zs (by omega)⟩ rfl rfl rfl rfl ho
  · have e1 : (lapp (ltake (ldrop (zrows 300 1 i) 0) (Nat.mul i 1)) [.slc 2097166 0 1 1 false 1]) = renL (szs n0C (namesOf (lapp [(n0C, 2097168, .row (zrows 300 1 (i + 1)) 22 true []), (30, 30, .row (zrowsT 0 1 n) 22 true []), (31, 31, .row (zrowsT 100 1 n) 22 true [])] (zipA (bC3 (a0 + 1)) kC_3_0)) [(300 + i, 2097166, rowC [.int .i64 0])]) (kpOf (zoC l z i))) (zrows 300 1 (i + 1)) := by
      refine zrows_grow (i := i) (fun j hj => ?_) (szs_row hlit (by show 1049359 ≤ zn (300 + i); rw [zn_eq]; omega) (List.mem_singleton.2 rfl) hnd)
      exact szs_zone hlit (zgrow_new hj) (fun p hp e => by rw [List.mem_singleton.1 hp] at e; have e : 300 + i = 300 + j := e; omega)
    show [(some (Blk.row _ _ _ _), true), (some (Blk.row _ _ _ _), true), (some (Blk.row _ _ _ _), true)] = [(some (Blk.row (renL _ _) _ _ _), true), (some (Blk.row (renL _ _) _ _ _), true), (some (Blk.row (renL _ _) _ _ _), true)]
    rw [← e1]
    have k1 := k1
    skip
    rw [k1.1, k1.2]; rfl
theorem litC_3_1 (a0 : Int) : okLit n0C 2097152 (zipA (bC1 (a0 + 1) 1 0 2) kC_3_1) = true := by kernel_rfl
theorem keysC_3_1 (n i : Nat) (a0 : Int) : nodupQ (lmap (fun p => p.1) (lapp [(n0C, 2097183, .row (zrows 300 1 (i + 1)) 22 true []), (30, 30, .row (zrowsT 0 1 n) 22 true []), (31, 31, .row (zrowsT 100 1 n) 22 true [])] (zipA (bC1 (a0 + 1) 1 0 2) kC_3_1))) = true := by kernel_rfl
theorem actsC_3_1 (n i : Nat) (a0 : Int) : nodupQ (actsOf (lapp [(n0C, 2097183, .row (zrows 300 1 (i + 1)) 22 true []), (30, 30, .row (zrowsT 0 1 n) 22 true []), (31, 31, .row (zrowsT 100 1 n) 22 true [])] (zipA (bC1 (a0 + 1) 1 0 2) kC_3_1)) [(300 + i, 2097181, rowC [.int .i64 1])]) = true := by kernel_rfl
theorem absC_3_1 {l : Nat → Bool} {n : Nat} {z : T Blk} (Zs : ZinC l n z) (hn : n ≤ 60) {i : Nat} (hi : i < n) (r : Nat) (a0 : Int) (hrow : rowC [.int .i64 1] = outC l i) {env : Env} {h : H}
    (ho : obs [6, 7, 16, 17, 71, 72, 73] (actsOf (lapp [(n0C, 2097183, .row (zrows 300 1 (i + 1)) 22 true []), (30, 30, .row (zrowsT 0 1 n) 22 true []), (31, 31, .row (zrowsT 100 1 n) 22 true [])] (zipA (bC1 (a0 + 1) 1 0 2) kC_3_1)) [(300 + i, 2097181, rowC [.int .i64 1])]) (lapp [(n0C, 2097183, .row (zrows 300 1 (i + 1)) 22 true []), (30, 30, .row (zrowsT 0 1 n) 22 true []), (31, 31, .row (zrowsT 100 1 n) 22 true [])] (zipA (bC1 (a0 + 1) 1 0 2) kC_3_1)) [(300 + i, 2097181, rowC [.int .i64 1])] env h = expsR n0C (kpOf (zoC l z i)) (eC n (ggC r [1]) (.slc n0C 0 (i + 1) (i + 1) false 1) (i + 1)) [(n0C, 2097183, .row (zrows 300 1 (i + 1)) 22 true []), (30, 30, .row (zrowsT 0 1 n) 22 true []), (31, 31, .row (zrowsT 100 1 n) 22 true [])] (zipA (bC1 (a0 + 1) 1 0 2) kC_3_1) [(300 + i, 2097181, rowC [.int .i64 1])] (zoC l z i) [(some (.row (lapp (ltake (ldrop (zrows 300 1 i) 0) (Nat.mul i 1)) [.slc 2097181 0 1 1 false 1]) 22 true []), true), (some (.row (zrowsT 0 1 n) 22 true []), true), (some (.row (zrowsT 100 1 n) 22 true []), true)]) :
    ∃ σ, Abs n0C σ (stC l n z (i + 1) (ggC r [1]) (bC1 (a0 + 1) 1 0 2)).env (stC l n z (i + 1) (ggC r [1]) (bC1 (a0 + 1) 1 0 2)).h env h := by
  have hlit : okLit n0C 2097152 (lapp [(n0C, 2097183, .row (zrows 300 1 (i + 1)) 22 true []), (30, 30, .row (zrowsT 0 1 n) 22 true []), (31, 31, .row (zrowsT 100 1 n) 22 true [])] (zipA (bC1 (a0 + 1) 1 0 2) kC_3_1)) = true := okLit_row rfl (belC_O (by omega)) (okLit_row rfl (belC_I hn) (okLit_row rfl (belC_W hn) (litC_3_1 a0)))
  have hZ3 : ∀ p ∈ ([(300 + i, 2097181, rowC [.int .i64 1])] : List (Nat × Nat × Blk)), 300 ≤ p.1 := fun p hp => by rw [List.mem_singleton.1 hp]; show 300 ≤ 300 + i; omega
  have hnd : (([(300 + i, 2097181, rowC [.int .i64 1])] : List (Nat × Nat × Blk)).map (·.1)).Nodup := by simp
  have k1 := keepIC Zs hn (i := i) hlit hZ3
  rw [expsR_eq] at ho
  · exact NewOK.abs (t := stC l n z (i + 1) (ggC r [1]) (bC1 (a0 + 1) 1 0 2)) (A := lapp [(n0C, 2097183, .row (zrows 300 1 (i + 1)) 22 true []), (30, 30, .row (zrowsT 0 1 n) 22 true []), (31, 31, .row (zrowsT 100 1 n) 22 true [])] (zipA (bC1 (a0 + 1) 1 0 2) kC_3_1)) (Z := [(300 + i, 2097181, rowC [.int .i64 1])]) (z := (zoC l z i))
      ⟨by rw [lmap_app, zipA_B]; rfl, by show T.set (zoC l z i) (outC l i) (300 + i) = T.set (zoC l z i) (rowC [.int .i64 1]) (300 + i); rw [hrow], by show 1049359 ≤ 2097152; decide, by kernel_rfl, hlit, keysC_3_1 n i a0, actsC_3_1 n i a0,
        fun p hp => by
          rw [List.mem_singleton.1 hp]
          refine ⟨by show 1049359 ≤ zn (300 + i); rw [zn_eq]; omega, by show zn (300 + i) < 2097152; rw [zn_eq]; omega, by show 1049359 ≤ 2097181; decide, by show 2097181 < 1000000000000; decide, by show 2097181 % 4096 ≠ 4095; decide, ?_⟩
          exact ⟨[1], 3, true, rfl⟩,
        hnd, zoC_ok Zs (by omega)⟩ rfl rfl rfl rfl ho
  · have e1 : (lapp (ltake (ldrop (zrows 300 1 i) 0) (Nat.mul i 1)) [.slc 2097181 0 1 1 false 1]) = renL (szs n0C (namesOf (lapp [(n0C, 2097183, .row (zrows 300 1 (i + 1)) 22 true []), (30, 30, .row (zrowsT 0 1 n) 22 true []), (31, 31, .row (zrowsT 100 1 n) 22 true [])] (zipA (bC1 (a0 + 1) 1 0 2) kC_3_1)) [(300 + i, 2097181, rowC [.int .i64 1])]) (kpOf (zoC l z i))) (zrows 300 1 (i + 1)) := by
      refine zrows_grow (i := i) (fun j hj => ?_) (szs_row hlit (by show 1049359 ≤ zn (300 + i); rw [zn_eq]; omega) (List.mem_singleton.2 rfl) hnd)
      exact szs_zone hlit (zgrow_new hj) (fun p hp e => by rw [List.mem_singleton.1 hp] at e; have e : 300 + i = 300 + j := e; omega)
    show [(some (Blk.row _ _ _ _), true), (some (Blk.row _ _ _ _), true), (some (Blk.row _ _ _ _), true)] = [(some (Blk.row (renL _ _) _ _ _), true), (some (Blk.row (renL _ _) _ _ _), true), (some (Blk.row (renL _ _) _ _ _), true)]
    rw [← e1]
    have k1 := k1
    skip
    rw [k1.1, k1.2]; rfl
theorem useC_0_1 {l : Nat → Bool} {n : Nat} {z : T Blk} (Zs : ZinC l n z) (hn : n ≤ 60) (hi : 0 < n) (hrow : rowC [.int .i64 1] = outC l 0)
    (hcI : cellIs ⟨mkB z (lapp (rr0C (zrowsT 0 1 n) (zrowsT 100 1 n)) bC0), n0C⟩ 30 0 (.row (zn 0) 1 (fun k => Option.rec 0 (fun x => x) (lget [1] k)))) (hcR : cellsAre ⟨mkB z (lapp (rr0C (zrowsT 0 1 n) (zrowsT 100 1 n)) bC0), n0C⟩ (zn 0) (fun k => .sc (Option.rec 0 (fun x => x) (lget ([1] : List Int) k))) 1 0)
    {K : KE} (hK : ∀ env h ds σ, Abs n0C σ (stC l n z 1 (ggC (zn 0) [1]) (bC1 1 1 0 2)).env (stC l n z 1 (ggC (zn 0) [1]) (bC1 1 1 0 2)).h env h → K .nrm env h ds) :
    xcode C1 Tryz.prog F 14 (loopC Tryz.prog 14 22) (mask 14) (tmpsN Tryz.prog 14) (mkE (eC n (ggC (zn 0) [1]) .nils 0)) ⟨mkB z (lapp (rr0C (zrowsT 0 1 n) (zrowsT 100 1 n)) bC0), n0C⟩ dC_0_1 K :=
  round_use2 good1.spl (fun Kv => tC_0_1 z (zrowsT 0 1 n) (zrowsT 100 1 n) n (zn 0) Kv)
    (bcase_tt (dcq_lt (by simp only [Int.ofNat_eq_natCast]; omega)) (bcase_tt (inB_of hi) ⟨hcI, hcR, (fun env h ds ho => (absC_0_1 Zs hn hi (zn 0) hrow ho).elim fun σ ab => hK env h ds σ ab)⟩))
theorem useC_1_0 {l : Nat → Bool} {n : Nat} {z : T Blk} (Zs : ZinC l n z) (hn : n ≤ 60) {i : Nat} (hi : i < n) (a0 : Int) (a1 : Int) (a2 : Int) (a3 : Int) (ha0 : 0 ≤ a0) (ha0' : a0 ≤ 100) (hrow : rowC [.int .i64 a1] = outC l i)
    (hcI : cellIs ⟨mkB (zoC l z i) (lapp (rrC (zrows 300 1 i) (zrowsT 0 1 n) (zrowsT 100 1 n)) (bC1 a0 a1 a2 a3)), 2097152⟩ 30 (Nat.add 0 (Nat.mul (Int.toNat (Int.ofNat i)) 1)) (.row (zn i) 1 (fun k => Option.rec 0 (fun x => x) (lget [0] k)))) (hcR : cellsAre ⟨mkB (zoC l z i) (lapp (rrC (zrows 300 1 i) (zrowsT 0 1 n) (zrowsT 100 1 n)) (bC1 a0 a1 a2 a3)), 2097152⟩ (zn i) (fun k => .sc (Option.rec 0 (fun x => x) (lget ([0] : List Int) k))) 1 0)
    {K : KE} (hK : ∀ env h ds σ, Abs n0C σ (stC l n z (i + 1) (ggC (zn i) [0]) (bC2 (a0 + 1) a1 a3)).env (stC l n z (i + 1) (ggC (zn i) [0]) (bC2 (a0 + 1) a1 a3)).h env h → K .nrm env h ds) :
    xcode C1 Tryz.prog F 14 (loopC Tryz.prog 14 22) (mask 14) (tmpsN Tryz.prog 14) (mkE (eC n (ggC (zn i) [0]) (.slc n0C 0 i i false 1) i)) ⟨mkB (zoC l z i) (lapp (rrC (zrows 300 1 i) (zrowsT 0 1 n) (zrowsT 100 1 n)) (bC1 a0 a1 a2 a3)), 2097152⟩ dC_1_0 K :=
  round_use2 good1.spl (fun Kv => tC_1_0 (zoC l z i) (zrowsT 0 1 n) (zrowsT 100 1 n) n i (zn i) a0 a1 a2 a3 Kv)
    (bcase_tt (dcq_lt (by simp only [Int.ofNat_eq_natCast]; omega)) (bcase_tt (inB_of hi) ⟨hcI, hcR, (bcase_tt (inR_i64 (by omega) (by omega)) (bcase_tt (dcq_ne (by omega)) (bcase_tt (dcq_ne (by omega)) (bcase_tt (dcq_eq (by omega)) (bcase_tt (dcq_ne (by omega)) (bcase_tt (dcq_ne (by omega)) (bcase_tt (dcq_ne (by omega)) (bcase_tt (dcq_eq (by omega)) (bcase_tt (dcq_eq (by omega)) (bcase_tt (dcq_eq (by omega)) (bcase_tt (dcq_cap i) (bcase_tt (appC_ok (by rw [zrows_len]) (by omega)) (bcase_any (bcase_tt (inR_add (by omega)) (fun env h ds ho => (absC_1_0 Zs hn hi (zn i) a0 a1 a2 a3 hrow ho).elim fun σ ab => hK env h ds σ ab)) (bcase_tt (inR_add (by omega)) (fun env h ds ho => (absC_1_0 Zs hn hi (zn i) a0 a1 a2 a3 hrow ho).elim fun σ ab => hK env h ds σ ab)))))))))))))))⟩))
theorem useC_2_1 {l : Nat → Bool} {n : Nat} {z : T Blk} (Zs : ZinC l n z) (hn : n ≤ 60) {i : Nat} (hi : i < n) (a0 : Int) (a1 : Int) (a2 : Int) (ha0 : 0 ≤ a0) (ha0' : a0 ≤ 100) (ha2 : 0 ≤ a2) (ha2' : a2 ≤ 100) (hrow : rowC [.int .i64 a2] = outC l i)
    (hcI : cellIs ⟨mkB (zoC l z i) (lapp (rrC (zrows 300 1 i) (zrowsT 0 1 n) (zrowsT 100 1 n)) (bC2 a0 a1 a2)), 2097152⟩ 30 (Nat.add 0 (Nat.mul (Int.toNat (Int.ofNat i)) 1)) (.row (zn i) 1 (fun k => Option.rec 0 (fun x => x) (lget [1] k)))) (hcR : cellsAre ⟨mkB (zoC l z i) (lapp (rrC (zrows 300 1 i) (zrowsT 0 1 n) (zrowsT 100 1 n)) (bC2 a0 a1 a2)), 2097152⟩ (zn i) (fun k => .sc (Option.rec 0 (fun x => x) (lget ([1] : List Int) k))) 1 0)
    {K : KE} (hK : ∀ env h ds σ, Abs n0C σ (stC l n z (i + 1) (ggC (zn i) [1]) (bC1 (a0 + 1) a2 a1 (a2 + 1))).env (stC l n z (i + 1) (ggC (zn i) [1]) (bC1 (a0 + 1) a2 a1 (a2 + 1))).h env h → K .nrm env h ds) :
    xcode C1 Tryz.prog F 14 (loopC Tryz.prog 14 22) (mask 14) (tmpsN Tryz.prog 14) (mkE (eC n (ggC (zn i) [1]) (.slc n0C 0 i i false 1) i)) ⟨mkB (zoC l z i) (lapp (rrC (zrows 300 1 i) (zrowsT 0 1 n) (zrowsT 100 1 n)) (bC2 a0 a1 a2)), 2097152⟩ dC_2_1 K :=
  round_use2 good1.spl (fun Kv => tC_2_1 (zoC l z i) (zrowsT 0 1 n) (zrowsT 100 1 n) n i (zn i) a0 a1 a2 Kv)
    (bcase_tt (dcq_lt (by simp only [Int.ofNat_eq_natCast]; omega)) (bcase_tt (inB_of hi) ⟨hcI, hcR, (bcase_tt (inR_i64 (by omega) (by omega)) (bcase_tt (dcq_ne (by omega)) (bcase_tt (dcq_ne (by omega)) (bcase_tt (dcq_eq (by omega)) (bcase_tt (dcq_ne (by omega)) (bcase_tt (dcq_ne (by omega)) (bcase_tt (dcq_ne (by omega)) (bcase_tt (dcq_eq (by omega)) (bcase_tt (dcq_eq (by omega)) (bcase_tt (dcq_eq (by omega)) (bcase_tt (inR_u8 (by omega) (by omega)) (bcase_tt (inR_i64 (by omega) (by omega)) (bcase_tt (dcq_eq (by omega)) (bcase_tt (inR_i64 (by omega) (by omega)) (bcase_tt (inR_u8 (by omega) (by omega)) (bcase_tt (inR_i64 (by omega) (by omega)) (bcase_tt (dcq_eq (by omega)) (bcase_tt (dcq_cap i) (bcase_tt (appC_ok (by rw [zrows_len]) (by omega)) (bcase_any (bcase_tt (inR_add (by omega)) (fun env h ds ho => (absC_2_1 Zs hn hi (zn i) a0 a1 a2 hrow ho).elim fun σ ab => hK env h ds σ ab)) (bcase_tt (inR_add (by omega)) (fun env h ds ho => (absC_2_1 Zs hn hi (zn i) a0 a1 a2 hrow ho).elim fun σ ab => hK env h ds σ ab))))))))))))))))))))))⟩))
theorem useC_1_1 {l : Nat → Bool} {n : Nat} {z : T Blk} (Zs : ZinC l n z) (hn : n ≤ 60) {i : Nat} (hi : i < n) (a0 : Int) (a1 : Int) (a2 : Int) (a3 : Int) (ha0 : 0 ≤ a0) (ha0' : a0 ≤ 100) (ha3 : 0 ≤ a3) (ha3' : a3 ≤ 100) (hrow : rowC [.int .i64 a3] = outC l i)
    (hcI : cellIs ⟨mkB (zoC l z i) (lapp (rrC (zrows 300 1 i) (zrowsT 0 1 n) (zrowsT 100 1 n)) (bC1 a0 a1 a2 a3)), 2097152⟩ 30 (Nat.add 0 (Nat.mul (Int.toNat (Int.ofNat i)) 1)) (.row (zn i) 1 (fun k => Option.rec 0 (fun x => x) (lget [1] k)))) (hcR : cellsAre ⟨mkB (zoC l z i) (lapp (rrC (zrows 300 1 i) (zrowsT 0 1 n) (zrowsT 100 1 n)) (bC1 a0 a1 a2 a3)), 2097152⟩ (zn i) (fun k => .sc (Option.rec 0 (fun x => x) (lget ([1] : List Int) k))) 1 0)
    {K : KE} (hK : ∀ env h ds σ, Abs n0C σ (stC l n z (i + 1) (ggC (zn i) [1]) (bC1 (a0 + 1) a3 a1 (a3 + 1))).env (stC l n z (i + 1) (ggC (zn i) [1]) (bC1 (a0 + 1) a3 a1 (a3 + 1))).h env h → K .nrm env h ds) :
    xcode C1 Tryz.prog F 14 (loopC Tryz.prog 14 22) (mask 14) (tmpsN Tryz.prog 14) (mkE (eC n (ggC (zn i) [1]) (.slc n0C 0 i i false 1) i)) ⟨mkB (zoC l z i) (lapp (rrC (zrows 300 1 i) (zrowsT 0 1 n) (zrowsT 100 1 n)) (bC1 a0 a1 a2 a3)), 2097152⟩ dC_1_1 K :=
  round_use2 good1.spl (fun Kv => tC_1_1 (zoC l z i) (zrowsT 0 1 n) (zrowsT 100 1 n) n i (zn i) a0 a1 a2 a3 Kv)
    (bcase_tt (dcq_lt (by simp only [Int.ofNat_eq_natCast]; omega)) (bcase_tt (inB_of hi) ⟨hcI, hcR, (bcase_tt (inR_i64 (by omega) (by omega)) (bcase_tt (dcq_ne (by omega)) (bcase_tt (dcq_ne (by omega)) (bcase_tt (dcq_eq (by omega)) (bcase_tt (dcq_ne (by omega)) (bcase_tt (dcq_ne (by omega)) (bcase_tt (dcq_ne (by omega)) (bcase_tt (dcq_eq (by omega)) (bcase_tt (dcq_eq (by omega)) (bcase_tt (dcq_eq (by omega)) (bcase_tt (inR_u8 (by omega) (by omega)) (bcase_tt (inR_i64 (by omega) (by omega)) (bcase_tt (dcq_eq (by omega)) (bcase_tt (inR_i64 (by omega) (by omega)) (bcase_tt (inR_u8 (by omega) (by omega)) (bcase_tt (inR_i64 (by omega) (by omega)) (bcase_tt (dcq_eq (by omega)) (bcase_tt (dcq_cap i) (bcase_tt (appC_ok (by rw [zrows_len]) (by omega)) (bcase_any (bcase_tt (inR_add (by omega)) (fun env h ds ho => (absC_1_1 Zs hn hi (zn i) a0 a1 a2 a3 hrow ho).elim fun σ ab => hK env h ds σ ab)) (bcase_tt (inR_add (by omega)) (fun env h ds ho => (absC_1_1 Zs hn hi (zn i) a0 a1 a2 a3 hrow ho).elim fun σ ab => hK env h ds σ ab))))))))))))))))))))))⟩))
theorem useC_2_0 {l : Nat → Bool} {n : Nat} {z : T Blk} (Zs : ZinC l n z) (hn : n ≤ 60) {i : Nat} (hi : i < n) (a0 : Int) (a1 : Int) (a2 : Int) (ha0 : 0 ≤ a0) (ha0' : a0 ≤ 100) (hrow : rowC [.int .i64 a1] = outC l i)
    (hcI : cellIs ⟨mkB (zoC l z i) (lapp (rrC (zrows 300 1 i) (zrowsT 0 1 n) (zrowsT 100 1 n)) (bC2 a0 a1 a2)), 2097152⟩ 30 (Nat.add 0 (Nat.mul (Int.toNat (Int.ofNat i)) 1)) (.row (zn i) 1 (fun k => Option.rec 0 (fun x => x) (lget [0] k)))) (hcR : cellsAre ⟨mkB (zoC l z i) (lapp (rrC (zrows 300 1 i) (zrowsT 0 1 n) (zrowsT 100 1 n)) (bC2 a0 a1 a2)), 2097152⟩ (zn i) (fun k => .sc (Option.rec 0 (fun x => x) (lget ([0] : List Int) k))) 1 0)
    {K : KE} (hK : ∀ env h ds σ, Abs n0C σ (stC l n z (i + 1) (ggC (zn i) [0]) (bC2 (a0 + 1) a1 a2)).env (stC l n z (i + 1) (ggC (zn i) [0]) (bC2 (a0 + 1) a1 a2)).h env h → K .nrm env h ds) :
    xcode C1 Tryz.prog F 14 (loopC Tryz.prog 14 22) (mask 14) (tmpsN Tryz.prog 14) (mkE (eC n (ggC (zn i) [0]) (.slc n0C 0 i i false 1) i)) ⟨mkB (zoC l z i) (lapp (rrC (zrows 300 1 i) (zrowsT 0 1 n) (zrowsT 100 1 n)) (bC2 a0 a1 a2)), 2097152⟩ dC_2_0 K :=
  round_use2 good1.spl (fun Kv => tC_2_0 (zoC l z i) (zrowsT 0 1 n) (zrowsT 100 1 n) n i (zn i) a0 a1 a2 Kv)
    (bcase_tt (dcq_lt (by simp only [Int.ofNat_eq_natCast]; omega)) (bcase_tt (inB_of hi) ⟨hcI, hcR, (bcase_tt (inR_i64 (by omega) (by omega)) (bcase_tt (dcq_ne (by omega)) (bcase_tt (dcq_ne (by omega)) (bcase_tt (dcq_eq (by omega)) (bcase_tt (dcq_ne (by omega)) (bcase_tt (dcq_ne (by omega)) (bcase_tt (dcq_ne (by omega)) (bcase_tt (dcq_eq (by omega)) (bcase_tt (dcq_eq (by omega)) (bcase_tt (dcq_eq (by omega)) (bcase_tt (dcq_cap i) (bcase_tt (appC_ok (by rw [zrows_len]) (by omega)) (bcase_any (bcase_tt (inR_add (by omega)) (fun env h ds ho => (absC_2_0 Zs hn hi (zn i) a0 a1 a2 hrow ho).elim fun σ ab => hK env h ds σ ab)) (bcase_tt (inR_add (by omega)) (fun env h ds ho => (absC_2_0 Zs hn hi (zn i) a0 a1 a2 hrow ho).elim fun σ ab => hK env h ds σ ab)))))))))))))))⟩))
theorem useC_0_0 {l : Nat → Bool} {n : Nat} {z : T Blk} (Zs : ZinC l n z) (hn : n ≤ 60) (hi : 0 < n) (hrow : rowC [.int .i64 0] = outC l 0)
    (hcI : cellIs ⟨mkB z (lapp (rr0C (zrowsT 0 1 n) (zrowsT 100 1 n)) bC0), n0C⟩ 30 0 (.row (zn 0) 1 (fun k => Option.rec 0 (fun x => x) (lget [0] k)))) (hcR : cellsAre ⟨mkB z (lapp (rr0C (zrowsT 0 1 n) (zrowsT 100 1 n)) bC0), n0C⟩ (zn 0) (fun k => .sc (Option.rec 0 (fun x => x) (lget ([0] : List Int) k))) 1 0)
    {K : KE} (hK : ∀ env h ds σ, Abs n0C σ (stC l n z 1 (ggC (zn 0) [0]) (bC3 1)).env (stC l n z 1 (ggC (zn 0) [0]) (bC3 1)).h env h → K .nrm env h ds) :
    xcode C1 Tryz.prog F 14 (loopC Tryz.prog 14 22) (mask 14) (tmpsN Tryz.prog 14) (mkE (eC n (ggC (zn 0) [0]) .nils 0)) ⟨mkB z (lapp (rr0C (zrowsT 0 1 n) (zrowsT 100 1 n)) bC0), n0C⟩ dC_0_0 K :=
  round_use2 good1.spl (fun Kv => tC_0_0 z (zrowsT 0 1 n) (zrowsT 100 1 n) n (zn 0) Kv)
    (bcase_tt (dcq_lt (by simp only [Int.ofNat_eq_natCast]; omega)) (bcase_tt (inB_of hi) ⟨hcI, hcR, (fun env h ds ho => (absC_0_0 Zs hn hi (zn 0) hrow ho).elim fun σ ab => hK env h ds σ ab)⟩))
theorem useC_3_0 {l : Nat → Bool} {n : Nat} {z : T Blk} (Zs : ZinC l n z) (hn : n ≤ 60) {i : Nat} (hi : i < n) (a0 : Int) (ha0 : 0 ≤ a0) (ha0' : a0 ≤ 100) (hrow : rowC [.int .i64 0] = outC l i)
    (hcI : cellIs ⟨mkB (zoC l z i) (lapp (rrC (zrows 300 1 i) (zrowsT 0 1 n) (zrowsT 100 1 n)) (bC3 a0)), 2097152⟩ 30 (Nat.add 0 (Nat.mul (Int.toNat (Int.ofNat i)) 1)) (.row (zn i) 1 (fun k => Option.rec 0 (fun x => x) (lget [0] k)))) (hcR : cellsAre ⟨mkB (zoC l z i) (lapp (rrC (zrows 300 1 i) (zrowsT 0 1 n) (zrowsT 100 1 n)) (bC3 a0)), 2097152⟩ (zn i) (fun k => .sc (Option.rec 0 (fun x => x) (lget ([0] : List Int) k))) 1 0)
    {K : KE} (hK : ∀ env h ds σ, Abs n0C σ (stC l n z (i + 1) (ggC (zn i) [0]) (bC3 (a0 + 1))).env (stC l n z (i + 1) (ggC (zn i) [0]) (bC3 (a0 + 1))).h env h → K .nrm env h ds) :
    xcode C1 Tryz.prog F 14 (loopC Tryz.prog 14 22) (mask 14) (tmpsN Tryz.prog 14) (mkE (eC n (ggC (zn i) [0]) (.slc n0C 0 i i false 1) i)) ⟨mkB (zoC l z i) (lapp (rrC (zrows 300 1 i) (zrowsT 0 1 n) (zrowsT 100 1 n)) (bC3 a0)), 2097152⟩ dC_3_0 K :=
  round_use2 good1.spl (fun Kv => tC_3_0 (zoC l z i) (zrowsT 0 1 n) (zrowsT 100 1 n) n i (zn i) a0 Kv)
    (bcase_tt (dcq_lt (by simp only [Int.ofNat_eq_natCast]; omega)) (bcase_tt (inB_of hi) ⟨hcI, hcR, (bcase_tt (inR_i64 (by omega) (by omega)) (bcase_tt (dcq_ne (by omega)) (bcase_tt (dcq_ne (by omega)) (bcase_tt (dcq_eq (by omega)) (bcase_tt (dcq_ne (by omega)) (bcase_tt (dcq_ne (by omega)) (bcase_tt (dcq_ne (by omega)) (bcase_tt (dcq_eq (by omega)) (bcase_tt (dcq_eq (by omega)) (bcase_tt (dcq_eq (by omega)) (bcase_tt (dcq_cap i) (bcase_tt (appC_ok (by rw [zrows_len]) (by omega)) (bcase_any (bcase_tt (inR_add (by omega)) (fun env h ds ho => (absC_3_0 Zs hn hi (zn i) a0 hrow ho).elim fun σ ab => hK env h ds σ ab)) (bcase_tt (inR_add (by omega)) (fun env h ds ho => (absC_3_0 Zs hn hi (zn i) a0 hrow ho).elim fun σ ab => hK env h ds σ ab)))))))))))))))⟩))
theorem useC_3_1 {l : Nat → Bool} {n : Nat} {z : T Blk} (Zs : ZinC l n z) (hn : n ≤ 60) {i : Nat} (hi : i < n) (a0 : Int) (ha0 : 0 ≤ a0) (ha0' : a0 ≤ 100) (hrow : rowC [.int .i64 1] = outC l i)
    (hcI : cellIs ⟨mkB (zoC l z i) (lapp (rrC (zrows 300 1 i) (zrowsT 0 1 n) (zrowsT 100 1 n)) (bC3 a0)), 2097152⟩ 30 (Nat.add 0 (Nat.mul (Int.toNat (Int.ofNat i)) 1)) (.row (zn i) 1 (fun k => Option.rec 0 (fun x => x) (lget [1] k)))) (hcR : cellsAre ⟨mkB (zoC l z i) (lapp (rrC (zrows 300 1 i) (zrowsT 0 1 n) (zrowsT 100 1 n)) (bC3 a0)), 2097152⟩ (zn i) (fun k => .sc (Option.rec 0 (fun x => x) (lget ([1] : List Int) k))) 1 0)
    {K : KE} (hK : ∀ env h ds σ, Abs n0C σ (stC l n z (i + 1) (ggC (zn i) [1]) (bC1 (a0 + 1) 1 0 2)).env (stC l n z (i + 1) (ggC (zn i) [1]) (bC1 (a0 + 1) 1 0 2)).h env h → K .nrm env h ds) :
    xcode C1 Tryz.prog F 14 (loopC Tryz.prog 14 22) (mask 14) (tmpsN Tryz.prog 14) (mkE (eC n (ggC (zn i) [1]) (.slc n0C 0 i i false 1) i)) ⟨mkB (zoC l z i) (lapp (rrC (zrows 300 1 i) (zrowsT 0 1 n) (zrowsT 100 1 n)) (bC3 a0)), 2097152⟩ dC_3_1 K :=
  round_use2 good1.spl (fun Kv => tC_3_1 (zoC l z i) (zrowsT 0 1 n) (zrowsT 100 1 n) n i (zn i) a0 Kv)
    (bcase_tt (dcq_lt (by simp only [Int.ofNat_eq_natCast]; omega)) (bcase_tt (inB_of hi) ⟨hcI, hcR, (bcase_tt (inR_i64 (by omega) (by omega)) (bcase_tt (dcq_ne (by omega)) (bcase_tt (dcq_ne (by omega)) (bcase_tt (dcq_eq (by omega)) (bcase_tt (dcq_ne (by omega)) (bcase_tt (dcq_ne (by omega)) (bcase_tt (dcq_ne (by omega)) (bcase_tt (dcq_eq (by omega)) (bcase_tt (dcq_eq (by omega)) (bcase_tt (dcq_eq (by omega)) (bcase_tt (dcq_eq (by omega)) (bcase_tt (dcq_cap i) (bcase_tt (appC_ok (by rw [zrows_len]) (by omega)) (bcase_any (bcase_tt (inR_add (by omega)) (fun env h ds ho => (absC_3_1 Zs hn hi (zn i) a0 hrow ho).elim fun σ ab => hK env h ds σ ab)) (bcase_tt (inR_add (by omega)) (fun env h ds ho => (absC_3_1 Zs hn hi (zn i) a0 hrow ho).elim fun σ ab => hK env h ds σ ab))))))))))))))))⟩))
end
end Go.Proofs.YtkfhjobebhdpoaaGreat
/- Stream: Run's loop over ticks, as a contract (the program of StreamClocks). -/
set_option autoImplicit false
set_option maxRecDepth 1000000
set_option maxHeartbeats 2000000
set_option linter.unusedVariables false
namespace Go.Proofs.YtkfhjobebhdpoaaGreat
noncomputable section
open Go.X
inductive SC where
  | s0 (g : Nat → CV)
  | s1 (i : Nat) (a0 : Int) (a1 : Int) (a2 : Int) (a3 : Int) (g : Nat → CV)
  | s2 (i : Nat) (a0 : Int) (a1 : Int) (a2 : Int) (g : Nat → CV)
  | s3 (i : Nat) (a0 : Int) (g : Nat → CV)
def SC.ok (l : Nat → Bool) (n : Nat) : SC → Prop
  | .s0 _ => True
  | .s1 i a0 a1 a2 a3 _ => 1 ≤ i ∧ i ≤ n ∧ a0 = (i : Int) ∧ a1 = cntC l i ∧ a3 = a1 + 1
  | .s2 i a0 a1 a2 _ => 1 ≤ i ∧ i ≤ n ∧ a0 = (i : Int) ∧ a1 = cntC l i ∧ a2 = a1 + 1
  | .s3 i a0 _ => 1 ≤ i ∧ i ≤ n ∧ a0 = (i : Int) ∧ cntC l i = 0
def SC.st (l : Nat → Bool) (n : Nat) (z : T Blk) : SC → ZS
  | .s0 g => ⟨eC n g .nils 0, lapp (rr0C (zrowsT 0 1 n) (zrowsT 100 1 n)) bC0, z, n0C⟩
  | .s1 i a0 a1 a2 a3 g => stC l n z i g (bC1 a0 a1 a2 a3)
  | .s2 i a0 a1 a2 g => stC l n z i g (bC2 a0 a1 a2)
  | .s3 i a0 g => stC l n z i g (bC3 a0)
def SC.er (l : Nat → Bool) (n : Nat) : SC → List (Nat × AV)
  | .s0 _ => eC n (ggC (zn 0) [bi (l 0)]) .nils 0
  | .s1 i _ _ _ _ _ => eC n (ggC (zn i) [bi (l i)]) (.slc n0C 0 i i false 1) i
  | .s2 i _ _ _ _ => eC n (ggC (zn i) [bi (l i)]) (.slc n0C 0 i i false 1) i
  | .s3 i _ _ => eC n (ggC (zn i) [bi (l i)]) (.slc n0C 0 i i false 1) i
def SC.dr (l : Nat → Bool) (n : Nat) : SC → List Bool
  | .s0 _ => (cond (l 0) dC_0_1 dC_0_0)
  | .s1 i _ _ _ _ _ => cond (Nat.ble (i + 1) n) (cond (l i) dC_1_1 dC_1_0) [false]
  | .s2 i _ _ _ _ => cond (Nat.ble (i + 1) n) (cond (l i) dC_2_1 dC_2_0) [false]
  | .s3 i _ _ => cond (Nat.ble (i + 1) n) (cond (l i) dC_3_1 dC_3_0) [false]
def SC.mu (n : Nat) : SC → Nat
  | .s0 _ => n + 1
  | .s1 i _ _ _ _ _ => n - i
  | .s2 i _ _ _ _ => n - i
  | .s3 i _ _ => n - i
theorem pe_eC (n : Nat) (g g' : Nat → CV) (out : AV) (i : Nat) : Pe (eC n g out i) (eC n g' out i) :=
  .cons _ _ _ _ _ (.inl rfl) (.cons _ _ _ _ _ (.inl rfl) (.cons _ _ _ _ _ (.inl rfl) (.cons _ _ _ _ _ (.inl rfl) (.cons _ _ _ _ _ (.inr ⟨_, _, _, _, _, rfl, rfl⟩) (.cons _ _ _ _ _ (.inl rfl) (.cons _ _ _ _ _ (.inl rfl) .nil))))))
theorem done_C1 {l : Nat → Bool} {n : Nat} {z : T Blk} (Zs : ZinC l n z) (hn : n ≤ 60) (R : List (Nat × Nat × Blk)) (hR : R = [(n0C, n0C, .row (zrows 300 1 n) 22 true []), (30, 30, .row (zrowsT 0 1 n) 22 true []), (31, 31, .row (zrowsT 100 1 n) 22 true [])]) {env : Env} {h : H}
    (ho : obs [6, 7, 17] (actsOf (lapp R []) []) (lapp R []) [] env h = expsR n0C (kpOf (zoC l z n)) [(6, .nils), (7, .int .i64 (Int.ofNat 0)), (17, .slc n0C 0 n n false 1)] R [] [] (zoC l z n) [(some (.row (zrows 300 1 n) 22 true []), true), (some (.row (zrowsT 0 1 n) 22 true []), true), (some (.row (zrowsT 100 1 n) 22 true []), true)]) :
    ∃ σ, Abs n0C σ (finC l n z).env (finC l n z).h env h := by
  subst hR
  have hlit : okLit n0C 2097152 (lapp [(n0C, n0C, .row (zrows 300 1 n) 22 true []), (30, 30, .row (zrowsT 0 1 n) 22 true []), (31, 31, .row (zrowsT 100 1 n) 22 true [])] []) = true := okLit_row rfl (belC_O (by omega)) (okLit_row rfl (belC_I hn) (okLit_row rfl (belC_W hn) rfl))
  have k1 := keepIC Zs hn (i := n) (Zn := []) hlit (fun p hp => by cases hp)
  have k2 : renL (szs n0C (namesOf (lapp [(n0C, n0C, .row (zrows 300 1 n) 22 true []), (30, 30, .row (zrowsT 0 1 n) 22 true []), (31, 31, .row (zrowsT 100 1 n) 22 true [])] []) []) (kpOf (zoC l z n))) (zrows 300 1 n) = zrows 300 1 n := by
    exact zrows_keep fun j hj => szs_zone hlit (zgrow_new hj) (fun p hp e => by cases hp)
  rw [expsR_eq] at ho
  · exact NewOK.abs (t := finC l n z) (A := lapp [(n0C, n0C, .row (zrows 300 1 n) 22 true []), (30, 30, .row (zrowsT 0 1 n) 22 true []), (31, 31, .row (zrowsT 100 1 n) 22 true [])] []) (Z := []) (z := zoC l z n)
      ⟨rfl, rfl, by show 1049359 ≤ 2097152; decide, rfl, hlit, rfl, rfl, (fun p hp => (by cases hp)), List.nodup_nil, zoC_ok Zs (by omega)⟩ rfl rfl rfl rfl ho
  · show _ = [(some (Blk.row (renL _ _) _ _ _), true), (some (Blk.row (renL _ _) _ _ _), true), (some (Blk.row (renL _ _) _ _ _), true)]
    rw [k2, k1.1, k1.2]; rfl
theorem belC_I0 {n : Nat} (hn : n ≤ 60) : belL n0C (zrowsT 0 1 n) = true := belL_slc _ (fun j => zn (0 + j)) _ _ _ fun j hj => by have := List.mem_range.1 hj; rw [zn_eq]; show _ < 1049359; omega
theorem belC_W0 {n : Nat} (hn : n ≤ 60) : belL n0C (zrowsT 100 1 n) = true := belL_slc _ (fun j => zn (100 + j)) _ _ _ fun j hj => by have := List.mem_range.1 hj; rw [zn_eq]; show _ < 1049359; omega
theorem loopC_good {C : Cfg} (G : X.Good C Tryz.prog) (hg : C.gl = fun _ => none) (hm : C.mask 14 = mask 14) {l : Nat → Bool} {n : Nat} (hn1 : 1 ≤ n) (hn : n ≤ 60) {z : T Blk} (Zs : ZinC l n z) (g : Nat → CV) :
    X.Good (C.addLc 14 22 (lcZ (S0 := Unit) (fun _ => True) (lmap (fun p => p.1) (eC n g .nils 0)) (lmap (fun p => p.1) (lapp (rr0C (zrowsT 0 1 n) (zrowsT 100 1 n)) bC0)) (fun _ => SC.st l n z (.s0 g)) (fun _ => (.ext 2, finC l n z)))) Tryz.prog := by
  refine G.addZR good1 (by rw [hg]; rfl) (S := SC) (SC.dr l n) (n0 := n0C) (ι := fun _ => .s0 g) (ok := SC.ok l n) (St := SC.st l n z) (SC.er l n) (μ := SC.mu n) (fin := fun _ => (.ext 2, finC l n z)) (fuel := F) hm.symm (by rfl) ?_ ?_ ?_ (fun g i h => by rw [hg] at h; cases h)
  · intro s _
    cases s <;> exact pe_eC ..
  · intro _ _
    refine ⟨trivial, rfl, rfl, ⟨rfl, ?_, ?_, ?_⟩, by show 1049359 ≤ 2097152; decide, rfl, rfl⟩
    · show belEs n0C (eC n g .nils 0) = true
      kernel_rfl
    · exact blksN_app (R := rr0C (zrowsT 0 1 n) (zrowsT 100 1 n)) blksC0 (blksN_row (by show 30 < 1049359; decide) (belC_I0 hn) (blksN_row (by show 31 < 1049359; decide) (belC_W0 hn) rfl))
    · intro x k h
      obtain ⟨a, b⟩ := Zs.only x k h
      exact ⟨b, by rw [zn_eq]; show _ < 1049359; omega, by rw [zn_eq]; show _ < 1000000000000; omega⟩
  · intro s hs
    rw [hm]
    cases s with
    | s0 g0 =>
      have hc := cntC_le l 0
      have z0 : cntC l 0 = 0 := rfl
      cases hb : l 0 with
      | false =>
        have q1 : cntC l (0 + 1) = cntC l 0 := by rw [cntC_succ, hb]
        have q1' : cntC l 1 = cntC l 0 := q1
        refine ⟨?_⟩
        show xcode C1 Tryz.prog F 14 (loopC Tryz.prog 14 22) (mask 14) (tmpsN Tryz.prog 14) (mkE (eC n (ggC (zn 0) [bi (l 0)]) .nils 0)) _ (cond (l 0) dC_0_1 dC_0_0) _
        rw [hb]
        exact useC_0_0 Zs hn (by omega) (row1_eq (by omega)) (cellI (i := 0) (by omega) (getC0 ..) _) (cellR (zgC0 ..) (by rw [Zs.ins 0 (by omega)]; unfold inRowC; rw [hb]; rfl) _ rfl)
          (fun env h ds σ ab => ⟨.s3 1 1 _, σ, ⟨Nat.le_refl _, hn1, by omega, by omega⟩, (by show n - 1 < n + 1; omega), rfl, ab⟩)
      | true =>
        have q1 : cntC l (0 + 1) = cntC l 0 + 1 := by rw [cntC_succ, hb]
        have q1' : cntC l 1 = cntC l 0 + 1 := q1
        refine ⟨?_⟩
        show xcode C1 Tryz.prog F 14 (loopC Tryz.prog 14 22) (mask 14) (tmpsN Tryz.prog 14) (mkE (eC n (ggC (zn 0) [bi (l 0)]) .nils 0)) _ (cond (l 0) dC_0_1 dC_0_0) _
        rw [hb]
        exact useC_0_1 Zs hn (by omega) (row1_eq (by omega)) (cellI (i := 0) (by omega) (getC0 ..) _) (cellR (zgC0 ..) (by rw [Zs.ins 0 (by omega)]; unfold inRowC; rw [hb]; rfl) _ rfl)
          (fun env h ds σ ab => ⟨.s1 1 1 1 0 2 _, σ, ⟨Nat.le_refl _, hn1, by omega, by omega, by omega⟩, (by show n - 1 < n + 1; omega), rfl, ab⟩)
    | s1 i a0 a1 a2 a3 g0 =>
      obtain ⟨h1, h2, p0, p1, p2⟩ := hs
      have hc := cntC_le l i
      by_cases hlt : i < n
      · cases hb : l i with
        | false =>
          have q1 : cntC l (i + 1) = cntC l i := by rw [cntC_succ, hb]
          refine ⟨?_⟩
          show xcode C1 Tryz.prog F 14 (loopC Tryz.prog 14 22) (mask 14) (tmpsN Tryz.prog 14) (mkE (eC n (ggC (zn i) [bi (l i)]) (.slc n0C 0 i i false 1) i)) _ (cond (Nat.ble (i + 1) n) (cond (l i) dC_1_1 dC_1_0) [false]) _
          rw [hb, ble_t hlt]
          exact useC_1_0 Zs hn hlt a0 a1 a2 a3 (by omega) (by omega) (row1_eq (by omega)) (cellI hlt (getC1 ..) _) (cellR (zgC1 ..) (by rw [zoC_low (by omega), Zs.ins i hlt]; unfold inRowC; rw [hb]; rfl) _ rfl)
            (fun env h ds σ ab => ⟨.s2 (i + 1) (a0 + 1) a1 a3 _, σ, ⟨by omega, hlt, by omega, by omega, by omega⟩, (by show n - (i + 1) < n - i; omega), rfl, ab⟩)
        | true =>
          have q1 : cntC l (i + 1) = cntC l i + 1 := by rw [cntC_succ, hb]
          refine ⟨?_⟩
          show xcode C1 Tryz.prog F 14 (loopC Tryz.prog 14 22) (mask 14) (tmpsN Tryz.prog 14) (mkE (eC n (ggC (zn i) [bi (l i)]) (.slc n0C 0 i i false 1) i)) _ (cond (Nat.ble (i + 1) n) (cond (l i) dC_1_1 dC_1_0) [false]) _
          rw [hb, ble_t hlt]
          exact useC_1_1 Zs hn hlt a0 a1 a2 a3 (by omega) (by omega) (by omega) (by omega) (row1_eq (by omega)) (cellI hlt (getC1 ..) _) (cellR (zgC1 ..) (by rw [zoC_low (by omega), Zs.ins i hlt]; unfold inRowC; rw [hb]; rfl) _ rfl)
            (fun env h ds σ ab => ⟨.s1 (i + 1) (a0 + 1) a3 a1 (a3 + 1) _, σ, ⟨by omega, hlt, by omega, by omega, by omega⟩, (by show n - (i + 1) < n - i; omega), rfl, ab⟩)
      · have hin : i = n := by omega
        subst hin
        refine ⟨?_⟩
        show xcode C1 Tryz.prog F 14 (loopC Tryz.prog 14 22) (mask 14) (tmpsN Tryz.prog 14) (mkE (eC i (ggC (zn i) [bi (l i)]) (.slc n0C 0 i i false 1) i)) _ (cond (Nat.ble (i + 1) i) (cond (l i) dC_1_1 dC_1_0) [false]) _
        rw [ble_f (Nat.lt_irrefl i)]
        exact round_use2 good1.spl (fun Kv => xC_1 (zoC l z i) (zrowsT 0 1 i) (zrowsT 100 1 i) i i _ a0 a1 a2 a3 Kv)
          (bcase_tt (dcq_ge (by omega)) (fun env h ds ho => (done_C1 Zs hn _ rfl ho).elim fun σ ab => ⟨σ, rfl, ab⟩))
    | s2 i a0 a1 a2 g0 =>
      obtain ⟨h1, h2, p0, p1, p2⟩ := hs
      have hc := cntC_le l i
      by_cases hlt : i < n
      · cases hb : l i with
        | false =>
          have q1 : cntC l (i + 1) = cntC l i := by rw [cntC_succ, hb]
          refine ⟨?_⟩
          show xcode C1 Tryz.prog F 14 (loopC Tryz.prog 14 22) (mask 14) (tmpsN Tryz.prog 14) (mkE (eC n (ggC (zn i) [bi (l i)]) (.slc n0C 0 i i false 1) i)) _ (cond (Nat.ble (i + 1) n) (cond (l i) dC_2_1 dC_2_0) [false]) _
          rw [hb, ble_t hlt]
          exact useC_2_0 Zs hn hlt a0 a1 a2 (by omega) (by omega) (row1_eq (by omega)) (cellI hlt (getC2 ..) _) (cellR (zgC2 ..) (by rw [zoC_low (by omega), Zs.ins i hlt]; unfold inRowC; rw [hb]; rfl) _ rfl)
            (fun env h ds σ ab => ⟨.s2 (i + 1) (a0 + 1) a1 a2 _, σ, ⟨by omega, hlt, by omega, by omega, by omega⟩, (by show n - (i + 1) < n - i; omega), rfl, ab⟩)
        | true =>
          have q1 : cntC l (i + 1) = cntC l i + 1 := by rw [cntC_succ, hb]
          refine ⟨?_⟩
          show xcode C1 Tryz.prog F 14 (loopC Tryz.prog 14 22) (mask 14) (tmpsN Tryz.prog 14) (mkE (eC n (ggC (zn i) [bi (l i)]) (.slc n0C 0 i i false 1) i)) _ (cond (Nat.ble (i + 1) n) (cond (l i) dC_2_1 dC_2_0) [false]) _
          rw [hb, ble_t hlt]
          exact useC_2_1 Zs hn hlt a0 a1 a2 (by omega) (by omega) (by omega) (by omega) (row1_eq (by omega)) (cellI hlt (getC2 ..) _) (cellR (zgC2 ..) (by rw [zoC_low (by omega), Zs.ins i hlt]; unfold inRowC; rw [hb]; rfl) _ rfl)
            (fun env h ds σ ab => ⟨.s1 (i + 1) (a0 + 1) a2 a1 (a2 + 1) _, σ, ⟨by omega, hlt, by omega, by omega, by omega⟩, (by show n - (i + 1) < n - i; omega), rfl, ab⟩)
      · have hin : i = n := by omega
        subst hin
        refine ⟨?_⟩
        show xcode C1 Tryz.prog F 14 (loopC Tryz.prog 14 22) (mask 14) (tmpsN Tryz.prog 14) (mkE (eC i (ggC (zn i) [bi (l i)]) (.slc n0C 0 i i false 1) i)) _ (cond (Nat.ble (i + 1) i) (cond (l i) dC_2_1 dC_2_0) [false]) _
        rw [ble_f (Nat.lt_irrefl i)]
        exact round_use2 good1.spl (fun Kv => xC_2 (zoC l z i) (zrowsT 0 1 i) (zrowsT 100 1 i) i i _ a0 a1 a2 Kv)
          (bcase_tt (dcq_ge (by omega)) (fun env h ds ho => (done_C1 Zs hn _ rfl ho).elim fun σ ab => ⟨σ, rfl, ab⟩))
    | s3 i a0 g0 =>
      obtain ⟨h1, h2, p0, p1⟩ := hs
      have hc := cntC_le l i
      by_cases hlt : i < n
      · cases hb : l i with
        | false =>
          have q1 : cntC l (i + 1) = cntC l i := by rw [cntC_succ, hb]
          refine ⟨?_⟩
          show xcode C1 Tryz.prog F 14 (loopC Tryz.prog 14 22) (mask 14) (tmpsN Tryz.prog 14) (mkE (eC n (ggC (zn i) [bi (l i)]) (.slc n0C 0 i i false 1) i)) _ (cond (Nat.ble (i + 1) n) (cond (l i) dC_3_1 dC_3_0) [false]) _
          rw [hb, ble_t hlt]
          exact useC_3_0 Zs hn hlt a0 (by omega) (by omega) (row1_eq (by omega)) (cellI hlt (getC3 ..) _) (cellR (zgC3 ..) (by rw [zoC_low (by omega), Zs.ins i hlt]; unfold inRowC; rw [hb]; rfl) _ rfl)
            (fun env h ds σ ab => ⟨.s3 (i + 1) (a0 + 1) _, σ, ⟨by omega, hlt, by omega, by omega⟩, (by show n - (i + 1) < n - i; omega), rfl, ab⟩)
        | true =>
          have q1 : cntC l (i + 1) = cntC l i + 1 := by rw [cntC_succ, hb]
          refine ⟨?_⟩
          show xcode C1 Tryz.prog F 14 (loopC Tryz.prog 14 22) (mask 14) (tmpsN Tryz.prog 14) (mkE (eC n (ggC (zn i) [bi (l i)]) (.slc n0C 0 i i false 1) i)) _ (cond (Nat.ble (i + 1) n) (cond (l i) dC_3_1 dC_3_0) [false]) _
          rw [hb, ble_t hlt]
          exact useC_3_1 Zs hn hlt a0 (by omega) (by omega) (row1_eq (by omega)) (cellI hlt (getC3 ..) _) (cellR (zgC3 ..) (by rw [zoC_low (by omega), Zs.ins i hlt]; unfold inRowC; rw [hb]; rfl) _ rfl)
            (fun env h ds σ ab => ⟨.s1 (i + 1) (a0 + 1) 1 0 2 _, σ, ⟨by omega, hlt, by omega, by omega, by omega⟩, (by show n - (i + 1) < n - i; omega), rfl, ab⟩)
      · have hin : i = n := by omega
        subst hin
        refine ⟨?_⟩
        show xcode C1 Tryz.prog F 14 (loopC Tryz.prog 14 22) (mask 14) (tmpsN Tryz.prog 14) (mkE (eC i (ggC (zn i) [bi (l i)]) (.slc n0C 0 i i false 1) i)) _ (cond (Nat.ble (i + 1) i) (cond (l i) dC_3_1 dC_3_0) [false]) _
        rw [ble_f (Nat.lt_irrefl i)]
        exact round_use2 good1.spl (fun Kv => xC_3 (zoC l z i) (zrowsT 0 1 i) (zrowsT 100 1 i) i i _ a0 Kv)
          (bcase_tt (dcq_ge (by omega)) (fun env h ds ho => (done_C1 Zs hn _ rfl ho).elim fun σ ab => ⟨σ, rfl, ab⟩))
end
end Go.Proofs.YtkfhjobebhdpoaaGreat

/- Stream: what the rounds of Run's loop do. -/
import Derived.Test.YtkfhjobebhdpoaaGreatW1
import Derived.Test.YtkfhjobebhdpoaaGreatSK
import Derived.Test.YtkfhjobebhdpoaaGreatG
set_option linter.unusedVariables false
set_option autoImplicit false
set_option maxRecDepth 1000000
set_option maxHeartbeats 2000000
set_option linter.unusedVariables false
namespace Go.Proofs.YtkfhjobebhdpoaaGreat
noncomputable section
open Go.X
def inRowW (l : Nat → Int × Bool × Nat) (j : Nat) : Blk := .row [.int .i64 (l j).1, .int .i64 (bi (l j).2.1)] 3 true []
/-- slices of the rows of the inputs -/
def zrR (l : Nat → Int × Bool × Nat) (n : Nat) : List AV := (List.range n).map fun j => .slc (zn (l j).2.2) 0 2 2 true 1
/-- what is told of a tick -/
def valW (l : Nat → Int × Bool × Nat) (j : Nat) : Int := Bool.rec 0 (l j).1 (l j).2.1
def outW (l : Nat → Int × Bool × Nat) (j : Nat) : Blk := rowW [.int .i64 (valW l j)]
theorem outW_int (l : Nat → Int × Bool × Nat) (j : Nat) : IntRow (outW l j) := ⟨[valW l j], 3, true, rfl⟩
/-- the zone that holds the rows of the inputs -/
structure ZinW (l : Nat → Int × Bool × Nat) (n : Nat) (z : T Blk) : Prop where
  ins : ∀ j, j < n → z.get (l j).2.2 = some (inRowW l j)
  slot : ∀ j, j < n → (l j).2.2 < 2000
  only : ∀ x k, z.get x = some k → x < 2000 ∧ IntRow k
theorem blksW0 : blksN n0W (bW0) = true := by kernel_rfl
theorem getW0 (z : T Blk) (csI csW : List AV) : T.get (mkB z (lapp (rr0W csI csW) bW0)) 131073 = some (.row csI 22 true []) := by kernel_rfl
theorem zgW0 (z : T Blk) (csI csW : List AV) : zget (mkB z (lapp (rr0W csI csW) bW0)) 12 = z := by kernel_rfl
theorem getW1 (z : T Blk) (cs csI csW : List AV) (a0 : Int) (a1 : Int) : T.get (mkB z (lapp (rrW cs csI csW) (bW1 a0 a1))) 131073 = some (.row csI 22 true []) := by kernel_rfl
theorem zgW1 (z : T Blk) (cs csI csW : List AV) (a0 : Int) (a1 : Int) : zget (mkB z (lapp (rrW cs csI csW) (bW1 a0 a1))) 12 = z := by kernel_rfl
theorem getW2 (z : T Blk) (cs csI csW : List AV) (a0 : Int) (a1 : Int) : T.get (mkB z (lapp (rrW cs csI csW) (bW2 a0 a1))) 131073 = some (.row csI 22 true []) := by kernel_rfl
theorem zgW2 (z : T Blk) (cs csI csW : List AV) (a0 : Int) (a1 : Int) : zget (mkB z (lapp (rrW cs csI csW) (bW2 a0 a1))) 12 = z := by kernel_rfl
/-- the zone as far as round i -/
def zoW (l : Nat → Int × Bool × Nat) (z : T Blk) (i : Nat) : T Blk := zgrow z 3000 (outW l) i
theorem zoW_ok {l : Nat → Int × Bool × Nat} {n : Nat} {z : T Blk} (Zs : ZinW l n z) {i : Nat} (hi : i ≤ 1000) : ZoneOK (zoW l z i) 16777216 := by
  refine zgrow_ok (fun x k h => ?_) fun j hj => ⟨outW_int l j, by rw [zn_eq]; omega, by rw [zn_eq]; show _ < 1000000000000; omega⟩
  obtain ⟨a, b⟩ := Zs.only x k h
  exact ⟨b, by rw [zn_eq]; omega, by rw [zn_eq]; show _ < 1000000000000; omega⟩
theorem zoW_low {l : Nat → Int × Bool × Nat} {z : T Blk} {i x : Nat} (hx : x < 3000) : (zoW l z i).get x = z.get x := zgrow_old (.inl hx)
theorem belW_I {l : Nat → Int × Bool × Nat} {n : Nat} {z : T Blk} (Zs : ZinW l n z) : belL 16777216 (zrR l n) = true := belL_slc _ (fun j => zn (l j).2.2) _ _ _ fun j hj => by have := Zs.slot j (List.mem_range.1 hj); rw [zn_eq]; omega
theorem belW_O {i : Nat} (hi : i ≤ 1000) : belL 16777216 (zrows 3000 1 i) = true := belL_slc _ _ _ _ _ fun j hj => by have := List.mem_range.1 hj; rw [zn_eq]; omega
/-- the state that shape B makes at round i -/
def stW (l : Nat → Int × Bool × Nat) (n : Nat) (z : T Blk) (i : Nat) (g : Nat → CV) (B : List (Nat × Blk)) : ZS := ⟨eW n g (.slc n0W 0 i i false 1) i, lapp (rrW (zrows 3000 1 i) (zrR l n) ([] : List AV)) B, zoW l z i, 16777216⟩
def finW (l : Nat → Int × Bool × Nat) (n : Nat) (z : T Blk) : ZS := ⟨[(6, .nils), (7, .int .i64 (Int.ofNat 0)), (17, .slc n0W 0 n n false 1)], rrW (zrows 3000 1 n) (zrR l n) ([] : List AV), zoW l z n, 16777216⟩
theorem keepIW {l : Nat → Int × Bool × Nat} {n : Nat} {z : T Blk} (Zs : ZinW l n z) (hn : n ≤ 1000) {i : Nat} {A Zn : List (Nat × Nat × Blk)} (hA : okLit n0W 16777216 A = true) (hZ : ∀ p ∈ Zn, 3000 ≤ p.1) :
    renL (szs n0W (namesOf A Zn) (kpOf (zoW l z i))) (zrR l n) = (zrR l n) ∧ renL (szs n0W (namesOf A Zn) (kpOf (zoW l z i))) ([] : List AV) = ([] : List AV) := by
  constructor
  · unfold zrR
    rw [renL_slc _ (fun j => zn (l j).2.2)]
    refine List.map_congr_left fun j hj => ?_
    have hj := List.mem_range.1 hj
    have hs := Zs.slot j hj
    rw [szs_zone hA (k := inRowW l j) (by rw [zoW_low (by omega)]; exact Zs.ins j hj) (fun p hp e => by have := hZ p hp; omega)]
  · rfl
def usefTW (l : Nat → Int × Bool × Nat) (n : Nat) (z : T Blk) (b : List Int) (d : List Bool) (B B2 : List (Nat × Blk)) : Prop :=
  cIW (hfW z (zrR l n) ([] : List AV) B) 0 (zn (l 0).2.2) b → cRW (hfW z (zrR l n) ([] : List AV) B) (zn (l 0).2.2) b → ∀ {K : KE}, (∀ env h ds σ, Abs n0W σ (stW l n z 1 (ggW (zn (l 0).2.2) b) B2).env (stW l n z 1 (ggW (zn (l 0).2.2) b) B2).h env h → K .nrm env h ds) → goW (hfW z (zrR l n) ([] : List AV) B) n 0 (zn (l 0).2.2) .nils b d K
theorem usefGW {l : Nat → Int × Bool × Nat} {n : Nat} {z : T Blk} {b : List Int} {d : List Bool} {B B2 : List (Nat × Blk)} {ks : List Nat} {oa ra : Nat} {rw : List AV} {C : Prop → Prop} (ho1 : okLit n0W 16777216 [(n0W, oa, .row [] 22 true [])] = true) (Zs : ZinW l n z) (hn : n ≤ 1000) (hi : 0 < n)
    (ht : ∀ Kv, goW (hfW z (zrR l n) ([] : List AV) B) n 0 (zn (l 0).2.2) .nils b d (obfW (zrR l n) ([] : List AV) (zipA B2 ks) oa ra rw Kv) = hdW (hfW z (zrR l n) ([] : List AV) B) n 0 0 (zn (l 0).2.2) b (C (lffW z (zrR l n) ([] : List AV) n (zn (l 0).2.2) b (zipA B2 ks) oa ra rw Kv)))
    (hC : ∀ t, t → C t) (hl : okLit n0W 16777216 (zipA B2 ks) = true) (hk : nodupQ (lmap (fun p => p.1) (lapp (RW (zrR l n) ([] : List AV) oa 1) (zipA B2 ks))) = true) (ha : nodupQ (actsOf (lapp (RW (zrR l n) ([] : List AV) oa 1) (zipA B2 ks)) [(3000, ra, rowW rw)]) = true)
    (r1 : 8388931 ≤ ra) (r2 : ra < 1000000000000) (r3 : ra % 4096 ≠ 4095) (hint : IntRow (rowW rw)) (hrow : rowW rw = outW l 0) : usefTW l n z b d B B2 := by
  intro hcI hcR K hK
  have hlit : okLit n0W 16777216 (lapp (RW (zrR l n) ([] : List AV) oa 1) (zipA B2 ks)) = true := okLit_row ho1 (belW_O (by omega)) (okLit_row rfl (belW_I Zs) hl)
  have hZ3 : ∀ p ∈ ([(3000, ra, rowW rw)] : List (Nat × Nat × Blk)), 3000 ≤ p.1 := fun p hp => by rw [List.mem_singleton.1 hp]; show 3000 ≤ 3000; omega
  have hnd : (([(3000, ra, rowW rw)] : List (Nat × Nat × Blk)).map (·.1)).Nodup := by simp
  have k1 := keepIW Zs hn (i := 0) hlit hZ3
  refine round_use2 good1.spl ht ?_
  refine bcase_tt (dcq_lt (by simp only [Int.ofNat_eq_natCast]; omega)) (bcase_tt (inB_of hi) ⟨hcI, hcR, hC _ ?_⟩)
  have leaf : ∀ (env : Env) (h : H) (ds : List Bool), obs [6, 7, 16, 17, 71, 72, 73] (actsOf (lapp (RW (zrR l n) ([] : List AV) oa 1) (zipA B2 ks)) [(3000, ra, rowW rw)]) (lapp (RW (zrR l n) ([] : List AV) oa 1) (zipA B2 ks)) [(3000, ra, rowW rw)] env h = expsR n0W (kpOf z) (eW n (ggW (zn (l 0).2.2) b) (.slc n0W 0 1 1 false 1) 1) (RW (zrR l n) ([] : List AV) oa 1) (zipA B2 ks) [(3000, ra, rowW rw)] z (rawW (zrR l n) ([] : List AV) [.slc ra 0 1 1 false 1]) → K .nrm env h ds := by
    intro env h ds ho
    have fin : ∃ σ, Abs n0W σ (stW l n z 1 (ggW (zn (l 0).2.2) b) B2).env (stW l n z 1 (ggW (zn (l 0).2.2) b) B2).h env h := by
      rw [expsR_eq] at ho
      · exact NewOK.abs (t := (stW l n z 1 (ggW (zn (l 0).2.2) b) B2)) (A := lapp (RW (zrR l n) ([] : List AV) oa 1) (zipA B2 ks)) (Z := [(3000, ra, rowW rw)]) (z := z)
          ⟨by rw [lmap_app, zipA_B]; rfl, by show T.set z (outW l 0) (3000 + 0) = T.set z (rowW rw) 3000; rw [hrow], by show 8388931 ≤ 16777216; decide, by kernel_rfl, hlit, hk, ha,
            fun p hp => by
              rw [List.mem_singleton.1 hp]
              exact ⟨by show 8388931 ≤ zn 3000; rw [zn_eq]; omega, by show zn 3000 < 16777216; rw [zn_eq]; omega, r1, r2, r3, hint⟩,
            hnd, by have := zoW_ok Zs (i := 0) (by omega); exact this⟩ rfl rfl rfl rfl ho
      · have e1 : [.slc ra 0 1 1 false 1] = renL (szs n0W (namesOf (lapp (RW (zrR l n) ([] : List AV) oa 1) (zipA B2 ks)) [(3000, ra, rowW rw)]) (kpOf z)) (zrows 3000 1 1) := by
          refine zrows_grow (i := 0) (fun j hj => ?_) (szs_row hlit (by show 8388931 ≤ zn (3000 + 0); rw [zn_eq]; omega) (List.mem_singleton.2 rfl) hnd)
          omega
        show [(some (Blk.row _ _ _ _), true), (some (Blk.row _ _ _ _), true)] = [(some (Blk.row (renL _ _) _ _ _), true), (some (Blk.row (renL _ _) _ _ _), true)]
        rw [← e1]
        have k1 := k1
        change renL (szs n0W (namesOf _ _) (kpOf z)) _ = _ ∧ renL (szs n0W (namesOf _ _) (kpOf z)) _ = _ at k1
        rw [k1.1]; rfl
    exact fin.elim fun σ ab => hK env h ds σ ab
  exact leaf
def useTW (l : Nat → Int × Bool × Nat) (n : Nat) (z : T Blk) (i : Nat) (b : List Int) (d : List Bool) (B B2 : List (Nat × Blk)) : Prop :=
  cIW (hW (zoW l z i) (zrR l n) ([] : List AV) i B) (ixW i) (zn (l i).2.2) b → cRW (hW (zoW l z i) (zrR l n) ([] : List AV) i B) (zn (l i).2.2) b → ∀ {K : KE}, (∀ env h ds σ, Abs n0W σ (stW l n z (i + 1) (ggW (zn (l i).2.2) b) B2).env (stW l n z (i + 1) (ggW (zn (l i).2.2) b) B2).h env h → K .nrm env h ds) → goW (hW (zoW l z i) (zrR l n) ([] : List AV) i B) n i (zn (l i).2.2) (.slc n0W 0 i i false 1) b d K
theorem useGW {l : Nat → Int × Bool × Nat} {n : Nat} {z : T Blk} {i : Nat} {b : List Int} {d : List Bool} {B B2 : List (Nat × Blk)} {ks : List Nat} {oa ra : Nat} {rw : List AV} {C : Prop → Prop} (ho1 : okLit n0W 16777216 [(n0W, oa, .row [] 22 true [])] = true) (Zs : ZinW l n z) (hn : n ≤ 1000) (hi : i < n)
    (ht : ∀ Kv, goW (hW (zoW l z i) (zrR l n) ([] : List AV) i B) n i (zn (l i).2.2) (.slc n0W 0 i i false 1) b d (obW (zrR l n) ([] : List AV) i (zipA B2 ks) oa ra rw Kv) = hdW (hW (zoW l z i) (zrR l n) ([] : List AV) i B) n i (ixW i) (zn (l i).2.2) b (C (ttW i (lfW (zoW l z i) (zrR l n) ([] : List AV) n i (zn (l i).2.2) b (zipA B2 ks) oa ra rw Kv))))
    (hC : ∀ t, t → C t) (hl : okLit n0W 16777216 (zipA B2 ks) = true) (hk : nodupQ (lmap (fun p => p.1) (lapp (RW (zrR l n) ([] : List AV) oa (i + 1)) (zipA B2 ks))) = true) (ha : nodupQ (actsOf (lapp (RW (zrR l n) ([] : List AV) oa (i + 1)) (zipA B2 ks)) [((3000 + i), ra, rowW rw)]) = true)
    (r1 : 8388931 ≤ ra) (r2 : ra < 1000000000000) (r3 : ra % 4096 ≠ 4095) (hint : IntRow (rowW rw)) (hrow : rowW rw = outW l i) : useTW l n z i b d B B2 := by
  intro hcI hcR K hK
  have hlit : okLit n0W 16777216 (lapp (RW (zrR l n) ([] : List AV) oa (i + 1)) (zipA B2 ks)) = true := okLit_row ho1 (belW_O (by omega)) (okLit_row rfl (belW_I Zs) hl)
  have hZ3 : ∀ p ∈ ([((3000 + i), ra, rowW rw)] : List (Nat × Nat × Blk)), 3000 ≤ p.1 := fun p hp => by rw [List.mem_singleton.1 hp]; show 3000 ≤ 3000 + i; omega
  have hnd : (([((3000 + i), ra, rowW rw)] : List (Nat × Nat × Blk)).map (·.1)).Nodup := by simp
  have k1 := keepIW Zs hn (i := i) hlit hZ3
  refine round_use2 good1.spl ht ?_
  refine bcase_tt (dcq_lt (by simp only [Int.ofNat_eq_natCast]; omega)) (bcase_tt (inB_of hi) ⟨hcI, hcR, hC _ ?_⟩)
  have leaf : ∀ (env : Env) (h : H) (ds : List Bool), obs [6, 7, 16, 17, 71, 72, 73] (actsOf (lapp (RW (zrR l n) ([] : List AV) oa (i + 1)) (zipA B2 ks)) [((3000 + i), ra, rowW rw)]) (lapp (RW (zrR l n) ([] : List AV) oa (i + 1)) (zipA B2 ks)) [((3000 + i), ra, rowW rw)] env h = expsR n0W (kpOf (zoW l z i)) (eW n (ggW (zn (l i).2.2) b) (.slc n0W 0 (i + 1) (i + 1) false 1) (i + 1)) (RW (zrR l n) ([] : List AV) oa (i + 1)) (zipA B2 ks) [((3000 + i), ra, rowW rw)] (zoW l z i) (rawW (zrR l n) ([] : List AV) (ocW i ra)) → K .nrm env h ds := by
    intro env h ds ho
    have fin : ∃ σ, Abs n0W σ (stW l n z (i + 1) (ggW (zn (l i).2.2) b) B2).env (stW l n z (i + 1) (ggW (zn (l i).2.2) b) B2).h env h := by
      rw [expsR_eq] at ho
      · exact NewOK.abs (t := (stW l n z (i + 1) (ggW (zn (l i).2.2) b) B2)) (A := lapp (RW (zrR l n) ([] : List AV) oa (i + 1)) (zipA B2 ks)) (Z := [((3000 + i), ra, rowW rw)]) (z := (zoW l z i))
          ⟨by rw [lmap_app, zipA_B]; rfl, by show T.set (zoW l z i) (outW l i) (3000 + i) = T.set (zoW l z i) (rowW rw) (3000 + i); rw [hrow], by show 8388931 ≤ 16777216; decide, by kernel_rfl, hlit, hk, ha,
            fun p hp => by
              rw [List.mem_singleton.1 hp]
              exact ⟨by show 8388931 ≤ zn (3000 + i); rw [zn_eq]; omega, by show zn (3000 + i) < 16777216; rw [zn_eq]; omega, r1, r2, r3, hint⟩,
            hnd, zoW_ok Zs (by omega)⟩ rfl rfl rfl rfl ho
      · have e1 : (ocW i ra) = renL (szs n0W (namesOf (lapp (RW (zrR l n) ([] : List AV) oa (i + 1)) (zipA B2 ks)) [((3000 + i), ra, rowW rw)]) (kpOf (zoW l z i))) (zrows 3000 1 (i + 1)) := by
          refine zrows_grow (i := i) (fun j hj => ?_) (szs_row hlit (by show 8388931 ≤ zn (3000 + i); rw [zn_eq]; omega) (List.mem_singleton.2 rfl) hnd)
          exact szs_zone hlit (zgrow_new hj) (fun p hp e => by rw [List.mem_singleton.1 hp] at e; have e : 3000 + i = 3000 + j := e; omega)
        show [(some (Blk.row _ _ _ _), true), (some (Blk.row _ _ _ _), true)] = [(some (Blk.row (renL _ _) _ _ _), true), (some (Blk.row (renL _ _) _ _ _), true)]
        rw [← e1]
        have k1 := k1
        skip
        rw [k1.1]; rfl
    exact fin.elim fun σ ab => hK env h ds σ ab
  exact bcase_tt (dcq_cap i) (bcase_tt (appC_ok (by rw [zrows_len]) (by omega)) (bcase_any (bcase_tt (inR_add (by omega)) leaf) (bcase_tt (inR_add (by omega)) leaf)))
theorem useW_0_x_1 {l : Nat → Int × Bool × Nat} {n : Nat} {z : T Blk} (Zs : ZinW l n z) (hn : n ≤ 1000) (hi : 0 < n) (x : Int) (hrow : rowW [.int .i64 x] = outW l 0) : usefTW l n z [x, 1] dW_0_x_1 (bW0) (bW1 1 x) :=
  usefGW (C := fun t => t) (by kernel_rfl) Zs hn hi (fun Kv => tW_0_x_1 _ _ _ _ _ x Kv) (fun t x => x) (by kernel_rfl) (by kernel_rfl) (by kernel_rfl) (by decide) (by decide) (by decide) ⟨[x], 3, true, rfl⟩ hrow
theorem useW_1_x_0 {l : Nat → Int × Bool × Nat} {n : Nat} {z : T Blk} (Zs : ZinW l n z) (hn : n ≤ 1000) {i : Nat} (hi : i < n) (a0 : Int) (a1 : Int) (x : Int) (ha0 : 0 ≤ a0) (ha0' : a0 ≤ 2000) (hrow : rowW [.int .i64 0] = outW l i) : useTW l n z i [x, 0] dW_1_x_0 (bW1 a0 a1) (bW2 (a0 + 1) x) :=
  useGW (C := fun t => bcase (inR .i64 (a0 + 1)) (bcase (dcq false (eqI a0 (a0 + 1))) (bcase (dcq false (eqI a0 (a0 + 1))) (bcase (dcq true (eqI (a0 + 1) (a0 + 1))) (bcase (dcq true (eqI (a0 + 1) (a0 + 1))) (t) False) False) False) False) False) (by kernel_rfl) Zs hn hi (fun Kv => tW_1_x_0 _ _ _ _ _ _ a0 a1 x Kv) (fun t x => bcase_tt (inR_i64 (by omega) (by omega)) (bcase_tt (dcq_ne (by omega)) (bcase_tt (dcq_ne (by omega)) (bcase_tt (dcq_eq (by omega)) (bcase_tt (dcq_eq (by omega)) (x)))))) (by kernel_rfl) (by kernel_rfl) (by kernel_rfl) (by decide) (by decide) (by decide) ⟨[0], 3, true, rfl⟩ hrow
theorem useW_2_x_0 {l : Nat → Int × Bool × Nat} {n : Nat} {z : T Blk} (Zs : ZinW l n z) (hn : n ≤ 1000) {i : Nat} (hi : i < n) (a0 : Int) (a1 : Int) (x : Int) (ha0 : 0 ≤ a0) (ha0' : a0 ≤ 2000) (hrow : rowW [.int .i64 0] = outW l i) : useTW l n z i [x, 0] dW_2_x_0 (bW2 a0 a1) (bW2 (a0 + 1) x) :=
  useGW (C := fun t => bcase (inR .i64 (a0 + 1)) (bcase (dcq false (eqI a0 (a0 + 1))) (bcase (dcq false (eqI a0 (a0 + 1))) (bcase (dcq true (eqI (a0 + 1) (a0 + 1))) (bcase (dcq true (eqI (a0 + 1) (a0 + 1))) (t) False) False) False) False) False) (by kernel_rfl) Zs hn hi (fun Kv => tW_2_x_0 _ _ _ _ _ _ a0 a1 x Kv) (fun t x => bcase_tt (inR_i64 (by omega) (by omega)) (bcase_tt (dcq_ne (by omega)) (bcase_tt (dcq_ne (by omega)) (bcase_tt (dcq_eq (by omega)) (bcase_tt (dcq_eq (by omega)) (x)))))) (by kernel_rfl) (by kernel_rfl) (by kernel_rfl) (by decide) (by decide) (by decide) ⟨[0], 3, true, rfl⟩ hrow
theorem useW_2_x_1 {l : Nat → Int × Bool × Nat} {n : Nat} {z : T Blk} (Zs : ZinW l n z) (hn : n ≤ 1000) {i : Nat} (hi : i < n) (a0 : Int) (a1 : Int) (x : Int) (ha0 : 0 ≤ a0) (ha0' : a0 ≤ 2000) (hrow : rowW [.int .i64 x] = outW l i) : useTW l n z i [x, 1] dW_2_x_1 (bW2 a0 a1) (bW1 (a0 + 1) x) :=
  useGW (C := fun t => bcase (inR .i64 (a0 + 1)) (bcase (dcq false (eqI a0 (a0 + 1))) (bcase (dcq false (eqI a0 (a0 + 1))) (bcase (dcq true (eqI (a0 + 1) (a0 + 1))) (bcase (dcq true (eqI (a0 + 1) (a0 + 1))) (t) False) False) False) False) False) (by kernel_rfl) Zs hn hi (fun Kv => tW_2_x_1 _ _ _ _ _ _ a0 a1 x Kv) (fun t x => bcase_tt (inR_i64 (by omega) (by omega)) (bcase_tt (dcq_ne (by omega)) (bcase_tt (dcq_ne (by omega)) (bcase_tt (dcq_eq (by omega)) (bcase_tt (dcq_eq (by omega)) (x)))))) (by kernel_rfl) (by kernel_rfl) (by kernel_rfl) (by decide) (by decide) (by decide) ⟨[x], 3, true, rfl⟩ hrow
theorem useW_1_x_1 {l : Nat → Int × Bool × Nat} {n : Nat} {z : T Blk} (Zs : ZinW l n z) (hn : n ≤ 1000) {i : Nat} (hi : i < n) (a0 : Int) (a1 : Int) (x : Int) (ha0 : 0 ≤ a0) (ha0' : a0 ≤ 2000) (hrow : rowW [.int .i64 x] = outW l i) : useTW l n z i [x, 1] dW_1_x_1 (bW1 a0 a1) (bW1 (a0 + 1) x) :=
  useGW (C := fun t => bcase (inR .i64 (a0 + 1)) (bcase (dcq false (eqI a0 (a0 + 1))) (bcase (dcq false (eqI a0 (a0 + 1))) (bcase (dcq true (eqI (a0 + 1) (a0 + 1))) (bcase (dcq true (eqI (a0 + 1) (a0 + 1))) (t) False) False) False) False) False) (by kernel_rfl) Zs hn hi (fun Kv => tW_1_x_1 _ _ _ _ _ _ a0 a1 x Kv) (fun t x => bcase_tt (inR_i64 (by omega) (by omega)) (bcase_tt (dcq_ne (by omega)) (bcase_tt (dcq_ne (by omega)) (bcase_tt (dcq_eq (by omega)) (bcase_tt (dcq_eq (by omega)) (x)))))) (by kernel_rfl) (by kernel_rfl) (by kernel_rfl) (by decide) (by decide) (by decide) ⟨[x], 3, true, rfl⟩ hrow
theorem useW_0_x_0 {l : Nat → Int × Bool × Nat} {n : Nat} {z : T Blk} (Zs : ZinW l n z) (hn : n ≤ 1000) (hi : 0 < n) (x : Int) (hrow : rowW [.int .i64 0] = outW l 0) : usefTW l n z [x, 0] dW_0_x_0 (bW0) (bW2 1 x) :=
  usefGW (C := fun t => t) (by kernel_rfl) Zs hn hi (fun Kv => tW_0_x_0 _ _ _ _ _ x Kv) (fun t x => x) (by kernel_rfl) (by kernel_rfl) (by kernel_rfl) (by decide) (by decide) (by decide) ⟨[0], 3, true, rfl⟩ hrow
end
end Go.Proofs.YtkfhjobebhdpoaaGreat
/- Stream: Run's loop over ticks, as a contract (the program of StreamWrong). -/
set_option autoImplicit false
set_option maxRecDepth 1000000
set_option maxHeartbeats 2000000
set_option linter.unusedVariables false
namespace Go.Proofs.YtkfhjobebhdpoaaGreat
noncomputable section
open Go.X
theorem cellI2 {l : Nat → Int × Bool × Nat} {b : T Blk} {N n i : Nat} (hi : i < n) {e : TypeId} (h : b.get 131073 = some (.row (zrR l n) e true [])) (c : Nat → Int) : cellIs ⟨b, N⟩ 131073 (Nat.add 0 (Nat.mul (Int.toNat (Int.ofNat i)) 1)) (.row (zn (l i).2.2) 2 c) := by
  rw [ix_eq]
  refine ⟨2, true, Nat.le_refl _, ?_⟩
  unfold cellOf
  show (match T.get b 131073 with | some (.row cells _ _ _) => lget cells i | _ => none) = _
  rw [h]
  show lget (zrR l n) i = _
  rw [lget_eq]
  unfold zrR
  rw [List.getElem?_map, List.getElem?_range hi]
  simp
theorem cellR2 {b z : T Blk} {N j : Nat} {v w : Int} (hz : zget b 12 = z) {e : TypeId} (h : z.get j = some (.row [.int .i64 v, .int .i64 w] e true [])) (c : Nat → CV) (hc : c 0 = .sc v) (hc1 : c 1 = .sc w) : cellsAre ⟨b, N⟩ (zn j) c 2 0 := by
  refine ⟨?_, ?_, trivial⟩
  · rw [hc]
    show cellOf ⟨b, N⟩ (zn j) 0 = _
    unfold cellOf
    show (match T.get b (zname 12 j) with | some (.row cells _ _ _) => lget cells 0 | _ => none) = _
    rw [zget_get, hz, h]; rfl
  · show cellIs ⟨b, N⟩ (zn j) 1 (c 1)
    rw [hc1]
    show cellOf ⟨b, N⟩ (zn j) 1 = _
    unfold cellOf
    show (match T.get b (zname 12 j) with | some (.row cells _ _ _) => lget cells 1 | _ => none) = _
    rw [zget_get, hz, h]; rfl
inductive SW where
  | s0 (g : Nat → CV)
  | s1 (i : Nat) (a0 : Int) (a1 : Int) (g : Nat → CV)
  | s2 (i : Nat) (a0 : Int) (a1 : Int) (g : Nat → CV)
def SW.ok (n : Nat) : SW → Prop
  | .s0 _ => True
  | .s1 i a0 _ _ => 1 ≤ i ∧ i ≤ n ∧ a0 = (i : Int)
  | .s2 i a0 _ _ => 1 ≤ i ∧ i ≤ n ∧ a0 = (i : Int)
def SW.st (l : Nat → Int × Bool × Nat) (n : Nat) (z : T Blk) : SW → ZS
  | .s0 g => ⟨eW n g .nils 0, lapp (rr0W (zrR l n) []) bW0, z, n0W⟩
  | .s1 i a0 a1 g => stW l n z i g (bW1 a0 a1)
  | .s2 i a0 a1 g => stW l n z i g (bW2 a0 a1)
def SW.er (l : Nat → Int × Bool × Nat) (n : Nat) : SW → List (Nat × AV)
  | .s0 _ => eW n (ggW (zn (l 0).2.2) [(l 0).1, bi (l 0).2.1]) .nils 0
  | .s1 i _ _ _ => eW n (ggW (zn (l i).2.2) [(l i).1, bi (l i).2.1]) (.slc n0W 0 i i false 1) i
  | .s2 i _ _ _ => eW n (ggW (zn (l i).2.2) [(l i).1, bi (l i).2.1]) (.slc n0W 0 i i false 1) i
def SW.dr (l : Nat → Int × Bool × Nat) (n : Nat) : SW → List Bool
  | .s0 _ => cond (l 0).2.1 dW_0_x_1 dW_0_x_0
  | .s1 i _ _ _ => cond (Nat.ble (i + 1) n) (cond (l i).2.1 dW_1_x_1 dW_1_x_0) [false]
  | .s2 i _ _ _ => cond (Nat.ble (i + 1) n) (cond (l i).2.1 dW_2_x_1 dW_2_x_0) [false]
def SW.mu (n : Nat) : SW → Nat
  | .s0 _ => n + 1
  | .s1 i _ _ _ => n - i
  | .s2 i _ _ _ => n - i
theorem pe_eW (n : Nat) (g g' : Nat → CV) (out : AV) (i : Nat) : Pe (eW n g out i) (eW n g' out i) :=
  .cons _ _ _ _ _ (.inl rfl) (.cons _ _ _ _ _ (.inl rfl) (.cons _ _ _ _ _ (.inl rfl) (.cons _ _ _ _ _ (.inl rfl) (.cons _ _ _ _ _ (.inr ⟨_, _, _, _, _, rfl, rfl⟩) (.cons _ _ _ _ _ (.inl rfl) (.cons _ _ _ _ _ (.inl rfl) .nil))))))
theorem done_W1 {l : Nat → Int × Bool × Nat} {n : Nat} {z : T Blk} (Zs : ZinW l n z) (hn : n ≤ 1000) (R : List (Nat × Nat × Blk)) (hR : R = [(n0W, n0W, .row (zrows 3000 1 n) 22 true []), (131073, 131073, .row (zrR l n) 22 true [])]) {env : Env} {h : H}
    (ho : obs [6, 7, 17] (actsOf (lapp R []) []) (lapp R []) [] env h = expsR n0W (kpOf (zoW l z n)) [(6, .nils), (7, .int .i64 (Int.ofNat 0)), (17, .slc n0W 0 n n false 1)] R [] [] (zoW l z n) [(some (.row (zrows 3000 1 n) 22 true []), true), (some (.row (zrR l n) 22 true []), true)]) :
    ∃ σ, Abs n0W σ (finW l n z).env (finW l n z).h env h := by
  subst hR
  have hlit : okLit n0W 16777216 (lapp [(n0W, n0W, .row (zrows 3000 1 n) 22 true []), (131073, 131073, .row (zrR l n) 22 true [])] []) = true := okLit_row rfl (belW_O (by omega)) (okLit_row rfl (belW_I Zs) rfl)
  have k1 := keepIW Zs hn (i := n) (Zn := []) hlit (fun p hp => by cases hp)
  have k2 : renL (szs n0W (namesOf (lapp [(n0W, n0W, .row (zrows 3000 1 n) 22 true []), (131073, 131073, .row (zrR l n) 22 true [])] []) []) (kpOf (zoW l z n))) (zrows 3000 1 n) = zrows 3000 1 n := by
    exact zrows_keep fun j hj => szs_zone hlit (zgrow_new hj) (fun p hp e => by cases hp)
  rw [expsR_eq] at ho
  · exact NewOK.abs (t := finW l n z) (A := lapp [(n0W, n0W, .row (zrows 3000 1 n) 22 true []), (131073, 131073, .row (zrR l n) 22 true [])] []) (Z := []) (z := zoW l z n)
      ⟨rfl, rfl, by show 8388931 ≤ 16777216; decide, rfl, hlit, rfl, rfl, (fun p hp => (by cases hp)), List.nodup_nil, zoW_ok Zs (by omega)⟩ rfl rfl rfl rfl ho
  · show _ = [(some (Blk.row (renL _ _) _ _ _), true), (some (Blk.row (renL _ _) _ _ _), true)]
    rw [k2, k1.1]; rfl
theorem belW_I0 {l : Nat → Int × Bool × Nat} {n : Nat} {z : T Blk} (Zs : ZinW l n z) : belL n0W (zrR l n) = true := belL_slc _ (fun j => zn (l j).2.2) _ _ _ fun j hj => by have := Zs.slot j (List.mem_range.1 hj); rw [zn_eq]; show _ < 8388931; omega
theorem loopW_good {C : Cfg} (G : X.Good C Tryz.prog) (hg : C.gl = fun _ => none) (hm : C.mask 14 = mask 14) {l : Nat → Int × Bool × Nat} {n : Nat} (hn1 : 1 ≤ n) (hn : n ≤ 1000) {z : T Blk} (Zs : ZinW l n z) (g : Nat → CV) :
    X.Good (C.addLc 14 22 (lcZ (S0 := Unit) (fun _ => True) (lmap (fun p => p.1) (eW n g .nils 0)) (lmap (fun p => p.1) (lapp (rr0W (zrR l n) []) bW0)) (fun _ => SW.st l n z (.s0 g)) (fun _ => (.ext 2, finW l n z)))) Tryz.prog := by
  refine G.addZR good1 (by rw [hg]; rfl) (S := SW) (SW.dr l n) (n0 := n0W) (ι := fun _ => .s0 g) (ok := SW.ok n) (St := SW.st l n z) (SW.er l n) (μ := SW.mu n) (fin := fun _ => (.ext 2, finW l n z)) (fuel := F) hm.symm (by rfl) ?_ ?_ ?_ (fun g i h => by rw [hg] at h; cases h)
  · intro s _
    cases s <;> exact pe_eW ..
  · intro _ _
    refine ⟨trivial, rfl, rfl, ⟨rfl, ?_, ?_, ?_⟩, by show 8388931 ≤ 16777216; decide, rfl, rfl⟩
    · show belEs n0W (eW n g .nils 0) = true
      kernel_rfl
    · exact blksN_app (R := rr0W (zrR l n) []) blksW0 (blksN_row (by show 131073 < 8388931; decide) (belW_I0 Zs) rfl)
    · intro x k h
      obtain ⟨a, b⟩ := Zs.only x k h
      exact ⟨b, by rw [zn_eq]; show _ < 8388931; omega, by rw [zn_eq]; show _ < 1000000000000; omega⟩
  · intro s hs
    rw [hm]
    cases s with
    | s0 g0 =>
      refine ⟨?_⟩
      show xcode C1 Tryz.prog F 14 (loopC Tryz.prog 14 22) (mask 14) (tmpsN Tryz.prog 14) (mkE (eW n (ggW (zn (l 0).2.2) [(l 0).1, bi (l 0).2.1]) .nils 0)) _ (cond (l 0).2.1 dW_0_x_1 dW_0_x_0) _
      have zi : z.get (l 0).2.2 = some (.row [.int .i64 (l 0).1, .int .i64 (bi (l 0).2.1)] 3 true []) := Zs.ins 0 (by omega)
      cases hb : (l 0).2.1 with
      | true =>
        rw [hb] at zi
        exact useW_0_x_1 Zs hn (by omega) (l 0).1 (by unfold outW valW; rw [hb]) (cellI2 (i := 0) (by omega) (getW0 ..) _) (cellR2 (zgW0 ..) zi _ rfl rfl)
          (fun env h ds σ ab => ⟨.s1 1 1 (l 0).1 _, σ, ⟨Nat.le_refl _, hn1, by omega⟩, (by show n - 1 < n + 1; omega), rfl, ab⟩)
      | false =>
        rw [hb] at zi
        exact useW_0_x_0 Zs hn (by omega) (l 0).1 (by unfold outW valW; rw [hb]) (cellI2 (i := 0) (by omega) (getW0 ..) _) (cellR2 (zgW0 ..) zi _ rfl rfl)
          (fun env h ds σ ab => ⟨.s2 1 1 (l 0).1 _, σ, ⟨Nat.le_refl _, hn1, by omega⟩, (by show n - 1 < n + 1; omega), rfl, ab⟩)
    | s1 i a0 a1 g0 =>
      obtain ⟨h1, h2, p0⟩ := hs
      by_cases hlt : i < n
      · refine ⟨?_⟩
        show xcode C1 Tryz.prog F 14 (loopC Tryz.prog 14 22) (mask 14) (tmpsN Tryz.prog 14) (mkE (eW n (ggW (zn (l i).2.2) [(l i).1, bi (l i).2.1]) (.slc n0W 0 i i false 1) i)) _ (cond (Nat.ble (i + 1) n) (cond (l i).2.1 dW_1_x_1 dW_1_x_0) [false]) _
        rw [ble_t hlt]
        have hsl := Zs.slot i hlt
        have zi : (zoW l z i).get (l i).2.2 = some (.row [.int .i64 (l i).1, .int .i64 (bi (l i).2.1)] 3 true []) := by rw [zoW_low (by omega)]; exact Zs.ins i hlt
        cases hb : (l i).2.1 with
        | true =>
          rw [hb] at zi
          exact useW_1_x_1 Zs hn hlt a0 a1 (l i).1 (by omega) (by omega) (by unfold outW valW; rw [hb]) (cellI2 hlt (getW1 ..) _) (cellR2 (zgW1 ..) zi _ rfl rfl)
            (fun env h ds σ ab => ⟨.s1 (i + 1) (a0 + 1) (l i).1 _, σ, ⟨by omega, hlt, by omega⟩, (by show n - (i + 1) < n - i; omega), rfl, ab⟩)
        | false =>
          rw [hb] at zi
          exact useW_1_x_0 Zs hn hlt a0 a1 (l i).1 (by omega) (by omega) (by unfold outW valW; rw [hb]) (cellI2 hlt (getW1 ..) _) (cellR2 (zgW1 ..) zi _ rfl rfl)
            (fun env h ds σ ab => ⟨.s2 (i + 1) (a0 + 1) (l i).1 _, σ, ⟨by omega, hlt, by omega⟩, (by show n - (i + 1) < n - i; omega), rfl, ab⟩)
      · have hin : i = n := by omega
        subst hin
        refine ⟨?_⟩
        show xcode C1 Tryz.prog F 14 (loopC Tryz.prog 14 22) (mask 14) (tmpsN Tryz.prog 14) (mkE (eW i (ggW (zn (l i).2.2) [(l i).1, bi (l i).2.1]) (.slc n0W 0 i i false 1) i)) _ (cond (Nat.ble (i + 1) i) (cond (l i).2.1 dW_1_x_1 dW_1_x_0) [false]) _
        rw [ble_f (Nat.lt_irrefl i)]
        exact round_use2 good1.spl (fun Kv => xW_1 (zoW l z i) (zrR l i) [] i i _ a0 a1 Kv)
          (bcase_tt (dcq_ge (by omega)) (fun env h ds ho => (done_W1 Zs hn _ rfl ho).elim fun σ ab => ⟨σ, rfl, ab⟩))
    | s2 i a0 a1 g0 =>
      obtain ⟨h1, h2, p0⟩ := hs
      by_cases hlt : i < n
      · refine ⟨?_⟩
        show xcode C1 Tryz.prog F 14 (loopC Tryz.prog 14 22) (mask 14) (tmpsN Tryz.prog 14) (mkE (eW n (ggW (zn (l i).2.2) [(l i).1, bi (l i).2.1]) (.slc n0W 0 i i false 1) i)) _ (cond (Nat.ble (i + 1) n) (cond (l i).2.1 dW_2_x_1 dW_2_x_0) [false]) _
        rw [ble_t hlt]
        have hsl := Zs.slot i hlt
        have zi : (zoW l z i).get (l i).2.2 = some (.row [.int .i64 (l i).1, .int .i64 (bi (l i).2.1)] 3 true []) := by rw [zoW_low (by omega)]; exact Zs.ins i hlt
        cases hb : (l i).2.1 with
        | true =>
          rw [hb] at zi
          exact useW_2_x_1 Zs hn hlt a0 a1 (l i).1 (by omega) (by omega) (by unfold outW valW; rw [hb]) (cellI2 hlt (getW2 ..) _) (cellR2 (zgW2 ..) zi _ rfl rfl)
            (fun env h ds σ ab => ⟨.s1 (i + 1) (a0 + 1) (l i).1 _, σ, ⟨by omega, hlt, by omega⟩, (by show n - (i + 1) < n - i; omega), rfl, ab⟩)
        | false =>
          rw [hb] at zi
          exact useW_2_x_0 Zs hn hlt a0 a1 (l i).1 (by omega) (by omega) (by unfold outW valW; rw [hb]) (cellI2 hlt (getW2 ..) _) (cellR2 (zgW2 ..) zi _ rfl rfl)
            (fun env h ds σ ab => ⟨.s2 (i + 1) (a0 + 1) (l i).1 _, σ, ⟨by omega, hlt, by omega⟩, (by show n - (i + 1) < n - i; omega), rfl, ab⟩)
      · have hin : i = n := by omega
        subst hin
        refine ⟨?_⟩
        show xcode C1 Tryz.prog F 14 (loopC Tryz.prog 14 22) (mask 14) (tmpsN Tryz.prog 14) (mkE (eW i (ggW (zn (l i).2.2) [(l i).1, bi (l i).2.1]) (.slc n0W 0 i i false 1) i)) _ (cond (Nat.ble (i + 1) i) (cond (l i).2.1 dW_2_x_1 dW_2_x_0) [false]) _
        rw [ble_f (Nat.lt_irrefl i)]
        exact round_use2 good1.spl (fun Kv => xW_2 (zoW l z i) (zrR l i) [] i i _ a0 a1 Kv)
          (bcase_tt (dcq_ge (by omega)) (fun env h ds ho => (done_W1 Zs hn _ rfl ho).elim fun σ ab => ⟨σ, rfl, ab⟩))
end
end Go.Proofs.YtkfhjobebhdpoaaGreat

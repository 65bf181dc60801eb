/- Stream: Run's loop over ticks at rows of d numbers, rows of m numbers told, whatever d and m are. -/
import Derived.Test.YtkfhjobebhdpoaaGreatE7
import Derived.Test.YtkfhjobebhdpoaaGreatMB
import Derived.Test.YtkfhjobebhdpoaaGreatSK
import Derived.Test.YtkfhjobebhdpoaaGreatAG
set_option linter.unusedVariables false
set_option linter.unusedSimpArgs false
set_option autoImplicit false
set_option maxRecDepth 1000000
set_option maxHeartbeats 2000000
set_option linter.unusedVariables false
namespace Go.Proofs.YtkfhjobebhdpoaaGreat
noncomputable section
open Go.X
/-- a program that runs: how many columns go in, how many come out, the loop's first name, what runs -/
structure AP where
  d : Nat
  m : Nat
  n0 : Nat
  act : AV
structure AP.Ok (p : AP) : Prop where
  lo : 1000000 ≤ p.n0
  hi : p.n0 < 1200000
  ac : bel p.n0 p.act = true
  ac2 : bel 2097152 p.act = true
  ok0 : okLit p.n0 2097152 [(p.n0, p.n0, .row [] 22 true [])] = true
  nd : nodupQ [p.n0, 50, 51] = true
  n4 : p.n0 % 4096 ≠ 4095
def eR (p : AP) (n : Nat) (g : Nat → CV) (out : AV) (i : Nat) : List (Nat × AV) := [(6, .nils), (7, .int .i64 (Int.ofNat 0)), (16, p.act), (17, out), (71, .vs 50 0 n g), (72, .int .i64 (Int.ofNat n)), (73, .int .i64 (Int.ofNat i))]
def rowR (l : List AV) : Blk := .row l 3 true []
def rrR (p : AP) (cs csI csW : List AV) : List (Nat × Blk) := [(p.n0, .row cs 22 true []), (50, .row csI 22 true []), (51, .row csW 22 true [])]
def rr0R (csI csW : List AV) : List (Nat × Blk) := [(50, .row csI 22 true []), (51, .row csW 22 true [])]
def ggR (p : AP) (r : Nat) (b : List Int) : Nat → CV := fun _ => .row r p.d (fun k => Option.rec 0 (fun x => x) (lget b k))
/-- what goes in and what comes out -/
structure IO where
  inp : Nat → List Int
  out : Nat → List Int
theorem sl_e {p : AP} (hp : p.Ok) (n : Nat) (g : Nat → CV) (k i j : Nat) : belEs 2097152 (eR p n g (.slc p.n0 0 k i false 1) j) = true := by
  have h1 : Nat.ble (Nat.succ p.n0) 2097152 = true := Nat.ble_eq_true_of_le (by have := hp.hi; omega)
  show Bool.and true (Bool.and true (Bool.and (bel 2097152 p.act) (Bool.and (Nat.ble (Nat.succ p.n0) 2097152) (Bool.and true (Bool.and true (Bool.and true true)))))) = true
  rw [hp.ac2, h1]
  rfl
def inRowR (io : IO) (j : Nat) : Blk := .row ((io.inp j).map (.int .i64)) 3 true []
def outR (io : IO) (j : Nat) : Blk := rowR ((io.out j).map (.int .i64))
theorem outR_int (io : IO) (j : Nat) : IntRow (outR io j) := ⟨io.out j, 3, true, rfl⟩
structure ZinR (io : IO) (n : Nat) (z : T Blk) : Prop where
  ins : ∀ j, j < n → z.get j = some (inRowR io j)
  want : ∀ j, j < n → z.get (100 + j) = some (outR io j)
  only : ∀ x k, z.get x = some k → x < 200 ∧ IntRow k
theorem ok50 {p : AP} (hp : p.Ok) : okLit p.n0 2097152 [(50, 50, .row [] 22 true [])] = true := by
  have h : Nat.ble (Nat.succ 50) p.n0 = true := Nat.ble_eq_true_of_le (by have := hp.lo; omega)
  show Bool.and (Bool.and true (Bool.and true (Bool.and true (Bool.and true (Bool.and true (Bool.rec (Nat.ble p.n0 50) true (Nat.ble (Nat.succ 50) p.n0))))))) true = true
  rw [h]
  rfl
theorem ok51 {p : AP} (hp : p.Ok) : okLit p.n0 2097152 [(51, 51, .row [] 22 true [])] = true := by
  have h : Nat.ble (Nat.succ 51) p.n0 = true := Nat.ble_eq_true_of_le (by have := hp.lo; omega)
  show Bool.and (Bool.and true (Bool.and true (Bool.and true (Bool.and true (Bool.and true (Bool.rec (Nat.ble p.n0 51) true (Nat.ble (Nat.succ 51) p.n0))))))) true = true
  rw [h]
  rfl
def RR (pa : AP) (csI csW : List AV) (oa i : Nat) : List (Nat × Nat × Blk) := [(pa.n0, oa, .row (zrows 300 pa.m i) 22 true []), (50, 50, .row csI 22 true []), (51, 51, .row csW 22 true [])]
def rawR (csI csW cs : List AV) : List (Option Blk × Bool) := [(some (.row cs 22 true []), true), (some (.row csI 22 true []), true), (some (.row csW 22 true []), true)]
def ocR (pa : AP) (i ra : Nat) : List AV := lapp (ltake (ldrop (zrows 300 pa.m i) 0) (Nat.mul i 1)) [.slc ra 0 pa.m pa.m false 1]
def hR (pa : AP) (z : T Blk) (csI csW : List AV) (i : Nat) (B : List (Nat × Blk)) : H := ⟨mkB z (lapp (rrR pa (zrows 300 pa.m i) csI csW) B), 2097152⟩
def hfR (pa : AP) (z : T Blk) (csI csW : List AV) (B : List (Nat × Blk)) : H := ⟨mkB z (lapp (rr0R csI csW) B), pa.n0⟩
def goR (pa : AP) (h : H) (n i r : Nat) (out : AV) (b : List Int) (d : List Bool) (K : KE) : Prop := xcode C1 Tryz.prog F 14 (loopC Tryz.prog 14 22) (mask 14) (tmpsN Tryz.prog 14) (mkE (eR pa n (ggR pa r b) out i)) h d K
def obR (pa : AP) (csI csW : List AV) (i : Nat) (A : List (Nat × Nat × Blk)) (oa ra : Nat) (row : List AV) (Kv : XE → Obs → Prop) : KE := fun x env h _ => Kv x (obs [6, 7, 16, 17, 71, 72, 73] (actsOf (lapp (RR pa csI csW oa (i + 1)) A) [(300 + i, ra, rowR row)]) (lapp (RR pa csI csW oa (i + 1)) A) [(300 + i, ra, rowR row)] env h)
def obfR (pa : AP) (csI csW : List AV) (A : List (Nat × Nat × Blk)) (oa ra : Nat) (row : List AV) (Kv : XE → Obs → Prop) : KE := fun x env h _ => Kv x (obs [6, 7, 16, 17, 71, 72, 73] (actsOf (lapp (RR pa csI csW oa 1) A) [(300, ra, rowR row)]) (lapp (RR pa csI csW oa 1) A) [(300, ra, rowR row)] env h)
def lfR (pa : AP) (z : T Blk) (csI csW : List AV) (n i r : Nat) (b : List Int) (A : List (Nat × Nat × Blk)) (oa ra : Nat) (row : List AV) (Kv : XE → Obs → Prop) : Prop := Kv .nrm (expsR pa.n0 (kpOf z) (eR pa n (ggR pa r b) (.slc pa.n0 0 (i + 1) (i + 1) false 1) (i + 1)) (RR pa csI csW oa (i + 1)) A [(300 + i, ra, rowR row)] z (rawR csI csW (ocR pa i ra)))
def lffR (pa : AP) (z : T Blk) (csI csW : List AV) (n r : Nat) (b : List Int) (A : List (Nat × Nat × Blk)) (oa ra : Nat) (row : List AV) (Kv : XE → Obs → Prop) : Prop := Kv .nrm (expsR pa.n0 (kpOf z) (eR pa n (ggR pa r b) (.slc pa.n0 0 1 1 false 1) 1) (RR pa csI csW oa 1) A [(300, ra, rowR row)] z (rawR csI csW [.slc ra 0 pa.m pa.m false 1]))
def cIR (pa : AP) (h : H) (i r : Nat) (b : List Int) : Prop := cellIs h 50 i (.row r pa.d (fun k => Option.rec 0 (fun x => x) (lget b k)))
def cRR (pa : AP) (h : H) (r : Nat) (b : List Int) : Prop := cellsAre h r (fun k => .sc (Option.rec 0 (fun x => x) (lget b k))) pa.d 0
def hdR (pa : AP) (h : H) (n i j r : Nat) (b : List Int) (t : Prop) : Prop := bcase (dcq true (ltI (Int.ofNat i) (Int.ofNat n))) (bcase (inB (Int.ofNat i) n) (cIR pa h j r b ∧ (cRR pa h r b ∧ t)) False) False
def ttR (pa : AP) (i : Nat) (t : Prop) : Prop := bcase (dcq false (Nat.ble (Nat.add i 1) i)) (bcase (appC (zrows 300 pa.m i) i) (bcase (Nat.ble (llen (zrows 300 pa.m i)) (Nat.mul i 1)) (bcase (inR .i64 (Int.ofNat i + Int.ofNat 1)) t False) (bcase (inR .i64 (Int.ofNat i + Int.ofNat 1)) t False)) False) False
def ixR (i : Nat) : Nat := Nat.add 0 (Nat.mul (Int.toNat (Int.ofNat i)) 1)
/-- the zone as far as round i -/
def zoR (io : IO) (z : T Blk) (i : Nat) : T Blk := zgrow z 300 (outR io) i
theorem zoR_ok {io : IO} {n : Nat} {z : T Blk} (Zs : ZinR io n z) {i : Nat} (hi : i ≤ 80) : ZoneOK (zoR io z i) 2097152 := by
  refine zgrow_ok (fun x k h => ?_) fun j hj => ⟨outR_int io j, by rw [zn_eq]; omega, by rw [zn_eq]; show _ < 1000000000000; omega⟩
  obtain ⟨a, b⟩ := Zs.only x k h
  exact ⟨b, by rw [zn_eq]; omega, by rw [zn_eq]; show _ < 1000000000000; omega⟩
theorem zoR_low {io : IO} {z : T Blk} {i x : Nat} (hx : x < 300) : (zoR io z i).get x = z.get x := zgrow_old (.inl hx)
theorem belR_I {pa : AP} {n : Nat} (hn : n ≤ 80) : belL 2097152 (zrows 0 pa.d n) = true := belL_slc _ _ _ _ _ fun j hj => by have := List.mem_range.1 hj; rw [zn_eq]; omega
theorem belR_W {pa : AP} {n : Nat} (hn : n ≤ 80) : belL 2097152 (zrows 100 pa.m n) = true := belL_slc _ _ _ _ _ fun j hj => by have := List.mem_range.1 hj; rw [zn_eq]; omega
theorem belR_O {pa : AP} {i : Nat} (hi : i ≤ 80) : belL 2097152 (zrows 300 pa.m i) = true := belL_slc _ _ _ _ _ fun j hj => by have := List.mem_range.1 hj; rw [zn_eq]; omega
/-- the state that shape B makes at round i -/
def stR (pa : AP) (io : IO) (n : Nat) (z : T Blk) (i : Nat) (g : Nat → CV) (B : List (Nat × Blk)) : ZS := ⟨eR pa n g (.slc pa.n0 0 i i false 1) i, lapp (rrR pa (zrows 300 pa.m i) (zrows 0 pa.d n) (zrows 100 pa.m n)) B, zoR io z i, 2097152⟩
def finR (pa : AP) (io : IO) (n : Nat) (z : T Blk) : ZS := ⟨[(6, .nils), (7, .int .i64 (Int.ofNat 0)), (17, .slc pa.n0 0 n n false 1)], rrR pa (zrows 300 pa.m n) (zrows 0 pa.d n) (zrows 100 pa.m n), zoR io z n, 2097152⟩
theorem keepIR {pa : AP} (hpa : pa.Ok) {io : IO} {n : Nat} {z : T Blk} (Zs : ZinR io n z) (hn : n ≤ 80) {i : Nat} {A Zn : List (Nat × Nat × Blk)} (hA : okLit pa.n0 2097152 A = true) (hZ : ∀ p ∈ Zn, 300 ≤ p.1) :
    renL (szs pa.n0 (namesOf A Zn) (kpOf (zoR io z i))) (zrows 0 pa.d n) = (zrows 0 pa.d n) ∧ renL (szs pa.n0 (namesOf A Zn) (kpOf (zoR io z i))) (zrows 100 pa.m n) = (zrows 100 pa.m n) := by
  constructor
  · unfold zrows
    rw [renL_slc]
    refine List.map_congr_left fun j hj => ?_
    have hj := List.mem_range.1 hj
    rw [szs_zone hA (k := inRowR io j) (by rw [zoR_low (by omega), Nat.zero_add]; exact Zs.ins j hj) (fun p hp e => by have := hZ p hp; omega)]
  · unfold zrows
    rw [renL_slc]
    refine List.map_congr_left fun j hj => ?_
    have hj := List.mem_range.1 hj
    rw [szs_zone hA (k := outR io j) (by rw [zoR_low (by omega)]; exact Zs.want j hj) (fun p hp e => by have := hZ p hp; omega)]
def usefTR (pa : AP) (io : IO) (n : Nat) (z : T Blk) (b : List Int) (d : List Bool) (B B2 : List (Nat × Blk)) : Prop :=
  cIR pa (hfR pa z (zrows 0 pa.d n) (zrows 100 pa.m n) B) 0 (zn 0) b → cRR pa (hfR pa z (zrows 0 pa.d n) (zrows 100 pa.m n) B) (zn 0) b → ∀ {K : KE}, (∀ env h ds σ, Abs pa.n0 σ (stR pa io n z 1 (ggR pa (zn 0) b) B2).env (stR pa io n z 1 (ggR pa (zn 0) b) B2).h env h → K .nrm env h ds) → goR pa (hfR pa z (zrows 0 pa.d n) (zrows 100 pa.m n) B) n 0 (zn 0) .nils b d K
theorem usefGR {pa : AP} (hpa : pa.Ok) {io : IO} {n : Nat} {z : T Blk} {b : List Int} {d : List Bool} {B B2 : List (Nat × Blk)} {ks : List Nat} {oa ra : Nat} {rw : List AV} {C : Prop → Prop} (ho1 : okLit pa.n0 2097152 [(pa.n0, oa, .row [] 22 true [])] = true) (Zs : ZinR io n z) (hn : n ≤ 80) (hi : 0 < n)
    (ht : ∀ Kv, goR pa (hfR pa z (zrows 0 pa.d n) (zrows 100 pa.m n) B) n 0 (zn 0) .nils b d (obfR pa (zrows 0 pa.d n) (zrows 100 pa.m n) (zipA B2 ks) oa ra rw Kv) = hdR pa (hfR pa z (zrows 0 pa.d n) (zrows 100 pa.m n) B) n 0 0 (zn 0) b (C (lffR pa z (zrows 0 pa.d n) (zrows 100 pa.m n) n (zn 0) b (zipA B2 ks) oa ra rw Kv)))
    (hC : ∀ t, t → C t) (hl : okLit pa.n0 2097152 (zipA B2 ks) = true) (hk : nodupQ (lmap (fun p => p.1) (lapp (RR pa (zrows 0 pa.d n) (zrows 100 pa.m n) oa 1) (zipA B2 ks))) = true) (ha : nodupQ (actsOf (lapp (RR pa (zrows 0 pa.d n) (zrows 100 pa.m n) oa 1) (zipA B2 ks)) [(300, ra, rowR rw)]) = true)
    (r1 : pa.n0 ≤ ra) (r2 : ra < 1000000000000) (r3 : ra % 4096 ≠ 4095) (hint : IntRow (rowR rw)) (hrow : rowR rw = outR io 0) : usefTR pa io n z b d B B2 := by
  intro hcI hcR K hK
  have hlit : okLit pa.n0 2097152 (lapp (RR pa (zrows 0 pa.d n) (zrows 100 pa.m n) oa 1) (zipA B2 ks)) = true := okLit_row ho1 (belR_O (by omega)) (okLit_row (ok50 hpa) (belR_I hn) (okLit_row (ok51 hpa) (belR_W hn) hl))
  have hZ3 : ∀ p ∈ ([(300, ra, rowR rw)] : List (Nat × Nat × Blk)), 300 ≤ p.1 := fun p hp => by rw [List.mem_singleton.1 hp]; show 300 ≤ 300; omega
  have hnd : (([(300, ra, rowR rw)] : List (Nat × Nat × Blk)).map (·.1)).Nodup := by simp
  have k1 := keepIR hpa Zs hn (i := 0) hlit hZ3
  refine round_use2 good1.spl ht ?_
  refine bcase_tt (dcq_lt (by simp only [Int.ofNat_eq_natCast]; omega)) (bcase_tt (inB_of hi) ⟨hcI, hcR, hC _ ?_⟩)
  have leaf : ∀ (env : Env) (h : H) (ds : List Bool), obs [6, 7, 16, 17, 71, 72, 73] (actsOf (lapp (RR pa (zrows 0 pa.d n) (zrows 100 pa.m n) oa 1) (zipA B2 ks)) [(300, ra, rowR rw)]) (lapp (RR pa (zrows 0 pa.d n) (zrows 100 pa.m n) oa 1) (zipA B2 ks)) [(300, ra, rowR rw)] env h = expsR pa.n0 (kpOf z) (eR pa n (ggR pa (zn 0) b) (.slc pa.n0 0 1 1 false 1) 1) (RR pa (zrows 0 pa.d n) (zrows 100 pa.m n) oa 1) (zipA B2 ks) [(300, ra, rowR rw)] z (rawR (zrows 0 pa.d n) (zrows 100 pa.m n) [.slc ra 0 pa.m pa.m false 1]) → K .nrm env h ds := by
    intro env h ds ho
    have fin : ∃ σ, Abs pa.n0 σ (stR pa io n z 1 (ggR pa (zn 0) b) B2).env (stR pa io n z 1 (ggR pa (zn 0) b) B2).h env h := by
      rw [expsR_eq] at ho
      · exact NewOK.abs (t := (stR pa io n z 1 (ggR pa (zn 0) b) B2)) (A := lapp (RR pa (zrows 0 pa.d n) (zrows 100 pa.m n) oa 1) (zipA B2 ks)) (Z := [(300, ra, rowR rw)]) (z := z)
          ⟨by rw [lmap_app, zipA_B]; rfl, by show T.set z (outR io 0) (300 + 0) = T.set z (rowR rw) 300; rw [hrow], by have := hpa.hi; show pa.n0 ≤ 2097152; omega, sl_e hpa .., hlit, hk, ha,
            fun p hp => by
              rw [List.mem_singleton.1 hp]
              exact ⟨by have := hpa.hi; show pa.n0 ≤ zn 300; rw [zn_eq]; omega, by show zn 300 < 2097152; rw [zn_eq]; omega, r1, r2, r3, hint⟩,
            hnd, by have := zoR_ok Zs (i := 0) (by omega); exact this⟩ rfl rfl rfl rfl ho
      · have e1 : [.slc ra 0 pa.m pa.m false 1] = renL (szs pa.n0 (namesOf (lapp (RR pa (zrows 0 pa.d n) (zrows 100 pa.m n) oa 1) (zipA B2 ks)) [(300, ra, rowR rw)]) (kpOf z)) (zrows 300 pa.m 1) := by
          refine zrows_grow (i := 0) (fun j hj => ?_) (szs_row hlit (by have := hpa.hi; show pa.n0 ≤ zn (300 + 0); rw [zn_eq]; omega) (List.mem_singleton.2 rfl) hnd)
          omega
        show [(some (Blk.row _ _ _ _), true), (some (Blk.row _ _ _ _), true), (some (Blk.row _ _ _ _), true)] = [(some (Blk.row (renL _ _) _ _ _), true), (some (Blk.row (renL _ _) _ _ _), true), (some (Blk.row (renL _ _) _ _ _), true)]
        rw [← e1]
        have k1 := k1
        change renL (szs pa.n0 (namesOf _ _) (kpOf z)) _ = _ ∧ renL (szs pa.n0 (namesOf _ _) (kpOf z)) _ = _ at k1
        rw [k1.1, k1.2]; rfl
    exact fin.elim fun σ ab => hK env h ds σ ab
  exact leaf
def useTR (pa : AP) (io : IO) (n : Nat) (z : T Blk) (i : Nat) (b : List Int) (d : List Bool) (B B2 : List (Nat × Blk)) : Prop :=
  cIR pa (hR pa (zoR io z i) (zrows 0 pa.d n) (zrows 100 pa.m n) i B) (ixR i) (zn i) b → cRR pa (hR pa (zoR io z i) (zrows 0 pa.d n) (zrows 100 pa.m n) i B) (zn i) b → ∀ {K : KE}, (∀ env h ds σ, Abs pa.n0 σ (stR pa io n z (i + 1) (ggR pa (zn i) b) B2).env (stR pa io n z (i + 1) (ggR pa (zn i) b) B2).h env h → K .nrm env h ds) → goR pa (hR pa (zoR io z i) (zrows 0 pa.d n) (zrows 100 pa.m n) i B) n i (zn i) (.slc pa.n0 0 i i false 1) b d K
theorem useGR {pa : AP} (hpa : pa.Ok) {io : IO} {n : Nat} {z : T Blk} {i : Nat} {b : List Int} {d : List Bool} {B B2 : List (Nat × Blk)} {ks : List Nat} {oa ra : Nat} {rw : List AV} {C : Prop → Prop} (ho1 : okLit pa.n0 2097152 [(pa.n0, oa, .row [] 22 true [])] = true) (Zs : ZinR io n z) (hn : n ≤ 80) (hi : i < n)
    (ht : ∀ Kv, goR pa (hR pa (zoR io z i) (zrows 0 pa.d n) (zrows 100 pa.m n) i B) n i (zn i) (.slc pa.n0 0 i i false 1) b d (obR pa (zrows 0 pa.d n) (zrows 100 pa.m n) i (zipA B2 ks) oa ra rw Kv) = hdR pa (hR pa (zoR io z i) (zrows 0 pa.d n) (zrows 100 pa.m n) i B) n i (ixR i) (zn i) b (C (ttR pa i (lfR pa (zoR io z i) (zrows 0 pa.d n) (zrows 100 pa.m n) n i (zn i) b (zipA B2 ks) oa ra rw Kv))))
    (hC : ∀ t, t → C t) (hl : okLit pa.n0 2097152 (zipA B2 ks) = true) (hk : nodupQ (lmap (fun p => p.1) (lapp (RR pa (zrows 0 pa.d n) (zrows 100 pa.m n) oa (i + 1)) (zipA B2 ks))) = true) (ha : nodupQ (actsOf (lapp (RR pa (zrows 0 pa.d n) (zrows 100 pa.m n) oa (i + 1)) (zipA B2 ks)) [((300 + i), ra, rowR rw)]) = true)
    (r1 : pa.n0 ≤ ra) (r2 : ra < 1000000000000) (r3 : ra % 4096 ≠ 4095) (hint : IntRow (rowR rw)) (hrow : rowR rw = outR io i) : useTR pa io n z i b d B B2 := by
  intro hcI hcR K hK
  have hlit : okLit pa.n0 2097152 (lapp (RR pa (zrows 0 pa.d n) (zrows 100 pa.m n) oa (i + 1)) (zipA B2 ks)) = true := okLit_row ho1 (belR_O (by omega)) (okLit_row (ok50 hpa) (belR_I hn) (okLit_row (ok51 hpa) (belR_W hn) hl))
  have hZ3 : ∀ p ∈ ([((300 + i), ra, rowR rw)] : List (Nat × Nat × Blk)), 300 ≤ p.1 := fun p hp => by rw [List.mem_singleton.1 hp]; show 300 ≤ 300 + i; omega
  have hnd : (([((300 + i), ra, rowR rw)] : List (Nat × Nat × Blk)).map (·.1)).Nodup := by simp
  have k1 := keepIR hpa Zs hn (i := i) hlit hZ3
  refine round_use2 good1.spl ht ?_
  refine bcase_tt (dcq_lt (by simp only [Int.ofNat_eq_natCast]; omega)) (bcase_tt (inB_of hi) ⟨hcI, hcR, hC _ ?_⟩)
  have leaf : ∀ (env : Env) (h : H) (ds : List Bool), obs [6, 7, 16, 17, 71, 72, 73] (actsOf (lapp (RR pa (zrows 0 pa.d n) (zrows 100 pa.m n) oa (i + 1)) (zipA B2 ks)) [((300 + i), ra, rowR rw)]) (lapp (RR pa (zrows 0 pa.d n) (zrows 100 pa.m n) oa (i + 1)) (zipA B2 ks)) [((300 + i), ra, rowR rw)] env h = expsR pa.n0 (kpOf (zoR io z i)) (eR pa n (ggR pa (zn i) b) (.slc pa.n0 0 (i + 1) (i + 1) false 1) (i + 1)) (RR pa (zrows 0 pa.d n) (zrows 100 pa.m n) oa (i + 1)) (zipA B2 ks) [((300 + i), ra, rowR rw)] (zoR io z i) (rawR (zrows 0 pa.d n) (zrows 100 pa.m n) (ocR pa i ra)) → K .nrm env h ds := by
    intro env h ds ho
    have fin : ∃ σ, Abs pa.n0 σ (stR pa io n z (i + 1) (ggR pa (zn i) b) B2).env (stR pa io n z (i + 1) (ggR pa (zn i) b) B2).h env h := by
      rw [expsR_eq] at ho
      · exact NewOK.abs (t := (stR pa io n z (i + 1) (ggR pa (zn i) b) B2)) (A := lapp (RR pa (zrows 0 pa.d n) (zrows 100 pa.m n) oa (i + 1)) (zipA B2 ks)) (Z := [((300 + i), ra, rowR rw)]) (z := (zoR io z i))
          ⟨by rw [lmap_app, zipA_B]; rfl, by show T.set (zoR io z i) (outR io i) (300 + i) = T.set (zoR io z i) (rowR rw) (300 + i); rw [hrow], by have := hpa.hi; show pa.n0 ≤ 2097152; omega, sl_e hpa .., hlit, hk, ha,
            fun p hp => by
              rw [List.mem_singleton.1 hp]
              exact ⟨by have := hpa.hi; show pa.n0 ≤ zn (300 + i); rw [zn_eq]; omega, by show zn (300 + i) < 2097152; rw [zn_eq]; omega, r1, r2, r3, hint⟩,
            hnd, zoR_ok Zs (by omega)⟩ rfl rfl rfl rfl ho
      · have e1 : (ocR pa i ra) = renL (szs pa.n0 (namesOf (lapp (RR pa (zrows 0 pa.d n) (zrows 100 pa.m n) oa (i + 1)) (zipA B2 ks)) [((300 + i), ra, rowR rw)]) (kpOf (zoR io z i))) (zrows 300 pa.m (i + 1)) := by
          refine zrows_grow (i := i) (fun j hj => ?_) (szs_row hlit (by have := hpa.hi; show pa.n0 ≤ zn (300 + i); rw [zn_eq]; omega) (List.mem_singleton.2 rfl) hnd)
          exact szs_zone hlit (zgrow_new hj) (fun p hp e => by rw [List.mem_singleton.1 hp] at e; have e : 300 + i = 300 + j := e; omega)
        show [(some (Blk.row _ _ _ _), true), (some (Blk.row _ _ _ _), true), (some (Blk.row _ _ _ _), true)] = [(some (Blk.row (renL _ _) _ _ _), true), (some (Blk.row (renL _ _) _ _ _), true), (some (Blk.row (renL _ _) _ _ _), true)]
        rw [← e1]
        have k1 := k1
        skip
        rw [k1.1, k1.2]; rfl
    exact fin.elim fun σ ab => hK env h ds σ ab
  exact bcase_tt (dcq_cap i) (bcase_tt (appC_ok (by rw [zrows_len]) (by omega)) (bcase_any (bcase_tt (inR_add (by omega)) leaf) (bcase_tt (inR_add (by omega)) leaf)))
end
end Go.Proofs.YtkfhjobebhdpoaaGreat
/- Stream: Run's loop over ticks av a contract, whatever the columns are. -/
set_option autoImplicit false
set_option maxRecDepth 1000000
set_option maxHeartbeats 2000000
set_option linter.unusedVariables false
namespace Go.Proofs.YtkfhjobebhdpoaaGreat
noncomputable section
open Go.X
theorem bleR_t {i n : Nat} (h : i < n) : Nat.ble (i + 1) n = true := Nat.ble_eq_true_of_le h
theorem bleR_f {i n : Nat} (h : ¬ i < n) : Nat.ble (i + 1) n = false := ble_false (by omega)
theorem zrowsR_keep {ρ : Nat → Nat} {x m n : Nat} (h : ∀ j, j < n → ρ (zn (x + j)) = zn (x + j)) : renL ρ (zrows x m n) = zrows x m n := by
  unfold zrows
  rw [renL_slc]
  exact List.map_congr_left fun j hj => by rw [h j (List.mem_range.1 hj)]
/-- what is told ahead holds: where the rows lie -/
theorem cellRI {b : T Blk} {N n i d : Nat} (hi : i < n) {e : TypeId} (h : b.get 50 = some (.row (zrows 0 d n) e true [])) (c : Nat → Int) : cellIs ⟨b, N⟩ 50 (Nat.add 0 (Nat.mul (Int.toNat (Int.ofNat i)) 1)) (.row (zn i) d c) := by
  rw [ix_eq]
  refine ⟨d, false, Nat.le_refl _, ?_⟩
  unfold cellOf
  show (match T.get b 50 with | some (.row cells _ _ _) => lget cells i | _ => none) = _
  rw [h]
  show lget (zrows 0 d n) i = _
  rw [lget_eq]
  unfold zrows
  rw [List.getElem?_map, List.getElem?_range hi]
  simp
/-- .. and what they hold -/
theorem cellsR {h : H} {A : Nat} {c : Nat → CV} : ∀ (k m : Nat), (∀ j, j < k → cellIs h A (m + j) (c (m + j))) → cellsAre h A c k m
  | 0, _, _ => trivial
  | k + 1, m, hc => ⟨hc 0 (Nat.succ_pos _), cellsR k (m + 1) fun j hj => by
      have := hc (j + 1) (by omega)
      rw [show m + 1 + j = m + (j + 1) by omega]
      exact this⟩
theorem okn0 {pa : AP} (hpa : pa.Ok) : okLit pa.n0 2097152 [(pa.n0, pa.n0, .row [] 22 true [])] = true := hpa.ok0
theorem sl_f {pa : AP} (hpa : pa.Ok) (n : Nat) : belEs 2097152 [(6, .nils), (7, .int .i64 (Int.ofNat 0)), (17, .slc pa.n0 0 n n false 1)] = true := by
  have h1 : Nat.ble (Nat.succ pa.n0) 2097152 = true := Nat.ble_eq_true_of_le (by have := hpa.hi; omega)
  show Bool.and true (Bool.and true (Bool.and (Nat.ble (Nat.succ pa.n0) 2097152) true)) = true
  rw [h1]
  rfl
theorem nd0 {pa : AP} (hpa : pa.Ok) (n : Nat) : nodupQ (lmap (fun p => p.1) (lapp [(pa.n0, pa.n0, Blk.row (zrows 300 pa.m n) 22 true []), (50, 50, .row (zrows 0 pa.d n) 22 true []), (51, 51, .row (zrows 100 pa.m n) 22 true [])] [])) = true := hpa.nd
theorem nd1 {pa : AP} (hpa : pa.Ok) (n : Nat) : nodupQ (actsOf (lapp [(pa.n0, pa.n0, Blk.row (zrows 300 pa.m n) 22 true []), (50, 50, .row (zrows 0 pa.d n) 22 true []), (51, 51, .row (zrows 100 pa.m n) 22 true [])] []) []) = true := hpa.nd
theorem doneR {pa : AP} (hpa : pa.Ok) {io : IO} {n : Nat} {z : T Blk} (Zs : ZinR io n z) (hn : n ≤ 80) (R : List (Nat × Nat × Blk)) (hR : R = [(pa.n0, pa.n0, .row (zrows 300 pa.m n) 22 true []), (50, 50, .row (zrows 0 pa.d n) 22 true []), (51, 51, .row (zrows 100 pa.m n) 22 true [])]) {env : Env} {h : H}
    (ho : obs [6, 7, 17] (actsOf (lapp R []) []) (lapp R []) [] env h = expsR pa.n0 (kpOf (zoR io z n)) [(6, .nils), (7, .int .i64 (Int.ofNat 0)), (17, .slc pa.n0 0 n n false 1)] R [] [] (zoR io z n) [(some (.row (zrows 300 pa.m n) 22 true []), true), (some (.row (zrows 0 pa.d n) 22 true []), true), (some (.row (zrows 100 pa.m n) 22 true []), true)]) :
    ∃ σ, Abs pa.n0 σ (finR pa io n z).env (finR pa io n z).h env h := by
  subst hR
  have hlit : okLit pa.n0 2097152 (lapp [(pa.n0, pa.n0, .row (zrows 300 pa.m n) 22 true []), (50, 50, .row (zrows 0 pa.d n) 22 true []), (51, 51, .row (zrows 100 pa.m n) 22 true [])] []) = true := okLit_row (okn0 hpa) (belR_O (by omega)) (okLit_row (ok50 hpa) (belR_I hn) (okLit_row (ok51 hpa) (belR_W hn) rfl))
  have k1 := keepIR hpa Zs hn (i := n) (Zn := []) hlit (fun p hp => by cases hp)
  have k2 : renL (szs pa.n0 (namesOf (lapp [(pa.n0, pa.n0, .row (zrows 300 pa.m n) 22 true []), (50, 50, .row (zrows 0 pa.d n) 22 true []), (51, 51, .row (zrows 100 pa.m n) 22 true [])] []) []) (kpOf (zoR io z n))) (zrows 300 pa.m n) = zrows 300 pa.m n := by
    exact zrowsR_keep fun j hj => szs_zone hlit (zgrow_new hj) (fun p hp e => by cases hp)
  rw [expsR_eq] at ho
  · exact NewOK.abs (t := finR pa io n z) (A := lapp [(pa.n0, pa.n0, .row (zrows 300 pa.m n) 22 true []), (50, 50, .row (zrows 0 pa.d n) 22 true []), (51, 51, .row (zrows 100 pa.m n) 22 true [])] []) (Z := []) (z := zoR io z n)
      ⟨rfl, rfl, by have := hpa.hi; show pa.n0 ≤ 2097152; omega, sl_f hpa n, hlit, nd0 hpa n, nd1 hpa n, (fun p hp => (by cases hp)), List.nodup_nil, zoR_ok Zs (by omega)⟩ rfl rfl rfl rfl ho
  · show _ = [(some (Blk.row (renL _ _) _ _ _), true), (some (Blk.row (renL _ _) _ _ _), true), (some (Blk.row (renL _ _) _ _ _), true)]
    rw [k2, k1.1, k1.2]; rfl
theorem belR_I0 {pa : AP} (hpa : pa.Ok) {n : Nat} (hn : n ≤ 80) : belL pa.n0 (zrows 0 pa.d n) = true := belL_slc _ (fun j => zn (0 + j)) _ _ _ fun j hj => by have := List.mem_range.1 hj; rw [zn_eq]; have := hpa.lo; show _ < pa.n0; omega
theorem belR_W0 {pa : AP} (hpa : pa.Ok) {n : Nat} (hn : n ≤ 80) : belL pa.n0 (zrows 100 pa.m n) = true := belL_slc _ (fun j => zn (100 + j)) _ _ _ fun j hj => by have := List.mem_range.1 hj; rw [zn_eq]; have := hpa.lo; show _ < pa.n0; omega
/-- the states of the loop -/
inductive SR where
  | s0 (g : Nat → CV)
  | s1 (i : Nat) (av : List Int) (g : Nat → CV)
/-- the loop is left -/
def exR (pa : AP) (z : T Blk) (csI csW : List AV) (n' i : Nat) (g : Nat → CV) (B : List (Nat × Blk)) (Kv : XE → Obs → Prop) : Prop := xcode C1 Tryz.prog F 14 (loopC Tryz.prog 14 22) (mask 14) (tmpsN Tryz.prog 14) (mkE (eR pa n' g (.slc pa.n0 0 i i false 1) i)) ⟨mkB z (lapp (rrR pa (zrows 300 pa.m i) csI csW) B), 2097152⟩ [false] (fun x env h _ => Kv x (obs [6, 7, 17] (actsOf (lapp [(pa.n0, pa.n0, .row (zrows 300 pa.m i) 22 true []), (50, 50, .row csI 22 true []), (51, 51, .row csW 22 true [])] []) []) (lapp [(pa.n0, pa.n0, .row (zrows 300 pa.m i) 22 true []), (50, 50, .row csI 22 true []), (51, 51, .row csW 22 true [])] []) [] env h)) = (bcase (dcq false (ltI (Int.ofNat i) (Int.ofNat n'))) (Kv (.ext 2) (expsR pa.n0 (kpOf z) [(6, .nils), (7, .int .i64 (Int.ofNat 0)), (17, .slc pa.n0 0 i i false 1)] [(pa.n0, pa.n0, .row (zrows 300 pa.m i) 22 true []), (50, 50, .row csI 22 true []), (51, 51, .row csW 22 true [])] [] [] z [(some (.row (zrows 300 pa.m i) 22 true []), true), (some (.row csI 22 true []), true), (some (.row csW 22 true []), true)])) False)
/-- what a program's own texts give -/
structure Runs (pa : AP) (io : IO) (n : Nat) where
  b0 : List (Nat × Blk)
  b1 : List Int → List (Nat × Blk)
  ok : Nat → List Int → Prop
  d0 : List Bool
  d1 : List Bool
  a1 : List Int
  nx : Nat → List Int → List Int
  oka : ok 1 a1
  okn : ∀ i av, ok i av → i < n → ok (i + 1) (nx i av)
  bl : blksN pa.n0 b0 = true
  get0 : ∀ (z : T Blk) (csI csW : List AV), T.get (mkB z (lapp (rr0R csI csW) b0)) 50 = some (.row csI 22 true [])
  zg0 : ∀ (z : T Blk) (csI csW : List AV), zget (mkB z (lapp (rr0R csI csW) b0)) 12 = z
  get1 : ∀ (z : T Blk) (cs csI csW : List AV) (i : Nat) (av : List Int), ok i av → T.get (mkB z (lapp (rrR pa cs csI csW) (b1 av))) 50 = some (.row csI 22 true [])
  zg1 : ∀ (z : T Blk) (cs csI csW : List AV) (i : Nat) (av : List Int), ok i av → zget (mkB z (lapp (rrR pa cs csI csW) (b1 av))) 12 = z
  st0 : ∀ z, ZinR io n z → 0 < n → usefTR pa io n z (io.inp 0) d0 b0 (b1 a1)
  st1 : ∀ z, ZinR io n z → ∀ i av, ok i av → i < n → useTR pa io n z i (io.inp i) d1 (b1 av) (b1 (nx i av))
  ex1 : ∀ (z : T Blk) (csI csW : List AV) (n' i : Nat) (g : Nat → CV) (av : List Int), ok i av → ∀ Kv : XE → Obs → Prop, exR pa z csI csW n' i g (b1 av) Kv
  len : ∀ j, (io.inp j).length = pa.d
section
variable {pa : AP} {io : IO} {n : Nat}
def SR.ok (R : Runs pa io n) : SR → Prop
  | .s0 _ => True
  | .s1 i av _ => 1 ≤ i ∧ i ≤ n ∧ R.ok i av
def SR.st (R : Runs pa io n) (z : T Blk) : SR → ZS
  | .s0 g => ⟨eR pa n g .nils 0, lapp (rr0R (zrows 0 pa.d n) (zrows 100 pa.m n)) R.b0, z, pa.n0⟩
  | .s1 i av g => stR pa io n z i g (R.b1 av)
def SR.er (R : Runs pa io n) : SR → List (Nat × AV)
  | .s0 _ => eR pa n (ggR pa (zn 0) (io.inp 0)) .nils 0
  | .s1 i _ _ => eR pa n (ggR pa (zn i) (io.inp i)) (.slc pa.n0 0 i i false 1) i
def SR.dr (R : Runs pa io n) : SR → List Bool
  | .s0 _ => R.d0
  | .s1 i _ _ => cond (Nat.ble (i + 1) n) R.d1 [false]
def SR.mu (n : Nat) : SR → Nat
  | .s0 _ => n + 1
  | .s1 i _ _ => n - i
theorem pe_eR (pa : AP) (n : Nat) (g g' : Nat → CV) (out : AV) (i : Nat) : Pe (eR pa n g out i) (eR pa n g' out i) :=
  .cons _ _ _ _ _ (.inl rfl) (.cons _ _ _ _ _ (.inl rfl) (.cons _ _ _ _ _ (.inl rfl) (.cons _ _ _ _ _ (.inl rfl) (.cons _ _ _ _ _ (.inr ⟨_, _, _, _, _, rfl, rfl⟩) (.cons _ _ _ _ _ (.inl rfl) (.cons _ _ _ _ _ (.inl rfl) .nil))))))
theorem inp_cells {R : Runs pa io n} {b z : T Blk} {N j : Nat} (hz : zget b 12 = z) (h : z.get j = some (inRowR io j)) : cRR pa ⟨b, N⟩ (zn j) (io.inp j) := by
  refine cellsR pa.d 0 fun k hk => ?_
  rw [Nat.zero_add]
  have hl := R.len j
  show cellOf ⟨b, N⟩ (zn j) k = some (.int .i64 (Option.rec 0 (fun x => x) (lget (io.inp j) k)))
  unfold cellOf
  show (match T.get b (zname 12 j) with | some (.row cells _ _ _) => lget cells k | _ => none) = _
  rw [zget_get, hz, h]
  show lget ((io.inp j).map (AV.int .i64)) k = _
  rw [lget_eq, lget_eq, List.getElem?_map, List.getElem?_eq_getElem (by omega)]
  rfl
theorem loopR_good (hpa : pa.Ok) (R : Runs pa io n) {C : Cfg} (G : X.Good C Tryz.prog) (hg : C.gl = fun _ => none) (hm : C.mask 14 = mask 14) (hn1 : 1 ≤ n) (hn : n ≤ 80) {z : T Blk} (Zs : ZinR io n z) (g : Nat → CV) :
    X.Good (C.addLc 14 22 (lcZ (S0 := Unit) (fun _ => True) (lmap (fun p => p.1) (eR pa n g .nils 0)) (lmap (fun p => p.1) (lapp (rr0R (zrows 0 pa.d n) (zrows 100 pa.m n)) R.b0)) (fun _ => SR.st R z (.s0 g)) (fun _ => (.ext 2, finR pa io n z)))) Tryz.prog := by
  refine G.addZR good1 (by rw [hg]; rfl) (S := SR) (SR.dr R) (n0 := pa.n0) (ι := fun _ => .s0 g) (ok := SR.ok R) (St := SR.st R z) (SR.er R) (μ := SR.mu n) (fin := fun _ => (.ext 2, finR pa io n z)) (fuel := F) hm.symm (by rfl) ?_ ?_ ?_ (fun g i h => by rw [hg] at h; cases h)
  · intro s _
    cases s <;> exact pe_eR ..
  · intro _ _
    refine ⟨trivial, rfl, rfl, ⟨rfl, ?_, ?_, ?_⟩, by have := hpa.hi; show pa.n0 ≤ 2097152; omega, rfl, rfl⟩
    · have h51 : Nat.ble (Nat.succ 50) pa.n0 = true := Nat.ble_eq_true_of_le (by have := hpa.lo; omega)
      show Bool.and true (Bool.and true (Bool.and (bel pa.n0 pa.act) (Bool.and true (Bool.and (Nat.ble (Nat.succ 50) pa.n0) (Bool.and true (Bool.and true true)))))) = true
      rw [hpa.ac, h51]; rfl
    · exact blksN_app (R := rr0R (zrows 0 pa.d n) (zrows 100 pa.m n)) R.bl (blksN_row (by have := hpa.lo; show 50 < pa.n0; omega) (belR_I0 hpa hn) (blksN_row (by have := hpa.lo; show 51 < pa.n0; omega) (belR_W0 hpa hn) rfl))
    · intro x k h
      obtain ⟨a, b⟩ := Zs.only x k h
      exact ⟨b, by have := hpa.lo; rw [zn_eq]; show _ < pa.n0; omega, by rw [zn_eq]; show _ < 1000000000000; omega⟩
  · intro s hs
    rw [hm]
    cases s with
    | s0 g0 =>
      refine ⟨?_⟩
      show xcode C1 Tryz.prog F 14 (loopC Tryz.prog 14 22) (mask 14) (tmpsN Tryz.prog 14) (mkE (eR pa n (ggR pa (zn 0) (io.inp 0)) .nils 0)) _ R.d0 _
      exact R.st0 z Zs (by omega) (cellRI (i := 0) (by omega) (R.get0 ..) _) (inp_cells (R := R) (R.zg0 ..) (Zs.ins 0 (by omega)))
        (fun env h ds σ ab => ⟨.s1 1 R.a1 _, σ, ⟨Nat.le_refl _, hn1, R.oka⟩, (by show n - 1 < n + 1; omega), rfl, ab⟩)
    | s1 i av g0 =>
      obtain ⟨h1, h2, h3⟩ := hs
      by_cases hlt : i < n
      · refine ⟨?_⟩
        show xcode C1 Tryz.prog F 14 (loopC Tryz.prog 14 22) (mask 14) (tmpsN Tryz.prog 14) (mkE (eR pa n (ggR pa (zn i) (io.inp i)) (.slc pa.n0 0 i i false 1) i)) _ (cond (Nat.ble (i + 1) n) R.d1 [false]) _
        rw [bleR_t hlt]
        exact R.st1 z Zs i av h3 hlt (cellRI hlt (R.get1 _ _ _ _ _ _ h3) _) (inp_cells (R := R) (R.zg1 _ _ _ _ _ _ h3) (by rw [zoR_low (by omega), Zs.ins i hlt]))
          (fun env h ds σ ab => ⟨.s1 (i + 1) (R.nx i av) _, σ, ⟨by omega, hlt, R.okn i av h3 hlt⟩, (by show n - (i + 1) < n - i; omega), rfl, ab⟩)
      · have hin : i = n := by omega
        subst hin
        refine ⟨?_⟩
        show xcode C1 Tryz.prog F 14 (loopC Tryz.prog 14 22) (mask 14) (tmpsN Tryz.prog 14) (mkE (eR pa i (ggR pa (zn i) (io.inp i)) (.slc pa.n0 0 i i false 1) i)) _ (cond (Nat.ble (i + 1) i) R.d1 [false]) _
        rw [bleR_f (Nat.lt_irrefl i)]
        exact round_use2 good1.spl (fun Kv => R.ex1 (zoR io z i) (zrows 0 pa.d i) (zrows 100 pa.m i) i i _ av h3 Kv)
          (bcase_tt (dcq_ge (by omega)) (fun env h ds ho => (doneR hpa Zs hn _ rfl ho).elim fun σ ab => ⟨σ, rfl, ab⟩))
end
end
end Go.Proofs.YtkfhjobebhdpoaaGreat
/- Stream: Ask at rows of d small numbers, SameRows at rows of m numbers, whatever d and m are. -/
set_option autoImplicit false
set_option maxRecDepth 1000000
set_option maxHeartbeats 2000000
set_option linter.unusedVariables false
namespace Go.Proofs.YtkfhjobebhdpoaaGreat
noncomputable section
open Go.X
def roK (k : Blk) : Blk := match k with
  | .row c e _ _ => .row c e false []
  | k => k
def roL (B : List (Nat × Blk)) : List (Nat × Blk) := lmap (fun p => (p.1, roK p.2)) B
def isRow (k : Blk) : Bool := match k with
  | .row _ _ _ _ => true
  | _ => false
def allRow (B : List (Nat × Blk)) : Bool := List.rec true (fun p _ ih => Bool.and (isRow p.2) ih) B
theorem allRow_get : ∀ {B : List (Nat × Blk)}, allRow B = true → ∀ p ∈ B, isRow p.2 = true
  | [], _, p, h => by cases h
  | q :: B, h, p, hp => by
    obtain ⟨h1, h2⟩ := and_tt (by exact h : Bool.and (isRow q.2) (allRow B) = true)
    rcases List.mem_cons.1 hp with rfl | hp
    · exact h1
    · exact allRow_get h2 p hp
/-- what Run sees, where it writes nothing that was -/
def hsB (B : List (Nat × Blk)) (z : T Blk) (N : Nat) : H := ⟨mkB (roT z) (roL B), N⟩
theorem run_ro {C : Cfg} (hC : X.Good C Tryz.prog) (hgl : C.gl = fun _ => none) {f : Nat} {args : List AV} {h : H} {B : List (Nat × Blk)} {z : T Blk} {N : Nat} {V : AV} {ds1 : List Bool} (hN : h.next = N) (hB : lmap (fun p => T.get h.b p.1) B = lmap (fun p => some p.2) B) (hz : zget h.b 12 = z)
    (hzo : ZoneOK z N) (hr : allRow B = true) (hbl : blksN N (roL B) = true) (hb : belL N args = true) (hV : bel 0 V = true)
    (hk : Ran (xfun C Tryz.prog (xcode C Tryz.prog F) f args (hsB B z N) ds1 (fun v _ _ => v = V))) {ds : List Bool} {K : KV} (hK : K V h ds) (hfk : Nat.ble (Nat.succ f) YK = true := by rfl) : CallOK Tryz.prog (fun _ => none) f args h K := by
  subst hN
  refine frame_ro2 hC hgl (h := h) (hs := hsB B z h.next) rfl (fun i k hi => ?_) hb hV hk hK hfk
  rcases mkB_get (z := roT z) (B := roL B) hi with hm | ⟨x, rfl, hg⟩
  · have b1 := (blksN_get hbl _ hm).2
    unfold roL at hm
    rw [lmap_eq] at hm
    obtain ⟨p, hp, e⟩ := List.mem_map.1 hm
    have e1 : p.1 = i := congrArg Prod.fst e
    have e2 : roK p.2 = k := congrArg Prod.snd e
    have g := lmap_inj hB p hp
    have r := allRow_get hr p hp
    subst e1 e2
    cases hk0 : p.2 with
    | row c e wr ps =>
      rw [hk0] at g b1
      exact ⟨b1, c, e, wr, ps, rfl, g⟩
    | _ => rw [hk0] at r; cases r
  · have o := zone_ro hzo x k hg
    rw [roT_get] at hg
    cases hgz : z.get x with
    | none => rw [hgz] at hg; cases hg
    | some k0 =>
      rw [hgz] at hg
      obtain ⟨c, e, wr, ps, rfl, rfl⟩ := roB_some (by exact hg)
      refine ⟨(intRow_ren o.1 id h.next).2, c, e, wr, ps, rfl, ?_⟩
      show h.b.get (zname 12 x) = _
      rw [zget_get, hz]; exact hgz
def gkR : Nat → CV := fun _ => .sc 2
def kER (d KN A n i : Nat) (g : Nat → CV) : List (Nat × AV) := [(0, .vs KN 0 d gkR), (4, .int .i64 (Int.ofNat 0)), (12, .vs A 0 n g), (13, .int .i64 (Int.ofNat n)), (14, .int .i64 (Int.ofNat i))]
def gRow (r d : Nat) (xs : List Int) : Nat → CV := fun _ => .row r d (fun k => Option.rec 0 (fun x => x) (lget xs k))
/-- what Ask asks of a row, column by column -/
def askC (h : H) (r KN : Nat) (nx rt : Prop) : List Int → Nat → Prop
  | [], _ => nx
  | x :: xs, k => cellIs h r k (.sc x) ∧ cellIs h KN k (.sc 2) ∧ bcase (inR .i8 x) (bcase (inR .i64 x) (bcase (eqI x x) (askC h r KN nx rt xs (k + 1)) rt) False) False
def AskEq (d : Nat) : Prop := ∀ (h : H) (A KN n i r : Nat) (xs : List Int), xs.length = d → ∀ Kv : XE → H → List (Option AV) → List (Option AV) → Prop,
  xcode C1 Tryz.prog F 24 (loopC Tryz.prog 24 5) (mask 24) (tmpsN Tryz.prog 24) (mkE (kER d KN A n i (gRow r d xs))) h [] (fun x env h ds => Kv x h (sl [0, 4, 12, 13, 14] env) (sl [4] env)) =
    (bcase (ltI (Int.ofNat i) (Int.ofNat n)) (bcase (inB (Int.ofNat i) n) (cellIs h A (Nat.add 0 (Nat.mul (Int.toNat (Int.ofNat i)) 1)) (.row r d (fun k => Option.rec 0 (fun x => x) (lget xs k))) ∧
      askC h r KN (bcase (inR .i64 (Int.ofNat i + Int.ofNat 1)) (Kv .nrm h (slx (kER d KN A n (i + 1) (gRow r d xs))) [some (.int .i64 (Int.ofNat 0))]) False)
        (Kv .ret h [some (.vs KN 0 d gkR), some (.int .i64 (Int.ofNat 1)), some (.vs A 0 n (gRow r d xs)), some (.int .i64 (Int.ofNat n)), some (.int .i64 (Int.ofNat i))] [some (.int .i64 (Int.ofNat 1))]) xs 0) False)
      (Kv (.ext 0) h (slx (kER d KN A n i (gRow r d xs))) [some (.int .i64 (Int.ofNat 0))]))
/-- rows of small numbers -/
def SmallR (h : H) (A n d : Nat) (r : Nat → Nat) (l : Nat → List Int) : Prop := ∀ i, i < n → (∀ c, cellIs h A i (.row (r i) d c)) ∧ (l i).length = d ∧ ∀ k x, (l i)[k]? = some x → cellIs h (r i) k (.sc x) ∧ -128 ≤ x ∧ x ≤ 127
theorem askC_ok {h : H} {r KN : Nat} {nx rt : Prop} (hn : nx) : ∀ (xs : List Int) (k : Nat), (∀ j x, xs[j]? = some x → cellIs h r (k + j) (.sc x) ∧ -128 ≤ x ∧ x ≤ 127) → (∀ j, j < xs.length → cellIs h KN (k + j) (.sc 2)) → askC h r KN nx rt xs k
  | [], _, _, _ => hn
  | x :: xs, k, h1, h2 => by
    obtain ⟨c1, c2, c3⟩ := h1 0 x rfl
    have c4 := h2 0 (Nat.succ_pos _)
    refine ⟨c1, c4, bcase_tt (inR_i8 c2 (by omega)) (bcase_tt (inR_i64 (by omega) (by omega)) (bcase_tt (eqII _) (askC_ok hn xs (k + 1) (fun j y hy => ?_) (fun j hj => ?_))))⟩
    · have := h1 (j + 1) y hy
      rw [show k + 1 + j = k + (j + 1) by omega]; exact this
    · have := h2 (j + 1) (by show j + 1 < xs.length + 1; omega)
      rw [show k + 1 + j = k + (j + 1) by omega]; exact this
theorem askR_tree {d : Nat} (he : AskEq d) {h : H} {A KN n i : Nat} {r : Nat → Nat} {l : Nat → List Int} (hl : ∀ i, (l i).length = d) (ra : SmallR h A n d r l) (hk : ∀ k, k < d → cellIs h KN k (.sc 2)) (hn : n ≤ 1000) (hi : i ≤ n) {Kv : XE → H → List (Option AV) → List (Option AV) → Prop}
    (h1 : i < n → Kv .nrm h (slx (kER d KN A n (i + 1) (gRow (r i) d (l i)))) [some (.int .i64 (Int.ofNat 0))]) (h2 : i = n → Kv (.ext 0) h (slx (kER d KN A n i (gRow (r i) d (l i)))) [some (.int .i64 (Int.ofNat 0))]) :
    xcode C1 Tryz.prog F 24 (loopC Tryz.prog 24 5) (mask 24) (tmpsN Tryz.prog 24) (mkE (kER d KN A n i (gRow (r i) d (l i)))) h [] (fun x env h ds => Kv x h (sl [0, 4, 12, 13, 14] env) (sl [4] env)) := by
  refine Eq.mpr (he h A KN n i (r i) (l i) (hl i) Kv) ?_
  refine bcase_mk (fun hlt => ?_) (fun hge => ?_)
  · have hlt : i < n := by have := ltIT hlt; simpa using this
    obtain ⟨c1, c2, c3⟩ := ra i hlt
    rw [ix_eq]
    refine bcase_tt (inB_of hlt) ⟨c1 _, askC_ok (bcase_tt (inR_add (by omega)) (h1 hlt)) _ 0 (fun j x hx => by rw [Nat.zero_add]; exact c3 j x hx) (fun j hj => by rw [Nat.zero_add]; exact hk j (by omega))⟩
  · have hge : ¬ i < n := by have := ltIF hge; simpa using this
    exact h2 (by omega)
theorem pe_kER (d KN A n i : Nat) (g g' : Nat → CV) : Pe (kER d KN A n i g) (kER d KN A n i g') :=
  .cons _ _ _ _ _ (.inl rfl) (.cons _ _ _ _ _ (.inl rfl) (.cons _ _ _ _ _ (.inr ⟨_, _, _, _, _, rfl, rfl⟩) (.cons _ _ _ _ _ (.inl rfl) (.cons _ _ _ _ _ (.inl rfl) .nil))))
def lcKR (h : H) (d KN A n : Nat) (g : Nat → CV) : LCon := lcH h (S0 := Unit) (fun _ => True) [0, 4, 12, 13, 14] (fun _ => kER d KN A n 0 g) (fun _ => (.ext 0, [(4, .int .i64 (Int.ofNat 0))]))
theorem askR_good {d : Nat} (he : AskEq d) {h : H} (hc : HC h) {KN A n : Nat} (hKN : KN < h.next) (hA : A < h.next) {r : Nat → Nat} {l : Nat → List Int} (hl : ∀ i, (l i).length = d) (ra : SmallR h A n d r l) (hk : ∀ k, k < d → cellIs h KN k (.sc 2)) (hn : n ≤ 1000) (g : Nat → CV) :
    X.Good (C1.addLc 24 5 (lcKR h d KN A n g)) Tryz.prog := by
  refine good1.addHR hc (S := Nat × (Nat → CV)) (ι := fun _ => (0, g)) (ok := fun s => s.1 ≤ n) (E := fun s => kER d KN A n s.1 s.2) (Er := fun s => kER d KN A n s.1 (gRow (r s.1) d (l s.1))) (μ := fun s => n - s.1) (fin := fun _ => (.ext 0, [(4, .int .i64 (Int.ofNat 0))])) (tsF := [4]) (fuel := F) (by rfl) (fun s _ => pe_kER ..) (fun _ _ => ⟨Nat.zero_le _, rfl, rfl⟩) ?_ ?_ (fun g i h => by cases h)
  · intro s _
    have a1 := Nat.ble_eq_true_of_le hKN
    have a2 := Nat.ble_eq_true_of_le hA
    refine ⟨rfl, ?_, rfl, rfl⟩
    show Bool.and (Nat.ble (Nat.succ KN) h.next) (Bool.and true (Bool.and (Nat.ble (Nat.succ A) h.next) true)) = true
    rw [a1, a2]; rfl
  · intro s hs
    exact ⟨askR_tree he hl ra hk hn hs (Kv := fun x' h' s1 s2 => h' = h ∧ match x' with
      | .nrm => ∃ s' : Nat × (Nat → CV), s'.1 ≤ n ∧ n - s'.1 < n - s.1 ∧ (XE.ext 0, [(4, AV.int .i64 (Int.ofNat 0))]) = (XE.ext 0, [(4, AV.int .i64 (Int.ofNat 0))]) ∧ s1 = slx (kER d KN A n s'.1 s'.2)
      | y => XE.ext 0 = y ∧ s2 = slx [(4, AV.int .i64 (Int.ofNat 0))]) (fun hlt => ⟨rfl, (s.1 + 1, _), by show s.1 + 1 ≤ n; omega, by show n - (s.1 + 1) < n - s.1; omega, rfl, rfl⟩) (fun e => ⟨rfl, rfl, rfl⟩)⟩
theorem askR_run {d : Nat} (he : AskEq d) {h : H} (hc : HC h) {KN A n : Nat} (hKN : KN < h.next) (hA : A < h.next) {r : Nat → Nat} {l : Nat → List Int} (hl : ∀ i, (l i).length = d) (ra : SmallR h A n d r l) (hk : ∀ k, k < d → cellIs h KN k (.sc 2)) (hn : n ≤ 1000) (g : Nat → CV) :
    Ran (xfun (C1.addLc 24 5 (lcKR h d KN A n g)) Tryz.prog (xcode (C1.addLc 24 5 (lcKR h d KN A n g)) Tryz.prog F) 24 [.vs KN 0 d gkR, .vs A 0 n g] h [] (fun v h' _ => v = .int .i64 (Int.ofNat 0) ∧ h' = h)) := by
  have key : ∀ (K : KV), xfun (C1.addLc 24 5 (lcKR h d KN A n g)) Tryz.prog (xcode (C1.addLc 24 5 (lcKR h d KN A n g)) Tryz.prog F) 24 [.vs KN 0 d gkR, .vs A 0 n g] h [] K =
      bcase (ltI (Int.ofNat 1000) (Int.ofNat n)) (K (.int .i64 (Int.ofNat 2)) h []) (h = h ∧ ∃ _ : Unit, True ∧ slx (kER d KN A n 0 g) = slx (kER d KN A n 0 g) ∧ K (.int .i64 (Int.ofNat 0)) h []) := fun K => by kernel_rfl
  refine ⟨Eq.mpr (key _) ?_⟩
  exact bcase_ff (by rw [ltI_eq]; simp; omega) ⟨rfl, (), trivial, rfl, rfl, rfl⟩
/-- .. in a heap that holds more -/
theorem askR_ok {d : Nat} (he : AskEq d) {h : H} {KN n : Nat} {kl : List AV} {kp : List Nat} {l : Nat → List Int} (hl : ∀ i, (l i).length = d) {z : T Blk} {N : Nat} (hN : h.next = N) (hKN : KN < N) (hz30 : 51 < N) (hn : n ≤ 80) (g : Nat → CV) (hzo : ZoneOK z N) (hcs : belL N (zrows 0 d n) = true) (hkl : belL N kl = true) (hkg : ∀ k, k < d → lget kl k = some (.int .i64 2)) (hne : KN ≠ 50)
    (hB : lmap (fun a => T.get h.b a) [KN, 50] = [some (.row kl 3 true kp), some (.row (zrows 0 d n) 22 true [])]) (hz : zget h.b 12 = z) (hlit : KN % 4096 ≠ 4095)
    (hins : ∀ j, j < n → z.get j = some (.row ((l j).map (.int .i64)) 3 true [])) (hsm : ∀ j x, x ∈ l j → -128 ≤ x ∧ x ≤ 127) {ds : List Bool} {K : KV} (hK : K (.int .i64 (Int.ofNat 0)) h ds) :
    CallOK Tryz.prog (fun _ => none) 24 [.slc KN 0 d d false 1, .vs 50 0 n g] h K := by
  subst hN
  have b1 := Nat.ble_eq_true_of_le hKN
  have b2 : Nat.ble (Nat.succ 50) h.next = true := Nat.ble_eq_true_of_le (by omega)
  have hbl : blksN h.next [(KN, .row kl 3 false []), (50, .row (zrows 0 d n) 22 false [])] = true := by
    show Bool.and (Bool.and (Nat.ble (Nat.succ KN) h.next) (belL h.next kl)) (Bool.and (Bool.and (Nat.ble (Nat.succ 50) h.next) (belL h.next (zrows 0 d n))) true) = true
    rw [b1, b2, hcs, hkl]; rfl
  have hs : ZS.ok ⟨[], [(KN, .row kl 3 false []), (50, .row (zrows 0 d n) 22 false [])], roT z, h.next⟩ h.next := ⟨rfl, rfl, hbl, zone_ro hzo⟩
  have g1 : (mkB (roT z) [(KN, .row kl 3 false []), (50, .row (zrows 0 d n) 22 false [])]).get KN = some (.row kl 3 false []) := T.get_set_same _ _
  have g2 : (mkB (roT z) [(KN, .row kl 3 false []), (50, .row (zrows 0 d n) 22 false [])]).get 50 = some (.row (zrows 0 d n) 22 false []) := by
    rw [mkB_cons, T.get_set_other _ _ _ (Ne.symm hne), mkB_cons]; exact T.get_set_same _ _
  have g3 : ∀ j, j < n → (mkB (roT z) [(KN, .row kl 3 false []), (50, .row (zrows 0 d n) 22 false [])]).get (zn j) = some (.row ((l j).map (.int .i64)) 3 false []) := by
    intro j hj
    rw [mkB_cons, T.get_set_other _ _ _ (by show zn j ≠ KN; rw [zn_eq]; omega), mkB_cons, T.get_set_other _ _ _ (by show zn j ≠ 50; rw [zn_eq]; omega), zput_zn, roT_get, hins j hj]; rfl
  refine call_args (args2 := [.vs KN 0 d gkR, .vs 50 0 n g]) (fun L vs hv => ?_) ?_
  · cases hv with
    | cons _ _ _ _ a b => exact .cons _ _ _ _ (rv_vs a) b
  · have ra : SmallR ⟨mkB (roT z) [(KN, .row kl 3 false []), (50, .row (zrows 0 d n) 22 false [])], h.next⟩ 50 n d zn l := by
      intro i hi
      refine ⟨fun c => ⟨d, false, Nat.le_refl _, ?_⟩, hl i, fun k x hx => ⟨cellOf_of (g3 i hi) ?_, hsm i x (List.mem_of_getElem? hx)⟩⟩
      · have := zrows_get (x := 0) (m := d) hi
        rw [Nat.zero_add] at this
        exact cellOf_of g2 this
      · rw [lget_eq, List.getElem?_map, hx]; rfl
    have hk : ∀ k, k < d → cellIs ⟨mkB (roT z) [(KN, .row kl 3 false []), (50, .row (zrows 0 d n) 22 false [])], h.next⟩ KN k (.sc 2) := fun k hk => cellOf_of g1 (hkg k hk)
    have G := askR_good he hs.hc (KN := KN) (A := 50) hKN (by show 50 < h.next; omega) hl ra hk (by omega) g
    have rn := askR_run he hs.hc hKN (by show 50 < h.next; omega) hl ra hk (by omega) g
    obtain ⟨v, h', ds', q, _, back⟩ := xfun_spl G.spl (xcode_spl G.spl F) 24 [.vs KN 0 d gkR, .vs 50 0 n g] _ [] _ rn.out
    refine run_ro G rfl (B := [(KN, .row kl 3 true kp), (50, .row (zrows 0 d n) 22 true [])]) (z := z) (ds1 := []) rfl hB hz hzo rfl hbl ?_ rfl ⟨back (fun v2 _ _ => v2 = .int .i64 (Int.ofNat 0)) q.1⟩ hK
    show Bool.and (Nat.ble (Nat.succ KN) h.next) (Bool.and (Nat.ble (Nat.succ 50) h.next) true) = true
    rw [b1, b2]; rfl
/- SameRows -/
def sER (m A B n : Nat) (x : Nat → Nat → Int) (za zb : Nat → Nat) (i : Nat) : List (Nat × AV) := [(0, .vs A 0 n (fun i => .row (za i) m (x i))), (1, .vs B 0 n (fun i => .row (zb i) m (x i))), (4, .bool false), (5, .int .i64 (Int.ofNat i))]
def sameC (h : H) (A B n i m : Nat) (x : Nat → Nat → Int) (za zb : Nat → Nat) (nx rt : Prop) : Nat → Nat → Prop
  | 0, _ => nx
  | l + 1, k => bcase (inB (Int.ofNat i) n) (cellIs h A (ixR i) (.row (za (ixR i)) m (x (ixR i))) ∧ cellIs h (za (ixR i)) k (.sc (x (ixR i) k)) ∧ bcase (inB (Int.ofNat i) n) (cellIs h B (ixR i) (.row (zb (ixR i)) m (x (ixR i))) ∧ cellIs h (zb (ixR i)) k (.sc (x (ixR i) k)) ∧
      bcase (eqI (x (ixR i) k) (x (ixR i) k)) (bcase (inB (Int.ofNat i) n) (cellIs h A (ixR i) (.row (za (ixR i)) m (x (ixR i))) ∧ sameC h A B n i m x za zb nx rt l (k + 1)) False) rt) False) False
def SameEq (m : Nat) : Prop := ∀ (h : H) (A B n i : Nat) (x : Nat → Nat → Int) (za zb : Nat → Nat) (Kv : XE → H → List (Option AV) → Prop),
  xcode C1 Tryz.prog F 16 (loopC Tryz.prog 16 5) (mask 16) (tmpsN Tryz.prog 16) (mkE (sER m A B n x za zb i)) h [] (fun x env h ds => Kv x h (sl [0, 1, 4, 5] env)) =
    (bcase (ltI (Int.ofNat i) (Int.ofNat n)) (bcase (inB (Int.ofNat i) n) (cellIs h A (ixR i) (.row (za (ixR i)) m (x (ixR i))) ∧ bcase (inB (Int.ofNat i) n) (cellIs h B (ixR i) (.row (zb (ixR i)) m (x (ixR i))) ∧ bcase (inB (Int.ofNat i) n) (cellIs h A (ixR i) (.row (za (ixR i)) m (x (ixR i))) ∧
      sameC h A B n i m x za zb (bcase (inR .i64 (Int.ofNat i + Int.ofNat 1)) (Kv .nrm h (slx (sER m A B n x za zb (i + 1)))) False) (Kv .ret h (slx (sER m A B n x za zb i))) m 0) False) False) False)
      (Kv (.ext 0) h (slx (sER m A B n x za zb i))))
theorem sameC_ok {h : H} {A B n i m : Nat} {x : Nat → Nat → Int} {za zb : Nat → Nat} {nx rt : Prop} (hlt : i < n) (ra : RowsAre h A n m za x) (rb : RowsAre h B n m zb x) (hn : nx) : ∀ l k, k + l = m → sameC h A B n i m x za zb nx rt l k
  | 0, _, _ => hn
  | l + 1, k, hk => by
    have c1 := ra i hlt
    have c2 := rb i hlt
    unfold sameC
    simp only [ixR, ix_eq]
    exact bcase_tt (inB_of hlt) ⟨c1.1, c1.2 k (by omega), bcase_tt (inB_of hlt) ⟨c2.1, c2.2 k (by omega), bcase_tt (eqII _) (bcase_tt (inB_of hlt) ⟨c1.1, sameC_ok hlt ra rb hn l (k + 1) (by omega)⟩)⟩⟩
theorem sameR_tree {m : Nat} (he : SameEq m) {h : H} {A B n i : Nat} {x : Nat → Nat → Int} {za zb : Nat → Nat} (ra : RowsAre h A n m za x) (rb : RowsAre h B n m zb x) (hn : n ≤ 100000) (hi : i ≤ n) {Kv : XE → H → List (Option AV) → Prop}
    (h1 : i < n → Kv .nrm h (slx (sER m A B n x za zb (i + 1)))) (h2 : i = n → Kv (.ext 0) h (slx (sER m A B n x za zb i))) :
    xcode C1 Tryz.prog F 16 (loopC Tryz.prog 16 5) (mask 16) (tmpsN Tryz.prog 16) (mkE (sER m A B n x za zb i)) h [] (fun x env h ds => Kv x h (sl [0, 1, 4, 5] env)) := by
  refine Eq.mpr (he h A B n i x za zb Kv) ?_
  refine bcase_mk (fun hlt => ?_) (fun hge => ?_)
  · have hlt : i < n := by have := ltIT hlt; simpa using this
    have c1 := ra i hlt
    have c2 := rb i hlt
    have hc := sameC_ok (rt := Kv .ret h (slx (sER m A B n x za zb i))) hlt ra rb (bcase_tt (f := False) (inR_add (i := i) (k := 1) (by omega)) (h1 hlt)) m 0 (by omega)
    simp only [ixR, ix_eq]
    exact bcase_tt (inB_of hlt) ⟨c1.1, bcase_tt (inB_of hlt) ⟨c2.1, bcase_tt (inB_of hlt) ⟨c1.1, hc⟩⟩⟩
  · have hge : ¬ i < n := by have := ltIF hge; simpa using this
    exact h2 (by omega)
theorem sameR_good {m : Nat} (he : SameEq m) {h : H} (hc : HC h) {A B n : Nat} (hA : A < h.next) (hB : B < h.next) {x : Nat → Nat → Int} {za zb : Nat → Nat} (ra : RowsAre h A n m za x) (rb : RowsAre h B n m zb x) (hn : n ≤ 100000) :
    X.Good (C1.addLc 16 5 (lcH h (S0 := Unit) (fun _ => True) [0, 1, 4, 5] (fun _ => sER m A B n x za zb 0) (fun _ => (.ext 0, sER m A B n x za zb n)))) Tryz.prog := by
  refine good1.addH hc (S := Nat) (ι := fun _ => 0) (ok := fun i => i ≤ n) (E := sER m A B n x za zb) (μ := fun i => n - i) (fin := fun _ => (.ext 0, sER m A B n x za zb n)) (fuel := F) (by rfl) (fun _ _ => ⟨Nat.zero_le _, rfl, rfl⟩) ?_ ?_ (fun g i h => by cases h)
  · intro i _
    have a1 := Nat.ble_eq_true_of_le hA
    have a2 := Nat.ble_eq_true_of_le hB
    refine ⟨rfl, ?_, rfl, ?_⟩ <;>
    · show Bool.and (Nat.ble (Nat.succ A) h.next) (Bool.and (Nat.ble (Nat.succ B) h.next) true) = true
      rw [a1, a2]; rfl
  · intro i hi
    refine ⟨sameR_tree he ra rb hn hi (Kv := fun x' h' s => h' = h ∧ match x' with
      | .nrm => ∃ s', s' ≤ n ∧ n - s' < n - i ∧ (XE.ext 0, sER m A B n x za zb n) = (XE.ext 0, sER m A B n x za zb n) ∧ s = slx (sER m A B n x za zb s')
      | y => XE.ext 0 = y ∧ s = slx (sER m A B n x za zb n)) (fun hlt => ⟨rfl, i + 1, by omega, by omega, rfl, rfl⟩) (fun e => ⟨rfl, rfl, by rw [e]⟩)⟩
theorem sameR_ok {m : Nat} (he : SameEq m) {h : H} (hc : HC h) {A B n : Nat} (hA : A < h.next) (hB : B < h.next) {x : Nat → Nat → Int} {za zb : Nat → Nat} (ra : RowsAre h A n m za x) (rb : RowsAre h B n m zb x) (hn : n ≤ 100000) {ds : List Bool} {K : KV} (hK : K (.bool true) h ds) :
    CallOK Tryz.prog (fun _ => none) 16 [.vs A 0 n (fun i => .row (za i) m (x i)), .vs B 0 n (fun i => .row (zb i) m (x i))] h K := by
  have G := sameR_good he hc hA hB ra rb hn
  refine call_ds (ds := ds) (xrun_call G.ok G.spl (fuel := F) (ds := []) ?_)
  have key : ∀ (K : KV), xfun (C1.addLc 16 5 (lcH h (S0 := Unit) (fun _ => True) [0, 1, 4, 5] (fun _ => sER m A B n x za zb 0) (fun _ => (.ext 0, sER m A B n x za zb n)))) Tryz.prog (xcode (C1.addLc 16 5 (lcH h (S0 := Unit) (fun _ => True) [0, 1, 4, 5] (fun _ => sER m A B n x za zb 0) (fun _ => (.ext 0, sER m A B n x za zb n)))) Tryz.prog F) 16 [.vs A 0 n (fun i => .row (za i) m (x i)), .vs B 0 n (fun i => .row (zb i) m (x i))] h [] K =
      bcase (eqI (Int.ofNat n) (Int.ofNat n)) (h = h ∧ ∃ _ : Unit, True ∧ slx (sER m A B n x za zb 0) = slx (sER m A B n x za zb 0) ∧ K (.bool true) h []) (K (.bool false) h []) := fun K => by kernel_rfl
  refine Eq.mpr (key _) ?_
  exact bcase_tt (eqII _) ⟨rfl, (), trivial, rfl, hK⟩
end
end Go.Proofs.YtkfhjobebhdpoaaGreat
/- Stream: stream.Run as a contract, whatever the columns are. -/
set_option autoImplicit false
set_option maxRecDepth 1000000
set_option maxHeartbeats 2000000
set_option linter.unusedVariables false
namespace Go.Proofs.YtkfhjobebhdpoaaGreat
noncomputable section
open Go.X
/-- what a program is at the door of Run: its blocks, the argument; the kinds' row at Ask, what is next there -/
structure DP where
  pB : List (Nat × Blk)
  pv : AV
  kn : Nat
  kx : Nat
  kl : List AV
  kp : List Nat
structure DP.Ok (D : DP) (d : Nat) : Prop where
  kn1 : D.kn < D.kx
  kx1 : 1000000 ≤ D.kx
  kn2 : D.kn ≠ 50
  kn3 : D.kn % 4096 ≠ 4095
  kl1 : belL D.kx D.kl = true
  kl2 : ∀ k, k < d → lget D.kl k = some (.int .i64 2)
def hRunR (pa : AP) (D : DP) (n : Nat) (z : T Blk) : H := ⟨mkB z (lapp (rr0R (zrows 0 pa.d n) (zrows 100 pa.m n)) D.pB), 1048576⟩
def conAskR (pa : AP) (D : DP) (n : Nat) (z : T Blk) (g : Nat → CV) : Con := fun args h ds K => (args = [.slc D.kn 0 pa.d pa.d false 1, .vs 50 0 n g] ∧ h.next = D.kx ∧ lmap (fun a => T.get h.b a) [D.kn, 50] = [some (.row D.kl 3 true D.kp), some (.row (zrows 0 pa.d n) 22 true [])] ∧ zget h.b 12 = z) ∧ K (.int .i64 (Int.ofNat 0)) h ds
theorem conAskR_good {pa : AP} {D : DP} (hD : D.Ok pa.d) (he : AskEq pa.d) {io : IO} (hl : ∀ j, (io.inp j).length = pa.d) (hsm : ∀ j x, x ∈ io.inp j → -128 ≤ x ∧ x ≤ 127) {n : Nat} (hn : n ≤ 80) {z : T Blk} (Zs : ZinR io n z) (g : Nat → CV) : X.Good (C0.addCon 24 (conAskR pa D n z g)) Tryz.prog :=
  good0.addCon 24 _ (fun args h ds K hk => ⟨_, _, _, hk.2, Nat.le_refl _, fun K' hk' => ⟨hk.1, hk'⟩⟩) (fun args h ds K hk => by
    obtain ⟨⟨rfl, h1, h2, h3⟩, hk⟩ := hk
    have := hD.kx1
    refine askR_ok he (l := io.inp) hl h1 hD.kn1 (by omega) hn g (fun x k h => ?_) (belL_slc _ (fun j => zn (0 + j)) _ _ _ fun j hj => by have := List.mem_range.1 hj; rw [zn_eq]; omega) hD.kl1 hD.kl2 hD.kn2 h2 h3 hD.kn3 (fun j hj => Zs.ins j hj) hsm hk
    obtain ⟨a, b⟩ := Zs.only x k h
    exact ⟨b, by rw [zn_eq]; omega, by rw [zn_eq]; show _ < 1000000000000; omega⟩)
section
variable {pa : AP} {io : IO} {n : Nat}
def lcR (R : Runs pa io n) (z : T Blk) (g : Nat → CV) : LCon := lcZ (S0 := Unit) (fun _ => True) (lmap (fun p => p.1) (eR pa n g .nils 0)) (lmap (fun p => p.1) (lapp (rr0R (zrows 0 pa.d n) (zrows 100 pa.m n)) R.b0)) (fun _ => SR.st R z (.s0 g)) (fun _ => (.ext 2, finR pa io n z))
def CRunR (D : DP) (R : Runs pa io n) (z : T Blk) (g : Nat → CV) : Cfg := (C0.addCon 24 (conAskR pa D n z g)).addLc 14 22 (lcR R z g)
def RunKey (D : DP) (R : Runs pa io n) : Prop := ∀ (z : T Blk) (g : Nat → CV) (K : KV), xfun (CRunR D R z g) Tryz.prog (xcode (CRunR D R z g) Tryz.prog F) 14 [D.pv, .str 1 102, .vs 50 0 n g] (hRunR pa D n z) [] K =
    ((([AV.slc D.kn 0 pa.d pa.d false 1, .vs 50 0 n g] = [.slc D.kn 0 pa.d pa.d false 1, .vs 50 0 n g] ∧ D.kx = D.kx ∧ [some (Blk.row D.kl 3 true D.kp), some (.row (zrows 0 pa.d n) 22 true [])] = [some (.row D.kl 3 true D.kp), some (.row (zrows 0 pa.d n) 22 true [])] ∧ z = z) ∧
      ∃ _ : Unit, True ∧ (SR.st R z (.s0 g)).o0 = (SR.st R z (.s0 g)).o0 ∧ K (.tup [.slc pa.n0 0 n n false 1, .int .i64 (Int.ofNat 0)]) (finR pa io n z).h []))
theorem runR_ok (hpa : pa.Ok) {D : DP} (hD : D.Ok pa.d) (he : AskEq pa.d) (R : Runs pa io n) (hk : RunKey D R) (hsm : ∀ j x, x ∈ io.inp j → -128 ≤ x ∧ x ≤ 127) (hn1 : 1 ≤ n) (hn : n ≤ 80) {z : T Blk} (Zs : ZinR io n z) {cap : Nat} {ex : Bool} {ds : List Bool} {K : KV} (hK : K (.tup [.slc pa.n0 0 n n false 1, .int .i64 (Int.ofNat 0)]) (finR pa io n z).h ds) :
    CallOK Tryz.prog (fun _ => none) 14 [D.pv, .str 1 102, .slc 50 0 n cap ex 1] (hRunR pa D n z) K := by
  refine call_args (args2 := [D.pv, .str 1 102, .vs 50 0 n (fun _ => .sc 0)]) (fun L vs hv => ?_) ?_
  · cases hv with
    | cons _ _ _ _ a b => cases b with
      | cons _ _ _ _ b c => cases c with
        | cons _ _ _ _ c d => exact .cons _ _ _ _ a (.cons _ _ _ _ b (.cons _ _ _ _ (rv_vs c) d))
  · have G : X.Good (CRunR D R z (fun _ => .sc 0)) Tryz.prog := loopR_good hpa R (conAskR_good hD he R.len hsm hn Zs _) rfl rfl hn1 hn Zs _
    exact call_ds (ds := ds) (xrun_call G.ok G.spl (fuel := F) (ds := []) (Eq.mpr (hk z _ _) ⟨⟨rfl, rfl, rfl, rfl⟩, (), trivial, rfl, hK⟩))
end
end
end Go.Proofs.YtkfhjobebhdpoaaGreat

/- Stream: the loop of StreamArrays that builds the ticks, as a contract, whatever the columns are. -/
import Derived.Test.YtkfhjobebhdpoaaGreatRA
import Derived.Test.YtkfhjobebhdpoaaGreatAG
set_option linter.unusedVariables false
set_option linter.unusedSimpArgs false
set_option autoImplicit false
set_option maxRecDepth 1000000
set_option maxHeartbeats 2000000
set_option linter.unusedVariables false
namespace Go.Proofs.YtkfhjobebhdpoaaGreat
noncomputable section
open Go.X
/- what goes in and what is wanted -/
def xA (l : Nat → Int) (i : Nat) : Int := wrapF .i8 (l i)
def inA (d : Nat) (l : Nat → Int) (j : Nat) : List Int := (List.range d).map fun k => xA l (j * d + k)
def addL : List Int → List Int → List Int
  | s :: ss, x :: xs => wrapF .i8 (s + x) :: addL ss xs
  | _, _ => []
def sumA (d : Nat) (l : Nat → Int) : Nat → List Int
  | 0 => (List.range d).map fun _ => 0
  | j + 1 => addL (sumA d l j) (inA d l j)
def mixA : Int → List Int → Int
  | z, [] => z
  | z, x :: xs => mixA (wrapF .i8 (3 * z + x)) xs
def outA (d : Nat) (l : Nat → Int) (j : Nat) : List Int := sumA d l (j + 1) ++ [mixA 1 (inA d l j)]
def ioA (d : Nat) (l : Nat → Int) : IO := ⟨inA d l, outA d l⟩
def ints (l : List Int) : List AV := l.map (.int .i64)
theorem addL_len : ∀ (a b : List Int), a.length = b.length → (addL a b).length = a.length
  | [], _, _ => rfl
  | s :: ss, x :: xs, h => by simp only [addL, List.length_cons]; rw [addL_len ss xs (by simpa using h)]
  | s :: ss, [], h => by simp at h
theorem inA_len (d : Nat) (l : Nat → Int) (j : Nat) : (inA d l j).length = d := by simp [inA]
theorem sumA_len (d : Nat) (l : Nat → Int) : ∀ j, (sumA d l j).length = d
  | 0 => by simp [sumA]
  | j + 1 => by unfold sumA; rw [addL_len _ _ (by rw [sumA_len d l j, inA_len]), sumA_len d l j]
/- the loop's states -/
def eLR (len d : Nat) (ins want : AV) (i : Nat) : List (Nat × AV) := [(0, .slc 0 0 len len false 1), (1, .int .i64 (Int.ofNat d)), (7, .ptr 28 0), (8, .bool true), (9, ins), (10, want), (11, .slc 29 0 d d true 1), (12, .int .i64 (Int.ofNat i))]
def baseR (te : TypeId) (l : Nat → Int) (len : Nat) (s : List AV) (pB : List (Nat × Blk)) : List (Nat × Blk) := (0, .pur (pvI l) len te) :: (29, .row s 3 true []) :: pB
def w2R (cI cW : List AV) : List (Nat × Blk) := [(50, .row cI 22 true []), (51, .row cW 22 true [])]
def kPR : List Nat := [28, 8, 9, 10, 11, 12, 13, 14, 15, 16, 17, 18, 19, 20, 21, 22, 23, 24, 25, 26, 27]
def kLR : List Nat := 0 :: 29 :: kPR
def apR (rw : List AV) (i : Nat) (t : Prop) : Prop := bcase (dcq false (Nat.ble (Nat.add i 1) i)) (bcase (appC rw i) (bcase (Nat.ble (llen rw) (Nat.mul i 1)) t t) False) False
def conds (cs : List Bool) (t : Prop) : Prop := List.rec t (fun c _ ih => bcase c ih False) cs
def RL (d j oi ow : Nat) : List (Nat × Nat × Blk) := [(50, oi, .row (zrows 0 d (j + 1)) 22 true []), (51, ow, .row (zrows 100 (d + 1) (j + 1)) 22 true [])]
def ZL (j ri rw : Nat) (b w : List AV) : List (Nat × Nat × Blk) := [(j, ri, .row b 3 true []), (100 + j, rw, .row w 3 true [])]
def AL (te : TypeId) (l : Nat → Int) (len : Nat) (s : List AV) (pB : List (Nat × Blk)) : List (Nat × Nat × Blk) := zipA (baseR te l len s pB) kLR
def obL (A : List (Nat × Nat × Blk)) (d j oi ow ri rw : Nat) (Kv : XE → Obs → Prop) : KE := fun x env h _ => Kv x (obs [0, 1, 7, 8, 9, 10, 11, 12] (actsOf (lapp (RL d j oi ow) A) (ZL j ri rw [] [])) (lapp (RL d j oi ow) A) (ZL j ri rw [] []) env h)
def lqL (z : T Blk) (A : List (Nat × Nat × Blk)) (len d j i oi ow ri rw : Nat) (b w : List AV) (Kv : XE → Obs → Prop) : Prop := Kv .nrm (expsR 30 (kpOf z) (eLR len d (.slc 50 0 (j + 1) (j + 1) false 1) (.slc 51 0 (j + 1) (j + 1) false 1) i) (RL d j oi ow) A (ZL j ri rw b w) z [(some (.row (lapp (ltake (ldrop (zrows 0 d j) 0) (Nat.mul j 1)) [.slc ri 0 d d false 1]) 22 true []), true), (some (.row (lapp (ltake (ldrop (zrows 100 (d + 1) j) 0) (Nat.mul j 1)) [.slc rw 0 (d + 1) (d + 1) false 1]) 22 true []), true)])
def lqF (z : T Blk) (A : List (Nat × Nat × Blk)) (len d i oi ow ri rw : Nat) (b w : List AV) (Kv : XE → Obs → Prop) : Prop := Kv .nrm (expsR 30 (kpOf z) (eLR len d (.slc 50 0 1 1 false 1) (.slc 51 0 1 1 false 1) i) (RL d 0 oi ow) A (ZL 0 ri rw b w) z [(some (.row [.slc ri 0 d d false 1] 22 true []), true), (some (.row [.slc rw 0 (d + 1) (d + 1) false 1] 22 true []), true)])
/-- the zone as far as round i -/
def zbR (io : IO) (i : Nat) : T Blk := Nat.rec T.leaf (fun j ih => T.set (T.set ih (outR io j) (100 + j)) (inRowR io j) j) i
theorem zbR_succ (io : IO) (i : Nat) : zbR io (i + 1) = T.set (T.set (zbR io i) (outR io i) (100 + i)) (inRowR io i) i := rfl
theorem zbR_get (io : IO) : ∀ i, i ≤ 80 → (∀ j, j < i → (zbR io i).get j = some (inRowR io j)) ∧ (∀ j, j < i → (zbR io i).get (100 + j) = some (outR io j)) ∧ (∀ x k, (zbR io i).get x = some k → x < 200 ∧ IntRow k)
  | 0, _ => ⟨fun j h => by omega, fun j h => by omega, fun x k h => by cases h⟩
  | i + 1, hi => by
    obtain ⟨h1, h2, h3⟩ := zbR_get io i (by omega)
    rw [zbR_succ]
    refine ⟨fun j hj => ?_, fun j hj => ?_, fun x k h => ?_⟩
    · by_cases e : j = i
      · subst e; exact T.get_set_same _ _
      · rw [T.get_set_other _ _ _ e, T.get_set_other _ _ _ (by omega)]; exact h1 j (by omega)
    · by_cases e : j = i
      · subst e; rw [T.get_set_other _ _ _ (by omega)]; exact T.get_set_same _ _
      · rw [T.get_set_other _ _ _ (by omega), T.get_set_other _ _ _ (by omega)]; exact h2 j (by omega)
    · rcases T.get_set h with ⟨rfl, rfl⟩ | ⟨_, h⟩
      · exact ⟨by omega, io.inp x, 3, true, rfl⟩
      · rcases T.get_set h with ⟨rfl, rfl⟩ | ⟨_, h⟩
        · exact ⟨by omega, outR_int io i⟩
        · exact h3 x k h
theorem zbR_in {io : IO} {n : Nat} (hn : n ≤ 80) : ZinR io n (zbR io n) := ⟨(zbR_get io n hn).1, (zbR_get io n hn).2.1, (zbR_get io n hn).2.2⟩
theorem zbR_ok {io : IO} {i : Nat} (hi : i ≤ 80) : ZoneOK (zbR io i) 1048576 := fun x k h => by
  obtain ⟨a, b⟩ := (zbR_get io i hi).2.2 x k h
  exact ⟨b, by rw [zn_eq]; omega, by rw [zn_eq]; show _ < 1000000000000; omega⟩
def lsR (te : TypeId) (l : Nat → Int) (len d : Nat) (pB : List (Nat × Blk)) (j : Nat) : ZS := ⟨eLR len d (.slc 50 0 j j false 1) (.slc 51 0 j j false 1) (j * d), lapp (w2R (zrows 0 d j) (zrows 100 (d + 1) j)) (baseR te l len (ints (sumA d l j)) pB), zbR (ioA d l) j, 1048576⟩
def ls0R (te : TypeId) (l : Nat → Int) (len d : Nat) (pB : List (Nat × Blk)) : ZS := ⟨eLR len d .nils .nils 0, baseR te l len (ints (sumA d l 0)) pB, T.leaf, 30⟩
def lfinR (l : Nat → Int) (d n : Nat) (pB : List (Nat × Blk)) : ZS := ⟨[(7, .ptr 28 0), (8, .bool true), (9, .slc 50 0 n n false 1), (10, .slc 51 0 n n false 1)], lapp (w2R (zrows 0 d n) (zrows 100 (d + 1) n)) pB, zbR (ioA d l) n, 1048576⟩
/-- what the kernel tells of a program's blocks -/
structure PBOk (pB : List (Nat × Blk)) (d : Nat) : Prop where
  names : lmap (fun p => p.1) pB = kPR
  lit : ∀ (te : TypeId) (l : Nat → Int) (len : Nat) (s : List AV), belL 1048576 s = true → okLit 30 1048576 (zipA (baseR te l len s pB) kLR) = true
  lit2 : okLit 30 1048576 (zipA pB kPR) = true
  blk0 : ∀ (te : TypeId) (l : Nat → Int) (len : Nat) (s : List AV), belL 30 s = true → blksN 30 (baseR te l len s pB) = true
end
end Go.Proofs.YtkfhjobebhdpoaaGreat
/- Stream: the loop of StreamArrays that builds the ticks: its rounds, whatever the columns are. -/
set_option autoImplicit false
set_option maxRecDepth 1000000
set_option maxHeartbeats 2000000
set_option linter.unusedVariables false
namespace Go.Proofs.YtkfhjobebhdpoaaGreat
noncomputable section
open Go.X
def ixA (i k : Nat) : Nat := Nat.add 0 (Nat.mul (Int.toNat (Int.ofNat i + Int.ofNat k)) 1)
theorem ixA_eq (i k : Nat) : ixA i k = i + k := by
  show 0 + Int.toNat ((i : Int) + (k : Int)) * 1 = i + k
  omega
def xsA (l : Nat → Int) (i d : Nat) : List Int := (List.range d).map fun k => wrapF .i8 (l (ixA i k))
theorem xsA_eq (d : Nat) (l : Nat → Int) (j : Nat) : xsA l (j * d) d = inA d l j := by
  unfold xsA inA
  exact List.map_congr_left fun k _ => by rw [ixA_eq]; rfl
/-- what a round asks, column by column -/
def condC (l : Nat → Int) (len i : Nat) : List Int → Nat → Int → List Bool
  | [], _, _ => []
  | s :: ss, k, z => inR .i64 (Int.ofNat i + Int.ofNat k) :: inB (Int.ofNat i + Int.ofNat k) len :: Bool.and (Nat.ble (Nat.succ (ixA i k)) len) true :: inR .i64 (wrapF .i8 (l (ixA i k))) :: inR .i64 (s + wrapF .i8 (l (ixA i k))) :: inR .i64 (wrapF .i8 (s + wrapF .i8 (l (ixA i k)))) ::
      inR .i64 (Int.ofNat 3 * z) :: inR .i64 (Int.ofNat 3 * z + wrapF .i8 (l (ixA i k))) :: inR .i64 (wrapF .i8 (Int.ofNat 3 * z + wrapF .i8 (l (ixA i k)))) :: condC l len i ss (k + 1) (wrapF .i8 (Int.ofNat 3 * z + wrapF .i8 (l (ixA i k))))
theorem wr8 (n : Int) : -128 ≤ wrapF .i8 n ∧ wrapF .i8 n ≤ 127 := by
  have e : wrapF .i8 n = wrapQ .i8 n := by rw [wrapF_eq, wrapQ_eq]
  have e2 : wrapQ .i8 n = sWr 256 128 n := rfl
  rw [e, e2, sWr_eq _ _ _ (by decide)]
  split <;> omega
theorem wr8_id {n : Int} (h0 : -128 ≤ n) (h1 : n ≤ 127) : wrapF .i8 n = n := by
  rw [wrapF_eq]; exact wrap_in (inR_i8 h0 (by omega))
theorem inR_wr8 (n : Int) : inR .i64 (wrapF .i8 n) = true := by
  have := wr8 n
  exact inR_i64 (by omega) (by omega)
theorem conds_cons {b : Bool} {cs : List Bool} {t : Prop} (hb : b = true) (h : conds cs t) : conds (b :: cs) t := bcase_tt hb h
theorem condC_ok {l : Nat → Int} {len i d : Nat} {t : Prop} (hd : i + d ≤ len) (hl : len ≤ 100000) (ht : t) : ∀ (ss : List Int) (k : Nat) (z : Int), k + ss.length = d → (∀ s, s ∈ ss → -128 ≤ s ∧ s ≤ 127) → -128 ≤ z → z ≤ 127 → conds (condC l len i ss k z) t
  | [], _, _, _, _, _, _ => ht
  | s :: ss, k, z, hk, hs, hz1, hz2 => by
    have hk : k + (ss.length + 1) = d := hk
    have s1 := hs s (List.mem_cons_self ..)
    have x1 := wr8 (l (ixA i k))
    have z1 := wr8 (Int.ofNat 3 * z + wrapF .i8 (l (ixA i k)))
    have e3 : Int.ofNat 3 * z = 3 * z := rfl
    refine conds_cons (inR_add (by omega)) (conds_cons (inB_of (i := i + k) (by omega)) (conds_cons ?_ (conds_cons (inR_wr8 _) (conds_cons (inR_i64 (by omega) (by omega)) (conds_cons (inR_wr8 _) (conds_cons (inR_i64 (by omega) (by omega)) (conds_cons (inR_i64 (by omega) (by omega)) (conds_cons (inR_wr8 _)
      (condC_ok hd hl ht ss (k + 1) _ (by omega) (fun s h => hs s (List.mem_cons_of_mem _ h)) z1.1 z1.2)))))))))
    rw [ixA_eq, show Nat.ble (Nat.succ (i + k)) len = true from Nat.ble_eq_true_of_le (by omega)]; rfl
theorem addL_small : ∀ (a b : List Int), ∀ s, s ∈ addL a b → -128 ≤ s ∧ s ≤ 127
  | [], _, s, h => by simp [addL] at h
  | a :: al, [], s, h => by simp [addL] at h
  | a :: al, b :: bs, s, h => by
    rcases List.mem_cons.1 h with rfl | h
    · exact wr8 _
    · exact addL_small al bs s h
theorem sumA_small (d : Nat) (l : Nat → Int) : ∀ j s, s ∈ sumA d l j → -128 ≤ s ∧ s ≤ 127
  | 0, s, h => by
    obtain ⟨_, _, rfl⟩ := List.mem_map.1 h
    omega
  | j + 1, s, h => addL_small _ _ s h
theorem inA_small (d : Nat) (l : Nat → Int) (j : Nat) : ∀ x, x ∈ inA d l j → -128 ≤ x ∧ x ≤ 127 := by
  intro x h
  obtain ⟨_, _, rfl⟩ := List.mem_map.1 h
  exact wr8 _
theorem mixA_small : ∀ (xs : List Int) (z : Int), -128 ≤ z → z ≤ 127 → -128 ≤ mixA z xs ∧ mixA z xs ≤ 127
  | [], z, h1, h2 => ⟨h1, h2⟩
  | x :: xs, z, _, _ => mixA_small xs _ (wr8 _).1 (wr8 _).2
/-- the rounds, as the kernel tells them -/
def FEq (d : Nat) (pB : List (Nat × Blk)) (dd : List Bool) : Prop := ∀ (z : T Blk) (te : TypeId) (l : Nat → Int) (len : Nat) (Kv : XE → Obs → Prop),
  xcode C1 Tryz.prog F 7 (loopC Tryz.prog 7 11) (mask 7) (tmpsN Tryz.prog 7) (mkE (eLR len d .nils .nils 0)) ⟨mkB z (baseR te l len (ints (sumA d l 0)) pB), 30⟩ dd (obL (AL te l len (ints (addL (sumA d l 0) (xsA l 0 d))) pB) d 0 (31 + 4 * d) (35 + 4 * d) (27 + 4 * d) (33 + 4 * d) Kv) =
    bcase (dcq false (ltI (Int.ofNat len) (Int.ofNat 0 + Int.ofNat d))) (conds (condC l len 0 (sumA d l 0) 0 1) (lqF z (AL te l len (ints (addL (sumA d l 0) (xsA l 0 d))) pB) len d d (31 + 4 * d) (35 + 4 * d) (27 + 4 * d) (33 + 4 * d) (ints (xsA l 0 d)) (ints (addL (sumA d l 0) (xsA l 0 d) ++ [mixA 1 (xsA l 0 d)])) Kv)) False
def SEq (d : Nat) (pB : List (Nat × Blk)) (dd : List Bool) : Prop := ∀ (z : T Blk) (te : TypeId) (l : Nat → Int) (len i j : Nat) (f : Nat → Int) (Kv : XE → Obs → Prop),
  xcode C1 Tryz.prog F 7 (loopC Tryz.prog 7 11) (mask 7) (tmpsN Tryz.prog 7) (mkE (eLR len d (.slc 50 0 j j false 1) (.slc 51 0 j j false 1) i)) ⟨mkB z (lapp (w2R (zrows 0 d j) (zrows 100 (d + 1) j)) (baseR te l len (ints ((List.range d).map f)) pB)), 1048576⟩ dd (obL (AL te l len (ints (addL ((List.range d).map f) (xsA l i d))) pB) d j (1048577 + 4 * d) (1048581 + 4 * d) (1048573 + 4 * d) (1048579 + 4 * d) Kv) =
    bcase (inR .i64 (Int.ofNat i + Int.ofNat d)) (bcase (dcq false (ltI (Int.ofNat len) (Int.ofNat i + Int.ofNat d))) (conds (condC l len i ((List.range d).map f) 0 1) (apR (zrows 0 d j) j (apR (zrows 100 (d + 1) j) j (bcase (inR .i64 (Int.ofNat i + Int.ofNat d)) (lqL z (AL te l len (ints (addL ((List.range d).map f) (xsA l i d))) pB) len d j (i + d) (1048577 + 4 * d) (1048581 + 4 * d) (1048573 + 4 * d) (1048579 + 4 * d) (ints (xsA l i d)) (ints (addL ((List.range d).map f) (xsA l i d) ++ [mixA 1 (xsA l i d)])) Kv) False)))) False) False
def XEq (d : Nat) (pB : List (Nat × Blk)) : Prop := ∀ (z : T Blk) (te : TypeId) (l : Nat → Int) (len i j : Nat) (s : List AV) (Kv : XE → Obs → Prop),
  xcode C1 Tryz.prog F 7 (loopC Tryz.prog 7 11) (mask 7) (tmpsN Tryz.prog 7) (mkE (eLR len d (.slc 50 0 j j false 1) (.slc 51 0 j j false 1) i)) ⟨mkB z (lapp (w2R (zrows 0 d j) (zrows 100 (d + 1) j)) (baseR te l len s pB)), 1048576⟩ [true, true] (fun x env h _ => Kv x (obs [7, 8, 9, 10] (actsOf (lapp [(50, 50, .row (zrows 0 d j) 22 true []), (51, 51, .row (zrows 100 (d + 1) j) 22 true [])] (zipA pB kPR)) []) (lapp [(50, 50, .row (zrows 0 d j) 22 true []), (51, 51, .row (zrows 100 (d + 1) j) 22 true [])] (zipA pB kPR)) [] env h)) =
    bcase (inR .i64 (Int.ofNat i + Int.ofNat d)) (bcase (dcq true (ltI (Int.ofNat len) (Int.ofNat i + Int.ofNat d))) (Kv (.ext 0) (expsR 30 (kpOf z) [(7, .ptr 28 0), (8, .bool true), (9, .slc 50 0 j j false 1), (10, .slc 51 0 j j false 1)] [(50, 50, .row (zrows 0 d j) 22 true []), (51, 51, .row (zrows 100 (d + 1) j) 22 true [])] (zipA pB kPR) [] z [(some (.row (zrows 0 d j) 22 true []), true), (some (.row (zrows 100 (d + 1) j) 22 true []), true)])) False) False
end
end Go.Proofs.YtkfhjobebhdpoaaGreat
/- Stream: the loop of StreamArrays that builds the ticks, as a contract, whatever the columns are. -/
set_option autoImplicit false
set_option maxRecDepth 1000000
set_option maxHeartbeats 2000000
set_option linter.unusedVariables false
namespace Go.Proofs.YtkfhjobebhdpoaaGreat
noncomputable section
open Go.X
theorem okLit_cons {n0 N : Nat} {p : Nat × Nat × Blk} {A : List (Nat × Nat × Blk)} (h1 : okLit n0 N [p] = true) (h2 : okLit n0 N A = true) : okLit n0 N (p :: A) = true := by
  obtain ⟨a, _⟩ := and_tt (by exact h1 : Bool.and _ true = true)
  show Bool.and _ (okLit n0 N A) = true
  rw [h2]
  exact h1
theorem blksN_cons {N : Nat} {p : Nat × Blk} {A : List (Nat × Blk)} (h1 : blksN N [p] = true) (h2 : blksN N A = true) : blksN N (p :: A) = true := by
  show Bool.and _ (blksN N A) = true
  rw [h2]
  exact h1
theorem belL_ints (N : Nat) : ∀ l : List Int, belL N (ints l) = true
  | [] => rfl
  | x :: l => by
    show Bool.and true (belL N (ints l)) = true
    rw [belL_ints N l]; rfl
/-- what the kernel tells of a program of d columns -/
structure LRes (d : Nat) (pB : List (Nat × Blk)) (df ds : List Bool) : Prop where
  hd1 : 1 ≤ d
  hd8 : d ≤ 8
  lit : okLit 30 1048576 (zipA pB kPR) = true
  blk : blksN 30 pB = true
  ndk : ∀ (te : TypeId) (l : Nat → Int) (len : Nat) (s : List AV) (j oi ow : Nat), nodupQ (lmap (fun p => p.1) (lapp (RL d j oi ow) (AL te l len s pB))) = true
  ndf : ∀ (te : TypeId) (l : Nat → Int) (len : Nat) (s b w : List AV), nodupQ (actsOf (lapp (RL d 0 (31 + 4 * d) (35 + 4 * d)) (AL te l len s pB)) (ZL 0 (27 + 4 * d) (33 + 4 * d) b w)) = true
  nds : ∀ (te : TypeId) (l : Nat → Int) (len j : Nat) (s b w : List AV), nodupQ (actsOf (lapp (RL d j (1048577 + 4 * d) (1048581 + 4 * d)) (AL te l len s pB)) (ZL j (1048573 + 4 * d) (1048579 + 4 * d) b w)) = true
  nd1 : ∀ (a b : List AV), nodupQ (lmap (fun p => p.1) (lapp [(50, 50, Blk.row a 22 true []), (51, 51, .row b 22 true [])] (zipA pB kPR))) = true
  nd2 : ∀ (a b : List AV), nodupQ (actsOf (lapp [(50, 50, Blk.row a 22 true []), (51, 51, .row b 22 true [])] (zipA pB kPR)) []) = true
  zA : ∀ (te : TypeId) (l : Nat → Int) (len : Nat) (s : List AV), lmap (fun p => (p.1, p.2.2)) (AL te l len s pB) = baseR te l len s pB
  first : FEq d pB df
  later : SEq d pB ds
  leave : XEq d pB
variable {d : Nat} {pB : List (Nat × Blk)} {df ds : List Bool}
theorem litR (R : LRes d pB df ds) (te : TypeId) (l : Nat → Int) (len : Nat) (s : List Int) : okLit 30 1048576 (AL te l len (ints s) pB) = true := by
  show okLit 30 1048576 ((0, 0, .pur (pvI l) len te) :: (29, 29, .row (ints s) 3 true []) :: zipA pB kPR) = true
  exact okLit_cons rfl (okLit_row rfl (belL_ints _ s) R.lit)
theorem litRL (R : LRes d pB df ds) {j oi ow : Nat} (hj : j < 80) (h1 : 30 ≤ oi) (h2 : oi < 2000000) (h3 : oi % 4096 ≠ 4095) (g1 : 30 ≤ ow) (g2 : ow < 2000000) (g3 : ow % 4096 ≠ 4095) (te : TypeId) (l : Nat → Int) (len : Nat) (s : List Int) : okLit 30 1048576 (lapp (RL d j oi ow) (AL te l len (ints s) pB)) = true := by
  have key : ∀ (c o : Nat), 30 ≤ c → c < 60 → 30 ≤ o → o < 2000000 → o % 4096 ≠ 4095 → okLit 30 1048576 [(c, o, .row [] 22 true [])] = true := by
    intro c o c1 c2 o1 o2 o3
    have e1 : Nat.ble (Nat.succ c) 1048576 = true := Nat.ble_eq_true_of_le (by omega)
    have e2 : Nat.ble (Nat.succ o) ZW = true := Nat.ble_eq_true_of_le (by show o + 1 ≤ 1000000000000; omega)
    have e3 : Nat.beq (Nat.mod c 4096) 4095 = false := by cases hb : Nat.beq (Nat.mod c 4096) 4095 with | false => rfl | true => (have : c % 4096 = 4095 := natBeq_iff.1 hb; omega)
    have e4 : Nat.beq (Nat.mod o 4096) 4095 = false := by cases hb : Nat.beq (Nat.mod o 4096) 4095 with | false => rfl | true => (have : o % 4096 = 4095 := natBeq_iff.1 hb; omega)
    have e5 : Nat.ble (Nat.succ c) 30 = false := ble_false (by omega)
    have e6 : Nat.ble 30 o = true := Nat.ble_eq_true_of_le o1
    show Bool.and (Bool.and (Nat.ble (Nat.succ c) 1048576) (Bool.and true (Bool.and (Nat.ble (Nat.succ o) ZW) (Bool.and (Bool.not (Nat.beq (Nat.mod c 4096) 4095)) (Bool.and (Bool.not (Nat.beq (Nat.mod o 4096) 4095)) (Bool.rec (Nat.ble 30 o) (Nat.beq o c) (Nat.ble (Nat.succ c) 30))))))) true = true
    rw [e1, e2, e3, e4, e5, e6]; rfl
  exact okLit_row (key 50 oi (by omega) (by omega) h1 h2 h3) (belL_slc _ (fun j => zn (0 + j)) _ _ _ fun j hj => by have := List.mem_range.1 hj; rw [zn_eq]; omega) (okLit_row (key 51 ow (by omega) (by omega) g1 g2 g3) (belL_slc _ (fun j => zn (100 + j)) _ _ _ fun j hj => by have := List.mem_range.1 hj; rw [zn_eq]; omega) (litR R te l len s))
theorem ndZ {j ri rw : Nat} {b w : List AV} : ((ZL j ri rw b w).map (·.1)).Nodup := by
  show [j, 100 + j].Nodup
  refine List.nodup_cons.2 ⟨fun h => ?_, List.nodup_cons.2 ⟨fun h => (by cases h), List.nodup_nil⟩⟩
  have := List.mem_singleton.1 h; omega
theorem newZ {j ri rw : Nat} {b w : List Int} (hj : j < 80) (h1 : 30 ≤ ri) (h2 : ri < 2000000) (h3 : ri % 4096 ≠ 4095) (g1 : 30 ≤ rw) (g2 : rw < 2000000) (g3 : rw % 4096 ≠ 4095) : ∀ p ∈ ZL j ri rw (ints b) (ints w), 30 ≤ zn p.1 ∧ zn p.1 < 1048576 ∧ 30 ≤ p.2.1 ∧ p.2.1 < ZW ∧ p.2.1 % 4096 ≠ 4095 ∧ IntRow p.2.2 := by
  intro p hp
  rcases List.mem_cons.1 hp with rfl | hp
  · exact ⟨by show 30 ≤ zn j; rw [zn_eq]; omega, by show zn j < 1048576; rw [zn_eq]; omega, h1, by show ri < 1000000000000; omega, h3, b, 3, true, rfl⟩
  · rw [List.mem_singleton.1 hp]
    exact ⟨by show 30 ≤ zn (100 + j); rw [zn_eq]; omega, by show zn (100 + j) < 1048576; rw [zn_eq]; omega, g1, by show rw < 1000000000000; omega, g3, w, 3, true, rfl⟩
theorem slR (len d j i : Nat) : belEs 1048576 (eLR len d (.slc 50 0 j j false 1) (.slc 51 0 j j false 1) i) = true := rfl
/-- a round's end as a state -/
theorem laR_s (R : LRes d pB df ds) (te : TypeId) (l : Nat → Int) (len : Nat) {j : Nat} (hj : j < 80) {s b w : List Int} {i : Nat} (hs : s = sumA d l (j + 1)) (hb : b = inA d l j) (hw : w = outA d l j) (hi : i = (j + 1) * d) {env : Env} {h : H}
    (ho : obs [0, 1, 7, 8, 9, 10, 11, 12] (actsOf (lapp (RL d j (1048577 + 4 * d) (1048581 + 4 * d)) (AL te l len (ints s) pB)) (ZL j (1048573 + 4 * d) (1048579 + 4 * d) [] [])) (lapp (RL d j (1048577 + 4 * d) (1048581 + 4 * d)) (AL te l len (ints s) pB)) (ZL j (1048573 + 4 * d) (1048579 + 4 * d) [] []) env h =
      expsR 30 (kpOf (zbR (ioA d l) j)) (eLR len d (.slc 50 0 (j + 1) (j + 1) false 1) (.slc 51 0 (j + 1) (j + 1) false 1) i) (RL d j (1048577 + 4 * d) (1048581 + 4 * d)) (AL te l len (ints s) pB) (ZL j (1048573 + 4 * d) (1048579 + 4 * d) (ints b) (ints w)) (zbR (ioA d l) j) [(some (.row (lapp (ltake (ldrop (zrows 0 d j) 0) (Nat.mul j 1)) [.slc (1048573 + 4 * d) 0 d d false 1]) 22 true []), true), (some (.row (lapp (ltake (ldrop (zrows 100 (d + 1) j) 0) (Nat.mul j 1)) [.slc (1048579 + 4 * d) 0 (d + 1) (d + 1) false 1]) 22 true []), true)]) :
    ∃ σ, Abs 30 σ (lsR te l len d pB (j + 1)).env (lsR te l len d pB (j + 1)).h env h := by
  have hd1 := R.hd1
  have hd8 := R.hd8
  have hlit := litRL R (oi := 1048577 + 4 * d) (ow := 1048581 + 4 * d) hj (by omega) (by omega) (by omega) (by omega) (by omega) (by omega) te l len s
  rw [expsR_eq] at ho
  · refine NewOK.abs (t := lsR te l len d pB (j + 1)) (A := lapp (RL d j (1048577 + 4 * d) (1048581 + 4 * d)) (AL te l len (ints s) pB)) (Z := ZL j (1048573 + 4 * d) (1048579 + 4 * d) (ints b) (ints w)) (z := zbR (ioA d l) j)
      ⟨?_, ?_, by show 30 ≤ 1048576; decide, rfl, hlit, R.ndk .., R.nds .., newZ hj (by omega) (by omega) (by omega) (by omega) (by omega) (by omega), ndZ, zbR_ok (by omega)⟩ rfl rfl rfl rfl ?_
    · rw [lmap_app, R.zA, hs]; rfl
    · show T.set (T.set (zbR (ioA d l) j) (outR (ioA d l) j) (100 + j)) (inRowR (ioA d l) j) j = T.set (T.set (zbR (ioA d l) j) (.row (ints w) 3 true []) (100 + j)) (.row (ints b) 3 true []) j
      rw [hb, hw]; rfl
    · rw [hi] at ho; exact ho
  · have q1 : (lapp (ltake (ldrop (zrows 0 d j) 0) (Nat.mul j 1)) [.slc (1048573 + 4 * d) 0 d d false 1]) = renL (szs 30 (namesOf (lapp (RL d j (1048577 + 4 * d) (1048581 + 4 * d)) (AL te l len (ints s) pB)) (ZL j (1048573 + 4 * d) (1048579 + 4 * d) (ints b) (ints w))) (kpOf (zbR (ioA d l) j))) (zrows 0 d (j + 1)) := by
      refine zrows_grow (i := j) (fun k hk => ?_) (szs_row (x := 0 + j) hlit (by show 30 ≤ zn (0 + j); rw [zn_eq]; omega) (by rw [Nat.zero_add]; exact List.mem_cons_self ..) ndZ)
      exact szs_zone hlit (by rw [Nat.zero_add]; exact (zbR_get (ioA d l) j (by omega)).1 k hk) (fun p hp e => by rcases List.mem_cons.1 hp with rfl | hp; (have e : j = 0 + k := e; omega); rw [List.mem_singleton.1 hp] at e; have e : 100 + j = 0 + k := e; omega)
    have q2 : (lapp (ltake (ldrop (zrows 100 (d + 1) j) 0) (Nat.mul j 1)) [.slc (1048579 + 4 * d) 0 (d + 1) (d + 1) false 1]) = renL (szs 30 (namesOf (lapp (RL d j (1048577 + 4 * d) (1048581 + 4 * d)) (AL te l len (ints s) pB)) (ZL j (1048573 + 4 * d) (1048579 + 4 * d) (ints b) (ints w))) (kpOf (zbR (ioA d l) j))) (zrows 100 (d + 1) (j + 1)) := by
      refine zrows_grow (i := j) (fun k hk => ?_) (szs_row (x := 100 + j) hlit (by show 30 ≤ zn (100 + j); rw [zn_eq]; omega) (List.mem_cons_of_mem _ (List.mem_singleton.2 rfl)) ndZ)
      exact szs_zone hlit ((zbR_get (ioA d l) j (by omega)).2.1 k hk) (fun p hp e => by rcases List.mem_cons.1 hp with rfl | hp; (have e : j = 100 + k := e; omega); rw [List.mem_singleton.1 hp] at e; have e : 100 + j = 100 + k := e; omega)
    show [(some (Blk.row _ _ _ _), true), (some (Blk.row _ _ _ _), true)] = [(some (Blk.row (renL _ _) _ _ _), true), (some (Blk.row (renL _ _) _ _ _), true)]
    rw [← q1, ← q2]; rfl
theorem laR_f (R : LRes d pB df ds) (te : TypeId) (l : Nat → Int) (len : Nat) {s b w : List Int} {i : Nat} (hs : s = sumA d l 1) (hb : b = inA d l 0) (hw : w = outA d l 0) (hi : i = 1 * d) {env : Env} {h : H}
    (ho : obs [0, 1, 7, 8, 9, 10, 11, 12] (actsOf (lapp (RL d 0 (31 + 4 * d) (35 + 4 * d)) (AL te l len (ints s) pB)) (ZL 0 (27 + 4 * d) (33 + 4 * d) [] [])) (lapp (RL d 0 (31 + 4 * d) (35 + 4 * d)) (AL te l len (ints s) pB)) (ZL 0 (27 + 4 * d) (33 + 4 * d) [] []) env h =
      expsR 30 (kpOf T.leaf) (eLR len d (.slc 50 0 1 1 false 1) (.slc 51 0 1 1 false 1) i) (RL d 0 (31 + 4 * d) (35 + 4 * d)) (AL te l len (ints s) pB) (ZL 0 (27 + 4 * d) (33 + 4 * d) (ints b) (ints w)) T.leaf [(some (.row [.slc (27 + 4 * d) 0 d d false 1] 22 true []), true), (some (.row [.slc (33 + 4 * d) 0 (d + 1) (d + 1) false 1] 22 true []), true)]) :
    ∃ σ, Abs 30 σ (lsR te l len d pB 1).env (lsR te l len d pB 1).h env h := by
  have hd1 := R.hd1
  have hd8 := R.hd8
  have hlit := litRL R (j := 0) (oi := 31 + 4 * d) (ow := 35 + 4 * d) (by omega) (by omega) (by omega) (by omega) (by omega) (by omega) (by omega) te l len s
  rw [expsR_eq] at ho
  · refine NewOK.abs (t := lsR te l len d pB 1) (A := lapp (RL d 0 (31 + 4 * d) (35 + 4 * d)) (AL te l len (ints s) pB)) (Z := ZL 0 (27 + 4 * d) (33 + 4 * d) (ints b) (ints w)) (z := T.leaf)
      ⟨?_, ?_, by show 30 ≤ 1048576; decide, rfl, hlit, R.ndk .., R.ndf .., newZ (by omega) (by omega) (by omega) (by omega) (by omega) (by omega) (by omega), ndZ, fun x k h => by cases h⟩ rfl rfl rfl rfl ?_
    · rw [lmap_app, R.zA, hs]; rfl
    · show T.set (T.set T.leaf (outR (ioA d l) 0) (100 + 0)) (inRowR (ioA d l) 0) 0 = T.set (T.set T.leaf (.row (ints w) 3 true []) (100 + 0)) (.row (ints b) 3 true []) 0
      rw [hb, hw]; rfl
    · rw [hi] at ho; exact ho
  · have q1 : [.slc (27 + 4 * d) 0 d d false 1] = renL (szs 30 (namesOf (lapp (RL d 0 (31 + 4 * d) (35 + 4 * d)) (AL te l len (ints s) pB)) (ZL 0 (27 + 4 * d) (33 + 4 * d) (ints b) (ints w))) (kpOf T.leaf)) (zrows 0 d 1) := by
      refine zrows_grow (i := 0) (fun k hk => ?_) (szs_row (x := 0 + 0) hlit (by show 30 ≤ zn (0 + 0); rw [zn_eq]; omega) (by rw [Nat.zero_add]; exact List.mem_cons_self ..) ndZ)
      omega
    have q2 : [.slc (33 + 4 * d) 0 (d + 1) (d + 1) false 1] = renL (szs 30 (namesOf (lapp (RL d 0 (31 + 4 * d) (35 + 4 * d)) (AL te l len (ints s) pB)) (ZL 0 (27 + 4 * d) (33 + 4 * d) (ints b) (ints w))) (kpOf T.leaf)) (zrows 100 (d + 1) 1) := by
      refine zrows_grow (i := 0) (fun k hk => ?_) (szs_row (x := 100 + 0) hlit (by show 30 ≤ zn (100 + 0); rw [zn_eq]; omega) (List.mem_cons_of_mem _ (List.mem_singleton.2 rfl)) ndZ)
      omega
    show [(some (Blk.row _ _ _ _), true), (some (Blk.row _ _ _ _), true)] = [(some (Blk.row (renL _ _) _ _ _), true), (some (Blk.row (renL _ _) _ _ _), true)]
    rw [← q1, ← q2]; rfl
inductive LSR where
  | l0
  | l1 (j : Nat)
def LSR.ok (n : Nat) : LSR → Prop
  | .l0 => True
  | .l1 j => 1 ≤ j ∧ j ≤ n
def LSR.st (te : TypeId) (l : Nat → Int) (len d : Nat) (pB : List (Nat × Blk)) : LSR → ZS
  | .l0 => ls0R te l len d pB
  | .l1 j => lsR te l len d pB j
def LSR.dr (df ds : List Bool) (n : Nat) : LSR → List Bool
  | .l0 => df
  | .l1 j => cond (Nat.ble (j + 1) n) ds [true, true]
def LSR.mu (n : Nat) : LSR → Nat
  | .l0 => n + 1
  | .l1 j => n - j
theorem lawDoneR (R : LRes d pB df ds) {l : Nat → Int} {n : Nat} (hn : n ≤ 80) {env : Env} {h : H}
    (ho : obs [7, 8, 9, 10] (actsOf (lapp [(50, 50, .row (zrows 0 d n) 22 true []), (51, 51, .row (zrows 100 (d + 1) n) 22 true [])] (zipA pB kPR)) []) (lapp [(50, 50, .row (zrows 0 d n) 22 true []), (51, 51, .row (zrows 100 (d + 1) n) 22 true [])] (zipA pB kPR)) [] env h =
      expsR 30 (kpOf (zbR (ioA d l) n)) [(7, .ptr 28 0), (8, .bool true), (9, .slc 50 0 n n false 1), (10, .slc 51 0 n n false 1)] [(50, 50, .row (zrows 0 d n) 22 true []), (51, 51, .row (zrows 100 (d + 1) n) 22 true [])] (zipA pB kPR) [] (zbR (ioA d l) n) [(some (.row (zrows 0 d n) 22 true []), true), (some (.row (zrows 100 (d + 1) n) 22 true []), true)]) :
    ∃ σ, Abs 30 σ (lfinR l d n pB).env (lfinR l d n pB).h env h := by
  have hlit : okLit 30 1048576 (lapp [(50, 50, .row (zrows 0 d n) 22 true []), (51, 51, .row (zrows 100 (d + 1) n) 22 true [])] (zipA pB kPR)) = true := okLit_row rfl (belL_slc _ (fun j => zn (0 + j)) _ _ _ fun j hj => by have := List.mem_range.1 hj; rw [zn_eq]; omega) (okLit_row rfl (belL_slc _ (fun j => zn (100 + j)) _ _ _ fun j hj => by have := List.mem_range.1 hj; rw [zn_eq]; omega) R.lit)
  have zg := zbR_get (ioA d l) n hn
  have k1 : renL (szs 30 (namesOf (lapp [(50, 50, .row (zrows 0 d n) 22 true []), (51, 51, .row (zrows 100 (d + 1) n) 22 true [])] (zipA pB kPR)) []) (kpOf (zbR (ioA d l) n))) (zrows 0 d n) = zrows 0 d n := by
    exact zrows_keep fun j hj => szs_zone hlit (by rw [Nat.zero_add]; exact zg.1 j hj) (fun p hp e => by cases hp)
  have k2 : renL (szs 30 (namesOf (lapp [(50, 50, .row (zrows 0 d n) 22 true []), (51, 51, .row (zrows 100 (d + 1) n) 22 true [])] (zipA pB kPR)) []) (kpOf (zbR (ioA d l) n))) (zrows 100 (d + 1) n) = zrows 100 (d + 1) n := by
    exact zrows_keep fun j hj => szs_zone hlit (zg.2.1 j hj) (fun p hp e => by cases hp)
  rw [expsR_eq] at ho
  · exact NewOK.abs (t := lfinR l d n pB) (A := lapp [(50, 50, .row (zrows 0 d n) 22 true []), (51, 51, .row (zrows 100 (d + 1) n) 22 true [])] (zipA pB kPR)) (Z := []) (z := zbR (ioA d l) n)
      ⟨by rw [lmap_app, zipA_B]; rfl, rfl, by show 30 ≤ 1048576; decide, rfl, hlit, R.nd1 .., R.nd2 .., (fun p hp => (by cases hp)), List.nodup_nil, zbR_ok hn⟩ rfl rfl rfl rfl ho
  · show _ = [(some (Blk.row (renL _ _) _ _ _), true), (some (Blk.row (renL _ _) _ _ _), true)]
    rw [k1, k2]; rfl
theorem lawLoopR_good (R : LRes d pB df ds) {C : Cfg} (G : X.Good C Tryz.prog) (hg : C.gl = fun _ => none) (hm : C.mask 7 = mask 7) (te : TypeId) {l : Nat → Int} {len n : Nat} (hn1 : 1 ≤ n) (hn : n ≤ 80) (hl1 : n * d ≤ len) (hl2 : len < n * d + d) (hl3 : len ≤ 80) :
    X.Good (C.addLc 7 11 (lcZ (S0 := Unit) (fun _ => True) (lmap (fun p => p.1) (ls0R te l len d pB).E) (lmap (fun p => p.1) (ls0R te l len d pB).B) (fun _ => ls0R te l len d pB) (fun _ => (.ext 0, lfinR l d n pB)))) Tryz.prog := by
  refine G.addZR good1 (by rw [hg]; rfl) (S := LSR) (LSR.dr df ds n) (n0 := 30) (ι := fun _ => .l0) (ok := LSR.ok n) (St := LSR.st te l len d pB) (fun s => (LSR.st te l len d pB s).E) (μ := LSR.mu n) (fin := fun _ => (.ext 0, lfinR l d n pB)) (fuel := F) hm.symm (by rfl) (fun s _ => Pe.refl _) ?_ ?_ (fun g i h => by rw [hg] at h; cases h)
  · intro _ _
    refine ⟨trivial, rfl, rfl, ⟨rfl, rfl, ?_, fun x k h => by cases h⟩, by show 30 ≤ 1048576; decide, rfl, rfl⟩
    show blksN 30 ((0, .pur (pvI l) len te) :: (29, .row (ints (sumA d l 0)) 3 true []) :: pB) = true
    exact blksN_cons rfl (blksN_row (by decide) (belL_ints _ _) R.blk)
  · intro s hs
    rw [hm]
    have hd1 := R.hd1
    have hd8 := R.hd8
    cases s with
    | l0 =>
      refine ⟨?_⟩
      show xcode C1 Tryz.prog F 7 (loopC Tryz.prog 7 11) (mask 7) (tmpsN Tryz.prog 7) (ls0R te l len d pB).env (ls0R te l len d pB).h df _
      refine round_use2 good1.spl (fun Kv => R.first T.leaf te l len Kv) ?_
      have hd0 : d ≤ len := Nat.le_trans (by have := Nat.mul_le_mul_right d hn1; omega) hl1
      have hx : xsA l 0 d = inA d l 0 := by have := xsA_eq d l 0; rwa [Nat.zero_mul] at this
      refine bcase_tt (dcq_ge (by simp only [Int.ofNat_eq_natCast]; omega)) (condC_ok (d := d) (by omega) (by omega) ?_ (sumA d l 0) 0 1 (by rw [sumA_len, Nat.zero_add]) (fun s h => sumA_small d l 0 s h) (by decide) (by decide))
      intro env h ds' ho
      obtain ⟨σ, ab⟩ := laR_f R te l len (by rw [hx]; rfl) hx (by rw [hx]; rfl) (by rw [Nat.one_mul]) ho
      exact ⟨LSR.l1 1, σ, ⟨Nat.le_refl _, hn1⟩, (by show n - 1 < n + 1; omega), rfl, ab⟩
    | l1 j =>
      obtain ⟨h1, h2⟩ := hs
      by_cases hlt : j < n
      · have hjd : j * d + d ≤ len := by have := Nat.mul_le_mul_right d (show j + 1 ≤ n from hlt); rw [Nat.add_mul, Nat.one_mul] at this; omega
        refine ⟨?_⟩
        show xcode C1 Tryz.prog F 7 (loopC Tryz.prog 7 11) (mask 7) (tmpsN Tryz.prog 7) (lsR te l len d pB j).env (lsR te l len d pB j).h (cond (Nat.ble (j + 1) n) ds [true, true]) _
        rw [bleR_t hlt]
        have hf : sumA d l j = (List.range d).map fun k => (sumA d l j).getD k 0 := by
          refine List.ext_getElem (by simp [sumA_len]) fun k h1 h2 => ?_
          rw [List.getElem_map, List.getElem_range]
          rw [List.getD_eq_getElem?_getD, List.getElem?_eq_getElem h1]; rfl
        have hround := fun Kv => R.later (zbR (ioA d l) j) te l len (j * d) j (fun k => (sumA d l j).getD k 0) Kv
        rw [← hf] at hround
        refine round_use2 good1.spl (fun Kv => hround Kv) ?_
        have hx := xsA_eq d l j
        have leaf : ∀ (env : Env) (h : H) (ds' : List Bool), _ → _ := fun env h ds' ho => (laR_s R te l len (j := j) (by omega) (s := addL (sumA d l j) (xsA l (j * d) d)) (b := xsA l (j * d) d) (w := addL (sumA d l j) (xsA l (j * d) d) ++ [mixA 1 (xsA l (j * d) d)]) (by rw [hx]; rfl) hx (by rw [hx]; rfl) (i := j * d + d) (by rw [Nat.add_mul, Nat.one_mul]) ho).elim fun σ ab => (⟨LSR.l1 (j + 1), σ, ⟨by omega, hlt⟩, (by show n - (j + 1) < n - j; omega), rfl, ab⟩ : ∃ s' σ, LSR.ok n s' ∧ LSR.mu n s' < LSR.mu n (.l1 j) ∧ (XE.ext 0, lfinR l d n pB) = (XE.ext 0, lfinR l d n pB) ∧ Abs 30 σ (LSR.st te l len d pB s').env (LSR.st te l len d pB s').h env h)
        refine bcase_tt (inR_add (by omega)) (bcase_tt (dcq_ge (by simp only [Int.ofNat_eq_natCast]; omega)) (condC_ok (d := d) hjd (by omega) ?_ (sumA d l j) 0 1 (by rw [sumA_len, Nat.zero_add]) (fun s h => sumA_small d l j s h) (by decide) (by decide)))
        exact bcase_tt (dcq_cap j) (bcase_tt (appC_ok (by rw [zrows_len]) (by omega)) (bcase_any (bcase_tt (dcq_cap j) (bcase_tt (appC_ok (by rw [zrows_len]) (by omega)) (bcase_any (bcase_tt (inR_add (by omega)) leaf) (bcase_tt (inR_add (by omega)) leaf)))) (bcase_tt (dcq_cap j) (bcase_tt (appC_ok (by rw [zrows_len]) (by omega)) (bcase_any (bcase_tt (inR_add (by omega)) leaf) (bcase_tt (inR_add (by omega)) leaf))))))
      · have hin : j = n := by omega
        subst hin
        refine ⟨?_⟩
        show xcode C1 Tryz.prog F 7 (loopC Tryz.prog 7 11) (mask 7) (tmpsN Tryz.prog 7) (lsR te l len d pB j).env (lsR te l len d pB j).h (cond (Nat.ble (j + 1) j) ds [true, true]) _
        rw [bleR_f (Nat.lt_irrefl j)]
        exact round_use2 good1.spl (fun Kv => R.leave (zbR (ioA d l) j) te l len (j * d) j (ints (sumA d l j)) Kv)
          (bcase_tt (inR_add (by omega)) (bcase_tt (dcq_lt (by simp only [Int.ofNat_eq_natCast]; omega)) (fun env h ds ho => (lawDoneR R hn ho).elim fun σ ab => ⟨σ, rfl, ab⟩)))
end
end Go.Proofs.YtkfhjobebhdpoaaGreat

/- Drat: does a clause follow, by the document's own answer? -/
import Derived.Test.YtkpppmldbhgcgaaDpPB
import Derived.Deep.OwnRows
set_option linter.unusedVariables false
set_option linter.unusedSimpArgs false
set_option autoImplicit false
set_option linter.unusedVariables false
set_option linter.unusedSimpArgs false
namespace Go.Proofs.Ytkpppmldbhgcgaa.D
open Go.Proofs Go
open Go.Shelf Go.RowKit
theorem info3 : (Try.prog.info? 3).map (fun i => (i.zero, i.size, i.bytes)) = some (some (.int .i64 0), 1, 8) := by kernel_rfl
/-- a literal of the clause is made false -/
def fol1 (s : Option (List Int)) (x : Int) : Option (List Int) := s.bind fun vs => if vs.getD x.natAbs 0 = (if x < 0 then -1 else 1) then none else some (vs.set x.natAbs (if x < 0 then 1 else -1))
def folV (n : Nat) (zs : List Int) : Option (List Int) := zs.foldl fol1 (some (List.replicate n 0))
theorem folV_snoc {n : Nat} {zs : List Int} {x : Int} : folV n (zs ++ [x]) = fol1 (folV n zs) x := by simp [folV]
theorem fol_none : ∀ (zs : List Int), zs.foldl fol1 none = none
  | [] => rfl
  | z :: zs => fol_none zs
theorem folV_fail {n : Nat} {zs : List Int} {k : Nat} (h : folV n (zs.take k) = none) : folV n zs = none := by
  have : zs = zs.take k ++ zs.drop k := (List.take_append_drop k zs).symm
  unfold folV at h ⊢
  rw [this, List.foldl_append, h, fol_none]
/-- the answer -/
def FolR (cs : List (List Int)) (n : Nat) (zs : List Int) (b : Bool) : Prop := match folV n zs with
  | none => b = true
  | some vs => Prp cs vs b
def FolOK (cs : List (List Int)) (n : Nat) (zs : List Int) (W : World) (e : Ending) (w' : World) : Prop := ∃ b, FolR cs n zs b ∧ e = .returned (.bool b) ∧ Below W.heap.size W w'
def PrpOK (cs : List (List Int)) (vs : List Int) (W : World) (e : Ending) (w' : World) : Prop := ∃ b, Prp cs vs b ∧ e = .returned (.bool b) ∧ Below W.heap.size W w'
theorem folV_fine {n : Nat} {zs : List Int} {vs : List Int} (h : folV n zs = some vs) : Fine n vs := by
  have key : ∀ (zs : List Int) (v0 vs : List Int), Fine n v0 → zs.foldl fol1 (some v0) = some vs → Fine n vs := by
    intro zs
    induction zs with
    | nil => intro v0 vs h0 h; cases h; exact h0
    | cons z zs ih =>
      intro v0 vs h0 h
      have h : zs.foldl fol1 (fol1 (some v0) z) = some vs := h
      have e : fol1 (some v0) z = if v0.getD z.natAbs 0 = (if z < 0 then -1 else 1) then none else some (v0.set z.natAbs (if z < 0 then 1 else -1)) := rfl
      rw [e] at h
      by_cases hc : v0.getD z.natAbs 0 = (if z < 0 then -1 else 1)
      · rw [if_pos hc, fol_none] at h; cases h
      · rw [if_neg hc] at h
        refine ih _ _ (h0.set _ ?_) h
        split <;> decide
  refine key zs _ vs ⟨List.length_replicate, fun y hy => ?_⟩ h
  rw [List.eq_of_mem_replicate hy]; decide
theorem madeVals (w : World) (n : Nat) : Vals (w.alloc (.cells (madeCells #[Value.int .i64 0] n) 3)) w.heap.size 0 n (List.replicate n 0) := by
  have hh : (w.alloc (.cells (madeCells #[Value.int .i64 0] n) 3)).heap[w.heap.size]? = some (.cells (madeCells #[Value.int .i64 0] n) 3) := by
    show (w.heap.push _)[w.heap.size]? = _
    simp
  refine ⟨by simp, fun m hm => ⟨(cell_new ..).trans ?_, by unfold World.frozen?; rw [hh]; simp⟩⟩
  rw [Nat.zero_add, List.getD_eq_getElem?_getD, List.getElem?_replicate, if_pos hm]
  simp [madeCells, hm, Nat.mod_one]
set_option maxHeartbeats 8000000 in
set_option maxRecDepth 1000000 in
theorem follows_walk (a : Option Addr) (n c : Nat) (cs : List Cl) (b : Option Addr) (m c2 : Nat) (zs : List Int) (v : Nat) (W w : World) (hn : cs.length = n) (hlen : n ≤ 4611686018427387904) (hl : ∀ j, j < n → (cs.getD j default).zs.length ≤ 1000000000) (hz : Rows' W a cs)
    (hbw0 : Below W.heap.size W w) (hm : zs.length = m) (hml : m ≤ 1000000000) (hi : Ints w b zs) (hlz : Lits (v + 1) zs) (hli : ∀ j, j < n → Lits (v + 1) (cs.getD j default).zs) (hv : v ≤ 999999999) :
    Calls Try.prog 37 #[.slice a n c, .slice b m c2, .int .i64 (v : Int)] w (FolOK (cs.map Cl.zs) (v + 1) zs W) := by
  have hmk := fun w => run_make_row' (P := Try.prog) 40 3 (.int .i64 0) 8 Try.underlying40 info3 rfl .i64 .i64 (v + 1) (by omega) (by omega) w
  have hcast : ((v + 1 : Nat) : Int) = (v : Int) + 1 := by omega
  simp only [hcast] at hmk
  have hpr := fun (bv : Nat) (w1 : World) (vs : List Int) h1 h2 h3 h4 => (propagate_walk a n c cs bv 0 (v + 1) (v + 1) vs W w1 hn hlen hl hz h1 h2 h3 h4 hli (by omega)).mono (R' := PrpOK (cs.map Cl.zs) vs W) (fun e w' h => h)
  have mv := madeVals w (v + 1)
  have hB0 := (Below.refl w.heap.size w).alloc (Nat.le_refl _) (.cells (madeCells #[Value.int .i64 0] (v + 1)) 3)
  go_enter Try.func37, Try.ntmps37
  go_wp2
  go_loopw [8] (fun i wr => ∃ (k : Nat) (vs : List Int), k ≤ m ∧ i = .int .i64 k ∧ folV (v + 1) (zs.take k) = some vs ∧ Vals wr w.heap.size 0 (v + 1) vs ∧ Below w.heap.size w wr) (fun i _ => m - (intOf i).toNat)
  case atStart => exact ⟨0, _, Nat.zero_le _, rfl, rfl, mv, hB0⟩
  case round =>
    obtain ⟨k, vs, hk, rfl, hfo, hvs, hbw⟩ := hrel
    have hbW := hbw0.trans (hbw.mono hbw0.size)
    have hfv := folV_fine hfo
    by_cases hlt : k < m
    · obtain ⟨ib, io, rfl, hib, hic⟩ := hi.below hbw k (by omega)
      have hsq := take_snoc (zs := zs) (k := k) (by omega)
      have hly := hlz (zs.getD k 0) (by rw [List.getD_eq_getElem?_getD, List.getElem?_eq_getElem (by omega)]; exact List.getElem_mem _)
      obtain ⟨y, hy⟩ : ∃ y, zs.getD k 0 = y := ⟨_, rfl⟩
      rw [hy] at hsq hly hic
      obtain ⟨q, hq⟩ : ∃ q, y.natAbs = q := ⟨_, rfl⟩
      obtain ⟨hy0, hy1⟩ := hly
      have hsc : folV (v + 1) (zs.take (k + 1)) = if vs.getD q 0 = (if y < 0 then -1 else 1) then none else some (vs.set q (if y < 0 then 1 else -1)) := by rw [hsq, folV_snoc, hfo, ← hq]; rfl
      rw [hq] at hy1
      have hq0 : 0 < q := by omega
      obtain ⟨hvm, hvf⟩ := hvs.2 q hy1
      have hst := fun z => hvs.set hfv.1 hy1 z
      simp only [Nat.zero_add] at hvm hvf hst
      obtain ⟨u, hu⟩ : ∃ u, vs.getD q 0 = u := ⟨_, rfl⟩
      rw [hu] at hvm hsc
      have hsgn : (y < 0 ∧ y = -(q : Int)) ∨ (¬ y < 0 ∧ y = (q : Int)) := by omega
      rcases hsgn with ⟨hlt0, rfl⟩ | ⟨hlt0, rfl⟩
      · rw [if_pos hlt0, if_pos hlt0] at hsc
        by_cases hu1 : u = -1
        · subst hu1
          rw [if_pos rfl] at hsc
          have hF := folV_fail hsc
          have hR : FolOK (cs.map Cl.zs) (v + 1) zs W (.returned (.bool true)) wr := ⟨true, by unfold FolR; rw [hF], rfl, hbW⟩
          go_wp2_with (go_at_call 56; refine (abs_neg q hq0 (by omega) _).mono ?_)
          try rintro e w1 ⟨rfl, rfl⟩
          try go_wp2
          go_ret
          exact hR
        · rw [if_neg hu1] at hsc
          go_wp2_with (go_at_call 56; refine (abs_neg q hq0 (by omega) _).mono ?_)
          try rintro e w1 ⟨rfl, rfl⟩
          try go_wp2_with (go_at_call 56; refine (abs_neg q hq0 (by omega) _).mono ?_)
          try rintro e w1 ⟨rfl, rfl⟩
          try go_wp2
          go_roundw
          case rel => exact ⟨k + 1, _, hlt, (by simp), hsc, hst 1, hbw.setCell (Nat.le_refl _) _⟩
          case measure => simp [intOf]; omega
      · rw [if_neg hlt0, if_neg hlt0] at hsc
        by_cases hu1 : u = 1
        · subst hu1
          rw [if_pos rfl] at hsc
          have hF := folV_fail hsc
          have hR : FolOK (cs.map Cl.zs) (v + 1) zs W (.returned (.bool true)) wr := ⟨true, by unfold FolR; rw [hF], rfl, hbW⟩
          go_wp2_with (go_at_call 56; refine (abs_pos q (by omega) _).mono ?_)
          try rintro e w1 ⟨rfl, rfl⟩
          try go_wp2
          go_ret
          exact hR
        · rw [if_neg hu1] at hsc
          go_wp2_with (go_at_call 56; refine (abs_pos q (by omega) _).mono ?_)
          try rintro e w1 ⟨rfl, rfl⟩
          try go_wp2_with (go_at_call 56; refine (abs_pos q (by omega) _).mono ?_)
          try rintro e w1 ⟨rfl, rfl⟩
          try go_wp2
          go_roundw
          case rel => exact ⟨k + 1, _, hlt, (by simp), hsc, hst (-1), hbw.setCell (Nat.le_refl _) _⟩
          case measure => simp [intOf]; omega
    · have e0 : k = m := by omega
      subst e0
      have hF : folV (v + 1) zs = some vs := by rw [← hfo]; congr 1; exact (List.take_of_length_le (by omega)).symm
      go_wp2_with (go_at_call 57; refine (hpr w.heap.size wr vs hbW hbw0.size hvs hfv).mono ?_)
      rintro e w1 ⟨b1, hP, rfl, hb1⟩
      have hR : FolOK (cs.map Cl.zs) (v + 1) zs W (.returned (.bool b1)) w1 := ⟨b1, by unfold FolR; rw [hF]; exact hP, rfl, hb1⟩
      go_wp2
      go_ret
      exact hR
end Go.Proofs.Ytkpppmldbhgcgaa.D
/- Drat: have two clauses the same literals? -/
set_option autoImplicit false
set_option linter.unusedVariables false
set_option linter.unusedSimpArgs false
namespace Go.Proofs.Ytkpppmldbhgcgaa.D
open Go.Proofs Go
open Go.Shelf Go.RowKit
def anyZ (x : Int) (bs : List Int) : Bool := bs.any fun y => decide (x = y)
def withinZ (zs bs : List Int) : Bool := zs.all fun x => anyZ x bs
def sameZ (zs bs : List Int) : Bool := withinZ zs bs && withinZ bs zs
theorem anyZ_snoc {x y : Int} {bs : List Int} : anyZ x (bs ++ [y]) = (anyZ x bs || decide (x = y)) := by simp [anyZ]
theorem withinZ_snoc {x : Int} {zs bs : List Int} : withinZ (zs ++ [x]) bs = (withinZ zs bs && anyZ x bs) := by simp [withinZ]
theorem withinZ_not {zs bs : List Int} {k : Nat} (hk : k < zs.length) (h : anyZ (zs.getD k 0) bs = false) : withinZ zs bs = false := by
  unfold withinZ
  rw [List.all_eq_false]
  rw [List.getD_eq_getElem?_getD, List.getElem?_eq_getElem hk] at h
  exact ⟨_, List.getElem_mem hk, by simpa using h⟩
theorem Ints.drewN {w : World} {a : Option Addr} {zs : List Int} (h : Ints w a zs) (q : Nat) : Ints (w.drewN q) a zs := h
/-- the world has only been drawn from -/
def Drawn (w w' : World) : Prop := ∃ q, w' = w.drewN q
theorem Drawn.refl (w : World) : Drawn w w := ⟨0, rfl⟩
theorem Drawn.more {w w' : World} (h : Drawn w w') (q : Nat) : Drawn w (w'.drewN q) := by
  obtain ⟨p, rfl⟩ := h
  exact ⟨p + q, by simp [World.drewN, Nat.add_assoc]⟩
theorem Drawn.ints {w w' : World} (h : Drawn w w') {a : Option Addr} {zs : List Int} (hi : Ints w a zs) : Ints w' a zs := by
  obtain ⟨p, rfl⟩ := h
  exact hi
theorem Drawn.trans {w w1 w2 : World} (h : Drawn w w1) (h2 : Drawn w1 w2) : Drawn w w2 := by
  obtain ⟨p, rfl⟩ := h2
  exact h.more p
theorem Drawn.below {B : Nat} {W w w' : World} (h : Drawn w w') (hb : Below B W w) : Below B W w' := by
  obtain ⟨p, rfl⟩ := h
  exact below_drewN hb p
set_option maxHeartbeats 8000000 in
set_option maxRecDepth 1000000 in
theorem within_walk (a b : Option Addr) (n c m c2 : Nat) (zs bs : List Int) (w : World) (hn : zs.length = n) (hm : bs.length = m) (hlen : n ≤ 1000000000) (hlen2 : m ≤ 1000000000) (ha : Ints w a zs) (hb : Ints w b bs) :
    Calls Try.prog 55 #[.slice a n c, .slice b m c2] w fun e w' => e = .returned (.bool (withinZ zs bs)) ∧ Drawn w w' := by
  go_enter Try.func55, Try.ntmps55
  go_wp2
  go_loopw [5] (fun i wr => ∃ k : Nat, k ≤ n ∧ i = .int .i64 k ∧ withinZ (zs.take k) bs = true ∧ Drawn w wr) (fun i _ => n - (intOf i).toNat)
  case atStart => exact ⟨0, Nat.zero_le _, rfl, rfl, .refl w⟩
  case round =>
    obtain ⟨k, hk, rfl, hf, hd⟩ := hrel
    by_cases hlt : k < n
    · obtain ⟨ab, ao, rfl, hab, hac⟩ := hd.ints ha k (by omega)
      have hb' := hd.ints hb
      have hs := take_snoc (zs := zs) (k := k) (by omega)
      have ht := fun h => withinZ_not (zs := zs) (bs := bs) (k := k) (by omega) h
      obtain ⟨x, hx⟩ : ∃ x, zs.getD k 0 = x := ⟨_, rfl⟩
      rw [hx] at hac hs ht
      go_wp2
      go_loopw [6, 7] (fun s j wr' => ∃ q : Nat, q ≤ m ∧ j = .int .i64 q ∧ s = .bool (anyZ x (bs.take q)) ∧ Drawn wr wr') (fun _ j _ => m - (intOf j).toNat)
      case atStart => exact ⟨0, Nat.zero_le _, rfl, rfl, .refl _⟩
      case round =>
        obtain ⟨q, hq, rfl, rfl, hd2⟩ := hrel
        by_cases hql : q < m
        · obtain ⟨bb, bo, rfl, hbb, hbc⟩ := hd2.ints hb' q (by omega)
          have hac2 : wr.cell? ⟨ab, ao + k, none⟩ = some (Value.int .i64 x) := by
            obtain ⟨p, rfl⟩ := hd2
            exact hac
          have hsq := take_snoc (zs := bs) (k := q) (by omega)
          obtain ⟨y, hy⟩ : ∃ y, bs.getD q 0 = y := ⟨_, rfl⟩
          rw [hy] at hbc hsq
          have hsn : anyZ x (bs.take (q + 1)) = (anyZ x (bs.take q) || decide (x = y)) := by rw [hsq, anyZ_snoc]
          obtain ⟨s, hs0⟩ : ∃ s, anyZ x (bs.take q) = s := ⟨_, rfl⟩
          rw [hs0] at hsn
          simp only [hs0]
          have hkn : (k : Int) < n := by omega
          have hqm : (q : Int) < m := by omega
          cases s with
          | true =>
            go_wp2
            go_quiet (fail)
            go_wp2
            go_roundw
            case rel => exact ⟨q + 1, hql, (by simp), (by rw [hsn]; rfl), hd2.more _⟩
            case measure => simp [intOf]; omega
          | false =>
            by_cases hxy : x = y
            · subst hxy
              go_wp2
              go_quiet (fail)
              go_wp2
              go_roundw
              case rel => exact ⟨q + 1, hql, (by simp), (by rw [hsn]; simp), hd2.more _⟩
              case measure => simp [intOf]; omega
            · have hxy' : decide (x = y) = false := decide_eq_false hxy
              go_wp2
              go_quiet (fail)
              go_wp2
              go_roundw
              case rel => exact ⟨q + 1, hql, (by simp), (by rw [hsn]; simp [hxy]), hd2.more _⟩
              case measure => simp [intOf]; omega
        · have e0 : q = m := by omega
          subst e0
          have hfull : bs.take q = bs := List.take_of_length_le (by omega)
          simp only [hfull]
          obtain ⟨s, hs0⟩ : ∃ s, anyZ x bs = s := ⟨_, rfl⟩
          rw [hs0] at ht
          simp only [hs0]
          cases s with
          | true =>
            go_wp2
            go_roundw
            case rel => exact ⟨k + 1, hlt, (by simp), (by rw [hs, withinZ_snoc, hf, hs0]; rfl), hd.trans hd2⟩
            case measure => simp [intOf]; omega
          | false =>
            have hF := ht rfl
            go_wp2
            go_ret
            exact ⟨by first | rfl | (rw [hF]; rfl) | (simp [hF]; done), hd.trans hd2⟩
    · have e0 : k = n := by omega
      subst e0
      rw [List.take_of_length_le (by omega)] at hf
      go_wp2
      go_ret
      exact ⟨by first | rfl | (rw [hf]; rfl) | (simp [hf]; done), hd⟩
set_option maxHeartbeats 8000000 in
set_option maxRecDepth 1000000 in
theorem same_walk (a b : Option Addr) (n c m c2 : Nat) (zs bs : List Int) (w : World) (hn : zs.length = n) (hm : bs.length = m) (hlen : n ≤ 1000000000) (hlen2 : m ≤ 1000000000) (ha : Ints w a zs) (hb : Ints w b bs) :
    Calls Try.prog 36 #[.slice a n c, .slice b m c2] w fun e w' => e = .returned (.bool (sameZ zs bs)) ∧ Drawn w w' := by
  go_enter Try.func36, Try.ntmps36
  cases h1 : withinZ zs bs with
  | false =>
    have hS : sameZ zs bs = false := by unfold sameZ; rw [h1]; rfl
    go_wp2_with (go_at_call 55; refine (within_walk a b n c m c2 zs bs _ hn hm hlen hlen2 ha hb).mono ?_)
    rintro e w1 ⟨rfl, hd⟩
    rw [h1]
    go_wp2
    go_ret
    exact ⟨by first | rfl | (rw [hS]; rfl) | (simp [hS]; done), hd⟩
  | true =>
    have hS : sameZ zs bs = withinZ bs zs := by unfold sameZ; rw [h1]; rfl
    go_wp2_with (go_at_call 55; refine (within_walk a b n c m c2 zs bs _ hn hm hlen hlen2 ha hb).mono ?_)
    rintro e w1 ⟨rfl, hd⟩
    rw [h1]
    go_wp2_with (go_at_call 55; refine (within_walk b a m c2 n c bs zs _ hm hn hlen2 hlen (hd.ints hb) (hd.ints ha)).mono ?_)
    rintro e w2 ⟨rfl, hd2⟩
    go_wp2
    go_ret
    exact ⟨by first | rfl | (rw [hS]; rfl) | (simp [hS]; done), hd.trans hd2⟩
end Go.Proofs.Ytkpppmldbhgcgaa.D

/- Drat: have two clauses the same literals? -/
import Derived.Test.YtagfnjpjmmleiaaDoorPC
set_option linter.unusedVariables false
set_option linter.unusedSimpArgs false
set_option autoImplicit false
set_option linter.unusedVariables false
set_option linter.unusedSimpArgs false
namespace Go.Proofs.YtagfnjpjmmleiaaDoor
open Go.Shelf Go.RowKit
def anyZ (x : Int) (bs : List Int) : Bool := bs.any fun y => decide (x = y)
def withinZ (zs bs : List Int) : Bool := zs.all fun x => anyZ x bs
def sameZ (zs bs : List Int) : Bool := withinZ zs bs && withinZ bs zs
theorem anyZ_snoc {x y : Int} {bs : List Int} : anyZ x (bs ++ [y]) = (anyZ x bs || decide (x = y)) := by simp [anyZ]
theorem withinZ_snoc {x : Int} {zs bs : List Int} : withinZ (zs ++ [x]) bs = (withinZ zs bs && anyZ x bs) := by simp [withinZ]
theorem withinZ_not {zs bs : List Int} {k : Nat} (hk : k < zs.length) (h : anyZ (zs.getD k 0) bs = false) : withinZ zs bs = false := by
  unfold withinZ
  rw [List.all_eq_false]
  rw [List.getD_eq_getElem?_getD, List.getElem?_eq_getElem hk] at h
  exact ⟨_, List.getElem_mem hk, by simpa using h⟩
theorem Ints.drewN {w : World} {a : Option Addr} {zs : List Int} (h : Ints w a zs) (q : Nat) : Ints (w.drewN q) a zs := h
/-- the world has only been drawn from -/
def Drawn (w w' : World) : Prop := ∃ q, w' = w.drewN q
theorem Drawn.refl (w : World) : Drawn w w := ⟨0, rfl⟩
theorem Drawn.more {w w' : World} (h : Drawn w w') (q : Nat) : Drawn w (w'.drewN q) := by
  obtain ⟨p, rfl⟩ := h
  exact ⟨p + q, by simp [World.drewN, Nat.add_assoc]⟩
theorem Drawn.ints {w w' : World} (h : Drawn w w') {a : Option Addr} {zs : List Int} (hi : Ints w a zs) : Ints w' a zs := by
  obtain ⟨p, rfl⟩ := h
  exact hi
theorem Drawn.trans {w w1 w2 : World} (h : Drawn w w1) (h2 : Drawn w1 w2) : Drawn w w2 := by
  obtain ⟨p, rfl⟩ := h2
  exact h.more p
theorem Drawn.below {B : Nat} {W w w' : World} (h : Drawn w w') (hb : Below B W w) : Below B W w' := by
  obtain ⟨p, rfl⟩ := h
  exact below_drewN hb p
set_option maxHeartbeats 8000000 in
set_option maxRecDepth 1000000 in
theorem within_walk (a b : Option Addr) (n c m c2 : Nat) (zs bs : List Int) (w : World) (hn : zs.length = n) (hm : bs.length = m) (hlen : n ≤ 1000000000) (hlen2 : m ≤ 1000000000) (ha : Ints w a zs) (hb : Ints w b bs) :
    Calls Tryd.prog 39 #[.slice a n c, .slice b m c2] w fun e w' => e = .returned (.bool (withinZ zs bs)) ∧ Drawn w w' := by
  go_enter Tryd.func39, Tryd.ntmps39
  go_wp2
  go_loopw [5] (fun i wr => ∃ k : Nat, k ≤ n ∧ i = .int .i64 k ∧ withinZ (zs.take k) bs = true ∧ Drawn w wr) (fun i _ => n - (intOf i).toNat)
  case atStart => exact ⟨0, Nat.zero_le _, rfl, rfl, .refl w⟩
  case round =>
    obtain ⟨k, hk, rfl, hf, hd⟩ := hrel
    by_cases hlt : k < n
    · obtain ⟨ab, ao, rfl, hab, hac⟩ := hd.ints ha k (by omega)
      have hb' := hd.ints hb
      have hs := take_snoc (zs := zs) (k := k) (by omega)
      have ht := fun h => withinZ_not (zs := zs) (bs := bs) (k := k) (by omega) h
      obtain ⟨x, hx⟩ : ∃ x, zs.getD k 0 = x := ⟨_, rfl⟩
      rw [hx] at hac hs ht
      go_wp2
      go_loopw [6, 7] (fun s j wr' => ∃ q : Nat, q ≤ m ∧ j = .int .i64 q ∧ s = .bool (anyZ x (bs.take q)) ∧ Drawn wr wr') (fun _ j _ => m - (intOf j).toNat)
      case atStart => exact ⟨0, Nat.zero_le _, rfl, rfl, .refl _⟩
      case round =>
        obtain ⟨q, hq, rfl, rfl, hd2⟩ := hrel
        by_cases hql : q < m
        · obtain ⟨bb, bo, rfl, hbb, hbc⟩ := hd2.ints hb' q (by omega)
          have hac2 : wr.cell? ⟨ab, ao + k, none⟩ = some (Value.int .i64 x) := by
            obtain ⟨p, rfl⟩ := hd2
            exact hac
          have hsq := take_snoc (zs := bs) (k := q) (by omega)
          obtain ⟨y, hy⟩ : ∃ y, bs.getD q 0 = y := ⟨_, rfl⟩
          rw [hy] at hbc hsq
          have hsn : anyZ x (bs.take (q + 1)) = (anyZ x (bs.take q) || decide (x = y)) := by rw [hsq, anyZ_snoc]
          obtain ⟨s, hs0⟩ : ∃ s, anyZ x (bs.take q) = s := ⟨_, rfl⟩
          rw [hs0] at hsn
          simp only [hs0]
          have hkn : (k : Int) < n := by omega
          have hqm : (q : Int) < m := by omega
          cases s with
          | true =>
            go_wp2
            go_quiet (fail)
            go_wp2
            go_roundw
            case rel => exact ⟨q + 1, hql, (by simp), (by rw [hsn]; rfl), hd2.more _⟩
            case measure => simp [intOf]; omega
          | false =>
            by_cases hxy : x = y
            · subst hxy
              go_wp2
              go_quiet (fail)
              go_wp2
              go_roundw
              case rel => exact ⟨q + 1, hql, (by simp), (by rw [hsn]; simp), hd2.more _⟩
              case measure => simp [intOf]; omega
            · have hxy' : decide (x = y) = false := decide_eq_false hxy
              go_wp2
              go_quiet (fail)
              go_wp2
              go_roundw
              case rel => exact ⟨q + 1, hql, (by simp), (by rw [hsn]; simp [hxy]), hd2.more _⟩
              case measure => simp [intOf]; omega
        · have e0 : q = m := by omega
          subst e0
          have hfull : bs.take q = bs := List.take_of_length_le (by omega)
          simp only [hfull]
          obtain ⟨s, hs0⟩ : ∃ s, anyZ x bs = s := ⟨_, rfl⟩
          rw [hs0] at ht
          simp only [hs0]
          cases s with
          | true =>
            go_wp2
            go_roundw
            case rel => exact ⟨k + 1, hlt, (by simp), (by rw [hs, withinZ_snoc, hf, hs0]; rfl), hd.trans hd2⟩
            case measure => simp [intOf]; omega
          | false =>
            have hF := ht rfl
            go_wp2
            go_ret
            exact ⟨by first | rfl | (rw [hF]; rfl) | (simp [hF]; done), hd.trans hd2⟩
    · have e0 : k = n := by omega
      subst e0
      rw [List.take_of_length_le (by omega)] at hf
      go_wp2
      go_ret
      exact ⟨by first | rfl | (rw [hf]; rfl) | (simp [hf]; done), hd⟩
set_option maxHeartbeats 8000000 in
set_option maxRecDepth 1000000 in
theorem same_walk (a b : Option Addr) (n c m c2 : Nat) (zs bs : List Int) (w : World) (hn : zs.length = n) (hm : bs.length = m) (hlen : n ≤ 1000000000) (hlen2 : m ≤ 1000000000) (ha : Ints w a zs) (hb : Ints w b bs) :
    Calls Tryd.prog 30 #[.slice a n c, .slice b m c2] w fun e w' => e = .returned (.bool (sameZ zs bs)) ∧ Drawn w w' := by
  go_enter Tryd.func30, Tryd.ntmps30
  cases h1 : withinZ zs bs with
  | false =>
    have hS : sameZ zs bs = false := by unfold sameZ; rw [h1]; rfl
    go_wp2_with (go_at_call 39; refine (within_walk a b n c m c2 zs bs _ hn hm hlen hlen2 ha hb).mono ?_)
    rintro e w1 ⟨rfl, hd⟩
    rw [h1]
    go_wp2
    go_ret
    exact ⟨by first | rfl | (rw [hS]; rfl) | (simp [hS]; done), hd⟩
  | true =>
    have hS : sameZ zs bs = withinZ bs zs := by unfold sameZ; rw [h1]; rfl
    go_wp2_with (go_at_call 39; refine (within_walk a b n c m c2 zs bs _ hn hm hlen hlen2 ha hb).mono ?_)
    rintro e w1 ⟨rfl, hd⟩
    rw [h1]
    go_wp2_with (go_at_call 39; refine (within_walk b a m c2 n c bs zs _ hm hn hlen2 hlen (hd.ints hb) (hd.ints ha)).mono ?_)
    rintro e w2 ⟨rfl, hd2⟩
    go_wp2
    go_ret
    exact ⟨by first | rfl | (rw [hS]; rfl) | (simp [hS]; done), hd.trans hd2⟩
end Go.Proofs.YtagfnjpjmmleiaaDoor

/- Drat: have two clauses the same literals? -/
import Derived.Test.YtkpppmldbhgcgaaDpPBtoDpPC
import Derived.OwnWalk
set_option linter.unusedVariables false
set_option linter.unusedSimpArgs false
set_option autoImplicit false
set_option linter.unusedVariables false
set_option linter.unusedSimpArgs false
namespace Go.Proofs.Ytkpppmldbhgcgaa.D
open Go.Proofs Go
open Go.Shelf Go.RowKit
def anyZ (x : Int) (bs : List Int) : Bool := bs.any fun y => decide (x = y)
def withinZ (zs bs : List Int) : Bool := zs.all fun x => anyZ x bs
def sameZ (zs bs : List Int) : Bool := withinZ zs bs && withinZ bs zs
theorem anyZ_snoc {x y : Int} {bs : List Int} : anyZ x (bs ++ [y]) = (anyZ x bs || decide (x = y)) := by simp [anyZ]
theorem withinZ_snoc {x : Int} {zs bs : List Int} : withinZ (zs ++ [x]) bs = (withinZ zs bs && anyZ x bs) := by simp [withinZ]
theorem withinZ_not {zs bs : List Int} {k : Nat} (hk : k < zs.length) (h : anyZ (zs.getD k 0) bs = false) : withinZ zs bs = false := by
  unfold withinZ
  rw [List.all_eq_false]
  rw [List.getD_eq_getElem?_getD, List.getElem?_eq_getElem hk] at h
  exact ⟨_, List.getElem_mem hk, by simpa using h⟩
theorem Ints.drewN {w : World} {a : Option Addr} {zs : List Int} (h : Ints w a zs) (q : Nat) : Ints (w.drewN q) a zs := h
/-- the world has only been drawn from -/
def Drawn (w w' : World) : Prop := ∃ q, w' = w.drewN q
theorem Drawn.refl (w : World) : Drawn w w := ⟨0, rfl⟩
theorem Drawn.more {w w' : World} (h : Drawn w w') (q : Nat) : Drawn w (w'.drewN q) := by
  obtain ⟨p, rfl⟩ := h
  exact ⟨p + q, by simp [World.drewN, Nat.add_assoc]⟩
theorem Drawn.ints {w w' : World} (h : Drawn w w') {a : Option Addr} {zs : List Int} (hi : Ints w a zs) : Ints w' a zs := by
  obtain ⟨p, rfl⟩ := h
  exact hi
theorem Drawn.trans {w w1 w2 : World} (h : Drawn w w1) (h2 : Drawn w1 w2) : Drawn w w2 := by
  obtain ⟨p, rfl⟩ := h2
  exact h.more p
theorem Drawn.below {B : Nat} {W w w' : World} (h : Drawn w w') (hb : Below B W w) : Below B W w' := by
  obtain ⟨p, rfl⟩ := h
  exact below_drewN hb p
set_option maxHeartbeats 8000000 in
set_option maxRecDepth 1000000 in
theorem within_walk (a b : Option Addr) (n c m c2 : Nat) (zs bs : List Int) (w : World) (hn : zs.length = n) (hm : bs.length = m) (hlen : n ≤ 1000000000) (hlen2 : m ≤ 1000000000) (ha : Ints w a zs) (hb : Ints w b bs) :
    Calls Try.prog 55 #[.slice a n c, .slice b m c2] w fun e w' => e = .returned (.bool (withinZ zs bs)) ∧ Drawn w w' := by
  go_enter Try.func55, Try.ntmps55
  go_wp2
  go_loopw [5] (fun i wr => ∃ k : Nat, k ≤ n ∧ i = .int .i64 k ∧ withinZ (zs.take k) bs = true ∧ Drawn w wr) (fun i _ => n - (intOf i).toNat)
  case atStart => exact ⟨0, Nat.zero_le _, rfl, rfl, .refl w⟩
  case round =>
    obtain ⟨k, hk, rfl, hf, hd⟩ := hrel
    by_cases hlt : k < n
    · obtain ⟨ab, ao, rfl, hab, hac⟩ := hd.ints ha k (by omega)
      have hb' := hd.ints hb
      have hs := take_snoc (zs := zs) (k := k) (by omega)
      have ht := fun h => withinZ_not (zs := zs) (bs := bs) (k := k) (by omega) h
      obtain ⟨x, hx⟩ : ∃ x, zs.getD k 0 = x := ⟨_, rfl⟩
      rw [hx] at hac hs ht
      go_wp2
      go_loopw [6, 7] (fun s j wr' => ∃ q : Nat, q ≤ m ∧ j = .int .i64 q ∧ s = .bool (anyZ x (bs.take q)) ∧ Drawn wr wr') (fun _ j _ => m - (intOf j).toNat)
      case atStart => exact ⟨0, Nat.zero_le _, rfl, rfl, .refl _⟩
      case round =>
        obtain ⟨q, hq, rfl, rfl, hd2⟩ := hrel
        by_cases hql : q < m
        · obtain ⟨bb, bo, rfl, hbb, hbc⟩ := hd2.ints hb' q (by omega)
          have hac2 : wr.cell? ⟨ab, ao + k, none⟩ = some (Value.int .i64 x) := by
            obtain ⟨p, rfl⟩ := hd2
            exact hac
          have hsq := take_snoc (zs := bs) (k := q) (by omega)
          obtain ⟨y, hy⟩ : ∃ y, bs.getD q 0 = y := ⟨_, rfl⟩
          rw [hy] at hbc hsq
          have hsn : anyZ x (bs.take (q + 1)) = (anyZ x (bs.take q) || decide (x = y)) := by rw [hsq, anyZ_snoc]
          obtain ⟨s, hs0⟩ : ∃ s, anyZ x (bs.take q) = s := ⟨_, rfl⟩
          rw [hs0] at hsn
          simp only [hs0]
          have hkn : (k : Int) < n := by omega
          have hqm : (q : Int) < m := by omega
          cases s with
          | true =>
            go_wp2
            go_quiet (fail)
            go_wp2
            go_roundw
            case rel => exact ⟨q + 1, hql, (by simp), (by rw [hsn]; rfl), hd2.more _⟩
            case measure => simp [intOf]; omega
          | false =>
            by_cases hxy : x = y
            · subst hxy
              go_wp2
              go_quiet (fail)
              go_wp2
              go_roundw
              case rel => exact ⟨q + 1, hql, (by simp), (by rw [hsn]; simp), hd2.more _⟩
              case measure => simp [intOf]; omega
            · have hxy' : decide (x = y) = false := decide_eq_false hxy
              go_wp2
              go_quiet (fail)
              go_wp2
              go_roundw
              case rel => exact ⟨q + 1, hql, (by simp), (by rw [hsn]; simp [hxy]), hd2.more _⟩
              case measure => simp [intOf]; omega
        · have e0 : q = m := by omega
          subst e0
          have hfull : bs.take q = bs := List.take_of_length_le (by omega)
          simp only [hfull]
          obtain ⟨s, hs0⟩ : ∃ s, anyZ x bs = s := ⟨_, rfl⟩
          rw [hs0] at ht
          simp only [hs0]
          cases s with
          | true =>
            go_wp2
            go_roundw
            case rel => exact ⟨k + 1, hlt, (by simp), (by rw [hs, withinZ_snoc, hf, hs0]; rfl), hd.trans hd2⟩
            case measure => simp [intOf]; omega
          | false =>
            have hF := ht rfl
            go_wp2
            go_ret
            exact ⟨by first | rfl | (rw [hF]; rfl) | (simp [hF]; done), hd.trans hd2⟩
    · have e0 : k = n := by omega
      subst e0
      rw [List.take_of_length_le (by omega)] at hf
      go_wp2
      go_ret
      exact ⟨by first | rfl | (rw [hf]; rfl) | (simp [hf]; done), hd⟩
set_option maxHeartbeats 8000000 in
set_option maxRecDepth 1000000 in
theorem same_walk (a b : Option Addr) (n c m c2 : Nat) (zs bs : List Int) (w : World) (hn : zs.length = n) (hm : bs.length = m) (hlen : n ≤ 1000000000) (hlen2 : m ≤ 1000000000) (ha : Ints w a zs) (hb : Ints w b bs) :
    Calls Try.prog 36 #[.slice a n c, .slice b m c2] w fun e w' => e = .returned (.bool (sameZ zs bs)) ∧ Drawn w w' := by
  go_enter Try.func36, Try.ntmps36
  cases h1 : withinZ zs bs with
  | false =>
    have hS : sameZ zs bs = false := by unfold sameZ; rw [h1]; rfl
    go_wp2_with (go_at_call 55; refine (within_walk a b n c m c2 zs bs _ hn hm hlen hlen2 ha hb).mono ?_)
    rintro e w1 ⟨rfl, hd⟩
    rw [h1]
    go_wp2
    go_ret
    exact ⟨by first | rfl | (rw [hS]; rfl) | (simp [hS]; done), hd⟩
  | true =>
    have hS : sameZ zs bs = withinZ bs zs := by unfold sameZ; rw [h1]; rfl
    go_wp2_with (go_at_call 55; refine (within_walk a b n c m c2 zs bs _ hn hm hlen hlen2 ha hb).mono ?_)
    rintro e w1 ⟨rfl, hd⟩
    rw [h1]
    go_wp2_with (go_at_call 55; refine (within_walk b a m c2 n c bs zs _ hm hn hlen2 hlen (hd.ints hb) (hd.ints ha)).mono ?_)
    rintro e w2 ⟨rfl, hd2⟩
    go_wp2
    go_ret
    exact ⟨by first | rfl | (rw [hS]; rfl) | (simp [hS]; done), hd.trans hd2⟩
end Go.Proofs.Ytkpppmldbhgcgaa.D
/- Drat: does a clause follow by its first literal, by the document's own answer? -/
set_option autoImplicit false
set_option linter.unusedVariables false
set_option linter.unusedSimpArgs false
namespace Go.Proofs.Ytkpppmldbhgcgaa.D
open Go.Proofs Go
open Go.Shelf Go.RowKit
/-- what is left of a clause -/
def others (z : Int) (d : List Int) : List Int := d.filter fun y => !decide (y = -z)
def anyN (z : Int) (d : List Int) : Bool := d.any fun y => decide (y = -z)
theorem anyN_snoc {z y : Int} {d : List Int} : anyN z (d ++ [y]) = (anyN z d || decide (y = -z)) := by simp [anyN]
theorem others_snoc {z y : Int} {d : List Int} : others z (d ++ [y]) = others z d ++ (if y = -z then [] else [y]) := by
  by_cases h : y = -z <;> simp [others, List.filter_append, h]
inductive ByR (cs : List (List Int)) (n : Nat) (zs : List Int) (z : Int) : List (List Int) → Bool → Prop
  | nil : ByR cs n zs z [] true
  | skip (d : List Int) (ds : List (List Int)) (b : Bool) : anyN z d = false → ByR cs n zs z ds b → ByR cs n zs z (d :: ds) b
  | no (d : List Int) (ds : List (List Int)) : anyN z d = true → FolR cs n (zs ++ others z d) false → ByR cs n zs z (d :: ds) false
  | yes (d : List Int) (ds : List (List Int)) (b : Bool) : anyN z d = true → FolR cs n (zs ++ others z d) true → ByR cs n zs z ds b → ByR cs n zs z (d :: ds) b
def ByOK (cs : List (List Int)) (n : Nat) (zs : List Int) (z : Int) (W : World) (e : Ending) (w' : World) : Prop := ∃ b, ByR cs n zs z cs b ∧ e = .returned (.bool b) ∧ Below W.heap.size W w'
theorem add_plain (b o j : Nat) : (⟨b, o, none⟩ : Addr).add j = ⟨b, o + j, none⟩ := by
  unfold Addr.add
  split <;> simp_all
theorem Ints.news {w : World} {b o : Nat} {zs : List Int} (h : Ints w (some ⟨b, o, none⟩) zs) : ∀ j u, (zs.map (Value.int .i64))[j]? = some u → w.cell? ((⟨b, o, none⟩ : Addr).add j) = some u := by
  intro j u hu
  rw [List.getElem?_map, Option.map_eq_some_iff] at hu
  obtain ⟨z, hz, rfl⟩ := hu
  have hj := (List.getElem?_eq_some_iff.1 hz).1
  obtain ⟨b', o', e1, e2, e3⟩ := h j hj
  cases e1
  rw [add_plain, e3, List.getD_eq_getElem?_getD, hz]; rfl
theorem owned_ints {w : World} {base n : Nat} {v : Value} {zs : List Int} (h : w.ownsRow base 3 1 v n (zs.map (Value.int .i64))) (hn : 0 < n) : ∃ g cap, v = .slice (some ⟨g, 0, none⟩) n cap ∧ zs.length = n ∧ Ints w (some ⟨g, 0, none⟩) zs := by
  obtain ⟨h1, h2⟩ := h
  have hl : zs.length = n := by simpa using h1
  rcases h2 with ⟨_, h0⟩ | ⟨g, cap, cur, rfl, hb, hg, hc1, hc2, hc3, hc4⟩
  · omega
  · refine ⟨g, cap, rfl, hl, fun j hj => ⟨g, 0, rfl, (Array.getElem?_eq_some_iff.1 hg).1, ?_⟩⟩
    have := congrArg (fun l => l[j]?) hc4
    simp only [List.getElem?_take, List.getElem?_map] at this
    rw [if_pos (by omega), List.getElem?_eq_getElem hj] at this
    have hcell : w.cell? ⟨g, 0 + j, none⟩ = cur[0 + j]? := by
      unfold World.cell?
      rw [hg]; rfl
    rw [hcell, Nat.zero_add, List.getD_eq_getElem?_getD, List.getElem?_eq_getElem hj]
    simpa using this
set_option maxHeartbeats 8000000 in
set_option maxRecDepth 1000000 in
theorem byf_walk (a : Option Addr) (n c : Nat) (cs : List Cl) (cb co m c2 : Nat) (zs : List Int) (v : Nat) (W w : World) (hn : cs.length = n) (hlen : n ≤ 4611686018427387904) (hl : ∀ j, j < n → (cs.getD j default).zs.length ≤ 400000000) (hz : Rows' W a cs)
    (hbw0 : Below W.heap.size W w) (hm : zs.length = m) (hm0 : 0 < m) (hml : m ≤ 400000000) (hi : Ints W (some ⟨cb, co, none⟩) zs) (hlz : Lits (v + 1) zs) (hli : ∀ j, j < n → Lits (v + 1) (cs.getD j default).zs) (hv : v ≤ 999999999) :
    Calls Try.prog 38 #[.slice a n c, .slice (some ⟨cb, co, none⟩) m c2, .int .i64 (v : Int)] w (ByOK (cs.map Cl.zs) (v + 1) zs (zs.getD 0 0) W) := by
  obtain ⟨i0, hi0, hz0, hz1, hz2⟩ := info_parts info3
  have hcb : cb < W.heap.size := by
    obtain ⟨b', o', e1, e2, e3⟩ := hi 0 (by omega)
    cases e1; exact e2
  have hc0 : W.cell? ⟨cb, co, none⟩ = some (.int .i64 (zs.getD 0 0)) := by
    obtain ⟨b', o', e1, e2, e3⟩ := hi 0 (by omega)
    cases e1; exact e3
  have hly0 := hlz (zs.getD 0 0) (by rw [List.getD_eq_getElem?_getD, List.getElem?_eq_getElem (by omega)]; exact List.getElem_mem _)
  obtain ⟨z, hzz⟩ : ∃ z, zs.getD 0 0 = z := ⟨_, rfl⟩
  rw [hzz] at hc0 hly0 ⊢
  obtain ⟨hly0, hly1⟩ := hly0
  have hmb : ((m : Int) == 0) = false := beq_false_of_ne (by omega)
  go_enter Try.func38, Try.ntmps38
  go_wp2
  go_loopw [7] (fun i wr => ∃ k : Nat, k ≤ n ∧ i = .int .i64 k ∧ Below W.heap.size W wr ∧ ∀ b, ByR (cs.map Cl.zs) (v + 1) zs z ((cs.map Cl.zs).drop k) b → ByR (cs.map Cl.zs) (v + 1) zs z (cs.map Cl.zs) b) (fun i _ => n - (intOf i).toNat)
  case atStart => exact ⟨0, Nat.zero_le _, rfl, hbw0, fun b h => h⟩
  case round =>
    obtain ⟨k, hk, rfl, hbw, hB⟩ := hrel
    have hc0w := (hbw.cell (by exact hcb)).trans hc0
    by_cases hlt : k < n
    · obtain ⟨rb, ro, rfl, hrb, hrc, hri⟩ := hz k (by omega)
      have hll := hl k hlt
      have hlx := hli k hlt
      have hsn : (cs.map Cl.zs).drop k = (cs.getD k default).zs :: (cs.map Cl.zs).drop (k + 1) := by
        rw [List.drop_eq_getElem_cons (by rw [List.length_map]; omega), List.getElem_map, List.getD_eq_getElem?_getD, List.getElem?_eq_getElem (by omega)]; rfl
      obtain ⟨xa, hxa⟩ : ∃ x, (cs.getD k default).a = x := ⟨_, rfl⟩
      obtain ⟨xc, hxc⟩ : ∃ x, (cs.getD k default).c = x := ⟨_, rfl⟩
      obtain ⟨xz, hxz⟩ : ∃ x, (cs.getD k default).zs = x := ⟨_, rfl⟩
      rw [hxz] at hll hlx hsn
      rw [hxa, hxz, hxc] at hrc
      rw [hxa, hxz] at hri
      clear hxa hxc hxz
      have hrcw := (hbw.cell (by exact hrb)).trans hrc
      go_wp2
      go_loopw [8, 9] (fun h j wr' => ∃ q : Nat, q ≤ xz.length ∧ j = .int .i64 q ∧ h = .bool (anyN z (xz.take q)) ∧ Drawn wr wr') (fun _ j _ => xz.length - (intOf j).toNat)
      case atStart => exact ⟨0, Nat.zero_le _, rfl, rfl, .refl _⟩
      case round =>
        obtain ⟨q, hq, rfl, rfl, hd⟩ := hrel
        have hbw2 := hd.below hbw
        have hrc2 := (hbw2.cell (by exact hrb)).trans hrc
        have hc02 := (hbw2.cell (by exact hcb)).trans hc0
        by_cases hql : q < xz.length
        · obtain ⟨ib, io, rfl, hib, hic⟩ := hri.below hbw2 q hql
          have hsq := take_snoc (zs := xz) (k := q) hql
          obtain ⟨y, hy⟩ : ∃ y, xz.getD q 0 = y := ⟨_, rfl⟩
          rw [hy] at hic hsq
          have hsc : anyN z (xz.take (q + 1)) = (anyN z (xz.take q) || decide (y = -z)) := by rw [hsq, anyN_snoc]
          obtain ⟨s, hs0⟩ : ∃ s, anyN z (xz.take q) = s := ⟨_, rfl⟩
          rw [hs0] at hsc
          simp only [hs0]
          have hkn : (k : Int) < n := by omega
          have hqm : (q : Int) < xz.length := by omega
          have hmp : (0 : Int) < m := by omega
          cases s with
          | true =>
            go_wp2
            go_quiet (fail)
            go_wp2
            go_roundw
            case rel => exact ⟨q + 1, hql, (by simp), (by rw [hsc]; rfl), hd.more _⟩
            case measure => simp [intOf]; omega
          | false =>
            by_cases hxy : y = -z
            · have hxb : (y == -z) = true := by simp [hxy]
              have hsc' : anyN z (xz.take (q + 1)) = true := by rw [hsc]; simp [hxy]
              clear hxy hsc
              go_wp2
              go_quiet (fail)
              go_wp2
              go_roundw
              case rel => exact ⟨q + 1, hql, (by simp), (by rw [hsc']), hd.more _⟩
              case measure => simp [intOf]; omega
            · have hxy' : (y == -z) = false := beq_false_of_ne hxy
              go_wp2
              go_quiet (fail)
              go_wp2
              case roundEnd =>
                go_roundw
                case rel => exact ⟨q + 1, hql, (by simp), (by rw [hsc]; simp [hxy]), hd.more _⟩
                case measure => simp [intOf]; omega
              all_goals exact undef
        · have e0 : q = xz.length := by omega
          have hfull : xz.take q = xz := List.take_of_length_le (by omega)
          subst e0
          simp only [hfull]
          obtain ⟨s, hs0⟩ : ∃ s, anyN z xz = s := ⟨_, rfl⟩
          simp only [hs0]
          cases s with
          | false =>
            go_wp2
            go_roundw
            case rel => exact ⟨k + 1, hlt, (by simp), hbw2, fun b h => hB b (by rw [hsn]; exact .skip _ _ _ hs0 h)⟩
            case measure => simp [intOf]; omega
          | true =>
            have hnews := (hi.below hbw2).news
            go_wp2_with (first | (at_builtin; refine wpList_append_own _ rfl _ _ 40 rfl W.heap.size 3 i0 (.int .i64 0) 1 8 Try.underlying40 hi0 hz0 hz1 hz2 rfl (by decide) _ _ _ rfl (World.ownsRow_nil _ _ _ _) ⟨cb, co, none⟩ m c2 (zs.map (Value.int .i64)) rfl ?c0 hnews ?c2 ?c3 ?c4 ?c5 ?_))
            case c0 => simp [hm]
            case c2 => intro u hu; obtain ⟨y, _, rfl⟩ := List.mem_map.1 hu; rfl
            case c3 => unfold maxLen; omega
            case c4 => omega
            case c5 => exact hbw2.size
            intro v' w1 hown hgrow _
            have hbw3 := hbw2.grown hgrow hbw2.size (fun k hk => by cases hk)
            clear hgrow
            go_wp2
            go_loopw [10, 11] (fun xv j wr' => ∃ q nn : Nat, q ≤ xz.length ∧ j = .int .i64 q ∧ wr'.ownsRow W.heap.size 3 1 xv nn ((zs ++ others z (xz.take q)).map (Value.int .i64)) ∧ Below W.heap.size W wr') (fun _ j _ => xz.length - (intOf j).toNat)
            case atStart => exact ⟨0, 0 + m, Nat.zero_le _, rfl, (by simpa [others] using hown), hbw3⟩
            case round =>
              obtain ⟨q, nn, hq, rfl, hown, hbw4⟩ := hrel
              have hnn : (zs ++ others z (xz.take q)).length = nn := by simpa using hown.1
              have hol : (others z (xz.take q)).length ≤ q := by
                have h1 := List.length_filter_le (fun y => !decide (y = -z)) (xz.take q)
                have h2 : (xz.take q).length ≤ q := by rw [List.length_take]; omega
                exact Nat.le_trans h1 h2
              rw [List.length_append] at hnn
              have hrc4 := (hbw4.cell (by exact hrb)).trans hrc
              have hc04 := (hbw4.cell (by exact hcb)).trans hc0
              by_cases hql : q < xz.length
              · obtain ⟨ib, io, rfl, hib, hic⟩ := hri.below hbw4 q hql
                have hsq := take_snoc (zs := xz) (k := q) hql
                obtain ⟨y, hy⟩ : ∃ y, xz.getD q 0 = y := ⟨_, rfl⟩
                rw [hy] at hic hsq
                have hso : others z (xz.take (q + 1)) = others z (xz.take q) ++ (if y = -z then [] else [y]) := by rw [hsq, others_snoc]
                have hkn : (k : Int) < n := by omega
                have hqm : (q : Int) < xz.length := by omega
                have hmp : (0 : Int) < m := by omega
                have hownq : ∀ p, (wr.drewN p).ownsRow W.heap.size 3 1 _ nn ((zs ++ others z (xz.take q)).map (Value.int .i64)) := fun p => hown
                by_cases hxy : y = -z
                · have hxb : (y != -z) = false := by simp [hxy]
                  rw [if_pos hxy, List.append_nil] at hso
                  clear hxy
                  go_wp2
                  go_quiet (fail)
                  go_wp2
                  go_roundw
                  case rel => exact ⟨q + 1, nn, hql, (by simp), (by rw [hso]; exact hownq _), below_drewN hbw4 _⟩
                  case measure => simp [intOf]; omega
                · have hxb : (y != -z) = true := by simp [hxy]
                  rw [if_neg hxy] at hso
                  clear hxy
                  go_wp2
                  go_quiet (fail)
                  go_wp2_with (first | (at_builtin; refine wpList_append_own _ rfl _ _ 40 rfl W.heap.size 3 i0 (.int .i64 0) 1 8 Try.underlying40 hi0 hz0 hz1 hz2 rfl (by decide) _ _ _ rfl ((hownq _).alloc _) ⟨wr.heap.size, 0, none⟩ 1 1 [.int .i64 y] rfl rfl ?c1 ?c2 ?c3 ?c4 ?c5 ?_))
                  case c1 =>
                    intro j u hj
                    match j, hj with
                    | 0, hj =>
                      simp at hj
                      subst hj
                      rw [add_plain]
                      exact cell_new (wr.drewN nq) _ _ _ 0
                  case c2 => intro u hu; simp at hu; subst hu; rfl
                  case c3 => unfold maxLen; omega
                  case c4 => omega
                  case c5 => have := hbw4.size; simp; omega
                  intro v' w1 hown' hgrow _
                  have hlt' := hown.lt
                  have hbw5 := ((below_drewN hbw4 nq).alloc (by exact hbw4.size) _).grown hgrow (by have := hbw4.size; simp; omega) (fun k hk => (hlt' k hk).1)
                  have hown2 : w1.ownsRow W.heap.size 3 1 v' (nn + 1) ((zs ++ others z (xz.take (q + 1))).map (Value.int .i64)) := by rw [hso]; simpa using hown'
                  clear hgrow hown' hown hownq hlt'
                  go_wp2
                  case roundEnd =>
                    go_roundw
                    case rel => exact ⟨q + 1, nn + 1, hql, (by simp), hown2, hbw5⟩
                    case measure => simp [intOf]; omega
                  all_goals exact undef
              · have e0 : q = xz.length := by omega
                have hfull : xz.take q = xz := List.take_of_length_le (by omega)
                rw [hfull] at hown hol hnn
                obtain ⟨g, cap, rfl, hgl, hgi⟩ := owned_ints hown (by omega)
                have hlits : Lits (v + 1) (zs ++ others z xz) := by
                  intro y hy
                  rcases List.mem_append.1 hy with h | h
                  · exact hlz y h
                  · exact hlx y (List.mem_filter.1 h).1
                have hfw := follows_walk (some ⟨rb, ro, none⟩) n c cs (some ⟨g, 0, none⟩) nn cap (zs ++ others z xz) v W wr hn hlen (fun j hj => Nat.le_trans (hl j hj) (by omega)) hz hbw4 hgl (by omega) hgi hlits hli hv
                subst e0
                clear hown hgi
                go_wp2_with (go_at_call 37; refine hfw.mono ?_)
                rintro e w2 ⟨b1, hF, rfl, hb2⟩
                cases b1 with
                | true =>
                  go_wp2
                  case roundEnd =>
                    go_roundw
                    case rel => exact ⟨k + 1, hlt, (by simp), hb2, fun b h => hB b (by rw [hsn]; exact .yes _ _ _ hs0 hF h)⟩
                    case measure => simp [intOf]; omega
                  all_goals exact undef
                | false =>
                  have hR : ByOK (cs.map Cl.zs) (v + 1) zs z W (.returned (.bool false)) w2 := ⟨false, hB false (by rw [hsn]; exact .no _ _ hs0 hF), rfl, hb2⟩
                  go_wp2
                  go_ret
                  exact hR
    · have e0 : k = n := by omega
      subst e0
      have hR : ByOK (cs.map Cl.zs) (v + 1) zs z W (.returned (.bool true)) wr := ⟨true, hB true (by rw [List.drop_of_length_le (by rw [List.length_map]; omega)]; exact .nil), rfl, hbw⟩
      go_wp2
      go_ret
      exact hR
end Go.Proofs.Ytkpppmldbhgcgaa.D
/- Drat: the checker's small functions. -/
set_option autoImplicit false
set_option linter.unusedVariables false
set_option linter.unusedSimpArgs false
namespace Go.Proofs.Ytkpppmldbhgcgaa.D
open Go.Proofs Go
open Go.Shelf Go.RowKit
set_option maxHeartbeats 4000000 in
set_option maxRecDepth 1000000 in
theorem num_walk (x : Int) (w : World) : Calls Try.prog 12 #[.int .i64 x] w fun e w' => e = .returned (.int .i64 x) ∧ w' = w := by
  go_enter Try.func12, Try.ntmps12
  go_wp2
  go_ret
  simp
/-- a literal's place -/
def codeZ (x : Int) : Nat := if x < 0 then 2 * x.natAbs + 1 else 2 * x.natAbs
set_option maxHeartbeats 4000000 in
set_option maxRecDepth 1000000 in
theorem code_walk (x : Int) (h0 : -1000000000 ≤ x) (h1 : x ≤ 1000000000) (w : World) :
    Calls Try.prog 48 #[.int .i64 x] w fun e w' => e = .returned (.int .i64 (codeZ x : Int)) ∧ w' = w := by
  go_enter Try.func48, Try.ntmps48
  by_cases h : x < 0
  · have hc : ((codeZ x : Nat) : Int) = -2 * x + 1 := by unfold codeZ; rw [if_pos h]; omega
    go_wp2
    go_ret
    exact ⟨by first | rfl | (simp [hc]; done) | (rw [hc]; rfl), by trivial⟩
  · have hc : ((codeZ x : Nat) : Int) = 2 * x := by unfold codeZ; rw [if_neg h]; omega
    go_wp2
    go_ret
    exact ⟨by first | rfl | (simp [hc]; done) | (rw [hc]; rfl), by trivial⟩
set_option maxHeartbeats 4000000 in
set_option maxRecDepth 1000000 in
theorem literal_walk (vars x : Int) (v : Value) (w : World) (h0 : -1000000000 ≤ vars) (h1 : vars ≤ 1000000000) :
    Calls Try.prog 23 #[.agg #[.int .i64 vars, v], .int .i64 x] w fun e w' => e = .returned (.bool (fair1 vars x)) ∧ Below w.heap.size w w' := by
  have hb0 := (Below.refl w.heap.size w).alloc (Nat.le_refl _) (.cells #[Value.int .i64 vars, v] 24)
  have hc0 : (w.alloc (.cells #[Value.int .i64 vars, v] 24)).cell? ⟨w.heap.size, 0, none⟩ = some (.int .i64 vars) := (cell_new ..).trans rfl
  go_enter Try.func23, Try.ntmps23
  by_cases hx : x = 0
  · have hF : fair1 vars x = false := by simp [fair1, hx]
    subst hx
    go_wp2
    go_ret
    exact ⟨by first | rfl | (simp [hF]; done) | (rw [hF]; rfl), hb0⟩
  · have hxb : (x != 0) = true := by simp [hx]
    by_cases hv : x ≤ vars
    · by_cases hn : -vars ≤ x
      · have hF : fair1 vars x = true := by simp [fair1, hx]; omega
        go_wp2
        go_ret
        exact ⟨by first | rfl | (simp [hF]; done) | (rw [hF]; rfl), hb0⟩
      · have hF : fair1 vars x = false := by simp [fair1, hx]; omega
        go_wp2
        go_ret
        exact ⟨by first | rfl | (simp [hF]; done) | (rw [hF]; rfl), hb0⟩
    · have hF : fair1 vars x = false := by simp [fair1, hx]; omega
      go_wp2
      go_ret
      exact ⟨by first | rfl | (simp [hF]; done) | (rw [hF]; rfl), hb0⟩
end Go.Proofs.Ytkpppmldbhgcgaa.D

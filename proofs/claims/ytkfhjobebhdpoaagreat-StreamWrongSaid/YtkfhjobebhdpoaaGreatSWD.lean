/- Stream: stream.Run on the program of StreamWrong, as a contract. -/
import Derived.Test.YtkfhjobebhdpoaaGreatW5
import Derived.Test.YtkfhjobebhdpoaaGreatSWA
import Derived.Test.YtkfhjobebhdpoaaGreatSWC
set_option linter.unusedVariables false
set_option autoImplicit false
set_option maxRecDepth 1000000
set_option maxHeartbeats 2000000
set_option linter.unusedVariables false
namespace Go.Proofs.YtkfhjobebhdpoaaGreat
noncomputable section
open Go.X
def hRunW (z : T Blk) (cs : List AV) : H := ⟨mkB z (lapp (rr0W cs []) pW), 8388608⟩
def conAskW (n : Nat) (z : T Blk) (cs : List AV) (g : Nat → CV) : Con := fun args h ds K => (args = [.slc 8388858 0 2 2 false 1, .vs 131073 0 n g] ∧ h.next = 8388859 ∧ lmap (fun a => T.get h.b a) [8388858, 131073] = [some (.row [.int .i64 2, .int .i64 1] 3 true [8388855]), some (.row cs 22 true [])] ∧ zget h.b 12 = z) ∧ K (.int .i64 (Int.ofNat 0)) h ds
theorem zrR_get {l : Nat → Int × Bool × Nat} {n i : Nat} (hi : i < n) : lget (zrR l n) i = some (.slc (zn (l i).2.2) 0 2 2 true 1) := by
  rw [lget_eq]; unfold zrR; rw [List.getElem?_map, List.getElem?_range hi]; rfl
theorem two {α : Type} {a b c d : α} (h : [a, b] = [c, d]) : a = c ∧ b = d := by cases h; exact ⟨rfl, rfl⟩
theorem three {α : Type} {a b e c d f : α} (h : [a, b, e] = [c, d, f]) : a = c ∧ b = d ∧ e = f := by cases h; exact ⟨rfl, rfl, rfl⟩
theorem zin_ok {l : Nat → Int × Bool × Nat} {n : Nat} {z : T Blk} (Zs : ZinW l n z) {M : Nat} (hM : 8388608 ≤ M) : ZoneOK z M := fun x k h => by
  obtain ⟨a, b⟩ := Zs.only x k h
  exact ⟨b, by rw [zn_eq]; omega, by rw [zn_eq]; show _ < 1000000000000; omega⟩
theorem conAskW_good {l : Nat → Int × Bool × Nat} {n : Nat} (hn : n ≤ 1000) {z : T Blk} (Zs : ZinW l n z) (hsm : ∀ j, j < n → -128 ≤ (l j).1 ∧ (l j).1 ≤ 127) (g : Nat → CV) : X.Good (C0.addCon 24 (conAskW n z (zrR l n) g)) Tryz.prog :=
  good0.addCon 24 _ (fun args h ds K hk => ⟨_, _, _, hk.2, Nat.le_refl _, fun K' hk' => ⟨hk.1, hk'⟩⟩) (fun args h ds K hk => by
    obtain ⟨⟨rfl, h1, h2, h3⟩, hk⟩ := hk
    obtain ⟨g1, g2⟩ := two h2
    refine askB_ok (l := fun j => ((l j).1, (l j).2.1)) (sl := fun j => (l j).2.2) (q := n) (cs := zrR l n) (Bx := []) h1 g (by decide) (by decide) (by decide) (by decide) (by decide) (zin_ok Zs (by decide)) ?_ (fun p hp => by cases hp) g1 g2 h3 (fun i hi => zrR_get hi) (fun j hj => ⟨true, Zs.ins j hj⟩) hsm (Nat.le_refl _) hn .ok endW_ok hk
    exact belL_slc _ (fun j => zn (l j).2.2) _ _ _ fun j hj => by have := Zs.slot j (List.mem_range.1 hj); rw [zn_eq]; omega)
def lcRW (l : Nat → Int × Bool × Nat) (n : Nat) (z : T Blk) (g : Nat → CV) : LCon := lcZ (S0 := Unit) (fun _ => True) (lmap (fun p => p.1) (eW n g .nils 0)) (lmap (fun p => p.1) (lapp (rr0W (zrR l n) []) bW0)) (fun _ => SW.st l n z (.s0 g)) (fun _ => (.ext 2, finW l n z))
def CRunW (l : Nat → Int × Bool × Nat) (n : Nat) (z : T Blk) (g : Nat → CV) : Cfg := (C0.addCon 24 (conAskW n z (zrR l n) g)).addLc 14 22 (lcRW l n z g)
theorem runW_key (l : Nat → Int × Bool × Nat) (n : Nat) (z : T Blk) (g : Nat → CV) (K : KV) : xfun (CRunW l n z g) Tryz.prog (xcode (CRunW l n z g) Tryz.prog F) 14 [.agg [.slc 8 0 1 1 false 6], .str 1 102, .vs 131073 0 n g] (hRunW z (zrR l n)) [] K =
    ((([AV.slc 8388858 0 2 2 false 1, .vs 131073 0 n g] = [.slc 8388858 0 2 2 false 1, .vs 131073 0 n g] ∧ 8388859 = 8388859 ∧ [some (Blk.row [.int .i64 2, .int .i64 1] 3 true [8388855]), some (.row (zrR l n) 22 true [])] = [some (Blk.row [.int .i64 2, .int .i64 1] 3 true [8388855]), some (.row (zrR l n) 22 true [])] ∧ z = z) ∧
      ∃ _ : Unit, True ∧ (SW.st l n z (.s0 g)).o0 = (SW.st l n z (.s0 g)).o0 ∧ K (.tup [.slc n0W 0 n n false 1, .int .i64 (Int.ofNat 0)]) (finW l n z).h [])) := by kernel_rfl
theorem runW_ok {l : Nat → Int × Bool × Nat} {n : Nat} (hn1 : 1 ≤ n) (hn : n ≤ 1000) {z : T Blk} (Zs : ZinW l n z) (hsm : ∀ j, j < n → -128 ≤ (l j).1 ∧ (l j).1 ≤ 127) {cap : Nat} {ex : Bool} {ds : List Bool} {K : KV} (hK : K (.tup [.slc n0W 0 n n false 1, .int .i64 (Int.ofNat 0)]) (finW l n z).h ds) :
    CallOK Tryz.prog (fun _ => none) 14 [.agg [.slc 8 0 1 1 false 6], .str 1 102, .slc 131073 0 n cap ex 1] (hRunW z (zrR l n)) K := by
  refine call_args (args2 := [.agg [.slc 8 0 1 1 false 6], .str 1 102, .vs 131073 0 n (fun _ => .sc 0)]) (fun L vs hv => ?_) ?_
  · cases hv with
    | cons _ _ _ _ a b => cases b with
      | cons _ _ _ _ b c => cases c with
        | cons _ _ _ _ c d => exact .cons _ _ _ _ a (.cons _ _ _ _ b (.cons _ _ _ _ (rv_vs c) d))
  · have G : X.Good (CRunW l n z (fun _ => .sc 0)) Tryz.prog := loopW_good (conAskW_good hn Zs hsm _) rfl rfl hn1 hn Zs _
    exact call_ds (ds := ds) (xrun_call G.ok G.spl (fuel := F) (ds := []) (Eq.mpr (runW_key l n z _ _) ⟨⟨rfl, rfl, rfl, rfl⟩, (), trivial, rfl, hK⟩))
end
end Go.Proofs.YtkfhjobebhdpoaaGreat
/- Stream: what stream.Run refuses on the program of StreamWrong. -/
set_option autoImplicit false
set_option maxRecDepth 1000000
set_option maxHeartbeats 2000000
set_option linter.unusedVariables false
namespace Go.Proofs.YtkfhjobebhdpoaaGreat
noncomputable section
open Go.X
def roK (k : Blk) : Blk := match k with
  | .row c e _ _ => .row c e false []
  | k => k
def roL (B : List (Nat × Blk)) : List (Nat × Blk) := lmap (fun p => (p.1, roK p.2)) B
def isRow (k : Blk) : Bool := match k with
  | .row _ _ _ _ => true
  | _ => false
def allRow (B : List (Nat × Blk)) : Bool := List.rec true (fun p _ ih => Bool.and (isRow p.2) ih) B
theorem allRow_get : ∀ {B : List (Nat × Blk)}, allRow B = true → ∀ p ∈ B, isRow p.2 = true
  | [], _, p, h => by cases h
  | q :: B, h, p, hp => by
    obtain ⟨h1, h2⟩ := and_tt (by exact h : Bool.and (isRow q.2) (allRow B) = true)
    rcases List.mem_cons.1 hp with rfl | hp
    · exact h1
    · exact allRow_get h2 p hp
theorem belL_append (N : Nat) : ∀ (xs bs : List AV), belL N xs = true → belL N bs = true → belL N (xs ++ bs) = true
  | [], bs, _, h => h
  | a :: xs, bs, h, h2 => by
    obtain ⟨x, y⟩ := and_tt (by exact h : Bool.and (bel N a) (belL N xs) = true)
    show Bool.and (bel N a) (belL N (xs ++ bs)) = true
    rw [x, belL_append N xs bs y h2]; rfl
/-- what Run sees, where it writes nothing that was -/
def hsB (B : List (Nat × Blk)) (z : T Blk) (N : Nat) : H := ⟨mkB (roT z) (roL B), N⟩
theorem run_ro {C : Cfg} (hC : X.Good C Tryz.prog) (hgl : C.gl = fun _ => none) {f : Nat} {args : List AV} {h : H} {B : List (Nat × Blk)} {z : T Blk} {N : Nat} {V : AV} {ds1 : List Bool} (hN : h.next = N) (hB : lmap (fun p => T.get h.b p.1) B = lmap (fun p => some p.2) B) (hz : zget h.b 12 = z)
    (hzo : ZoneOK z N) (hr : allRow B = true) (hbl : blksN N (roL B) = true) (hb : belL N args = true) (hV : bel 0 V = true)
    (hk : Ran (xfun C Tryz.prog (xcode C Tryz.prog F) f args (hsB B z N) ds1 (fun v _ _ => v = V))) {ds : List Bool} {K : KV} (hK : K V h ds) (hfk : Nat.ble (Nat.succ f) YK = true := by rfl) : CallOK Tryz.prog (fun _ => none) f args h K := by
  subst hN
  refine frame_ro2 hC hgl (h := h) (hs := hsB B z h.next) rfl (fun i k hi => ?_) hb hV hk hK hfk
  rcases mkB_get (z := roT z) (B := roL B) hi with hm | ⟨x, rfl, hg⟩
  · have b1 := (blksN_get hbl _ hm).2
    unfold roL at hm
    rw [lmap_eq] at hm
    obtain ⟨p, hp, e⟩ := List.mem_map.1 hm
    have e1 : p.1 = i := congrArg Prod.fst e
    have e2 : roK p.2 = k := congrArg Prod.snd e
    have g := lmap_inj hB p hp
    have r := allRow_get hr p hp
    subst e1 e2
    cases hk0 : p.2 with
    | row c e wr ps =>
      rw [hk0] at g b1
      exact ⟨b1, c, e, wr, ps, rfl, g⟩
    | _ => rw [hk0] at r; cases r
  · have o := zone_ro hzo x k hg
    rw [roT_get] at hg
    cases hgz : z.get x with
    | none => rw [hgz] at hg; cases hg
    | some k0 =>
      rw [hgz] at hg
      obtain ⟨c, e, wr, ps, rfl, rfl⟩ := roB_some (by exact hg)
      refine ⟨(intRow_ren o.1 id h.next).2, c, e, wr, ps, rfl, ?_⟩
      show h.b.get (zname 12 x) = _
      rw [zget_get, hz]; exact hgz
/-- a node that is not there -/
theorem run0_run (z : T Blk) (n : Nat) (g : Nat → CV) : Ran (xfun C0 Tryz.prog (xcode C0 Tryz.prog F) 14 [.agg [.slc 8 0 1 1 false 6], .str 1 103, .vs 131073 0 n g] (hsB pW z 8388608) [] (fun v _ _ => v = .tup [.nils, .int .i64 (Int.ofNat 21)])) :=
  ⟨Eq.mpr (β := AV.tup [.nils, .int .i64 (Int.ofNat 21)] = .tup [.nils, .int .i64 (Int.ofNat 21)]) (by kernel_rfl) rfl⟩
theorem run5_run (z : T Blk) (g : Nat → CV) : Ran (xfun C0 Tryz.prog (xcode C0 Tryz.prog F) 14 [.agg [.slc 8 0 1 1 false 6], .str 1 102, .vs 131073 0 1001 g] (hsB pW z 8388608) [] (fun v _ _ => v = .tup [.nils, .int .i64 (Int.ofNat 2)])) :=
  ⟨Eq.mpr (β := AV.tup [.nils, .int .i64 (Int.ofNat 2)] = .tup [.nils, .int .i64 (Int.ofNat 2)]) (by kernel_rfl) rfl⟩
/-- rows that are bad: [[1]] -/
def cs1W (n : Nat) (cs : List AV) : List AV := lapp (ltake (ldrop cs 0) (Nat.mul n 1)) [.slc 8388608 0 1 1 true 1]
theorem cs1W_eq {n : Nat} {cs : List AV} (hcs : cs.length = n) : cs1W n cs = cs ++ [.slc 8388608 0 1 1 true 1] := by
  unfold cs1W
  rw [lapp_eq, ltake_eq, ldrop_eq, List.drop_zero, List.take_of_length_le (by rw [hcs]; show n ≤ n * 1; omega)]
theorem cs1W_at {n : Nat} {cs : List AV} (hcs : cs.length = n) : lget (cs1W n cs) n = some (.slc 8388608 0 1 1 true 1) := by
  rw [cs1W_eq hcs, lget_eq, List.getElem?_append_right (by omega), hcs, Nat.sub_self]; rfl
theorem cs1W_lo {n i : Nat} {cs : List AV} (hcs : cs.length = n) (hi : i < n) : lget (cs1W n cs) i = lget cs i := by
  rw [cs1W_eq hcs, lget_eq, lget_eq, List.getElem?_append_left (by omega)]
def B1W (n : Nat) (cs : List AV) : List (Nat × Blk) := ((8388610, .row (cs1W n cs) 22 true [131073]) :: (8388608, .row [.int .i64 1] 3 true []) :: pW)
def conAsk1W (n : Nat) (z : T Blk) (cs : List AV) (g : Nat → CV) : Con := fun args h ds K => (args = [.slc 8388861 0 2 2 false 1, .vs 8388610 0 (n + 1) g] ∧ h.next = 8388862 ∧ lmap (fun a => T.get h.b a) [8388861, 8388610, 8388608] = [some (.row [.int .i64 2, .int .i64 1] 3 true [8388858]), some (.row (cs1W n cs) 22 false []), some (.row [.int .i64 1] 3 false [])] ∧ zget h.b 12 = roT z) ∧ K (.int .i64 (Int.ofNat 23)) h ds
theorem conAsk1W_good {rc : Nat → List Int} {n : Nat} (hn : n ≤ 30) (hrc : ∀ j, j < n → rc j = [Int.ofNat j, Int.ofNat 1]) (g : Nat → CV) : X.Good (C0.addCon 24 (conAsk1W n (zbM rc n n) (zrM rc n n) g)) Tryz.prog :=
  good0.addCon 24 _ (fun args h ds K hk => ⟨_, _, _, hk.2, Nat.le_refl _, fun K' hk' => ⟨hk.1, hk'⟩⟩) (fun args h ds K hk => by
    obtain ⟨⟨rfl, h1, h2, h3⟩, hk⟩ := hk
    obtain ⟨g1, g2, g3⟩ := three h2
    have hcs := zrM_len rc n n
    have gK : (seeW (roT (zbM rc n n)) 8388862 8388861 8388610 (cs1W n (zrM rc n n)) [(8388608, .row [.int .i64 1] 3 false [])]).b.get 8388861 = some (.row [.int .i64 2, .int .i64 1] 3 false []) := T.get_set_same _ _
    have gA : (seeW (roT (zbM rc n n)) 8388862 8388861 8388610 (cs1W n (zrM rc n n)) [(8388608, .row [.int .i64 1] 3 false [])]).b.get 8388610 = some (.row (cs1W n (zrM rc n n)) 22 false []) := by
      kernel_rfl
    have gR : (seeW (roT (zbM rc n n)) 8388862 8388861 8388610 (cs1W n (zrM rc n n)) [(8388608, .row [.int .i64 1] 3 false [])]).b.get 8388608 = some (.row [.int .i64 1] 3 false []) := by
      kernel_rfl
    refine askB_ok (l := fun j => ((j : Int), true)) (sl := slW n) (q := n) (n := n + 1) (cs := cs1W n (zrM rc n n)) (Bx := [(8388608, .row [.int .i64 1] 3 false [])]) h1 g (by decide) (by decide) (by decide) (by decide) (by decide) (zone_ro (zbM_ok (by omega) (by decide))) ?_ ?_ g1 g2 h3 (fun i hi => ?_) (fun j hj => ⟨false, ?_⟩) (fun j hj => ⟨?_, ?_⟩) (by omega) (by omega) (.bad 23) (endW_1 (r := 8388608) (by omega) ⟨1, true, Nat.le_refl _, cellOf_of gA (cs1W_at hcs)⟩) hk
    · rw [cs1W_eq hcs]; exact belL_append _ _ _ (zrM_bel (by omega) (by decide)) rfl
    · intro p hp
      rw [List.mem_singleton.1 hp]
      exact ⟨by show 8388608 < 8388862; decide, by show 8388608 % 4096 ≠ 4095; decide, _, _, _, _, rfl, g3, rfl⟩
    · rw [cs1W_lo hcs hi, zrM_get hi, hrc i hi]; rfl
    · rw [roT_get, (zbM_get rc n n).1 j hj]
      unfold rowI
      rw [hrc j hj]; rfl
    · show (-128 : Int) ≤ (j : Int); omega
    · show (j : Int) ≤ 127; omega)
theorem run1_key (z : T Blk) (cs : List AV) (n : Nat) (g : Nat → CV) (K : AV → Prop) : xfun (C0.addCon 24 (conAsk1W n z cs g)) Tryz.prog (xcode (C0.addCon 24 (conAsk1W n z cs g)) Tryz.prog F) 14 [.agg [.slc 8 0 1 1 false 6], .str 1 102, .vs 8388610 0 (n + 1) g] (hsB (B1W n cs) z 8388611) [] (fun v _ _ => K v) =
    (([AV.slc 8388861 0 2 2 false 1, .vs 8388610 0 (n + 1) g] = [.slc 8388861 0 2 2 false 1, .vs 8388610 0 (n + 1) g] ∧ 8388862 = 8388862 ∧ [some (Blk.row [.int .i64 2, .int .i64 1] 3 true [8388858]), some (.row (cs1W n cs) 22 false []), some (.row [.int .i64 1] 3 false [])] = [some (Blk.row [.int .i64 2, .int .i64 1] 3 true [8388858]), some (.row (cs1W n cs) 22 false []), some (.row [.int .i64 1] 3 false [])] ∧ roT z = roT z) ∧ K (.tup [.nils, .int .i64 (Int.ofNat 23)])) := by kernel_rfl
/-- rows that are bad: [[1, 1, 1], [200, 1]] -/
def cs2W (n : Nat) (cs : List AV) : List AV := lapp (ltake (ldrop cs 0) (Nat.mul n 1)) [.slc 8388608 0 3 3 true 1, .slc 8388609 0 2 2 true 1]
theorem cs2W_eq {n : Nat} {cs : List AV} (hcs : cs.length = n) : cs2W n cs = cs ++ [.slc 8388608 0 3 3 true 1, .slc 8388609 0 2 2 true 1] := by
  unfold cs2W
  rw [lapp_eq, ltake_eq, ldrop_eq, List.drop_zero, List.take_of_length_le (by rw [hcs]; show n ≤ n * 1; omega)]
theorem cs2W_at {n : Nat} {cs : List AV} (hcs : cs.length = n) : lget (cs2W n cs) n = some (.slc 8388608 0 3 3 true 1) := by
  rw [cs2W_eq hcs, lget_eq, List.getElem?_append_right (by omega), hcs, Nat.sub_self]; rfl
theorem cs2W_lo {n i : Nat} {cs : List AV} (hcs : cs.length = n) (hi : i < n) : lget (cs2W n cs) i = lget cs i := by
  rw [cs2W_eq hcs, lget_eq, lget_eq, List.getElem?_append_left (by omega)]
def B2W (n : Nat) (cs : List AV) : List (Nat × Blk) := ((8388611, .row (cs2W n cs) 22 true [131073]) :: (8388608, .row [.int .i64 1, .int .i64 1, .int .i64 1] 3 true []) :: pW)
def conAsk2W (n : Nat) (z : T Blk) (cs : List AV) (g : Nat → CV) : Con := fun args h ds K => (args = [.slc 8388862 0 2 2 false 1, .vs 8388611 0 (n + 2) g] ∧ h.next = 8388863 ∧ lmap (fun a => T.get h.b a) [8388862, 8388611, 8388608] = [some (.row [.int .i64 2, .int .i64 1] 3 true [8388859]), some (.row (cs2W n cs) 22 false []), some (.row [.int .i64 1, .int .i64 1, .int .i64 1] 3 false [])] ∧ zget h.b 12 = roT z) ∧ K (.int .i64 (Int.ofNat 23)) h ds
theorem conAsk2W_good {rc : Nat → List Int} {n : Nat} (hn : n ≤ 30) (hrc : ∀ j, j < n → rc j = [Int.ofNat j, Int.ofNat 1]) (g : Nat → CV) : X.Good (C0.addCon 24 (conAsk2W n (zbM rc n n) (zrM rc n n) g)) Tryz.prog :=
  good0.addCon 24 _ (fun args h ds K hk => ⟨_, _, _, hk.2, Nat.le_refl _, fun K' hk' => ⟨hk.1, hk'⟩⟩) (fun args h ds K hk => by
    obtain ⟨⟨rfl, h1, h2, h3⟩, hk⟩ := hk
    obtain ⟨g1, g2, g3⟩ := three h2
    have hcs := zrM_len rc n n
    have gK : (seeW (roT (zbM rc n n)) 8388863 8388862 8388611 (cs2W n (zrM rc n n)) [(8388608, .row [.int .i64 1, .int .i64 1, .int .i64 1] 3 false [])]).b.get 8388862 = some (.row [.int .i64 2, .int .i64 1] 3 false []) := T.get_set_same _ _
    have gA : (seeW (roT (zbM rc n n)) 8388863 8388862 8388611 (cs2W n (zrM rc n n)) [(8388608, .row [.int .i64 1, .int .i64 1, .int .i64 1] 3 false [])]).b.get 8388611 = some (.row (cs2W n (zrM rc n n)) 22 false []) := by
      kernel_rfl
    have gR : (seeW (roT (zbM rc n n)) 8388863 8388862 8388611 (cs2W n (zrM rc n n)) [(8388608, .row [.int .i64 1, .int .i64 1, .int .i64 1] 3 false [])]).b.get 8388608 = some (.row [.int .i64 1, .int .i64 1, .int .i64 1] 3 false []) := by
      kernel_rfl
    refine askB_ok (l := fun j => ((j : Int), true)) (sl := slW n) (q := n) (n := n + 2) (cs := cs2W n (zrM rc n n)) (Bx := [(8388608, .row [.int .i64 1, .int .i64 1, .int .i64 1] 3 false [])]) h1 g (by decide) (by decide) (by decide) (by decide) (by decide) (zone_ro (zbM_ok (by omega) (by decide))) ?_ ?_ g1 g2 h3 (fun i hi => ?_) (fun j hj => ⟨false, ?_⟩) (fun j hj => ⟨?_, ?_⟩) (by omega) (by omega) (.bad 23) (endW_2 (r := 8388608) (by omega) ⟨3, true, Nat.le_refl _, cellOf_of gA (cs2W_at hcs)⟩) hk
    · rw [cs2W_eq hcs]; exact belL_append _ _ _ (zrM_bel (by omega) (by decide)) rfl
    · intro p hp
      rw [List.mem_singleton.1 hp]
      exact ⟨by show 8388608 < 8388863; decide, by show 8388608 % 4096 ≠ 4095; decide, _, _, _, _, rfl, g3, rfl⟩
    · rw [cs2W_lo hcs hi, zrM_get hi, hrc i hi]; rfl
    · rw [roT_get, (zbM_get rc n n).1 j hj]
      unfold rowI
      rw [hrc j hj]; rfl
    · show (-128 : Int) ≤ (j : Int); omega
    · show (j : Int) ≤ 127; omega)
theorem run2_key (z : T Blk) (cs : List AV) (n : Nat) (g : Nat → CV) (K : AV → Prop) : xfun (C0.addCon 24 (conAsk2W n z cs g)) Tryz.prog (xcode (C0.addCon 24 (conAsk2W n z cs g)) Tryz.prog F) 14 [.agg [.slc 8 0 1 1 false 6], .str 1 102, .vs 8388611 0 (n + 2) g] (hsB (B2W n cs) z 8388612) [] (fun v _ _ => K v) =
    (([AV.slc 8388862 0 2 2 false 1, .vs 8388611 0 (n + 2) g] = [.slc 8388862 0 2 2 false 1, .vs 8388611 0 (n + 2) g] ∧ 8388863 = 8388863 ∧ [some (Blk.row [.int .i64 2, .int .i64 1] 3 true [8388859]), some (.row (cs2W n cs) 22 false []), some (.row [.int .i64 1, .int .i64 1, .int .i64 1] 3 false [])] = [some (Blk.row [.int .i64 2, .int .i64 1] 3 true [8388859]), some (.row (cs2W n cs) 22 false []), some (.row [.int .i64 1, .int .i64 1, .int .i64 1] 3 false [])] ∧ roT z = roT z) ∧ K (.tup [.nils, .int .i64 (Int.ofNat 23)])) := by kernel_rfl
/-- rows that are bad: [[200, 1], [1]] -/
def cs3W (n : Nat) (cs : List AV) : List AV := lapp (ltake (ldrop cs 0) (Nat.mul n 1)) [.slc 8388608 0 2 2 true 1, .slc 8388609 0 1 1 true 1]
theorem cs3W_eq {n : Nat} {cs : List AV} (hcs : cs.length = n) : cs3W n cs = cs ++ [.slc 8388608 0 2 2 true 1, .slc 8388609 0 1 1 true 1] := by
  unfold cs3W
  rw [lapp_eq, ltake_eq, ldrop_eq, List.drop_zero, List.take_of_length_le (by rw [hcs]; show n ≤ n * 1; omega)]
theorem cs3W_at {n : Nat} {cs : List AV} (hcs : cs.length = n) : lget (cs3W n cs) n = some (.slc 8388608 0 2 2 true 1) := by
  rw [cs3W_eq hcs, lget_eq, List.getElem?_append_right (by omega), hcs, Nat.sub_self]; rfl
theorem cs3W_lo {n i : Nat} {cs : List AV} (hcs : cs.length = n) (hi : i < n) : lget (cs3W n cs) i = lget cs i := by
  rw [cs3W_eq hcs, lget_eq, lget_eq, List.getElem?_append_left (by omega)]
def B3W (n : Nat) (cs : List AV) : List (Nat × Blk) := ((8388611, .row (cs3W n cs) 22 true [131073]) :: (8388608, .row [.int .i64 200, .int .i64 1] 3 true []) :: pW)
def conAsk3W (n : Nat) (z : T Blk) (cs : List AV) (g : Nat → CV) : Con := fun args h ds K => (args = [.slc 8388862 0 2 2 false 1, .vs 8388611 0 (n + 2) g] ∧ h.next = 8388863 ∧ lmap (fun a => T.get h.b a) [8388862, 8388611, 8388608] = [some (.row [.int .i64 2, .int .i64 1] 3 true [8388859]), some (.row (cs3W n cs) 22 false []), some (.row [.int .i64 200, .int .i64 1] 3 false [])] ∧ zget h.b 12 = roT z) ∧ K (.int .i64 (Int.ofNat 1)) h ds
theorem conAsk3W_good {rc : Nat → List Int} {n : Nat} (hn : n ≤ 30) (hrc : ∀ j, j < n → rc j = [Int.ofNat j, Int.ofNat 1]) (g : Nat → CV) : X.Good (C0.addCon 24 (conAsk3W n (zbM rc n n) (zrM rc n n) g)) Tryz.prog :=
  good0.addCon 24 _ (fun args h ds K hk => ⟨_, _, _, hk.2, Nat.le_refl _, fun K' hk' => ⟨hk.1, hk'⟩⟩) (fun args h ds K hk => by
    obtain ⟨⟨rfl, h1, h2, h3⟩, hk⟩ := hk
    obtain ⟨g1, g2, g3⟩ := three h2
    have hcs := zrM_len rc n n
    have gK : (seeW (roT (zbM rc n n)) 8388863 8388862 8388611 (cs3W n (zrM rc n n)) [(8388608, .row [.int .i64 200, .int .i64 1] 3 false [])]).b.get 8388862 = some (.row [.int .i64 2, .int .i64 1] 3 false []) := T.get_set_same _ _
    have gA : (seeW (roT (zbM rc n n)) 8388863 8388862 8388611 (cs3W n (zrM rc n n)) [(8388608, .row [.int .i64 200, .int .i64 1] 3 false [])]).b.get 8388611 = some (.row (cs3W n (zrM rc n n)) 22 false []) := by
      kernel_rfl
    have gR : (seeW (roT (zbM rc n n)) 8388863 8388862 8388611 (cs3W n (zrM rc n n)) [(8388608, .row [.int .i64 200, .int .i64 1] 3 false [])]).b.get 8388608 = some (.row [.int .i64 200, .int .i64 1] 3 false []) := by
      kernel_rfl
    refine askB_ok (l := fun j => ((j : Int), true)) (sl := slW n) (q := n) (n := n + 2) (cs := cs3W n (zrM rc n n)) (Bx := [(8388608, .row [.int .i64 200, .int .i64 1] 3 false [])]) h1 g (by decide) (by decide) (by decide) (by decide) (by decide) (zone_ro (zbM_ok (by omega) (by decide))) ?_ ?_ g1 g2 h3 (fun i hi => ?_) (fun j hj => ⟨false, ?_⟩) (fun j hj => ⟨?_, ?_⟩) (by omega) (by omega) (.bad 1) (endW_3 (r := 8388608) (by omega) ⟨2, true, Nat.le_refl _, cellOf_of gA (cs3W_at hcs)⟩ (cellOf_of gR rfl) (cellOf_of gK rfl)) hk
    · rw [cs3W_eq hcs]; exact belL_append _ _ _ (zrM_bel (by omega) (by decide)) rfl
    · intro p hp
      rw [List.mem_singleton.1 hp]
      exact ⟨by show 8388608 < 8388863; decide, by show 8388608 % 4096 ≠ 4095; decide, _, _, _, _, rfl, g3, rfl⟩
    · rw [cs3W_lo hcs hi, zrM_get hi, hrc i hi]; rfl
    · rw [roT_get, (zbM_get rc n n).1 j hj]
      unfold rowI
      rw [hrc j hj]; rfl
    · show (-128 : Int) ≤ (j : Int); omega
    · show (j : Int) ≤ 127; omega)
theorem run3_key (z : T Blk) (cs : List AV) (n : Nat) (g : Nat → CV) (K : AV → Prop) : xfun (C0.addCon 24 (conAsk3W n z cs g)) Tryz.prog (xcode (C0.addCon 24 (conAsk3W n z cs g)) Tryz.prog F) 14 [.agg [.slc 8 0 1 1 false 6], .str 1 102, .vs 8388611 0 (n + 2) g] (hsB (B3W n cs) z 8388612) [] (fun v _ _ => K v) =
    (([AV.slc 8388862 0 2 2 false 1, .vs 8388611 0 (n + 2) g] = [.slc 8388862 0 2 2 false 1, .vs 8388611 0 (n + 2) g] ∧ 8388863 = 8388863 ∧ [some (Blk.row [.int .i64 2, .int .i64 1] 3 true [8388859]), some (.row (cs3W n cs) 22 false []), some (.row [.int .i64 200, .int .i64 1] 3 false [])] = [some (Blk.row [.int .i64 2, .int .i64 1] 3 true [8388859]), some (.row (cs3W n cs) 22 false []), some (.row [.int .i64 200, .int .i64 1] 3 false [])] ∧ roT z = roT z) ∧ K (.tup [.nils, .int .i64 (Int.ofNat 1)])) := by kernel_rfl
/-- rows that are bad: [[1, 2]] -/
def cs4W (n : Nat) (cs : List AV) : List AV := lapp (ltake (ldrop cs 0) (Nat.mul n 1)) [.slc 8388608 0 2 2 true 1]
theorem cs4W_eq {n : Nat} {cs : List AV} (hcs : cs.length = n) : cs4W n cs = cs ++ [.slc 8388608 0 2 2 true 1] := by
  unfold cs4W
  rw [lapp_eq, ltake_eq, ldrop_eq, List.drop_zero, List.take_of_length_le (by rw [hcs]; show n ≤ n * 1; omega)]
theorem cs4W_at {n : Nat} {cs : List AV} (hcs : cs.length = n) : lget (cs4W n cs) n = some (.slc 8388608 0 2 2 true 1) := by
  rw [cs4W_eq hcs, lget_eq, List.getElem?_append_right (by omega), hcs, Nat.sub_self]; rfl
theorem cs4W_lo {n i : Nat} {cs : List AV} (hcs : cs.length = n) (hi : i < n) : lget (cs4W n cs) i = lget cs i := by
  rw [cs4W_eq hcs, lget_eq, lget_eq, List.getElem?_append_left (by omega)]
def B4W (n : Nat) (cs : List AV) : List (Nat × Blk) := ((8388610, .row (cs4W n cs) 22 true [131073]) :: (8388608, .row [.int .i64 1, .int .i64 2] 3 true []) :: pW)
def conAsk4W (n : Nat) (z : T Blk) (cs : List AV) (g : Nat → CV) : Con := fun args h ds K => (args = [.slc 8388861 0 2 2 false 1, .vs 8388610 0 (n + 1) g] ∧ h.next = 8388862 ∧ lmap (fun a => T.get h.b a) [8388861, 8388610, 8388608] = [some (.row [.int .i64 2, .int .i64 1] 3 true [8388858]), some (.row (cs4W n cs) 22 false []), some (.row [.int .i64 1, .int .i64 2] 3 false [])] ∧ zget h.b 12 = roT z) ∧ K (.int .i64 (Int.ofNat 1)) h ds
theorem conAsk4W_good {rc : Nat → List Int} {n : Nat} (hn : n ≤ 30) (hrc : ∀ j, j < n → rc j = [Int.ofNat j, Int.ofNat 1]) (g : Nat → CV) : X.Good (C0.addCon 24 (conAsk4W n (zbM rc n n) (zrM rc n n) g)) Tryz.prog :=
  good0.addCon 24 _ (fun args h ds K hk => ⟨_, _, _, hk.2, Nat.le_refl _, fun K' hk' => ⟨hk.1, hk'⟩⟩) (fun args h ds K hk => by
    obtain ⟨⟨rfl, h1, h2, h3⟩, hk⟩ := hk
    obtain ⟨g1, g2, g3⟩ := three h2
    have hcs := zrM_len rc n n
    have gK : (seeW (roT (zbM rc n n)) 8388862 8388861 8388610 (cs4W n (zrM rc n n)) [(8388608, .row [.int .i64 1, .int .i64 2] 3 false [])]).b.get 8388861 = some (.row [.int .i64 2, .int .i64 1] 3 false []) := T.get_set_same _ _
    have gA : (seeW (roT (zbM rc n n)) 8388862 8388861 8388610 (cs4W n (zrM rc n n)) [(8388608, .row [.int .i64 1, .int .i64 2] 3 false [])]).b.get 8388610 = some (.row (cs4W n (zrM rc n n)) 22 false []) := by
      kernel_rfl
    have gR : (seeW (roT (zbM rc n n)) 8388862 8388861 8388610 (cs4W n (zrM rc n n)) [(8388608, .row [.int .i64 1, .int .i64 2] 3 false [])]).b.get 8388608 = some (.row [.int .i64 1, .int .i64 2] 3 false []) := by
      kernel_rfl
    refine askB_ok (l := fun j => ((j : Int), true)) (sl := slW n) (q := n) (n := n + 1) (cs := cs4W n (zrM rc n n)) (Bx := [(8388608, .row [.int .i64 1, .int .i64 2] 3 false [])]) h1 g (by decide) (by decide) (by decide) (by decide) (by decide) (zone_ro (zbM_ok (by omega) (by decide))) ?_ ?_ g1 g2 h3 (fun i hi => ?_) (fun j hj => ⟨false, ?_⟩) (fun j hj => ⟨?_, ?_⟩) (by omega) (by omega) (.bad 1) (endW_4 (r := 8388608) (by omega) ⟨2, true, Nat.le_refl _, cellOf_of gA (cs4W_at hcs)⟩ (cellOf_of gR rfl) (cellOf_of gK rfl) (cellOf_of gR rfl) (cellOf_of gK rfl)) hk
    · rw [cs4W_eq hcs]; exact belL_append _ _ _ (zrM_bel (by omega) (by decide)) rfl
    · intro p hp
      rw [List.mem_singleton.1 hp]
      exact ⟨by show 8388608 < 8388862; decide, by show 8388608 % 4096 ≠ 4095; decide, _, _, _, _, rfl, g3, rfl⟩
    · rw [cs4W_lo hcs hi, zrM_get hi, hrc i hi]; rfl
    · rw [roT_get, (zbM_get rc n n).1 j hj]
      unfold rowI
      rw [hrc j hj]; rfl
    · show (-128 : Int) ≤ (j : Int); omega
    · show (j : Int) ≤ 127; omega)
theorem run4_key (z : T Blk) (cs : List AV) (n : Nat) (g : Nat → CV) (K : AV → Prop) : xfun (C0.addCon 24 (conAsk4W n z cs g)) Tryz.prog (xcode (C0.addCon 24 (conAsk4W n z cs g)) Tryz.prog F) 14 [.agg [.slc 8 0 1 1 false 6], .str 1 102, .vs 8388610 0 (n + 1) g] (hsB (B4W n cs) z 8388611) [] (fun v _ _ => K v) =
    (([AV.slc 8388861 0 2 2 false 1, .vs 8388610 0 (n + 1) g] = [.slc 8388861 0 2 2 false 1, .vs 8388610 0 (n + 1) g] ∧ 8388862 = 8388862 ∧ [some (Blk.row [.int .i64 2, .int .i64 1] 3 true [8388858]), some (.row (cs4W n cs) 22 false []), some (.row [.int .i64 1, .int .i64 2] 3 false [])] = [some (Blk.row [.int .i64 2, .int .i64 1] 3 true [8388858]), some (.row (cs4W n cs) 22 false []), some (.row [.int .i64 1, .int .i64 2] 3 false [])] ∧ roT z = roT z) ∧ K (.tup [.nils, .int .i64 (Int.ofNat 1)])) := by kernel_rfl
def conRun0W (n : Nat) (z : T Blk) (cs : List AV) : Con := fun args h ds K => (args = [.agg [.slc 8 0 1 1 false 6], .str 1 103, .slc 131073 0 n n false 1] ∧ h.next = 8388608 ∧ lmap (fun p => T.get h.b p.1) pW = lmap (fun p => some p.2) pW ∧ zget h.b 12 = z) ∧ K (.tup [.nils, .int .i64 (Int.ofNat 21)]) h ds
theorem conRun0W_spl (n : Nat) (z : T Blk) (cs : List AV) : ∀ args h ds, Spl h (fun K => conRun0W n z cs args h ds K) := fun args h ds K hk => ⟨_, _, _, hk.2, Nat.le_refl _, fun K' hk' => ⟨hk.1, hk'⟩⟩
theorem conRun0W_ok {rc : Nat → List Int} {n q i : Nat} (hi : i ≤ 1001) (args : List AV) (h : H) (ds : List Bool) (K : KV) (hk : conRun0W n (zbM rc q i) (zrM rc q i) args h ds K) : CallOK Tryz.prog (fun _ => none) 14 args h K := by
  obtain ⟨⟨rfl, h1, h2, h3⟩, hk⟩ := hk
  refine call_args (args2 := [.agg [.slc 8 0 1 1 false 6], .str 1 103, .vs 131073 0 n (fun _ => .sc 0)]) (fun L vs hv => ?_) ?_
  · cases hv with
    | cons _ _ _ _ a b => cases b with
      | cons _ _ _ _ b c => cases c with
        | cons _ _ _ _ c d => exact .cons _ _ _ _ a (.cons _ _ _ _ b (.cons _ _ _ _ (rv_vs c) d))
  · exact run_ro good0 rfl h1 h2 h3 (zbM_ok hi (by decide)) (by kernel_rfl) (by kernel_rfl) (by kernel_rfl) (by kernel_rfl) (run0_run _ _ _) hk
def conRun5W (n : Nat) (z : T Blk) (cs : List AV) : Con := fun args h ds K => (args = [.agg [.slc 8 0 1 1 false 6], .str 1 102, .slc 131073 0 1001 1001 false 1] ∧ h.next = 8388608 ∧ lmap (fun p => T.get h.b p.1) pW = lmap (fun p => some p.2) pW ∧ zget h.b 12 = z) ∧ K (.tup [.nils, .int .i64 (Int.ofNat 2)]) h ds
theorem conRun5W_spl (n : Nat) (z : T Blk) (cs : List AV) : ∀ args h ds, Spl h (fun K => conRun5W n z cs args h ds K) := fun args h ds K hk => ⟨_, _, _, hk.2, Nat.le_refl _, fun K' hk' => ⟨hk.1, hk'⟩⟩
theorem conRun5W_ok {rc : Nat → List Int} {n q i : Nat} (hi : i ≤ 1001) (args : List AV) (h : H) (ds : List Bool) (K : KV) (hk : conRun5W n (zbM rc q i) (zrM rc q i) args h ds K) : CallOK Tryz.prog (fun _ => none) 14 args h K := by
  obtain ⟨⟨rfl, h1, h2, h3⟩, hk⟩ := hk
  refine call_args (args2 := [.agg [.slc 8 0 1 1 false 6], .str 1 102, .vs 131073 0 1001 (fun _ => .sc 0)]) (fun L vs hv => ?_) ?_
  · cases hv with
    | cons _ _ _ _ a b => cases b with
      | cons _ _ _ _ b c => cases c with
        | cons _ _ _ _ c d => exact .cons _ _ _ _ a (.cons _ _ _ _ b (.cons _ _ _ _ (rv_vs c) d))
  · exact run_ro good0 rfl h1 h2 h3 (zbM_ok hi (by decide)) (by kernel_rfl) (by kernel_rfl) (by kernel_rfl) (by kernel_rfl) (run5_run _ _) hk
def conRun1W (n : Nat) (z : T Blk) (cs : List AV) : Con := fun args h ds K => (args = [.agg [.slc 8 0 1 1 false 6], .str 1 102, .slc 8388610 0 (n + 1) (n + 1) false 1] ∧ h.next = 8388611 ∧ lmap (fun p => T.get h.b p.1) (B1W n cs) = lmap (fun p => some p.2) (B1W n cs) ∧ zget h.b 12 = z) ∧ K (.tup [.nils, .int .i64 (Int.ofNat 23)]) h ds
theorem conRun1W_spl (n : Nat) (z : T Blk) (cs : List AV) : ∀ args h ds, Spl h (fun K => conRun1W n z cs args h ds K) := fun args h ds K hk => ⟨_, _, _, hk.2, Nat.le_refl _, fun K' hk' => ⟨hk.1, hk'⟩⟩
theorem blk1W {rc : Nat → List Int} {n : Nat} (hn : n ≤ 30) : blksN 8388611 (roL (B1W n (zrM rc n n))) = true := by
  show Bool.and (Bool.and (Nat.ble (Nat.succ 8388610) 8388611) (belL 8388611 (cs1W n (zrM rc n n)))) (blksN 8388611 (roL ((8388608, .row [.int .i64 1] 3 true []) :: pW))) = true
  rw [cs1W_eq (zrM_len rc n n), belL_append _ _ _ (zrM_bel (by omega) (by decide)) rfl]
  kernel_rfl
theorem conRun1W_ok {rc : Nat → List Int} {n : Nat} (hn : n ≤ 30) (hrc : ∀ j, j < n → rc j = [Int.ofNat j, Int.ofNat 1]) (args : List AV) (h : H) (ds : List Bool) (K : KV) (hk : conRun1W n (zbM rc n n) (zrM rc n n) args h ds K) : CallOK Tryz.prog (fun _ => none) 14 args h K := by
  obtain ⟨⟨rfl, h1, h2, h3⟩, hk⟩ := hk
  refine call_args (args2 := [.agg [.slc 8 0 1 1 false 6], .str 1 102, .vs 8388610 0 (n + 1) (fun _ => .sc 0)]) (fun L vs hv => ?_) ?_
  · cases hv with
    | cons _ _ _ _ a b => cases b with
      | cons _ _ _ _ b c => cases c with
        | cons _ _ _ _ c d => exact .cons _ _ _ _ a (.cons _ _ _ _ b (.cons _ _ _ _ (rv_vs c) d))
  · exact run_ro (conAsk1W_good hn hrc (fun _ => .sc 0)) rfl h1 h2 h3 (zbM_ok (by omega) (by decide)) (by kernel_rfl) (blk1W hn) (by kernel_rfl) (by kernel_rfl) ⟨Eq.mpr (run1_key (zbM rc n n) (zrM rc n n) n (fun _ => .sc 0) (fun v => v = .tup [.nils, .int .i64 (Int.ofNat 23)])) ⟨⟨rfl, rfl, rfl, rfl⟩, rfl⟩⟩ hk
def conRun2W (n : Nat) (z : T Blk) (cs : List AV) : Con := fun args h ds K => (args = [.agg [.slc 8 0 1 1 false 6], .str 1 102, .slc 8388611 0 (n + 2) (n + 2) false 1] ∧ h.next = 8388612 ∧ lmap (fun p => T.get h.b p.1) (B2W n cs) = lmap (fun p => some p.2) (B2W n cs) ∧ zget h.b 12 = z) ∧ K (.tup [.nils, .int .i64 (Int.ofNat 23)]) h ds
theorem conRun2W_spl (n : Nat) (z : T Blk) (cs : List AV) : ∀ args h ds, Spl h (fun K => conRun2W n z cs args h ds K) := fun args h ds K hk => ⟨_, _, _, hk.2, Nat.le_refl _, fun K' hk' => ⟨hk.1, hk'⟩⟩
theorem blk2W {rc : Nat → List Int} {n : Nat} (hn : n ≤ 30) : blksN 8388612 (roL (B2W n (zrM rc n n))) = true := by
  show Bool.and (Bool.and (Nat.ble (Nat.succ 8388611) 8388612) (belL 8388612 (cs2W n (zrM rc n n)))) (blksN 8388612 (roL ((8388608, .row [.int .i64 1, .int .i64 1, .int .i64 1] 3 true []) :: pW))) = true
  rw [cs2W_eq (zrM_len rc n n), belL_append _ _ _ (zrM_bel (by omega) (by decide)) rfl]
  kernel_rfl
theorem conRun2W_ok {rc : Nat → List Int} {n : Nat} (hn : n ≤ 30) (hrc : ∀ j, j < n → rc j = [Int.ofNat j, Int.ofNat 1]) (args : List AV) (h : H) (ds : List Bool) (K : KV) (hk : conRun2W n (zbM rc n n) (zrM rc n n) args h ds K) : CallOK Tryz.prog (fun _ => none) 14 args h K := by
  obtain ⟨⟨rfl, h1, h2, h3⟩, hk⟩ := hk
  refine call_args (args2 := [.agg [.slc 8 0 1 1 false 6], .str 1 102, .vs 8388611 0 (n + 2) (fun _ => .sc 0)]) (fun L vs hv => ?_) ?_
  · cases hv with
    | cons _ _ _ _ a b => cases b with
      | cons _ _ _ _ b c => cases c with
        | cons _ _ _ _ c d => exact .cons _ _ _ _ a (.cons _ _ _ _ b (.cons _ _ _ _ (rv_vs c) d))
  · exact run_ro (conAsk2W_good hn hrc (fun _ => .sc 0)) rfl h1 h2 h3 (zbM_ok (by omega) (by decide)) (by kernel_rfl) (blk2W hn) (by kernel_rfl) (by kernel_rfl) ⟨Eq.mpr (run2_key (zbM rc n n) (zrM rc n n) n (fun _ => .sc 0) (fun v => v = .tup [.nils, .int .i64 (Int.ofNat 23)])) ⟨⟨rfl, rfl, rfl, rfl⟩, rfl⟩⟩ hk
def conRun3W (n : Nat) (z : T Blk) (cs : List AV) : Con := fun args h ds K => (args = [.agg [.slc 8 0 1 1 false 6], .str 1 102, .slc 8388611 0 (n + 2) (n + 2) false 1] ∧ h.next = 8388612 ∧ lmap (fun p => T.get h.b p.1) (B3W n cs) = lmap (fun p => some p.2) (B3W n cs) ∧ zget h.b 12 = z) ∧ K (.tup [.nils, .int .i64 (Int.ofNat 1)]) h ds
theorem conRun3W_spl (n : Nat) (z : T Blk) (cs : List AV) : ∀ args h ds, Spl h (fun K => conRun3W n z cs args h ds K) := fun args h ds K hk => ⟨_, _, _, hk.2, Nat.le_refl _, fun K' hk' => ⟨hk.1, hk'⟩⟩
theorem blk3W {rc : Nat → List Int} {n : Nat} (hn : n ≤ 30) : blksN 8388612 (roL (B3W n (zrM rc n n))) = true := by
  show Bool.and (Bool.and (Nat.ble (Nat.succ 8388611) 8388612) (belL 8388612 (cs3W n (zrM rc n n)))) (blksN 8388612 (roL ((8388608, .row [.int .i64 200, .int .i64 1] 3 true []) :: pW))) = true
  rw [cs3W_eq (zrM_len rc n n), belL_append _ _ _ (zrM_bel (by omega) (by decide)) rfl]
  kernel_rfl
theorem conRun3W_ok {rc : Nat → List Int} {n : Nat} (hn : n ≤ 30) (hrc : ∀ j, j < n → rc j = [Int.ofNat j, Int.ofNat 1]) (args : List AV) (h : H) (ds : List Bool) (K : KV) (hk : conRun3W n (zbM rc n n) (zrM rc n n) args h ds K) : CallOK Tryz.prog (fun _ => none) 14 args h K := by
  obtain ⟨⟨rfl, h1, h2, h3⟩, hk⟩ := hk
  refine call_args (args2 := [.agg [.slc 8 0 1 1 false 6], .str 1 102, .vs 8388611 0 (n + 2) (fun _ => .sc 0)]) (fun L vs hv => ?_) ?_
  · cases hv with
    | cons _ _ _ _ a b => cases b with
      | cons _ _ _ _ b c => cases c with
        | cons _ _ _ _ c d => exact .cons _ _ _ _ a (.cons _ _ _ _ b (.cons _ _ _ _ (rv_vs c) d))
  · exact run_ro (conAsk3W_good hn hrc (fun _ => .sc 0)) rfl h1 h2 h3 (zbM_ok (by omega) (by decide)) (by kernel_rfl) (blk3W hn) (by kernel_rfl) (by kernel_rfl) ⟨Eq.mpr (run3_key (zbM rc n n) (zrM rc n n) n (fun _ => .sc 0) (fun v => v = .tup [.nils, .int .i64 (Int.ofNat 1)])) ⟨⟨rfl, rfl, rfl, rfl⟩, rfl⟩⟩ hk
def conRun4W (n : Nat) (z : T Blk) (cs : List AV) : Con := fun args h ds K => (args = [.agg [.slc 8 0 1 1 false 6], .str 1 102, .slc 8388610 0 (n + 1) (n + 1) false 1] ∧ h.next = 8388611 ∧ lmap (fun p => T.get h.b p.1) (B4W n cs) = lmap (fun p => some p.2) (B4W n cs) ∧ zget h.b 12 = z) ∧ K (.tup [.nils, .int .i64 (Int.ofNat 1)]) h ds
theorem conRun4W_spl (n : Nat) (z : T Blk) (cs : List AV) : ∀ args h ds, Spl h (fun K => conRun4W n z cs args h ds K) := fun args h ds K hk => ⟨_, _, _, hk.2, Nat.le_refl _, fun K' hk' => ⟨hk.1, hk'⟩⟩
theorem blk4W {rc : Nat → List Int} {n : Nat} (hn : n ≤ 30) : blksN 8388611 (roL (B4W n (zrM rc n n))) = true := by
  show Bool.and (Bool.and (Nat.ble (Nat.succ 8388610) 8388611) (belL 8388611 (cs4W n (zrM rc n n)))) (blksN 8388611 (roL ((8388608, .row [.int .i64 1, .int .i64 2] 3 true []) :: pW))) = true
  rw [cs4W_eq (zrM_len rc n n), belL_append _ _ _ (zrM_bel (by omega) (by decide)) rfl]
  kernel_rfl
theorem conRun4W_ok {rc : Nat → List Int} {n : Nat} (hn : n ≤ 30) (hrc : ∀ j, j < n → rc j = [Int.ofNat j, Int.ofNat 1]) (args : List AV) (h : H) (ds : List Bool) (K : KV) (hk : conRun4W n (zbM rc n n) (zrM rc n n) args h ds K) : CallOK Tryz.prog (fun _ => none) 14 args h K := by
  obtain ⟨⟨rfl, h1, h2, h3⟩, hk⟩ := hk
  refine call_args (args2 := [.agg [.slc 8 0 1 1 false 6], .str 1 102, .vs 8388610 0 (n + 1) (fun _ => .sc 0)]) (fun L vs hv => ?_) ?_
  · cases hv with
    | cons _ _ _ _ a b => cases b with
      | cons _ _ _ _ b c => cases c with
        | cons _ _ _ _ c d => exact .cons _ _ _ _ a (.cons _ _ _ _ b (.cons _ _ _ _ (rv_vs c) d))
  · exact run_ro (conAsk4W_good hn hrc (fun _ => .sc 0)) rfl h1 h2 h3 (zbM_ok (by omega) (by decide)) (by kernel_rfl) (blk4W hn) (by kernel_rfl) (by kernel_rfl) ⟨Eq.mpr (run4_key (zbM rc n n) (zrM rc n n) n (fun _ => .sc 0) (fun v => v = .tup [.nils, .int .i64 (Int.ofNat 1)])) ⟨⟨rfl, rfl, rfl, rfl⟩, rfl⟩⟩ hk
end
end Go.Proofs.YtkfhjobebhdpoaaGreat

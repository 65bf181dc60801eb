/- Stream: StreamArrays runs to its end and answers true, whatever the columns are. -/
import Derived.Test.YtkfhjobebhdpoaaGreatRB
import Derived.Test.YtkfhjobebhdpoaaGreatY2
import Derived.Test.YtkfhjobebhdpoaaGreatMB
set_option linter.unusedVariables false
set_option linter.unusedSimpArgs false
set_option autoImplicit false
set_option maxRecDepth 1000000
set_option maxHeartbeats 2000000
set_option linter.unusedVariables false
namespace Go.Proofs.YtkfhjobebhdpoaaGreat
noncomputable section
open Go.X
def conReadyR (d : Nat) : Con := fun args h ds K => args = [.str nAt (vAt d)] ∧ K (ren (shf h.next) VAR) (addAll h (gAR d)) ds
def conRunR (pa : AP) (D : DP) (l : Nat → Int) (n : Nat) : Con := fun args h ds K => (args = [D.pv, .str 1 102, .slc 50 0 n n false 1] ∧ h = (lfinR l pa.d n D.pB).h) ∧ K (.tup [.slc pa.n0 0 n n false 1, .int .i64 (Int.ofNat 0)]) (finR pa (ioA pa.d l) n (zbR (ioA pa.d l) n)).h ds
def conSameR (pa : AP) (l : Nat → Int) (n : Nat) : Con := fun args h ds K => (args = [.slc pa.n0 0 n n false 1, .slc 51 0 n n false 1] ∧ h = (finR pa (ioA pa.d l) n (zbR (ioA pa.d l) n)).h) ∧ K (.bool true) h ds
def valsR (d : Nat) (l : Nat → Int) : Nat → Nat → Int := fun i k => (outA d l i).getD k 0
theorem outA_len (d : Nat) (l : Nat → Int) (j : Nat) : (outA d l j).length = d + 1 := by unfold outA; rw [List.length_append, sumA_len]; rfl
theorem cell_out {d m : Nat} {l : Nat → Int} {i k : Nat} (hm : m = d + 1) (hk : k < m) : lget ((outA d l i).map (AV.int .i64)) k = some (.int .i64 (valsR d l i k)) := by
  subst hm
  have := outA_len d l i
  rw [lget_eq, List.getElem?_map, List.getElem?_eq_getElem (by omega)]
  unfold valsR
  rw [List.getD_eq_getElem?_getD, List.getElem?_eq_getElem (by omega)]; rfl
theorem rowsOutR {pa : AP} (hpa : pa.Ok) (hm : pa.m = pa.d + 1) {l : Nat → Int} {n : Nat} (hn : n ≤ 80) : RowsAre (finR pa (ioA pa.d l) n (zbR (ioA pa.d l) n)).h pa.n0 n pa.m (fun i => zn (300 + i)) (valsR pa.d l) := by
  have lo := hpa.lo
  have hi' := hpa.hi
  intro i hi
  have g1 : T.get (finR pa (ioA pa.d l) n (zbR (ioA pa.d l) n)).h.b pa.n0 = some (.row (zrows 300 pa.m n) 22 true []) := by
    show (mkB (zoR (ioA pa.d l) (zbR (ioA pa.d l) n) n) (rrR pa (zrows 300 pa.m n) (zrows 0 pa.d n) (zrows 100 pa.m n))).get pa.n0 = _
    unfold rrR
    rw [mkB_cons]; exact T.get_set_same _ _
  have g2 : T.get (finR pa (ioA pa.d l) n (zbR (ioA pa.d l) n)).h.b (zn (300 + i)) = some (outR (ioA pa.d l) i) := by
    show (mkB (zoR (ioA pa.d l) (zbR (ioA pa.d l) n) n) (rrR pa (zrows 300 pa.m n) (zrows 0 pa.d n) (zrows 100 pa.m n))).get (zn (300 + i)) = _
    unfold rrR
    rw [mkB_cons, T.get_set_other _ _ _ (by have := hpa.n4; show zn (300 + i) ≠ pa.n0; rw [zn_eq]; omega), mkB_cons, T.get_set_other _ _ _ (by show zn (300 + i) ≠ 50; rw [zn_eq]; omega), mkB_cons, T.get_set_other _ _ _ (by show zn (300 + i) ≠ 51; rw [zn_eq]; omega), zput_zn]
    exact zgrow_new hi
  exact ⟨⟨pa.m, false, Nat.le_refl _, cellOf_of g1 (zrows_get hi)⟩, fun k hk => cellOf_of g2 (cell_out hm hk)⟩
theorem rowsWantR {pa : AP} (hpa : pa.Ok) (hm : pa.m = pa.d + 1) {l : Nat → Int} {n : Nat} (hn : n ≤ 80) : RowsAre (finR pa (ioA pa.d l) n (zbR (ioA pa.d l) n)).h 51 n pa.m (fun i => zn (100 + i)) (valsR pa.d l) := by
  have lo := hpa.lo
  intro i hi
  have g1 : T.get (finR pa (ioA pa.d l) n (zbR (ioA pa.d l) n)).h.b 51 = some (.row (zrows 100 pa.m n) 22 true []) := by
    show (mkB (zoR (ioA pa.d l) (zbR (ioA pa.d l) n) n) (rrR pa (zrows 300 pa.m n) (zrows 0 pa.d n) (zrows 100 pa.m n))).get 51 = _
    unfold rrR
    rw [mkB_cons, T.get_set_other _ _ _ (by show 51 ≠ pa.n0; omega), mkB_cons, T.get_set_other _ _ _ (by show 51 ≠ 50; decide), mkB_cons]; exact T.get_set_same _ _
  have g2 : T.get (finR pa (ioA pa.d l) n (zbR (ioA pa.d l) n)).h.b (zn (100 + i)) = some (outR (ioA pa.d l) i) := by
    show (mkB (zoR (ioA pa.d l) (zbR (ioA pa.d l) n) n) (rrR pa (zrows 300 pa.m n) (zrows 0 pa.d n) (zrows 100 pa.m n))).get (zn (100 + i)) = _
    unfold rrR
    rw [mkB_cons, T.get_set_other _ _ _ (by have := hpa.n4; show zn (100 + i) ≠ pa.n0; rw [zn_eq]; omega), mkB_cons, T.get_set_other _ _ _ (by show zn (100 + i) ≠ 50; rw [zn_eq]; omega), mkB_cons, T.get_set_other _ _ _ (by show zn (100 + i) ≠ 51; rw [zn_eq]; omega), zput_zn, zoR_low (by omega)]
    exact (zbR_get (ioA pa.d l) n hn).2.1 i hi
  exact ⟨⟨pa.m, false, Nat.le_refl _, cellOf_of g1 (zrows_get hi)⟩, fun k hk => cellOf_of g2 (cell_out hm hk)⟩
theorem finR_hc {pa : AP} (hpa : pa.Ok) {l : Nat → Int} {n : Nat} (hn : n ≤ 80) : HC (finR pa (ioA pa.d l) n (zbR (ioA pa.d l) n)).h := by
  have : ZS.ok (finR pa (ioA pa.d l) n (zbR (ioA pa.d l) n)) 2097152 := ⟨rfl, sl_f hpa n, blksN_row (by have := hpa.hi; show pa.n0 < 2097152; omega) (belR_O hn) (blksN_row (by decide) (belR_I hn) (blksN_row (by decide) (belR_W hn) rfl)), zoR_ok (zbR_in hn) hn⟩
  exact this.hc
/-- the contracts of a run of the law -/
def CL1R (d : Nat) : Cfg := (C1.addCon 12 conTrue).addCon 13 (conReadyR d)
def CL2R (pa : AP) (D : DP) (l : Nat → Int) (n : Nat) : Cfg := ((CL1R pa.d).addCon 14 (conRunR pa D l n)).addCon 16 (conSameR pa l n)
def CL3R (pa : AP) (D : DP) (te : TypeId) (l : Nat → Int) (len n : Nat) : Cfg := (CL2R pa D l n).addLc 7 11 (lcZ (S0 := Unit) (fun _ => True) (lmap (fun p => p.1) (ls0R te l len pa.d D.pB).E) (lmap (fun p => p.1) (ls0R te l len pa.d D.pB).B) (fun _ => ls0R te l len pa.d D.pB) (fun _ => (.ext 0, lfinR l pa.d n D.pB)))
theorem CL1R_good {d : Nat} (h1 : 1 ≤ d) (h8 : d ≤ 8) : X.Good (CL1R d) Tryz.prog :=
  (good1.addCon 12 conTrue conTrue_spl (conTrue_ok alive_true)).addCon 13 (conReadyR d) (fun args h ds K hk => ⟨_, _, _, hk.2, by show h.next ≤ h.next + llen (gAR d); omega, fun K' hk' => ⟨hk.1, hk'⟩⟩) (fun args h ds K hk => by obtain ⟨rfl, hk⟩ := hk; exact readyAR_ok h1 h8 hk)
/-- all that the kernel tells of d columns -/
structure AllRes (pa : AP) (D : DP) (df ds : List Bool) : Prop where
  ok : pa.Ok
  hm : pa.m = pa.d + 1
  dok : D.Ok pa.d
  ask : AskEq pa.d
  same : SameEq pa.m
  loop : LRes pa.d D.pB df ds
  runs : ∀ (l : Nat → Int) (n : Nat), n ≤ 80 → ∃ R : Runs pa (ioA pa.d l) n, RunKey D R
variable {pa : AP} {D : DP} {df ds : List Bool}
theorem CL2R_good (A : AllRes pa D df ds) {l : Nat → Int} {n : Nat} (hn1 : 1 ≤ n) (hn : n ≤ 80) : X.Good (CL2R pa D l n) Tryz.prog := by
  obtain ⟨R, hR⟩ := A.runs l n hn
  refine ((CL1R_good A.loop.hd1 A.loop.hd8).addCon 14 (conRunR pa D l n) (fun args h ds K hk => ⟨_, _, _, hk.2, by rw [hk.1.2]; show 1048576 ≤ 2097152; decide, fun K' hk' => ⟨hk.1, hk'⟩⟩) (fun args h ds K hk => ?_)).addCon 16 (conSameR pa l n) (fun args h ds K hk => ⟨_, _, _, hk.2, Nat.le_refl _, fun K' hk' => ⟨hk.1, hk'⟩⟩) (fun args h ds K hk => ?_)
  · obtain ⟨⟨rfl, rfl⟩, hk⟩ := hk
    have := runR_ok (cap := n) (ex := false) A.ok A.dok A.ask R hR (fun j x hx => inA_small pa.d l j x hx) hn1 hn (zbR_in hn) hk
    unfold hRunR at this
    rw [A.hm] at this
    exact this
  · obtain ⟨⟨rfl, rfl⟩, hk⟩ := hk
    refine call_args (args2 := [.vs pa.n0 0 n (fun i => .row (zn (300 + i)) pa.m (valsR pa.d l i)), .vs 51 0 n (fun i => .row (zn (100 + i)) pa.m (valsR pa.d l i))]) (fun L vs hv => ?_) ?_
    · cases hv with
      | cons _ _ _ _ a b => cases b with
        | cons _ _ _ _ b c => exact .cons _ _ _ _ (rv_vs a) (.cons _ _ _ _ (rv_vs b) c)
    · exact sameR_ok A.same (finR_hc A.ok hn) (A := pa.n0) (B := 51) (by have := A.ok.hi; show pa.n0 < 2097152; omega) (by show 51 < 2097152; decide) (rowsOutR A.ok A.hm hn) (rowsWantR A.ok A.hm hn) (by omega) hk
theorem CL3R_good (A : AllRes pa D df ds) (te : TypeId) {l : Nat → Int} {len n : Nat} (hn1 : 1 ≤ n) (hl1 : n * pa.d ≤ len) (hl2 : len < n * pa.d + pa.d) (hl3 : len ≤ 80) : X.Good (CL3R pa D te l len n) Tryz.prog := by
  have hn : n ≤ 80 := Nat.le_trans (by have := Nat.mul_le_mul_left n A.loop.hd1; omega) hl3
  exact lawLoopR_good A.loop (CL2R_good A hn1 hn) rfl rfl te hn1 hn hl1 hl2 hl3
def hLawR (te : TypeId) (l : Nat → Int) (len : Nat) : H := ⟨T.set T.leaf (.pur (pvI l) len te) 0, 8⟩
/-- the law's run, as the kernel tells it -/
def LawKey (pa : AP) (D : DP) : Prop := ∀ (te : TypeId) (l : Nat → Int) (len n : Nat) (K : AV → Prop), xfun (CL3R pa D te l len n) Tryz.prog (xcode (CL3R pa D te l len n) Tryz.prog F) 7 [.slc 0 0 len len false 1, .int .i64 (Int.ofNat pa.d)] (hLawR te l len) [] (fun v _ _ => K v) =
    (bcase (ltI (Int.ofNat 80) (Int.ofNat len)) (K (.bool true)) ([AV.str nAt (vAt pa.d)] = [.str nAt (vAt pa.d)] ∧ ∃ _ : Unit, True ∧ (ls0R te l len pa.d D.pB).o0 = (ls0R te l len pa.d D.pB).o0 ∧
      (([D.pv, AV.str 1 102, .slc 50 0 n n false 1] = [D.pv, .str 1 102, .slc 50 0 n n false 1] ∧ (lfinR l pa.d n D.pB).h = (lfinR l pa.d n D.pB).h) ∧
        (([AV.slc pa.n0 0 n n false 1, .slc 51 0 n n false 1] = [.slc pa.n0 0 n n false 1, .slc 51 0 n n false 1] ∧ (finR pa (ioA pa.d l) n (zbR (ioA pa.d l) n)).h = (finR pa (ioA pa.d l) n (zbR (ioA pa.d l) n)).h) ∧ K (.bool true)))))
theorem lawR_run (hk : LawKey pa D) (te : TypeId) {l : Nat → Int} {len n : Nat} (hl3 : len ≤ 80) : Ran (xfun (CL3R pa D te l len n) Tryz.prog (xcode (CL3R pa D te l len n) Tryz.prog F) 7 [.slc 0 0 len len false 1, .int .i64 (Int.ofNat pa.d)] (hLawR te l len) [] (fun v _ _ => v = .bool true)) :=
  ⟨Eq.mpr (hk te l len n (fun v => v = .bool true)) (bcase_ff (by rw [ltI_eq]; simp; omega) ⟨rfl, (), trivial, rfl, ⟨rfl, rfl⟩, ⟨rfl, rfl⟩, rfl⟩)⟩
end
end Go.Proofs.YtkfhjobebhdpoaaGreat
/- Stream: what the rounds of Run's loop ask (StreamArrays), in short words. -/
set_option autoImplicit false
set_option maxRecDepth 1000000
set_option maxHeartbeats 2000000
set_option linter.unusedVariables false
namespace Go.Proofs.YtkfhjobebhdpoaaGreat
noncomputable section
open Go.X
def gI (l : List Int) (k : Nat) : Int := Option.rec 0 (fun x => x) (lget l k)
def zm (a : Int) : Int := wrapF .i8 (a * 3)
def zs (a x : Int) : Int := wrapF .i8 (a + x)
def q0 (x0 : Int) : Int := zs 3 x0
def q1 (x0 x1 : Int) : Int := zs (zm (q0 x0)) x1
def q2 (x0 x1 x2 : Int) : Int := zs (zm (q1 x0 x1)) x2
def q3 (x0 x1 x2 x3 : Int) : Int := zs (zm (q2 x0 x1 x2)) x3
def q4 (x0 x1 x2 x3 x4 : Int) : Int := zs (zm (q3 x0 x1 x2 x3)) x4
def q5 (x0 x1 x2 x3 x4 x5 : Int) : Int := zs (zm (q4 x0 x1 x2 x3 x4)) x5
def q6 (x0 x1 x2 x3 x4 x5 x6 : Int) : Int := zs (zm (q5 x0 x1 x2 x3 x4 x5)) x6
def q7 (x0 x1 x2 x3 x4 x5 x6 x7 : Int) : Int := zs (zm (q6 x0 x1 x2 x3 x4 x5 x6)) x7
theorem zs_c (x a : Int) : zs x a = wrapF .i8 (a + x) := by unfold zs; rw [Int.add_comm]
theorem wr8_eq (n : Int) : wrapF .i8 n = (n + 128) % 256 - 128 := by
  have e : wrapF .i8 n = wrapQ .i8 n := by rw [wrapF_eq, wrapQ_eq]
  have e2 : wrapQ .i8 n = sWr 256 128 n := rfl
  rw [e, e2, sWr_eq _ _ _ (by decide)]
  split <;> omega
theorem mix_eq (q x : Int) : zs (zm q) x = wrapF .i8 (3 * q + x) := by
  unfold zs zm
  rw [wr8_eq, wr8_eq, wr8_eq]
  omega
theorem mq0 (x0 : Int) : mixA 1 [x0] = q0 x0 := rfl
theorem mixA_snoc : ∀ (l : List Int) (z x : Int), mixA z (l ++ [x]) = wrapF .i8 (3 * mixA z l + x)
  | [], z, x => rfl
  | y :: l, z, x => mixA_snoc l _ x
theorem mq1 (x0 x1 : Int) : mixA 1 [x0, x1] = q1 x0 x1 := by unfold q1; rw [mix_eq, ← mq0]; exact mixA_snoc [x0] 1 x1
theorem mq2 (x0 x1 x2 : Int) : mixA 1 [x0, x1, x2] = q2 x0 x1 x2 := by unfold q2; rw [mix_eq, ← mq1]; exact mixA_snoc [x0, x1] 1 x2
theorem mq3 (x0 x1 x2 x3 : Int) : mixA 1 [x0, x1, x2, x3] = q3 x0 x1 x2 x3 := by unfold q3; rw [mix_eq, ← mq2]; exact mixA_snoc [x0, x1, x2] 1 x3
theorem mq4 (x0 x1 x2 x3 x4 : Int) : mixA 1 [x0, x1, x2, x3, x4] = q4 x0 x1 x2 x3 x4 := by unfold q4; rw [mix_eq, ← mq3]; exact mixA_snoc [x0, x1, x2, x3] 1 x4
theorem mq5 (x0 x1 x2 x3 x4 x5 : Int) : mixA 1 [x0, x1, x2, x3, x4, x5] = q5 x0 x1 x2 x3 x4 x5 := by unfold q5; rw [mix_eq, ← mq4]; exact mixA_snoc [x0, x1, x2, x3, x4] 1 x5
theorem mq6 (x0 x1 x2 x3 x4 x5 x6 : Int) : mixA 1 [x0, x1, x2, x3, x4, x5, x6] = q6 x0 x1 x2 x3 x4 x5 x6 := by unfold q6; rw [mix_eq, ← mq5]; exact mixA_snoc [x0, x1, x2, x3, x4, x5] 1 x6
theorem mq7 (x0 x1 x2 x3 x4 x5 x6 x7 : Int) : mixA 1 [x0, x1, x2, x3, x4, x5, x6, x7] = q7 x0 x1 x2 x3 x4 x5 x6 x7 := by unfold q7; rw [mix_eq, ← mq6]; exact mixA_snoc [x0, x1, x2, x3, x4, x5, x6] 1 x7
/-- a small number -/
def I8 (x : Int) : Prop := -128 ≤ x ∧ x ≤ 127
theorem i8_zs (a x : Int) : I8 (zs a x) := wr8 _
theorem i8_zm (a : Int) : I8 (zm a) := wr8 _
theorem i8_3 : I8 3 := by unfold I8; omega
theorem i8_0 : I8 0 := by unfold I8; omega
theorem i8_xA (l : Nat → Int) (i : Nat) : I8 (xA l i) := wr8 _
/- what is asked -/
def cE (v : Int) (t : Prop) : Prop := (AV.int .i64 v = AV.int .i64 v) ∧ t
def cW (x : Int) (t : Prop) : Prop := bcase (inR .i64 (wrapF .i8 x)) t False
def cU (x : Int) (t : Prop) : Prop := bcase (dcq true (eqI (wrapF .i8 x) x)) t False
def cZ (x : Int) (t : Prop) : Prop := bcase (inR .i64 x) t False
def cA (a x : Int) (t : Prop) : Prop := bcase (inR .i64 (a + x)) t False
def cM (a : Int) (t : Prop) : Prop := bcase (inR .i64 (a * 3)) t False
def cI (a : Int) (t : Prop) : Prop := bcase (inR .i64 (a + 1)) t False
def cN (a : Int) (t : Prop) : Prop := bcase (dcq false (eqI a (a + 1))) t False
def cQ (a : Int) (t : Prop) : Prop := bcase (dcq true (eqI (a + 1) (a + 1))) t False
/-- a tick's test of the time -/
def cT (a : Int) (t : Prop) : Prop := cI a (cN a (cN a (cQ a t)))
/-- a sum -/
def cS (x a : Int) (t : Prop) : Prop := cW x (cU x (cW a (cU a (cA x a (cZ (zs x a) t)))))
variable {t : Prop}
theorem cE_ok {v : Int} (h : t) : cE v t := ⟨rfl, h⟩
theorem cW_ok {x : Int} (h : t) : cW x t := bcase_tt (inR_wr8 _) h
theorem cU_ok {x : Int} (hx : I8 x) (h : t) : cU x t := by
  refine bcase_tt (dcq_eq ?_) h
  have := hx.1
  have := hx.2
  rw [wr8_eq]; omega
theorem cZ_ok {x : Int} (hx : I8 x) (h : t) : cZ x t := bcase_tt (inR_i64 (by have := hx.1; omega) (by have := hx.2; omega)) h
theorem cA_ok {a x : Int} (ha : I8 a) (hx : I8 x) (h : t) : cA a x t := bcase_tt (inR_i64 (by have := hx.1; have := ha.1; omega) (by have := hx.2; have := ha.2; omega)) h
theorem cM_ok {a : Int} (ha : I8 a) (h : t) : cM a t := bcase_tt (inR_i64 (by have := ha.1; omega) (by have := ha.2; omega)) h
theorem cI_ok {a : Int} (ha : 0 ≤ a ∧ a ≤ 1000) (h : t) : cI a t := bcase_tt (inR_i64 (by have := ha.1; omega) (by have := ha.2; omega)) h
theorem cN_ok {a : Int} (h : t) : cN a t := bcase_tt (dcq_ne (by omega)) h
theorem cQ_ok {a : Int} (h : t) : cQ a t := bcase_tt (dcq_eq rfl) h
theorem cT_ok {a : Int} (ha : 0 ≤ a ∧ a ≤ 1000) (h : t) : cT a t := cI_ok ha (cN_ok (cN_ok (cQ_ok h)))
theorem cS_ok {x a : Int} (hx : I8 x) (ha : I8 a) (h : t) : cS x a t := cW_ok (cU_ok hx (cW_ok (cU_ok ha (cA_ok hx ha (cZ_ok (i8_zs _ _) h)))))
/-- Ask's residue, over a function -/
def AskEqF (d : Nat) : Prop := ∀ (h : H) (A KN n i r : Nat) (f : Nat → Int) (Kv : XE → H → List (Option AV) → List (Option AV) → Prop),
  xcode C1 Tryz.prog F 24 (loopC Tryz.prog 24 5) (mask 24) (tmpsN Tryz.prog 24) (mkE (kER d KN A n i (gRow r d ((List.range d).map f)))) h [] (fun x env h ds => Kv x h (sl [0, 4, 12, 13, 14] env) (sl [4] env)) =
    (bcase (ltI (Int.ofNat i) (Int.ofNat n)) (bcase (inB (Int.ofNat i) n) (cellIs h A (Nat.add 0 (Nat.mul (Int.toNat (Int.ofNat i)) 1)) (.row r d (fun k => Option.rec 0 (fun x => x) (lget ((List.range d).map f) k))) ∧
      askC h r KN (bcase (inR .i64 (Int.ofNat i + Int.ofNat 1)) (Kv .nrm h (slx (kER d KN A n (i + 1) (gRow r d ((List.range d).map f)))) [some (.int .i64 (Int.ofNat 0))]) False)
        (Kv .ret h [some (.vs KN 0 d gkR), some (.int .i64 (Int.ofNat 1)), some (.vs A 0 n (gRow r d ((List.range d).map f))), some (.int .i64 (Int.ofNat n)), some (.int .i64 (Int.ofNat i))] [some (.int .i64 (Int.ofNat 1))]) ((List.range d).map f) 0) False)
      (Kv (.ext 0) h (slx (kER d KN A n i (gRow r d ((List.range d).map f)))) [some (.int .i64 (Int.ofNat 0))]))
theorem list_fun {d : Nat} {xs : List Int} (h : xs.length = d) : xs = (List.range d).map fun k => xs.getD k 0 := by
  refine List.ext_getElem (by simp [h]) fun k h1 h2 => ?_
  rw [List.getElem_map, List.getElem_range, List.getD_eq_getElem?_getD, List.getElem?_eq_getElem h1]; rfl
theorem AskEqF.ask {d : Nat} (h : AskEqF d) : AskEq d := by
  intro hh A KN n i r xs hx Kv
  have := h hh A KN n i r (fun k => xs.getD k 0) Kv
  rwa [← list_fun hx] at this
/-- the program of d columns -/
def pBA (d : Nat) : List (Nat × Blk) := (28, .row [.slc 8 0 3 3 false 6] 26 true []) :: pFrom (gAR d) 8
def pvA : AV := .agg [.slc 8 0 3 3 false 6]
def dpA (d : Nat) : DP := ⟨pBA d, pvA, 1049472 + 2 * d, 1049473 + 2 * d, (List.range d).map fun _ => .int .i64 (Int.ofNat 2), cond (Nat.beq d 1) [] [1049470 + 2 * d]⟩
theorem dpA_ok {d : Nat} (h8 : d ≤ 8) : (dpA d).Ok d where
  kn1 := by show 1049472 + 2 * d < 1049473 + 2 * d; omega
  kx1 := by show 1000000 ≤ 1049473 + 2 * d; omega
  kn2 := by show 1049472 + 2 * d ≠ 50; omega
  kn3 := by show (1049472 + 2 * d) % 4096 ≠ 4095; omega
  kl1 := by
    have : ((List.range d).map fun _ => AV.int .i64 (Int.ofNat 2)) = ints ((List.range d).map fun _ => 2) := by unfold ints; rw [List.map_map]; rfl
    show belL _ ((List.range d).map fun _ => AV.int .i64 (Int.ofNat 2)) = true
    rw [this]; exact belL_ints _ _
  kl2 := fun k hk => by
    show lget ((List.range d).map fun _ => AV.int .i64 (Int.ofNat 2)) k = _
    rw [lget_eq, List.getElem?_map, List.getElem?_range hk]; rfl
/- fewer numbers than columns: Run at no tick -/
def Run0Key (d : Nat) : Prop := ∀ K : AV → Prop, xfun C0 Tryz.prog (xcode C0 Tryz.prog F) 14 [pvA, .str 1 102, .nils] (hsB (pFrom (gAR d) 8) T.leaf 30) [] (fun v _ _ => K v) = K (.tup [.nils, .int .i64 (Int.ofNat 0)])
def conRun0 (d : Nat) : Con := fun args h ds K => (args = [pvA, .str 1 102, .nils] ∧ h.next = 30 ∧ lmap (fun p => T.get h.b p.1) (pFrom (gAR d) 8) = lmap (fun p => some p.2) (pFrom (gAR d) 8) ∧ zget h.b 12 = T.leaf) ∧ K (.tup [.nils, .int .i64 (Int.ofNat 0)]) h ds
def CFew (d : Nat) : Cfg := (CL1R d).addCon 14 (conRun0 d)
theorem CFew_good {d : Nat} (h1 : 1 ≤ d) (h8 : d ≤ 8) (hk : Run0Key d) (hr : allRow (pFrom (gAR d) 8) = true) (hb : blksN 30 (roL (pFrom (gAR d) 8)) = true) : X.Good (CFew d) Tryz.prog :=
  (CL1R_good h1 h8).addCon 14 (conRun0 d) (fun args h ds K hk => ⟨_, _, _, hk.2, Nat.le_refl _, fun K' hk' => ⟨hk.1, hk'⟩⟩) (fun args h ds K hk2 => by
    obtain ⟨⟨rfl, a, b, c⟩, hk2⟩ := hk2
    exact run_ro good0 rfl a b c (fun x k h => by cases h) hr hb rfl rfl (ds1 := []) ⟨Eq.mpr (hk fun v => v = .tup [.nils, .int .i64 (Int.ofNat 0)]) rfl⟩ hk2)
def run0Args (d : Nat) : Prop := [pvA, AV.str 1 102, .nils] = [pvA, .str 1 102, .nils] ∧ 30 = 30 ∧ lmap (fun p => some p.2) (pFrom (gAR d) 8) = lmap (fun p => some p.2) (pFrom (gAR d) 8) ∧ T.leaf = (T.leaf : T Blk)
def FewKey (d : Nat) : Prop := ∀ (te : TypeId) (l : Nat → Int) (len : Nat) (K : AV → Prop), xfun (CFew d) Tryz.prog (xcode (CFew d) Tryz.prog F) 7 [.slc 0 0 len len false 1, .int .i64 (Int.ofNat d)] (hLawR te l len) [false, false, false, true, true, true, true, true] (fun v _ _ => K v) =
    (bcase (dcq false (ltI (Int.ofNat 80) (Int.ofNat len))) ([AV.str nAt (vAt d)] = [.str nAt (vAt d)] ∧ bcase (dcq true (ltI (Int.ofNat len) (Int.ofNat 0 + Int.ofNat d))) (run0Args d ∧ K (.bool true)) False) False)
def NoneKey (d : Nat) : Prop := ∀ (K : AV → Prop), xfun (CFew d) Tryz.prog (xcode (CFew d) Tryz.prog F) 7 [.emp, .int .i64 (Int.ofNat d)] ⟨T.leaf, 8⟩ [] (fun v _ _ => K v) = ([AV.str nAt (vAt d)] = [.str nAt (vAt d)] ∧ (run0Args d ∧ K (.bool true)))
theorem few_run {d : Nat} (hk : FewKey d) (te : TypeId) {l : Nat → Int} {len : Nat} (hl : len < d) (h80 : len ≤ 80) : Ran (xfun (CFew d) Tryz.prog (xcode (CFew d) Tryz.prog F) 7 [.slc 0 0 len len false 1, .int .i64 (Int.ofNat d)] (hLawR te l len) [false, false, false, true, true, true, true, true] (fun v _ _ => v = .bool true)) :=
  ⟨Eq.mpr (hk te l len (fun v => v = .bool true)) (bcase_tt (dcq_ge (by simp only [Int.ofNat_eq_natCast]; omega)) ⟨rfl, bcase_tt (dcq_lt (by simp only [Int.ofNat_eq_natCast]; omega)) ⟨⟨rfl, rfl, rfl, rfl⟩, rfl⟩⟩)⟩
theorem none_run {d : Nat} (hk : NoneKey d) : Ran (xfun (CFew d) Tryz.prog (xcode (CFew d) Tryz.prog F) 7 [.emp, .int .i64 (Int.ofNat d)] ⟨T.leaf, 8⟩ [] (fun v _ _ => v = .bool true)) :=
  ⟨Eq.mpr (hk (fun v => v = .bool true)) ⟨rfl, ⟨rfl, rfl, rfl, rfl⟩, rfl⟩⟩
/- what is not played -/
theorem lowA_key (n : Int) (K : AV → Prop) : xfun (CL1R 1) Tryz.prog (xcode (CL1R 1) Tryz.prog F) 7 [.any, .int .i64 n] hNil [true] (fun v _ _ => K v) = (bcase (dcq true (ltI n 1)) (K (.bool true)) False) := by kernel_rfl
theorem lowA_run {n : Int} (hn : n < 1) : Ran (xfun (CL1R 1) Tryz.prog (xcode (CL1R 1) Tryz.prog F) 7 [.any, .int .i64 n] hNil [true] (fun v _ _ => v = .bool true)) :=
  ⟨Eq.mpr (lowA_key n (fun v => v = .bool true)) (bcase_tt (dcq_lt hn) rfl)⟩
theorem highA_key (n : Int) (K : AV → Prop) : xfun (CL1R 1) Tryz.prog (xcode (CL1R 1) Tryz.prog F) 7 [.any, .int .i64 n] hNil [false, true] (fun v _ _ => K v) = (bcase (dcq false (ltI n 1)) (bcase (dcq true (ltI 8 n)) (K (.bool true)) False) False) := by kernel_rfl
theorem highA_run {n : Int} (hn : 8 < n) : Ran (xfun (CL1R 1) Tryz.prog (xcode (CL1R 1) Tryz.prog F) 7 [.any, .int .i64 n] hNil [false, true] (fun v _ _ => v = .bool true)) :=
  ⟨Eq.mpr (highA_key n (fun v => v = .bool true)) (bcase_tt (dcq_ge (by omega)) (bcase_tt (dcq_lt hn) rfl))⟩
theorem longA_key (te : TypeId) (l : Nat → Int) (len : Nat) (n : Int) (K : AV → Prop) : xfun (CL1R 1) Tryz.prog (xcode (CL1R 1) Tryz.prog F) 7 [.slc 0 0 len len false 1, .int .i64 n] (hLawR te l len) [false, false, true] (fun v _ _ => K v) = (bcase (dcq false (ltI n 1)) (bcase (dcq false (ltI 8 n)) (bcase (dcq true (ltI (Int.ofNat 80) (Int.ofNat len))) (K (.bool true)) False) False) False) := by kernel_rfl
theorem longA_run (te : TypeId) {l : Nat → Int} {len : Nat} {n : Int} (h1 : 1 ≤ n) (h8 : n ≤ 8) (hl : 80 < len) : Ran (xfun (CL1R 1) Tryz.prog (xcode (CL1R 1) Tryz.prog F) 7 [.slc 0 0 len len false 1, .int .i64 n] (hLawR te l len) [false, false, true] (fun v _ _ => v = .bool true)) :=
  ⟨Eq.mpr (longA_key te l len n (fun v => v = .bool true)) (bcase_tt (dcq_ge (by omega)) (bcase_tt (dcq_ge (by omega)) (bcase_tt (dcq_lt (by simp only [Int.ofNat_eq_natCast]; omega)) rfl)))⟩
end
end Go.Proofs.YtkfhjobebhdpoaaGreat
/- Stream: the blocks of StreamArrays' states, with numbers left out. -/
set_option autoImplicit false
set_option maxRecDepth 1000000
set_option maxHeartbeats 2000000
set_option linter.unusedVariables false
namespace Go.Proofs.YtkfhjobebhdpoaaGreat
noncomputable section
open Go.X
def t0 (x0 : Nat) (x1 : Nat) (x2 : Nat) : Nat × Blk := (x0, .row [.ptr x1 0, .int .i64 (.ofNat 0), .nils, .str 1 102, .slc 11 0 1 1 false 5, .slc 10 0 2 2 false 5, .nils, .slc 9 0 2 2 false 12, .int .i64 (.ofNat 125), .ptr x2 0] 94 true [])
def t1 (x0 : Nat) (x1 : Nat) (x2 : Nat) : Nat × Blk := (x0, .row [.map x1, .map x2] 63 true [])
def t2 (x0 : Nat) (x1 : Nat) (x2 : Nat) (x3 : Nat) : Nat × Blk := (x0, .row [.str 1 x1, .int .i64 (.ofNat 2), .int .i64 (.ofNat x2), .nils, .int .i64 (.ofNat x3)] 85 true [])
def t3 (x0 : Nat) (x1 : Nat) (x2 : Nat) (x3 : Nat) (x4 : Nat) (x5 : Nat) : Nat × Blk := (x0, .row [.str 1 x1, .int .i64 (.ofNat 2), .int .i64 (.ofNat x2), .nils, .int .i64 (.ofNat x3), .str 1 x4, .int .i64 (.ofNat 2), .int .i64 (.ofNat 0), .nils, .int .i64 (.ofNat x5)] 85 true [])
def t4 : Nat × Blk := (9, .row [.slc 21 0 1 1 true 1, .int .i64 (.ofNat 18), .int .i64 (.ofNat 0), .str 3 6513505, .int .i64 (.ofNat 0), .int .i64 (.ofNat 0), .int .i64 (.ofNat 0), .int .i64 (.ofNat 0), .slc 20 0 1 1 false 9, .int .i64 (.ofNat 174), .nils, .int .i64 (.ofNat 170), .slc 19 0 1 1 true 1, .int .i64 (.ofNat 19), .int .i64 (.ofNat 0), .str 3 7891309, .int .i64 (.ofNat 0), .int .i64 (.ofNat 0), .int .i64 (.ofNat 0), .int .i64 (.ofNat 0), .slc 18 0 2 2 true 9, .int .i64 (.ofNat 191), .nils, .int .i64 (.ofNat 187)] 160 true [])
def t5 (x0 : Nat) (x1 : Nat) (x2 : Nat) (x3 : Nat) (x4 : Nat) (x5 : Nat) : Nat × Blk := (x0, .row [.ptr x1 0, .ptr x2 0, .map x3, .slc x4 0 x5 x5 false 1, .nils, .nils] 108 true [])
def t6 (x0 : Nat) : Nat × Blk := (x0, .map [0, 1, 2] 3 [(.str 3 6513505, .agg [.str 3 6513505, .slc 17 0 1 1 false 5, .slc 16 0 1 1 false 5, .nils, .slc 15 0 1 1 false 12, .int .i64 (.ofNat 0)]), (.str 3 7891309, .agg [.str 3 7891309, .slc 14 0 2 2 false 5, .slc 13 0 1 1 false 5, .nils, .slc 12 0 1 1 false 12, .int .i64 (.ofNat 61)]), (.str 1 102, .agg [.str 1 102, .slc 11 0 1 1 false 5, .slc 10 0 2 2 false 5, .nils, .slc 9 0 2 2 false 12, .int .i64 (.ofNat 125)])])
def t7 (x0 : Nat) : Nat × Blk := (x0, .map [0, 1, 2, 3, 4, 5, 6, 7, 8, 9, 10, 11, 12, 13, 14, 15, 16, 17, 18] 19 [(.int .i64 (.ofNat 1), .fn (Go.Fn.func 41) [] []), (.int .i64 (.ofNat 2), .fn (Go.Fn.func 42) [] []), (.int .i64 (.ofNat 3), .fn (Go.Fn.func 43) [] []), (.int .i64 (.ofNat 4), .fn (Go.Fn.func 44) [] []), (.int .i64 (.ofNat 5), .fn (Go.Fn.func 45) [] []), (.int .i64 (.ofNat 6), .fn (Go.Fn.func 46) [] []), (.int .i64 (.ofNat 7), .fn (Go.Fn.func 47) [] []), (.int .i64 (.ofNat 8), .fn (Go.Fn.func 48) [] []), (.int .i64 (.ofNat 9), .fn (Go.Fn.func 49) [] []), (.int .i64 (.ofNat 10), .fn (Go.Fn.func 50) [] []), (.int .i64 (.ofNat 11), .fn (Go.Fn.func 51) [] []), (.int .i64 (.ofNat 12), .fn (Go.Fn.func 52) [] []), (.int .i64 (.ofNat 13), .fn (Go.Fn.func 53) [] []), (.int .i64 (.ofNat 14), .fn (Go.Fn.func 54) [] []), (.int .i64 (.ofNat 15), .fn (Go.Fn.func 55) [] []), (.int .i64 (.ofNat 16), .fn (Go.Fn.func 56) [] []), (.int .i64 (.ofNat 17), .fn (Go.Fn.func 57) [] []), (.int .i64 (.ofNat 18), .fn (Go.Fn.func 58) [] []), (.int .i64 (.ofNat 19), .fn (Go.Fn.func 59) [] [])])
def t8 (x0 : Nat) (x1 : Nat) (x2 : Nat) : Nat × Blk := (x0, .row [.str x1 x2] 9 true [])
def t9 (x0 : Nat) (x1 : Nat) (x2 : Nat) (x3 : Nat) (x4 : Nat) (x5 : Nat) (x6 : Nat) : Nat × Blk := (x0, .row [.int .i64 (.ofNat x1), .int .i64 (.ofNat 0), .str x2 x3, .int .i64 (.ofNat x4), .int .i64 (.ofNat 0), .int .i64 (.ofNat x5), .int .i64 (.ofNat 0), .nils, .int .i64 (.ofNat x6)] 157 true [])
def t10 (x0 : Nat) (x1 : Nat) (x2 : Nat) (x3 : Nat) (x4 : Nat) (x5 : Nat) (x6 : Nat) (x7 : Nat) (x8 : Nat) (x9 : Nat) (x10 : Nat) (x11 : Nat) (x12 : Nat) : Nat × Blk := (x0, .row [.int .i64 (.ofNat x1), .int .i64 (.ofNat 0), .str x2 x3, .int .i64 (.ofNat x4), .int .i64 (.ofNat 0), .int .i64 (.ofNat x5), .int .i64 (.ofNat 0), .nils, .int .i64 (.ofNat x6), .int .i64 (.ofNat x7), .int .i64 (.ofNat 0), .str x8 x9, .int .i64 (.ofNat x10), .int .i64 (.ofNat 0), .int .i64 (.ofNat x11), .int .i64 (.ofNat 0), .nils, .int .i64 (.ofNat x12)] 157 true [])
def t11 (x0 : Nat) (x1 : Nat) (x2 : Nat) : Nat × Blk := (x0, .row [.map x1, .map x2, .nilp] 98 true [])
def t12 (x0 : Nat) : Nat × Blk := (x0, .map [] 0 [])
def t13 (x0 : Nat) (x1 : Nat) (x2 : Nat) (x3 : Nat) : Nat × Blk := (x0, .row [.ptr x1 0, .ptr x2 0] 101 true [x3])
def t14 (x0 : Nat) (x1 : Nat) (x2 : Nat) (x3 : Nat) (x4 : Nat) : Nat × Blk := (x0, .row [.slc x1 0 1 1 true 1, .int .i64 (.ofNat 4), .int .i64 (.ofNat 3), .str 0 0, .int .i64 (.ofNat 0), .int .i64 (.ofNat 0), .int .i64 (.ofNat 0), .int .i64 (.ofNat 0), .slc x2 0 2 2 true 9, .int .i64 (.ofNat x3), .nils, .int .i64 (.ofNat x4)] 160 true [])
def t15 (x0 : Nat) (x1 : Nat) (x2 : Nat) (x3 : Nat) (x4 : Nat) (x5 : Nat) (x6 : Nat) : Nat × Blk := (x0, .map [0, 1, 2] 3 [(.str 1 x1, .ptr x2 0), (.str 1 x3, .ptr x4 0), (.str 1 x5, .ptr x6 0)])
def t16 (x0 : Nat) (x1 : Nat) (x2 : Nat) (x3 : Nat) (x4 : Nat) (x5 : Nat) (x6 : Nat) (x7 : Nat) : Nat × Blk := (x0, .map [0, 1, 2] 3 [(.str 1 x1, .agg [.str 1 x1, .int .i64 (.ofNat 2), .int .i64 (.ofNat x2), .nils, .int .i64 (.ofNat x3)]), (.str 1 x4, .agg [.str 1 x4, .int .i64 (.ofNat 2), .int .i64 (.ofNat x2), .nils, .int .i64 (.ofNat x5)]), (.str 1 x6, .agg [.str 1 x6, .int .i64 (.ofNat 2), .int .i64 (.ofNat 0), .nils, .int .i64 (.ofNat x7)])])
def t17 (x0 : Nat) (x1 : Nat) (x2 : Nat) (x3 : Nat) (x4 : Nat) (x5 : Nat) (x6 : Nat) (x7 : Nat) : Nat × Blk := (x0, .row [.slc x1 0 1 1 true 1, .bool false, .int .i64 (.ofNat 0), .fn (Go.Fn.func 229) [] [.ptr x2 0, .ptr x3 0, .ptr x4 0, .ptr x5 0, .ptr x6 0, .ptr x7 0]] 110 true [])
def t18 : Nat × Blk := (24, .row [.int .i64 (.ofNat 2), .int .i64 (.ofNat 0), .str 1 120, .int .i64 (.ofNat 0), .int .i64 (.ofNat 0), .int .i64 (.ofNat 0), .int .i64 (.ofNat 0), .nils, .int .i64 (.ofNat 40), .int .i64 (.ofNat 8), .int .i64 (.ofNat 0), .str 0 0, .int .i64 (.ofNat 0), .int .i64 (.ofNat 0), .int .i64 (.ofNat 0), .int .i64 (.ofNat 0), .slc 27 0 2 2 true 9, .int .i64 (.ofNat 45)] 157 true [])
def t19 : Nat × Blk := (22, .row [.int .i64 (.ofNat 4), .int .i64 (.ofNat 5), .str 0 0, .int .i64 (.ofNat 0), .int .i64 (.ofNat 0), .int .i64 (.ofNat 0), .int .i64 (.ofNat 0), .slc 26 0 2 2 true 9, .int .i64 (.ofNat 108), .int .i64 (.ofNat 2), .int .i64 (.ofNat 0), .str 1 120, .int .i64 (.ofNat 0), .int .i64 (.ofNat 0), .int .i64 (.ofNat 0), .int .i64 (.ofNat 0), .nils, .int .i64 (.ofNat 118)] 157 true [])
def t20 (x0 : Nat) (x1 : Nat) : Nat × Blk := (x0, .row [.slc x1 0 1 1 true 1, .bool false, .int .i64 (.ofNat 0), .fn (Go.Fn.func 122) [] []] 110 true [])
def t21 (x0 : Nat) (x1 : Nat) : Nat × Blk := (x0, .row [.int .i64 (.ofNat x1)] 3 true [])
def t22 (x0 : Nat) (x1 : Nat) (x2 : Nat) : Nat × Blk := (x0, .row [.ptr x1 0] x2 true [])
def t23 (x0 : Nat) (x1 : Nat) (x2 : Nat) (x3 : Nat) : Nat × Blk := (x0, .row [.fn (Go.Fn.func x1) [] [.ptr x2 0, .ptr x3 0], .int .i64 (.ofNat 2)] 171 true [])
def t24 (x0 : Nat) (x1 : Nat) (x2 : Nat) (x3 : Nat) (x4 : Nat) : Nat × Blk := (x0, .row [.slc x1 0 x2 x2 false x3] x4 true [])
def t25 (x0 : Nat) (x1 : Nat) (x2 : Nat) (x3 : Nat) : Nat × Blk := (x0, .row [.fn (Go.Fn.func 171) [] [.ptr x1 0, .ptr x2 0, .ptr x3 0]] 185 true [])
def t26 (x0 : Nat) : Nat × Blk := (x0, .row [.nils] 245 true [])
def t27 (x0 : Nat) (x1 : Nat) (x2 : Nat) (x3 : Nat) (x4 : Nat) : Nat × Blk := (x0, .row [.fn (Go.Fn.func 88) [] [.ptr x1 0], .int .i64 (.ofNat 2), .fn (Go.Fn.func 89) [] [.ptr x2 0, .ptr x3 0], .int .i64 (.ofNat 2)] 171 true [x4])
def t28 (x0 : Nat) (x1 : Nat) (x2 : Nat) (x3 : Nat) (x4 : Nat) (x5 : Nat) (x6 : Nat) (x7 : Nat) (x8 : Nat) (x9 : Nat) (x10 : Nat) (v0 : Int) : Nat × Blk := (x0, .row [.ptr x1 0, .int .i64 v0, .nils, .str x2 x3, .slc x4 0 x5 x5 false 5, .slc x6 0 x7 x7 false 5, .nils, .slc x8 0 x7 x7 false 12, .int .i64 (.ofNat x9), .ptr x10 0] 94 true [])
def t29 (x0 : Nat) (x1 : Nat) (x2 : Nat) (x3 : Nat) : Nat × Blk := (x0, .row [.ptr x1 0, .ptr x2 0] x3 true [])
def t30 (x0 : Nat) (x1 : Nat) (x2 : Nat) (x3 : Nat) (x4 : Nat) (x5 : Nat) (x6 : Nat) (x7 : Nat) (x8 : Nat) (v0 : Int) : Nat × Blk := (x0, .row [.slc x1 0 x2 x2 true 1, .bool true, .int .i64 v0, .fn (Go.Fn.func 229) [] [.ptr x3 0, .ptr x4 0, .ptr x5 0, .ptr x6 0, .ptr x7 0, .ptr x8 0]] 110 true [])
def t31 (x0 : Nat) (x1 : Nat) (x2 : Nat) (x3 : Nat) (v0 : Int) : Nat × Blk := (x0, .row [.slc x1 x2 x3 x3 true 1, .bool true, .int .i64 v0, .fn (Go.Fn.func 122) [] []] 110 true [])
def t32 (x0 : Nat) (v0 : Int) : Nat × Blk := (x0, .row [.int .i64 v0] 3 true [])
def t33 (x0 : Nat) (x1 : Nat) (x2 : Nat) (x3 : Nat) : Nat × Blk := (x0, .row [.fn (Go.Fn.func 88) [] [.ptr x1 0], .int .i64 (.ofNat 2), .fn (Go.Fn.func 89) [] [.ptr x2 0, .ptr x3 0], .int .i64 (.ofNat 2)] 171 true [])
def t34 (x0 : Nat) (x1 : Nat) (x2 : Nat) : Nat × Blk := (x0, .map [0, 1] 2 [(.str 1 120, .ptr x1 0), (.str 1 121, .ptr x2 0)])
def t35 (x0 : Nat) : Nat × Blk := (x0, .map [0, 1] 2 [(.str 1 120, .agg [.str 1 120, .int .i64 (.ofNat 2), .int .i64 (.ofNat 0), .nils, .int .i64 (.ofNat 9)]), (.str 1 121, .agg [.str 1 121, .int .i64 (.ofNat 2), .int .i64 (.ofNat 0), .nils, .int .i64 (.ofNat 25)])])
def t36 (x0 : Nat) (x1 : Nat) (x2 : Nat) (x3 : Nat) : Nat × Blk := (x0, .row [.int .i64 (.ofNat 4), .int .i64 (.ofNat x1), .str 0 0, .int .i64 (.ofNat 0), .int .i64 (.ofNat 0), .int .i64 (.ofNat 0), .int .i64 (.ofNat 0), .slc x2 0 2 2 true 9, .int .i64 (.ofNat x3)] 157 true [])
def t37 (x0 : Nat) (v0 : Int) : Nat × Blk := (x0, .row [.int .i64 (.ofNat 1), .int .i64 v0] 3 true [])
def t38 (x0 : Nat) (x1 : Nat) (x2 : Nat) (x3 : Nat) (x4 : Nat) (x5 : Nat) : Nat × Blk := (x0, .row [.fn (Go.Fn.func 89) [] [.ptr x1 0, .ptr x2 0], .int .i64 (.ofNat 2), .fn (Go.Fn.func 101) [] [.ptr x3 0, .ptr x4 0, .ptr x5 0], .int .i64 (.ofNat 2)] 171 true [])
def t39 (x0 : Nat) (x1 : Nat) (x2 : Nat) (x3 : Nat) (x4 : Nat) : Nat × Blk := (x0, .row [.fn (Go.Fn.func 95) [] [.ptr x1 0, .ptr x2 0], .int .i64 (.ofNat 2), .fn (Go.Fn.func 89) [] [.ptr x3 0, .ptr x4 0], .int .i64 (.ofNat 2)] 171 true [])
def t40 (x0 : Nat) (x1 : Nat) : Nat × Blk := (x0, .row [.slc x1 0 1 1 true 1] 67 true [])
def t41 (x0 : Nat) (x1 : Nat) (x2 : Nat) (x3 : Nat) : Nat × Blk := (x0, .row [.fn (Go.Fn.func 89) [] [.ptr x1 0, .ptr x2 0], .int .i64 (.ofNat 2), .fn (Go.Fn.func 88) [] [.ptr x3 0], .int .i64 (.ofNat 2)] 171 true [])
def t42 (x0 : Nat) (v0 : Int) (v1 : Int) : Nat × Blk := (x0, .row [.int .i64 v0, .int .i64 v1] 3 true [])
def t43 (x0 : Nat) (v0 : Int) (v1 : Int) (v2 : Int) : Nat × Blk := (x0, .row [.int .i64 v0, .int .i64 v1, .int .i64 v2] 3 true [])
def t44 (x0 : Nat) (x1 : Nat) (x2 : Nat) (x3 : Nat) : Nat × Blk := (x0, .row [.ptr x1 0, .ptr x2 0, .ptr x3 0] 65 true [])
def t45 (x0 : Nat) (v0 : Int) (v1 : Int) (v2 : Int) (v3 : Int) : Nat × Blk := (x0, .row [.int .i64 v0, .int .i64 v1, .int .i64 v2, .int .i64 v3] 3 true [])
def t46 (x0 : Nat) (x1 : Nat) (x2 : Nat) (x3 : Nat) (x4 : Nat) : Nat × Blk := (x0, .row [.ptr x1 0, .ptr x2 0, .ptr x3 0, .ptr x4 0] 65 true [])
def t47 (x0 : Nat) (v0 : Int) (v1 : Int) (v2 : Int) (v3 : Int) (v4 : Int) : Nat × Blk := (x0, .row [.int .i64 v0, .int .i64 v1, .int .i64 v2, .int .i64 v3, .int .i64 v4] 3 true [])
def t48 (x0 : Nat) (x1 : Nat) (x2 : Nat) (x3 : Nat) (x4 : Nat) (x5 : Nat) : Nat × Blk := (x0, .row [.ptr x1 0, .ptr x2 0, .ptr x3 0, .ptr x4 0, .ptr x5 0] 65 true [])
def t49 (x0 : Nat) (v0 : Int) (v1 : Int) (v2 : Int) (v3 : Int) (v4 : Int) (v5 : Int) : Nat × Blk := (x0, .row [.int .i64 v0, .int .i64 v1, .int .i64 v2, .int .i64 v3, .int .i64 v4, .int .i64 v5] 3 true [])
def t50 (x0 : Nat) (x1 : Nat) (x2 : Nat) (x3 : Nat) (x4 : Nat) (x5 : Nat) (x6 : Nat) : Nat × Blk := (x0, .row [.ptr x1 0, .ptr x2 0, .ptr x3 0, .ptr x4 0, .ptr x5 0, .ptr x6 0] 65 true [])
def t51 (x0 : Nat) (v0 : Int) (v1 : Int) (v2 : Int) (v3 : Int) (v4 : Int) (v5 : Int) (v6 : Int) : Nat × Blk := (x0, .row [.int .i64 v0, .int .i64 v1, .int .i64 v2, .int .i64 v3, .int .i64 v4, .int .i64 v5, .int .i64 v6] 3 true [])
def t52 (x0 : Nat) (x1 : Nat) (x2 : Nat) (x3 : Nat) (x4 : Nat) (x5 : Nat) (x6 : Nat) (x7 : Nat) : Nat × Blk := (x0, .row [.ptr x1 0, .ptr x2 0, .ptr x3 0, .ptr x4 0, .ptr x5 0, .ptr x6 0, .ptr x7 0] 65 true [])
def t53 (x0 : Nat) (v0 : Int) (v1 : Int) (v2 : Int) (v3 : Int) (v4 : Int) (v5 : Int) (v6 : Int) (v7 : Int) : Nat × Blk := (x0, .row [.int .i64 v0, .int .i64 v1, .int .i64 v2, .int .i64 v3, .int .i64 v4, .int .i64 v5, .int .i64 v6, .int .i64 v7] 3 true [])
def t54 (x0 : Nat) (x1 : Nat) (x2 : Nat) (x3 : Nat) (x4 : Nat) (x5 : Nat) (x6 : Nat) (x7 : Nat) (x8 : Nat) : Nat × Blk := (x0, .row [.ptr x1 0, .ptr x2 0, .ptr x3 0, .ptr x4 0, .ptr x5 0, .ptr x6 0, .ptr x7 0, .ptr x8 0] 65 true [])
end
end Go.Proofs.YtkfhjobebhdpoaaGreat

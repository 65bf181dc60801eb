/- Drat: the check of a proof: the checker's answer. -/
import Derived.Test.YtagfnjpjmmleiaaDoorUC
import Derived.Test.YtagfnjpjmmleiaaDoorUD
import Derived.Test.YtagfnjpjmmleiaaDoorQB
import Derived.Test.YtagfnjpjmmleiaaDoorTQ
import Derived.Test.YtagfnjpjmmleiaaDoorTL
set_option linter.unusedVariables false
set_option linter.unusedSimpArgs false
set_option autoImplicit false
set_option linter.unusedVariables false
set_option linter.unusedSimpArgs false
namespace Go.Proofs.YtagfnjpjmmleiaaDoor
open Go.Shelf Go.RowKit
def lnz (l : Ln) : Bool × List Int := (l.gone, l.cl.zs)
def ChkOut (A : Int × Int) (w : World) (e : Ending) (w' : World) : Prop := e = .returned (.tuple #[.int .i64 A.1, .int .i64 A.2]) ∧ Below w.heap.size w w'
theorem found_iff {S : St} {V : Nat} {cs : List (List Int)} (h : Core V S) (hc : cls S = cs.map setZ) : decide (0 < S.empty) = cs.any fun c => c.isEmpty := by
  have e : 0 < S.empty ↔ ∃ c ∈ cs, c = [] := by
    rw [h.em]
    unfold empties
    constructor
    · intro h1
      obtain ⟨i, hi⟩ := List.exists_mem_of_length_pos h1
      obtain ⟨h2, h3⟩ := List.mem_filter.1 hi
      obtain ⟨h4, h5⟩ := mem_alive.1 h2
      have h6 : S.lits i ∈ cls S := mem_cls.2 ⟨i, h4, h5, rfl⟩
      rw [hc] at h6
      obtain ⟨c, h7, h8⟩ := List.mem_map.1 h6
      refine ⟨c, h7, setZ_nil_iff.1 (h8.trans (List.eq_nil_of_length_eq_zero (by simpa using h3)))⟩
    · rintro ⟨c, h1, rfl⟩
      have h6 : ([] : List Int) ∈ cls S := by rw [hc]; exact List.mem_map.2 ⟨[], h1, setZ_nil⟩
      obtain ⟨i, h4, h5, h7⟩ := mem_cls.1 h6
      have : 0 < ((alive S).filter fun i => (S.lits i).length == 0).length := List.length_pos_iff.2 (List.ne_nil_of_mem (a := i) (List.mem_filter.2 ⟨mem_alive.2 ⟨h4, h5⟩, by rw [h7]; rfl⟩))
      exact this
  by_cases h1 : 0 < S.empty
  · rw [decide_eq_true h1]
    obtain ⟨c, h2, h3⟩ := e.1 h1
    exact (List.any_eq_true.2 ⟨c, h2, by rw [h3]; rfl⟩).symm
  · rw [decide_eq_false h1]
    refine (List.any_eq_false.2 fun c h2 h3 => h1 (e.2 ⟨c, h2, by simpa using h3⟩)).symm
theorem ints_lt2 {w : World} {a : Option Addr} {zs : List Int} (h : Ints w a zs) {ad : Addr} (e : a = some ad) (hne : zs ≠ []) : ad.block < w.heap.size := by
  obtain ⟨b, off, h1, h2, _⟩ := h 0 (List.length_pos_iff.2 hne)
  rw [e] at h1
  cases h1
  exact h2
theorem drop_ln {ls : List Ln} {k : Nat} (hk : k < ls.length) : (ls.map lnz).drop k = ((ls.getD k default).gone, (ls.getD k default).cl.zs) :: (ls.map lnz).drop (k + 1) := by
  rw [List.drop_eq_getElem_cons (by rw [List.length_map]; exact hk), List.getElem_map, List.getD_eq_getElem?_getD, List.getElem?_eq_getElem hk]; rfl
theorem rem_facts {V : Nat} {S S' : St} {zl : List Int} (hp : RestS V S) (h : RemR S (setZ zl) S') : RestS V S' ∧ ((cls S').map setZ).Perm (((cls S).map setZ).erase (setZ zl)) ∧ S'.n = S.n ∧ S'.m ≤ S.m + 1 ∧ S'.lits = S.lits := by
  have hr := (setZ_spec zl).1
  rcases h with ⟨h0, rfl⟩ | ⟨i, h0, rfl⟩
  · refine ⟨hp, ?_, rfl, by omega, rfl⟩
    rw [rem_none hp.core hr h0]
  · exact ⟨rem_rest hp hr h0, rem_cls hp.core hr h0, rfl, Nat.le_refl _, rfl⟩
theorem by_sub {cs cs' : List (List Int)} {c : List Int} (h1 : SubS cs cs') (h2 : SubS cs' cs) (h : By cs c) : By cs' c := by
  obtain ⟨z, e, h⟩ := h
  refine ⟨z, e, fun d hd hz => ?_⟩
  obtain ⟨d', h3, h4⟩ := h2 d hd
  exact (fol_same h1 h2 (others_same h4.symm)).1 (h d' h3 ((h4 _).1 hz))
theorem line1_cls {S : St} {c : List Int} : Line1 ((cls S).map setZ) c ↔ Fol (cls S) c ∨ By (cls S) c := line1_set
theorem lnz_lits {S : St} {zs : List Int} {B : Nat} (h : ∀ i, i < S.n → (S.lits i).length ≤ B) (hz : zs.length ≤ B) : ∀ i, i < (addS S zs).n → ((addS S zs).lits i).length ≤ B := fun i hi => by
  rw [(addS_n S zs).1] at hi
  by_cases e : i = S.n
  · rw [e, addS_new]; exact hz
  · rw [addS_lits _ _ e]; exact h i (by omega)
set_option maxHeartbeats 32000000 in
set_option maxRecDepth 1000000 in
theorem checkC_walk (hA : AddLaw) (a : Option Addr) (n c : Nat) (cs : List Cl) (vars : Int) (pa : Option Addr) (pn pc : Nat) (ls : List Ln) (w : World) (hn : cs.length = n) (hlen : n ≤ 1000000000) (hl : ∀ j, j < n → (cs.getD j default).zs.length ≤ 1000000000) (hz : Rows' w a cs)
    (hpn : ls.length = pn) (hp9 : pn ≤ 1000000000) (hpl : ∀ j, j < pn → (ls.getD j default).cl.zs.length ≤ 1000000000) (hpz : Lines w pa ls) (ht : Tab w.heap.size w) :
    Calls Tryd.prog 12 #[.agg #[.int .i64 vars, .slice a n c], .slice pa pn pc] w (ChkOut (answerZ vars (cs.map Cl.zs) (checkZ vars cs) (ls.map lnz)) w) := by
  have hb0 := (Below.refl w.heap.size w).alloc (Nat.le_refl _) (.cells #[Value.int .i64 vars, .slice a n c] 24)
  have k0 : (w.alloc (.cells #[Value.int .i64 vars, .slice a n c] 24)).cell? ⟨w.heap.size, 0, none⟩ = some (.int .i64 vars) := (cell_new ..).trans rfl
  have k1 : (w.alloc (.cells #[Value.int .i64 vars, .slice a n c] 24)).cell? ⟨w.heap.size, 1, none⟩ = some (.slice a n c) := (cell_new ..).trans rfl
  have hck := cnf_walk a n c cs vars _ hn hlen hl (hz.below hb0)
  obtain ⟨q, hq⟩ : ∃ q, checkZ vars cs = q := ⟨_, rfl⟩
  rw [hq] at hck ⊢
  obtain ⟨A, hAe⟩ : ∃ A, answerZ vars (cs.map Cl.zs) q (ls.map lnz) = A := ⟨_, rfl⟩
  rw [hAe]
  go_enter Tryd.func12, Tryd.ntmps12
  by_cases hq0 : q = 0
  · subst hq0
    obtain ⟨hv0, hv1⟩ : (-1000000000 ≤ vars) ∧ (vars ≤ 1000000000) := by obtain ⟨V, e, _⟩ := check_ok hq; omega
    go_wp2_with (go_at_call 23; refine hck.mono ?_; rintro e w1 ⟨p1, hb1⟩; rw [p1]; clear p1; have c0 := (hb1.cell (p := ⟨w.heap.size, 0, none⟩) (cellLt k0)).trans k0; have c1 := (hb1.cell (p := ⟨w.heap.size, 1, none⟩) (cellLt k1)).trans k1)
    have hbw1 := hb0.trans (hb1.mono hb0.size)
    clear k0 k1
    obtain ⟨V, rfl, g1, g2, g3, g4⟩ := check_ok hq
    have hmk := made_walk hA a n c cs V w1 hn (by omega) (fun j hj => by have := g3 j (by omega); omega) (hz.below hbw1) (by omega) (fun j hj => g4 j (by omega)) (fun v hv => ht v (hbw1.trans (hv.mono hbw1.size)))
    go_wp2_with (go_at_call 24; refine hmk.mono ?_)
    rintro e w2 ⟨cx, own, rv, S, rfl, hR, hS, hcl, rfl, hlo, hb2, hSn, hSm⟩
    have hbw2 := hbw1.trans (hb2.mono hbw1.size)
    have c0 := (hb2.cell (p := ⟨w.heap.size, 0, none⟩) (cellLt c0)).trans c0
    have c1 := (hb2.cell (p := ⟨w.heap.size, 1, none⟩) (cellLt c1)).trans c1
    have hsz := hbw1.size
    have hsz0 : w.heap.size < w1.heap.size := cellLt (by assumption)
    have x5 : w2.cell? ⟨cx.xb, 5, none⟩ = some (.int .i64 S.empty) := (hR.x.cell 5 (by decide)).1
    have hfound := found_iff hS.core hcl
    obtain ⟨fd, hfd⟩ : ∃ b, decide (0 < S.empty) = b := ⟨_, rfl⟩
    rw [hfd] at hfound
    have hAns : A = playZ cx.V fd (ls.map lnz) 0 0 ((cls S).map setZ) := by
      rw [← hAe]
      unfold answerZ
      rw [if_pos rfl, ← hfound, hcl, List.map_map]
      congr 1
      rw [List.map_map]
      apply List.map_congr_left
      intro c _
      exact (setZ_setZ _).symm
    clear hAe hfound
    have hl0 : ∀ i, i < S.n → (S.lits i).length ≤ 200000 := fun i hi => by
      obtain ⟨zs, h1, h2⟩ := made_lits hcl hSn hi
      obtain ⟨cl, h3, rfl⟩ := List.mem_map.1 h1
      obtain ⟨j, hj, rfl⟩ := List.getElem_of_mem h3
      have h4 := g3 j hj
      rw [List.getD_eq_getElem?_getD, List.getElem?_eq_getElem hj] at h4
      rw [h2]
      exact Nat.le_trans (setZ_len _) h4
    rw [List.length_map, hn] at hSn hSm
    have hw2lo : cx.lo ≤ w2.heap.size := hR.lo_le
    go_wp2
    go_loopw [9, 31] (fun mv iv wr => ∃ (k m : Nat) (S1 : St) (own1 : Nat → Option Tag) (rv1 : Tag → Value), k ≤ pn ∧ iv = .int .i64 k ∧ mv = .int .i64 m ∧ m ≤ 200000 ∧ Rep cx wr own1 rv1 S1 ∧ RestS cx.V S1 ∧ Frm own own1 w2 wr ∧ S1.n ≤ n + m ∧ S1.m ≤ n + m ∧ (∀ i, i < S1.n → (S1.lits i).length ≤ 200000) ∧ playZ cx.V fd ((ls.map lnz).drop k) k m ((cls S1).map setZ) = A) (fun _ iv _ => pn - (intOf iv).toNat)
    case atStart => exact ⟨0, 0, S, own, rv, Nat.zero_le _, rfl, rfl, by omega, hR, hS, Frm.refl _ _, by omega, by omega, hl0, hAns.symm⟩
    case round =>
      clear hAns
      obtain ⟨k, m, S1, own1, rv1, hk, rfl, rfl, hm2, hrep, hrs, hfr, hSn1, hSm1, hl1, hA1⟩ := hrel
      obtain ⟨wo, hwo⟩ : ∃ x, x = wr := ⟨_, rfl⟩
      subst hwo
      have hbwo : Below cx.lo w2 wo := hfr.toBelow hR
      have hbo : Below w.heap.size w wo := hbw2.trans (hbwo.mono (by omega))
      have d0 := (hbwo.cell (p := ⟨w.heap.size, 0, none⟩) (show w.heap.size < cx.lo by omega)).trans c0
      have d1 := (hbwo.cell (p := ⟨w.heap.size, 1, none⟩) (show w.heap.size < cx.lo by omega)).trans c1
      by_cases hlt : k < pn
      · obtain ⟨b, off, rfl, hb, hgc, hcc, hci⟩ := (hpz.below hbo) k (by omega)
        have hll := hpl k hlt
        have hdr := drop_ln (ls := ls) (k := k) (by omega)
        have hlb : ∀ ad, (ls.getD k default).cl.a = some ad → (ls.getD k default).cl.zs ≠ [] → ad.block < w.heap.size := fun ad e hne => ints_lt2 ((hpz k (by omega)).choose_spec.choose_spec.2.2.2.2) e hne
        obtain ⟨x, hx⟩ : ∃ x, ls.getD k default = x := ⟨_, rfl⟩
        rw [hx] at hgc hcc hci hll hdr hlb
        obtain ⟨g, hg⟩ : ∃ t, x.gone = t := ⟨_, rfl⟩
        obtain ⟨la, hla⟩ : ∃ t, x.cl.a = t := ⟨_, rfl⟩
        obtain ⟨lc, hlc⟩ : ∃ t, x.cl.c = t := ⟨_, rfl⟩
        obtain ⟨zl, hzl⟩ : ∃ t, x.cl.zs = t := ⟨_, rfl⟩
        rw [hg] at hgc hdr
        rw [hla, hlc, hzl] at hcc
        rw [hla, hzl] at hci hlb
        rw [hzl] at hll hdr
        obtain ⟨ln, hln⟩ : ∃ t, zl.length = t := ⟨_, rfl⟩
        rw [hln] at hcc hll
        clear hx hg hla hlc hzl
        have hkI : (k : Int) < pn := by omega
        rw [hdr] at hA1
        have hlen1 : zl.length = ln := hln
        by_cases h200 : 200000 < m + 1 + ln
        · have hE : ChkOut A w (.returned (.tuple #[.int .i64 (k : Int), .int .i64 2])) (wo.alloc (.cells #[.bool g, .slice la ln lc] 35)) := by
            rw [← hA1, play_long (by rw [hln]; exact h200)]
            exact ⟨rfl, hbo.alloc hbo.size _⟩
          have h2I : (200000 : Int) < (m : Int) + ((ln : Int) + 1) := by omega
          go_wp2
          go_ret2
          exact hE
        · have h2I : ¬ (200000 : Int) < (m : Int) + ((ln : Int) + 1) := by omega
          have hlit := fun u y => literal_walk cx.V y (.slice a n c) u (by omega) (by omega)
          obtain ⟨W, hW⟩ : ∃ W, wo.alloc (Obj.cells #[.bool g, .slice la ln lc] 35) = W := ⟨_, rfl⟩
          have hWs : wo.heap.size < W.heap.size := by rw [← hW]; simp
          have hWb : Below wo.heap.size wo W := by rw [← hW]; exact (Below.refl _ _).alloc (Nat.le_refl _) _
          have b0 : W.cell? ⟨wo.heap.size, 0, none⟩ = some (.bool g) := by rw [← hW]; exact (cell_new ..).trans rfl
          have b1 : W.cell? ⟨wo.heap.size, 1, none⟩ = some (.slice la ln lc) := by rw [← hW]; exact (cell_new ..).trans rfl
          have d0W := (hWb.cell (p := ⟨w.heap.size, 0, none⟩) (cellLt d0)).trans d0
          have d1W := (hWb.cell (p := ⟨w.heap.size, 1, none⟩) (cellLt d1)).trans d1
          have hciW := hci.below hWb
          go_wp2
          clear hgc hcc
          go_loopw [48] (fun iv wx => ∃ q : Nat, q ≤ ln ∧ iv = .int .i64 q ∧ fairZ cx.V (zl.take q) = true ∧ Below W.heap.size W wx) (fun iv _ => ln - (intOf iv).toNat)
          case atStart => exact ⟨0, Nat.zero_le _, rfl, by simp [fairZ], Below.refl _ _⟩
          case round =>
            obtain ⟨q, hq, rfl, hf, hbx⟩ := hrel
            have e0 := (hbx.cell (p := ⟨w.heap.size, 0, none⟩) (cellLt d0W)).trans d0W
            have e1 := (hbx.cell (p := ⟨w.heap.size, 1, none⟩) (cellLt d1W)).trans d1W
            have b0x := (hbx.cell (p := ⟨wo.heap.size, 0, none⟩) (cellLt b0)).trans b0
            have b1x := (hbx.cell (p := ⟨wo.heap.size, 1, none⟩) (cellLt b1)).trans b1
            have hbx2 : Below wo.heap.size wo wr := hWb.trans (hbx.mono (by omega))
            have hbx3 : Below w.heap.size w wr := hbo.trans (hbx2.mono hbo.size)
            clear d0 d1 d0W d1W b0 b1
            by_cases hql : q < ln
            · have hqI : (q : Int) < (ln : Int) := by omega
              obtain ⟨ib, io, rfl, hib, hic⟩ := (hciW.below hbx) q (by omega)
              have hsq := take_snoc (zs := zl) (k := q) (by omega)
              obtain ⟨y, hy⟩ : ∃ y, zl.getD q 0 = y := ⟨_, rfl⟩
              rw [hy] at hic hsq
              by_cases hfy : fair1 cx.V y = true
              · go_wp2_with (go_at_call 25; refine (hlit _ _).mono ?_; rintro e w3 ⟨p1, hb3⟩; rw [p1, hfy]; clear p1)
                go_roundw
                case rel => exact ⟨q + 1, hql, by simp, by rw [hsq, fairZ_snoc, hf, hfy]; rfl, hbx.trans (hb3.mono hbx.size)⟩
                case measure => simp [intOf]; omega
              · have hfy' : fair1 cx.V y = false := by simpa using hfy
                have hF : fairZ cx.V zl = false := by
                  unfold fairZ
                  rw [List.all_eq_false]
                  exact ⟨y, by rw [← hy, List.getD_eq_getElem?_getD, List.getElem?_eq_getElem (by omega)]; exact List.getElem_mem _, by simpa using hfy'⟩
                go_wp2_with (go_at_call 25; refine (hlit _ _).mono ?_; rintro e w3 ⟨p1, hb3⟩; rw [p1, hfy']; clear p1)
                have hE : ChkOut A w (.returned (.tuple #[.int .i64 (k : Int), .int .i64 40])) w3 := by
                  rw [← hA1, play_form (by rw [hln]; exact h200) hF]
                  exact ⟨rfl, hbx3.trans (hb3.mono hbx3.size)⟩
                go_ret2
                exact hE
            · have e00 : q = ln := by omega
              have hT : fairZ cx.V zl = true := by rw [← hf, List.take_of_length_le (by omega)]
              clear hf
              subst e00
              have h200' : ¬ 200000 < m + 1 + zl.length := by rw [hln]; exact h200
              have hzV := fair_lits hT
              have hrx := hrep.below hbx2 (Nat.le_refl _)
              have hfx := hfr.below hbx2 (Nat.le_refl _)
              have hcx := hciW.below hbx
              have hfree : Free2 own1 la zl := fun ad e hne => by
                cases ho : own1 ad.block with
                | none => rfl
                | some t => have h1 := (hrep.dom _ t ho).1; have h2 := hlb ad e hne; omega
              have htx : Tab cx.lo wr := fun v hv => ht v (hbx3.trans (hv.mono (by omega)))
              have hbxo : own1 wo.heap.size = none := by
                cases ho : own1 wo.heap.size with
                | none => rfl
                | some t => have := (hrep.dom _ t ho).2; omega
              have hwlo : own1 w.heap.size = none := by
                cases ho : own1 w.heap.size with
                | none => rfl
                | some t => have := (hrep.dom _ t ho).1; omega
              have hwos : wo.heap.size < wr.heap.size := cellLt b0x
              have hm1 : ((m + 1 + q : Nat) : Int) = (m : Int) + ((q : Int) + 1) := by omega
              cases g with
              | true =>
                have hrm := remove_walk cx own1 rv1 S1 wr la q lc zl hrx hrs hln (by omega) hcx hzV (by omega) (by omega) (by omega) htx
                have hA2 := (play_gone h200' hT).symm.trans hA1
                go_wp2_with (go_at_call 26; refine hrm.mono ?_)
                rintro e w3 ⟨rfl, S2, own2, rv2, hRR, hR2, hF2⟩
                go_wp2
                go_roundw
                case rel =>
                  obtain ⟨f1, f2, f3, f4, f5⟩ := rem_facts hrs hRR
                  refine ⟨k + 1, m + 1 + q, S2, own2, rv2, hlt, (by simp), (by rw [hm1]), (by omega), hR2, f1, hfx.trans hF2, (by omega), (by omega), (by rw [f3, f5]; exact hl1), ?_⟩
                  rw [← hA2, hln]
                  exact play_perm _ _ _ _ _ f2
                case measure => simp [intOf]; omega
              | false =>
                obtain ⟨wq, hwq⟩ : ∃ x, x = wr := ⟨_, rfl⟩
                subst hwq
                have hL1 : Line1 ((cls S1).map setZ) zl ↔ Fol (cls S1) zl ∨ By (cls S1) zl := line1_cls
                go_wp2
                obtain ⟨X, hX⟩ : ∃ X, wq.alloc (Obj.cells #[Value.func (Fn.func 27) #[Value.pointer (some ⟨cx.xb, 0, none⟩)] #[], Value.func (Fn.func 28) #[Value.pointer (some ⟨cx.xb, 0, none⟩)] #[]] 63) = X := ⟨_, rfl⟩
                rw [hX]
                have hXs : wq.heap.size < X.heap.size := by rw [← hX]; simp
                have hXb : Below wq.heap.size wq X := by rw [← hX]; exact (Below.refl _ _).alloc (Nat.le_refl _) _
                have f0 : X.cell? ⟨wq.heap.size, 0, none⟩ = some (Value.func (Fn.func 27) #[Value.pointer (some ⟨cx.xb, 0, none⟩)] #[]) := by rw [← hX]; exact (cell_new ..).trans rfl
                have f1 : X.cell? ⟨wq.heap.size, 1, none⟩ = some (Value.func (Fn.func 28) #[Value.pointer (some ⟨cx.xb, 0, none⟩)] #[]) := by rw [← hX]; exact (cell_new ..).trans rfl
                have b1X := (hXb.cell (p := ⟨wo.heap.size, 1, none⟩) (cellLt b1x)).trans b1x
                have b0X := (hXb.cell (p := ⟨wo.heap.size, 0, none⟩) (cellLt b0x)).trans b0x
                have hfno : own1 wq.heap.size = none := by
                  cases ho : own1 wq.heap.size with
                  | none => rfl
                  | some t => have := (hrx.dom _ t ho).2; omega
                have hrX := hrx.below hXb (Nat.le_refl _)
                have hfX := hfx.below hXb (Nat.le_refl _)
                have hcX := hcx.below hXb
                have hX3 : Below w.heap.size w X := hbx3.trans (hXb.mono hbx3.size)
                clear hX b0x b1x hXb hrx hfx hcx hrep hci hciW hbx hbx2
                go_loopw [14, 70] (fun okv iv wx => ∃ (j : Nat) (ok : Bool) (S2 : St) (own2 : Nat → Option Tag) (rv2 : Tag → Value), j ≤ 2 ∧ iv = .int .i64 j ∧ okv = .bool ok ∧ Rep cx wx own2 rv2 S2 ∧ RestS cx.V S2 ∧ Sim S1 S2 ∧ Frm own1 own2 X wx ∧ (ok = true ↔ (1 ≤ j ∧ Fol (cls S1) zl) ∨ (2 ≤ j ∧ By (cls S1) zl))) (fun _ iv _ => 2 - (intOf iv).toNat)
                case atStart => exact ⟨0, false, S1, own1, rv1, by omega, rfl, rfl, hrX, hrs, Sim.refl _, Frm.refl _ _, ⟨fun e => (by cases e), fun e => by rcases e with ⟨e, _⟩ | ⟨e, _⟩ <;> omega⟩⟩
                case round =>
                  obtain ⟨j, ok, S2, own2, rv2, hj, rfl, rfl, hR2, hS2, hs2, hF2, hok⟩ := hrel
                  have b1r := (hF2.cell (p := ⟨wo.heap.size, 1, none⟩) (cellLt b1X) hbxo).trans b1X
                  have f0r := (hF2.cell (p := ⟨wq.heap.size, 0, none⟩) (cellLt f0) hfno).trans f0
                  have f1r := (hF2.cell (p := ⟨wq.heap.size, 1, none⟩) (cellLt f1) hfno).trans f1
                  have hcr := hF2.ints2 hcX hfree
                  have hfr2 : Free2 own2 la zl := fun ad e hne => by
                    rw [hF2.lab _ (ints_lt2 hcX e hne)]; exact hfree ad e hne
                  have hN2 : S2.n ≤ 100000000 := by rw [hs2.n]; omega
                  have hL2 : ∀ i, i < S2.n → (S2.lits i).length ≤ 100000000 := fun i hi => by rw [(hs2.lits i).length_eq]; have := hl1 i (hs2.n ▸ hi); omega
                  clear b1X f0 f1
                  rcases (show j = 0 ∨ j = 1 ∨ j = 2 by omega) with rfl | rfl | rfl
                  · have hok0 : ok = false := by
                      cases ok with
                      | false => rfl
                      | true => rcases hok.1 rfl with ⟨e, _⟩ | ⟨e, _⟩ <;> omega
                    subst hok0
                    have hpl := plain_walk cx own2 rv2 S2 wr la q lc zl hR2 hS2 (by omega) (fun i hi => Nat.le_trans (hL2 i hi) (by omega)) (by omega) hln (by omega) hcr hfr2 hzV
                    go_wp2_with (go_at_call 27; refine hpl.mono ?_)
                    rintro e w3 ⟨b2, S3, own3, rv3, rfl, hR3, hF3, hS3, hs3, _, hif⟩
                    have hif2 : b2 = true ↔ Fol (cls S1) zl := hif.trans (fol_same (sim_sub hs2).2 (sim_sub hs2).1 fun _ => Iff.rfl)
                    go_wp2
                    go_roundw
                    case rel =>
                      refine ⟨1, b2, S3, own3, rv3, by omega, rfl, rfl, hR3, hS3, hs2.trans hs3, hF2.trans hF3, hif2.trans ⟨fun e => .inl ⟨by omega, e⟩, fun e => ?_⟩⟩
                      rcases e with ⟨_, e⟩ | ⟨e, _⟩
                      · exact e
                      · omega
                    case measure => simp [intOf]
                  · cases ok with
                    | true =>
                      have hF1 : Fol (cls S1) zl := by
                        rcases hok.1 rfl with ⟨_, e⟩ | ⟨e, _⟩
                        · exact e
                        · omega
                      go_wp2
                      go_roundw
                      case rel => exact ⟨2, true, S2, own2, rv2, by omega, rfl, rfl, hR2, hS2, hs2, hF2, ⟨fun _ => .inl ⟨by omega, hF1⟩, fun _ => rfl⟩⟩
                      case measure => simp [intOf]
                    | false =>
                      have hF1 : ¬ Fol (cls S1) zl := fun e => by cases hok.2 (.inl ⟨by omega, e⟩)
                      have hby := byC_walk cx own2 rv2 S2 wr la q lc zl hR2 hS2 hN2 hL2 (by omega) hln (by omega) hcr hfr2 hzV
                      go_wp2_with (go_at_call 28; refine hby.mono ?_)
                      rintro e w3 ⟨b2, S3, own3, rv3, rfl, hR3, hF3, hS3, hs3, hif⟩
                      have hif2 : b2 = true ↔ By (cls S1) zl := hif.trans ⟨by_sub (sim_sub hs2).2 (sim_sub hs2).1, by_sub (sim_sub hs2).1 (sim_sub hs2).2⟩
                      go_wp2
                      go_roundw
                      case rel =>
                        refine ⟨2, b2, S3, own3, rv3, by omega, rfl, rfl, hR3, hS3, hs2.trans hs3, hF2.trans hF3, hif2.trans ⟨fun e => .inr ⟨by omega, e⟩, fun e => ?_⟩⟩
                        rcases e with ⟨_, e⟩ | ⟨_, e⟩
                        · exact absurd e hF1
                        · exact e
                      case measure => simp [intOf]
                  · have hcl2 := sim_cls hs2
                    have hokL : ok = true ↔ Line1 ((cls S1).map setZ) zl := by
                      rw [hok, hL1]
                      exact ⟨fun e => e.imp (·.2) (·.2), fun e => e.imp (⟨by omega, ·⟩) (⟨by omega, ·⟩)⟩
                    have hbr : Below w.heap.size w wr := hX3.trans ((hF2.toBelow hrX).mono (by omega))
                    cases ok with
                    | false =>
                      have hE : ChkOut A w (.returned (.tuple #[.int .i64 (k : Int), .int .i64 60])) wr := by
                        rw [← hA1, play_no h200' hT fun e => by cases hokL.2 e]
                        exact ⟨rfl, hbr⟩
                      go_wp2
                      go_ret2
                      exact hE
                    | true =>
                      have hL2' := hokL.1 rfl
                      rcases Nat.eq_zero_or_pos q with hq0 | hq0
                      · subst hq0
                        obtain rfl : zl = [] := List.eq_nil_of_length_eq_zero hln
                        have hE : ChkOut A w (.returned (.tuple #[.int .i64 (-1), .int .i64 0])) wr := by
                          rw [← hA1, play_here h200' hL2']
                          exact ⟨rfl, hbr⟩
                        go_wp2
                        go_ret2
                        exact hE
                      · have hqn : ¬ (q : Int) = 0 := by omega
                        have hA2 := (play_add h200' hT hL2' (fun e => by rw [e] at hln; simp at hln; omega)).symm.trans hA1
                        have had := hA cx own2 rv2 S2 wr la q lc zl hR2 hS2 hln (by omega) hcr hzV (by omega) (by rw [hs2.n]; omega) (by rw [hs2.m]; omega) (fun v hv => ht v (hbr.trans (hv.mono (by omega))))
                        go_wp2_with (go_at_call 29; refine had.mono ?_)
                        rintro e w3 ⟨rfl, own3, rv3, hR3, hF3⟩
                        go_wp2
                        go_roundw
                        case rel =>
                          have hset := setZ_spec zl
                          refine ⟨k + 1, m + 1 + q, addS S2 (setZ zl), own3, rv3, hlt, (by simp), (by rw [hm1]), (by omega), hR3, add_rest hS2 (fun y hy => hzV y ((hset.2 y).1 hy)) hset.1, (hfX.trans hF2).trans hF3, ?_, ?_, ?_, ?_⟩
                          · rw [(addS_n S2 _).1, hs2.n]; omega
                          · rw [(addS_n S2 _).2.2.2.2.2.2, hs2.m]; omega
                          · exact lnz_lits (fun i hi => by rw [(hs2.lits i).length_eq]; exact hl1 i (hs2.n ▸ hi)) (Nat.le_trans (setZ_len _) (by omega))
                          · rw [← hA2, hln, add_cls, hcl2]
                        case measure => simp [intOf]; omega
      · have e0 : k = pn := by omega
        have hA2 : (if fd = true then (-1, 0) else ((k : Int), 60)) = A := by
          rw [← hA1, List.drop_of_length_le (by rw [List.length_map]; omega)]; rfl
        subst e0
        cases fd with
        | true =>
          have hE : ChkOut A w (.returned (.tuple #[.int .i64 (-1), .int .i64 0])) wo := by
            rw [← hA2]
            exact ⟨rfl, hbo⟩
          go_wp2
          go_ret2
          exact hE
        | false =>
          have hE : ChkOut A w (.returned (.tuple #[.int .i64 (k : Int), .int .i64 60])) wo := by
            rw [← hA2]
            exact ⟨rfl, hbo⟩
          go_wp2
          go_ret2
          exact hE
  · have hAq : A = (0, q) := by rw [← hAe]; unfold answerZ; rw [if_neg hq0]
    go_wp2_with (go_at_call 23; refine hck.mono ?_; rintro e w1 ⟨p1, hb1⟩; rw [p1]; clear p1)
    have hE : ChkOut A w (.returned (.tuple #[.int .i64 0, .int .i64 q])) w1 := by
      rw [hAq]
      exact ⟨rfl, hb0.trans (hb1.mono hb0.size)⟩
    go_ret2
    exact hE
end Go.Proofs.YtagfnjpjmmleiaaDoor

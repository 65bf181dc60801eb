/- Drat: does a clause follow by its first literal, by the checker? -/
import Derived.Test.YtagfnjpjmmleiaaDoorTI2
import Derived.Test.YtagfnjpjmmleiaaDoorPE
import Derived.Test.YtagfnjpjmmleiaaDoorTM0
import Derived.WalkMore
set_option linter.unusedVariables false
set_option linter.unusedSimpArgs false
set_option autoImplicit false
set_option linter.unusedVariables false
set_option linter.unusedSimpArgs false
namespace Go.Proofs.YtagfnjpjmmleiaaDoor
open Go.Shelf Go.RowKit
def By (cs : List (List Int)) (zs : List Int) : Prop := ∃ z, zs.head? = some z ∧ ∀ d ∈ cs, -z ∈ d → Fol cs (zs ++ others z d)
def ByOut (V : Nat) (S : St) (zs : List Int) (cx : Cx) (own : Nat → Option Tag) (w : World) (e : Ending) (w' : World) : Prop :=
  ∃ b S' own' rv', e = .returned (.bool b) ∧ Rep cx w' own' rv' S' ∧ Frm own own' w w' ∧ RestS V S' ∧ Sim S S' ∧ (b = true ↔ By (cls S) zs)
theorem sim_sub {S S' : St} (h : Sim S S') : SubS (cls S) (cls S') ∧ SubS (cls S') (cls S) := by
  constructor
  · intro c hc
    obtain ⟨i, h1, h2, rfl⟩ := mem_cls.1 hc
    exact ⟨S'.lits i, mem_cls.2 ⟨i, h.n ▸ h1, h.gone ▸ h2, rfl⟩, (sameM_perm (h.lits i)).symm⟩
  · intro c hc
    obtain ⟨i, h1, h2, rfl⟩ := mem_cls.1 hc
    exact ⟨S.lits i, mem_cls.2 ⟨i, h.n ▸ h1, h.gone ▸ h2, rfl⟩, sameM_perm (h.lits i)⟩
theorem sim_fol {S S' : St} (h : Sim S S') {zs : List Int} {z : Int} {i : Nat} : Fol (cls S') (zs ++ others z (S'.lits i)) ↔ Fol (cls S) (zs ++ others z (S.lits i)) :=
  fol_same (sim_sub h).2 (sim_sub h).1 fun x => by rw [List.mem_append, List.mem_append, others_mem, others_mem, (sameM_perm (h.lits i)) x]
/-- the row of those that have a literal, where it lies -/
theorem Rep.hasForm {cx : Cx} {w : World} {own : Nat → Option Tag} {rv : Tag → Value} {S : St} (h : Rep cx w own rv S) (c : Nat) : ∃ a cap, rv (.hr c) = .slice a (S.has c).length cap ∧ ∀ j, j < (S.has c).length → ∃ g, a = some ⟨g, 0, none⟩ ∧ own g = some (.hr c) ∧ w.cell? ⟨g, j, none⟩ = some (.int .i64 (((S.has c).getD j 0 : Nat) : Int)) := by
  have hr := h.rows (.hr c) rfl
  have hrow : w.ownsRow cx.lo 3 1 (rv (.hr c)) (S.has c).length (natC (S.has c)) := hr.row
  rcases hrow.2 with ⟨e1, e2⟩ | ⟨g, cap, cur, e1, hb, hg, hcap, _⟩
  · exact ⟨none, 0, by rw [e1, e2], fun j hj => by omega⟩
  · refine ⟨_, cap, e1, fun j hj => ⟨g, rfl, hr.lab g (by rw [e1]; rfl), ?_⟩⟩
    rw [e1] at hrow
    exact (owns_nat hrow hj).1
set_option maxHeartbeats 16000000 in
set_option maxRecDepth 1000000 in
theorem byC_walk (cx : Cx) (own : Nat → Option Tag) (rv : Tag → Value) (S : St) (w : World) (la : Option Addr) (ln lc : Nat) (zl : List Int) (h : Rep cx w own rv S) (hp : RestS cx.V S) (hN : S.n ≤ 100000000) (hL : ∀ i, i < S.n → (S.lits i).length ≤ 100000000) (hV : cx.V ≤ 999999990)
    (hln : zl.length = ln) (hl9 : ln ≤ 100000000) (hli : Ints w la zl) (hlf : Free2 own la zl) (hll : Lits (cx.V + 1) zl) :
    Calls Tryd.prog 28 #[.pointer (some ⟨cx.xb, 0, none⟩), .slice la ln lc] w (ByOut cx.V S zl cx own w) := by
  obtain ⟨i0, hi0, hz0, hz1, hz2⟩ := info_parts info3
  rcases Nat.eq_zero_or_pos ln with h0 | h0
  · subst h0
    obtain rfl : zl = [] := List.eq_nil_of_length_eq_zero hln
    have hE : ByOut cx.V S [] cx own w (.returned (.bool false)) w := ⟨false, S, own, rv, rfl, h, Frm.refl _ _, hp, Sim.refl _, ⟨fun e => (by cases e), fun ⟨z, e, _⟩ => (by cases e)⟩⟩
    go_enter Tryd.func28, Tryd.ntmps28
    go_wp2
    go_ret
    exact hE
  · obtain ⟨lb, lo', rfl, hlb, hlc⟩ := hli 0 (by omega)
    obtain ⟨z, hzz⟩ : ∃ z, zl.getD 0 0 = z := ⟨_, rfl⟩
    rw [hzz] at hlc
    have hzm : z ∈ zl := by rw [← hzz, List.getD_eq_getElem?_getD, List.getElem?_eq_getElem (by omega)]; exact List.getElem_mem _
    have hzh : zl.head? = some z := by rw [List.head?_eq_getElem?, ← hzz, List.getD_eq_getElem?_getD, List.getElem?_eq_getElem (by omega)]; rfl
    obtain ⟨hz0', hzV⟩ := hll z hzm
    have hlbo : own lb = none := hlf ⟨lb, lo', none⟩ rfl (by rintro rfl; cases hzm)
    obtain ⟨c, hc⟩ : ∃ c, codeZ (-z) = c := ⟨_, rfl⟩
    have hcV : c < 2 * cx.V + 2 := by rw [← hc]; exact codeZ_lt (by rw [Int.natAbs_neg]; exact hzV)
    have hlnB : ((ln : Int) == 0) = false := beq_false_of_ne (by omega)
    have hneg : IntKind.i64.wrap (-z) = -z := IntWalk.i64_in _ (by omega)
    have hcd := fun W : World => code_walk (-z) (by omega) (by omega) W
    simp only [hc] at hcd
    obtain ⟨ha, hacap, hhv, hhc⟩ := h.hasForm c
    obtain ⟨hn, hhn⟩ : ∃ m, (S.has c).length = m := ⟨_, rfl⟩
    rw [hhn] at hhv hhc
    have hhn9 : hn ≤ S.n := by rw [← hhn]; exact nodup_len (hp.core.hd c) fun j hj => ((hp.core.hs c j).1 hj).1
    have x3 : w.cell? ⟨cx.xb, 3, none⟩ = some (.slice (some ⟨cx.hb, 0, none⟩) (2 * cx.V + 2) cx.hc) := (h.x.cell 3 (by decide)).1
    have hcell : w.cell? ⟨cx.hb, c, none⟩ = some (.slice ha hn hacap) := by rw [← hhv]; exact (h.ht.cell c hcV).1
    have hcI : (c : Int) < 2 * (cx.V : Int) + 2 := by omega
    have hl0I : (0 : Int) < ln := by omega
    go_enter Tryd.func28, Tryd.ntmps28
    have hlc0 : w.cell? ⟨lb, lo', none⟩ = some (.int .i64 z) := hlc
    have hmem : ∀ j, j < hn → ∀ i, (S.has c).getD j 0 = i → i < S.n ∧ -z ∈ S.lits i := fun j hj i e => by
      have him : i ∈ S.has c := by rw [← e, List.getD_eq_getElem?_getD, List.getElem?_eq_getElem (by omega)]; exact List.getElem_mem _
      obtain ⟨h1, l, h2, h3⟩ := (hp.core.hs c i).1 him
      refine ⟨h1, ?_⟩
      have : l = -z := codeZ_inj (hp.core.li i h1 l h2).1 (by omega) (h3.trans hc.symm)
      rw [← this]; exact h2
    clear hlc
    go_wp2
    go_quiet (first | (go_at_call 38; refine Calls.quiet_of_same (hcd _)))
    go_wp2
    go_loopw [26] (fun iv wr => ∃ (k : Nat) (S1 : St) (own1 : Nat → Option Tag) (rv1 : Tag → Value), k ≤ hn ∧ iv = .int .i64 k ∧ Rep cx wr own1 rv1 S1 ∧ Frm own own1 w wr ∧ RestS cx.V S1 ∧ Sim S S1 ∧ HK rv rv1 ∧ ∀ j, j < k → ∀ i, (S.has c).getD j 0 = i → S.gone i = false → Fol (cls S) (zl ++ others z (S.lits i))) (fun iv _ => hn - (intOf iv).toNat)
    case atStart => exact ⟨0, S, own, rv, Nat.zero_le _, rfl, h.drewN _, (Frm.refl _ _).drewN _, hp, Sim.refl _, fun _ => rfl, fun j hj => by omega⟩
    case round =>
      clear x3 hcell
      obtain ⟨k, S1, own1, rv1, hk, rfl, hrep, hfr, hrs, hsm, hkr, hall⟩ := hrel
      obtain ⟨wo, hwo⟩ : ∃ x, x = wr := ⟨_, rfl⟩
      subst hwo
      have hlw : wo.cell? ⟨lb, lo', none⟩ = some (.int .i64 z) := (hfr.cell (p := ⟨lb, lo', none⟩) hlb hlbo).trans hlc0
      by_cases hlt : k < hn
      · obtain ⟨ha', hac', e1, hhc1⟩ := hrep.hasForm c
        rw [hkr c, hhv, hsm.has, hhn] at e1
        cases e1
        rw [hsm.has] at hhc1
        obtain ⟨hg, rfl, hgo, hck⟩ := hhc1 k (by rw [hhn]; exact hlt)
        clear hhc1 hhc
        obtain ⟨i, hi⟩ : ∃ i, (S.has c).getD k 0 = i := ⟨_, rfl⟩
        rw [hi] at hck
        obtain ⟨hin, hneg'⟩ := hmem k hlt i hi
        obtain ⟨ab, acap, hav, hao, hacell⟩ := hrep.allRow (show 0 < S1.n by rw [hsm.n]; omega)
        have c1 : wo.cell? ⟨cx.xb, 1, none⟩ = some (.slice (some ⟨ab, 0, none⟩) S.n acap) := by
          have := (hrep.x.cell 1 (by decide)).1
          rw [show fld cx rv1 S1 1 = rv1 .all from rfl, hav, hsm.n] at this; exact this
        obtain ⟨cl0, cg0, _⟩ := hacell i (by rw [hsm.n]; exact hin)
        have hmemi : -z ∈ S1.lits i := (hsm.lits i).mem_iff.2 hneg'
        obtain ⟨g, ccap, hcv, hcgo, hccell⟩ := hrep.clause (i := i) (List.length_pos_iff.2 (List.ne_nil_of_mem hmemi))
        obtain ⟨ys, hys⟩ : ∃ ys, S1.lits i = ys := ⟨_, rfl⟩
        rw [hcv] at cl0
        rw [hys] at cl0 hccell hmemi
        rw [hsm.gone] at cg0
        obtain ⟨yn, hyn⟩ : ∃ m, ys.length = m := ⟨_, rfl⟩
        rw [hyn] at cl0 hccell
        have hinI : (i : Int) < S.n := by omega
        have hltI : (k : Int) < hn := by omega
        clear hacell
        cases hg0 : S.gone i with
        | true =>
          rw [hg0] at cg0
          go_wp2
          go_step3
          go_wp2
          rw [Exit.noGoto_exit]
          go_wp2
          go_roundw
          case rel =>
            refine ⟨k + 1, S1, own1, rv1, hlt, (by simp), hrep.alloc _, hfr.alloc _, hrs, hsm, hkr, fun j hj i' hi' hg' => ?_⟩
            rcases Nat.lt_or_ge j k with h1 | h1
            · exact hall j h1 i' hi' hg'
            · obtain rfl : j = k := by omega
              rw [← hi', hi, hg0] at hg'; cases hg'
          case measure => simp [intOf]; omega
        | false =>
          rw [hg0] at cg0
          have hyl : yn ≤ 100000000 := by rw [← hyn, ← hys, (hsm.lits i).length_eq]; exact hL i hin
          have hyz : Lits (cx.V + 1) ys := by rw [← hys]; exact hrs.core.li i (by rw [hsm.n]; exact hin)
          have hl0w := hrep.lo_le
          go_wp2
          go_step3
          go_wp2
          go_step3
          go_wp2
          obtain ⟨W, hW⟩ : ∃ W, wo.alloc (Obj.cells #[Value.slice (some ⟨g, 0, none⟩) yn ccap, Value.bool false] 74) = W := ⟨_, rfl⟩
          rw [hW]
          have hWs : wo.heap.size < W.heap.size := by rw [← hW]; simp
          have hWb : Below wo.heap.size wo W := by rw [← hW]; exact (Below.refl _ _).alloc (Nat.le_refl _) _
          have hgs : g < wo.heap.size := (hrep.dom _ _ hcgo).2
          go_loopw [8, 42] (fun xv iv wx => ∃ (q nn : Nat), q ≤ yn ∧ iv = .int .i64 q ∧ wx.ownsRow W.heap.size 3 1 xv nn (intC (others z (ys.take q))) ∧ Below W.heap.size W wx) (fun _ iv _ => yn - (intOf iv).toNat)
          case atStart => exact ⟨0, 0, Nat.zero_le _, rfl, World.ownsRow_nil _ _ _ _, Below.refl _ _⟩
          case round =>
            obtain ⟨q, nn, hq, rfl, hown, hbx⟩ := hrel
            have hbx2 : Below wo.heap.size wo wr := hWb.trans (hbx.mono (by omega))
            have hlx : wr.cell? ⟨lb, lo', none⟩ = some (.int .i64 z) := (hbx2.cell (p := ⟨lb, lo', none⟩) (Nat.lt_of_lt_of_le hlb hfr.size)).trans hlw
            have hnn : (others z (ys.take q)).length = nn := by simpa [intC] using hown.1
            have hol : nn ≤ q := by
              have h1 := List.length_filter_le (fun y => !decide (y = -z)) (ys.take q)
              have h2 : (ys.take q).length ≤ q := by rw [List.length_take]; omega
              rw [← hnn]; exact Nat.le_trans h1 h2
            by_cases hql : q < yn
            · have hyc := (hbx2.cell (p := ⟨g, q, none⟩) hgs).trans (hccell q hql).1
              have hsq := take_snoc (zs := ys) (k := q) (by omega)
              obtain ⟨y, hy⟩ : ∃ y, ys.getD q 0 = y := ⟨_, rfl⟩
              rw [hy] at hyc hsq
              have hso : others z (ys.take (q + 1)) = others z (ys.take q) ++ (if y = -z then [] else [y]) := by rw [hsq, others_snoc]
              have hqI : (q : Int) < yn := by omega
              by_cases hxy : y = -z
              · have hxb : (y == -z) = true := by simp [hxy]
                rw [if_pos hxy, List.append_nil] at hso
                clear hxy
                go_wp2
                go_roundw
                case rel => exact ⟨q + 1, nn, hql, (by simp), (by rw [hso]; exact hown), hbx⟩
                case measure => simp [intOf]; omega
              · have hxb : (y == -z) = false := beq_false_of_ne hxy
                rw [if_neg hxy] at hso
                clear hxy
                go_wp2_with (first | (at_builtin; refine wpList_append_own _ rfl _ _ 33 rfl W.heap.size 3 i0 (.int .i64 0) 1 8 Tryd.underlying33 hi0 hz0 hz1 hz2 rfl (by decide) _ _ _ rfl (hown.alloc _) ⟨wr.heap.size, 0, none⟩ 1 1 [.int .i64 y] rfl rfl ?c1 ?c2 ?c3 ?c4 ?c5 ?_))
                case c1 =>
                  intro j u hj
                  match j, hj with
                  | 0, hj =>
                    simp at hj
                    subst hj
                    rw [add_plain]
                    exact cell_new wr _ _ _ 0
                case c2 => intro u hu; simp at hu; subst hu; rfl
                case c3 => unfold maxLen; omega
                case c4 => omega
                case c5 => have := hbx.size; simp; omega
                intro v' w1 hown' hgrow _
                have hlt' := hown.lt
                have hbx3 := (hbx.alloc (by exact hbx.size) _).grown hgrow (by have := hbx.size; simp; omega) (fun k hk => (hlt' k hk).1)
                have hown2 : w1.ownsRow W.heap.size 3 1 v' (nn + 1) (intC (others z (ys.take (q + 1)))) := by rw [hso]; simpa [intC] using hown'
                clear hgrow hown' hown hlt'
                go_wp2
                go_roundw
                case rel => exact ⟨q + 1, nn + 1, hql, (by simp), hown2, hbx3⟩
                case measure => simp [intOf]; omega
            · have e0 : q = yn := by omega
              have hfull : ys.take q = ys := List.take_of_length_le (by omega)
              rw [hfull] at hown hnn
              subst e0
              obtain ⟨ma, mc, rfl, _, hmi, hma⟩ := owns_ints hown
              have hrep2 := hrep.below hbx2 (Nat.le_refl _)
              have hfr2 := hfr.below hbx2 (Nat.le_refl _)
              have hlf2 : Free2 own1 (some ⟨lb, lo', none⟩) zl := fun ad e hne => by
                cases e
                rw [hfr.lab lb hlb]; exact hlbo
              have hmf2 : Free2 own1 ma (others z ys) := fun ad e hne => by
                obtain ⟨g', rfl, hg'⟩ := hma ad e
                have := (hown.lt g' hg').1
                cases ho : own1 g' with
                | none => rfl
                | some t => have := (hrep.dom g' t ho).2; omega
              have hlo2 : Lits (cx.V + 1) (others z ys) := fun y hy => hyz y (others_mem.1 hy).1
              have hfw := followsC_walk2 cx own1 rv1 S1 wr (some ⟨lb, lo', none⟩) ma ln lc nn mc zl (others z ys) hrep2 hrs (by rw [hsm.n]; omega) (fun j hj => by rw [(hsm.lits j).length_eq]; have := hL j (by rw [hsm.n] at hj; exact hj); omega) hV hln hnn (by omega) (by omega) (hfr2.ints2 hli hlf) hmi hlf2 hmf2 hll hlo2
              clear hown hmi hma
              go_wp2_with (go_at_call 37; refine hfw.mono ?_)
              rintro e w2 ⟨b, S2, own2, rv2, rfl, hR2, hF2, hrs2, hsm2, hk2, hiff⟩
              have hfol : b = true ↔ Fol (cls S) (zl ++ others z (S.lits i)) := by rw [hiff, ← hys]; exact sim_fol hsm
              cases b with
              | true =>
                go_wp2
                rw [Exit.noGoto_normal]
                go_wp2
                go_roundw
                case rel =>
                  refine ⟨k + 1, S2, own2, rv2, hlt, (by simp), hR2, hfr2.trans hF2, hrs2, hsm.trans hsm2, (fun c' => (hk2 c').trans (hkr c')), fun j hj i' hi' hg' => ?_⟩
                  rcases Nat.lt_or_ge j k with h1 | h1
                  · exact hall j h1 i' hi' hg'
                  · obtain rfl : j = k := by omega
                    obtain rfl : i' = i := by rw [← hi', hi]
                    exact hfol.1 trivial
                case measure => simp [intOf]; omega
              | false =>
                have hE : ByOut cx.V S zl cx own w (.returned (.bool false)) w2 := ⟨false, S2, own2, rv2, rfl, hR2, hfr2.trans hF2, hrs2, hsm.trans hsm2, ⟨fun e => (by cases e), fun ⟨z', e, hd⟩ => by
                  rw [hzh] at e
                  cases e
                  exact hfol.2 (hd _ (mem_cls.2 ⟨i, hin, hg0, rfl⟩) hneg')⟩⟩
                go_wp2
                rw [Exit.noGoto_ret]
                go_ret
                exact hE
      · have e0 : k = hn := by omega
        subst e0
        have hE : ByOut cx.V S zl cx own w (.returned (.bool true)) wo := ⟨true, S1, own1, rv1, rfl, hrep, hfr, hrs, hsm, ⟨fun _ => ⟨z, hzh, fun d hd hz => by
          obtain ⟨i, h1, h2, rfl⟩ := mem_cls.1 hd
          have him : i ∈ S.has c := (hp.core.hs c i).2 ⟨h1, -z, hz, hc⟩
          obtain ⟨j, hj, hji⟩ := List.mem_iff_getElem.1 him
          exact hall j (by omega) i (by rw [List.getD_eq_getElem?_getD, List.getElem?_eq_getElem hj]; exact hji) h2⟩, fun _ => rfl⟩⟩
        go_wp2
        go_ret
        exact hE
end Go.Proofs.YtagfnjpjmmleiaaDoor

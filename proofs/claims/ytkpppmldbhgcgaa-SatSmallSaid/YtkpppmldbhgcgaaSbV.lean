/- Sat: what a conflict teaches (learn), walked. -/
import Derived.Test.YtkpppmldbhgcgaaSbStoSbN
import Derived.BigRegion
import Derived.Deep.Cut
import Derived.Deep.CutRange
import Derived.Deep.LoopGhost
import Derived.StillTailTactics
set_option linter.unusedVariables false
set_option linter.unusedSimpArgs false
set_option autoImplicit false
set_option linter.unusedVariables false
set_option linter.unusedSimpArgs false
namespace Go.Proofs.Ytkpppmldbhgcgaa
open Go Go.RowKit
variable {lo n : Nat} {w : World} {own : Nat → Option Tg} {rv : Tg → Value} {S : Sz}
/-- where the solver's rows lie that learning reads -/
structure Heads (lo n T D : Nat) (rv : Tg → Value) (b gse cse gle cle gtr ctr grea crea : Nat) (ast : Option Addr) (cst : Nat) : Prop where
  x : rv .x = .pointer (some ⟨b, 0, none⟩)
  seen : rv .seen = .slice (some ⟨gse, 0, none⟩) n cse
  lev : rv .lev = .slice (some ⟨gle, 0, none⟩) n cle
  tr : rv .tr = .slice (some ⟨gtr, 0, none⟩) T ctr
  rea : rv .rea = .slice (some ⟨grea, 0, none⟩) n crea
  st : rv .st = .slice ast D cst
  lse : n ≤ cse
  lle : n ≤ cle
  ltr : T ≤ ctr
  lrea : n ≤ crea
theorem Rep.heads (h : Sol lo w own rv S) (wf : WF n S) {b T D : Nat} (hb : rv .x = .pointer (some ⟨b, 0, none⟩)) (hT : S.tr.length = T) (hD : S.st.length = D) (h0 : 0 < T) (hn : 0 < n) : ∃ gse cse gle cle gtr ctr grea crea ast cst, Heads lo n T D rv b gse cse gle cle gtr ctr grea crea ast cst := by
  obtain ⟨gse, cse, H1, _⟩ := h.headN (T := .seen) (m := 16) (n := n) hb rfl rfl (by show (S.seen.map _).length = n; rw [List.length_map]; exact wf.seen) hn
  obtain ⟨gle, cle, H2, _⟩ := h.headN (T := .lev) (m := 7) (n := n) hb rfl rfl (by show (S.lev.map _).length = n; rw [List.length_map]; exact wf.lev) hn
  obtain ⟨gtr, ctr, H3, _⟩ := h.headN (T := .tr) (m := 10) (n := T) hb rfl rfl (by show (S.tr.map _).length = T; rw [List.length_map]; exact hT) h0
  obtain ⟨grea, crea, H4, _⟩ := h.headN (T := .rea) (m := 8) (n := n) hb rfl rfl (by show (S.rea.map _).length = n; rw [List.length_map]; exact wf.rea) hn
  obtain ⟨ast, cst, H5⟩ := h.headX (T := .st) (m := 11) (k := D) hb rfl rfl (by show (S.st.map _).length = D; rw [List.length_map]; exact hD)
  exact ⟨_, _, _, _, _, _, _, _, _, _, hb, H1.val, H2.val, H3.val, H4.val, H5.val, H1.le, H2.le, H3.le, H4.le⟩
/-- the cells that learning reads -/
theorem Heads.cells {T D b gse cse gle cle gtr ctr grea crea : Nat} {ast : Option Addr} {cst : Nat} (H : Heads lo n T D rv b gse cse gle cle gtr ctr grea crea ast cst) (h : Sol lo w own rv S) :
    w.cell? ⟨b, 16, none⟩ = some (.slice (some ⟨gse, 0, none⟩) n cse) ∧ w.cell? ⟨b, 7, none⟩ = some (.slice (some ⟨gle, 0, none⟩) n cle) ∧ w.cell? ⟨b, 10, none⟩ = some (.slice (some ⟨gtr, 0, none⟩) T ctr) ∧ w.cell? ⟨b, 8, none⟩ = some (.slice (some ⟨grea, 0, none⟩) n crea) ∧ w.cell? ⟨b, 11, none⟩ = some (.slice ast D cst) := by
  have e1 := (h.fld H.x (m := 16) rfl).1
  have e2 := (h.fld H.x (m := 7) rfl).1
  have e3 := (h.fld H.x (m := 10) rfl).1
  have e4 := (h.fld H.x (m := 8) rfl).1
  have e5 := (h.fld H.x (m := 11) rfl).1
  rw [show conc rv (AC.ref Tg.seen) = _ from H.seen] at e1
  rw [show conc rv (AC.ref Tg.lev) = _ from H.lev] at e2
  rw [show conc rv (AC.ref Tg.tr) = _ from H.tr] at e3
  rw [show conc rv (AC.ref Tg.rea) = _ from H.rea] at e4
  rw [show conc rv (AC.ref Tg.st) = _ from H.st] at e5
  exact ⟨e1, e2, e3, e4, e5⟩
theorem Out.frm2 {B : Nat} {ov : Value} {out : List Int} {w' : World} (h : Out lo B w own ov out) (hF : Frm own own w w') : Out lo B w' own ov out := h.frm hF
theorem lit_facts {T D b gse cse gle cle gtr ctr grea crea : Nat} {ast : Option Addr} {cst : Nat} (HH : Heads lo n T D rv b gse cse gle cle gtr ctr grea crea ast cst) {own0 : Nat → Option Tg} {w0 : World} (hs : Sol lo w own rv S) (hF : Frm own0 own w0 w) (wf : WF n S) {B : Nat} {ov : Value} {out : List Int} (hO : Out lo B w own ov out) (hst : S.st.length = D)
    {l first op : Int} {ls : List Int} {res : Sz × List Int × Int} (hl : learnL (l :: ls) S first out op = some res) (hfb : first.natAbs ≤ 1000000) :
    l.natAbs ≤ 1000000 ∧ (l = first → learnL ls S first out op = some res) ∧ (l ≠ first → ∃ s d, l.natAbs < n ∧ w.cell? ⟨gse, l.natAbs, none⟩ = some (.bool s) ∧ w.frozen? ⟨gse, l.natAbs, none⟩ = false ∧ w.cell? ⟨gle, l.natAbs, none⟩ = some (.int .i64 d) ∧ (s = true ∨ d = 0 → learnL ls S first out op = some res) ∧
      (s = false → d ≠ 0 → ∃ S4, Calls Try.prog 50 #[.pointer (some ⟨b, 0, none⟩), .int .i64 l.natAbs] (w.setCell ⟨gse, l.natAbs, none⟩ (.bool true)) (fun e w' => e = .returned (.tuple #[]) ∧ Sol lo w' own rv S4 ∧ Frm own0 own w0 w' ∧ Out lo B w' own ov out ∧ w'.cell? ⟨b, 7, none⟩ = some (.slice (some ⟨gle, 0, none⟩) n cle) ∧ w'.cell? ⟨gle, l.natAbs, none⟩ = some (.int .i64 d) ∧ w'.cell? ⟨b, 11, none⟩ = some (.slice ast D cst)) ∧ WF n S4 ∧ SameL S S4 ∧
        (d = D → op < 100000000 ∧ learnL ls S4 first out (op + 1) = some res) ∧ (d ≠ D → out.length < 100000000 ∧ learnL ls S4 first (out ++ [l]) op = some res))) := by
  obtain ⟨h1, h2⟩ := learnL_eq hl
  have hbig := wf.ord.big
  by_cases h0 : l = first
  · exact ⟨by rw [h0]; exact hfb, h1, fun h => absurd h0 h⟩
  · obtain ⟨s, d, e1, e2, t1, t2, t3⟩ := h2 h0
    have hvn : l.natAbs < n := by have := len_of e1; rw [wf.seen] at this; exact this
    refine ⟨by omega, h1, fun _ => ⟨s, d, hvn, (hs.hcell HH.seen (u := vb s) (map_get e1)).1, (hs.hcell HH.seen (u := vb s) (map_get e1)).2, (hs.hcell HH.lev (u := vi d) (map_get e2)).1, fun h => ?_, fun h3 h4 => ?_⟩⟩
    · rcases h with h | h
      · exact t1 h
      · cases s with
        | true => exact t1 rfl
        | false => exact t2 rfl h
    · obtain ⟨S4, hS4, u1, u2⟩ := t3 h3 h4
      have hput := hs.putSeen hF HH.seen (i := l.natAbs) (by rw [wf.seen]; exact hvn) true
      have wf1 := seen_wf wf l.natAbs true
      have hgse : own gse = some .seen := ((hs.part .seen).1 rfl).lab gse (by rw [HH.seen]; rfl)
      have hO1 : Out lo B (w.setCell ⟨gse, l.natAbs, none⟩ (.bool true)) own ov out := hO.set hgse _
      have hrw := raise_walk hput.1 wf1 hS4
      obtain ⟨sl, _⟩ := raise_sameL hS4
      have sl' : SameL S S4 := (show SameL S { S with seen := S.seen.set l.natAbs true } from ⟨rfl, rfl, rfl, rfl, rfl⟩).trans sl
      rw [HH.x] at hrw
      rw [hst] at u1 u2
      refine ⟨S4, hrw.mono ?_, raiseO_wf wf1 hS4, sl', u1, u2⟩
      rintro e w' ⟨p1, p2, p3⟩
      obtain ⟨_, k2, _, _, k5⟩ := HH.cells p2
      exact ⟨p1, p2, hput.2.trans p3, hO1.frm p3, k2, (p2.hcell HH.lev (u := vi d) (map_get (by rw [sl'.lev]; exact e2))).1, k5⟩
set_option maxHeartbeats 16000000 in
set_option maxRecDepth 1000000 in
theorem learn_walk (h : Sol lo w own rv S) (wf : WF n S) {c : Nat} {r : Sz × List Int × Int} (hf : learnO S c = some r) (hlen : S.tr.length < 100000000) (h0 : 0 < S.tr.length) (hn : 0 < n) :
    Calls Try.prog 32 #[rv .x, rv (.cl c)] w fun e w' => ∃ ov, e = .returned (.tuple #[ov, .int .i64 r.2.2]) ∧ Sol lo w' own rv r.1 ∧ Frm own own w w' ∧ Out lo w.heap.size w' own ov r.2.1 := by
  obtain ⟨i0, hi0, hz0, hz1, hz2⟩ := info_parts' info3
  obtain ⟨b, hb, hlx, hlob, hbw⟩ := h.xb
  have hbig := wf.ord.big
  obtain ⟨T, hT⟩ : ∃ T, S.tr.length = T := ⟨_, rfl⟩
  obtain ⟨D, hD⟩ : ∃ T, S.st.length = T := ⟨_, rfl⟩
  rw [hT] at hlen h0
  obtain ⟨gse, cse, gle, cle, gtr, ctr, grea, crea, ast, cst, HH⟩ := h.heads wf hb hT hD h0 hn
  unfold learnO at hf
  obtain ⟨res, hres, hf⟩ := Option.bind_eq_some_iff.1 hf
  split at hf
  case isFalse => cases hf
  rename_i hro
  have hro : res.2.1.length < 100000000 := by unfold roomy at hro; exact of_decide_eq_true hro
  obtain ⟨q5, hq5, hf⟩ := Option.bind_eq_some_iff.1 hf
  dsimp only at hf
  rw [hT] at hres
  obtain ⟨_, _, f10, _, _⟩ := HH.cells h
  obtain ⟨B, hB⟩ : ∃ B, w.heap.size = B := ⟨_, rfl⟩
  have hlB : lo ≤ B := by omega
  have hout0 : Out lo B (w.alloc (.cells #[.int .i64 0] 3)) own (.slice (some ⟨w.heap.size, 0, none⟩) 1 1) [0] := by
    refine ⟨⟨rfl, .inr ⟨w.heap.size, 1, #[.int .i64 0], rfl, by omega, ?_, by decide, by decide, rfl, rfl⟩⟩, fun g hg => ?_, fun g hg => ?_⟩
    · show (w.heap.push _)[w.heap.size]? = _
      simp
    · cases hg
      cases ho : own w.heap.size with
      | none => rfl
      | some t => exact absurd (h.dom _ t ho).2 (Nat.lt_irrefl _)
    · have : w.heap.size = g := by simpa [Value.ownBlock] using hg
      omega
  rw [hB] at hout0
  have hself := Hid'.mk (And.intro (h.alloc (.cells #[.int .i64 0] 3)) (And.intro ((Frm.refl own w).alloc (.cells #[.int .i64 0] 3)) (And.intro wf (And.intro hout0 hres))))
  have f10' : (w.alloc (.cells #[.int .i64 0] 3)).cell? ⟨b, 10, none⟩ = some (.slice (some ⟨gtr, 0, none⟩) T ctr) := (HH.cells (h.alloc (.cells #[.int .i64 0] 3))).2.2.1
  obtain ⟨pc, hpc⟩ : ∃ pc, rv (.cl c) = pc := ⟨_, rfl⟩
  have hHH := Hid'.mk HH
  rw [hb, hpc]
  have hpc := Hid'.mk hpc
  have hq5 := Hid'.mk (And.intro hq5 (And.intro hf hro))
  clear h wf hlx hres hout0 HH hf hbw hro
  go_enter Try.func32, Try.ntmps32
  go_wp2
  go_loopg [1, 6, 7, 8, 9] (T + 1) (fun f cv ov opv ev fv wr => ∃ (c : Nat) (S1 : Sz) (out : List Int) (op first : Int) (e go co : Nat), cv = rv (.cl c) ∧ ov = .slice (some ⟨go, 0, none⟩) out.length co ∧ opv = .int .i64 op ∧ ev = .int .i64 ((e : Int) - 1) ∧ fv = .int .i64 first ∧ 0 ≤ op ∧ first.natAbs ≤ 1000000 ∧ e ≤ T ∧ out ≠ [] ∧ Sol lo wr own rv S1 ∧ Frm own own w wr ∧ WF n S1 ∧ Out lo B wr own (.slice (some ⟨go, 0, none⟩) out.length co) out ∧ S1.tr = S.tr ∧ S1.st = S.st ∧ S1.lev = S.lev ∧ S1.rea = S.rea ∧ learnF f S1 c first out op e = some res)
  case atStart => exact ⟨c, S, [0], 0, 0, T, B, 1, hpc.h.symm, rfl, rfl, rfl, rfl, by omega, by decide, Nat.le_refl _, by simp, hself.h.1, hself.h.2.1, hself.h.2.2.1, hself.h.2.2.2.1, rfl, rfl, rfl, rfl, hself.h.2.2.2.2⟩
  case round =>
    obtain ⟨c1, S1, out, op, first, e, go, co, rfl, rfl, rfl, rfl, rfl, hop, hfb, heT, hne, hs, hF, wf, hO, t1, t2, t3, t4, hl⟩ := hrel
    obtain ⟨f', z, r1, q, hgk, hz, hu1, hu2, hzl, hL, h0r, hscan, hend1, hend2⟩ := learnF_eq hl
    have HH := hHH.h
    obtain ⟨cb, hcb, hlc, _, _⟩ := hs.clb hz
    obtain ⟨N, hN⟩ : ∃ N, z.lits.length = N := ⟨_, rfl⟩
    obtain ⟨al, cl, HL⟩ := hs.headAt (T := .lits c1) (p := .cl c1) (b := cb) (m := 0) (k := N) rfl (by rw [hcb]; rfl) (by rw [mem_cls hz]; rfl) (by intro e; cases e) (by rw [mem_lits hz]; show (z.lits.map vi).length = _; rw [List.length_map]; exact hN)
    obtain ⟨u3, fu3⟩ : wr.cell? ⟨cb, 3, none⟩ = some (.int .i64 z.use) ∧ wr.frozen? ⟨cb, 3, none⟩ = false := by
      obtain ⟨b', e, _, _, _, q, q'⟩ := hs.cell (t := .cl c1) (m := 3) (u := vi z.use) (by rw [mem_cls hz]; rfl)
      rw [hcb] at e; cases e
      exact ⟨q, q'⟩
    have hput := hs.putUse hF hz hcb (z.use + 1)
    obtain ⟨W1, hW1⟩ : ∃ x, x = wr.setCell ⟨cb, 3, none⟩ (.int .i64 (z.use + 1)) := ⟨_, rfl⟩
    have hO1 : Out lo B W1 own (.slice (some ⟨go, 0, none⟩) out.length co) out := by rw [hW1]; exact hO.set hlc _
    rw [← hW1] at hput
    have hz1 : (S1.cls.set c1 { z with use := z.use + 1 })[c1]? = some { z with use := z.use + 1 } := List.getElem?_set_self (len_of hz)
    obtain ⟨S2, hS2⟩ : ∃ S2, S2 = { S1 with cls := S1.cls.set c1 { z with use := z.use + 1 } } := ⟨_, rfl⟩
    rw [← hS2] at hL hput
    have hz2 : S2.cls[c1]? = some { z with use := z.use + 1 } := by rw [hS2]; exact hz1
    have wf2 : WF n S2 := by rw [hS2]; exact use_wf wf _ _
    have hvl := HL.val
    have hNc := HL.le
    rw [hN] at hzl
    have c0 : W1.cell? ⟨cb, 0, none⟩ = some (.slice al N cl) := by
      obtain ⟨b', e, _, _, _, q, _⟩ := hput.1.cell (t := .cl c1) (m := 0) (u := .ref (.lits c1)) (by rw [mem_cls hz2]; rfl)
      rw [hcb] at e; cases e
      rw [q]
      exact congrArg some hvl
    have hat := HL.at_
    have e1 : S2.tr = S.tr ∧ S2.st = S.st ∧ S2.lev = S.lev ∧ S2.rea = S.rea := by rw [hS2]; exact ⟨t1, t2, t3, t4⟩
    have hK := Hid'.mk (And.intro hW1 (And.intro hput (And.intro hO1 (And.intro hz2 (And.intro wf2 (And.intro hvl (And.intro hat (And.intro e1 (And.intro hL (And.intro hN c0))))))))))
    have hK2 := Hid'.mk (And.intro hgk (And.intro h0r (And.intro hscan (And.intro hend1 hend2))))
    clear hW1 hput hO1 hz2 wf2 hvl hat e1 hL hN c0 hgk h0r hscan hend1 hend2 hz1 hS2 HL HH hs hF wf hO t1 t2 t3 t4 hl hz hlc hself
    rw [hcb]
    go_upto_region 6 with (fail)
    obtain ⟨hW1, hput, hO1, hz2, wf2, hvl, hat, e1, hL, hN, c0⟩ := hK.h
    rw [← hW1]
    clear hK hW1 u3 fu3
    have hK := Hid'.mk (And.intro hput (And.intro hO1 (And.intro hz2 (And.intro wf2 (And.intro hvl (And.intro hat (And.intro e1 (And.intro hL hN))))))))
    clear hput hO1 hz2 wf2 hvl hat e1 hL hN
    go_wp2
    obtain ⟨hput, hO1, hz2, wf2, hvl, hat, e1, hL, hN⟩ := hK.h
    have hA := Hid'.mk (And.intro hput.1 (And.intro hput.2 (And.intro wf2 (And.intro hO1 hL))))
    have hC := Hid'.mk (And.intro hz2 (And.intro hvl (And.intro hat (And.intro e1 hN))))
    clear hK hput hO1 hz2 wf2 hvl hat e1 hL hN c0
    go_loopw [6, 7, 39] (fun ov opv iv wy => ∃ (i : Nat) (S3 : Sz) (out : List Int) (op : Int) (go co : Nat), ov = .slice (some ⟨go, 0, none⟩) out.length co ∧ opv = .int .i64 op ∧ iv = .int .i64 i ∧ i ≤ N ∧ 0 ≤ op ∧ out ≠ [] ∧ Sol lo wy own rv S3 ∧ Frm own own w wy ∧ WF n S3 ∧ Out lo B wy own (.slice (some ⟨go, 0, none⟩) out.length co) out ∧ SameL S2 S3 ∧ learnL (z.lits.drop i) S3 first out op = some r1) (fun _ _ iv _ => N - (intOf iv).toNat)
    case atStart => exact ⟨0, S2, out, op, go, co, rfl, rfl, rfl, by omega, hop, hne, hA.h.1, hA.h.2.1, hA.h.2.2.1, hA.h.2.2.2.1, SameL.refl _, hA.h.2.2.2.2⟩
    case round =>
      obtain ⟨i, S3, out3, op3, go3, co3, rfl, rfl, rfl, hi, hop3, hne3, hs3, hF3, wf3, hO3, hsame, hl3⟩ := hrel
      obtain ⟨hz2, hvl, hat, e1, hN⟩ := hC.h
      have HH := hHH.h
      by_cases hlt : i < N
      ·
        -- [L
        obtain ⟨gl, hal, _⟩ := hat (by omega)
        subst hal
        have hdrop : z.lits.drop i = z.lits[i]'(by omega) :: z.lits.drop (i + 1) := List.drop_eq_getElem_cons (by omega)
        obtain ⟨l, hll⟩ : ∃ l, z.lits[i]'(by omega) = l := ⟨_, rfl⟩
        rw [hdrop, hll] at hl3
        have hst3 : S3.st.length = D := by rw [hsame.st, e1.2.1]; exact hD
        have hz3 : S3.cls[c1]? = some { z with use := z.use + 1 } := by rw [hsame.cls]; exact hz2
        have cgl := (hs3.hcell hvl (m := i) (u := vi l) (by rw [mem_lits hz3]; exact map_get (by show z.lits[i]? = _; rw [List.getElem?_eq_getElem (by omega), hll]))).1
        replace cgl : wr.cell? ⟨gl, i, none⟩ = some (.int .i64 l) := cgl
        obtain ⟨hlb, g1, g2⟩ := lit_facts HH hs3 hF3 wf3 hO3 hst3 hl3 hfb
        have habs := abs_walk l (by omega) (by omega)
        have hiI : (i : Int) < N := by omega
        have hiC : (i : Int) < cl := by omega
        obtain ⟨k16, k7, k10, k8, k11⟩ := HH.cells hs3
        obtain ⟨v, hv⟩ : ∃ v, l.natAbs = v := ⟨_, rfl⟩
        rw [hv] at g2 habs
        have hcs := HH.lse
        have hcl := HH.lle
        clear hll
        by_cases hlf : l = first
        ·
          -- [P
          have g3 := g1 hlf
          subst hlf
          have hE := Hid'.mk (And.intro hs3 (And.intro hF3 (And.intro wf3 (And.intro hO3 (And.intro hsame g3)))))
          clear hs3 hF3 wf3 hO3 hsame hl3 g1 g2 hz2 hvl hat e1 hN HH hC hA hdrop hst3 hz3
          go_wp2_with (go_at_call 46; refine (habs _).mono ?_; rintro e w9 ⟨p1, p2⟩; rw [p1, p2]; clear p1 p2)
          obtain ⟨m1, m2, m3, m4, m5, m6⟩ := hE.h
          go_roundw
          case rel => exact ⟨i + 1, S3, out3, op3, go3, co3, rfl, rfl, by simp, by omega, hop3, hne3, m1, m2, m3, m4, m5, m6⟩
          case measure => simp [intOf]; omega
          -- P]
        · obtain ⟨s, d, hvn, c1s, f1s, c1d, t1, t2⟩ := g2 hlf
          clear g2
          have hvI : (v : Int) < n := by omega
          cases s
          · by_cases hd0 : d = 0
            ·
              -- [Q
              have g3 := t1 (.inr hd0)
              subst hd0
              clear t1 t2
              have hE := Hid'.mk (And.intro hs3 (And.intro hF3 (And.intro wf3 (And.intro hO3 (And.intro hsame g3)))))
              clear hs3 hF3 wf3 hO3 hsame hl3 g1 hz2 hvl hat e1 hN HH hC hA hdrop hst3 hz3
              go_wp2_with (go_at_call 46; refine (habs _).mono ?_; rintro e w9 ⟨p1, p2⟩; rw [p1, p2]; clear p1 p2)
              obtain ⟨m1, m2, m3, m4, m5, m6⟩ := hE.h
              go_roundw
              case rel => exact ⟨i + 1, S3, out3, op3, go3, co3, rfl, rfl, by simp, by omega, hop3, hne3, m1, m2, m3, m4, m5, m6⟩
              case measure => simp [intOf]; omega
              -- Q]
            · obtain ⟨S4, hra, wf4, sl4, u1, u2⟩ := t2 rfl hd0
              have hd0' : (d == 0) = false := beq_false_of_ne hd0
              have hlf' : (l == first) = false := beq_false_of_ne hlf
              have hH4 := Hid'.mk (And.intro wf4 (And.intro (hsame.trans sl4) (And.intro u1 u2)))
              clear t1 t2 g1 hl3 hs3 hF3 wf3 hO3 hsame hz2 hvl hat e1 hN HH hC hA hdrop hst3 hz3 u1 u2 wf4 sl4
              by_cases hdD : d = D
              ·
                -- [R
                go_wp2_with (first | (go_at_call 46; refine (habs _).mono ?_; rintro e w9 ⟨p1, p2⟩; rw [p1, p2]; clear p1 p2) | (go_at_call 50; refine hra.mono ?_; rintro e w9 ⟨p1, p2, p3, p4, p5, p6, p7⟩; rw [p1]; clear p1))
                go_quiet (fail)
                go_upto_if 88 with (fail)
                have hE := Hid'.mk (And.intro (p2.drewN nq) (And.intro (p3.drewN nq) (p4.drewN nq)))
                clear p2 p3 p4 p5 p6 p7
                have hop9 : op3 < 100000000 := (hH4.h.2.2.1 hdD).1
                go_wp2
                obtain ⟨n1, n2, n3, _⟩ := hH4.h
                obtain ⟨m1, m2, m3⟩ := hE.h
                go_roundw
                case rel => exact ⟨i + 1, S4, out3, op3 + 1, go3, co3, rfl, by simp, by simp, by omega, by omega, hne3, m1, m2, n1, m3, n2, (n3 hdD).2⟩
                case measure => simp [intOf]; omega
                -- R]
              ·
                -- [T
                go_wp2_with (first | (go_at_call 46; refine (habs _).mono ?_; rintro e w9 ⟨p1, p2⟩; rw [p1, p2]; clear p1 p2) | (go_at_call 50; refine hra.mono ?_; rintro e w9 ⟨p1, p2, p3, p4, p5, p6, p7⟩; rw [p1]; clear p1))
                go_quiet (fail)
                have hdD' : (d == (D : Int)) = false := beq_false_of_ne hdD
                go_upto_if 88 with (fail)
                have hE := And.intro (p2.drewN nq) (And.intro (p3.drewN nq) (p4.drewN nq))
                clear p2 p3 p4 p5 p6 p7
                generalize w9.drewN nq = W9 at hE ⊢
                obtain ⟨hs9, hF9, hO9⟩ := hE
                have hol := (hH4.h.2.2.2 hdD).1
                obtain ⟨L3, hL3⟩ : ∃ L, out3.length = L := ⟨_, rfl⟩
                have own5 := (hO9.alloc (.cells #[.int .i64 l] 3)).row
                have hlo5 : lo ≤ (W9.alloc (.cells #[.int .i64 l] 3)).heap.size := by have := hF9.size; simp; omega
                have hend := fun v' w1 q1 q2 q3 => (hO9.alloc (.cells #[.int .i64 l] 3)).grow (v' := v') (w1 := w1) (x := l) (hs9.alloc (.cells #[.int .i64 l] 3)) q1 q2 q3 (hF9.alloc (.cells #[.int .i64 l] 3)) (by omega) (by have := hF9.size; simp; omega)
                rw [hL3] at own5 hend hol
                have cn := cell_new W9 #[.int .i64 l] 3 (0, 0) 0
                have hnews1 : ∀ (j0 : Nat) (u : Value), [Value.int .i64 l][j0]? = some u → (W9.alloc (.cells #[.int .i64 l] 3)).cell? ((⟨W9.heap.size, 0, none⟩ : Addr).add j0) = some u := by
                  intro j0 u hj
                  match j0, hj with
                  | 0, hj =>
                    simp at hj
                    subst hj
                    rw [add_plain]
                    exact cn
                have hone1 : ∀ u ∈ [Value.int .i64 l], u.oneCell' = true := by intro u hu; simp at hu; subst hu; rfl
                have hm63 : L3 + 1 ≤ maxLen := by unfold maxLen; omega
                have hmb : (L3 + 1) * 8 ≤ 140737488355328 := by omega
                have hendH := Hid'.mk hend
                have hL3H := Hid'.mk hL3
                clear hend hs9 hF9 hO9 hra cn
                rw [hL3]
                clear hL3
                go_upto_region 16 with (at_builtin; refine wpList_append_told _ rfl _ _ 40 rfl lo 3 i0 (.int .i64 0) 1 8 Try.underlying40 hi0 hz0 hz1 hz2 rfl (by decide) _ _ _ rfl own5 ⟨W9.heap.size, 0, none⟩ 1 1 [.int .i64 l] rfl rfl hnews1 hone1 (by decide) hm63 hmb hlo5 ?_)
                intro v' w1 q1 q2 gg q3 q4
                obtain ⟨m1, m2, m3⟩ := hendH.h v' w1 q1 q2 ⟨gg, q3, q4.imp id (fun hh => by simpa using hh)⟩
                rcases q1.2 with ⟨_, e9⟩ | ⟨g9, cap9, cur9, rfl, _⟩
                · omega
                have hE := Hid'.mk (And.intro m1 (And.intro m2 m3))
                clear hendH q1 q2 q3 q4 m1 m2 m3 own5 hlo5 hnews1 hone1 hm63 hmb
                go_wp2
                obtain ⟨n1, n2, _, n4⟩ := hH4.h
                obtain ⟨m1, m2, m3⟩ := hE.h
                have hlen : (out3 ++ [l]).length = L3 + 1 := by rw [List.length_append, List.length_singleton, hL3H.h]
                go_roundw
                case rel => exact ⟨i + 1, S4, out3 ++ [l], op3, g9, cap9, by rw [hlen], rfl, by simp, by omega, hop3, by simp, m2, m3, n1, by rw [hlen]; exact m1, n2, (n4 hdD).2⟩
                case measure => simp [intOf]; omega
                -- T]
          ·
            -- [S
            have g3 := t1 (.inl rfl)
            clear t1 t2
            have hE := Hid'.mk (And.intro hs3 (And.intro hF3 (And.intro wf3 (And.intro hO3 (And.intro hsame g3)))))
            clear hs3 hF3 wf3 hO3 hsame hl3 g1 hz2 hvl hat e1 hN HH hC hA hdrop hst3 hz3
            go_wp2_with (go_at_call 46; refine (habs _).mono ?_; rintro e w9 ⟨p1, p2⟩; rw [p1, p2]; clear p1 p2)
            obtain ⟨m1, m2, m3, m4, m5, m6⟩ := hE.h
            go_roundw
            case rel => exact ⟨i + 1, S3, out3, op3, go3, co3, rfl, rfl, by simp, by omega, hop3, hne3, m1, m2, m3, m4, m5, m6⟩
            case measure => simp [intOf]; omega
            -- S]
        -- L]
      · obtain rfl : i = N := by omega
        obtain ⟨hgk, h0r, hscan, hend1, hend2⟩ := hK2.h
        rw [List.drop_eq_nil_of_le (by omega)] at hl3
        have hr1 : r1 = (S3, out3, op3) := (Option.some.inj hl3).symm
        subst hr1
        dsimp only at h0r hscan hend1 hend2
        have hiI : ¬ (i : Int) < i := by omega
        obtain ⟨t1, t2, t3, t4⟩ : S3.tr = S.tr ∧ S3.st = S.st ∧ S3.lev = S.lev ∧ S3.rea = S.rea := ⟨hsame.tr.trans e1.1, hsame.st.trans e1.2.1, hsame.lev.trans e1.2.2.1, hsame.rea.trans e1.2.2.2⟩
        obtain ⟨k0, x0, s0, hek, _⟩ := scan_eq hscan
        have he1 : (e : Int) - 1 = (k0 : Int) := by omega
        obtain ⟨W3, hW3⟩ : ∃ x, x = wr := ⟨_, rfl⟩
        subst hW3
        have hA3 := Hid'.mk (And.intro hs3 (And.intro hF3 (And.intro wf3 (And.intro hO3 (And.intro t1 (And.intro t2 (And.intro t3 (And.intro t4 (And.intro hend1 (And.intro hend2 (And.intro hgk (And.intro hscan hek))))))))))))
        obtain ⟨k16, _, k10, _, _⟩ := HH.cells hs3
        have hcells3 : ∀ (k : Nat) (x : Int) (sx : Bool), S3.tr[k]? = some x → S3.seen[x.natAbs]? = some sx → W3.cell? ⟨gtr, k, none⟩ = some (.int .i64 x) ∧ x.natAbs < n ∧ W3.cell? ⟨gse, x.natAbs, none⟩ = some (.bool sx) ∧ W3.frozen? ⟨gse, x.natAbs, none⟩ = false := fun k x sx h1 h2 => ⟨(hs3.hcell HH.tr (u := vi x) (map_get h1)).1, by have := len_of h2; rw [wf3.seen] at this; exact this, (hs3.hcell HH.seen (u := vb sx) (map_get h2)).1, (hs3.hcell HH.seen (u := vb sx) (map_get h2)).2⟩
        have hcH := Hid'.mk hcells3
        have hk0T : k0 < T := by omega
        have hcse := HH.lse
        have hctr := HH.ltr
        clear hs3 hF3 wf3 hO3 hsame hl3 hz2 hvl hat e1 hN HH hC hA t1 t2 t3 t4 hend1 hend2 hgk hcells3 hK2
        go_wp2
        go_loopw [8] (fun ev wy => ∃ (k q' : Nat), ev = .int .i64 k ∧ wy = W3.drewN q' ∧ k < T ∧ scanO S3 (k + 1) = some q) (fun ev _ => (intOf ev).toNat)
        case atStart => exact ⟨k0, 0, rfl, rfl, hk0T, by have := hA3.h.2.2.2.2.2.2.2.2.2.2.2.1; rw [hA3.h.2.2.2.2.2.2.2.2.2.2.2.2] at this; exact this⟩
        case round =>
          obtain ⟨k, q', rfl, hwr, hkT, hsc⟩ := hrel
          obtain ⟨k', x, s, e9, hx, hs9, hq1, hq2⟩ := scan_eq hsc
          obtain rfl : k' = k := by omega
          obtain ⟨cx, hxn, csx, fsx⟩ := hcH.h k' x s hx hs9
          have habs := abs_walk x (by omega) (by omega)
          obtain ⟨v, hv⟩ : ∃ v, x.natAbs = v := ⟨_, rfl⟩
          rw [hv] at habs hxn csx fsx
          replace cx : wr.cell? ⟨gtr, k', none⟩ = some (.int .i64 x) := by rw [hwr]; exact cx
          replace csx : wr.cell? ⟨gse, v, none⟩ = some (.bool s) := by rw [hwr]; exact csx
          replace fsx : wr.frozen? ⟨gse, v, none⟩ = false := by rw [hwr]; exact fsx
          replace k16 : wr.cell? ⟨b, 16, none⟩ = some (.slice (some ⟨gse, 0, none⟩) n cse) := by rw [hwr]; exact k16
          replace k10 : wr.cell? ⟨b, 10, none⟩ = some (.slice (some ⟨gtr, 0, none⟩) T ctr) := by rw [hwr]; exact k10
          have hwrH := Hid'.mk hwr
          clear hwr
          have hkI : (k' : Int) < T := by omega
          have hvI : (v : Int) < n := by omega
          cases s
          ·
            -- [U
            have hsc2 := hq2 rfl
            obtain ⟨k2, _, _, e2, _⟩ := scan_eq hsc2
            have hE := Hid'.mk (And.intro hsc2 e2)
            have hk20 : (1 : Int) ≤ k' := by omega
            clear e2
            clear hq1 hq2 hsc hsc2 hx hs9 hA3 hcH e9
            go_wp2_with fail
            go_quiet (first | (go_at_call 46; refine Calls.quiet_of_same (habs _)))
            go_wp2
            go_roundw
            case rel => exact ⟨k2, q' + nq, by have := hE.h.2; congr 1; omega, by rw [hwrH.h, drewN2], by have := hE.h.2; omega, by have := hE.h.1; rw [hE.h.2] at this; exact this⟩
            case measure => simp [intOf]; omega
            -- U]
          · have hqe := hq1 rfl
            subst hqe
            have hSeen := hcH
            obtain ⟨hs3, hF3, wf3, hO3, t1, t2, t3, t4, hend1, hend2, hgk, _, hek⟩ := hA3.h
            have HH := hHH.h
            have hgse : own gse = some .seen := ((hs3.part .seen).1 rfl).lab gse (by rw [HH.seen]; rfl)
            have hput : ∀ q1, Sol lo ((wr.drewN q1).setCell ⟨gse, v, none⟩ (.bool false)) own rv { S3 with seen := S3.seen.set v false } ∧ Frm own own w ((wr.drewN q1).setCell ⟨gse, v, none⟩ (.bool false)) ∧ Out lo B ((wr.drewN q1).setCell ⟨gse, v, none⟩ (.bool false)) own (.slice (some ⟨go3, 0, none⟩) out3.length co3) out3 := fun q1 => by
              rw [hwrH.h, drewN2]
              generalize q' + q1 = q1
              have := (hs3.drewN q1).putSeen (hF3.drewN q1) HH.seen (i := v) (by rw [wf3.seen]; exact hxn) false
              exact ⟨this.1, this.2, (hO3.drewN q1).set hgse _⟩
            have wf5 := seen_wf wf3 v false
            dsimp only at hend1 hend2
            rw [hv] at hend1 hend2
            have hk'T : k' ≤ T := by omega
            have hop1 : 0 < op3 := h0r.1
            have hop2 : op3 ≤ 1000000000 := h0r.2
            by_cases hop : op3 = 1
            ·
              have hres5 := hend1 hop
              obtain ⟨hlv5, hr5, hro5⟩ := hq5.h
              rw [hres5] at hlv5 hr5 hro5
              dsimp only at hlv5 hr5 hro5
              have hop' : (op3 - 1 == 0) = true := by rw [hop]; rfl
              have hE := Hid'.mk (And.intro hput (And.intro wf5 (And.intro t3 (And.intro hlv5 (And.intro hr5 hro5)))))
              clear hput wf5 t1 t2 t3 t4 hlv5 hr5 hro5 hgk hs3 hF3 wf3 hO3 hend1 hend2 hek HH hA3 hcH hSeen hsc hq1 hq2 hx hs9 hscan e9 hres5 hq5
              go_wp2_with fail
              go_quiet (first | (go_at_call 46; refine Calls.quiet_of_same (habs _)))
              go_upto_region 23 with (go_at_call 46; refine (habs _).mono ?_; rintro e w9 ⟨p1, p2⟩; rw [p1, p2]; clear p1 p2)
              obtain ⟨hput, wf5, t3, hlv5, hr5, hro5⟩ := hE.h
              obtain ⟨m1, m2, m3⟩ := hput nq
              generalize (wr.drewN nq).setCell ⟨gse, v, none⟩ (.bool false) = W5 at m1 m2 m3 ⊢
              obtain ⟨g8, c8, e8, hL8, _, hgn8, hgB8, hcell8⟩ := m3.form hne3
              cases e8
              obtain ⟨y0, hy0⟩ : ∃ y, out3[0]? = some y := by
                cases out3 with
                | nil => exact absurd rfl hne3
                | cons a r => exact ⟨a, rfl⟩
              obtain ⟨z1, z2⟩ := hcell8 0 y0 hy0
              obtain ⟨L3, hL3⟩ : ∃ L, out3.length = L := ⟨_, rfl⟩
              have hL31 : 0 < L3 := by have := len_of hy0; omega
              have n1 := m1.foreign hgn8 (m := 0) (.int .i64 (-x))
              have n2 := m2.foreign (g := go3) (m := 0) (by omega) (.int .i64 (-x))
              have n3 := m3.put 0 (-x)
              rw [hL3] at hL8 hro5 n3
              obtain ⟨W6, hW6⟩ : ∃ w6, w6 = W5.setCell ⟨go3, 0, none⟩ (.int .i64 (-x)) := ⟨_, rfl⟩
              rw [← hW6] at n1 n2 n3
              have hN := Hid'.mk (And.intro hW6 (And.intro n1 (And.intro n2 (And.intro n3 (And.intro wf5 (And.intro t3 (And.intro hlv5 (And.intro hr5 (And.intro hL3 (And.intro hgn8 hgB8))))))))))
              have hL3I : (0 : Int) < L3 := by omega
              have hL1I : (1 : Int) ≤ L3 := by omega
              have hL8I : (L3 : Int) ≤ co3 := by omega
              rw [hL3]
              clear hput wf5 t3 hlv5 hr5 m1 m2 m3 hE k16 k10 cx csx fsx n1 n2 n3 hW6 hcell8 hL3 hgn8 hgB8 hwrH habs
              subst hop
              go_upto_region 28 with (fail)
              obtain ⟨hW6, n1, n2, n3, wf5, t3, hlv5, hr5, hL3, hgn8, hgB8⟩ := hN.h
              rw [← hW6]
              have hN := Hid'.mk (And.intro n1 (And.intro n2 (And.intro n3 (And.intro wf5 (And.intro t3 (And.intro hlv5 (And.intro hr5 (And.intro hL3 (And.intro hgn8 hgB8)))))))))
              clear hW6 n1 n2 n3 wf5 t3 hlv5 hr5 hL3 hgn8 hgB8 z1 z2
              go_cut [146, 147, 148] from 145 (fun sv nv iv wx => ∃ (a6 : Option Addr) (c6 : Nat), sv = .slice a6 (L3 - 1) c6 ∧ (1 < L3 → a6 = some ⟨go3, 1, none⟩) ∧ nv = .int .i64 ((L3 - 1 : Nat)) ∧ iv = .int .i64 0 ∧ wx = W6)
              case first =>
                -- [W
                clear hN
                by_cases hc1 : co3 = 1
                · have hL1 : L3 = 1 := by omega
                  subst hL1
                  subst hc1
                  go_wp2
                  go_meet
                  case rel => exact ⟨_, _, rfl, fun h => absurd h (by decide), rfl, rfl, rfl⟩
                · have hc1I : (1 : Int) < co3 := by omega
                  have hc1' : ¬ (1 = co3) := fun h => hc1 h.symm
                  go_wp2
                  go_meet
                  case rel => exact ⟨_, _, rfl, fun _ => rfl, rfl, rfl, rfl⟩
                -- W]
              case rest =>
                obtain ⟨a6, c6, hsv, ha6, hnv, hiv, hwx⟩ := hcut
                subst hsv hnv hiv hwx
                obtain ⟨n1, n2, n3, wf5, t3, hlv5, hr5, hL3, hgn8, hgB8⟩ := hN.h
                obtain ⟨M, hM⟩ : ∃ M, L3 - 1 = M := ⟨_, rfl⟩
                rw [hM]
                have hout0 : (out3.drop 1).length = M := by rw [List.length_drop, hL3]; exact hM
                obtain ⟨o0, ho0⟩ : ∃ o0, out3.set 0 (-x) = o0 := ⟨_, rfl⟩
                rw [ho0] at n3 hr5
                have hod : ∀ k : Nat, o0[k + 1]? = (out3.drop 1)[k]? := fun k => by
                  rw [← ho0, List.getElem?_set_ne (by omega), List.getElem?_drop]
                  congr 1
                  omega
                have hA7 := Hid'.mk (And.intro n1 (And.intro n2 (And.intro n3 (And.intro wf5 (And.intro t3 hlv5)))))
                have hC7 := Hid'.mk (And.intro hr5 (And.intro hout0 (And.intro hod (And.intro hgn8 (And.intro hgB8 (And.intro hL3 ho0))))))
                clear n1 n2 n3 wf5 t3 hlv5 hr5 hL3 hgn8 hgB8 hout0 hod ho0 hN
                go_wp2
                go_loopw [14, 15, 148] (fun lvv sv iv wy => ∃ (i : Nat) (S6 : Sz) (lv : Int) (sec : Nat), lvv = .int .i64 lv ∧ sv = .int .i64 sec ∧ iv = .int .i64 i ∧ i ≤ M ∧ sec ≤ M ∧ Sol lo wy own rv S6 ∧ Frm own own w wy ∧ WF n S6 ∧ Out lo B wy own (.slice (some ⟨go3, 0, none⟩) L3 co3) o0 ∧ S6.lev = S.lev ∧ levL ((out3.drop 1).drop i) S6 i lv sec = some q5) (fun _ _ iv _ => M - (intOf iv).toNat)
                case atStart => exact ⟨0, _, 0, 0, rfl, rfl, rfl, by omega, by omega, hA7.h.1, hA7.h.2.1, hA7.h.2.2.2.1, hA7.h.2.2.1, hA7.h.2.2.2.2.1, hA7.h.2.2.2.2.2⟩
                case round =>
                  obtain ⟨i7, S6, lv, sec, rfl, rfl, rfl, hi7, hsec, hs6, hF6, wf6, hO6, hlev6, hl6⟩ := hrel
                  obtain ⟨hr5, hout0, hod, hgn8, hgB8, hL3, ho0⟩ := hC7.h
                  have HH := hHH.h
                  by_cases hlt : i7 < M
                  ·
                    -- [X
                    obtain ⟨l, hll⟩ : ∃ l, (out3.drop 1)[i7]? = some l := ⟨_, List.getElem?_eq_getElem (by omega)⟩
                    have hdrop : (out3.drop 1).drop i7 = l :: (out3.drop 1).drop (i7 + 1) := by
                      rw [List.drop_eq_getElem_cons (by omega)]
                      congr 1
                      have := List.getElem?_eq_getElem (l := out3.drop 1) (i := i7) (by omega)
                      rw [this] at hll
                      exact Option.some.inj hll
                    rw [hdrop] at hl6
                    obtain ⟨s, d, e1, e2, t1, t2⟩ := lev_eq hl6
                    obtain ⟨v7, hv7⟩ : ∃ v, l.natAbs = v := ⟨_, rfl⟩
                    rw [hv7] at e1 e2 t1 t2
                    have hvn7 : v7 < n := by have := len_of e1; rw [wf6.seen] at this; exact this
                    have habs := abs_walk l (by omega) (by omega)
                    rw [hv7] at habs
                    have ha6' := ha6 (by omega)
                    subst ha6'
                    have hone : o0 ≠ [] := fun e => by have := hod i7; rw [e, hll] at this; cases this
                    obtain ⟨g9, c9, e9, _, _, _, _, hc9⟩ := hO6.form hone
                    cases e9
                    have cxl : wr.cell? ⟨go3, 1 + i7, none⟩ = some (.int .i64 l) := by
                      rw [Nat.add_comm]
                      exact (hc9 (i7 + 1) l (by rw [hod]; exact hll)).1
                    obtain ⟨csx, fsx⟩ := hs6.hcell HH.seen (u := vb s) (map_get e1)
                    replace csx : wr.cell? ⟨gse, v7, none⟩ = some (.bool s) := csx
                    obtain ⟨kse, _, _, _, _⟩ := HH.cells hs6
                    have hgse : own gse = some .seen := ((hs6.part .seen).1 rfl).lab gse (by rw [HH.seen]; rfl)
                    have hput := hs6.putSeen hF6 HH.seen (i := v7) (by rw [wf6.seen]; exact hvn7) false
                    have hE := Hid'.mk (And.intro hput.1.drew (And.intro hput.2.drew (And.intro ((hO6.set (m := v7) hgse (.bool false)).keep (w' := (wr.setCell ⟨gse, v7, none⟩ (.bool false)).drew) fun _ _ => rfl) (And.intro (HH.cells hput.1.drew).2.1 (show (wr.setCell ⟨gse, v7, none⟩ (.bool false)).drew.cell? ⟨gle, v7, none⟩ = some (.int .i64 d) from (hput.1.drew.hcell HH.lev (u := vi d) (map_get e2)).1)))))
                    have hvI : (v7 : Int) < n := by omega
                    have hcse := HH.lse
                    have hcle := HH.lle
                    have hiI : (i7 : Int) < M := by omega
                    have hM8 : M < 100000000 := by omega
                    clear hs6 hF6 hO6 hl6 hput hgse hc9 hr5 hout0 hod hgn8 hgB8 hL3 ho0 hA7 hC7 e1 e2 hdrop hll HH
                    by_cases h9 : lv < d
                    · have t3 := Hid'.mk (t1 h9)
                      clear t1 t2
                      go_wp2_with fail
                      go_still_tail 6, (by kernel_rfl)
                      still_call (habs _)
                      repeat still_step
                      refine wpStill_nil ?_
                      go_upto_region 32 with (fail)
                      obtain ⟨m1, m2, m3, m4, m5⟩ := hE.h
                      generalize (wr.setCell ⟨gse, v7, none⟩ (.bool false)).drew = W7 at m1 m2 m3 m4 m5 ⊢
                      have hE := Hid'.mk (And.intro m1 (And.intro m2 m3))
                      clear m1 m2 m3 kse csx fsx cxl
                      go_quiet (first | (go_at_call 46; refine Calls.quiet_of_same (habs _)))
                      go_wp2
                      obtain ⟨m1, m2, m3⟩ := hE.h
                      go_roundw
                      case rel => exact ⟨i7 + 1, _, d, i7 + 1, rfl, by simp, by simp, by omega, by omega, m1.drewN _, m2.drewN _, seen_wf wf6 v7 false, m3.drewN _, hlev6, t3.h⟩
                      case measure => simp [intOf]; omega
                    · have t3 := Hid'.mk (t2 h9)
                      clear t1 t2
                      go_wp2_with fail
                      go_still_tail 6, (by kernel_rfl)
                      still_call (habs _)
                      repeat still_step
                      refine wpStill_nil ?_
                      go_upto_region 32 with (fail)
                      obtain ⟨m1, m2, m3, m4, m5⟩ := hE.h
                      generalize (wr.setCell ⟨gse, v7, none⟩ (.bool false)).drew = W7 at m1 m2 m3 m4 m5 ⊢
                      have hE := Hid'.mk (And.intro m1 (And.intro m2 m3))
                      clear m1 m2 m3 kse csx fsx cxl
                      go_quiet (first | (go_at_call 46; refine Calls.quiet_of_same (habs _)))
                      go_wp2
                      obtain ⟨m1, m2, m3⟩ := hE.h
                      go_roundw
                      case rel => exact ⟨i7 + 1, _, lv, sec, rfl, rfl, by simp, by omega, by omega, m1.drewN _, m2.drewN _, seen_wf wf6 v7 false, m3.drewN _, hlev6, t3.h⟩
                      case measure => simp [intOf]; omega
                    -- X]
                  · obtain rfl : i7 = M := by omega
                    rw [List.drop_eq_nil_of_le (by omega)] at hl6
                    have hq5e : q5 = (S6, lv, sec) := (Option.some.inj hl6).symm
                    subst hq5e
                    dsimp only at hr5
                    have hre := (Option.some.inj hr5).symm
                    obtain ⟨hdv, _⟩ := fDiv_95 wf6.bump
                    obtain ⟨BM, hBM⟩ : ∃ x, S6.bump = x := ⟨_, rfl⟩
                    obtain ⟨DV, hDV⟩ : ∃ x, fDiv S6.bump c95 = x := ⟨_, rfl⟩
                    rw [hDV] at hdv hre
                    rw [hBM] at hdv
                    have hquo : ∀ W, (binOp .quo 57 (.float .f64 BM) (.float .f64 4606732058837280358)).run Try.prog W = .ok (.float .f64 DV) W := fun W => run_float_arith (h := hdv) ..
                    have hstf : ∀ (a : Addr) (x : Nat) (W : World), (store a (.float .f64 x)).run Try.prog W = stored Try.prog W a (.float .f64 x) .plain := fun a x W => run_store _ _ _ _ _ rfl
                    have hbx : own b = some .x := by
                      obtain ⟨b', e, hh, _⟩ := hs6.xb
                      rw [HH.x] at e; cases e; exact hh
                    have hbump : ∀ W o9, Sol lo W own rv S6 → Frm own own w W → Out lo B W own (.slice (some ⟨go3, 0, none⟩) L3 co3) o9 → (W.cell? ⟨b, 13, none⟩ = some (.float .f64 BM) ∧ W.frozen? ⟨b, 13, none⟩ = false) ∧ Sol lo (W.setCell ⟨b, 13, none⟩ (.float .f64 DV)) own rv { S6 with bump := DV } ∧ Frm own own w (W.setCell ⟨b, 13, none⟩ (.float .f64 DV)) ∧ Out lo B (W.setCell ⟨b, 13, none⟩ (.float .f64 DV)) own (.slice (some ⟨go3, 0, none⟩) L3 co3) o9 := by
                      intro W o9 q1 q2 q3
                      have c13 := q1.fld HH.x (m := 13) rfl
                      have hp := q1.putBump HH.x DV q2
                      refine ⟨⟨?_, c13.2⟩, hp.1, hp.2, q3.set hbx _⟩
                      have e := c13.1
                      rw [show conc rv (AC.val (Value.float FloatKind.f64 S6.bump)) = _ from rfl, hBM] at e
                      exact e
                    have hiI : ¬ (i7 : Int) < i7 := by omega
                    have hol : o0.length = L3 := by rw [← ho0, List.length_set]; exact hL3
                    by_cases h9 : 0 < sec
                    · have hs1 : 1 < L3 := by omega
                      have hone : o0 ≠ [] := fun e => by rw [e] at hol; simp at hol; omega
                      obtain ⟨g9, c9, e9, _, _, _, _, hc9⟩ := hO6.form hone
                      have eg : g9 = go3 := by injection e9 with e9 _; cases e9; rfl
                      subst eg
                      clear e9
                      obtain ⟨y1, hy1⟩ : ∃ y, o0[1]? = some y := ⟨_, List.getElem?_eq_getElem (by omega)⟩
                      obtain ⟨ys, hys⟩ : ∃ y, o0[sec]? = some y := ⟨_, List.getElem?_eq_getElem (by omega)⟩
                      obtain ⟨p1, p2⟩ := hc9 1 y1 hy1
                      obtain ⟨p3, p4⟩ := hc9 sec ys hys
                      obtain ⟨X, p5⟩ : ∃ X, (wr.setCell ⟨g9, 1, none⟩ (.int .i64 ys)).cell? ⟨g9, sec, none⟩ = some X := by
                        by_cases e : 1 = sec
                        · subst e; exact ⟨_, World.cell?_setCell_same _ _ _ p1⟩
                        · rw [World.cell?_setCell_other _ ⟨g9, 1, none⟩ ⟨g9, sec, none⟩ _ (by intro e2; injection e2; omega)]; exact ⟨_, p3⟩
                      have p6 : (wr.setCell ⟨g9, 1, none⟩ (.int .i64 ys)).frozen? ⟨g9, sec, none⟩ = false := by rw [World.frozen?_setCell]; exact p4
                      have hO7 := (hO6.put 1 ys).put sec y1
                      have hS7 := (hs6.foreign hgn8 (m := 1) (.int .i64 ys)).foreign hgn8 (m := sec) (.int .i64 y1)
                      have hF7 := (hF6.foreign (g := g9) (m := 1) (by omega) (.int .i64 ys)).foreign (g := g9) (m := sec) (by omega) (.int .i64 y1)
                      have hsv : (o0.set 1 ys).set sec y1 = swapV o0 1 sec := by
                        unfold swapV
                        rw [List.getD_eq_getElem?_getD, List.getD_eq_getElem?_getD, hy1, hys]
                        rfl
                      rw [hsv] at hO7
                      rw [if_pos h9] at hre
                      obtain ⟨W7, hW7⟩ : ∃ x, x = ((wr.setCell ⟨g9, 1, none⟩ (.int .i64 ys)).setCell ⟨g9, sec, none⟩ (.int .i64 y1)).drew := ⟨_, rfl⟩
                      obtain ⟨⟨b1, b2⟩, bE⟩ := hbump W7 _ (by rw [hW7]; exact hS7.drew) (by rw [hW7]; exact hF7.drew) (by rw [hW7]; exact hO7.keep fun _ _ => rfl)
                      have hE := Hid'.mk (And.intro hW7 (And.intro b1 (And.intro b2 (And.intro bE hre))))
                      have hsI : (sec : Int) < L3 := by omega
                      have h1I : (1 : Int) < L3 := by omega
                      have h9I : (0 : Int) < sec := by omega
                      clear hs6 hF6 wf6 hO6 hl6 hr5 hre hout0 hod hgn8 hgB8 hL3 ho0 hA7 hC7 HH hbump hO7 hS7 hF7 hsv hW7 b1 b2 bE hdv hBM hDV hol hy1 hys hc9
                      go_wp2_with fail
                      go_region
                      obtain ⟨hW7, b1, b2, bE, hre⟩ := hE.h
                      rw [← hW7]
                      have hE := Hid'.mk (And.intro bE hre)
                      clear hW7 bE hre p1 p2 p3 p4 p5 p6
                      go_wp2
                      go_ret2
                      obtain ⟨⟨q1, q2, q3⟩, hre⟩ := hE.h
                      rw [hre]
                      exact ⟨_, rfl, q1, q2, by first | exact q3 | (rw [hB]; exact q3)⟩
                    · rw [if_neg h9] at hre
                      have h9I : ¬ (0 : Int) < sec := by omega
                      obtain ⟨⟨b1, b2⟩, bE⟩ := hbump wr _ hs6 hF6 hO6
                      have hE := Hid'.mk (And.intro bE hre)
                      clear hs6 hF6 wf6 hO6 hl6 hr5 hre hout0 hod hgn8 hgB8 hL3 ho0 hA7 hC7 HH hbump bE hdv hBM hDV hol
                      go_wp2
                      go_ret2
                      obtain ⟨⟨q1, q2, q3⟩, hre⟩ := hE.h
                      rw [hre]
                      exact ⟨_, rfl, q1, q2, by first | exact q3 | (rw [hB]; exact q3)⟩
            ·
              -- [V
              obtain ⟨c9, hc9, hl9⟩ := hend2 hop
              have hop' : (op3 - 1 == 0) = false := beq_false_of_ne (by omega)
              have hreaC : ∀ W, Sol lo W own rv { S3 with seen := S3.seen.set v false } → W.cell? ⟨b, 8, none⟩ = some (.slice (some ⟨grea, 0, none⟩) n crea) ∧ W.cell? ⟨grea, v, none⟩ = some (rv (.cl c9)) := fun W hW => ⟨(HH.cells hW).2.2.2.1, (hW.hcell HH.rea (u := pro (some c9)) (map_get hc9)).1⟩
              have hcr := HH.lrea
              have hE := Hid'.mk (And.intro hput (And.intro wf5 (And.intro t1 (And.intro t2 (And.intro t3 (And.intro t4 (And.intro hl9 hgk)))))))
              have hRH := Hid'.mk hreaC
              clear hput wf5 t1 t2 t3 t4 hl9 hgk hs3 hF3 wf3 hO3 hend1 hend2 hek HH hA3 hcH hSeen hsc hq1 hq2 hx hs9 hreaC hc9 hscan e9
              go_wp2_with fail
              go_quiet (first | (go_at_call 46; refine Calls.quiet_of_same (habs _)))
              go_upto_region 23 with (go_at_call 46; refine (habs _).mono ?_; rintro e w9 ⟨p1, p2⟩; rw [p1, p2]; clear p1 p2)
              obtain ⟨hput, wf5, t1, t2, t3, t4, hl9, hgk⟩ := hE.h
              obtain ⟨m1, m2, m3⟩ := hput nq
              generalize (wr.drewN nq).setCell ⟨gse, v, none⟩ (.bool false) = W5 at m1 m2 m3 ⊢
              obtain ⟨r1, r2⟩ := hRH.h W5 m1
              have hM := Hid'.mk (And.intro m1 (And.intro m2 (And.intro m3 (And.intro wf5 (And.intro t1 (And.intro t2 (And.intro t3 (And.intro t4 (And.intro hl9 hgk)))))))))
              clear hput wf5 t1 t2 t3 t4 hl9 hgk m1 m2 m3 hE hRH k16 k10 cx csx fsx
              go_wp2
              obtain ⟨m1, m2, m3, wf5, t1, t2, t3, t4, hl9, hgk⟩ := hM.h
              go_roundg f'
              case measure => omega
              case rel => exact ⟨c9, _, out3, op3 - 1, x, k', go3, co3, rfl, rfl, rfl, rfl, rfl, by omega, by omega, hk'T, hne3, m1, m2, wf5, m3, t1, t2, t3, t4, hl9⟩
              -- V]
end Go.Proofs.Ytkpppmldbhgcgaa

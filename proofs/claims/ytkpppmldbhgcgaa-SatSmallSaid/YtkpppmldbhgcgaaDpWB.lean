/- Sat: the document's check of a proof (Proof), walked. -/
import Derived.Test.YtkpppmldbhgcgaaDpWA
import Derived.Test.YtkpppmldbhgcgaaDpRCtoDpPA
import Derived.Test.YtkpppmldbhgcgaaDpPBtoDpPC
import Derived.Deep.CutRange
import Derived.Deep.Onto
import Derived.Deep.RegionHeld3
import Derived.Deep.Cut
set_option linter.unusedVariables false
set_option linter.unusedSimpArgs false
set_option autoImplicit false
set_option linter.unusedVariables false
set_option linter.unusedSimpArgs false
namespace Go.Proofs.Ytkpppmldbhgcgaa.D
open Go.Proofs Go
open Go.Shelf Go.RowKit
/-- a line, where its clause lies -/
structure Ln where
  gone : Bool
  cl : Cl
  deriving Inhabited
def Lines (w : World) (a : Option Addr) (ls : List Ln) : Prop := ∀ j, j < ls.length → ∃ b off, a = some ⟨b, off, none⟩ ∧ b < w.heap.size ∧ w.cell? ⟨b, off + j * 2, none⟩ = some (.bool (ls.getD j default).gone) ∧ w.cell? ⟨b, off + j * 2 + 1, none⟩ = some (.slice (ls.getD j default).cl.a (ls.getD j default).cl.zs.length (ls.getD j default).cl.c) ∧ Ints w (ls.getD j default).cl.a (ls.getD j default).cl.zs
theorem Lines.below {w wr : World} {a : Option Addr} {ls : List Ln} (h : Lines w a ls) (hb : Below w.heap.size w wr) : Lines wr a ls := fun j hj => by
  obtain ⟨b, off, e1, e2, e3, e4, e5⟩ := h j hj
  exact ⟨b, off, e1, Nat.lt_of_lt_of_le e2 hb.size, (hb.cell (by exact e2)).trans e3, (hb.cell (by exact e2)).trans e4, e5.below hb⟩
theorem total_len (cs : List Cl) : ∀ k, k ≤ total cs k ∧ ∀ j, j < k → (cs.getD j default).zs.length ≤ total cs k
  | 0 => ⟨Nat.le_refl _, fun j hj => absurd hj (Nat.not_lt_zero _)⟩
  | k + 1 => by
    obtain ⟨h1, h2⟩ := total_len cs k
    show k + 1 ≤ total cs k + 1 + (cs.getD k default).zs.length ∧ ∀ j, j < k + 1 → (cs.getD j default).zs.length ≤ total cs k + 1 + (cs.getD k default).zs.length
    refine ⟨by omega, fun j hj => ?_⟩
    by_cases e : j = k
    · subst e; omega
    · have := h2 j (by omega); omega
theorem fair_lits {V : Nat} {zs : List Int} (h : fairZ (V : Int) zs = true) : Lits (V + 1) zs := by
  unfold fairZ at h
  rw [List.all_eq_true] at h
  intro x hx
  have := h x hx
  simp only [fair1, Bool.not_eq_true', Bool.or_eq_false_iff, decide_eq_false_iff_not] at this
  omega
theorem check_ok {vars : Int} {cs : List Cl} (h : checkZ vars cs = 0) : ∃ V : Nat, vars = V ∧ V ≤ 200000 ∧ cs.length ≤ 200000 ∧ (∀ j, j < cs.length → (cs.getD j default).zs.length ≤ 200000) ∧ ∀ j, j < cs.length → Lits (V + 1) (cs.getD j default).zs := by
  unfold checkZ at h
  split at h
  · cases h
  · split at h
    · cases h
    · split at h
      · rename_i h1 h2 h3
        obtain ⟨V, rfl⟩ : ∃ V : Nat, vars = V := ⟨vars.toNat, by omega⟩
        obtain ⟨t1, t2⟩ := total_len cs cs.length
        refine ⟨V, rfl, by omega, by omega, fun j hj => by have := t2 j hj; omega, fun j hj => ?_⟩
        unfold fairs at h3
        rw [List.all_eq_true] at h3
        refine fair_lits (h3 _ ?_)
        rw [List.getD_eq_getElem?_getD, List.getElem?_eq_getElem hj]
        exact List.getElem_mem _
      · cases h
def lnz (l : Ln) : Bool × List Int := (l.gone, l.cl.zs)
def ChkOut (A : Int × Int) (w : World) (e : Ending) (w' : World) : Prop := e = .returned (.tuple #[.int .i64 A.1, .int .i64 A.2]) ∧ Below w.heap.size w w'
theorem drop_ln {ls : List Ln} {k : Nat} (hk : k < ls.length) : (ls.map lnz).drop k = ((ls.getD k default).gone, (ls.getD k default).cl.zs) :: (ls.map lnz).drop (k + 1) := by
  rw [List.drop_eq_getElem_cons (by rw [List.length_map]; exact hk), List.getElem_map, List.getD_eq_getElem?_getD, List.getElem?_eq_getElem hk]; rfl
open Go.Shelf Go.RowKit
theorem any_snoc (cs : List Cl) (k : Nat) (hk : k < cs.length) : ((cs.take (k + 1)).any fun c => c.zs.isEmpty) = (((cs.take k).any fun c => c.zs.isEmpty) || (cs.getD k default).zs.isEmpty) := by
  rw [List.take_add_one, List.getElem?_eq_getElem hk, List.any_append, List.getD_eq_getElem?_getD, List.getElem?_eq_getElem hk]
  simp
theorem take_cl (cs : List Cl) (k : Nat) (hk : k < cs.length) : cs.take (k + 1) = cs.take k ++ [cs.getD k default] := by
  rw [List.take_add_one, List.getElem?_eq_getElem hk, List.getD_eq_getElem?_getD, List.getElem?_eq_getElem hk]
  rfl
set_option maxHeartbeats 32000000 in
set_option maxRecDepth 1000000 in
theorem proof_walk (a : Option Addr) (n c : Nat) (cs : List Cl) (vars : Int) (pa : Option Addr) (pn pc : Nat) (ls : List Ln) (w : World) (hn : cs.length = n) (hlen : n ≤ 1000000000) (hl : ∀ j, j < n → (cs.getD j default).zs.length ≤ 1000000000) (hz : Rows' w a cs)
    (hpn : ls.length = pn) (hp9 : pn ≤ 1000000000) (hpl : ∀ j, j < pn → (ls.getD j default).cl.zs.length ≤ 400000000) (hpz : Lines w pa ls) :
    Calls Try.prog 21 #[.agg #[.int .i64 vars, .slice a n c], .slice pa pn pc] w (ChkOut (answerZ vars (cs.map Cl.zs) (checkZ vars cs) (ls.map lnz)) w) := by
  obtain ⟨i0, hi0, hz0, hz1, hz2⟩ := info_parts info33
  have hb0 := (Below.refl w.heap.size w).alloc (Nat.le_refl _) (.cells #[Value.int .i64 vars, .slice a n c] 24)
  have k0 : (w.alloc (.cells #[Value.int .i64 vars, .slice a n c] 24)).cell? ⟨w.heap.size, 0, none⟩ = some (.int .i64 vars) := (cell_new ..).trans rfl
  have k1 : (w.alloc (.cells #[Value.int .i64 vars, .slice a n c] 24)).cell? ⟨w.heap.size, 1, none⟩ = some (.slice a n c) := (cell_new ..).trans rfl
  have hck := check_walk a n c cs vars _ hn (by omega) hl (hz.below hb0)
  obtain ⟨q, hq⟩ : ∃ q, checkZ vars cs = q := ⟨_, rfl⟩
  rw [hq] at hck ⊢
  obtain ⟨A, hAe⟩ : ∃ A, answerZ vars (cs.map Cl.zs) q (ls.map lnz) = A := ⟨_, rfl⟩
  rw [hAe]
  go_enter Try.func21, Try.ntmps21
  by_cases hq0 : q = 0
  · subst hq0
    go_wp2_with (go_at_call 11; refine hck.mono ?_; rintro e w1 ⟨p1, hb1⟩; rw [p1]; clear p1; have c0 := (hb1.cell (p := ⟨w.heap.size, 0, none⟩) (cellLt k0)).trans k0; have c1 := (hb1.cell (p := ⟨w.heap.size, 1, none⟩) (cellLt k1)).trans k1)
    have hbw1 := hb0.trans (hb1.mono hb0.size)
    clear k0 k1
    obtain ⟨V, rfl, g1, g2, g3, g4⟩ := check_ok hq
    obtain ⟨fd, hfd⟩ : ∃ b, (cs.any fun c => c.zs.isEmpty) = b := ⟨_, rfl⟩
    have hAns : playZ V fd (ls.map lnz) 0 0 ((cs.map Cl.zs).map setZ) = A := by
      rw [← hAe]
      unfold answerZ
      rw [if_pos rfl, ← hfd, List.any_map]
      rfl
    clear hAe
    have hsz1 : w.heap.size < w1.heap.size := cellLt (by assumption)
    go_loopw [7, 8, 9] (fun v ev iv wr => ∃ k : Nat, k ≤ n ∧ iv = .int .i64 k ∧ ev = .bool ((cs.take k).any fun c => c.zs.isEmpty) ∧ OwnCl wr w1.heap.size v (cs.take k) ∧ Below w1.heap.size w1 wr) (fun _ _ iv _ => n - (intOf iv).toNat)
    case atStart => exact ⟨0, Nat.zero_le _, rfl, rfl, World.ownsRow_nil _ _ _ _, Below.refl _ _⟩
    case round =>
      obtain ⟨k, hk, rfl, rfl, hown, hbx⟩ := hrel
      have d0 := (hbx.cell (p := ⟨w.heap.size, 0, none⟩) (cellLt c0)).trans c0
      have d1 := (hbx.cell (p := ⟨w.heap.size, 1, none⟩) (cellLt c1)).trans c1
      by_cases hlt : k < n
      · have hbw := hbw1.trans (hbx.mono hbw1.size)
        obtain ⟨b, off, rfl, hb, hc, hi⟩ := (hz.below hbw) k (by omega)
        have htl : (cs.take k).length = k := by rw [List.length_take]; omega
        have hkI : (k : Int) < n := by omega
        obtain ⟨v, hv⟩ : ∃ x, x = u7 := ⟨_, rfl⟩
        subst hv
        have hown2 : wr.ownsRow w1.heap.size 40 1 v k ((cs.take k).map rowV) := by
          have h := hown
          unfold OwnCl at h
          rw [htl] at h; exact h
        have hsn := any_snoc cs k (by omega)
        have htk := take_cl cs k (by omega)
        have htl1 : (cs.take (k + 1)).length = k + 1 := by rw [List.length_take]; omega
        obtain ⟨x, hx⟩ : ∃ x, cs.getD k default = x := ⟨_, rfl⟩
        rw [hx] at hc hi hsn htk
        obtain ⟨xa, hxa⟩ : ∃ t, x.a = t := ⟨_, rfl⟩
        obtain ⟨xc, hxc⟩ : ∃ t, x.c = t := ⟨_, rfl⟩
        obtain ⟨xn, hxn⟩ : ∃ t, x.zs.length = t := ⟨_, rfl⟩
        have hrv : rowV x = .slice xa xn xc := by unfold rowV; rw [hxa, hxn, hxc]
        have hxe : x.zs.isEmpty = decide (xn = 0) := by rw [← hxn]; cases x.zs <;> simp
        rw [hxa, hxn, hxc] at hc
        rw [hxe] at hsn
        obtain ⟨s, hs⟩ : ∃ s, ((cs.take k).any fun c => c.zs.isEmpty) = s := ⟨_, rfl⟩
        rw [hs] at hsn
        simp only [hs]
        have hend : ∀ v' w2, w2.ownsRow w1.heap.size 40 1 v' (k + 1) ((cs.take k).map rowV ++ [.slice xa xn xc]) → (wr.alloc (.cells #[.slice xa xn xc] 40)).grownBy w2 v.ownBlock → (OwnCl w2 w1.heap.size v' (cs.take (k + 1)) ∧ Below w1.heap.size w1 w2) ∧ (w2.cell? ⟨w.heap.size, 1, none⟩ = some (.slice (some ⟨b, off, none⟩) n c) ∧ w2.cell? ⟨b, off + k, none⟩ = some (.slice xa xn xc)) := by
          intro v' w2 h1 h2
          have hg := (hbx.alloc hbx.size (.cells #[.slice xa xn xc] 40)).grown h2 (by simp; have := hbx.size; omega) (fun g hg => (hown2.lt g hg).1)
          refine ⟨⟨?_, hg⟩, ?_, ?_⟩
          · unfold OwnCl
            rw [htl1, htk, List.map_append, List.map_singleton, hrv]
            exact h1
          · exact (hg.cell (p := ⟨w.heap.size, 1, none⟩) (cellLt c1)).trans c1
          · obtain ⟨b', off', e1, hb', hc', _⟩ := (hz.below hbw1) k (by omega)
            cases e1
            rw [hx, hxa, hxn, hxc] at hc'
            exact (hg.cell (p := ⟨b, off + k, none⟩) hb').trans hc'
        have hnew := cell_new wr #[.slice xa xn xc] 40 (0, 0) 0
        clear hown htl hrv hxe hxa hxc hxn hx hi
        cases s with
        | true =>
          go_wp2_with (first | (at_builtin; refine wpList_append_own _ rfl _ _ 22 rfl w1.heap.size 40 i0 (.slice none 0 0) 1 24 Try.underlying22 hi0 hz0 hz1 hz2 rfl (by decide) _ _ _ rfl (hown2.alloc _) ⟨wr.heap.size, 0, none⟩ 1 1 [.slice xa xn xc] rfl rfl ?c1 ?c2 ?c3 ?c4 ?c5 ?_))
          case c1 =>
            intro j u hj
            match j, hj with
            | 0, hj =>
              simp at hj
              subst hj
              rw [add_plain]
              exact hnew
          case c2 => intro u hu; simp at hu; subst hu; rfl
          case c3 => unfold maxLen; omega
          case c4 => omega
          case c5 => have := hbx.size; simp; omega
          intro v' w2 hown' hgrow _
          obtain ⟨⟨e1, e2⟩, e3, e4⟩ := hend v' w2 (by simpa using hown') hgrow
          clear hend hown' hgrow hnew hown2
          go_wp2
          go_roundw
          case rel => exact ⟨k + 1, hlt, (by simp), (by first | (rw [hsn]; done) | (rw [hsn]; rfl)), e1, e2⟩
          case measure => simp [intOf]; omega
        | false =>
          rw [Bool.false_or] at hsn
          by_cases hx0 : xn = 0
          · have hxB : ((xn : Int) == 0) = true := by simp [hx0]
            rw [decide_eq_true hx0] at hsn
            clear hx0
            go_wp2_with (first | (at_builtin; refine wpList_append_own _ rfl _ _ 22 rfl w1.heap.size 40 i0 (.slice none 0 0) 1 24 Try.underlying22 hi0 hz0 hz1 hz2 rfl (by decide) _ _ _ rfl (hown2.alloc _) ⟨wr.heap.size, 0, none⟩ 1 1 [.slice xa xn xc] rfl rfl ?c1 ?c2 ?c3 ?c4 ?c5 ?_))
            case c1 =>
              intro j u hj
              match j, hj with
              | 0, hj =>
                simp at hj
                subst hj
                rw [add_plain]
                exact hnew
            case c2 => intro u hu; simp at hu; subst hu; rfl
            case c3 => unfold maxLen; omega
            case c4 => omega
            case c5 => have := hbx.size; simp; omega
            intro v' w2 hown' hgrow _
            obtain ⟨⟨e1, e2⟩, e3, e4⟩ := hend v' w2 (by simpa using hown') hgrow
            clear hend hown' hgrow hnew hown2
            go_wp2
            go_roundw
            case rel => exact ⟨k + 1, hlt, (by simp), (by first | (rw [hsn]; done) | (rw [hsn]; rfl)), e1, e2⟩
            case measure => simp [intOf]; omega
          · have hxI : ¬ (xn : Int) = 0 := by omega
            have hxB : ((xn : Int) == 0) = false := beq_false_of_ne hxI
            rw [decide_eq_false hx0] at hsn
            clear hxI hx0
            go_wp2_with (first | (at_builtin; refine wpList_append_own _ rfl _ _ 22 rfl w1.heap.size 40 i0 (.slice none 0 0) 1 24 Try.underlying22 hi0 hz0 hz1 hz2 rfl (by decide) _ _ _ rfl (hown2.alloc _) ⟨wr.heap.size, 0, none⟩ 1 1 [.slice xa xn xc] rfl rfl ?c1 ?c2 ?c3 ?c4 ?c5 ?_))
            case c1 =>
              intro j u hj
              match j, hj with
              | 0, hj =>
                simp at hj
                subst hj
                rw [add_plain]
                exact hnew
            case c2 => intro u hu; simp at hu; subst hu; rfl
            case c3 => unfold maxLen; omega
            case c4 => omega
            case c5 => have := hbx.size; simp; omega
            intro v' w2 hown' hgrow _
            obtain ⟨⟨e1, e2⟩, e3, e4⟩ := hend v' w2 (by simpa using hown') hgrow
            clear hend hown' hgrow hnew hown2
            go_wp2
            go_roundw
            case rel => exact ⟨k + 1, hlt, (by simp), (by rw [hsn]), e1, e2⟩
            case measure => simp [intOf]; omega
      · have e0 : n = k := by omega
        have hfull : cs.take k = cs := List.take_of_length_le (by omega)
        subst e0
        rw [hfull] at hown
        simp only [hfull, hfd]
        go_wp2
        have hloc : ∀ x ∈ cs, Ints w x.a x.zs ∧ Lits (V + 1) x.zs ∧ x.zs.length ≤ 200000 := fun x hx => by
          obtain ⟨j, hj, rfl⟩ := List.getElem_of_mem hx
          have h1 := g3 j (by omega)
          have h2 := g4 j (by omega)
          obtain ⟨_, _, _, _, _, h3⟩ := hz j hj
          rw [List.getD_eq_getElem?_getD, List.getElem?_eq_getElem hj] at h1 h2 h3
          exact ⟨h3, h2, h1⟩
        obtain ⟨v, hv⟩ : ∃ x, x = u7 := ⟨_, rfl⟩
        subst hv
        go_loopw [7, 10, 11] (fun lv mv iv wx => ∃ (k m : Nat) (cl : List Cl), k ≤ pn ∧ iv = .int .i64 k ∧ mv = .int .i64 m ∧ m ≤ 200000 ∧ OwnCl wx w1.heap.size lv cl ∧ cl.length ≤ n + m ∧ (∀ x ∈ cl, Ints w x.a x.zs ∧ Lits (V + 1) x.zs ∧ x.zs.length ≤ 200000) ∧ Below w1.heap.size w1 wx ∧ playZ V fd ((ls.map lnz).drop k) k m ((cl.map Cl.zs).map setZ) = A) (fun _ _ iv _ => pn - (intOf iv).toNat)
        case atStart => exact ⟨0, 0, cs, Nat.zero_le _, rfl, rfl, by omega, hown, by omega, hloc, hbx, hAns⟩
        case round =>
          clear hAns d0 d1
          obtain ⟨k, m, cl, hk, rfl, rfl, hm2, hown, hcl, hloc, hbx, hA1⟩ := hrel
          obtain ⟨v, hv⟩ : ∃ x, x = u7 := ⟨_, rfl⟩
          subst hv
          have hbw := hbw1.trans (hbx.mono hbw1.size)
          have d0 := (hbx.cell (p := ⟨w.heap.size, 0, none⟩) (cellLt c0)).trans c0
          have d1 := (hbx.cell (p := ⟨w.heap.size, 1, none⟩) (cellLt c1)).trans c1
          by_cases hlt : k < pn
          · obtain ⟨b, off, rfl, hb, hgc, hcc, _⟩ := (hpz.below hbw) k (by omega)
            have hll := hpl k hlt
            have hdr := drop_ln (ls := ls) (k := k) (by omega)
            have hci : Ints w (ls.getD k default).cl.a (ls.getD k default).cl.zs := (hpz k (by omega)).choose_spec.choose_spec.2.2.2.2
            obtain ⟨x, hx⟩ : ∃ x, ls.getD k default = x := ⟨_, rfl⟩
            rw [hx] at hgc hcc hci hll hdr
            obtain ⟨g, hg⟩ : ∃ t, x.gone = t := ⟨_, rfl⟩
            obtain ⟨la, hla⟩ : ∃ t, x.cl.a = t := ⟨_, rfl⟩
            obtain ⟨lc, hlc⟩ : ∃ t, x.cl.c = t := ⟨_, rfl⟩
            obtain ⟨zl, hzl⟩ : ∃ t, x.cl.zs = t := ⟨_, rfl⟩
            rw [hg] at hgc hdr
            rw [hla, hlc, hzl] at hcc
            rw [hla, hzl] at hci
            rw [hzl] at hll hdr
            obtain ⟨ln, hln⟩ : ∃ t, zl.length = t := ⟨_, rfl⟩
            rw [hln] at hcc hll
            clear hx hg hla hlc hzl
            have hkI : (k : Int) < pn := by omega
            rw [hdr] at hA1
            by_cases h200 : 200000 < m + 1 + ln
            · have hE : ChkOut A w (.returned (.tuple #[.int .i64 (k : Int), .int .i64 2])) wr := by
                rw [← hA1, play_long (by rw [hln]; exact h200)]
                exact ⟨rfl, hbw⟩
              have h2I : (200000 : Int) < (m : Int) + 1 + (ln : Int) := by omega
              go_wp2
              go_ret2
              exact hE
            · have h2I : ¬ (200000 : Int) < (m : Int) + 1 + (ln : Int) := by omega
              have h200' : ¬ 200000 < m + 1 + zl.length := by rw [hln]; exact h200
              have hfw := fair_walk la ln lc zl (V : Int) wr hln (by omega) (by omega) (by omega) (hci.below hbw)
              have hm1 : ((m + 1 + ln : Nat) : Int) = (m : Int) + 1 + (ln : Int) := by omega
              cases hT : fairZ (V : Int) zl with
              | false =>
                rw [hT] at hfw
                have hE : ChkOut A w (.returned (.tuple #[.int .i64 (k : Int), .int .i64 40])) wr := by
                  rw [← hA1, play_form h200' hT]
                  exact ⟨rfl, hbw⟩
                go_wp2_with (go_at_call 19; refine hfw.mono ?_; rintro e w4 ⟨p1, p2⟩; rw [p1, p2]; clear p1 p2)
                go_ret2
                exact hE
              | true =>
                rw [hT] at hfw
                have hzV := fair_lits hT
                obtain ⟨va, vc, hva, hvc, hv0, hvg⟩ := hown.form
                have hrows := hown.rows hva fun x hx => (hloc x hx).1.below hbw
                cases g with
                | true =>
                  obtain ⟨wo, hwo⟩ : ∃ x, x = wr := ⟨_, rfl⟩
                  subst hwo
                  obtain ⟨cn, hcn⟩ : ∃ t, cl.length = t := ⟨_, rfl⟩
                  rw [hcn] at hva hvc
                  have hA2 := (play_gone h200' hT).symm.trans hA1
                  rw [hva]
                  go_wp2_with (go_at_call 19; refine hfw.mono ?_; rintro e w4 ⟨p1, p2⟩; rw [p1, p2]; clear p1 p2)
                  clear hfw
                  go_loopw [7, 14] (fun lv iv wx => ∃ j : Nat, j ≤ cn ∧ iv = .int .i64 j ∧ lv = .slice va cn vc ∧ Below wo.heap.size wo wx ∧ ∀ i, i < j → ¬ SameM (cl.getD i default).zs zl) (fun _ iv _ => cn - (intOf iv).toNat)
                  case atStart => exact ⟨0, Nat.zero_le _, rfl, rfl, Below.refl _ _, fun i hi => by omega⟩
                  case round =>
                    obtain ⟨j, hj, rfl, rfl, hby, hno⟩ := hrel
                    have hby2 : Below w.heap.size w wr := hbw.trans (hby.mono hbw.size)
                    by_cases hjl : j < cn
                    · obtain ⟨gb, rfl⟩ : ∃ gb, va = some ⟨gb, 0, none⟩ := by
                        cases va with
                        | none => have := hv0 rfl; omega
                        | some ad => obtain ⟨g, rfl⟩ := hvg ad rfl; exact ⟨g, rfl⟩
                      have hjc : (j : Int) < cn := by omega
                      have hownx := hown.below hby
                      rw [hva] at hownx
                      have hcell := hownx.cell (j := j) (by omega)
                      have hlx := hloc (cl.getD j default) (by rw [List.getD_eq_getElem?_getD, List.getElem?_eq_getElem (by omega)]; exact List.getElem_mem _)
                      obtain ⟨y, hy⟩ : ∃ y, cl.getD j default = y := ⟨_, rfl⟩
                      rw [hy] at hcell hlx
                      obtain ⟨ya, hya⟩ : ∃ t, y.a = t := ⟨_, rfl⟩
                      obtain ⟨yc, hyc⟩ : ∃ t, y.c = t := ⟨_, rfl⟩
                      obtain ⟨yn, hyn⟩ : ∃ t, y.zs.length = t := ⟨_, rfl⟩
                      have hrv : rowV y = .slice ya yn yc := by unfold rowV; rw [hya, hyn, hyc]
                      rw [hrv] at hcell
                      have hsm := same_walk y.a la y.zs.length y.c ln lc y.zs zl wr rfl hln (by omega) (by omega) (hlx.1.below hby2) (hci.below hby2)
                      rw [hya, hyc, hyn] at hsm
                      cases hsz : sameZ y.zs zl with
                      | false =>
                        rw [hsz] at hsm
                        go_wp2_with (go_at_call 36; refine hsm.mono ?_; rintro e w4 ⟨p1, hd⟩; rw [p1]; clear p1)
                        go_roundw
                        case rel =>
                          refine ⟨j + 1, hjl, (by simp), rfl, hd.below hby, fun i hi => ?_⟩
                          rcases Nat.lt_or_ge i j with h1 | h1
                          · exact hno i h1
                          · obtain rfl : i = j := by omega
                            rw [hy]
                            intro e
                            rw [sameZ_iff.2 e] at hsz
                            cases hsz
                        case measure => simp [intOf]; omega
                      | true =>
                        rw [hsz] at hsm
                        go_wp2_with (go_at_call 36; refine hsm.mono ?_; rintro e w4 ⟨p1, hd⟩; rw [p1]; clear p1)
                        have hw4 : Below wo.heap.size wo w4 := hd.below hby
                        have hown4 := hown.below hw4
                        rw [hva] at hown4
                        have hgb : gb < w4.heap.size := cellLt (hown4.cell (j := j) (by omega))
                        have lenA : ((cl.take j).map rowV).length = j * 1 := by rw [List.length_map, List.length_take]; omega
                        have lenB : ((cl.drop (j + 1)).map rowV).length = (cn - (j + 1)) * 1 := by rw [List.length_map, List.length_drop]; omega
                        have oneV : ∀ (l : List Cl) (u : Value), u ∈ l.map rowV → u.oneCell' = true := fun l u hu => by
                          obtain ⟨x, _, rfl⟩ := List.mem_map.1 hu
                          rfl
                        have hnA : ∀ i u, ((cl.take j).map rowV)[i]? = some u → w4.drew.cell? ((⟨gb, 0, none⟩ : Addr).add i) = some u := fun i u hu => by
                          rw [List.getElem?_map, Option.map_eq_some_iff] at hu
                          obtain ⟨x, hx, rfl⟩ := hu
                          rw [List.getElem?_take] at hx
                          split at hx
                          · have hi := (List.getElem?_eq_some_iff.1 hx).1
                            rw [add_plain, Nat.zero_add]
                            have := hown4.cell (j := i) hi
                            rw [List.getD_eq_getElem?_getD, hx] at this
                            exact this
                          · cases hx
                        have hnB : ∀ W, Below w4.heap.size w4 W → ∀ i u, ((cl.drop (j + 1)).map rowV)[i]? = some u → W.cell? ((⟨gb, j + 1, none⟩ : Addr).add i) = some u := fun W hW i u hu => by
                          rw [List.getElem?_map, Option.map_eq_some_iff] at hu
                          obtain ⟨x, hx, rfl⟩ := hu
                          rw [List.getElem?_drop] at hx
                          have hi := (List.getElem?_eq_some_iff.1 hx).1
                          rw [add_plain]
                          have := hown4.cell (j := j + 1 + i) hi
                          rw [List.getD_eq_getElem?_getD, hx] at this
                          exact (hW.cell (p := ⟨gb, j + 1 + i, none⟩) hgb).trans this
                        have hj1c : ((j : Int) + 1) ≤ cn := by omega
                        have hjN : j ≤ vc := by omega
                        have hj1N : j + 1 ≤ cn := by omega
                        have hcv : (cn : Int) ≤ vc := by omega
                        have hw1 : IntKind.i64.wrap ((j : Int) + 1) = (j : Int) + 1 := IntWalk.i64_in _ (by omega)
                        have hw2 : (0 : Int) ≤ (j : Int) + 1 := by omega
                        have hw3 : ((j : Int) + 1).toNat = j + 1 := by omega
                        have hw4' : (j : Int) ≤ vc := by omega
                        have hw5 : (0 : Int) ≤ (j : Int) := by omega
                        have hw6 : cn ≤ vc := hvc
                        have hbA : (0 + j) * 24 ≤ 140737488355328 := by omega
                        have hbB : (0 + j + (cn - (j + 1))) * 24 ≤ 140737488355328 := by omega
                        have hmA : 0 + j ≤ maxLen := by unfold maxLen; omega
                        have hmB : 0 + j + (cn - (j + 1)) ≤ maxLen := by unfold maxLen; omega
                        have hb4 : Below w4.heap.size w4 w4.drew := below_drewN (Below.refl _ _) 1
                        have hlen6 : (cl.take j ++ cl.drop (j + 1)).length = 0 + j + (cn - (j + 1)) := by rw [List.length_append, List.length_take, List.length_drop]; omega
                        have hend : ∀ v6 w6, w6.ownsRow w4.heap.size 40 1 v6 (0 + j + (cn - (j + 1))) (([] ++ (cl.take j).map rowV) ++ (cl.drop (j + 1)).map rowV) → Below w4.heap.size w4 w6 → OwnCl w6 w1.heap.size v6 (cl.take j ++ cl.drop (j + 1)) ∧ Below w4.heap.size w4 w6 := fun v6 w6 h1 h2 => by
                          refine ⟨?_, h2⟩
                          unfold OwnCl
                          rw [hlen6, List.map_append]
                          exact World.ownsRow.mono h1 (Nat.le_trans hbx.size hw4.size)
                        go_wp2_with fail
                        go_cut [7] from 77 to 98 (fun lv wx => OwnCl wx w1.heap.size lv (cl.take j ++ cl.drop (j + 1)) ∧ Below w4.heap.size w4 wx)
                        case first =>
                          rcases Nat.lt_or_ge (j + 1) vc with hjv | hjv
                          · have hjvI : (j : Int) + 1 < vc := by omega
                            have hjvN : ¬ vc = j + 1 := by omega
                            have hjvN2 : ¬ j + 1 = vc := by omega
                            have hjvN3 : ¬ vc - (j + 1) = 0 := by omega
                            go_region_held3 (fun w' => True) (exact trivial)
                              (first | (refine step_append_own (by rfl) _ _ _ (by rfl) w4.heap.size 40 i0 _ 1 24 Try.underlying22 hi0 hz0 hz1 hz2 rfl (by decide) (.slice none 0 0) 0 [] (by rfl) (World.ownsRow_nil _ _ _ _) ⟨gb, 0, none⟩ j _ ((cl.take j).map rowV) (by rfl) lenA hnA (oneV _) hmA hbA (Nat.le_refl _) ?_; intro v5 w5 ho5 hg5; have hb5 := hb4.grown hg5 (Nat.le_refl _) (fun g hg => by cases hg)) | (refine step_append_own (by rfl) _ _ _ (by rfl) w4.heap.size 40 i0 _ 1 24 Try.underlying22 hi0 hz0 hz1 hz2 rfl (by decide) v5 (0 + j) ([] ++ (cl.take j).map rowV) (by rfl) ho5 ⟨gb, j + 1, none⟩ (cn - (j + 1)) _ ((cl.drop (j + 1)).map rowV) (by rfl) lenB (hnB _ hb5) (oneV _) hmB hbB hb5.size ?_; intro v6 w6 ho6 hg6))
                            all_goals (go_wp2_with fail)
                            all_goals go_meet
                            all_goals exact hend _ _ ho6 (hb5.grown hg6 hb5.size (fun g hg => (ho5.lt g hg).1))
                          · obtain rfl : vc = j + 1 := by omega
                            obtain rfl : cn = j + 1 := by omega
                            have hq1 : (j : Int) ≤ (j : Int) + 1 := by omega
                            have hq2 : j ≤ j + 1 := by omega
                            have hq3 : ((j : Int) ≤ ((j + 1 : Nat) : Int)) := by omega
                            have hlast : ∀ v6 (w6 : World), w6.ownsRow w4.heap.size 40 1 v6 (0 + j + 0) (([] ++ (cl.take j).map rowV) ++ []) → w6.ownsRow w4.heap.size 40 1 v6 (0 + j + (j + 1 - (j + 1))) (([] ++ (cl.take j).map rowV) ++ (cl.drop (j + 1)).map rowV) := fun v6 w6 h => by
                              have e : cl.drop (j + 1) = [] := List.drop_of_length_le (by omega)
                              rw [e, Nat.sub_self]
                              exact h
                            go_region_held3 (fun w' => True) (exact trivial)
                              (first | (refine step_append_own (by rfl) _ _ _ (by rfl) w4.heap.size 40 i0 _ 1 24 Try.underlying22 hi0 hz0 hz1 hz2 rfl (by decide) (.slice none 0 0) 0 [] (by rfl) (World.ownsRow_nil _ _ _ _) ⟨gb, 0, none⟩ j _ ((cl.take j).map rowV) (by rfl) lenA hnA (oneV _) hmA hbA (Nat.le_refl _) ?_; intro v5 w5 ho5 hg5; have hb5 := hb4.grown hg5 (Nat.le_refl _) (fun g hg => by cases hg)) | (refine step_append_own (by rfl) _ _ _ (by rfl) w4.heap.size 40 i0 _ 1 24 Try.underlying22 hi0 hz0 hz1 hz2 rfl (by decide) v5 (0 + j) ([] ++ (cl.take j).map rowV) (by rfl) ho5 _ 0 _ [] (by rfl) rfl (fun i u hu => by simp at hu) (fun u hu => by cases hu) hmA hbA hb5.size ?_; intro v6 w6 ho6 hg6))
                            all_goals (go_wp2_with fail)
                            all_goals go_meet
                            all_goals exact hend _ _ (hlast _ _ ho6) (hb5.grown hg6 hb5.size (fun g hg => (ho5.lt g hg).1))
                        case rest =>
                          obtain ⟨ho7, hb7⟩ := hcut
                          have hcut2 := erase_cut (cs := cl.map Cl.zs) (c := zl) (k := j) (by rw [List.length_map]; omega) (by
                            rw [List.getD_eq_getElem?_getD, List.getElem?_map, List.getElem?_eq_getElem (by omega)]
                            have := sameZ_iff.1 hsz
                            rw [← hy, List.getD_eq_getElem?_getD, List.getElem?_eq_getElem (by omega)] at this
                            exact this)
                          have hb8 : Below wo.heap.size wo wc := hw4.trans (hb7.mono hw4.size)
                          have hA3 : playZ V fd ((ls.map lnz).drop (k + 1)) (k + 1) (m + 1 + ln) (((cl.take j ++ cl.drop (j + 1)).map Cl.zs).map setZ) = A := by
                            rw [← hA2, hln]
                            refine play_perm _ _ _ _ _ ?_
                            rw [List.map_append, List.map_take, List.map_drop]
                            exact hcut2
                          have hloc2 : ∀ x ∈ cl.take j ++ cl.drop (j + 1), Ints w x.a x.zs ∧ Lits (V + 1) x.zs ∧ x.zs.length ≤ 200000 := fun x hx => by
                            rcases List.mem_append.1 hx with h | h
                            · exact hloc x (List.mem_of_mem_take h)
                            · exact hloc x (List.mem_of_mem_drop h)
                          have hlen7 : (cl.take j ++ cl.drop (j + 1)).length ≤ n + (m + 1 + ln) := by rw [hlen6]; omega
                          go_wp2
                          go_roundw
                          case rel => exact ⟨k + 1, m + 1 + ln, _, hlt, (by simp), (by rw [hm1]), (by omega), ho7, hlen7, hloc2, hbx.trans (hb8.mono hbx.size), hA3⟩
                          case measure => simp [intOf]; omega
                    · have e00 : j = cn := by omega
                      have hA3 : playZ V fd ((ls.map lnz).drop (k + 1)) (k + 1) (m + 1 + zl.length) ((cl.map Cl.zs).map setZ) = A := by
                        rw [← hA2, erase_none]
                        intro d hd
                        obtain ⟨x, hx, rfl⟩ := List.mem_map.1 hd
                        obtain ⟨i, hi, rfl⟩ := List.getElem_of_mem hx
                        have := hno i (by omega)
                        rw [List.getD_eq_getElem?_getD, List.getElem?_eq_getElem hi] at this
                        exact this
                      rw [hln] at hA3
                      subst e00
                      go_wp2
                      go_roundw
                      case rel => exact ⟨k + 1, m + 1 + ln, cl, hlt, (by simp), (by rw [hm1]), (by omega), (by rw [← hva]; exact hown.below hby), (by omega), hloc, hbx.trans (hby.mono hbx.size), hA3⟩
                      case measure => simp [intOf]; omega
                | false =>
                  obtain ⟨cn, hcn⟩ : ∃ t, cl.length = t := ⟨_, rfl⟩
                  rw [hcn] at hva hvc
                  have hbw1s : w1.heap.size ≤ wr.heap.size := hbx.size
                  have hll' : ∀ j, j < cn → (cl.getD j default).zs.length ≤ 400000000 ∧ Lits (V + 1) (cl.getD j default).zs := fun j hj => by
                    have := hloc (cl.getD j default) (by rw [List.getD_eq_getElem?_getD, List.getElem?_eq_getElem (by omega)]; exact List.getElem_mem _)
                    exact ⟨by omega, this.2.1⟩
                  have hcsL : ∀ d ∈ cl.map Cl.zs, Lits (V + 1) d := fun d hd => by
                    obtain ⟨x, hx, rfl⟩ := List.mem_map.1 hd
                    exact (hloc x hx).2.1
                  have hfol := follows_walk va cn vc cl la ln lc zl V wr wr hcn (by omega) (fun j hj => by have := (hll' j hj).1; omega) hrows (Below.refl _ _) hln (by omega) (hci.below hbw) hzV (fun j hj => (hll' j hj).2) (by omega)
                  have hL1 : Line1 ((cl.map Cl.zs).map setZ) zl ↔ Line1 (cl.map Cl.zs) zl := line1_set
                  rw [hva]
                  go_wp2_with (first | (go_at_call 19; refine hfw.mono ?_; rintro e w4 ⟨p1, p2⟩; rw [p1, p2]; clear p1 p2) | (go_at_call 37; refine hfol.mono ?_))
                  rintro e w4 ⟨b1, hF, rfl, hb4⟩
                  have hFol := fol_iff' hcsL hzV hF
                  have d0 := (hb4.cell (p := ⟨w.heap.size, 0, none⟩) (cellLt d0)).trans d0
                  clear hfw hfol
                  cases b1 with
                  | true =>
                    have hL : Line1 ((cl.map Cl.zs).map setZ) zl := hL1.2 (.inl (hFol.1 rfl))
                    clear hFol
                    have hownz := hown.below hb4
                    have w4s : wr.heap.size ≤ w4.heap.size := hb4.size
                    have hnA : ∀ ad, va = some ad → ∀ i u, (cl.map rowV)[i]? = some u → w4.cell? (ad.add i) = some u := fun ad e i u hu => by
                      obtain ⟨gb, rfl⟩ := hvg ad e
                      rw [hva, e] at hownz
                      rw [List.getElem?_map, Option.map_eq_some_iff] at hu
                      obtain ⟨x, hx, rfl⟩ := hu
                      have hi := (List.getElem?_eq_some_iff.1 hx).1
                      rw [add_plain, Nat.zero_add]
                      have := hownz.cell (j := i) hi
                      rw [List.getD_eq_getElem?_getD, hx] at this
                      exact this
                    go_wp2_with (first | (at_builtin; refine wpList_append_any rfl _ _ 22 rfl wr.heap.size 40 i0 (.slice none 0 0) 1 24 Try.underlying22 hi0 hz0 hz1 hz2 rfl (by decide) (.slice none 0 0) 0 [] rfl (World.ownsRow_nil _ _ _ _) va cn vc (cl.map rowV) rfl ?d6 ?d0 hnA ?d2 ?d3 ?d4 ?d5 ?_))
                    case d6 => intro e; have := hv0 e; omega
                    case d0 => rw [List.length_map]; omega
                    case d2 => intro u hu; obtain ⟨x, _, rfl⟩ := List.mem_map.1 hu; rfl
                    case d3 => unfold maxLen; omega
                    case d4 => omega
                    case d5 => have := w4s; omega
                    intro v5 w5 ho5 hg5
                    have hb5 : Below wr.heap.size wr w5 := hb4.grown hg5 hb4.size (fun g hg => by cases hg)
                    have w5s : wr.heap.size ≤ w5.heap.size := hb5.size
                    go_wp2_with (first | (at_builtin; refine wpList_append_own _ rfl _ _ 22 rfl wr.heap.size 40 i0 (.slice none 0 0) 1 24 Try.underlying22 hi0 hz0 hz1 hz2 rfl (by decide) _ _ _ rfl (ho5.alloc _) ⟨w5.heap.size, 0, none⟩ 1 1 [.slice la ln lc] rfl rfl ?c1 ?c2 ?c3 ?c4 ?c5 ?_))
                    case c1 =>
                      intro j u hj
                      match j, hj with
                      | 0, hj =>
                        simp at hj
                        subst hj
                        rw [add_plain]
                        exact cell_new w5 _ _ _ 0
                    case c2 => intro u hu; simp at hu; subst hu; rfl
                    case c3 => unfold maxLen; omega
                    case c4 => omega
                    case c5 => have := w5s; simp; omega
                    intro v6 w6 ho6 hg6 _
                    have hb6 : Below wr.heap.size wr w6 := (hb5.alloc w5s (.cells #[.slice la ln lc] 40)).grown hg6 (by simp; omega) (fun g hg => by
                      have := (ho5.lt g hg)
                      omega)
                    have ho7 : OwnCl w6 w1.heap.size v6 (cl ++ [⟨la, lc, zl⟩]) := by
                      have h : w6.ownsRow wr.heap.size 40 1 v6 (cn + 1) (cl.map rowV ++ [.slice la ln lc]) := by first | exact ho6 | simpa using ho6
                      unfold OwnCl
                      rw [List.length_append, hcn, List.map_append, List.map_singleton, show rowV ⟨la, lc, zl⟩ = .slice la ln lc by unfold rowV; rw [hln], show cn + [(⟨la, lc, zl⟩ : Cl)].length = cn + 1 by simp]
                      exact World.ownsRow.mono h hbw1s
                    clear ho6 ho5 hg6 hg5 hnA hownz
                    rcases Nat.eq_zero_or_pos ln with hq0 | hq0
                    · have hqB : ((ln : Int) == 0) = true := by simp [hq0]
                      have hzn : zl = [] := List.eq_nil_of_length_eq_zero (hln.trans hq0)
                      have hE : ChkOut A w (.returned (.tuple #[.int .i64 (-1), .int .i64 0])) w6 := by
                        subst hzn
                        rw [← hA1, play_here h200' hL]
                        exact ⟨rfl, hbw.trans (hb6.mono hbw.size)⟩
                      clear hq0 hzn
                      go_wp2
                      go_ret2
                      exact hE
                    · have hqB : ((ln : Int) == 0) = false := beq_false_of_ne (by omega)
                      have hA2 := (play_add h200' hT hL (fun e => by rw [e] at hln; simp at hln; omega)).symm.trans hA1
                      have hA3 : playZ V fd ((ls.map lnz).drop (k + 1)) (k + 1) (m + 1 + ln) (((cl ++ [(⟨la, lc, zl⟩ : Cl)]).map Cl.zs).map setZ) = A := by
                        rw [← hA2, hln, List.map_append, List.map_append]; rfl
                      have hloc2 : ∀ x ∈ cl ++ [(⟨la, lc, zl⟩ : Cl)], Ints w x.a x.zs ∧ Lits (V + 1) x.zs ∧ x.zs.length ≤ 200000 := fun x hx => by
                        rcases List.mem_append.1 hx with h | h
                        · exact hloc x h
                        · rw [List.mem_singleton.1 h]; exact ⟨hci, hzV, by show zl.length ≤ _; omega⟩
                      have hlen7 : (cl ++ [(⟨la, lc, zl⟩ : Cl)]).length ≤ n + (m + 1 + ln) := by rw [List.length_append]; simp; omega
                      go_wp2
                      go_roundw
                      case rel => exact ⟨k + 1, m + 1 + ln, _, hlt, (by simp), (by rw [hm1]), (by omega), ho7, hlen7, hloc2, hbx.trans (hb6.mono hbx.size), hA3⟩
                      case measure => simp [intOf]; omega
                  | false =>
                    have hnF : ¬ Fol (cl.map Cl.zs) zl := fun e => by cases hFol.2 e
                    clear hFol
                    have hbw4 := hbw.trans (hb4.mono hbw.size)
                    rcases Nat.eq_zero_or_pos ln with hl0 | hl0
                    · have hzn : zl = [] := List.eq_nil_of_length_eq_zero (hln.trans hl0)
                      have hE : ChkOut A w (.returned (.tuple #[.int .i64 (k : Int), .int .i64 60])) w4 := by
                        rw [← hA1, play_no h200' hT fun e => by
                          rcases hL1.1 e with e | ⟨z, e, _⟩
                          · exact hnF e
                          · rw [hzn] at e; cases e]
                        exact ⟨rfl, hbw4⟩
                      clear hzn
                      subst hl0
                      clear hln
                      go_wp2_with (go_at_call 38; refine (byf_nil _ la lc (V : Int) _).mono ?_; rintro e w6 ⟨p1, p2⟩; rw [p1, p2]; clear p1 p2)
                      go_ret2
                      exact hE
                    · obtain ⟨cb, co, rfl, hcb, _⟩ := hci 0 (by omega)
                      have hzm : zl.getD 0 0 ∈ zl := by rw [List.getD_eq_getElem?_getD, List.getElem?_eq_getElem (by omega)]; exact List.getElem_mem _
                      have hzh : zl.head? = some (zl.getD 0 0) := by rw [List.head?_eq_getElem?, List.getD_eq_getElem?_getD, List.getElem?_eq_getElem (by omega)]; rfl
                      have hby := byf_walk va cn vc cl cb co ln lc zl V w4 w4 hcn (by omega) (fun j hj => (hll' j hj).1) (hrows.below hb4) (Below.refl _ _) hln hl0 hll (hci.below hbw4) hzV (fun j hj => (hll' j hj).2) (by omega)
                      go_wp2_with (go_at_call 38; refine hby.mono ?_)
                      rintro e w5 ⟨b2, hB, rfl, hb5⟩
                      have hBy := by_iff hcsL hzV hB (fun d hd => hcsL d hd)
                      have hbr5 : Below wr.heap.size wr w5 := hb4.trans (hb5.mono hb4.size)
                      have hbw5 := hbw.trans (hbr5.mono hbw.size)
                      clear hby
                      cases b2 with
                      | false =>
                        have hE : ChkOut A w (.returned (.tuple #[.int .i64 (k : Int), .int .i64 60])) w5 := by
                          rw [← hA1, play_no h200' hT fun e => by
                            rcases hL1.1 e with e | ⟨z, e, h⟩
                            · exact hnF e
                            · rw [hzh] at e
                              cases e
                              cases hBy.2 h]
                          exact ⟨rfl, hbw5⟩
                        clear hBy
                        go_wp2
                        go_ret2
                        exact hE
                      | true =>
                        obtain ⟨wA, hwA⟩ : ∃ x, x = w5 := ⟨_, rfl⟩
                        subst hwA
                        have hbA := hbr5
                        have hL : Line1 ((cl.map Cl.zs).map setZ) zl := hL1.2 (.inr ⟨_, hzh, hBy.1 rfl⟩)
                        clear hBy
                        obtain ⟨la, hla⟩ : ∃ t, (some ⟨cb, co, none⟩ : Option Addr) = t := ⟨_, rfl⟩
                        rw [hla] at hci ⊢
                        have hownz := hown.below hbA
                        have wAs : wr.heap.size ≤ wA.heap.size := hbA.size
                        have hnA : ∀ ad, va = some ad → ∀ i u, (cl.map rowV)[i]? = some u → wA.cell? (ad.add i) = some u := fun ad e i u hu => by
                          obtain ⟨gb, rfl⟩ := hvg ad e
                          rw [hva, e] at hownz
                          rw [List.getElem?_map, Option.map_eq_some_iff] at hu
                          obtain ⟨x, hx, rfl⟩ := hu
                          have hi := (List.getElem?_eq_some_iff.1 hx).1
                          rw [add_plain, Nat.zero_add]
                          have := hownz.cell (j := i) hi
                          rw [List.getD_eq_getElem?_getD, hx] at this
                          exact this
                        go_wp2_with (first | (at_builtin; refine wpList_append_any rfl _ _ 22 rfl wr.heap.size 40 i0 (.slice none 0 0) 1 24 Try.underlying22 hi0 hz0 hz1 hz2 rfl (by decide) (.slice none 0 0) 0 [] rfl (World.ownsRow_nil _ _ _ _) va cn vc (cl.map rowV) rfl ?d6 ?d0 hnA ?d2 ?d3 ?d4 ?d5 ?_))
                        case d6 => intro e; have := hv0 e; omega
                        case d0 => rw [List.length_map]; omega
                        case d2 => intro u hu; obtain ⟨x, _, rfl⟩ := List.mem_map.1 hu; rfl
                        case d3 => unfold maxLen; omega
                        case d4 => omega
                        case d5 => have := wAs; omega
                        intro v5 w5 ho5 hg5
                        have hb5 : Below wr.heap.size wr w5 := hbA.grown hg5 hbA.size (fun g hg => by cases hg)
                        have w5s : wr.heap.size ≤ w5.heap.size := hb5.size
                        go_wp2_with (first | (at_builtin; refine wpList_append_own _ rfl _ _ 22 rfl wr.heap.size 40 i0 (.slice none 0 0) 1 24 Try.underlying22 hi0 hz0 hz1 hz2 rfl (by decide) _ _ _ rfl (ho5.alloc _) ⟨w5.heap.size, 0, none⟩ 1 1 [.slice la ln lc] rfl rfl ?c1 ?c2 ?c3 ?c4 ?c5 ?_))
                        case c1 =>
                          intro j u hj
                          match j, hj with
                          | 0, hj =>
                            simp at hj
                            subst hj
                            rw [add_plain]
                            exact cell_new w5 _ _ _ 0
                        case c2 => intro u hu; simp at hu; subst hu; rfl
                        case c3 => unfold maxLen; omega
                        case c4 => omega
                        case c5 => have := w5s; simp; omega
                        intro v6 w6 ho6 hg6 _
                        have hb6 : Below wr.heap.size wr w6 := (hb5.alloc w5s (.cells #[.slice la ln lc] 40)).grown hg6 (by simp; omega) (fun g hg => by
                          have := (ho5.lt g hg)
                          omega)
                        have ho7 : OwnCl w6 w1.heap.size v6 (cl ++ [⟨la, lc, zl⟩]) := by
                          have h : w6.ownsRow wr.heap.size 40 1 v6 (cn + 1) (cl.map rowV ++ [.slice la ln lc]) := by first | exact ho6 | simpa using ho6
                          unfold OwnCl
                          rw [List.length_append, hcn, List.map_append, List.map_singleton, show rowV ⟨la, lc, zl⟩ = .slice la ln lc by unfold rowV; rw [hln], show cn + [(⟨la, lc, zl⟩ : Cl)].length = cn + 1 by simp]
                          exact World.ownsRow.mono h hbw1s
                        clear ho6 ho5 hg6 hg5 hnA hownz
                        rcases Nat.eq_zero_or_pos ln with hq0 | hq0
                        · have hqB : ((ln : Int) == 0) = true := by simp [hq0]
                          have hzn : zl = [] := List.eq_nil_of_length_eq_zero (hln.trans hq0)
                          have hE : ChkOut A w (.returned (.tuple #[.int .i64 (-1), .int .i64 0])) w6 := by
                            subst hzn
                            rw [← hA1, play_here h200' hL]
                            exact ⟨rfl, hbw.trans (hb6.mono hbw.size)⟩
                          clear hq0 hzn
                          go_wp2
                          go_ret2
                          exact hE
                        · have hqB : ((ln : Int) == 0) = false := beq_false_of_ne (by omega)
                          have hA2 := (play_add h200' hT hL (fun e => by rw [e] at hln; simp at hln; omega)).symm.trans hA1
                          have hA3 : playZ V fd ((ls.map lnz).drop (k + 1)) (k + 1) (m + 1 + ln) (((cl ++ [(⟨la, lc, zl⟩ : Cl)]).map Cl.zs).map setZ) = A := by
                            rw [← hA2, hln, List.map_append, List.map_append]; rfl
                          have hloc2 : ∀ x ∈ cl ++ [(⟨la, lc, zl⟩ : Cl)], Ints w x.a x.zs ∧ Lits (V + 1) x.zs ∧ x.zs.length ≤ 200000 := fun x hx => by
                            rcases List.mem_append.1 hx with h | h
                            · exact hloc x h
                            · rw [List.mem_singleton.1 h]; exact ⟨hci, hzV, by show zl.length ≤ _; omega⟩
                          have hlen7 : (cl ++ [(⟨la, lc, zl⟩ : Cl)]).length ≤ n + (m + 1 + ln) := by rw [List.length_append]; simp; omega
                          go_wp2
                          go_roundw
                          case rel => exact ⟨k + 1, m + 1 + ln, _, hlt, (by simp), (by rw [hm1]), (by omega), ho7, hlen7, hloc2, hbx.trans (hb6.mono hbx.size), hA3⟩
                          case measure => simp [intOf]; omega
          · have e0 : k = pn := by omega
            have hA2 : (if fd = true then (-1, 0) else ((k : Int), 60)) = A := by
              rw [← hA1, List.drop_of_length_le (by rw [List.length_map]; omega)]; rfl
            subst e0
            cases fd with
            | true =>
              have hE : ChkOut A w (.returned (.tuple #[.int .i64 (-1), .int .i64 0])) wr := by
                rw [← hA2]
                exact ⟨rfl, hbw⟩
              go_wp2
              go_ret2
              exact hE
            | false =>
              have hE : ChkOut A w (.returned (.tuple #[.int .i64 (k : Int), .int .i64 60])) wr := by
                rw [← hA2]
                exact ⟨rfl, hbw⟩
              go_wp2
              go_ret2
              exact hE
  · have hAq : A = (0, q) := by rw [← hAe]; unfold answerZ; rw [if_neg hq0]
    go_wp2_with (go_at_call 11; refine hck.mono ?_; rintro e w1 ⟨p1, hb1⟩; rw [p1]; clear p1)
    have hE : ChkOut A w (.returned (.tuple #[.int .i64 0, .int .i64 q])) w1 := by
      rw [hAq]
      exact ⟨rfl, hb0.trans (hb1.mono hb0.size)⟩
    go_ret2
    exact hE
end Go.Proofs.Ytkpppmldbhgcgaa.D

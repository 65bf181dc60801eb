/- Kind: the reachable states as the document finds them (Reach), walked. -/
import Derived.Test.YtdgnafjllokioaaGreatDoorKU
set_option linter.unusedVariables false
set_option linter.unusedSimpArgs false
set_option autoImplicit false
set_option linter.unusedVariables false
set_option linter.unusedSimpArgs false
namespace Go.Proofs.YtdgnafjllokioaaGreatDoor
open Go.Proofs Go
open Go.RowKit Kb
theorem info26 : (Tryz.prog.info? 26).map (fun i => (i.zero, i.size, i.bytes)) = some (some (.slice none 0 0), 1, 24) := by kernel_rfl
set_option maxHeartbeats 8000000 in
set_option maxRecDepth 1000000 in
theorem reach_walk (d : SA) (y : Sy) (gn nn im : Nat) (w : World) (hy : Kb.Good y) (hgn : y.gates.length = gn) (hnn : y.now.length = nn) (him : y.ins.length = im) (hg9 : gn ≤ 400) (hn9 : nn ≤ 8) (hi9 : im ≤ 3) (hsys : SysAt w d y) (res : ResT) (F0 : Nat) (hres : run F0 y (Kb.start y) 0 0 = some res) :
    Calls Tryz.prog 8 #[.agg (sysC d gn nn im y.ok y.asm), .int .i64 300] w (ReachOut res w) := by
  obtain ⟨s, hs⟩ : ∃ s, w.heap.size = s := ⟨_, rfl⟩
  obtain ⟨W1, hW1⟩ : ∃ W, w.alloc (.cells (sysC d gn nn im y.ok y.asm) 28) = W := ⟨_, rfl⟩
  have hb1 : Below s w W1 := by rw [← hW1, ← hs]; exact (Below.refl w.heap.size w).alloc (Nat.le_refl _) _
  have hsb1 : SB s d gn nn im y.ok y.asm W1 := by rw [← hW1, ← hs]; exact sb_new ..
  have hs1 : W1.heap.size = s + 1 := by rw [← hW1, ← hs]; show (w.heap.push _).size = _; simp
  obtain ⟨W2, hW2⟩ : ∃ W, W1.alloc (.cells #[.slice d.ba nn d.bc] 26) = W := ⟨_, rfl⟩
  have hb12 : Below W1.heap.size W1 W2 := by rw [← hW2]; exact (Below.refl _ _).alloc (Nat.le_refl _) _
  have hbl : y.init.length = nn := by rw [hy.it, hnn]
  have hR2 : RcS d gn nn im y.ok y.asm s 0 (.slice (some ⟨s + 1, 0, none⟩) 1 1) [y.init] [.slice d.ba nn d.bc] w W2 := by
    refine ⟨?_, rfl, fun j st hj => ?_, hb1.trans (hb12.mono (by omega)), hsb1.below hsb1.lt hb12⟩
    · rw [← hW2, ← hs1]; exact row_one26 _ (Nat.le_refl _)
    · match j, hj with
      | 0, hj =>
        have hj : y.init = st := Option.some.inj hj
        subst hj
        exact ⟨_, rfl, hbl, .inl ⟨_, _, rfl, hsys.b⟩⟩
  have hnx0 := fun (sa : Option Addr) (sc : Nat) (st : List Bool) (ia : Option Addr) (ic : Nat) (inp : List Bool) (W : World) (hb : Below s w W) (h1 : st.length = nn) (h2 : Bools W sa st) (h3 : inp.length = im) (h4 : Bools W ia inp) => next_walk d y gn nn im sa sc st ia ic inp W hy hgn hnn him (by omega) (by omega) (by omega) (hsys.below (hs ▸ hb)) h1 h2 h3 h4
  obtain ⟨ok, hok⟩ : ∃ x, y.ok = x := ⟨_, rfl⟩
  obtain ⟨asm, hasm⟩ : ∃ x, y.asm = x := ⟨_, rfl⟩
  rw [hok, hasm] at hW1 hR2 hsb1 ⊢
  have hnext : Aside (∀ (sa : Option Addr) (sc : Nat) (st : List Bool) (ia : Option Addr) (ic : Nat) (inp : List Bool) (W : World), Below s w W → st.length = nn → Bools W sa st → inp.length = im → Bools W ia inp → Calls Tryz.prog 19 #[.agg (sysC d gn nn im ok asm), .slice sa nn sc, .slice ia im ic] W (StepOut W y st inp)) := by rw [← hok, ← hasm]; exact hnx0
  clear hnx0
  have hrb : Rb y res 0 1 0 0 0 [y.init] (-1) := Rb.start hy hres
  have c4 := hsb1.c4
  have hk2 : 2 ^ nn ≤ 256 := Nat.le_trans (Nat.pow_le_pow_right (by decide) hn9) (by decide)
  obtain ⟨i26, hi26, hz260, hz261, hz262⟩ := info_parts' info26
  have hA : Aside (RcS d gn nn im ok asm s 0 (.slice (some ⟨s + 1, 0, none⟩) 1 1) [y.init] [.slice d.ba nn d.bc] w W2 ∧ Rb y res 0 1 0 0 0 [y.init] (-1)) := ⟨hR2, hrb⟩
  have hs' : Aside (w.heap.size = s) := hs
  unfold sysC at hW1 ⊢
  clear hR2 hrb hres hsys hbl hb1 hb12 hsb1 hok hasm
  go_enter Tryz.func8, Tryz.ntmps8
  go_wp2
  clear hs hs1 hW1 hW2 c4
  go_loopw [6, 7, 8, 9] (fun sv fv bv tv wr => ∃ (ss : List (List Bool)) (svs : List Value) (fr t ib : Nat) (b : Int), fv = .int .i64 (fr : Int) ∧ bv = .int .i64 b ∧ tv = .int .i64 (t : Int) ∧ fr ≤ ss.length ∧ 0 < ss.length ∧ t ≤ fr ∧ RcS d gn nn im ok asm s ib sv ss svs w wr ∧ Rb y res fr ss.length t fr 0 ss b) (fun _ fv _ _ _ => 300 - (intOf fv).toNat)
  case atStart => exact ⟨[y.init], [.slice d.ba nn d.bc], 0, 0, 0, -1, rfl, rfl, rfl, Nat.zero_le _, Nat.zero_lt_one, Nat.le_refl _, hA.out.1, hA.out.2⟩
  case round =>
    clear hA
    obtain ⟨ss, svs, fr, t, ib, b, rfl, rfl, rfl, hfr, hs0, htf, hR, hrb⟩ := hrel
    have hsl : ss.length ≤ 256 := by have := hrb.short; rw [hnn] at this; omega
    obtain ⟨g, cap, hse, hgl, hget⟩ := hR.view hs'.out hs0
    obtain ⟨vv, hvv⟩ : ∃ v, v = u6 := ⟨_, rfl⟩
    obtain ⟨ln, hln⟩ : ∃ n, ss.length = n := ⟨_, rfl⟩
    subst hse
    rw [hln] at hR hrb hfr hsl hs0 ⊢
    by_cases hlt : fr < ln
    · have hltI : (fr : Int) < ln := by omega
      have hC : Aside (RcS d gn nn im ok asm s ib (.slice (some ⟨g, 0, none⟩) ln cap) ss svs w wr ∧ Rb y res fr ln t fr 0 ss b) := ⟨hR, hrb⟩
      clear hR hrb hget
      go_wp2
      go_loopw [6, 8, 11] (fun sv bv iv wr => ∃ (ss : List (List Bool)) (svs : List Value) (i ib : Nat) (b : Int), bv = .int .i64 b ∧ iv = .int .i64 (i : Int) ∧ fr ≤ i ∧ i ≤ ln ∧ ln ≤ ss.length ∧ RcS d gn nn im ok asm s ib sv ss svs w wr ∧ Rb y res fr ln t i 0 ss b) (fun _ _ iv _ => ln - (intOf iv).toNat)
      case atStart => exact ⟨ss, svs, fr, ib, b, rfl, rfl, Nat.le_refl _, hfr, Nat.le_of_eq hln.symm, hln.symm ▸ hC.out.1, hC.out.2⟩
      case round =>
        clear hC
        obtain ⟨ss1, svs1, i, ib1, b1, rfl, rfl, hi1, hi2, hi3, hR, hrb⟩ := hrel
        by_cases hil : i < ln
        · have hilI : (i : Int) < ln := by omega
          obtain ⟨jb, hjb⟩ : ∃ n, wr.heap.size = n := ⟨_, rfl⟩
          obtain ⟨W3, hW3⟩ : ∃ W, wr.alloc (.cells (madeCells #[.bool false] im) 4) = W := ⟨_, rfl⟩
          have hsj : s < jb := hjb ▸ hR.sb.lt
          have hb3 : Below wr.heap.size wr W3 := by rw [← hW3]; exact (Below.refl _ _).alloc (Nat.le_refl _) _
          have hin3 : InR (s + 1) jb im (List.replicate im false) W3 := by rw [← hW3, ← hjb]; exact new_ins hR.sb.lt (by omega)
          have hR3 : RcS d gn nn im ok asm s jb u6 ss1 svs1 w W3 := (hR.fresh (by omega)).below hb3
          have hmk26 := fun w => run_make_row' (P := Tryz.prog) 26 4 (.bool false) 1 Tryz.underlying26 info4 rfl .i64 .i64 im (by omega) (by omega) w
          have c3 := hR.sb.c3
          obtain ⟨M, hM⟩ : ∃ M, 2 ^ im = M := ⟨_, rfl⟩
          have hM8 : M ≤ 8 := by rw [← hM]; exact Nat.le_trans (Nat.pow_le_pow_right (by decide) hi9) (by decide)
          have hM0 : 0 < M := by rw [← hM]; exact Nat.pos_of_ne_zero (by simp)
          have hC : Aside (RcS d gn nn im ok asm s jb u6 ss1 svs1 w W3 ∧ InR (s + 1) jb im (List.replicate im false) W3 ∧ Rb y res fr ln t i 0 ss1 b1) := ⟨hR3, hin3, hrb⟩
          clear hR3 hin3 hrb hb3 hR
          go_wp2
          go_loopg [6, 8] M (fun k sv bv wq => ∃ (ss : List (List Bool)) (svs : List Value) (n : Nat) (b : Int), bv = .int .i64 b ∧ n + k = M ∧ n < M ∧ ln ≤ ss.length ∧ RcS d gn nn im ok asm s jb sv ss svs w wq ∧ InR (s + 1) jb im (bitsZ im n) wq ∧ Rb y res fr ln t i n ss b)
          case atStart => exact ⟨ss1, svs1, 0, b1, rfl, Nat.zero_add _, hM0, hi3, hC.out.1, by rw [bits_zero]; exact hC.out.2.1, hC.out.2.2⟩
          case round =>
            obtain ⟨ss2, svs2, n, b2, rfl, hnk, hnM, hl2, hR, hin, hrb⟩ := hrel
            clear hC
            have hsl2 : ss2.length ≤ 256 := by have := hrb.short; rw [hnn] at this; omega
            obtain ⟨st, hst⟩ : ∃ st, ss2[i]? = some st := ⟨_, List.getElem?_eq_getElem (by omega)⟩
            obtain ⟨g2, cap2, hse2, hgl2, hget2⟩ := hR.view hs'.out (by omega)
            obtain ⟨vv2, hvv2⟩ : ∃ v, v = u6 := ⟨_, rfl⟩
            subst hse2
            obtain ⟨L, hL⟩ : ∃ n, ss2.length = n := ⟨_, rfl⟩
            obtain ⟨sa, sc, xc, hsz, hsl⟩ := hget2 i st hst
            have hbl := bitsZ_len im n
            have hib := hin.bools hbl
            have hnx := hnext.out sa sc st (some ⟨jb, 0, none⟩) im (bitsZ im n) wr.drew (below_drew hR.bel) hsl hsz hbl hib
            have htick := hrb.tick hy hst (by rw [him, hM]; exact hnM) hi1 hil hl2
            rw [him] at htick
            obtain ⟨okb, hokb⟩ : ∃ r, okZ y st (bitsZ im n) = r := ⟨_, rfl⟩
            obtain ⟨asb, hasb⟩ : ∃ r, asmZ y st (bitsZ im n) = r := ⟨_, rfl⟩
            obtain ⟨nx, hnxz⟩ : ∃ r, nextZ y st (bitsZ im n) = r := ⟨_, rfl⟩
            have hnl : nx.length = nn := by rw [← hnxz, nextZ_len hy, hnn]
            unfold StepOut sysC at hnx
            rw [hokb, hasb, hnxz, hnn] at hnx
            rw [hokb, hasb, hnxz] at htick
            rw [hL] at hR hl2 hsl2 ⊢
            have hiL : (i : Int) < L := by omega
            have hSall : ∀ W, Below wr.heap.size wr W → W.cell? ⟨s, 0, none⟩ = some (.slice d.ga gn d.gc) ∧ W.cell? ⟨s, 1, none⟩ = some (.slice d.na nn d.nc) ∧ W.cell? ⟨s, 2, none⟩ = some (.slice d.xa nn d.xc) ∧ W.cell? ⟨s, 3, none⟩ = some (.slice d.ia im d.ic) ∧ W.cell? ⟨s, 4, none⟩ = some (.slice d.ba nn d.bc) ∧ W.cell? ⟨s, 5, none⟩ = some (.int .i64 ok) ∧ W.cell? ⟨s, 6, none⟩ = some (.int .i64 asm) ∧ W.cell? ⟨g2, i, none⟩ = some (.slice sa nn sc) := fun W hb => by
              have h1 := (hR.below hb).sb
              exact ⟨h1.c0, h1.c1, h1.c2, h1.c3, h1.c4, h1.c5, h1.c6, cell_b hb xc⟩
            have hS0 := hSall wr (Below.refl _ _)
            obtain ⟨c0, c1, c2, c3, c4, c5, c6, x0⟩ := hSall wr (Below.refl _ _)
            have hIall : Aside (∀ W, Below wr.heap.size wr W → RcS d gn nn im ok asm s jb (.slice (some ⟨g2, 0, none⟩) L cap2) ss2 svs2 w W ∧ InR (s + 1) jb im (bitsZ im n) W) := fun W hb => ⟨hR.below hb, own_below' hin hb⟩
            have hlo2 : Aside (s + 1 ≤ wr.heap.size ∧ jb < wr.heap.size) := ⟨hR.sb.lt, (World.ownsRow.lt hin jb rfl).2⟩
            have htick : Aside _ := htick
            clear hR hin hrb hget2 hsz hib xc; have hgo := 0; clear hgo
            go_wp2
            go_region_held3 (fun W => W.cell? ⟨s, 0, none⟩ = some (.slice d.ga gn d.gc) ∧ W.cell? ⟨s, 1, none⟩ = some (.slice d.na nn d.nc) ∧ W.cell? ⟨s, 2, none⟩ = some (.slice d.xa nn d.xc) ∧ W.cell? ⟨s, 3, none⟩ = some (.slice d.ia im d.ic) ∧ W.cell? ⟨s, 4, none⟩ = some (.slice d.ba nn d.bc) ∧ W.cell? ⟨s, 5, none⟩ = some (.int .i64 ok) ∧ W.cell? ⟨s, 6, none⟩ = some (.int .i64 asm) ∧ W.cell? ⟨g2, i, none⟩ = some (.slice sa nn sc)) (first | exact hHeld | exact hS1 | exact hS0) (first | (go_at_call 19; refine hnx.mono ?_; rintro e w3 ⟨v3, p1, hrow3, hb3⟩; rw [p1]; clear p1; obtain ⟨xa, xc, rfl, _, hxz, _⟩ := bools_of hrow3 hnl; have hb3' := (below_drew (Below.refl wr.heap.size wr)).trans hb3; have hS1 := hSall w3 hb3'))
            have hxj : (Value.slice xa nn xc).ownBlock ≠ some jb := fun e => by
              have h1 := (hrow3.lt _ e).1
              have h2 : wr.drew.heap.size = wr.heap.size := rfl
              have := hlo2.out.2
              omega
            have hrow3 := owns_base hrow3 (lo := wr.drew.heap.size) hlo2.out.1
            have hI3 := hIall.out w3 hb3'
            have hI3all : Aside (∀ W, Below w3.heap.size w3 W → RcS d gn nn im ok asm s jb (.slice (some ⟨g2, 0, none⟩) L cap2) ss2 svs2 w W ∧ InR (s + 1) jb im (bitsZ im n) W ∧ W.ownsRow (s + 1) 4 1 (.slice xa nn xc) nn (bvs nx)) := fun W hb => ⟨hI3.1.below hb, own_below' hI3.2 hb, own_below' hrow3 hb⟩
            have hL' : Aside (ss2.length = L) := hL
            have hln2 : Aside (ln ≤ ss2.length) := hL.symm ▸ hl2
            clear hb3 hb3' hS1 hSall hS0 c0 c1 c2 c3 c4 c5 c6 x0 hnx hIall hI3 hrow3 hxz hst hL hokb hasb hnxz hbl hsl
            cases asb with
            | false =>
              have hC : Aside (RcS d gn nn im ok asm s jb (.slice (some ⟨g2, 0, none⟩) L cap2) ss2 svs2 w w3 ∧ InR (s + 1) jb im (bitsZ im n) w3 ∧ Rb y res fr ln t i (n + 1) ss2 b2 ∧ ln ≤ ss2.length) := ⟨(hI3all.out w3 (Below.refl _ _)).1, (hI3all.out w3 (Below.refl _ _)).2.1, htick.out, hln2.out⟩
              clear htick
              go_wp2
              go_loopw [18] (fun kv wq => ∃ kk : Nat, kv = .int .i64 (kk : Int) ∧ kk ≤ im ∧ (bitsZ im n).take kk = List.replicate kk true ∧ InR (s + 1) jb im (List.replicate kk false ++ (bitsZ im n).drop kk) wq ∧ RcS d gn nn im ok asm s jb (.slice (some ⟨g2, 0, none⟩) L cap2) ss2 svs2 w wq) (fun kv _ => im - (intOf kv).toNat)
              case atStart => exact ⟨0, rfl, Nat.zero_le _, rfl, hC.out.2.1, hC.out.1⟩
              case round =>
                obtain ⟨kk, rfl, hkk, htake, hinq, hRq⟩ := hrel
                by_cases hki : kk < im
                · have hkiI : (kk : Int) < im := by omega
                  have hkl : kk < (bitsZ im n).length := by rw [bitsZ_len]; exact hki
                  obtain ⟨xk, fk⟩ := InR.cell hinq (by rw [carry_len (Nat.le_of_lt hkl), bitsZ_len]) hki
                  rw [carry_get hkl] at xk
                  obtain ⟨c, hc⟩ : ∃ c, (bitsZ im n).getD kk false = c := ⟨_, rfl⟩
                  rw [hc] at xk
                  cases c with
                  | true =>
                    have hD : Aside (RcS d gn nn im ok asm s jb (.slice (some ⟨g2, 0, none⟩) L cap2) ss2 svs2 w (wr.setCell ⟨jb, kk, none⟩ (.bool false)) ∧ InR (s + 1) jb im (List.replicate (kk + 1) false ++ (bitsZ im n).drop (kk + 1)) (wr.setCell ⟨jb, kk, none⟩ (.bool false)) ∧ (bitsZ im n).take (kk + 1) = List.replicate (kk + 1) true) := ⟨RcS.set hRq hinq hsj kk _, InR.set hinq kk false (carry_one hkl), take_one hkl htake hc⟩
                    clear hRq hinq htake hc hkl
                    go_wp2
                    go_roundw
                    case rel => exact ⟨kk + 1, by go_num, hki, hD.out.2.2, hD.out.2.1, hD.out.1⟩
                    case measure => simp only [intOf]; omega
                  | false =>
                    have hne : ((kk : Int) == (im : Int)) = false := beq_false_of_ne (by omega)
                    obtain ⟨hbn, hn1⟩ := bits_next (m := im) (n := n) (k := kk) (r := (bitsZ im n).drop (kk + 1)) (by rw [hM]; exact hnM) (split_at' hkl htake hc)
                    rw [hM] at hn1
                    have hD : Aside (RcS d gn nn im ok asm s jb (.slice (some ⟨g2, 0, none⟩) L cap2) ss2 svs2 w (wr.setCell ⟨jb, kk, none⟩ (.bool true)) ∧ InR (s + 1) jb im (bitsZ im (n + 1)) (wr.setCell ⟨jb, kk, none⟩ (.bool true))) := ⟨RcS.set hRq hinq hsj kk _, InR.set hinq kk true (by rw [carry_set hkl, hbn])⟩
                    clear hRq hinq htake hc hkl hbn
                    go_wp2
                    go_roundg (M - (n + 1))
                    case measure => omega
                    case rel => exact ⟨ss2, svs2, n + 1, _, rfl, by omega, hn1, hC.out.2.2.2, hD.out.1, hD.out.2, hC.out.2.2.1⟩
                · have hkiI : ¬ (kk : Int) < im := by omega
                  have hne : ((kk : Int) == (im : Int)) = true := beq_of_eq (by omega)
                  have hkim : kk = im := by omega
                  have hn1 := bits_last (m := im) (n := n) (by rw [hM]; exact hnM) (by rw [← hkim, ← htake, List.take_of_length_le (by rw [bitsZ_len]; omega)]; rw [hkim])
                  rw [hM] at hn1
                  have hD : Aside (RcS d gn nn im ok asm s jb (.slice (some ⟨g2, 0, none⟩) L cap2) ss2 svs2 w wr ∧ _) := ⟨hRq, hC.out.2.2.1.row (by rw [him, hM]; omega) (by have := hC.out.2.2.2; omega)⟩
                  have hiw : i < 256 := by omega
                  clear hRq hinq htake hn1 hkim
                  go_wp2
                  go_roundw
                  case rel => exact ⟨ss2, svs2, i + 1, jb, _, rfl, by go_num, by omega, hil, hC.out.2.2.2, hD.out.1, hD.out.2⟩
                  case measure => simp only [intOf]; omega
            | true =>
              have hcase : (okb = true ∧ Aside (Rb y res fr ln t i (n + 1) (growS true ss2 nx) b2)) ∨ (okb = false ∧ b2 < 0 ∧ Aside (Rb y res fr ln t i (n + 1) (growS true ss2 nx) (t : Int))) ∨ (okb = false ∧ ¬ b2 < 0 ∧ Aside (Rb y res fr ln t i (n + 1) (growS true ss2 nx) b2)) := by
                have h := htick.out
                cases okb with
                | true => exact .inl ⟨rfl, h⟩
                | false =>
                  unfold badB at h
                  by_cases hbz : b2 < 0
                  · rw [decide_eq_true hbz] at h
                    exact .inr (.inl ⟨rfl, hbz, h⟩)
                  · rw [decide_eq_false hbz] at h
                    exact .inr (.inr ⟨rfl, hbz, h⟩)
              clear htick
              rcases hcase with ⟨rfl, hT⟩ | ⟨rfl, hbz, hT⟩ | ⟨rfl, hbz, hT⟩
              all_goals (
                go_wp2
                go_loopw [16, 17] (fun ov kv wq => ∃ kk : Nat, kv = .int .i64 (kk : Int) ∧ kk ≤ L ∧ ov = .bool (decide (nx ∈ ss2.take kk)) ∧ Below w3.heap.size w3 wq) (fun _ kv _ => L - (intOf kv).toNat)
                case atStart => exact ⟨0, rfl, Nat.zero_le _, by simp, Below.refl _ _⟩
                case round =>
                  obtain ⟨kk, rfl, hkk, rfl, hbq⟩ := hrel
                  obtain ⟨ob, hob⟩ : ∃ o, decide (nx ∈ ss2.take kk) = o := ⟨_, rfl⟩
                  rw [hob]
                  cases ob with
                  | true =>
                    have hmem : nx ∈ ss2 := List.mem_of_mem_take (of_decide_eq_true hob)
                    have hgs : growS true ss2 nx = ss2 := by unfold growS; rw [decide_eq_true hmem]; rfl
                    rw [hgs] at hT
                    have hC : Aside (_ ∧ _ ∧ _ ∧ _) := ⟨(hI3all.out wr hbq).1, (hI3all.out wr hbq).2.1, hT.out, hln2.out⟩
                    clear hob hmem hgs hT hbq
                    by_cases hkL : kk < L
                    · have hkLI : (kk : Int) < L := by omega
                      go_wp2
                      go_loopw [18] (fun kv wq => ∃ kk : Nat, kv = .int .i64 (kk : Int) ∧ kk ≤ im ∧ (bitsZ im n).take kk = List.replicate kk true ∧ InR (s + 1) jb im (List.replicate kk false ++ (bitsZ im n).drop kk) wq ∧ RcS d gn nn im ok asm s jb (.slice (some ⟨g2, 0, none⟩) L cap2) ss2 svs2 w wq) (fun kv _ => im - (intOf kv).toNat)
                      case atStart => exact ⟨0, rfl, Nat.zero_le _, rfl, hC.out.2.1, hC.out.1⟩
                      case round =>
                        obtain ⟨kk, rfl, hkk, htake, hinq, hRq⟩ := hrel
                        by_cases hki : kk < im
                        · have hkiI : (kk : Int) < im := by omega
                          have hkl : kk < (bitsZ im n).length := by rw [bitsZ_len]; exact hki
                          obtain ⟨xk, fk⟩ := InR.cell hinq (by rw [carry_len (Nat.le_of_lt hkl), bitsZ_len]) hki
                          rw [carry_get hkl] at xk
                          obtain ⟨c, hc⟩ : ∃ c, (bitsZ im n).getD kk false = c := ⟨_, rfl⟩
                          rw [hc] at xk
                          cases c with
                          | true =>
                            have hD : Aside (RcS d gn nn im ok asm s jb (.slice (some ⟨g2, 0, none⟩) L cap2) ss2 svs2 w (wr.setCell ⟨jb, kk, none⟩ (.bool false)) ∧ InR (s + 1) jb im (List.replicate (kk + 1) false ++ (bitsZ im n).drop (kk + 1)) (wr.setCell ⟨jb, kk, none⟩ (.bool false)) ∧ (bitsZ im n).take (kk + 1) = List.replicate (kk + 1) true) := ⟨RcS.set hRq hinq hsj kk _, InR.set hinq kk false (carry_one hkl), take_one hkl htake hc⟩
                            clear hRq hinq htake hc hkl
                            go_wp2
                            go_roundw
                            case rel => exact ⟨kk + 1, by go_num, hki, hD.out.2.2, hD.out.2.1, hD.out.1⟩
                            case measure => simp only [intOf]; omega
                          | false =>
                            have hne : ((kk : Int) == (im : Int)) = false := beq_false_of_ne (by omega)
                            obtain ⟨hbn, hn1⟩ := bits_next (m := im) (n := n) (k := kk) (r := (bitsZ im n).drop (kk + 1)) (by rw [hM]; exact hnM) (split_at' hkl htake hc)
                            rw [hM] at hn1
                            have hD : Aside (RcS d gn nn im ok asm s jb (.slice (some ⟨g2, 0, none⟩) L cap2) ss2 svs2 w (wr.setCell ⟨jb, kk, none⟩ (.bool true)) ∧ InR (s + 1) jb im (bitsZ im (n + 1)) (wr.setCell ⟨jb, kk, none⟩ (.bool true))) := ⟨RcS.set hRq hinq hsj kk _, InR.set hinq kk true (by rw [carry_set hkl, hbn])⟩
                            clear hRq hinq htake hc hkl hbn
                            go_wp2
                            go_roundg (M - (n + 1))
                            case measure => omega
                            case rel => exact ⟨ss2, svs2, n + 1, _, rfl, by omega, hn1, hC.out.2.2.2, hD.out.1, hD.out.2, hC.out.2.2.1⟩
                        · have hkiI : ¬ (kk : Int) < im := by omega
                          have hne : ((kk : Int) == (im : Int)) = true := beq_of_eq (by omega)
                          have hkim : kk = im := by omega
                          have hn1 := bits_last (m := im) (n := n) (by rw [hM]; exact hnM) (by rw [← hkim, ← htake, List.take_of_length_le (by rw [bitsZ_len]; omega)]; rw [hkim])
                          rw [hM] at hn1
                          have hD : Aside (RcS d gn nn im ok asm s jb (.slice (some ⟨g2, 0, none⟩) L cap2) ss2 svs2 w wr ∧ _) := ⟨hRq, hC.out.2.2.1.row (by rw [him, hM]; omega) (by have := hC.out.2.2.2; omega)⟩
                          have hiw : i < 256 := by omega
                          clear hRq hinq htake hn1 hkim
                          go_wp2
                          go_roundw
                          case rel => exact ⟨ss2, svs2, i + 1, jb, _, rfl, by go_num, by omega, hil, hC.out.2.2.2, hD.out.1, hD.out.2⟩
                          case measure => simp only [intOf]; omega
                    · have hkLI : ¬ (kk : Int) < L := by omega
                      go_wp2
                      go_loopw [18] (fun kv wq => ∃ kk : Nat, kv = .int .i64 (kk : Int) ∧ kk ≤ im ∧ (bitsZ im n).take kk = List.replicate kk true ∧ InR (s + 1) jb im (List.replicate kk false ++ (bitsZ im n).drop kk) wq ∧ RcS d gn nn im ok asm s jb (.slice (some ⟨g2, 0, none⟩) L cap2) ss2 svs2 w wq) (fun kv _ => im - (intOf kv).toNat)
                      case atStart => exact ⟨0, rfl, Nat.zero_le _, rfl, hC.out.2.1, hC.out.1⟩
                      case round =>
                        obtain ⟨kk, rfl, hkk, htake, hinq, hRq⟩ := hrel
                        by_cases hki : kk < im
                        · have hkiI : (kk : Int) < im := by omega
                          have hkl : kk < (bitsZ im n).length := by rw [bitsZ_len]; exact hki
                          obtain ⟨xk, fk⟩ := InR.cell hinq (by rw [carry_len (Nat.le_of_lt hkl), bitsZ_len]) hki
                          rw [carry_get hkl] at xk
                          obtain ⟨c, hc⟩ : ∃ c, (bitsZ im n).getD kk false = c := ⟨_, rfl⟩
                          rw [hc] at xk
                          cases c with
                          | true =>
                            have hD : Aside (RcS d gn nn im ok asm s jb (.slice (some ⟨g2, 0, none⟩) L cap2) ss2 svs2 w (wr.setCell ⟨jb, kk, none⟩ (.bool false)) ∧ InR (s + 1) jb im (List.replicate (kk + 1) false ++ (bitsZ im n).drop (kk + 1)) (wr.setCell ⟨jb, kk, none⟩ (.bool false)) ∧ (bitsZ im n).take (kk + 1) = List.replicate (kk + 1) true) := ⟨RcS.set hRq hinq hsj kk _, InR.set hinq kk false (carry_one hkl), take_one hkl htake hc⟩
                            clear hRq hinq htake hc hkl
                            go_wp2
                            go_roundw
                            case rel => exact ⟨kk + 1, by go_num, hki, hD.out.2.2, hD.out.2.1, hD.out.1⟩
                            case measure => simp only [intOf]; omega
                          | false =>
                            have hne : ((kk : Int) == (im : Int)) = false := beq_false_of_ne (by omega)
                            obtain ⟨hbn, hn1⟩ := bits_next (m := im) (n := n) (k := kk) (r := (bitsZ im n).drop (kk + 1)) (by rw [hM]; exact hnM) (split_at' hkl htake hc)
                            rw [hM] at hn1
                            have hD : Aside (RcS d gn nn im ok asm s jb (.slice (some ⟨g2, 0, none⟩) L cap2) ss2 svs2 w (wr.setCell ⟨jb, kk, none⟩ (.bool true)) ∧ InR (s + 1) jb im (bitsZ im (n + 1)) (wr.setCell ⟨jb, kk, none⟩ (.bool true))) := ⟨RcS.set hRq hinq hsj kk _, InR.set hinq kk true (by rw [carry_set hkl, hbn])⟩
                            clear hRq hinq htake hc hkl hbn
                            go_wp2
                            go_roundg (M - (n + 1))
                            case measure => omega
                            case rel => exact ⟨ss2, svs2, n + 1, _, rfl, by omega, hn1, hC.out.2.2.2, hD.out.1, hD.out.2, hC.out.2.2.1⟩
                        · have hkiI : ¬ (kk : Int) < im := by omega
                          have hne : ((kk : Int) == (im : Int)) = true := beq_of_eq (by omega)
                          have hkim : kk = im := by omega
                          have hn1 := bits_last (m := im) (n := n) (by rw [hM]; exact hnM) (by rw [← hkim, ← htake, List.take_of_length_le (by rw [bitsZ_len]; omega)]; rw [hkim])
                          rw [hM] at hn1
                          have hD : Aside (RcS d gn nn im ok asm s jb (.slice (some ⟨g2, 0, none⟩) L cap2) ss2 svs2 w wr ∧ _) := ⟨hRq, hC.out.2.2.1.row (by rw [him, hM]; omega) (by have := hC.out.2.2.2; omega)⟩
                          have hiw : i < 256 := by omega
                          clear hRq hinq htake hn1 hkim
                          go_wp2
                          go_roundw
                          case rel => exact ⟨ss2, svs2, i + 1, jb, _, rfl, by go_num, by omega, hil, hC.out.2.2.2, hD.out.1, hD.out.2⟩
                          case measure => simp only [intOf]; omega
                  | false =>
                    by_cases hkL : kk < L
                    · have hkLI : (kk : Int) < L := by omega
                      obtain ⟨hRq, _, hxq⟩ := hI3all.out wr hbq
                      obtain ⟨u, hu⟩ : ∃ u, ss2[kk]? = some u := ⟨_, List.getElem?_eq_getElem (by rw [hL'.out]; exact hkL)⟩
                      obtain ⟨g', cap', e', _, hget'⟩ := hRq.view hs'.out (by rw [hL'.out]; omega)
                      rw [hL'.out] at e'
                      cases e'
                      obtain ⟨ua, uc, xk, huz, hul⟩ := hget' kk u hu
                      obtain ⟨_, _, e', _, hxz, _⟩ := bools_of hxq hnl
                      cases e'
                      have hsm := same_walk ua uc xa xc nn u nx wr hul hnl (by omega) huz hxz
                      have hnew := mem_take_one hu (of_decide_eq_false hob)
                      have hbq' : Aside (∀ w7, Below wr.heap.size wr w7 → Below w3.heap.size w3 w7) := fun w7 h => hbq.trans (h.mono hbq.size)
                      have hnew : Aside _ := hnew
                      obtain ⟨eqb, heqb⟩ : ∃ r, (u == nx) = r := ⟨_, rfl⟩
                      rw [heqb] at hsm hnew
                      clear hRq hxq hu hget' huz hxz hbq heqb hob hT
                      go_wp2_with (first | (go_at_call 20; refine hsm.mono ?_; rintro e w7 ⟨p1, hb7⟩; rw [p1]; clear p1))
                      go_roundw
                      case rel => exact ⟨kk + 1, by go_num, hkL, by rw [hnew.out], hbq'.out _ hb7⟩
                      case measure => simp only [intOf]; omega
                    · have hkLI : ¬ (kk : Int) < L := by omega
                      have hmem : ¬ nx ∈ ss2 := by
                        have := of_decide_eq_false hob
                        rw [List.take_of_length_le (by have := hL'.out; omega)] at this
                        exact this
                      have hgs : growS true ss2 nx = ss2 ++ [nx] := by unfold growS; rw [decide_eq_false hmem]; rfl
                      rw [hgs] at hT
                      have hL9 : L + 1 ≤ 256 := by
                        have h1 := hT.out.short
                        have h2 := hL'.out
                        rw [hnn, List.length_append, h2] at h1
                        exact Nat.le_trans h1 hk2
                      have hL9I : ¬ (300 : Int) < (L : Int) + 1 := by omega
                      have hba : Below wr.heap.size wr (wr.alloc (.cells #[.slice xa nn xc] 26)) := (Below.refl _ _).alloc (Nat.le_refl _) _
                      obtain ⟨hR5, hin5, hrow5⟩ := hI3all.out _ (hbq.trans (hba.mono hbq.size))
                      have hr5 := hR5.row
                      rw [hL'.out] at hr5
                      have hsn : Aside ((∀ (v' : Value) (w6 : World), w6.ownsRow (s + 1) 26 1 v' (L + 1) (svs2 ++ [.slice xa nn xc]) → (wr.alloc (.cells #[.slice xa nn xc] 26)).grownBy w6 (Value.slice (some ⟨g2, 0, none⟩) L cap2).ownBlock → RcS d gn nn im ok asm s jb v' (ss2 ++ [nx]) (svs2 ++ [.slice xa nn xc]) w w6 ∧ InR (s + 1) jb im (bitsZ im n) w6) ∧ ln ≤ (ss2 ++ [nx]).length) :=
                        ⟨fun v' w6 h1 h2 => ⟨hR5.snoc h2 (hL'.out.symm ▸ h1) hrow5 hxj hnl, own_grown hin5 hR5.row (by decide) h2⟩, by rw [List.length_append]; have := hln2.out; omega⟩
                      have hK : Aside ((∀ (j : Nat) (x : Value), [Value.slice xa nn xc][j]? = some x → (wr.alloc (.cells #[.slice xa nn xc] 26)).cell? ((⟨wr.heap.size, 0, none⟩ : Addr).add j) = some x) ∧ (∀ x ∈ [Value.slice xa nn xc], x.oneCell' = true) ∧ L + 1 ≤ maxLen ∧ (L + 1) * 24 ≤ 140737488355328 ∧ s + 1 ≤ (wr.alloc (.cells #[.slice xa nn xc] 26)).heap.size) :=
                        ⟨one_new wr _ 26, fun x hx => by rw [List.mem_singleton.1 hx]; rfl, by unfold maxLen; omega, by omega, hR5.sb.lt⟩
                      clear hR5 hin5 hrow5 hba hob hmem hgs hbq
                      go_wp2_with (first | (at_builtin; refine wpList_append_own _ rfl _ _ 57 rfl (s + 1) 26 i26 (.slice none 0 0) 1 24 Tryz.underlying57 hi26 hz260 hz261 hz262 rfl (by decide) _ _ _ rfl hr5 ⟨wr.heap.size, 0, none⟩ 1 1 [.slice xa nn xc] rfl rfl hK.out.1 hK.out.2.1 hK.out.2.2.1 hK.out.2.2.2.1 hK.out.2.2.2.2 ?_))
                      intro v' w6 hown hgr hne6
                      obtain ⟨a6, c6, rfl⟩ := own_shape hown
                      have hC : Aside (_ ∧ _ ∧ _ ∧ _) := ⟨(hsn.out.1 _ w6 hown hgr).1, (hsn.out.1 _ w6 hown hgr).2, hT.out, hsn.out.2⟩
                      clear hsn hK hr5 hown hgr hne6 hT
                      go_wp2
                      go_loopw [18] (fun kv wq => ∃ kk : Nat, kv = .int .i64 (kk : Int) ∧ kk ≤ im ∧ (bitsZ im n).take kk = List.replicate kk true ∧ InR (s + 1) jb im (List.replicate kk false ++ (bitsZ im n).drop kk) wq ∧ RcS d gn nn im ok asm s jb (.slice a6 (L + 1) c6) (ss2 ++ [nx]) (svs2 ++ [.slice xa nn xc]) w wq) (fun kv _ => im - (intOf kv).toNat)
                      case atStart => exact ⟨0, rfl, Nat.zero_le _, rfl, hC.out.2.1, hC.out.1⟩
                      case round =>
                        obtain ⟨kk, rfl, hkk, htake, hinq, hRq⟩ := hrel
                        by_cases hki : kk < im
                        · have hkiI : (kk : Int) < im := by omega
                          have hkl : kk < (bitsZ im n).length := by rw [bitsZ_len]; exact hki
                          obtain ⟨xk, fk⟩ := InR.cell hinq (by rw [carry_len (Nat.le_of_lt hkl), bitsZ_len]) hki
                          rw [carry_get hkl] at xk
                          obtain ⟨c, hc⟩ : ∃ c, (bitsZ im n).getD kk false = c := ⟨_, rfl⟩
                          rw [hc] at xk
                          cases c with
                          | true =>
                            have hD : Aside (RcS d gn nn im ok asm s jb (.slice a6 (L + 1) c6) (ss2 ++ [nx]) (svs2 ++ [.slice xa nn xc]) w (wr.setCell ⟨jb, kk, none⟩ (.bool false)) ∧ InR (s + 1) jb im (List.replicate (kk + 1) false ++ (bitsZ im n).drop (kk + 1)) (wr.setCell ⟨jb, kk, none⟩ (.bool false)) ∧ (bitsZ im n).take (kk + 1) = List.replicate (kk + 1) true) := ⟨RcS.set hRq hinq hsj kk _, InR.set hinq kk false (carry_one hkl), take_one hkl htake hc⟩
                            clear hRq hinq htake hc hkl
                            go_wp2
                            go_roundw
                            case rel => exact ⟨kk + 1, by go_num, hki, hD.out.2.2, hD.out.2.1, hD.out.1⟩
                            case measure => simp only [intOf]; omega
                          | false =>
                            have hne : ((kk : Int) == (im : Int)) = false := beq_false_of_ne (by omega)
                            obtain ⟨hbn, hn1⟩ := bits_next (m := im) (n := n) (k := kk) (r := (bitsZ im n).drop (kk + 1)) (by rw [hM]; exact hnM) (split_at' hkl htake hc)
                            rw [hM] at hn1
                            have hD : Aside (RcS d gn nn im ok asm s jb (.slice a6 (L + 1) c6) (ss2 ++ [nx]) (svs2 ++ [.slice xa nn xc]) w (wr.setCell ⟨jb, kk, none⟩ (.bool true)) ∧ InR (s + 1) jb im (bitsZ im (n + 1)) (wr.setCell ⟨jb, kk, none⟩ (.bool true))) := ⟨RcS.set hRq hinq hsj kk _, InR.set hinq kk true (by rw [carry_set hkl, hbn])⟩
                            clear hRq hinq htake hc hkl hbn
                            go_wp2
                            go_roundg (M - (n + 1))
                            case measure => omega
                            case rel => exact ⟨(ss2 ++ [nx]), (svs2 ++ [.slice xa nn xc]), n + 1, _, rfl, by omega, hn1, hC.out.2.2.2, hD.out.1, hD.out.2, hC.out.2.2.1⟩
                        · have hkiI : ¬ (kk : Int) < im := by omega
                          have hne : ((kk : Int) == (im : Int)) = true := beq_of_eq (by omega)
                          have hkim : kk = im := by omega
                          have hn1 := bits_last (m := im) (n := n) (by rw [hM]; exact hnM) (by rw [← hkim, ← htake, List.take_of_length_le (by rw [bitsZ_len]; omega)]; rw [hkim])
                          rw [hM] at hn1
                          have hD : Aside (RcS d gn nn im ok asm s jb (.slice a6 (L + 1) c6) (ss2 ++ [nx]) (svs2 ++ [.slice xa nn xc]) w wr ∧ _) := ⟨hRq, hC.out.2.2.1.row (by rw [him, hM]; omega) (by have := hC.out.2.2.2; omega)⟩
                          have hiw : i < 256 := by omega
                          clear hRq hinq htake hn1 hkim
                          go_wp2
                          go_roundw
                          case rel => exact ⟨(ss2 ++ [nx]), (svs2 ++ [.slice xa nn xc]), i + 1, jb, _, rfl, by go_num, by omega, hil, hC.out.2.2.2, hD.out.1, hD.out.2⟩
                          case measure => simp only [intOf]; omega
              )
        · have hilI : ¬ (i : Int) < ln := by omega
          have hie : i = ln := by omega
          subst hie
          have hC : Aside (RcS d gn nn im ok asm s ib1 u6 ss1 svs1 w wr ∧ Rb y res i ss1.length (t + 1) i 0 ss1 b1) := ⟨hR, hrb.round⟩
          have hlt9 : ss1.length ≤ 256 := by have := hrb.short; rw [hnn] at this; omega
          clear hR hrb
          go_wp2
          go_roundw
          case rel => exact ⟨ss1, svs1, i, t + 1, ib1, b1, rfl, rfl, by go_num, hi3, by omega, by omega, hC.out.1, hC.out.2⟩
          case measure => simp only [intOf]; omega
    · have hltI : ¬ (fr : Int) < ln := by omega
      have hC : Aside (Below s w wr ∧ ((b = -1 ∧ res.2 = none) ∨ BadAt res b)) := ⟨hR.bel, hrb.end_ (by omega)⟩
      clear hR hrb hget
      go_wp2
      refine bodyPost_ret (v := .tuple #[.int .i64 b, .int .i64 (ln : Int)]) (by simp [results, Tryz.f8, go_sem]) rfl ?_
      exact ⟨b, ln, rfl, hs'.out.symm ▸ hC.out.1, hC.out.2⟩
end Go.Proofs.YtdgnafjllokioaaGreatDoor

/- Proved: for every list of pairs and every number of variables, SatPairs answers true; and its input reads as it did. No condition. -/
import Derived.Test.YtkpppmldbhgcgaaPlXtoScW
import Derived.Test.YtkpppmldbhgcgaaScR
import Derived.SizedLaws
set_option linter.unusedVariables false
set_option linter.unusedSimpArgs false
namespace Go.Proofs.Ytkpppmldbhgcgaa
open Go.ChangeShapes Go.WideShapes Go.ChangeAt Go.RowKit Go.Deep
set_option linter.unusedVariables false
set_option maxRecDepth 100000
theorem c39 : Try.prog.cellsOf 39 = 2 := by kernel_rfl
theorem pairs_open {H : Type} {enc : TypeId × Value → H} {W : World} {v : Value} {d : DataW H} {p : List MemPlace} {held : Bool} {r : Reach} {b0 : Nat} (hval : Value.okWide Try.prog W r b0 38 v) (h : DataW.Trod enc Try.prog W 0 (fun _ => true) held 38 v d p) (hs : ∀ n ∈ d.weights Try.prog 38, n ≤ reachBytes) : ∃ la ln lc ps, v = .slice la ln lc ∧ ps.length = ln ∧ ln ≤ 4611686018427387904 ∧ PairsAt W la ps := by
  obtain ⟨la, ln, lc, rfl⟩ := okWide_slice Try.underlying38 hval
  obtain ⟨fu, hf⟩ := h
  rcases open_slice Try.underlying38 hf with ⟨e, _⟩ | ⟨a, len, cap, m, n, Dd, Pl, e, _, h1, h2, h3, hd, h4⟩
  · simp [Value.cells] at e
    obtain ⟨rfl, rfl, rfl⟩ := e
    exact ⟨none, 0, 0, [], rfl, rfl, by omega, fun j hj => absurd hj (Nat.not_lt_zero _)⟩
  · simp only [if_true] at h3
    subst h3
    simp [Value.cells] at e
    obtain ⟨rfl, rfl, rfl⟩ := e
    simp only [Prod.mk.injEq] at hd
    have hw := hs ((ln + (lc - ln)) * 16) (by
      rw [hd.1]
      simp only [DataW.weights, Try.underlying38, List.mem_cons]
      left
      rw [show Try.prog.bytesOf 39 = 16 by kernel_rfl]
      simp)
    have hr : reachBytes = 140737488351232 := rfl
    rw [hr] at hw
    obtain ⟨b, off, spot⟩ := a
    have hspot : 0 < ln → spot = none := fun h0 => by
      obtain ⟨cs', g1, _⟩ := h4 0 (by omega)
      rw [c39] at g1
      obtain ⟨_, hlen, hcell⟩ := World.cells?_some g1
      have k0 := hcell 0 (by omega)
      rw [List.getElem?_eq_getElem (by omega)] at k0
      simpa [Addr.add] using World.cell?_spot k0
    have each : ∀ i, i < ln → ∃ q : Int × Int, W.cell? ⟨b, off + i * 2, none⟩ = some (.int .i64 q.1) ∧ W.cell? ⟨b, off + i * 2 + 1, none⟩ = some (.int .i64 q.2) := by
      intro i hi
      have hsp := hspot (by omega)
      subst hsp
      obtain ⟨cs', g1, g2⟩ := h4 i (by omega)
      rw [c39] at g1
      obtain ⟨_, hlen, hcell⟩ := World.cells?_some g1
      obtain ⟨xs, k, _, _, _, hxl, hx⟩ := DataW.trod_array Try.underlying39 g2
      rw [c3] at hx
      match cs', hlen, xs, hxl with
      | [v0, v1], _, [y0, y1], _ =>
        have t0 := hx 0 (by omega)
        have t1 := hx 1 (by omega)
        simp at t0 t1
        obtain ⟨x0, e0, _, _⟩ := DataW.trod_int Try.underlying3 t0
        obtain ⟨x1, e1, _, _⟩ := DataW.trod_int Try.underlying3 t1
        have k0 := hcell 0 (by omega)
        have k1 := hcell 1 (by omega)
        simp at e0 e1
        subst e0 e1
        rw [D.add_plain, D.add_plain] at k0 k1
        exact ⟨(x0, x1), k0, k1⟩
    obtain ⟨q, hq⟩ := choose_lt each
    refine ⟨some ⟨b, off, spot⟩, ln, lc, (List.range ln).map q, rfl, by simp, by omega, fun j hj => ?_⟩
    rw [List.length_map, List.length_range] at hj
    have hsp := hspot (by omega)
    subst hsp
    obtain ⟨q0, q1⟩ := hq j hj
    have eg : ((List.range ln).map q).getD j (0, 0) = q j := by
      rw [List.getD_eq_getElem?_getD, List.getElem?_map, List.getElem?_range hj]
      rfl
    rw [eg]
    exact ⟨b, off, rfl, D.cellLt q0, q0, q1⟩
set_option maxRecDepth 100000 in
theorem lifted5 (os : Os) (started : os.Started) (H : Type) (enc : TypeId × Value → H) :
    ReturnsInHanded {} Try.checked os 5 .any (Rows.satPairsSpec.pre6 enc Try.prog Try.f5 Rows.satPairsRow.domain false) (Rows.satPairsSpec.post enc Try.prog Try.f5 false true false false) := by
  refine returnsInHanded_of_change_sized (C := Try.checked) own_ started (by kernel_rfl) Try.func5
    (ChangeSpec.witness6 (enc := enc) (C := Try.checked) false ⟨#[], #[.slice none 0 0, .int .i64 0], []⟩ 8 (by kernel_rfl) (by kernel_rfl) (by kernel_rfl) (by kernel_rfl)) ?_
  intro W base args ds gs before hval0 hW hcnd hsz0 _
  have hval : ∀ (j : Nat) t v, Try.f5.params[j]? = some t → args[j]? = some v → Value.okWide Try.prog W .any base t v := hval0
  have hW' := hW
  have hsz : (DataW.weightsEach Try.prog (Try.f5.params.toList ++ Rows.satPairsSpec.plain.varTypes Try.prog) (ds ++ gs)).all (· ≤ reachBytes) = true := hsz0
  obtain ⟨p, q, hA0, hV, rfl, hfz, hnd⟩ := hW
  have hA : DataW.TrodAll enc Try.prog W 0 (fun _ => true) true Try.f5.params.toList args.toList ds p := hA0
  rw [Try.params5] at hA hval hsz
  obtain ⟨v0, vs0, d0, ds0, p0, q0, hargs, rfl, rfl, h0, r0⟩ := trodAll_cons hA
  obtain ⟨v1, vs1, d1, ds1, p1, q1, rfl, rfl, rfl, h1, r1⟩ := trodAll_cons r0
  obtain ⟨rfl, rfl, rfl⟩ := trodAll_nil r1
  obtain rfl : args = #[v0, v1] := by cases args; simp_all
  obtain ⟨rfl, rfl⟩ := trodVars_none hV
  have hs0 : ∀ n ∈ d0.weights Try.prog 38, n ≤ reachBytes := fun n hn => of_decide_eq_true (List.all_eq_true.1 hsz n (DataW.weights_mem_each (j := 0) rfl rfl n hn))
  obtain ⟨a, n, c, ps, rfl, hn, hlen, hz⟩ := pairs_open (hval 0 38 v0 rfl rfl) h0 hs0
  have h1' := h1
  obtain ⟨b1, rfl, rfl, rfl, w1⟩ := open_int Try.underlying3 (hval 1 3 v1 rfl rfl) h1
  have hlt : ∀ x ∈ p0, x.block < W.heap.size := fun x hx => hW'.lt x (List.mem_append_left _ (List.mem_append_left _ hx))
  clear hA0 hval0
  simp only [List.append_nil] at hW'
  refine (pairs_walk a n c ps b1 W hn hlen hz).mono fun e W' ⟨he, hg⟩ => ?_
  subst he
  refine ⟨_, rfl, post_below (pa := p0) (pv := []) hW' (fun _ _ _ => (trodAll_cons_mk (shut_bool Try.underlying4 _) trodAll_mk0)) (fun sp hsp => ?_) (fun _ _ => rfl) (by simp)
    hg (ok_one (by kernel_rfl) rfl (okWide_bool_mk Try.underlying4 _))⟩
  have := trodAll_cons_mk (WideElems.Trod_stays laidOut_ (by kernel_rfl) (of_decide_eq_true (by kernel_rfl)) h0 (fun x hx => same_below hg (hlt x hx)) (fun x hx => hsp x (by simp [hx]))) (trodAll_cons_mk (shut_int Try.underlying3 w1) trodAll_mk0)
  simp only [List.append_nil] at this
  exact this

theorem over5 : Rows.satPairsRow.holds Try.pinned (OpenSpec.ofChange Rows.satPairsSpec) :=
  OpenClaim.holds_of_wide 5 Try.f5 rfl rfl rfl rfl rfl rfl rfl ⟨rfl, rfl, rfl, rfl, rfl⟩ rfl rfl rfl rfl rfl (by kernel_rfl) Try.func5 (by kernel_rfl)
    (of_decide_eq_true (by kernel_rfl)) (by unfold Func.isWrapper; first | (rw [if_pos (by decide +kernel)]; kernel_rfl) | (rw [if_neg (by decide +kernel)]; exact ⟨rfl, rfl⟩))
    (fun os started H enc _ => lifted5 os started H enc)

/-- the statement -/
theorem satPairs_holds : Rows.SatPairsSaid := over5
end Go.Proofs.Ytkpppmldbhgcgaa

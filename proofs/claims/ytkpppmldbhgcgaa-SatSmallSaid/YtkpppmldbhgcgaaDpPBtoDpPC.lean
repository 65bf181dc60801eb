/- Drat: the document's own propagating. -/
import Derived.Test.YtkpppmldbhgcgaaDpRCtoDpPA
import Derived.Deep.OwnRows
set_option linter.unusedVariables false
set_option linter.unusedSimpArgs false
set_option autoImplicit false
set_option linter.unusedVariables false
set_option linter.unusedSimpArgs false
namespace Go.Proofs.Ytkpppmldbhgcgaa.D
open Go.Proofs Go
open Go.Shelf Go.RowKit
theorem abs_pos (m : Nat) (h1 : m ≤ 1000000000) (w : World) : Calls Try.prog 56 #[.int .i64 (m : Int)] w fun e w' => e = .returned (.int .i64 (m : Int)) ∧ w' = w :=
  (abs_walk m (by omega) (by omega) w).mono fun e w' ⟨h, h2⟩ => ⟨by rw [h, if_neg (by omega)], h2⟩
theorem abs_neg (m : Nat) (h0 : 0 < m) (h1 : m ≤ 1000000000) (w : World) : Calls Try.prog 56 #[.int .i64 (-(m : Int))] w fun e w' => e = .returned (.int .i64 (m : Int)) ∧ w' = w :=
  (abs_walk (-(m : Int)) (by omega) (by omega) w).mono fun e w' ⟨h, h2⟩ => ⟨by rw [h, if_pos (by omega), Int.neg_neg], h2⟩
/-- values, as they stand in a world -/
def Vals (w : World) (bv off n : Nat) (vs : List Int) : Prop := bv < w.heap.size ∧ ∀ m, m < n → w.cell? ⟨bv, off + m, none⟩ = some (.int .i64 (vs.getD m 0)) ∧ w.frozen? ⟨bv, off + m, none⟩ = false
def valsW (w : World) (bv off n : Nat) : List Int := (List.range n).map fun j => match w.cell? ⟨bv, off + j, none⟩ with
  | some (.int _ z) => z
  | _ => 0
theorem valsW_eq {w : World} {bv off n : Nat} {vs : List Int} (h : Vals w bv off n vs) (hl : vs.length = n) : valsW w bv off n = vs := by
  apply List.ext_getElem?
  intro j
  unfold valsW
  rw [List.getElem?_map]
  by_cases hj : j < n
  · rw [List.getElem?_range hj]
    have := (h.2 j hj).1
    simp only [Option.map_some, this]
    rw [List.getD_eq_getElem?_getD, List.getElem?_eq_getElem (by omega)]; rfl
  · rw [List.getElem?_eq_none (by simpa using hj), List.getElem?_eq_none (by omega)]; rfl
theorem Vals.set {w : World} {bv off n : Nat} {vs : List Int} (h : Vals w bv off n vs) (hl : vs.length = n) {m : Nat} (hm : m < n) (y : Int) : Vals (w.setCell ⟨bv, off + m, none⟩ (.int .i64 y)) bv off n (vs.set m y) := by
  refine ⟨by rw [World.size_setCell]; exact h.1, fun k hk => ⟨?_, by rw [World.frozen?_setCell]; exact (h.2 k hk).2⟩⟩
  by_cases e : k = m
  · subst e
    refine (World.cell?_setCell_same w _ _ (h.2 k hk).1).trans ?_
    rw [List.getD_eq_getElem?_getD, List.getElem?_set_self (by omega)]; rfl
  · refine (World.cell?_setCell_other w ⟨bv, off + m, none⟩ ⟨bv, off + k, none⟩ _ (by intro h; injection h; omega)).trans ((h.2 k hk).1.trans ?_)
    rw [List.getD_eq_getElem?_getD, List.getD_eq_getElem?_getD, List.getElem?_set_ne (by omega)]
theorem Below.rows {W w : World} {a : Option Addr} {cs : List Cl} (h : Rows' W a cs) (hb : Below W.heap.size W w) : Rows' w a cs := h.below hb
set_option maxHeartbeats 8000000 in
set_option maxRecDepth 1000000 in
theorem propagate_walk (a : Option Addr) (n c : Nat) (cs : List Cl) (bv off nv cv : Nat) (vs0 : List Int) (W w : World) (hn : cs.length = n) (hlen : n ≤ 4611686018427387904) (hl : ∀ j, j < n → (cs.getD j default).zs.length ≤ 1000000000) (hz : Rows' W a cs)
    (hbw0 : Below W.heap.size W w) (hbv : W.heap.size ≤ bv) (hv0 : Vals w bv off nv vs0) (hf0 : Fine nv vs0) (hli : ∀ j, j < n → Lits nv (cs.getD j default).zs) (hnv : nv ≤ 1000000000) :
    Calls Try.prog 57 #[.slice a n c, .slice (some ⟨bv, off, none⟩) nv cv] w fun e w' => ∃ b, Prp (cs.map Cl.zs) vs0 b ∧ e = .returned (.bool b) ∧ Below W.heap.size W w' := by
  have hpf : ∀ vs, Fine nv vs → ∀ k vs' b, pass vs ((cs.map Cl.zs).take k) = some (vs', b) → Fine nv vs' ∧ (if b = true then zeros vs' < zeros vs else vs' = vs) := by
    intro vs hf k vs' b h
    refine pass_fine hf (fun d hd => ?_) h
    obtain ⟨e, he, rfl⟩ := List.mem_map.1 (List.mem_of_mem_take hd)
    obtain ⟨j, hj, rfl⟩ := List.mem_iff_getElem.1 he
    have := hli j (by omega)
    rwa [List.getD_eq_getElem?_getD, List.getElem?_eq_getElem hj] at this
  go_enter Try.func57, Try.ntmps57
  go_wp2
  go_loopw [5] (fun _ wr => ∃ vs, Fine nv vs ∧ Vals wr bv off nv vs ∧ Below W.heap.size W wr ∧ ∀ b, Prp (cs.map Cl.zs) vs b → Prp (cs.map Cl.zs) vs0 b) (fun _ wr => zeros (valsW wr bv off nv))
  case atStart => exact ⟨vs0, hf0, hv0, hbw0, fun b h => h⟩
  case round =>
    obtain ⟨vs, hf, hv, hbw, hP⟩ := hrel
    have hzw := valsW_eq hv hf.1
    go_wp2
    go_loopw [5, 6] (fun s i wr => ∃ (k : Nat) (vs' : List Int) (b : Bool), k ≤ n ∧ i = .int .i64 k ∧ s = .bool b ∧ pass vs ((cs.map Cl.zs).take k) = some (vs', b) ∧ Vals wr bv off nv vs' ∧ Below W.heap.size W wr) (fun _ i _ => n - (intOf i).toNat)
    case atStart => exact ⟨0, vs, false, Nat.zero_le _, rfl, rfl, rfl, hv, hbw⟩
    case round =>
      obtain ⟨k, vs', b, hk, rfl, rfl, hps, hv', hbw'⟩ := hrel
      by_cases hlt : k < n
      · obtain ⟨rb, ro, rfl, hrb, hrc, hri⟩ := hz k (by omega)
        have hrc := (hbw'.cell (by exact hrb)).trans hrc
        have hll := hl k hlt
        have hlx := hli k hlt
        have hsn : (cs.map Cl.zs).take (k + 1) = (cs.map Cl.zs).take k ++ [(cs.getD k default).zs] := by
          rw [List.take_add_one, List.getElem?_map, List.getD_eq_getElem?_getD, List.getElem?_eq_getElem (by omega)]; rfl
        obtain ⟨x, hx⟩ : ∃ x, cs.getD k default = x := ⟨_, rfl⟩
        rw [hx] at hrc hll hlx hri hsn
        have hri' := hri.below hbw'
        go_wp2
        go_loopw [7, 8, 9, 10] (fun o m h j wr' => ∃ q : Nat, q ≤ x.zs.length ∧ j = .int .i64 q ∧ o = .int .i64 (scan vs' (x.zs.take q)).1 ∧ m = .bool (scan vs' (x.zs.take q)).2.1 ∧ h = .bool (scan vs' (x.zs.take q)).2.2 ∧ wr' = wr) (fun _ _ _ j _ => x.zs.length - (intOf j).toNat)
        case atStart => exact ⟨0, Nat.zero_le _, rfl, rfl, rfl, rfl, rfl⟩
        case round =>
          obtain ⟨q, hq, rfl, rfl, rfl, rfl, rfl⟩ := hrel
          by_cases hql : q < x.zs.length
          · obtain ⟨ib, io, hxa, hib, hic⟩ := hri' q hql
            have hsq := take_snoc (zs := x.zs) (k := q) hql
            have hly := hlx (x.zs.getD q 0) (by rw [List.getD_eq_getElem?_getD, List.getElem?_eq_getElem hql]; exact List.getElem_mem hql)
            obtain ⟨y, hy⟩ : ∃ y, x.zs.getD q 0 = y := ⟨_, rfl⟩
            rw [hy] at hsq hly hic
            have hsc : scan vs' (x.zs.take (q + 1)) = scan1 vs' (scan vs' (x.zs.take q)) y := by rw [hsq, scan_snoc]
            obtain ⟨s, hs⟩ : ∃ s, scan vs' (x.zs.take q) = s := ⟨_, rfl⟩
            rw [hs] at hsc
            simp only [hs]
            obtain ⟨o, mo, ho⟩ := s
            obtain ⟨m, hm⟩ : ∃ m, y.natAbs = m := ⟨_, rfl⟩
            obtain ⟨hy0, hy1⟩ := hly
            rw [hm] at hy1
            have hm0 : 0 < m := by omega
            have hvm := (hv'.2 m hy1).1
            have hvb := (hpf vs hf k vs' b hps).1.get m
            obtain ⟨v, hvv⟩ : ∃ v, vs'.getD m 0 = v := ⟨_, rfl⟩
            rw [hvv] at hvm hvb
            have hsgn : (y < 0 ∧ y = -(m : Int)) ∨ (¬ y < 0 ∧ y = (m : Int)) := by omega
            have hv3 : v = 1 ∨ v = -1 ∨ v = 0 := by omega
            rcases hsgn with ⟨hlt0, rfl⟩ | ⟨hlt0, rfl⟩
            · have hL : litV vs' (-(m : Int)) = -v := by unfold litV; rw [hm, hvv]; exact if_pos hlt0
              rcases hv3 with rfl | rfl | rfl
              · have hE : scan vs' (x.zs.take (q + 1)) = (o, mo, ho) := by rw [hsc]; simp [scan1, hL]
                go_wp2_with (go_at_call 56; refine (abs_neg m hm0 (by omega) _).mono ?_)
                try rintro e w1 ⟨rfl, rfl⟩
                try go_wp2
                all_goals first | (exfalso; rename_i hh; revert hh; simp [ho0, hoy]; done) | skip
                go_roundw
                case rel => exact ⟨q + 1, hql, (by simp), (by rw [hE]), (by rw [hE]), (by rw [hE]), (by trivial)⟩
                case measure => simp [intOf]; omega
              · have hE : scan vs' (x.zs.take (q + 1)) = (o, mo, true) := by rw [hsc]; simp [scan1, hL]
                go_wp2_with (go_at_call 56; refine (abs_neg m hm0 (by omega) _).mono ?_)
                try rintro e w1 ⟨rfl, rfl⟩
                try go_wp2
                all_goals first | (exfalso; rename_i hh; revert hh; simp [ho0, hoy]; done) | skip
                go_roundw
                case rel => exact ⟨q + 1, hql, (by simp), (by rw [hE]), (by rw [hE]), (by rw [hE]), (by trivial)⟩
                case measure => simp [intOf]; omega
              · by_cases ho0 : o = 0
                · have hE : scan vs' (x.zs.take (q + 1)) = (-(m : Int), mo, ho) := by rw [hsc]; simp [scan1, hL, ho0]
                  subst ho0
                  go_wp2_with (go_at_call 56; refine (abs_neg m hm0 (by omega) _).mono ?_)
                  try rintro e w1 ⟨rfl, rfl⟩
                  try go_wp2
                  all_goals first | (exfalso; rename_i hh; revert hh; simp [ho0, hoy]; done) | skip
                  go_roundw
                  case rel => exact ⟨q + 1, hql, (by simp), (by rw [hE]), (by rw [hE]), (by rw [hE]), (by trivial)⟩
                  case measure => simp [intOf]; omega
                · by_cases hoy : o = -(m : Int)
                  · have hE : scan vs' (x.zs.take (q + 1)) = (-(m : Int), mo, ho) := by rw [hsc]; simp [scan1, hL, hoy]
                    go_wp2_with (go_at_call 56; refine (abs_neg m hm0 (by omega) _).mono ?_)
                    try rintro e w1 ⟨rfl, rfl⟩
                    try go_wp2
                    all_goals first | (exfalso; rename_i hh; revert hh; simp [ho0, hoy]; done) | skip
                    go_roundw
                    case rel => exact ⟨q + 1, hql, (by simp), (by rw [hE]), (by rw [hE]), (by rw [hE]), (by trivial)⟩
                    case measure => simp [intOf]; omega
                  · have hE : scan vs' (x.zs.take (q + 1)) = (-(m : Int), true, ho) := by rw [hsc]; simp [scan1, hL, hoy, ho0]
                    go_wp2_with (go_at_call 56; refine (abs_neg m hm0 (by omega) _).mono ?_)
                    try rintro e w1 ⟨rfl, rfl⟩
                    try go_wp2
                    all_goals first | (exfalso; rename_i hh; revert hh; simp [ho0, hoy]; done) | skip
                    go_roundw
                    case rel => exact ⟨q + 1, hql, (by simp), (by rw [hE]), (by rw [hE]), (by rw [hE]), (by trivial)⟩
                    case measure => simp [intOf]; omega
            · have hL : litV vs' ((m : Int)) = v := by unfold litV; rw [hm, hvv]; exact if_neg hlt0
              rcases hv3 with rfl | rfl | rfl
              · have hE : scan vs' (x.zs.take (q + 1)) = (o, mo, true) := by rw [hsc]; simp [scan1, hL]
                go_wp2_with (go_at_call 56; refine (abs_pos m (by omega) _).mono ?_)
                try rintro e w1 ⟨rfl, rfl⟩
                try go_wp2
                all_goals first | (exfalso; rename_i hh; revert hh; simp [ho0, hoy]; done) | skip
                go_roundw
                case rel => exact ⟨q + 1, hql, (by simp), (by rw [hE]), (by rw [hE]), (by rw [hE]), (by trivial)⟩
                case measure => simp [intOf]; omega
              · have hE : scan vs' (x.zs.take (q + 1)) = (o, mo, ho) := by rw [hsc]; simp [scan1, hL]
                go_wp2_with (go_at_call 56; refine (abs_pos m (by omega) _).mono ?_)
                try rintro e w1 ⟨rfl, rfl⟩
                try go_wp2
                all_goals first | (exfalso; rename_i hh; revert hh; simp [ho0, hoy]; done) | skip
                go_roundw
                case rel => exact ⟨q + 1, hql, (by simp), (by rw [hE]), (by rw [hE]), (by rw [hE]), (by trivial)⟩
                case measure => simp [intOf]; omega
              · by_cases ho0 : o = 0
                · have hE : scan vs' (x.zs.take (q + 1)) = ((m : Int), mo, ho) := by rw [hsc]; simp [scan1, hL, ho0]
                  subst ho0
                  go_wp2_with (go_at_call 56; refine (abs_pos m (by omega) _).mono ?_)
                  try rintro e w1 ⟨rfl, rfl⟩
                  try go_wp2
                  all_goals first | (exfalso; rename_i hh; revert hh; simp [ho0, hoy]; done) | skip
                  go_roundw
                  case rel => exact ⟨q + 1, hql, (by simp), (by rw [hE]), (by rw [hE]), (by rw [hE]), (by trivial)⟩
                  case measure => simp [intOf]; omega
                · by_cases hoy : o = (m : Int)
                  · have hE : scan vs' (x.zs.take (q + 1)) = ((m : Int), mo, ho) := by rw [hsc]; simp [scan1, hL, hoy]
                    go_wp2_with (go_at_call 56; refine (abs_pos m (by omega) _).mono ?_)
                    try rintro e w1 ⟨rfl, rfl⟩
                    try go_wp2
                    all_goals first | (exfalso; rename_i hh; revert hh; simp [ho0, hoy]; done) | skip
                    go_roundw
                    case rel => exact ⟨q + 1, hql, (by simp), (by rw [hE]), (by rw [hE]), (by rw [hE]), (by trivial)⟩
                    case measure => simp [intOf]; omega
                  · have hE : scan vs' (x.zs.take (q + 1)) = ((m : Int), true, ho) := by rw [hsc]; simp [scan1, hL, hoy, ho0]
                    go_wp2_with (go_at_call 56; refine (abs_pos m (by omega) _).mono ?_)
                    try rintro e w1 ⟨rfl, rfl⟩
                    try go_wp2
                    all_goals first | (exfalso; rename_i hh; revert hh; simp [ho0, hoy]; done) | skip
                    go_roundw
                    case rel => exact ⟨q + 1, hql, (by simp), (by rw [hE]), (by rw [hE]), (by rw [hE]), (by trivial)⟩
                    case measure => simp [intOf]; omega
          · have e1 : q = x.zs.length := by omega
            subst e1
            simp only [List.take_length]
            have so := scan_open (vs := vs') (zs := x.zs)
            have hps1 : pass vs ((cs.map Cl.zs).take (k + 1)) = if ((scan vs' x.zs).2.2 || (scan vs' x.zs).2.1) = true then some (vs', b) else if (scan vs' x.zs).1 = 0 then none else some (setV vs' (scan vs' x.zs).1, true) := by rw [hsn, pass_snoc, hps]; rfl
            obtain ⟨s, hs⟩ : ∃ s, scan vs' x.zs = s := ⟨_, rfl⟩
            rw [hs] at hps1 so
            simp only [hs]
            obtain ⟨o, mo, ho⟩ := s
            have hfv := (hpf vs hf k vs' b hps).1
            cases ho with
            | true =>
              go_wp2
              go_roundw
              case rel => exact ⟨k + 1, vs', b, hlt, (by simp), rfl, (by rw [hps1]; rfl), hv', hbw'⟩
              case measure => simp [intOf]; omega
            | false =>
              cases mo with
              | true =>
                go_wp2
                go_roundw
                case rel => exact ⟨k + 1, vs', b, hlt, (by simp), rfl, (by rw [hps1]; rfl), hv', hbw'⟩
                case measure => simp [intOf]; omega
              | false =>
                by_cases ho0 : o = 0
                · subst ho0
                  have hcf := pass_fail (k := k + 1) (hps1.trans (by rfl))
                  go_wp2
                  go_ret
                  first | exact ⟨true, hP _ (.conf _ hcf), rfl, hbw'⟩ | exact .inr ⟨hP _ (.conf _ hcf), rfl, hbw'⟩
                · obtain ⟨o1, o2⟩ := so ho0
                  obtain ⟨o3, o4⟩ := hlx _ o1
                  have hps1 : pass vs ((cs.map Cl.zs).take (k + 1)) = some (setV vs' o, true) := by rw [hps1, if_neg (by simp), if_neg ho0]
                  obtain ⟨m, hm⟩ : ∃ m, o.natAbs = m := ⟨_, rfl⟩
                  have o4 : m < nv := hm ▸ o4
                  obtain ⟨hvm, hvf⟩ := hv'.2 m o4
                  have hst := fun y => hv'.set hfv.1 o4 y
                  rcases (show (0 < o ∧ o = (m : Int)) ∨ (¬ 0 < o ∧ o = -(m : Int)) by omega) with ⟨hpos, rfl⟩ | ⟨hpos, rfl⟩
                  · have hset : setV vs' (m : Int) = vs'.set m 1 := by unfold setV; rw [if_pos hpos, hm]
                    go_wp2
                    go_roundw
                    case rel => exact ⟨k + 1, vs'.set m 1, true, hlt, (by simp), rfl, (by rw [hps1, hset]), hst 1, hbw'.setCell hbv _⟩
                    case measure => simp [intOf]; omega
                  · have hset : setV vs' (-(m : Int)) = vs'.set m (-1) := by unfold setV; rw [if_neg hpos, hm]
                    go_wp2
                    go_roundw
                    case rel => exact ⟨k + 1, vs'.set m (-1), true, hlt, (by simp), rfl, (by rw [hps1, hset]), hst (-1), hbw'.setCell hbv _⟩
                    case measure => simp [intOf]; omega
      · have e0 : k = n := by omega
        subst e0
        have hps1 : pass vs (cs.map Cl.zs) = some (vs', b) := by
          have : (cs.map Cl.zs).take k = cs.map Cl.zs := List.take_of_length_le (by rw [List.length_map]; omega)
          rw [← this]; exact hps
        obtain ⟨hfv, hzz⟩ := hpf vs hf k vs' b hps
        have hzw' := valsW_eq hv' hfv.1
        cases b with
        | true =>
          go_wp2
          go_roundw
          case rel => exact ⟨vs', hfv, hv', hbw', fun b h => hP b (.more _ _ _ hps1 h)⟩
          case measure => rw [hzw, hzw']; exact hzz
        | false =>
          go_wp2
          go_ret
          first | exact ⟨false, hP _ (.done _ _ hps1), rfl, hbw'⟩ | exact .inl ⟨hP _ (.done _ _ hps1), rfl, hbw'⟩
end Go.Proofs.Ytkpppmldbhgcgaa.D
/- Drat: does a clause follow, by the document's own answer? -/
set_option autoImplicit false
set_option linter.unusedVariables false
set_option linter.unusedSimpArgs false
namespace Go.Proofs.Ytkpppmldbhgcgaa.D
open Go.Proofs Go
open Go.Shelf Go.RowKit
theorem info3 : (Try.prog.info? 3).map (fun i => (i.zero, i.size, i.bytes)) = some (some (.int .i64 0), 1, 8) := by kernel_rfl
/-- a literal of the clause is made false -/
def fol1 (s : Option (List Int)) (x : Int) : Option (List Int) := s.bind fun vs => if vs.getD x.natAbs 0 = (if x < 0 then -1 else 1) then none else some (vs.set x.natAbs (if x < 0 then 1 else -1))
def folV (n : Nat) (zs : List Int) : Option (List Int) := zs.foldl fol1 (some (List.replicate n 0))
theorem folV_snoc {n : Nat} {zs : List Int} {x : Int} : folV n (zs ++ [x]) = fol1 (folV n zs) x := by simp [folV]
theorem fol_none : ∀ (zs : List Int), zs.foldl fol1 none = none
  | [] => rfl
  | z :: zs => fol_none zs
theorem folV_fail {n : Nat} {zs : List Int} {k : Nat} (h : folV n (zs.take k) = none) : folV n zs = none := by
  have : zs = zs.take k ++ zs.drop k := (List.take_append_drop k zs).symm
  unfold folV at h ⊢
  rw [this, List.foldl_append, h, fol_none]
/-- the answer -/
def FolR (cs : List (List Int)) (n : Nat) (zs : List Int) (b : Bool) : Prop := match folV n zs with
  | none => b = true
  | some vs => Prp cs vs b
def FolOK (cs : List (List Int)) (n : Nat) (zs : List Int) (W : World) (e : Ending) (w' : World) : Prop := ∃ b, FolR cs n zs b ∧ e = .returned (.bool b) ∧ Below W.heap.size W w'
def PrpOK (cs : List (List Int)) (vs : List Int) (W : World) (e : Ending) (w' : World) : Prop := ∃ b, Prp cs vs b ∧ e = .returned (.bool b) ∧ Below W.heap.size W w'
theorem folV_fine {n : Nat} {zs : List Int} {vs : List Int} (h : folV n zs = some vs) : Fine n vs := by
  have key : ∀ (zs : List Int) (v0 vs : List Int), Fine n v0 → zs.foldl fol1 (some v0) = some vs → Fine n vs := by
    intro zs
    induction zs with
    | nil => intro v0 vs h0 h; cases h; exact h0
    | cons z zs ih =>
      intro v0 vs h0 h
      have h : zs.foldl fol1 (fol1 (some v0) z) = some vs := h
      have e : fol1 (some v0) z = if v0.getD z.natAbs 0 = (if z < 0 then -1 else 1) then none else some (v0.set z.natAbs (if z < 0 then 1 else -1)) := rfl
      rw [e] at h
      by_cases hc : v0.getD z.natAbs 0 = (if z < 0 then -1 else 1)
      · rw [if_pos hc, fol_none] at h; cases h
      · rw [if_neg hc] at h
        refine ih _ _ (h0.set _ ?_) h
        split <;> decide
  refine key zs _ vs ⟨List.length_replicate, fun y hy => ?_⟩ h
  rw [List.eq_of_mem_replicate hy]; decide
theorem madeVals (w : World) (n : Nat) : Vals (w.alloc (.cells (madeCells #[Value.int .i64 0] n) 3)) w.heap.size 0 n (List.replicate n 0) := by
  have hh : (w.alloc (.cells (madeCells #[Value.int .i64 0] n) 3)).heap[w.heap.size]? = some (.cells (madeCells #[Value.int .i64 0] n) 3) := by
    show (w.heap.push _)[w.heap.size]? = _
    simp
  refine ⟨by simp, fun m hm => ⟨(cell_new ..).trans ?_, by unfold World.frozen?; rw [hh]; simp⟩⟩
  rw [Nat.zero_add, List.getD_eq_getElem?_getD, List.getElem?_replicate, if_pos hm]
  simp [madeCells, hm, Nat.mod_one]
set_option maxHeartbeats 8000000 in
set_option maxRecDepth 1000000 in
theorem follows_walk (a : Option Addr) (n c : Nat) (cs : List Cl) (b : Option Addr) (m c2 : Nat) (zs : List Int) (v : Nat) (W w : World) (hn : cs.length = n) (hlen : n ≤ 4611686018427387904) (hl : ∀ j, j < n → (cs.getD j default).zs.length ≤ 1000000000) (hz : Rows' W a cs)
    (hbw0 : Below W.heap.size W w) (hm : zs.length = m) (hml : m ≤ 1000000000) (hi : Ints w b zs) (hlz : Lits (v + 1) zs) (hli : ∀ j, j < n → Lits (v + 1) (cs.getD j default).zs) (hv : v ≤ 999999999) :
    Calls Try.prog 37 #[.slice a n c, .slice b m c2, .int .i64 (v : Int)] w (FolOK (cs.map Cl.zs) (v + 1) zs W) := by
  have hmk := fun w => run_make_row' (P := Try.prog) 40 3 (.int .i64 0) 8 Try.underlying40 info3 rfl .i64 .i64 (v + 1) (by omega) (by omega) w
  have hcast : ((v + 1 : Nat) : Int) = (v : Int) + 1 := by omega
  simp only [hcast] at hmk
  have hpr := fun (bv : Nat) (w1 : World) (vs : List Int) h1 h2 h3 h4 => (propagate_walk a n c cs bv 0 (v + 1) (v + 1) vs W w1 hn hlen hl hz h1 h2 h3 h4 hli (by omega)).mono (R' := PrpOK (cs.map Cl.zs) vs W) (fun e w' h => h)
  have mv := madeVals w (v + 1)
  have hB0 := (Below.refl w.heap.size w).alloc (Nat.le_refl _) (.cells (madeCells #[Value.int .i64 0] (v + 1)) 3)
  go_enter Try.func37, Try.ntmps37
  go_wp2
  go_loopw [8] (fun i wr => ∃ (k : Nat) (vs : List Int), k ≤ m ∧ i = .int .i64 k ∧ folV (v + 1) (zs.take k) = some vs ∧ Vals wr w.heap.size 0 (v + 1) vs ∧ Below w.heap.size w wr) (fun i _ => m - (intOf i).toNat)
  case atStart => exact ⟨0, _, Nat.zero_le _, rfl, rfl, mv, hB0⟩
  case round =>
    obtain ⟨k, vs, hk, rfl, hfo, hvs, hbw⟩ := hrel
    have hbW := hbw0.trans (hbw.mono hbw0.size)
    have hfv := folV_fine hfo
    by_cases hlt : k < m
    · obtain ⟨ib, io, rfl, hib, hic⟩ := hi.below hbw k (by omega)
      have hsq := take_snoc (zs := zs) (k := k) (by omega)
      have hly := hlz (zs.getD k 0) (by rw [List.getD_eq_getElem?_getD, List.getElem?_eq_getElem (by omega)]; exact List.getElem_mem _)
      obtain ⟨y, hy⟩ : ∃ y, zs.getD k 0 = y := ⟨_, rfl⟩
      rw [hy] at hsq hly hic
      obtain ⟨q, hq⟩ : ∃ q, y.natAbs = q := ⟨_, rfl⟩
      obtain ⟨hy0, hy1⟩ := hly
      have hsc : folV (v + 1) (zs.take (k + 1)) = if vs.getD q 0 = (if y < 0 then -1 else 1) then none else some (vs.set q (if y < 0 then 1 else -1)) := by rw [hsq, folV_snoc, hfo, ← hq]; rfl
      rw [hq] at hy1
      have hq0 : 0 < q := by omega
      obtain ⟨hvm, hvf⟩ := hvs.2 q hy1
      have hst := fun z => hvs.set hfv.1 hy1 z
      simp only [Nat.zero_add] at hvm hvf hst
      obtain ⟨u, hu⟩ : ∃ u, vs.getD q 0 = u := ⟨_, rfl⟩
      rw [hu] at hvm hsc
      have hsgn : (y < 0 ∧ y = -(q : Int)) ∨ (¬ y < 0 ∧ y = (q : Int)) := by omega
      rcases hsgn with ⟨hlt0, rfl⟩ | ⟨hlt0, rfl⟩
      · rw [if_pos hlt0, if_pos hlt0] at hsc
        by_cases hu1 : u = -1
        · subst hu1
          rw [if_pos rfl] at hsc
          have hF := folV_fail hsc
          have hR : FolOK (cs.map Cl.zs) (v + 1) zs W (.returned (.bool true)) wr := ⟨true, by unfold FolR; rw [hF], rfl, hbW⟩
          go_wp2_with (go_at_call 56; refine (abs_neg q hq0 (by omega) _).mono ?_)
          try rintro e w1 ⟨rfl, rfl⟩
          try go_wp2
          go_ret
          exact hR
        · rw [if_neg hu1] at hsc
          go_wp2_with (go_at_call 56; refine (abs_neg q hq0 (by omega) _).mono ?_)
          try rintro e w1 ⟨rfl, rfl⟩
          try go_wp2_with (go_at_call 56; refine (abs_neg q hq0 (by omega) _).mono ?_)
          try rintro e w1 ⟨rfl, rfl⟩
          try go_wp2
          go_roundw
          case rel => exact ⟨k + 1, _, hlt, (by simp), hsc, hst 1, hbw.setCell (Nat.le_refl _) _⟩
          case measure => simp [intOf]; omega
      · rw [if_neg hlt0, if_neg hlt0] at hsc
        by_cases hu1 : u = 1
        · subst hu1
          rw [if_pos rfl] at hsc
          have hF := folV_fail hsc
          have hR : FolOK (cs.map Cl.zs) (v + 1) zs W (.returned (.bool true)) wr := ⟨true, by unfold FolR; rw [hF], rfl, hbW⟩
          go_wp2_with (go_at_call 56; refine (abs_pos q (by omega) _).mono ?_)
          try rintro e w1 ⟨rfl, rfl⟩
          try go_wp2
          go_ret
          exact hR
        · rw [if_neg hu1] at hsc
          go_wp2_with (go_at_call 56; refine (abs_pos q (by omega) _).mono ?_)
          try rintro e w1 ⟨rfl, rfl⟩
          try go_wp2_with (go_at_call 56; refine (abs_pos q (by omega) _).mono ?_)
          try rintro e w1 ⟨rfl, rfl⟩
          try go_wp2
          go_roundw
          case rel => exact ⟨k + 1, _, hlt, (by simp), hsc, hst (-1), hbw.setCell (Nat.le_refl _) _⟩
          case measure => simp [intOf]; omega
    · have e0 : k = m := by omega
      subst e0
      have hF : folV (v + 1) zs = some vs := by rw [← hfo]; congr 1; exact (List.take_of_length_le (by omega)).symm
      go_wp2_with (go_at_call 57; refine (hpr w.heap.size wr vs hbW hbw0.size hvs hfv).mono ?_)
      rintro e w1 ⟨b1, hP, rfl, hb1⟩
      have hR : FolOK (cs.map Cl.zs) (v + 1) zs W (.returned (.bool b1)) w1 := ⟨b1, by unfold FolR; rw [hF]; exact hP, rfl, hb1⟩
      go_wp2
      go_ret
      exact hR
end Go.Proofs.Ytkpppmldbhgcgaa.D

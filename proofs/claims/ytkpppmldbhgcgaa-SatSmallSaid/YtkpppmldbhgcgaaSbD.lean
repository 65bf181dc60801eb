/- Sat: a clause is watched by one literal more (watcher.add). -/
import Derived.Test.YtkpppmldbhgcgaaSbC
import Derived.Deep.RegionHeld3
set_option linter.unusedVariables false
set_option linter.unusedSimpArgs false
set_option autoImplicit false
set_option linter.unusedVariables false
set_option linter.unusedSimpArgs false
namespace Go.Proofs.Ytkpppmldbhgcgaa
open Go Go.RowKit
variable {lo n : Nat} {w : World} {own : Nat → Option Tg} {rv : Tg → Value} {S : Sz}
theorem info76 : (Try.prog.info? 76).map (fun i => (i.zero, i.size, i.bytes)) = some (some (.pointer none), 1, 8) := by kernel_rfl
theorem codeZ_cast (l : Int) : ((codeZ l : Nat) : Int) = if l < 0 then -2 * l + 1 else 2 * l := by unfold codeZ; split <;> omega
theorem box_cells (w : World) (a b : Value) (t : TypeId) : (w.alloc (.cells #[a, b] t)).cell? ⟨w.heap.size, 0, none⟩ = some a ∧ (w.alloc (.cells #[a, b] t)).cell? ⟨w.heap.size, 1, none⟩ = some b := ⟨cell_new w #[a, b] t (0, 0) 0, cell_new w #[a, b] t (0, 0) 1⟩
set_option maxHeartbeats 16000000 in
set_option maxRecDepth 1000000 in
theorem add_walk (h : Sol lo w own rv S) {l : Int} {c : Nat} {S' : Sz} (hf : addO S l c = some S') (hw : S.watch.length ≤ 10000000) : Calls Try.prog 47 #[.agg #[rv .x, .int .i64 l], rv (.cl c)] w fun e w' => e = .returned (.tuple #[]) ∧ ∃ own' v', Sol lo w' own' (upd rv (.wr (codeZ l)) v') S' ∧ Frm own own' w w' := by
  obtain ⟨i0, hi0, hz0, hz1, hz2⟩ := info_parts' info76
  obtain ⟨b, hb, hlx, hlob, hbw⟩ := h.xb
  unfold addO at hf
  obtain ⟨z, hz, hf⟩ := Option.bind_eq_some_iff.1 hf
  obtain ⟨ws, hws, hf⟩ := Option.bind_eq_some_iff.1 hf
  obtain ⟨cb, hcb, _⟩ := h.clb hz
  split at hf
  case isFalse => cases hf
  rename_i hroom
  cases hf
  obtain ⟨hr1, hr2⟩ := hroom
  have hr1 : ws.length < 100000000 := by unfold roomy at hr1; exact of_decide_eq_true hr1
  obtain ⟨p, hp⟩ : ∃ p, codeZ l = p := ⟨_, rfl⟩
  rw [hp] at hws ⊢
  have hpl : p < S.watch.length := len_of hws
  obtain ⟨W, hW⟩ : ∃ W, S.watch.length = W := ⟨_, rfl⟩
  have hn : (mem S .wt).n = W := by show ((List.range S.watch.length).map _).length = W; rw [List.length_map, List.length_range, hW]
  obtain ⟨a5, c5, H5⟩ := h.headX (T := .wt) (m := 5) hb rfl rfl hn
  obtain ⟨gw, rfl, hlw, hwb⟩ := H5.at_ (by omega)
  have hcw : (mem S .wt).cs[p]? = some (AC.ref (.wr p)) := by
    show ((List.range S.watch.length).map fun c => (AC.ref (Tg.wr c) : AC Tg))[p]? = _
    rw [List.getElem?_map, List.getElem?_range hpl]; rfl
  have hm := mem_wr hws
  have hnr : (mem S (.wr p)).n = ws.length := by rw [hm]; show (ws.map pr).length = _; rw [List.length_map]
  obtain ⟨L, hL⟩ : ∃ L, ws.length = L := ⟨_, rfl⟩
  rw [hL] at hnr hr1
  obtain ⟨ar, cr, HR⟩ := h.headAt (T := .wr p) (p := .wt) (b := gw) (m := p) rfl (by rw [H5.val]; rfl) hcw (by intro e; cases e) hnr
  have hcl := codeZ_cast l
  rw [hp] at hcl
  have x5 := H5.cell
  have xr := HR.cell
  have hgw : gw < w.heap.size := (h.dom gw _ hlw).2
  have hB0 : Below w.heap.size w (w.alloc (.cells #[.pointer (some ⟨b, 0, none⟩), .int .i64 l] 100)) := (Below.refl w.heap.size w).alloc (Nat.le_refl _) _
  have y := box_cells w (.pointer (some ⟨b, 0, none⟩)) (.int .i64 l) 100
  have hrowB : ∀ W1, Below w.heap.size w W1 → W1.ownsRow lo 76 1 (.slice ar L cr) L (concs rv (ws.map pr)) := fun W1 hB => by
    have := (((h.below hB (Nat.le_refl _)).part (.wr p)).1 rfl).row
    rw [HR.val, hnr, hm] at this
    exact this
  have hfin : ∀ W1, Below w.heap.size w W1 → ∀ g cap w7, w7.ownsRow lo 76 1 (.slice (some ⟨g, 0, none⟩) (L + 1) cap) (L + 1) (concs rv (ws.map pr) ++ [rv (.cl c)]) → W1.grownBy w7 (Value.slice ar L cr).ownBlock → ((Value.slice ar L cr).ownBlock = some g ∨ g = W1.heap.size) →
      (w7.cell? ⟨gw, p, none⟩ = some (.slice ar L cr) ∧ w7.frozen? ⟨gw, p, none⟩ = false ∧ ∀ k m v, k < W1.heap.size → own k ≠ some (.wr p) → W1.cell? ⟨k, m, none⟩ = some v → w7.cell? ⟨k, m, none⟩ = some v) ∧ ∃ own' v', Sol lo (w7.setCell ⟨gw, p, none⟩ (.slice (some ⟨g, 0, none⟩) (L + 1) cap)) own' (upd rv (.wr p) v') { S with watch := S.watch.set p (ws ++ [c]) } ∧ Frm own own' w (w7.setCell ⟨gw, p, none⟩ (.slice (some ⟨g, 0, none⟩) (L + 1) cap)) := by
    intro W1 hB g cap w7 q1 q2 q3
    have hF1 : Frm own own w W1 := ⟨hB.os, hB.tape, hB.output, hB.size, fun _ _ => rfl, fun k hk _ => hB.block k hk⟩
    have := (h.below hB (Nat.le_refl _)).append (T := .wr p) (p := .wt) (b := gw) (m := p) rfl (by intro e; cases e) (by rw [H5.val]; rfl) hcw (ref_uniq S rfl rfl) [pr c] 1 (by
      intro k hk
      match k, hk with
      | 0, hk => cases hk
      | k + 1, hk => simp at hk) hF1 (v' := .slice (some ⟨g, 0, none⟩) (L + 1) cap) (w1 := w7) (by rw [hnr, hm]; exact q1) (by rw [HR.val]; exact q2) ⟨g, rfl, by rw [HR.val]; exact q3.imp id (fun e => by omega)⟩
    rw [HR.val] at this
    obtain ⟨z1, own', z2, z3⟩ := this
    refine ⟨⟨z1.1, z1.2, fun k m v hk ho hc => (World.cell?_of_block (a := ⟨k, m, none⟩) (q2.block k hk fun e => ho ?_)).trans hc⟩, own', .slice (some ⟨g, 0, none⟩) (L + 1) cap, ?_, z3⟩
    · have := ((h.part (.wr p)).1 rfl).lab k (by rw [HR.val]; exact e.symm)
      exact this
    rw [Sol, mem_watch_ S p (ws ++ [c]) hpl, List.map_append, List.map_singleton, ← row_snoc]
    rw [← hm]
    exact z2
  rw [hb, hcb]
  rw [hcb] at hfin
  have hl0 : -1000000000 ≤ l := by omega
  have hl1 : l ≤ 1000000000 := by omega
  have hcode := fun W1 => code_walk l hl0 hl1 W1
  rw [hp] at hcode
  have hp1 : (p : Int) < W := by omega
  have hLb : (L + 1) * 8 ≤ 140737488355328 := by omega
  have hLm : L + 1 ≤ maxLen := by unfold maxLen; omega
  have hlow : ∀ W1, Below w.heap.size w W1 → lo ≤ W1.heap.size := fun W1 hB => Nat.le_trans hlob (by have := hB.size; omega)
  clear hf hz HR H5 hcw hm hnr hn hws hcl
  obtain ⟨w1, hw1⟩ : ∃ x, x = (w.alloc (.cells #[.pointer (some ⟨b, 0, none⟩), .int .i64 l] 100)) := ⟨_, rfl⟩
  have y5 : w1.cell? ⟨b, 5, none⟩ = some (.slice (some ⟨gw, 0, none⟩) W c5) := by rw [hw1]; exact (hB0.cell (p := ⟨b, 5, none⟩) hbw).trans x5
  have yr : w1.cell? ⟨gw, p, none⟩ = some (.slice ar L cr) := by rw [hw1]; exact (hB0.cell (p := ⟨gw, p, none⟩) hgw).trans xr
  obtain ⟨y0, y1⟩ := y
  rw [← hw1] at y0 y1 hB0
  have hw1' : Hid' (w1 = _) := ⟨hw1⟩
  clear hw1 x5 xr
  obtain ⟨B, hBB⟩ : ∃ B, w.heap.size = B := ⟨_, rfl⟩
  rw [hBB] at hB0 hfin hrowB hlow y0 y1 
  have hB2 : Below B w (w1.alloc (.cells #[.pointer (some ⟨cb, 0, none⟩)] 76)).drew := (hB0.alloc (by have := hB0.size; omega) _).drew
  have hn2 : ∀ (j : Nat) (u : Value), [Value.pointer (some ⟨cb, 0, none⟩)][j]? = some u → (w1.alloc (.cells #[.pointer (some ⟨cb, 0, none⟩)] 76)).drew.cell? ((⟨w1.heap.size, 0, none⟩ : Addr).add j) = some u := by
    intro j u hj
    match j, hj with
    | 0, hj =>
      simp at hj
      subst hj
      rw [add_plain]
      exact cell_new _ _ _ _ 0
  have ho2 : ∀ u ∈ [Value.pointer (some (⟨cb, 0, none⟩ : Addr))], u.oneCell' = true := by intro u hu; simp at hu; subst hu; rfl
  have hrow2 := hrowB _ hB2
  have hfin2 := hfin _ hB2
  have hlo2 := hlow _ hB2
  have k2 : ∀ k m v, k < w1.heap.size → w1.cell? ⟨k, m, none⟩ = some v → (w1.alloc (.cells #[.pointer (some ⟨cb, 0, none⟩)] 76)).drew.cell? ⟨k, m, none⟩ = some v := fun k m v hk hc => (World.cell?_of_block (w := w1) (a := ⟨k, m, none⟩) (Below.heap_alloc w1 _ k hk)).trans hc
  have hsz1 : B < w1.heap.size := by rw [hw1'.h, ← hBB]; simp
  have hbs : b < w1.heap.size := by omega
  have hgs : gw < w1.heap.size := by omega
  have hoB : own B ≠ some (.wr p) := fun e => by have := (h.dom B _ e).2; omega
  have hob : own b ≠ some (.wr p) := by rw [hlx]; intro e; cases e
  have hog : own gw ≠ some (.wr p) := by rw [hlw]; intro e; cases e
  have hs3 : ∀ k, k < w1.heap.size → k < (w1.alloc (.cells #[.pointer (some ⟨cb, 0, none⟩)] 76)).drew.heap.size := fun k hk => by
    show k < (w1.heap.push _).size
    rw [Array.size_push]; omega
  have hkeep : ∀ w7 : World, (∀ k m v, k < (w1.alloc (.cells #[.pointer (some ⟨cb, 0, none⟩)] 76)).drew.heap.size → own k ≠ some (.wr p) → (w1.alloc (.cells #[.pointer (some ⟨cb, 0, none⟩)] 76)).drew.cell? ⟨k, m, none⟩ = some v → w7.cell? ⟨k, m, none⟩ = some v) → w7.cell? ⟨B, 0, none⟩ = some (.pointer (some ⟨b, 0, none⟩)) ∧ w7.cell? ⟨B, 1, none⟩ = some (.int .i64 l) ∧ w7.cell? ⟨b, 5, none⟩ = some (.slice (some ⟨gw, 0, none⟩) W c5) :=
    fun w7 hh => ⟨hh _ _ _ (hs3 _ hsz1) hoB (k2 _ _ _ hsz1 y0), hh _ _ _ (hs3 _ hsz1) hoB (k2 _ _ _ hsz1 y1), hh _ _ _ (hs3 _ hbs) hob (k2 _ _ _ hbs y5)⟩
  have hst : ∀ (w7 : World) (v : Value), (w7.cell? ⟨B, 0, none⟩ = some (.pointer (some ⟨b, 0, none⟩)) ∧ w7.cell? ⟨B, 1, none⟩ = some (.int .i64 l) ∧ w7.cell? ⟨b, 5, none⟩ = some (.slice (some ⟨gw, 0, none⟩) W c5)) → (w7.setCell ⟨gw, p, none⟩ v).cell? ⟨B, 0, none⟩ = some (.pointer (some ⟨b, 0, none⟩)) ∧ (w7.setCell ⟨gw, p, none⟩ v).cell? ⟨B, 1, none⟩ = some (.int .i64 l) ∧ (w7.setCell ⟨gw, p, none⟩ v).cell? ⟨b, 5, none⟩ = some (.slice (some ⟨gw, 0, none⟩) W c5) := by
    intro w7 v hh
    rw [World.cell?_setCell_other _ ⟨gw, p, none⟩ ⟨B, 0, none⟩ _ (by intro e; injection e; omega), World.cell?_setCell_other _ ⟨gw, p, none⟩ ⟨B, 1, none⟩ _ (by intro e; injection e; omega), World.cell?_setCell_other _ ⟨gw, p, none⟩ ⟨b, 5, none⟩ _ (by intro e; injection e; omega)]
    exact hh
  clear hfin hrowB hlow hB2 hB0 k2 hs3
  go_enter Try.func47, Try.ntmps47
  go_wp2_with fail
  rw [← hw1'.h]
  refine wp_region_noPanic ?_
  refine wp_region_held_drew (S := (fun w' => w'.cell? ⟨B, 0, none⟩ = some (.pointer (some ⟨b, 0, none⟩)) ∧ w'.cell? ⟨B, 1, none⟩ = some (.int .i64 l) ∧ w'.cell? ⟨b, 5, none⟩ = some (.slice (some ⟨gw, 0, none⟩) W c5))) (by kernel_rfl) ?_ (fun hHeld => ?_)
  · (try dsimp only); first | exact ⟨y0, y1, y5⟩ | exact f4 | exact hst _ _ f4 | go_keep
  refine wpAnyH_take (i := 0) (oi := { dst := some 4, op := Op.fieldAddr 100 (Operand.tmp 2) 0, type := 0, pos := "sat.go:107", after := #[], guard := none }) (v := ?_) rfl (by kernel_rfl) (by kernel_rfl) (by kernel_rfl) (fun _ _ _ h => h) (Or.inl ⟨by rfl, ?_⟩) (by assumption) ?_
  rotate_left
  · intro w hSw; (try dsimp only at hSw); go_simp; all_goals with_reducible rfl
  try simp only [Act.put, List.setIfInBounds_toArray, List.set_cons_zero, List.set_cons_succ]
  refine wpAnyH_take (i := 1) (oi := { dst := some 5, op := Op.load 46 (Operand.tmp 4), type := 46, pos := "sat.go:107", after := #[{ on := 0, ground := Ground.data }], guard := none }) (v := ?_) rfl (by kernel_rfl) (by kernel_rfl) (by kernel_rfl) (fun _ _ _ h => h) (Or.inl ⟨by rfl, ?_⟩) (by assumption) ?_
  rotate_left
  · intro w hSw; (try dsimp only at hSw); go_simp; all_goals with_reducible rfl
  try simp only [Act.put, List.setIfInBounds_toArray, List.set_cons_zero, List.set_cons_succ]
  refine wpAnyH_take (i := 2) (oi := { dst := some 6, op := Op.nilCheck (Operand.tmp 5), type := 0, pos := "sat.go:107", after := #[{ on := 1, ground := Ground.data }], guard := none }) (v := ?_) rfl (by kernel_rfl) (by kernel_rfl) (by kernel_rfl) (fun _ _ _ h => h) (Or.inl ⟨by rfl, ?_⟩) (by assumption) ?_
  rotate_left
  · intro w hSw; (try dsimp only at hSw); go_simp; all_goals with_reducible rfl
  try simp only [Act.put, List.setIfInBounds_toArray, List.set_cons_zero, List.set_cons_succ]
  refine wpAnyH_take (i := 3) (oi := { dst := some 7, op := Op.fieldAddr 59 (Operand.tmp 6) 3, type := 0, pos := "sat.go:107", after := #[{ on := 2, ground := Ground.data }], guard := none }) (v := ?_) rfl (by kernel_rfl) (by kernel_rfl) (by kernel_rfl) (fun _ _ _ h => h) (Or.inl ⟨by rfl, ?_⟩) (by assumption) ?_
  rotate_left
  · intro w hSw; (try dsimp only at hSw); go_simp; all_goals with_reducible rfl
  try simp only [Act.put, List.setIfInBounds_toArray, List.set_cons_zero, List.set_cons_succ]
  refine wpAnyH_take (i := 4) (oi := { dst := some 8, op := Op.load 55 (Operand.tmp 7), type := 55, pos := "sat.go:107", after := #[{ on := 3, ground := Ground.data }], guard := none }) (v := ?_) rfl (by kernel_rfl) (by kernel_rfl) (by kernel_rfl) (fun _ _ _ h => h) (Or.inl ⟨by rfl, ?_⟩) (by assumption) ?_
  rotate_left
  · intro w hSw; (try dsimp only at hSw); go_simp; all_goals with_reducible rfl
  try simp only [Act.put, List.setIfInBounds_toArray, List.set_cons_zero, List.set_cons_succ]
  refine wpAnyH_take (i := 5) (oi := { dst := some 9, op := Op.fieldAddr 100 (Operand.tmp 2) 1, type := 0, pos := "sat.go:107", after := #[], guard := none }) (v := ?_) rfl (by kernel_rfl) (by kernel_rfl) (by kernel_rfl) (fun _ _ _ h => h) (Or.inl ⟨by rfl, ?_⟩) (by assumption) ?_
  rotate_left
  · intro w hSw; (try dsimp only at hSw); go_simp; all_goals with_reducible rfl
  try simp only [Act.put, List.setIfInBounds_toArray, List.set_cons_zero, List.set_cons_succ]
  refine wpAnyH_take (i := 6) (oi := { dst := some 10, op := Op.load 3 (Operand.tmp 9), type := 3, pos := "sat.go:107", after := #[{ on := 5, ground := Ground.data }], guard := none }) (v := ?_) rfl (by kernel_rfl) (by kernel_rfl) (by kernel_rfl) (fun _ _ _ h => h) (Or.inl ⟨by rfl, ?_⟩) (by assumption) ?_
  rotate_left
  · intro w hSw; (try dsimp only at hSw); go_simp; all_goals with_reducible rfl
  try simp only [Act.put, List.setIfInBounds_toArray, List.set_cons_zero, List.set_cons_succ]
  refine wpAnyH_take (i := 8) (oi := { dst := some 12, op := Op.fieldAddr 100 (Operand.tmp 2) 0, type := 0, pos := "sat.go:107", after := #[], guard := none }) (v := ?_) rfl (by kernel_rfl) (by kernel_rfl) (by kernel_rfl) (fun _ _ _ h => h) (Or.inl ⟨by rfl, ?_⟩) (by assumption) ?_
  rotate_left
  · intro w hSw; (try dsimp only at hSw); go_simp; all_goals with_reducible rfl
  try simp only [Act.put, List.setIfInBounds_toArray, List.set_cons_zero, List.set_cons_succ]
  refine wpAnyH_take (i := 9) (oi := { dst := some 13, op := Op.load 46 (Operand.tmp 12), type := 46, pos := "sat.go:107", after := #[{ on := 8, ground := Ground.data }], guard := none }) (v := ?_) rfl (by kernel_rfl) (by kernel_rfl) (by kernel_rfl) (fun _ _ _ h => h) (Or.inl ⟨by rfl, ?_⟩) (by assumption) ?_
  rotate_left
  · intro w hSw; (try dsimp only at hSw); go_simp; all_goals with_reducible rfl
  try simp only [Act.put, List.setIfInBounds_toArray, List.set_cons_zero, List.set_cons_succ]
  refine wpAnyH_take (i := 10) (oi := { dst := some 14, op := Op.nilCheck (Operand.tmp 13), type := 0, pos := "sat.go:107", after := #[{ on := 9, ground := Ground.data }], guard := none }) (v := ?_) rfl (by kernel_rfl) (by kernel_rfl) (by kernel_rfl) (fun _ _ _ h => h) (Or.inl ⟨by rfl, ?_⟩) (by assumption) ?_
  rotate_left
  · intro w hSw; (try dsimp only at hSw); go_simp; all_goals with_reducible rfl
  try simp only [Act.put, List.setIfInBounds_toArray, List.set_cons_zero, List.set_cons_succ]
  refine wpAnyH_take (i := 11) (oi := { dst := some 15, op := Op.fieldAddr 59 (Operand.tmp 14) 3, type := 0, pos := "sat.go:107", after := #[{ on := 10, ground := Ground.data }], guard := none }) (v := ?_) rfl (by kernel_rfl) (by kernel_rfl) (by kernel_rfl) (fun _ _ _ h => h) (Or.inl ⟨by rfl, ?_⟩) (by assumption) ?_
  rotate_left
  · intro w hSw; (try dsimp only at hSw); go_simp; all_goals with_reducible rfl
  try simp only [Act.put, List.setIfInBounds_toArray, List.set_cons_zero, List.set_cons_succ]
  refine wpAnyH_take (i := 12) (oi := { dst := some 16, op := Op.load 55 (Operand.tmp 15), type := 55, pos := "sat.go:107", after := #[{ on := 11, ground := Ground.data }], guard := none }) (v := ?_) rfl (by kernel_rfl) (by kernel_rfl) (by kernel_rfl) (fun _ _ _ h => h) (Or.inl ⟨by rfl, ?_⟩) (by assumption) ?_
  rotate_left
  · intro w hSw; (try dsimp only at hSw); go_simp; all_goals with_reducible rfl
  try simp only [Act.put, List.setIfInBounds_toArray, List.set_cons_zero, List.set_cons_succ]
  refine wpAnyH_take (i := 13) (oi := { dst := some 17, op := Op.fieldAddr 100 (Operand.tmp 2) 1, type := 0, pos := "sat.go:107", after := #[], guard := none }) (v := ?_) rfl (by kernel_rfl) (by kernel_rfl) (by kernel_rfl) (fun _ _ _ h => h) (Or.inl ⟨by rfl, ?_⟩) (by assumption) ?_
  rotate_left
  · intro w hSw; (try dsimp only at hSw); go_simp; all_goals with_reducible rfl
  try simp only [Act.put, List.setIfInBounds_toArray, List.set_cons_zero, List.set_cons_succ]
  refine wpAnyH_take (i := 14) (oi := { dst := some 18, op := Op.load 3 (Operand.tmp 17), type := 3, pos := "sat.go:107", after := #[{ on := 13, ground := Ground.data }], guard := none }) (v := ?_) rfl (by kernel_rfl) (by kernel_rfl) (by kernel_rfl) (fun _ _ _ h => h) (Or.inl ⟨by rfl, ?_⟩) (by assumption) ?_
  rotate_left
  · intro w hSw; (try dsimp only at hSw); go_simp; all_goals with_reducible rfl
  try simp only [Act.put, List.setIfInBounds_toArray, List.set_cons_zero, List.set_cons_succ]
  refine wpAnyH_take (i := 18) (oi := { dst := some 22, op := Op.move (Operand.tmp 1), type := 76, pos := "sat.go:107", after := #[], guard := none }) (v := ?_) rfl (by kernel_rfl) (by kernel_rfl) (by kernel_rfl) (fun _ _ _ h => h) (Or.inl ⟨by rfl, ?_⟩) (by assumption) ?_
  rotate_left
  · intro w hSw; (try dsimp only at hSw); go_simp; all_goals with_reducible rfl
  try simp only [Act.put, List.setIfInBounds_toArray, List.set_cons_zero, List.set_cons_succ]
  refine wpAnyH_ready (rs := [7, 19]) (by kernel_rfl) (by simp) ?_
  refine AllReadyH.cons (o := { dst := some 11, op := Op.call { callee := Callee.value (Operand.func 48), args := #[Operand.tmp 10], argTypes := #[3] }, type := 3, pos := "sat.go:107", after := #[{ on := 6, ground := Ground.data }], guard := none }) rfl (fun K hK => ?_) ?_
  · go_simp
    go_at_call 48; refine (hcode _).mono ?_; rintro e w' ⟨p1, p2⟩; rw [p1, p2]; clear p1 p2
    go_wp2_with fail
    refine hK.out _ _ ?_ (fun hHeld2 => ?_)
    · (try dsimp only); first | exact ⟨y0, y1, y5⟩ | exact f4 | exact hst _ _ f4 | go_keep
    clear hK K hHeld
    have hHeld := hHeld2
    clear hHeld2
    try simp only [Act.put, List.setIfInBounds_toArray, List.set_cons_zero, List.set_cons_succ]
    refine wpAnyH_ready (rs := [15, 19]) (by kernel_rfl) (by simp) ?_
    refine AllReadyH.cons (o := { dst := some 19, op := Op.call { callee := Callee.value (Operand.func 48), args := #[Operand.tmp 18], argTypes := #[3] }, type := 3, pos := "sat.go:107", after := #[{ on := 14, ground := Ground.data }, { on := 7, ground := Ground.chain }], guard := none }) rfl (fun K hK => ?_) ?_
    · go_simp
      go_at_call 48; refine (hcode _).mono ?_; rintro e w' ⟨p1, p2⟩; rw [p1, p2]; clear p1 p2
      go_wp2_with fail
      refine hK.out _ _ ?_ (fun hHeld2 => ?_)
      · (try dsimp only); first | exact ⟨y0, y1, y5⟩ | exact f4 | exact hst _ _ f4 | go_keep
      clear hK K hHeld
      have hHeld := hHeld2
      clear hHeld2
      try simp only [Act.put, List.setIfInBounds_toArray, List.set_cons_zero, List.set_cons_succ]
      refine wpAnyH_take (i := 16) (oi := { dst := some 20, op := Op.indexAddr 55 (Operand.tmp 16) (Operand.tmp 19), type := 0, pos := "sat.go:107", after := #[{ on := 12, ground := Ground.data }, { on := 15, ground := Ground.data }], guard := none }) (v := ?_) rfl (by kernel_rfl) (by kernel_rfl) (by kernel_rfl) (fun _ _ _ h => h) (Or.inl ⟨by rfl, ?_⟩) (by assumption) ?_
      rotate_left
      · intro w hSw; (try dsimp only at hSw); go_simp; all_goals with_reducible rfl
      try simp only [Act.put, List.setIfInBounds_toArray, List.set_cons_zero, List.set_cons_succ]
      refine wpAnyH_ready (rs := [17, 19]) (by kernel_rfl) (by simp) ?_
      refine AllReadyH.cons (o := { dst := some 21, op := Op.load 54 (Operand.tmp 20), type := 54, pos := "sat.go:107", after := #[{ on := 16, ground := Ground.data }], guard := none }) rfl (fun K hK => ?_) ?_
      · go_simp
        refine hK.out _ _ ?_ (fun hHeld2 => ?_)
        · (try dsimp only); first | exact ⟨y0, y1, y5⟩ | exact f4 | exact hst _ _ f4 | go_keep
        clear hK K hHeld
        have hHeld := hHeld2
        clear hHeld2
        try simp only [Act.put, List.setIfInBounds_toArray, List.set_cons_zero, List.set_cons_succ]
        refine wpAnyH_ready (rs := [19]) (by kernel_rfl) (by simp) ?_
        refine AllReadyH.cons (o := { dst := some 23, op := Op.buildSlice 54 1 #[(0, Operand.tmp 22)], type := 54, pos := "sat.go:107", after := #[{ on := 18, ground := Ground.data }], guard := none }) rfl (fun K hK => ?_) ?_
        · go_simp
          refine hK.out _ _ ?_ (fun hHeld2 => ?_)
          · (try dsimp only); first | exact ⟨y0, y1, y5⟩ | exact f4 | exact hst _ _ f4 | go_keep
          clear hK K hHeld
          have hHeld := hHeld2
          clear hHeld2
          try simp only [Act.put, List.setIfInBounds_toArray, List.set_cons_zero, List.set_cons_succ]
          refine wpAnyH_ready (rs := [20]) (by kernel_rfl) (by simp) ?_
          refine AllReadyH.cons (o := { dst := some 24, op := Op.call { callee := Callee.builtin Builtin.append, args := #[Operand.tmp 21, Operand.tmp 23], argTypes := #[54, 54] }, type := 54, pos := "sat.go:107", after := #[{ on := 17, ground := Ground.data }, { on := 19, ground := Ground.data }, { on := 15, ground := Ground.chain }], guard := none }) rfl (fun K hK => ?_) ?_
          · refine step_append_lies _ (by rfl) _ _ _ (by rfl) lo 76 i0 (.pointer none) 1 8 Try.underlying54 hi0 hz0 hz1 hz2 rfl (by decide) (.slice ar L cr) L (concs rv (ws.map pr)) (by rfl) hrow2 ⟨w1.heap.size, 0, none⟩ 1 1 [.pointer (some ⟨cb, 0, none⟩)] (by rfl) (by rfl) hn2 ho2 (by decide) hLm hLb hlo2 _ rfl ?_
            intro g cap w7 q1 q2 q3 q4
            obtain ⟨⟨f1, f2, f3⟩, hE⟩ := hfin2 g cap w7 q1 q2 q3
            have f4 := hkeep _ f3
            clear f3 hkeep hfin2 q1 q2 q3 q4
            refine hK.out _ _ ?_ (fun hHeld2 => ?_)
            · (try dsimp only); first | exact ⟨y0, y1, y5⟩ | exact f4 | exact hst _ _ f4 | go_keep
            clear hK K hHeld
            have hHeld := hHeld2
            clear hHeld2
            try simp only [Act.put, List.setIfInBounds_toArray, List.set_cons_zero, List.set_cons_succ]
            refine wpAnyH_take (i := 21) (oi := { dst := some 25, op := Op.indexAddr 55 (Operand.tmp 8) (Operand.tmp 11), type := 0, pos := "sat.go:107", after := #[{ on := 4, ground := Ground.data }, { on := 7, ground := Ground.data }, { on := 0, ground := Ground.phase }, { on := 1, ground := Ground.phase }, { on := 2, ground := Ground.phase }, { on := 3, ground := Ground.phase }, { on := 4, ground := Ground.phase }, { on := 5, ground := Ground.phase }, { on := 6, ground := Ground.phase }, { on := 7, ground := Ground.phase }, { on := 8, ground := Ground.phase }, { on := 9, ground := Ground.phase }, { on := 10, ground := Ground.phase }, { on := 11, ground := Ground.phase }, { on := 12, ground := Ground.phase }, { on := 13, ground := Ground.phase }, { on := 14, ground := Ground.phase }, { on := 15, ground := Ground.phase }, { on := 16, ground := Ground.phase }, { on := 17, ground := Ground.phase }, { on := 18, ground := Ground.phase }, { on := 19, ground := Ground.phase }, { on := 20, ground := Ground.phase }], guard := none }) (v := ?_) rfl (by kernel_rfl) (by kernel_rfl) (by kernel_rfl) (fun _ _ _ h => h) (Or.inl ⟨by rfl, ?_⟩) (by assumption) ?_
            rotate_left
            · intro w hSw; (try dsimp only at hSw); go_simp; all_goals with_reducible rfl
            try simp only [Act.put, List.setIfInBounds_toArray, List.set_cons_zero, List.set_cons_succ]
            refine wpAnyH_ready (rs := [22]) (by kernel_rfl) (by simp) ?_
            refine AllReadyH.cons (o := { dst := none, op := Op.store 54 (Operand.tmp 25) (Operand.tmp 24), type := 0, pos := "sat.go:107", after := #[{ on := 21, ground := Ground.data }, { on := 20, ground := Ground.data }, { on := 20, ground := Ground.chain }, { on := 0, ground := Ground.phase }, { on := 1, ground := Ground.phase }, { on := 2, ground := Ground.phase }, { on := 3, ground := Ground.phase }, { on := 4, ground := Ground.phase }, { on := 5, ground := Ground.phase }, { on := 6, ground := Ground.phase }, { on := 7, ground := Ground.phase }, { on := 8, ground := Ground.phase }, { on := 9, ground := Ground.phase }, { on := 10, ground := Ground.phase }, { on := 11, ground := Ground.phase }, { on := 12, ground := Ground.phase }, { on := 13, ground := Ground.phase }, { on := 14, ground := Ground.phase }, { on := 15, ground := Ground.phase }, { on := 16, ground := Ground.phase }, { on := 17, ground := Ground.phase }, { on := 18, ground := Ground.phase }, { on := 19, ground := Ground.phase }, { on := 20, ground := Ground.phase }], guard := none }) rfl (fun K hK => ?_) ?_
            · go_simp
              refine hK.out _ _ ?_ (fun hHeld2 => ?_)
              · (try dsimp only); first | exact ⟨y0, y1, y5⟩ | exact f4 | exact hst _ _ f4 | go_keep
              clear hK K hHeld
              have hHeld := hHeld2
              clear hHeld2
              try simp only [Act.put, List.setIfInBounds_toArray, List.set_cons_zero, List.set_cons_succ]
              refine wpAnyH_done (by kernel_rfl) ?_ _
              refine NoPanic.normal ?_
              go_wp2_with fail
              go_end0
              exact ⟨rfl, hE⟩
            exact AllReadyH.nil
          exact AllReadyH.nil
        exact AllReadyH.nil
      refine AllReadyH.cons (o := { dst := some 23, op := Op.buildSlice 54 1 #[(0, Operand.tmp 22)], type := 54, pos := "sat.go:107", after := #[{ on := 18, ground := Ground.data }], guard := none }) rfl (fun K hK => ?_) ?_
      · go_simp
        refine hK.out _ _ ?_ (fun hHeld2 => ?_)
        · (try dsimp only); first | exact ⟨y0, y1, y5⟩ | exact f4 | exact hst _ _ f4 | go_keep
        clear hK K hHeld
        have hHeld := hHeld2
        clear hHeld2
        try simp only [Act.put, List.setIfInBounds_toArray, List.set_cons_zero, List.set_cons_succ]
        refine wpAnyH_ready (rs := [17]) (by kernel_rfl) (by simp) ?_
        refine AllReadyH.cons (o := { dst := some 21, op := Op.load 54 (Operand.tmp 20), type := 54, pos := "sat.go:107", after := #[{ on := 16, ground := Ground.data }], guard := none }) rfl (fun K hK => ?_) ?_
        · go_simp
          refine hK.out _ _ ?_ (fun hHeld2 => ?_)
          · (try dsimp only); first | exact ⟨y0, y1, y5⟩ | exact f4 | exact hst _ _ f4 | go_keep
          clear hK K hHeld
          have hHeld := hHeld2
          clear hHeld2
          try simp only [Act.put, List.setIfInBounds_toArray, List.set_cons_zero, List.set_cons_succ]
          refine wpAnyH_ready (rs := [20]) (by kernel_rfl) (by simp) ?_
          refine AllReadyH.cons (o := { dst := some 24, op := Op.call { callee := Callee.builtin Builtin.append, args := #[Operand.tmp 21, Operand.tmp 23], argTypes := #[54, 54] }, type := 54, pos := "sat.go:107", after := #[{ on := 17, ground := Ground.data }, { on := 19, ground := Ground.data }, { on := 15, ground := Ground.chain }], guard := none }) rfl (fun K hK => ?_) ?_
          · refine step_append_lies _ (by rfl) _ _ _ (by rfl) lo 76 i0 (.pointer none) 1 8 Try.underlying54 hi0 hz0 hz1 hz2 rfl (by decide) (.slice ar L cr) L (concs rv (ws.map pr)) (by rfl) hrow2 ⟨w1.heap.size, 0, none⟩ 1 1 [.pointer (some ⟨cb, 0, none⟩)] (by rfl) (by rfl) hn2 ho2 (by decide) hLm hLb hlo2 _ rfl ?_
            intro g cap w7 q1 q2 q3 q4
            obtain ⟨⟨f1, f2, f3⟩, hE⟩ := hfin2 g cap w7 q1 q2 q3
            have f4 := hkeep _ f3
            clear f3 hkeep hfin2 q1 q2 q3 q4
            refine hK.out _ _ ?_ (fun hHeld2 => ?_)
            · (try dsimp only); first | exact ⟨y0, y1, y5⟩ | exact f4 | exact hst _ _ f4 | go_keep
            clear hK K hHeld
            have hHeld := hHeld2
            clear hHeld2
            try simp only [Act.put, List.setIfInBounds_toArray, List.set_cons_zero, List.set_cons_succ]
            refine wpAnyH_take (i := 21) (oi := { dst := some 25, op := Op.indexAddr 55 (Operand.tmp 8) (Operand.tmp 11), type := 0, pos := "sat.go:107", after := #[{ on := 4, ground := Ground.data }, { on := 7, ground := Ground.data }, { on := 0, ground := Ground.phase }, { on := 1, ground := Ground.phase }, { on := 2, ground := Ground.phase }, { on := 3, ground := Ground.phase }, { on := 4, ground := Ground.phase }, { on := 5, ground := Ground.phase }, { on := 6, ground := Ground.phase }, { on := 7, ground := Ground.phase }, { on := 8, ground := Ground.phase }, { on := 9, ground := Ground.phase }, { on := 10, ground := Ground.phase }, { on := 11, ground := Ground.phase }, { on := 12, ground := Ground.phase }, { on := 13, ground := Ground.phase }, { on := 14, ground := Ground.phase }, { on := 15, ground := Ground.phase }, { on := 16, ground := Ground.phase }, { on := 17, ground := Ground.phase }, { on := 18, ground := Ground.phase }, { on := 19, ground := Ground.phase }, { on := 20, ground := Ground.phase }], guard := none }) (v := ?_) rfl (by kernel_rfl) (by kernel_rfl) (by kernel_rfl) (fun _ _ _ h => h) (Or.inl ⟨by rfl, ?_⟩) (by assumption) ?_
            rotate_left
            · intro w hSw; (try dsimp only at hSw); go_simp; all_goals with_reducible rfl
            try simp only [Act.put, List.setIfInBounds_toArray, List.set_cons_zero, List.set_cons_succ]
            refine wpAnyH_ready (rs := [22]) (by kernel_rfl) (by simp) ?_
            refine AllReadyH.cons (o := { dst := none, op := Op.store 54 (Operand.tmp 25) (Operand.tmp 24), type := 0, pos := "sat.go:107", after := #[{ on := 21, ground := Ground.data }, { on := 20, ground := Ground.data }, { on := 20, ground := Ground.chain }, { on := 0, ground := Ground.phase }, { on := 1, ground := Ground.phase }, { on := 2, ground := Ground.phase }, { on := 3, ground := Ground.phase }, { on := 4, ground := Ground.phase }, { on := 5, ground := Ground.phase }, { on := 6, ground := Ground.phase }, { on := 7, ground := Ground.phase }, { on := 8, ground := Ground.phase }, { on := 9, ground := Ground.phase }, { on := 10, ground := Ground.phase }, { on := 11, ground := Ground.phase }, { on := 12, ground := Ground.phase }, { on := 13, ground := Ground.phase }, { on := 14, ground := Ground.phase }, { on := 15, ground := Ground.phase }, { on := 16, ground := Ground.phase }, { on := 17, ground := Ground.phase }, { on := 18, ground := Ground.phase }, { on := 19, ground := Ground.phase }, { on := 20, ground := Ground.phase }], guard := none }) rfl (fun K hK => ?_) ?_
            · go_simp
              refine hK.out _ _ ?_ (fun hHeld2 => ?_)
              · (try dsimp only); first | exact ⟨y0, y1, y5⟩ | exact f4 | exact hst _ _ f4 | go_keep
              clear hK K hHeld
              have hHeld := hHeld2
              clear hHeld2
              try simp only [Act.put, List.setIfInBounds_toArray, List.set_cons_zero, List.set_cons_succ]
              refine wpAnyH_done (by kernel_rfl) ?_ _
              refine NoPanic.normal ?_
              go_wp2_with fail
              go_end0
              exact ⟨rfl, hE⟩
            exact AllReadyH.nil
          exact AllReadyH.nil
        exact AllReadyH.nil
      exact AllReadyH.nil
    refine AllReadyH.cons (o := { dst := some 23, op := Op.buildSlice 54 1 #[(0, Operand.tmp 22)], type := 54, pos := "sat.go:107", after := #[{ on := 18, ground := Ground.data }], guard := none }) rfl (fun K hK => ?_) ?_
    · go_simp
      refine hK.out _ _ ?_ (fun hHeld2 => ?_)
      · (try dsimp only); first | exact ⟨y0, y1, y5⟩ | exact f4 | exact hst _ _ f4 | go_keep
      clear hK K hHeld
      have hHeld := hHeld2
      clear hHeld2
      try simp only [Act.put, List.setIfInBounds_toArray, List.set_cons_zero, List.set_cons_succ]
      refine wpAnyH_ready (rs := [15]) (by kernel_rfl) (by simp) ?_
      refine AllReadyH.cons (o := { dst := some 19, op := Op.call { callee := Callee.value (Operand.func 48), args := #[Operand.tmp 18], argTypes := #[3] }, type := 3, pos := "sat.go:107", after := #[{ on := 14, ground := Ground.data }, { on := 7, ground := Ground.chain }], guard := none }) rfl (fun K hK => ?_) ?_
      · go_simp
        go_at_call 48; refine (hcode _).mono ?_; rintro e w' ⟨p1, p2⟩; rw [p1, p2]; clear p1 p2
        go_wp2_with fail
        refine hK.out _ _ ?_ (fun hHeld2 => ?_)
        · (try dsimp only); first | exact ⟨y0, y1, y5⟩ | exact f4 | exact hst _ _ f4 | go_keep
        clear hK K hHeld
        have hHeld := hHeld2
        clear hHeld2
        try simp only [Act.put, List.setIfInBounds_toArray, List.set_cons_zero, List.set_cons_succ]
        refine wpAnyH_take (i := 16) (oi := { dst := some 20, op := Op.indexAddr 55 (Operand.tmp 16) (Operand.tmp 19), type := 0, pos := "sat.go:107", after := #[{ on := 12, ground := Ground.data }, { on := 15, ground := Ground.data }], guard := none }) (v := ?_) rfl (by kernel_rfl) (by kernel_rfl) (by kernel_rfl) (fun _ _ _ h => h) (Or.inl ⟨by rfl, ?_⟩) (by assumption) ?_
        rotate_left
        · intro w hSw; (try dsimp only at hSw); go_simp; all_goals with_reducible rfl
        try simp only [Act.put, List.setIfInBounds_toArray, List.set_cons_zero, List.set_cons_succ]
        refine wpAnyH_ready (rs := [17]) (by kernel_rfl) (by simp) ?_
        refine AllReadyH.cons (o := { dst := some 21, op := Op.load 54 (Operand.tmp 20), type := 54, pos := "sat.go:107", after := #[{ on := 16, ground := Ground.data }], guard := none }) rfl (fun K hK => ?_) ?_
        · go_simp
          refine hK.out _ _ ?_ (fun hHeld2 => ?_)
          · (try dsimp only); first | exact ⟨y0, y1, y5⟩ | exact f4 | exact hst _ _ f4 | go_keep
          clear hK K hHeld
          have hHeld := hHeld2
          clear hHeld2
          try simp only [Act.put, List.setIfInBounds_toArray, List.set_cons_zero, List.set_cons_succ]
          refine wpAnyH_ready (rs := [20]) (by kernel_rfl) (by simp) ?_
          refine AllReadyH.cons (o := { dst := some 24, op := Op.call { callee := Callee.builtin Builtin.append, args := #[Operand.tmp 21, Operand.tmp 23], argTypes := #[54, 54] }, type := 54, pos := "sat.go:107", after := #[{ on := 17, ground := Ground.data }, { on := 19, ground := Ground.data }, { on := 15, ground := Ground.chain }], guard := none }) rfl (fun K hK => ?_) ?_
          · refine step_append_lies _ (by rfl) _ _ _ (by rfl) lo 76 i0 (.pointer none) 1 8 Try.underlying54 hi0 hz0 hz1 hz2 rfl (by decide) (.slice ar L cr) L (concs rv (ws.map pr)) (by rfl) hrow2 ⟨w1.heap.size, 0, none⟩ 1 1 [.pointer (some ⟨cb, 0, none⟩)] (by rfl) (by rfl) hn2 ho2 (by decide) hLm hLb hlo2 _ rfl ?_
            intro g cap w7 q1 q2 q3 q4
            obtain ⟨⟨f1, f2, f3⟩, hE⟩ := hfin2 g cap w7 q1 q2 q3
            have f4 := hkeep _ f3
            clear f3 hkeep hfin2 q1 q2 q3 q4
            refine hK.out _ _ ?_ (fun hHeld2 => ?_)
            · (try dsimp only); first | exact ⟨y0, y1, y5⟩ | exact f4 | exact hst _ _ f4 | go_keep
            clear hK K hHeld
            have hHeld := hHeld2
            clear hHeld2
            try simp only [Act.put, List.setIfInBounds_toArray, List.set_cons_zero, List.set_cons_succ]
            refine wpAnyH_take (i := 21) (oi := { dst := some 25, op := Op.indexAddr 55 (Operand.tmp 8) (Operand.tmp 11), type := 0, pos := "sat.go:107", after := #[{ on := 4, ground := Ground.data }, { on := 7, ground := Ground.data }, { on := 0, ground := Ground.phase }, { on := 1, ground := Ground.phase }, { on := 2, ground := Ground.phase }, { on := 3, ground := Ground.phase }, { on := 4, ground := Ground.phase }, { on := 5, ground := Ground.phase }, { on := 6, ground := Ground.phase }, { on := 7, ground := Ground.phase }, { on := 8, ground := Ground.phase }, { on := 9, ground := Ground.phase }, { on := 10, ground := Ground.phase }, { on := 11, ground := Ground.phase }, { on := 12, ground := Ground.phase }, { on := 13, ground := Ground.phase }, { on := 14, ground := Ground.phase }, { on := 15, ground := Ground.phase }, { on := 16, ground := Ground.phase }, { on := 17, ground := Ground.phase }, { on := 18, ground := Ground.phase }, { on := 19, ground := Ground.phase }, { on := 20, ground := Ground.phase }], guard := none }) (v := ?_) rfl (by kernel_rfl) (by kernel_rfl) (by kernel_rfl) (fun _ _ _ h => h) (Or.inl ⟨by rfl, ?_⟩) (by assumption) ?_
            rotate_left
            · intro w hSw; (try dsimp only at hSw); go_simp; all_goals with_reducible rfl
            try simp only [Act.put, List.setIfInBounds_toArray, List.set_cons_zero, List.set_cons_succ]
            refine wpAnyH_ready (rs := [22]) (by kernel_rfl) (by simp) ?_
            refine AllReadyH.cons (o := { dst := none, op := Op.store 54 (Operand.tmp 25) (Operand.tmp 24), type := 0, pos := "sat.go:107", after := #[{ on := 21, ground := Ground.data }, { on := 20, ground := Ground.data }, { on := 20, ground := Ground.chain }, { on := 0, ground := Ground.phase }, { on := 1, ground := Ground.phase }, { on := 2, ground := Ground.phase }, { on := 3, ground := Ground.phase }, { on := 4, ground := Ground.phase }, { on := 5, ground := Ground.phase }, { on := 6, ground := Ground.phase }, { on := 7, ground := Ground.phase }, { on := 8, ground := Ground.phase }, { on := 9, ground := Ground.phase }, { on := 10, ground := Ground.phase }, { on := 11, ground := Ground.phase }, { on := 12, ground := Ground.phase }, { on := 13, ground := Ground.phase }, { on := 14, ground := Ground.phase }, { on := 15, ground := Ground.phase }, { on := 16, ground := Ground.phase }, { on := 17, ground := Ground.phase }, { on := 18, ground := Ground.phase }, { on := 19, ground := Ground.phase }, { on := 20, ground := Ground.phase }], guard := none }) rfl (fun K hK => ?_) ?_
            · go_simp
              refine hK.out _ _ ?_ (fun hHeld2 => ?_)
              · (try dsimp only); first | exact ⟨y0, y1, y5⟩ | exact f4 | exact hst _ _ f4 | go_keep
              clear hK K hHeld
              have hHeld := hHeld2
              clear hHeld2
              try simp only [Act.put, List.setIfInBounds_toArray, List.set_cons_zero, List.set_cons_succ]
              refine wpAnyH_done (by kernel_rfl) ?_ _
              refine NoPanic.normal ?_
              go_wp2_with fail
              go_end0
              exact ⟨rfl, hE⟩
            exact AllReadyH.nil
          exact AllReadyH.nil
        exact AllReadyH.nil
      exact AllReadyH.nil
    exact AllReadyH.nil
  refine AllReadyH.cons (o := { dst := some 23, op := Op.buildSlice 54 1 #[(0, Operand.tmp 22)], type := 54, pos := "sat.go:107", after := #[{ on := 18, ground := Ground.data }], guard := none }) rfl (fun K hK => ?_) ?_
  · go_simp
    refine hK.out _ _ ?_ (fun hHeld2 => ?_)
    · (try dsimp only); first | exact ⟨y0, y1, y5⟩ | exact f4 | exact hst _ _ f4 | go_keep
    clear hK K hHeld
    have hHeld := hHeld2
    clear hHeld2
    try simp only [Act.put, List.setIfInBounds_toArray, List.set_cons_zero, List.set_cons_succ]
    refine wpAnyH_ready (rs := [7]) (by kernel_rfl) (by simp) ?_
    refine AllReadyH.cons (o := { dst := some 11, op := Op.call { callee := Callee.value (Operand.func 48), args := #[Operand.tmp 10], argTypes := #[3] }, type := 3, pos := "sat.go:107", after := #[{ on := 6, ground := Ground.data }], guard := none }) rfl (fun K hK => ?_) ?_
    · go_simp
      go_at_call 48; refine (hcode _).mono ?_; rintro e w' ⟨p1, p2⟩; rw [p1, p2]; clear p1 p2
      go_wp2_with fail
      refine hK.out _ _ ?_ (fun hHeld2 => ?_)
      · (try dsimp only); first | exact ⟨y0, y1, y5⟩ | exact f4 | exact hst _ _ f4 | go_keep
      clear hK K hHeld
      have hHeld := hHeld2
      clear hHeld2
      try simp only [Act.put, List.setIfInBounds_toArray, List.set_cons_zero, List.set_cons_succ]
      refine wpAnyH_ready (rs := [15]) (by kernel_rfl) (by simp) ?_
      refine AllReadyH.cons (o := { dst := some 19, op := Op.call { callee := Callee.value (Operand.func 48), args := #[Operand.tmp 18], argTypes := #[3] }, type := 3, pos := "sat.go:107", after := #[{ on := 14, ground := Ground.data }, { on := 7, ground := Ground.chain }], guard := none }) rfl (fun K hK => ?_) ?_
      · go_simp
        go_at_call 48; refine (hcode _).mono ?_; rintro e w' ⟨p1, p2⟩; rw [p1, p2]; clear p1 p2
        go_wp2_with fail
        refine hK.out _ _ ?_ (fun hHeld2 => ?_)
        · (try dsimp only); first | exact ⟨y0, y1, y5⟩ | exact f4 | exact hst _ _ f4 | go_keep
        clear hK K hHeld
        have hHeld := hHeld2
        clear hHeld2
        try simp only [Act.put, List.setIfInBounds_toArray, List.set_cons_zero, List.set_cons_succ]
        refine wpAnyH_take (i := 16) (oi := { dst := some 20, op := Op.indexAddr 55 (Operand.tmp 16) (Operand.tmp 19), type := 0, pos := "sat.go:107", after := #[{ on := 12, ground := Ground.data }, { on := 15, ground := Ground.data }], guard := none }) (v := ?_) rfl (by kernel_rfl) (by kernel_rfl) (by kernel_rfl) (fun _ _ _ h => h) (Or.inl ⟨by rfl, ?_⟩) (by assumption) ?_
        rotate_left
        · intro w hSw; (try dsimp only at hSw); go_simp; all_goals with_reducible rfl
        try simp only [Act.put, List.setIfInBounds_toArray, List.set_cons_zero, List.set_cons_succ]
        refine wpAnyH_ready (rs := [17]) (by kernel_rfl) (by simp) ?_
        refine AllReadyH.cons (o := { dst := some 21, op := Op.load 54 (Operand.tmp 20), type := 54, pos := "sat.go:107", after := #[{ on := 16, ground := Ground.data }], guard := none }) rfl (fun K hK => ?_) ?_
        · go_simp
          refine hK.out _ _ ?_ (fun hHeld2 => ?_)
          · (try dsimp only); first | exact ⟨y0, y1, y5⟩ | exact f4 | exact hst _ _ f4 | go_keep
          clear hK K hHeld
          have hHeld := hHeld2
          clear hHeld2
          try simp only [Act.put, List.setIfInBounds_toArray, List.set_cons_zero, List.set_cons_succ]
          refine wpAnyH_ready (rs := [20]) (by kernel_rfl) (by simp) ?_
          refine AllReadyH.cons (o := { dst := some 24, op := Op.call { callee := Callee.builtin Builtin.append, args := #[Operand.tmp 21, Operand.tmp 23], argTypes := #[54, 54] }, type := 54, pos := "sat.go:107", after := #[{ on := 17, ground := Ground.data }, { on := 19, ground := Ground.data }, { on := 15, ground := Ground.chain }], guard := none }) rfl (fun K hK => ?_) ?_
          · refine step_append_lies _ (by rfl) _ _ _ (by rfl) lo 76 i0 (.pointer none) 1 8 Try.underlying54 hi0 hz0 hz1 hz2 rfl (by decide) (.slice ar L cr) L (concs rv (ws.map pr)) (by rfl) hrow2 ⟨w1.heap.size, 0, none⟩ 1 1 [.pointer (some ⟨cb, 0, none⟩)] (by rfl) (by rfl) hn2 ho2 (by decide) hLm hLb hlo2 _ rfl ?_
            intro g cap w7 q1 q2 q3 q4
            obtain ⟨⟨f1, f2, f3⟩, hE⟩ := hfin2 g cap w7 q1 q2 q3
            have f4 := hkeep _ f3
            clear f3 hkeep hfin2 q1 q2 q3 q4
            refine hK.out _ _ ?_ (fun hHeld2 => ?_)
            · (try dsimp only); first | exact ⟨y0, y1, y5⟩ | exact f4 | exact hst _ _ f4 | go_keep
            clear hK K hHeld
            have hHeld := hHeld2
            clear hHeld2
            try simp only [Act.put, List.setIfInBounds_toArray, List.set_cons_zero, List.set_cons_succ]
            refine wpAnyH_take (i := 21) (oi := { dst := some 25, op := Op.indexAddr 55 (Operand.tmp 8) (Operand.tmp 11), type := 0, pos := "sat.go:107", after := #[{ on := 4, ground := Ground.data }, { on := 7, ground := Ground.data }, { on := 0, ground := Ground.phase }, { on := 1, ground := Ground.phase }, { on := 2, ground := Ground.phase }, { on := 3, ground := Ground.phase }, { on := 4, ground := Ground.phase }, { on := 5, ground := Ground.phase }, { on := 6, ground := Ground.phase }, { on := 7, ground := Ground.phase }, { on := 8, ground := Ground.phase }, { on := 9, ground := Ground.phase }, { on := 10, ground := Ground.phase }, { on := 11, ground := Ground.phase }, { on := 12, ground := Ground.phase }, { on := 13, ground := Ground.phase }, { on := 14, ground := Ground.phase }, { on := 15, ground := Ground.phase }, { on := 16, ground := Ground.phase }, { on := 17, ground := Ground.phase }, { on := 18, ground := Ground.phase }, { on := 19, ground := Ground.phase }, { on := 20, ground := Ground.phase }], guard := none }) (v := ?_) rfl (by kernel_rfl) (by kernel_rfl) (by kernel_rfl) (fun _ _ _ h => h) (Or.inl ⟨by rfl, ?_⟩) (by assumption) ?_
            rotate_left
            · intro w hSw; (try dsimp only at hSw); go_simp; all_goals with_reducible rfl
            try simp only [Act.put, List.setIfInBounds_toArray, List.set_cons_zero, List.set_cons_succ]
            refine wpAnyH_ready (rs := [22]) (by kernel_rfl) (by simp) ?_
            refine AllReadyH.cons (o := { dst := none, op := Op.store 54 (Operand.tmp 25) (Operand.tmp 24), type := 0, pos := "sat.go:107", after := #[{ on := 21, ground := Ground.data }, { on := 20, ground := Ground.data }, { on := 20, ground := Ground.chain }, { on := 0, ground := Ground.phase }, { on := 1, ground := Ground.phase }, { on := 2, ground := Ground.phase }, { on := 3, ground := Ground.phase }, { on := 4, ground := Ground.phase }, { on := 5, ground := Ground.phase }, { on := 6, ground := Ground.phase }, { on := 7, ground := Ground.phase }, { on := 8, ground := Ground.phase }, { on := 9, ground := Ground.phase }, { on := 10, ground := Ground.phase }, { on := 11, ground := Ground.phase }, { on := 12, ground := Ground.phase }, { on := 13, ground := Ground.phase }, { on := 14, ground := Ground.phase }, { on := 15, ground := Ground.phase }, { on := 16, ground := Ground.phase }, { on := 17, ground := Ground.phase }, { on := 18, ground := Ground.phase }, { on := 19, ground := Ground.phase }, { on := 20, ground := Ground.phase }], guard := none }) rfl (fun K hK => ?_) ?_
            · go_simp
              refine hK.out _ _ ?_ (fun hHeld2 => ?_)
              · (try dsimp only); first | exact ⟨y0, y1, y5⟩ | exact f4 | exact hst _ _ f4 | go_keep
              clear hK K hHeld
              have hHeld := hHeld2
              clear hHeld2
              try simp only [Act.put, List.setIfInBounds_toArray, List.set_cons_zero, List.set_cons_succ]
              refine wpAnyH_done (by kernel_rfl) ?_ _
              refine NoPanic.normal ?_
              go_wp2_with fail
              go_end0
              exact ⟨rfl, hE⟩
            exact AllReadyH.nil
          exact AllReadyH.nil
        exact AllReadyH.nil
      exact AllReadyH.nil
    exact AllReadyH.nil
  exact AllReadyH.nil
end Go.Proofs.Ytkpppmldbhgcgaa

/- Sat: a line of the proof (log), walked. -/
import Derived.Test.YtkpppmldbhgcgaaSbOtoSbK
import Derived.Test.YtkpppmldbhgcgaaShelf
import Derived.Deep.RegionLaw
set_option linter.unusedVariables false
set_option linter.unusedSimpArgs false
set_option autoImplicit false
set_option linter.unusedVariables false
set_option linter.unusedSimpArgs false
namespace Go.Proofs.Ytkpppmldbhgcgaa
open Go Go.RowKit
variable {lo n : Nat} {w : World} {own : Nat → Option Tg} {rv : Tg → Value} {S : Sz}
theorem owns_lower {w : World} {base base' : Nat} {v : Value} {e : TypeId} {size n : Nat} {xs : List Value} (h : w.ownsRow base e size v n xs) (hb : base' ≤ base) : w.ownsRow base' e size v n xs :=
  ⟨h.1, h.2.imp id fun ⟨g, cap, cur, h1, h2, h3⟩ => ⟨g, cap, cur, h1, Nat.le_trans hb h2, h3⟩⟩
theorem info44 : (Try.prog.info? 44).map (fun i => (i.zero, i.size, i.bytes)) = some (some (.agg #[.bool false, .slice none 0 0]), 2, 32) := by kernel_rfl
/-- a slice of literals that can be cloned, whatever else has turned in the solver's own block -/
def CloneOK (w : World) (bx : Nat) (lv : Value) (l : List Int) : Prop :=
  (∃ a c, lv = .slice a l.length c) ∧ ∀ w1 : World, (∀ k m v, k ≠ bx → k < w.heap.size → w.cell? ⟨k, m, none⟩ = some v → w1.cell? ⟨k, m, none⟩ = some v) →
    Calls Try.prog 25 #[lv] w1 fun e w' => ∃ v', e = .returned v' ∧ w'.ownsRow w1.heap.size 3 1 v' l.length (l.map (Value.int .i64)) ∧ Below w1.heap.size w1 w'
theorem cloneOK_nil (w : World) (bx c : Nat) : CloneOK w bx (.slice none 0 c) [] :=
  ⟨⟨none, c, rfl⟩, fun w1 _ => (Try.slices_Clone_int_nil 0 c w1).mono fun e w' p => ⟨_, p.1, World.ownsRow_nil _ _ _ _, by rw [p.2]; exact Below.refl _ _⟩⟩
theorem cloneOK_row {w : World} {bx g c : Nat} {l : List Int} (hg : g ≠ bx) (hgs : g < w.heap.size) (hl : l.length < 100000000) (hc : ∀ (j : Nat) (x : Int), l[j]? = some x → w.cell? ⟨g, j, none⟩ = some (.int .i64 x)) : CloneOK w bx (.slice (some ⟨g, 0, none⟩) l.length c) l := by
  refine ⟨⟨_, c, rfl⟩, fun w1 h1 => ?_⟩
  have := Try.slices_Clone_int g 0 l.length c l w1 (Nat.le_refl _) (by omega) (fun j hj => by
    rw [Nat.zero_add]
    exact h1 _ _ _ hg hgs (hc j _ (list_get 0 hj)))
  refine this.mono ?_
  rintro e w' ⟨v', p1, p2, _, p3⟩
  rw [List.take_length] at p2
  exact ⟨v', p1, p2, p3⟩
theorem Rep.putNl (h : Sol lo w own rv S) {b : Nat} (hb : rv .x = .pointer (some ⟨b, 0, none⟩)) (x : Int) {own0 : Nat → Option Tg} {w0 : World} (hF : Frm own0 own w0 w) : Sol lo (w.setCell ⟨b, 15, none⟩ (.int .i64 x)) own rv { S with nl := x } ∧ Frm own0 own w0 (w.setCell ⟨b, 15, none⟩ (.int .i64 x)) :=
  h.wr (T := .x) (g := b) (m := 15) (a := vi x) (by rw [hb]; rfl) (by show 15 < 18; omega) (by rw [mem_nl_]; rfl) rfl hF
/-- a line more -/
theorem Rep.line (h : Sol lo w own rv S) {own0 : Nat → Option Tg} {w0 : World} (hF : Frm own0 own w0 w) {b P a c} (hb : rv .x = .pointer (some ⟨b, 0, none⟩)) (hP : S.prf.length = P) (H : HeadAt w own rv .prf .x b 14 P a c) (g : Bool) (l : List Int) {w5 : World} {v5 : Value} (h5 : Below w.heap.size w w5) (o5 : w5.ownsRow w.heap.size 3 1 v5 l.length (l.map (Value.int .i64))) (o : Obj) :
    ((w5.alloc o).ownsRow lo 44 2 (.slice a P c) P (concs rv (pcs 0 S.prf)) ∧ lo ≤ (w5.alloc o).heap.size) ∧ ∀ g7 cap w7, w7.ownsRow lo 44 2 (.slice (some ⟨g7, 0, none⟩) (P + 1) cap) (P + 1) (concs rv (pcs 0 S.prf) ++ [.bool g, v5]) → (w5.alloc o).grownBy w7 (Value.slice a P c).ownBlock → ((Value.slice a P c).ownBlock = some g7 ∨ g7 = (w5.alloc o).heap.size) →
      (w7.cell? ⟨b, 14, none⟩ = some (.slice a P c) ∧ w7.frozen? ⟨b, 14, none⟩ = false) ∧ ∃ own' rv', Sol lo (w7.setCell ⟨b, 14, none⟩ (.slice (some ⟨g7, 0, none⟩) (P + 1) cap)) own' rv' { S with prf := S.prf ++ [(g, l)] } ∧ Frm own0 own' w0 (w7.setCell ⟨b, 14, none⟩ (.slice (some ⟨g7, 0, none⟩) (P + 1) cap)) ∧ ∀ t, t ≠ .prf → (∀ k, t ≠ .pc k) → rv' t = rv t := by
  obtain ⟨b', hb', _, hlob, hbw⟩ := h.xb
  rw [hb] at hb'
  cases hb'
  have hS5 := h.below h5 (Nat.le_refl _)
  have hF5 : Frm own0 own w0 w5 := hF.trans ⟨h5.os, h5.tape, h5.output, h5.size, fun _ _ => rfl, fun k hk _ => h5.block k hk⟩
  have hno : ∀ q (k : Nat), (mem S q).cs[k]? ≠ some (AC.ref (.pc P)) := fun q k hk => by
    have e := ref_home S rfl hk
    simp only [home, Prod.mk.injEq] at e
    obtain ⟨rfl, rfl⟩ := e
    have := len_of hk
    have hl : (mem S .prf).cs.length = S.prf.length * 2 := by
      show (pcs 0 S.prf).length = _
      have : ∀ (l : List (Bool × List Int)) (k : Nat), (pcs k l).length = l.length * 2 := by
        intro l
        induction l with
        | nil => intro k; rfl
        | cons p l ih => intro k; simp [pcs, ih]; omega
      exact this _ _
    omega
  have hcp : concs (upd rv (.pc P) v5) (pcs 0 S.prf) = concs rv (pcs 0 S.prf) := concs_upd (hno .prf)
  have hlom : lo ≤ w.heap.size := by omega
  refine ⟨⟨?_, Nat.le_trans hlom (by have := h5.size; simp; omega)⟩, fun g7 cap w7 q1 q2 q3 => ?_⟩
  · have := (((hS5.alloc o).part .prf).1 rfl).row
    rw [H.val, show (mem S .prf).n = P from hP] at this
    exact this
  · obtain ⟨own6, hS6, hF6, k1, k2⟩ := hS5.linkRow (t := .pc P) rfl hno (v := v5) (n := l.length) (cs := l.map vi) (fun k hk => map_val hk) (by
      have e : concs rv (l.map vi) = l.map (Value.int .i64) := by unfold concs; rw [List.map_map]; rfl
      rw [e]
      exact owns_lower o5 hlom) (fun g hg => by
        cases ho : own g with
        | none => rfl
        | some t =>
          have := (h.dom g t ho).2
          have := (o5.lt g hg).1
          omega) hF5 (fun g hg => by
        have := (o5.lt g hg).1
        have := hF.size
        omega)
    have hmp : (upd (mem S) (.pc P) ⟨l.length, l.map vi⟩ .prf) = ⟨P, pcs 0 S.prf⟩ := by rw [upd_other _ _ (by intro e; cases e), ← hP]; rfl
    have hmx : (upd (mem S) (.pc P) ⟨l.length, l.map vi⟩ .x) = mem S .x := upd_other _ _ (by intro e; cases e)
    have hvx : upd rv (.pc P) v5 .x = .pointer (some ⟨b, 0, none⟩) := by rw [upd_other _ _ (by intro e; cases e)]; exact hb
    have hvp : upd rv (.pc P) v5 .prf = .slice a P c := by rw [upd_other _ _ (by intro e; cases e)]; exact H.val
    have hA := (hS6.alloc o).append (T := .prf) (p := .x) (b := b) (m := 14) rfl (by intro e; cases e) (by rw [hvx]; rfl) (by rw [hmx]; rfl) (fun q k hk => by
      by_cases e : q = .pc P
      · subst e
        rw [upd_same] at hk
        exact (map_val hk).elim
      · rw [upd_other _ _ e] at hk
        exact ref_uniq S rfl rfl q k hk) [vb g, .ref (.pc P)] 1 (by
      intro k hk
      match k, hk with
      | 0, hk => cases hk
      | 1, hk => cases hk
      | k + 2, hk => simp at hk) (hF6.alloc o) (v' := .slice (some ⟨g7, 0, none⟩) (P + 1) cap) (w1 := w7) (by
        rw [hmp, hcp]
        have e : concs (upd rv (.pc P) v5) [vb g, .ref (.pc P)] = [.bool g, v5] := by
          show [Value.bool g, upd rv (.pc P) v5 (.pc P)] = _
          rw [upd_same]
        rw [e]
        exact q1) (by rw [hvp]; exact q2) ⟨g7, rfl, by rw [hvp]; exact q3.imp id (fun e => by omega)⟩
    rw [hvp] at hA
    obtain ⟨z1, own', z2, z3⟩ := hA
    refine ⟨z1, own', upd (upd rv (.pc P) v5) .prf (.slice (some ⟨g7, 0, none⟩) (P + 1) cap), ?_, z3, fun t h1 h2 => ?_⟩
    · rw [Sol, mem_prf_, hP]
      rw [hmp] at z2
      have e : (⟨l.length, l.map vi⟩ : Ob Tg) = Ytkpppmldbhgcgaa.row (l.map vi) := by unfold Ytkpppmldbhgcgaa.row; rw [List.length_map]
      rw [← e]
      exact z2
    · rw [upd_other _ _ h1, upd_other _ _ (h2 P)]
set_option maxHeartbeats 16000000 in
set_option maxRecDepth 1000000 in
theorem log_walk (h : Sol lo w own rv S) {l : List Int} {lv : Value} {g : Bool} {b : Nat} (hb : rv .x = .pointer (some ⟨b, 0, none⟩)) (hl : CloneOK w b lv l) {r : Bool × Sz} (hf : logO S l g = some r) :
    Calls Try.prog 18 #[rv .x, lv, .bool g] w fun e w' => e = .returned (.bool r.1) ∧ ∃ own' rv', Sol lo w' own' rv' r.2 ∧ Frm own own' w w' ∧ ∀ t, t ≠ .prf → (∀ k, t ≠ .pc k) → rv' t = rv t := by
  obtain ⟨i3, hi3, hz30, hz31, hz32⟩ := info_parts' info44
  unfold logO at hf
  split at hf
  case isFalse => cases hf
  rename_i hr
  obtain ⟨hr1, hr2, hr3, hr4⟩ := hr
  have hr3 : l.length < 100000000 := by unfold roomy at hr3; exact of_decide_eq_true hr3
  have hr4 : S.prf.length < 100000000 := by unfold roomy at hr4; exact of_decide_eq_true hr4
  obtain ⟨⟨al, cl, rfl⟩, hcl⟩ := hl
  obtain ⟨N, hN⟩ : ∃ N, S.nl = N := ⟨_, rfl⟩
  rw [hN] at hf hr1 hr2
  obtain ⟨L, hL⟩ : ∃ L, l.length = L := ⟨_, rfl⟩
  rw [hL] at hf hr3
  have z15 := h.fld hb (m := 15) rfl
  obtain ⟨c15, f15⟩ := z15
  replace c15 : w.cell? ⟨b, 15, none⟩ = some (.int .i64 N) := by rw [← hN]; exact c15
  have hA := h.putNl hb (N + (L + 1)) (Frm.refl own w)
  obtain ⟨W0, hW0⟩ : ∃ x, x = w.setCell ⟨b, 15, none⟩ (.int .i64 (N + (L + 1))) := ⟨_, rfl⟩
  have d15 : (w.setCell ⟨b, 15, none⟩ (.int .i64 (N + (L + 1)))).cell? ⟨b, 15, none⟩ = some (.int .i64 (N + (L + 1))) := World.cell?_setCell_same _ _ _ c15
  rw [hb]
  by_cases hbig : 200000 < N + (L + 1)
  · rw [if_pos hbig] at hf
    cases hf
    have hE := Hid'.mk hA
    clear hcl hr4 h hA hW0 hN
    rw [hL]
    go_enter Try.func18, Try.ntmps18
    go_wp2
    go_ret
    exact ⟨rfl, own, rv, hE.h.1, hE.h.2, fun _ _ _ => rfl⟩
  · rw [if_neg hbig] at hf
    cases hf
    rw [← hW0] at hA
    obtain ⟨P, hP⟩ : ∃ P, S.prf.length = P := ⟨_, rfl⟩
    obtain ⟨a, c, H⟩ := hA.1.headX (T := .prf) (m := 14) (k := P) hb rfl rfl hP
    have hlt : ∀ k m v, k ≠ b → k < w.heap.size → w.cell? ⟨k, m, none⟩ = some v → W0.cell? ⟨k, m, none⟩ = some v := fun k m v hk _ hc => by
      rw [hW0, World.cell?_setCell_other _ ⟨b, 15, none⟩ ⟨k, m, none⟩ _ (by intro e; injection e with e1; exact hk e1.symm)]
      exact hc
    have hbw : b < W0.heap.size := by
      obtain ⟨b', e, _, _, hh⟩ := hA.1.xb
      rw [hb] at e; cases e; exact hh
    have f14 := H.cell
    have hbig' : N + (L + 1) ≤ 200000 := by omega
    have hS : ∀ (w5 : World) (a5 : Option Addr) (c5 : Nat), Below W0.heap.size W0 w5 → w5.ownsRow W0.heap.size 3 1 (.slice a5 L c5) L (l.map (Value.int .i64)) → (w5.cell? ⟨b, 14, none⟩ = some (.slice a P c) ∧ (w5.alloc (.cells #[.bool g, .slice a5 L c5] 44)).cell? ⟨b, 14, none⟩ = some (.slice a P c)) ∧
        ((w5.alloc (.cells #[.bool g, .slice a5 L c5] 44)).ownsRow lo 44 2 (.slice a P c) P (concs rv (pcs 0 S.prf)) ∧ lo ≤ (w5.alloc (.cells #[.bool g, .slice a5 L c5] 44)).heap.size) ∧
        ∀ g7 cap w7, w7.ownsRow lo 44 2 (.slice (some ⟨g7, 0, none⟩) (P + 1) cap) (P + 1) (concs rv (pcs 0 S.prf) ++ [.bool g, .slice a5 L c5]) → (w5.alloc (.cells #[.bool g, .slice a5 L c5] 44)).grownBy w7 (Value.slice a P c).ownBlock → ((Value.slice a P c).ownBlock = some g7 ∨ g7 = (w5.alloc (.cells #[.bool g, .slice a5 L c5] 44)).heap.size) →
      (w7.cell? ⟨b, 14, none⟩ = some (.slice a P c) ∧ w7.frozen? ⟨b, 14, none⟩ = false) ∧ ∃ own' rv', Sol lo (w7.setCell ⟨b, 14, none⟩ (.slice (some ⟨g7, 0, none⟩) (P + 1) cap)) own' rv' { S with nl := N + (L + 1), prf := S.prf ++ [(g, l)] } ∧ Frm own own' w (w7.setCell ⟨b, 14, none⟩ (.slice (some ⟨g7, 0, none⟩) (P + 1) cap)) ∧ ∀ t, t ≠ .prf → (∀ k, t ≠ .pc k) → rv' t = rv t := by
      intro w5 a5 c5 h5 o5
      have hl5 := hA.1.line hA.2 hb hP H g l (w5 := w5) (v5 := .slice a5 L c5) h5 (by rw [hL]; exact o5) (.cells #[.bool g, .slice a5 L c5] 44)
      have e1 : w5.cell? ⟨b, 14, none⟩ = some (.slice a P c) := (h5.cell (p := ⟨b, 14, none⟩) hbw).trans f14
      exact ⟨⟨e1, (World.cell?_of_block (w := w5) (a := ⟨b, 14, none⟩) (Below.heap_alloc w5 _ b (by have := h5.size; omega))).trans e1⟩, hl5⟩
    have hcall : ∀ W1 : World, (∀ k : Addr, W1.cell? k = W0.cell? k) → Below W0.heap.size W0 W1 → Calls Try.prog 25 #[.slice al L cl] W1 fun e w' => ∃ a5 c5, e = .returned (.slice a5 L c5) ∧ w'.ownsRow W0.heap.size 3 1 (.slice a5 L c5) L (l.map (Value.int .i64)) ∧ Below W0.heap.size W0 w' := by
      intro W1 h1 h2
      have := hcl W1 (fun k m v q1 q2 q3 => (h1 _).trans (hlt k m v q1 q2 q3))
      rw [hL] at this
      refine this.mono ?_
      rintro e w' ⟨v', p1, p2, p3⟩
      have hform : ∃ a5 c5, v' = .slice a5 L c5 := by
        rcases p2.2 with ⟨e1, e2⟩ | ⟨g9, cap9, cur9, e1, _⟩
        · exact ⟨none, 0, by rw [e1, e2]⟩
        · exact ⟨_, _, e1⟩
      obtain ⟨a5, c5, rfl⟩ := hform
      exact ⟨a5, c5, p1, owns_lower p2 h2.size, h2.trans (p3.mono h2.size)⟩
    have hnews : ∀ (w5 : World) (v5 : Value) (j : Nat) (u : Value), [Value.bool g, v5][j]? = some u → (w5.alloc (.cells #[.bool g, v5] 44)).cell? ((⟨w5.heap.size, 0, none⟩ : Addr).add j) = some u := by
      intro w5 v5 j u hj
      rw [add_plain]
      match j, hj with
      | 0, hj => rw [← hj]; exact cell_new w5 #[.bool g, v5] 44 (0, 0) 0
      | 1, hj => rw [← hj]; exact cell_new w5 #[.bool g, v5] 44 (0, 0) 1
    have hone : ∀ (a5 : Option Addr) (c5 : Nat), ∀ u ∈ [Value.bool g, Value.slice a5 L c5], u.oneCell' = true := by
      intro a5 c5 u hu
      simp at hu
      rcases hu with rfl | rfl <;> rfl
    have hm1 : P + 1 ≤ maxLen := by unfold maxLen; omega
    have hb1 : (P + 1) * 32 ≤ 140737488355328 := by omega
    rw [hL]
    have hH := Hid'.mk (And.intro hW0 f14)
    clear hA hcl H hlt hW0 f14 hP hN hL h
    go_enter Try.func18, Try.ntmps18
    go_upto_region 4 with (fail)
    obtain ⟨hW0, f14⟩ := hH.h
    rw [← hW0]
    clear hH c15 f15 d15 hW0
    have hcall0 := hcall W0.drew (fun _ => rfl) (Below.refl _ _).drew
    clear hcall
    go_region_law (first | (refine step_append_lies _ (by rfl) _ _ _ (by rfl) lo 44 i3 _ 2 32 Try.underlying28 hi3 hz30 hz31 hz32 rfl (by decide) (.slice a P c) P (concs rv (pcs 0 S.prf)) (by rfl) (hS w5 a5 c5 h5 o5).2.1.1 ⟨w5.heap.size, 0, none⟩ 1 1 [.bool g, .slice a5 L c5] (by rfl) (by rfl) (hnews w5 _) (hone a5 c5) (by decide) hm1 hb1 (hS w5 a5 c5 h5 o5).2.1.2 _ rfl ?_; intro gg cap w7 ho7 hg7 hat7 hlt7; obtain ⟨⟨e1, e2⟩, hE⟩ := (hS w5 a5 c5 h5 o5).2.2 gg cap w7 ho7 hg7 hat7; clear ho7 hg7 hat7 hlt7) | (go_simp; go_at_call 25; refine hcall0.mono ?_; rintro e w5 ⟨a5, c5, rfl, o5, h5⟩; have k5 := (hS w5 a5 c5 h5 o5).1.1; have k6 := (hS w5 a5 c5 h5 o5).1.2))
    all_goals (go_wp2_with fail)
    all_goals go_ret
    all_goals exact ⟨rfl, hE⟩
end Go.Proofs.Ytkpppmldbhgcgaa

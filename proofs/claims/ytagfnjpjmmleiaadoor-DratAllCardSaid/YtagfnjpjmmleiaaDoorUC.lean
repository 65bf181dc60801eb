/- Drat: the checker takes a clause away. -/
import Derived.Test.YtagfnjpjmmleiaaDoorUA
import Derived.Test.YtagfnjpjmmleiaaDoorTE
import Derived.Test.YtagfnjpjmmleiaaDoorTM0
import Derived.StillTailTactics
set_option linter.unusedVariables false
set_option linter.unusedSimpArgs false
set_option autoImplicit false
set_option linter.unusedVariables false
set_option linter.unusedSimpArgs false
namespace Go.Proofs.YtagfnjpjmmleiaaDoor
open Go.Shelf Go.RowKit
section
variable {cx : Cx} {w : World} {own : Nat → Option Tag} {rv : Tag → Value} {S : St}
/-- a key's list, where it lies -/
theorem Rep.keyForm (h : Rep cx w own rv S) (kl : Lit) : ∃ a cap, rv (.kr kl) = .slice a (S.K kl).length cap ∧ (S.K kl).length ≤ cap ∧ ∀ j, j < (S.K kl).length → ∃ g, a = some ⟨g, 0, none⟩ ∧ own g = some (.kr kl) ∧ w.cell? ⟨g, j, none⟩ = some (.int .i64 (((S.K kl).getD j 0 : Nat) : Int)) := by
  obtain ⟨hrow, hl⟩ := h.keyRow kl
  rcases hrow.2 with ⟨e1, e2⟩ | ⟨g, cap, cur, e1, hb, hg, hcap, _⟩
  · exact ⟨none, 0, by rw [e1, e2], by omega, fun j hj => by omega⟩
  · refine ⟨_, cap, e1, hcap, fun j hj => ⟨g, rfl, hl g (by rw [e1]; rfl), ?_⟩⟩
    rw [e1] at hrow
    exact (owns_nat hrow hj).1
set_option maxRecDepth 100000 in
/-- a key's list is cut, and stored -/
theorem Rep.keyCut (h : Rep cx w own rv S) {kl : Lit} {s : ByteArray} (hk : Go.keyOf Tryd.prog 9 (.string s) = some kl) (hm : S.m < maxLen) {a : Option Addr} {n cap k : Nat} (hv : rv (.kr kl) = .slice a n cap) (hkn : k ≤ (S.K kl).length) :
    ∃ w2, (Instr.mapUpdate 57 (.map (some cx.mb)) (.string s) (.slice a k cap)).run Tryd.prog w = .ok () w2 ∧ Rep cx w2 own (upd rv (.kr kl) (.slice a k cap)) { S with K := upd S.K kl ((S.K kl).take k), m := S.m + 1 } ∧ Frm own own w w2 := by
  obtain ⟨w2, h1, h2, h3⟩ := h.mt.store hm hk (.slice a k cap)
  obtain ⟨hrow, hl⟩ := h.keyRow kl
  rw [hv] at hrow
  have hlen : ((S.K kl).take k).length = k := by rw [List.length_take]; omega
  refine ⟨w2, h1, h.keyPut (Ext.refl _) h.dom (fun _ _ _ _ => rfl) ⟨⟨by rw [natC_length]; show _ = _ * 1; omega, ?_⟩, fun g hg => hl g (by rw [hv]; cases a <;> exact hg)⟩ h2 h3, (Frm.refl own w).turned h3 h.mt.lab⟩
  rw [hlen]
  rcases hrow.2 with ⟨e1, e2⟩ | ⟨g, cap', cur, e1, hb, hg, h1, h2, h3, h4⟩
  · cases e1
    exact .inl ⟨by congr 1; omega, by omega⟩
  · cases e1
    refine .inr ⟨g, cap, cur, rfl, hb, hg, by omega, h2, h3, ?_⟩
    show cur.toList.take (k * 1) = _
    have : cur.toList.take ((S.K kl).length * 1) = natC (S.K kl) := h4
    rw [Nat.mul_one] at this ⊢
    unfold natC at this ⊢
    rw [List.map_take, ← this, List.take_take]
    congr 1; omega
set_option maxRecDepth 100000 in
/-- a key goes -/
theorem Rep.keyDrop (h : Rep cx w own rv S) {kl : Lit} {s : ByteArray} (hk : Go.keyOf Tryd.prog 9 (.string s) = some kl) (ty : TypeId) :
    ∃ w2, (Builtin.delete_ #[57, 9] ty #[.map (some cx.mb), .string s]).run Tryd.prog w = .ok (.tuple #[]) w2 ∧ Rep cx w2 own (upd rv (.kr kl) nilV) { S with K := upd S.K kl [] } ∧ Frm own own w w2 := by
  obtain ⟨w2, h1, h2, h3⟩ := h.mt.drop hk ty
  exact ⟨w2, h1, h.keyPut (zs := []) (Ext.refl _) h.dom (fun _ _ _ _ => rfl) ⟨World.ownsRow_nil _ _ _ _, fun g hg => (by cases hg)⟩ h2 h3, (Frm.refl own w).turned h3 h.mt.lab⟩
theorem Rep.setEmpty (h : Rep cx w own rv S) (x : Nat) : Rep cx (w.setCell ⟨cx.xb, 5, none⟩ (.int .i64 (x : Int))) own rv { S with empty := x } :=
  h.setFld (S' := { S with empty := x }) (rv' := rv) (i := 5) (by decide) (.int .i64 (x : Int)) rfl (fun j hj hne => by
    match j, hj, hne with
    | 0, _, _ => rfl
    | 1, _, _ => rfl
    | 2, _, _ => rfl
    | 3, _, _ => rfl
    | 4, _, _ => rfl
    | 5, _, hne => exact absurd rfl hne
    | 6, _, _ => rfl
    | 7, _, _ => rfl
    | 8, _, _ => rfl) (fun _ => rfl) (fun _ => rfl) (fun _ => rfl) rfl rfl (fun t ht => .inl ⟨rfl, by cases t <;> rfl, by cases t <;> rfl⟩)
end
/-- what taking away does -/
def RemR (S : St) (zs : List Int) (S' : St) : Prop := (S.K (keyL zs) = [] ∧ S' = S) ∨ ∃ i, (S.K (keyL zs)).getLast? = some i ∧ S' = remS S zs i
def RemOut (cx : Cx) (own : Nat → Option Tag) (S : St) (zs : List Int) (w : World) (e : Ending) (w' : World) : Prop :=
  e = .returned (.tuple #[]) ∧ ∃ S' own' rv', RemR S zs S' ∧ Rep cx w' own' rv' S' ∧ Frm own own' w w'
set_option maxHeartbeats 16000000 in
set_option maxRecDepth 1000000 in
theorem remove_walk (cx : Cx) (own : Nat → Option Tag) (rv : Tag → Value) (S : St) (w : World) (la : Option Addr) (ln lc : Nat) (zl : List Int) (h : Rep cx w own rv S) (hp : RestS cx.V S) (hln : zl.length = ln) (hl9 : ln ≤ 1000000) (hi : Ints w la zl) (hll : Lits (cx.V + 1) zl) (hV : cx.V ≤ 900000) (hN : S.n ≤ 1000000) (hm : S.m ≤ 10000000) (ht : Tab cx.lo w) :
    Calls Tryd.prog 26 #[.pointer (some ⟨cx.xb, 0, none⟩), .slice la ln lc] w (RemOut cx own S (setZ zl) w) := by
  obtain ⟨hrise, hsame⟩ := setZ_spec zl
  have hzl := setZ_len zl
  obtain ⟨zs, hzs⟩ : ∃ zs, setZ zl = zs := ⟨_, rfl⟩
  rw [hzs] at hrise hsame hzl
  have hlz : Lits (cx.V + 1) zs := fun y hy => hll y ((hsame y).1 hy)
  obtain ⟨n, hn⟩ : ∃ n, zs.length = n := ⟨_, rfl⟩
  have hz9 : ∀ z ∈ zs, -1000000000 ≤ z ∧ z ≤ 1000000000 := fun z hz => by have := (hlz z hz).2; omega
  have hset := set_walk la ln lc zl w hln (by omega) hi
  go_enter Tryd.func26, Tryd.ntmps26
  go_wp2_with (go_at_call 35; refine hset.mono ?_)
  rintro e w1 ⟨v, rfl, hown, hb1⟩
  rw [hzs, hn] at hown
  try rw [hzs]
  obtain ⟨va, vcap, hv, _, hvi, hva⟩ := owns_ints hown
  have h1 := h.below hb1 (Nat.le_refl _)
  have hfr1 : Frm own own w w1 := (Frm.refl own w).below hb1 (Nat.le_refl _)
  have hB1 := hfr1.toBelow h
  have hlo := h.lo_le
  have hkey := key_any va n vcap zs w1 hn (by omega) hvi hz9 (Nat.le_trans hlo hb1.size) (ht.below hB1)
  rw [hv]
  clear hset
  go_wp2_with (go_at_call 36; refine hkey.mono ?_)
  rintro e w2 ⟨rfl, hb2⟩
  have h2 := h1.below hb2 (Nat.le_refl _)
  have hfr2 := hfr1.below hb2 (Nat.le_refl _)
  clear h1 hfr1 hkey hb1 hb2 hB1 hown hvi hva hv
  have hkl := key_lit hz9 (by omega)
  obtain ⟨kl, hkl0⟩ : ∃ kl, keyL zs = kl := ⟨_, rfl⟩
  rw [hkl0] at hkl
  obtain ⟨kb, hkb⟩ : ∃ s, keyB zs = s := ⟨_, rfl⟩
  rw [hkb] at hkl ⊢
  obtain ⟨ka, kcap, hkv, hkcap, hkc⟩ := h2.keyForm kl
  obtain ⟨ks, hks⟩ : ∃ l, S.K kl = l := ⟨_, rfl⟩
  have hks9 : ks.length ≤ S.n := by rw [← hks, ← hkl0]; exact nodup_len (hp.core.kn _) fun j hj => ((hp.core.ks _ j).1 hj).1
  rw [hks] at hkv hkc hkcap
  have x6 : w2.cell? ⟨cx.xb, 6, none⟩ = some (.map (some cx.mb)) := (h2.x.cell 6 (by decide)).1
  have hlk : (Instr.lookup 57 (.map (some cx.mb)) (.string kb) false).run Tryd.prog w2 = .ok (.slice ka ks.length kcap) w2 := by rw [← hkv]; exact h2.mt.look hkl
  obtain ⟨kn, hkn⟩ : ∃ k, ks.length = k := ⟨_, rfl⟩
  rw [hkn] at hlk hkv hkc hks9 hkcap
  rcases Nat.eq_zero_or_pos kn with h0 | h0
  · subst h0
    have hE : RemOut cx own S (setZ zl) w (.returned (.tuple #[])) w2 := by
      rw [hzs]
      exact ⟨rfl, S, own, rv, .inl ⟨by rw [hkl0, hks]; exact List.eq_nil_of_length_eq_zero hkn, rfl⟩, h2, hfr2⟩
    go_wp2
    go_end0
    exact hE
  · obtain ⟨g, rfl, hgo, hcell⟩ := hkc (kn - 1) (by omega)
    obtain ⟨i, hi0⟩ : ∃ i, ks.getD (kn - 1) 0 = i := ⟨_, rfl⟩
    have hlast : ks.getLast? = some i := by
      rw [List.getLast?_eq_getElem?, hkn, ← hi0, List.getD_eq_getElem?_getD, List.getElem?_eq_getElem (by omega)]; rfl
    rw [hi0] at hcell
    have hcell2 : w2.cell? ⟨g, kn - 1, none⟩ = some (.int .i64 (i : Int)) := hcell
    clear hcell
    obtain ⟨hin, hig, _⟩ := (key_mem hp.core hrise i).1 (by rw [hkl0, hks]; exact List.mem_of_getLast? hlast)
    have hw0 : IntKind.i64.wrap ((kn : Int) - 1) = (kn - 1 : Nat) := by rw [IntWalk.i64_in _ (by omega)]; omega
    have hkcI : ((kn - 1 : Nat) : Int) ≤ kcap := by omega
    have hkcN : kn - 1 ≤ kcap := by omega
    have hknI : ¬ (kn : Int) = 0 := by omega
    obtain ⟨w3, hmu, h3, hfr3⟩ := h2.drew.keyCut (k := kn - 1) hkl (by unfold maxLen; omega) hkv (by show kn - 1 ≤ (S.K kl).length; rw [hks]; omega)
    clear hkc
    have hdl : ks.take (kn - 1) = ks.dropLast := by rw [← hkn, List.dropLast_eq_take]
    have hnil : zs = [] ↔ n = 0 := ⟨fun e => by rw [← hn, e]; rfl, fun e => List.eq_nil_of_length_eq_zero (hn.trans e)⟩
    have hemp : S.empty ≤ S.n := by
      rw [hp.core.em]
      unfold empties
      exact Nat.le_trans (List.length_filter_le _ _) (Nat.le_trans (List.length_filter_le _ _) (Nat.le_of_eq List.length_range))
    have hfin : ∀ wz rvz, Rep cx wz own rvz { S with K := upd S.K kl ks.dropLast, m := S.m + 1 } → Frm own own w wz →
        ∃ ab acap, (wz.cell? ⟨cx.xb, 1, none⟩ = some (.slice (some ⟨ab, 0, none⟩) S.n acap) ∧ wz.cell? ⟨ab, i * 2 + 1, none⟩ = some (.bool false) ∧ wz.frozen? ⟨ab, i * 2 + 1, none⟩ = false) ∧
          (0 < n → RemOut cx own S (setZ zl) w (.returned (.tuple #[])) (wz.setCell ⟨ab, i * 2 + 1, none⟩ (.bool true))) ∧
          (n = 0 → ((wz.setCell ⟨ab, i * 2 + 1, none⟩ (.bool true)).cell? ⟨cx.xb, 5, none⟩ = some (.int .i64 S.empty) ∧ (wz.setCell ⟨ab, i * 2 + 1, none⟩ (.bool true)).frozen? ⟨cx.xb, 5, none⟩ = false) ∧ 0 < S.empty ∧ RemOut cx own S (setZ zl) w (.returned (.tuple #[])) ((wz.setCell ⟨ab, i * 2 + 1, none⟩ (.bool true)).setCell ⟨cx.xb, 5, none⟩ (.int .i64 ((S.empty - 1 : Nat) : Int)))) := by
      intro wz rvz hz hfz
      obtain ⟨ab, acap, hav, hao, hacell⟩ := hz.allRow (show 0 < S.n by omega)
      obtain ⟨_, a2, a3⟩ := hacell i hin
      have a2 : wz.cell? ⟨ab, i * 2 + 1, none⟩ = some (.bool (S.gone i)) := a2
      rw [hig] at a2
      have hg := hz.setGone hin hav
      have hfg := hfz.setCell (p := ⟨ab, i * 2 + 1, none⟩) hao (.bool true)
      refine ⟨ab, acap, ⟨?_, a2, a3⟩, fun h0 => ?_, fun h0 => ?_⟩
      · have := (hz.x.cell 1 (by decide)).1
        rw [show fld cx rvz { S with K := upd S.K kl ks.dropLast, m := S.m + 1 } 1 = rvz .all from rfl, hav] at this
        exact this
      · refine ⟨rfl, _, own, rvz, .inr ⟨i, by rw [hzs, hkl0, hks]; exact hlast, ?_⟩, hg, hfg⟩
        unfold remS
        rw [hzs, if_neg (fun e => by have := hnil.1 e; omega), hkl0, hks]
      · have hzn := hnil.2 h0
        have he : 0 < S.empty := by
          rw [hp.core.em]
          unfold empties
          refine List.length_pos_iff.2 (List.ne_nil_of_mem (a := i) (List.mem_filter.2 ⟨mem_alive.2 ⟨hin, hig⟩, ?_⟩))
          have : S.lits i = [] := by
            cases hl : S.lits i with
            | nil => rfl
            | cons a r =>
              have := (((key_mem hp.core hrise i).1 (by rw [hkl0, hks]; exact List.mem_of_getLast? hlast)).2.2 a).2 (by rw [hl]; simp)
              rw [hzn] at this; cases this
          rw [this]; rfl
        refine ⟨⟨(hg.x.cell 5 (by decide)).1, (hg.x.cell 5 (by decide)).2⟩, he, rfl, _, own, rvz, .inr ⟨i, by rw [hzs, hkl0, hks]; exact hlast, ?_⟩, hg.setEmpty (S.empty - 1), hfg.setCell (p := ⟨cx.xb, 5, none⟩) hz.x.lab _⟩
        unfold remS
        rw [hzs, if_pos hzn, hkl0, hks]
    have hiI : (i : Int) < S.n := by omega
    have hwe : 0 < S.empty → IntKind.i64.wrap ((S.empty : Int) - 1) = (S.empty - 1 : Nat) := fun he => by rw [IntWalk.i64_in _ (by omega)]; omega
    have hfr3' : Frm own own w w3 := hfr2.drew.trans hfr3
    have h3' : Rep cx w3 own (upd rv (.kr kl) (.slice (some ⟨g, 0, none⟩) (kn - 1) kcap)) { S with K := upd S.K kl ks.dropLast, m := S.m + 1 } := by
      rw [hks, hdl] at h3; exact h3
    have x63 : w3.cell? ⟨cx.xb, 6, none⟩ = some (.map (some cx.mb)) := (h3.x.cell 6 (by decide)).1
    clear h3 hfr3 hfr2 h2 hemp hdl hnil
    go_wp2
    go_still_tail 10, (by kernel_rfl)
    change wpList _ _ _ _ _ w2.drew
    generalize w2.drew = wd at hmu ⊢
    by_cases hk1 : kn = 1
    · subst hk1
      obtain ⟨w4, hdel, h4, hfr4⟩ := h3'.keyDrop hkl 0
      have h4' : Rep cx w4 own (upd (upd rv (.kr kl) (.slice (some ⟨g, 0, none⟩) (1 - 1) kcap)) (.kr kl) nilV) { S with K := upd S.K kl ks.dropLast, m := S.m + 1 } := by
        have e : ks.dropLast = [] := by
          match ks, hkn with
          | [a], _ => rfl
        rw [show upd ({ S with K := upd S.K kl ks.dropLast, m := S.m + 1 } : St).K kl [] = upd S.K kl ks.dropLast by rw [upd_upd, e]] at h4
        exact h4
      obtain ⟨ab, acap, ⟨y1, y2, y3⟩, hfa, hfb⟩ := hfin _ _ h4' (hfr3'.trans hfr4)
      clear h4 h4' hfr4 h3' hfr3' hfin
      rcases Nat.eq_zero_or_pos n with hn0 | hn0
      · obtain ⟨⟨x5, f5⟩, he, hE⟩ := hfb hn0
        have hwe := hwe he
        subst hn0
        clear hfa hfb
        go_wp2
        go_end0
        exact hE
      · have hE := hfa hn0
        have hnI : ¬ (n : Int) = 0 := by omega
        clear hfa hfb
        go_wp2
        go_end0
        exact hE
    · have hk1I : ¬ (kn : Int) = 1 := by omega
      obtain ⟨ab, acap, ⟨y1, y2, y3⟩, hfa, hfb⟩ := hfin _ _ h3' hfr3'
      clear h3' hfr3' hfin
      rcases Nat.eq_zero_or_pos n with hn0 | hn0
      · obtain ⟨⟨x5, f5⟩, he, hE⟩ := hfb hn0
        have hwe := hwe he
        subst hn0
        clear hfa hfb
        go_wp2
        go_end0
        exact hE
      · have hE := hfa hn0
        have hnI : ¬ (n : Int) = 0 := by omega
        clear hfa hfb
        go_wp2
        go_end0
        exact hE
end Go.Proofs.YtagfnjpjmmleiaaDoor

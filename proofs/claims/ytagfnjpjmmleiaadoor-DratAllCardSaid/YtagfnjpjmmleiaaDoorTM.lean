/- Drat: the checker puts a clause. -/
import Derived.Test.YtagfnjpjmmleiaaDoorTM0
import Derived.Lib.AppendIntMem
import Derived.Deep.Onto
set_option linter.unusedVariables false
set_option linter.unusedSimpArgs false
set_option autoImplicit false
set_option linter.unusedVariables false
set_option linter.unusedSimpArgs false
namespace Go.Proofs.YtagfnjpjmmleiaaDoor
open Go.Shelf Go.RowKit
/-- what an append to a key's slice and the store of it leave -/
theorem Rep.keyOut {cx : Cx} {w : World} {own : Nat → Option Tag} {rv : Tag → Value} {S : St} (h : Rep cx w own rv S) {kl : Lit} {s : ByteArray} (hk : Go.keyOf Tryd.prog 9 (.string s) = some kl) (hm : S.m < maxLen) {i g cap : Nat} {w1 : World} (A : AppOut cx.lo w (.kr kl) (rv (.kr kl)) g cap ((S.K kl).length + 1) (natC (S.K kl) ++ [.int .i64 (i : Int)]) w1) :
    w1.cell? ⟨cx.xb, 6, none⟩ = some (.map (some cx.mb)) ∧ ∃ w2, (Instr.mapUpdate 57 (.map (some cx.mb)) (.string s) (.slice (some ⟨g, 0, none⟩) ((S.K kl).length + 1) cap)).run Tryd.prog w1 = .ok () w2 ∧ w2.cell? ⟨cx.xb, 6, none⟩ = some (.map (some cx.mb)) ∧
      Rep cx w2 (lab own g (.kr kl)) (upd rv (.kr kl) (.slice (some ⟨g, 0, none⟩) ((S.K kl).length + 1) cap)) { S with K := upd S.K kl (S.K kl ++ [i]), m := S.m + 1 } ∧ Frm own (lab own g (.kr kl)) w w2 := by
  have F := A.facts h rfl
  have hmt := h.mt.keep F.ext fun k hk => F.kept k _ hk (by intro e; cases e)
  have hx := h.x.keep F.ext fun k hk => F.kept k _ hk (by intro e; cases e)
  obtain ⟨w2, h1, h2, h3⟩ := hmt.store hm hk (.slice (some ⟨g, 0, none⟩) ((S.K kl).length + 1) cap)
  obtain ⟨hK, _⟩ := turned_kept h3 h2.lab fun k t e => (F.dom k t e).2
  have hlen : ((S.K kl) ++ [i]).length = (S.K kl).length + 1 := by rw [List.length_append]; rfl
  have hF := F.row
  have e : natC (S.K kl) ++ [Value.int .i64 (i : Int)] = natC (S.K kl ++ [i]) := by rw [natC_append]; rfl
  rw [e, ← hlen] at hF
  have hR := h.keyPut F.ext F.dom F.kept hF (by rw [hlen]; exact h2) h3
  rw [hlen] at hR
  refine ⟨(hx.cell 6 (by decide)).1, w2, h1, ?_, hR, (A.frm h rfl).turned h3 hmt.lab⟩
  rw [World.cell?_of_block (w := w1) (a := ⟨cx.xb, 6, none⟩) (hK cx.xb .x hx.lab (by intro e; cases e))]
  exact (hx.cell 6 (by decide)).1
/-- what an append to a list of those that have a literal leaves -/
theorem Rep.hasOut {cx : Cx} {w : World} {own : Nat → Option Tag} {rv : Tag → Value} {S : St} (h : Rep cx w own rv S) {c i g cap : Nat} (hc : c < 2 * cx.V + 2) {w1 : World} (A : AppOut cx.lo w (.hr c) (rv (.hr c)) g cap ((S.has c).length + 1) (natC (S.has c) ++ [.int .i64 (i : Int)]) w1) :
    (∀ k t, own k = some t → t ≠ .hr c → ∀ j, w1.cell? ⟨k, j, none⟩ = w.cell? ⟨k, j, none⟩ ∧ w1.frozen? ⟨k, j, none⟩ = w.frozen? ⟨k, j, none⟩) ∧
    Rep cx (w1.setCell ⟨cx.hb, c, none⟩ (.slice (some ⟨g, 0, none⟩) ((S.has c).length + 1) cap)) (lab own g (.hr c)) (upd rv (.hr c) (.slice (some ⟨g, 0, none⟩) ((S.has c).length + 1) cap)) { S with has := upd S.has c (S.has c ++ [i]) } ∧
    Frm own (lab own g (.hr c)) w (w1.setCell ⟨cx.hb, c, none⟩ (.slice (some ⟨g, 0, none⟩) ((S.has c).length + 1) cap)) := by
  have F := A.facts h rfl
  refine ⟨fun k t e hne j => ⟨World.cell?_of_block (a := ⟨k, j, none⟩) (F.kept k t e hne), World.frozen?_of_block (a := ⟨k, j, none⟩) (F.kept k t e hne)⟩, h.appHas hc A, ?_⟩
  exact (A.frm h rfl).setCell (p := ⟨cx.hb, c, none⟩) (F.ext _ _ h.ht.lab) _
/-- one append to a watch list, put together -/
theorem Rep.watchStage {cx : Cx} {w0 wA : World} {own0 ownA : Nat → Option Tag} {rvA : Tag → Value} {SA : St} (hA : Rep cx wA ownA rvA SA) (hfr : Frm own0 ownA w0 wA) {c i j g k : Nat} {x wv : Value} {wl : List Nat} (hcV : c < 2 * cx.V + 2) (hgo : ownA g = some (.cl j)) (hcell : wA.cell? ⟨g, k, none⟩ = some x) (hwv : rvA (.wr c) = wv) (hwl : SA.watch c = wl) :
    ∀ o gg cp w1, w1.ownsRow cx.lo 3 1 (.slice (some ⟨gg, 0, none⟩) (wl.length + 1) cp) (wl.length + 1) (natC wl ++ [.int .i64 (i : Int)]) → (wA.alloc o).drew.grownBy w1 wv.ownBlock → (wv.ownBlock = some gg ∨ gg = wA.heap.size + 1) → gg < w1.heap.size →
      (w1.cell? ⟨cx.xb, 2, none⟩ = some (.slice (some ⟨cx.wb, 0, none⟩) (2 * cx.V + 2) cx.wc) ∧ w1.cell? ⟨g, k, none⟩ = some x ∧ w1.cell? ⟨cx.wb, c, none⟩ = some wv ∧ w1.frozen? ⟨cx.wb, c, none⟩ = false) ∧ ∃ own7 rv7, Rep cx (w1.setCell ⟨cx.wb, c, none⟩ (.slice (some ⟨gg, 0, none⟩) (wl.length + 1) cp)) own7 rv7 { SA with watch := upd SA.watch c (SA.watch c ++ [i]) } ∧ Frm own0 own7 w0 (w1.setCell ⟨cx.wb, c, none⟩ (.slice (some ⟨gg, 0, none⟩) (wl.length + 1) cp)) ∧ ∀ t, t ≠ .wr c → rv7 t = rvA t := by
  intro o gg cp w1 a1 a2 a3 a4
  have h3 := (hA.alloc o).drew
  have A : AppOut cx.lo (wA.alloc o).drew (.wr c) (rvA (.wr c)) gg cp ((SA.watch c).length + 1) (natC (SA.watch c) ++ [.int .i64 (i : Int)]) w1 := by
    rw [hwl, hwv]
    exact ⟨a1, a2, a3.imp id fun e => e.trans (by show _ = (wA.alloc o).heap.size; simp), a4⟩
  obtain ⟨b1, b2, b3⟩ := h3.watchOut hcV A
  have d1 := b1 cx.xb _ hA.x.lab (by intro e; cases e) 2
  have d2 := b1 g _ hgo (by intro e; cases e) k
  have d3 := b1 cx.wb _ hA.wt.lab (by intro e; cases e) c
  have e2 : (wA.alloc o).drew.cell? ⟨g, k, none⟩ = some x := (World.cell?_alloc_some wA _ o (by rw [hcell]; rfl)).trans hcell
  have el : (SA.watch c).length = wl.length := by rw [hwl]
  rw [el] at b2 b3
  exact ⟨⟨d1.1.trans (h3.x.cell 2 (by decide)).1, d2.1.trans e2, d3.1.trans ((h3.wt.cell c hcV).1.trans (congrArg some hwv)), d3.2.trans (h3.wt.cell c hcV).2⟩, lab ownA gg (.wr c), upd rvA (.wr c) (.slice (some ⟨gg, 0, none⟩) (wl.length + 1) cp), b2, ((hfr.alloc o).drew).trans b3, fun t ht => upd_other _ _ ht⟩
theorem info74 : (Tryd.prog.info? 74).map (fun i => (i.zero, i.size, i.bytes)) = some (some (.agg #[.slice none 0 0, .bool false]), 2, 32) := by kernel_rfl
set_option maxHeartbeats 32000000 in
set_option maxRecDepth 1000000 in
theorem add_walk (cx : Cx) (own : Nat → Option Tag) (rv : Tag → Value) (S : St) (w : World) (la : Option Addr) (ln lc : Nat) (zl : List Int) (h : Rep cx w own rv S) (hp : RestS cx.V S) (hln : zl.length = ln) (hl9 : ln ≤ 1000000) (hi : Ints w la zl) (hll : Lits (cx.V + 1) zl) (hV : cx.V ≤ 900000) (hN : S.n ≤ 1000000) (hm : S.m ≤ 10000000) (ht : Tab cx.lo w) :
    Calls Tryd.prog 29 #[.pointer (some ⟨cx.xb, 0, none⟩), .slice la ln lc] w (AddOut cx own (addS S (setZ zl)) w) := by
  obtain ⟨i0, hi0, hz0, hz1, hz2⟩ := info_parts info3
  obtain ⟨j0, hj0, hy0, hy1, hy2⟩ := info_parts info74
  obtain ⟨hrise, hsame⟩ := setZ_spec zl
  have hzl := setZ_len zl
  obtain ⟨zs, hzs⟩ : ∃ zs, setZ zl = zs := ⟨_, rfl⟩
  rw [hzs] at hrise hsame hzl
  have hlz : Lits (cx.V + 1) zs := fun y hy => hll y ((hsame y).1 hy)
  obtain ⟨n, hn⟩ : ∃ n, zs.length = n := ⟨_, rfl⟩
  have hz9 : ∀ z ∈ zs, -1000000000 ≤ z ∧ z ≤ 1000000000 := fun z hz => by have := (hlz z hz).2; omega
  have hset := set_walk la ln lc zl w hln (by omega) hi
  go_enter Tryd.func29, Tryd.ntmps29
  go_wp2_with (go_at_call 35; refine hset.mono ?_)
  rintro e w1 ⟨v, rfl, hown, hb1⟩
  rw [hzs, hn] at hown
  try rw [hzs]
  obtain ⟨va, vcap, hv, _, hvi, hva⟩ := owns_ints hown
  obtain ⟨own1, hlk, he1, hL⟩ := (h.below hb1 (Nat.le_refl _)).link (v := v) (zs := zs) (by rw [hn]; exact hown.mono h.lo_le) fun g hg => by
    have := (hown.lt g hg).1
    cases e : own g with
    | none => rfl
    | some t => have := (h.dom g t e).2; omega
  have hfr1 : Frm own own1 w w1 := ⟨hb1.os, hb1.tape, hb1.output, hb1.size, fun k hk => (hlk k).elim id fun e => by have := (hown.lt k e).1; omega, fun k hk _ => hb1.block k hk⟩
  obtain ⟨aa, acap, hav⟩ : ∃ a cap, rv .all = .slice a S.n cap := by
    rcases (h.rows .all rfl).row.2 with ⟨e1, e2⟩ | ⟨g, cap, cur, e1, _⟩
    · have e2 : S.n = 0 := e2
      exact ⟨none, 0, by rw [e1, e2]⟩
    · exact ⟨_, cap, e1⟩
  have hB1 := hfr1.toBelow h
  have hlo := h.lo_le
  have hkey := key_any va n vcap zs w1 hn (by omega) hvi hz9 (Nat.le_trans hlo hb1.size) (ht.below hB1)
  have c1 : w1.cell? ⟨cx.xb, 1, none⟩ = some (.slice aa S.n acap) := by
    have := (hL.x.cell 1 (by decide)).1
    rw [show fld cx (upd rv (.cl S.n) v) { S with lits := upd S.lits S.n zs } 1 = upd rv (.cl S.n) v .all from rfl, upd_other _ _ (by intro e; cases e), hav] at this
    exact this
  rw [hv]
  clear hset
  go_wp2_with (go_at_call 36; refine hkey.mono ?_)
  rintro e w2 ⟨rfl, hb2⟩
  have hL2 := hL.below hb2 (Nat.le_refl _)
  have hfr2 := hfr1.below hb2 (Nat.le_refl _)
  have hkl := key_lit hz9 (by omega)
  obtain ⟨ks, hks⟩ : ∃ l, S.K (keyL zs) = l := ⟨_, rfl⟩
  have hks9 : ks.length ≤ S.n := by rw [← hks]; exact nodup_len (hp.core.kn _) fun j hj => ((hp.core.ks _ j).1 hj).1
  obtain ⟨rv1, hrv1⟩ : ∃ f, upd rv (.cl S.n) v = f := ⟨_, rfl⟩
  have hcl1 : rv1 (.cl S.n) = v := by rw [← hrv1]; exact upd_same ..
  rw [hrv1] at hL2
  obtain ⟨kv, hkv⟩ : ∃ u, rv1 (.kr (keyL zs)) = u := ⟨_, rfl⟩
  have own2 : w2.ownsRow cx.lo 3 1 kv ks.length (natC ks) := by
    have := (hL2.keyRow (keyL zs)).1
    rw [hkv] at this
    have e : w2.ownsRow cx.lo 3 1 kv (S.K (keyL zs)).length (natC (S.K (keyL zs))) := this
    rwa [hks] at e
  have x6 : w2.cell? ⟨cx.xb, 6, none⟩ = some (.map (some cx.mb)) := (hL2.x.cell 6 (by decide)).1
  have hlkA : (Instr.lookup 57 (.map (some cx.mb)) (.string (keyB zs)) false).run Tryd.prog w2.drew = .ok kv w2.drew := by rw [← hkv]; exact hL2.drew.mt.look hkl
  have hlkB : ∀ o, (Instr.lookup 57 (.map (some cx.mb)) (.string (keyB zs)) false).run Tryd.prog (w2.alloc o).drew = .ok kv (w2.alloc o).drew := fun o => by rw [← hkv]; exact (hL2.alloc o).drew.mt.look hkl
  have hfr2' := fun o : Obj => (hfr2.alloc o).drew
  have hlo2 := hL2.lo_le
  have hKO : ∀ o gg cp w3, w3.ownsRow cx.lo 3 1 (.slice (some ⟨gg, 0, none⟩) (ks.length + 1) cp) (ks.length + 1) (natC ks ++ [.int .i64 (S.n : Int)]) → (w2.alloc o).drew.grownBy w3 kv.ownBlock → (kv.ownBlock = some gg ∨ gg = w2.heap.size + 1) → gg < w3.heap.size →
      w3.cell? ⟨cx.xb, 6, none⟩ = some (.map (some cx.mb)) ∧ ∃ w4, (Instr.mapUpdate 57 (.map (some cx.mb)) (.string (keyB zs)) (.slice (some ⟨gg, 0, none⟩) (ks.length + 1) cp)).run Tryd.prog w3 = .ok () w4 ∧ w4.cell? ⟨cx.xb, 6, none⟩ = some (.map (some cx.mb)) ∧
        ∃ own3 rv3, Rep cx w4 own3 rv3 { S with lits := upd S.lits S.n zs, K := upd S.K (keyL zs) (S.K (keyL zs) ++ [S.n]), m := S.m + 1 } ∧ Frm own own3 w w4 ∧ rv3 (.cl S.n) = v := by
    intro o gg cp w3 a1 a2 a3 a4
    obtain ⟨b1, w4, b2, b3, b4, b5⟩ := ((hL2.alloc o).drew).keyOut (kl := keyL zs) (s := keyB zs) (i := S.n) (g := gg) (cap := cp) (w1 := w3) hkl (by show S.m < maxLen; unfold maxLen; omega) (by
      show AppOut cx.lo (w2.alloc o).drew (.kr (keyL zs)) (rv1 (.kr (keyL zs))) gg cp ((S.K (keyL zs)).length + 1) (natC (S.K (keyL zs)) ++ [.int .i64 (S.n : Int)]) w3
      rw [hkv, hks]
      exact ⟨a1, a2, a3.imp id fun e => e.trans (by show _ = (w2.alloc o).heap.size; simp), a4⟩)
    rw [show (({ S with lits := upd S.lits S.n zs } : St).K (keyL zs)).length = ks.length by rw [← hks]] at b2 b4
    exact ⟨b1, w4, b2, b3, _, _, b4, (hfr2' o).trans b5, (upd_other _ _ (by intro e; cases e)).trans hcl1⟩
  clear hown hvi c1 hkey
  go_wp2_with fail
  go_cut [] from 8 (fun wx => ∃ own3 rv3, Rep cx wx own3 rv3 { S with lits := upd S.lits S.n zs, K := upd S.K (keyL zs) (S.K (keyL zs) ++ [S.n]), m := S.m + 1 } ∧ Frm own own3 w wx ∧ rv3 (.cl S.n) = v)
  case first =>
    go_region_held3 (fun w' => w'.cell? ⟨cx.xb, 6, none⟩ = some (.map (some cx.mb))) (first | go_keep | exact y6 | exact z6)
      (first | (refine step_append_lies _ (by rfl) _ _ _ (by rfl) cx.lo 3 i0 _ 1 8 Tryd.underlying33 hi0 hz0 hz1 hz2 rfl (by decide) kv _ _ (by rfl) ((own2.alloc _).drew) ⟨w2.heap.size, 0, none⟩ 1 1 [.int .i64 (S.n : Int)] (by rfl) (by rfl) (World.news_of_block (cs := #[.int .i64 (S.n : Int)]) (t := 3) (fr := (0, 0)) (heap_alloc_new w2 _)) (by simp [Value.oneCell']) (by decide) (by unfold maxLen; omega) (by omega) (by simp; omega) (w2.heap.size + 1) (by simp) ?_; intro gg cp w3 hown3 hgrow hat hlt; obtain ⟨y6, w4, hrun, z6, hR4⟩ := hKO _ gg cp w3 hown3 hgrow hat hlt))
    all_goals (go_wp2_with fail)
    all_goals go_meet
    all_goals exact hR4
  case rest =>
    obtain ⟨own3, rv3, h3, hfr3, hcl3⟩ := hcut
    clear own2 x6 hlkA hlkB hfr2' hlo2 hKO hL2 hfr2 hL hfr1 hkv hcl1 hrv1 hb1 hb2 hB1 hlk
    obtain ⟨S3, hS3⟩ : ∃ T : St, T = { S with lits := upd S.lits S.n zs, K := upd S.K (keyL zs) (S.K (keyL zs) ++ [S.n]), m := S.m + 1 } := ⟨_, rfl⟩
    rw [← hS3] at h3
    have hn3 : S3.n = S.n := by rw [hS3]
    have hg3 : S3.gone = S.gone := by rw [hS3]
    obtain ⟨av, hav3⟩ : ∃ u, rv3 .all = u := ⟨_, rfl⟩
    have ownA : wc.ownsRow cx.lo 74 2 av S.n (allC rv3 S.gone S.n) := by
      have e : wc.ownsRow cx.lo 74 2 (rv3 .all) S3.n (allC rv3 S3.gone S3.n) := (h3.rows .all rfl).row
      rwa [hn3, hg3, hav3] at e
    have c1 : wc.cell? ⟨cx.xb, 1, none⟩ = some av := by rw [← hav3]; exact (h3.x.cell 1 (by decide)).1
    have hlo3 := h3.lo_le
    have hA4 : ∀ o gg cp w5, w5.ownsRow cx.lo 74 2 (.slice (some ⟨gg, 0, none⟩) (S.n + 1) cp) (S.n + 1) (allC rv3 S.gone S.n ++ [.slice va n vcap, .bool false]) → (wc.alloc o).grownBy w5 av.ownBlock → (av.ownBlock = some gg ∨ gg = wc.heap.size + 1) → gg < w5.heap.size →
        (w5.cell? ⟨cx.xb, 1, none⟩ = some av ∧ w5.frozen? ⟨cx.xb, 1, none⟩ = false) ∧ ∃ own5 rv5, Rep cx (w5.setCell ⟨cx.xb, 1, none⟩ (.slice (some ⟨gg, 0, none⟩) (S.n + 1) cp)) own5 rv5 { S3 with n := S.n + 1, gone := upd S.gone S.n false } ∧ Frm own own5 w (w5.setCell ⟨cx.xb, 1, none⟩ (.slice (some ⟨gg, 0, none⟩) (S.n + 1) cp)) ∧ rv5 (.cl S.n) = .slice va n vcap := by
      intro o gg cp w5 a1 a2 a3 a4
      have h4 := h3.alloc o
      have A : AppOut cx.lo (wc.alloc o) .all (rv3 .all) gg cp (S3.n + 1) (allC rv3 S3.gone S3.n ++ [rv3 (.cl S3.n), .bool false]) w5 := by
        rw [hn3, hg3, hav3, hcl3, hv]
        exact ⟨a1, a2, a3.imp id fun e => e.trans (by simp), a4⟩
      have F := A.facts h4 rfl
      have hx1 := h4.x.keep F.ext fun k hk => F.kept k _ hk (by intro e; cases e)
      have h5 := h4.appAll A
      rw [hn3, hg3] at h5
      refine ⟨⟨(hx1.cell 1 (by decide)).1.trans (congrArg some hav3), (hx1.cell 1 (by decide)).2⟩, _, _, h5, ((hfr3.alloc o).trans (A.frm h4 rfl)).setCell (p := ⟨cx.xb, 1, none⟩) (F.ext _ _ h3.x.lab) _, ?_⟩
      rw [← hv, ← hcl3]; exact upd_other _ _ (by intro e; cases e)
    have cnA := fun k => cell_new wc #[.slice va n vcap, .bool false] 74 (0, 0) k
    go_wp2_with (at_builtin; refine wpList_append_lies _ rfl _ _ 56 rfl cx.lo 74 j0 _ 2 32 Tryd.underlying56 hj0 hy0 hy1 hy2 rfl (by decide) _ _ _ rfl (ownA.alloc _) ⟨wc.heap.size, 0, none⟩ 1 1 [.slice va n vcap, .bool false] rfl rfl ?c1 ?c2 (by decide) ?c3 ?c4 ?c5 _ rfl ?_)
    case c1 =>
      intro j u hj
      rw [add_plain, Nat.zero_add]
      match j, hj with
      | 0, hj => exact (cnA 0).trans hj
      | 1, hj => exact (cnA 1).trans hj
      | j + 2, hj => simp at hj
    case c2 => intro u hu; simp at hu; rcases hu with rfl | rfl <;> rfl
    case c3 => unfold maxLen; omega
    case c4 => omega
    case c5 => simp; omega
    intro gg cp w5 hown' hgrow hat hlt
    obtain ⟨⟨d1, d2⟩, own5, rv5, h5, hfr5, hcl5⟩ := hA4 _ gg cp w5 hown' hgrow (hat.imp id fun e => e.trans (by simp)) hlt
    clear hA4 hgrow hat hlt hown' cnA ownA c1 hav3
    go_wp2
    obtain ⟨S5, hS5⟩ : ∃ T : St, T = { S3 with n := S.n + 1, gone := upd S.gone S.n false } := ⟨_, rfl⟩
    rw [← hS5] at h5
    have hl5 : S5.lits S.n = zs := by rw [hS5, hS3]; exact upd_same ..
    have hh5 : S5.has = S.has := by rw [hS5, hS3]
    have h5' : Rep cx (w5.setCell ⟨cx.xb, 1, none⟩ (.slice (some ⟨gg, 0, none⟩) (S.n + 1) cp)) own5 rv5 { S5 with has := hasF S.n S.has (zs.take 0) } := by
      have : ({ S5 with has := hasF S.n S.has (zs.take 0) } : St) = S5 := by rw [List.take_zero]; show ({ S5 with has := S.has } : St) = S5; rw [← hh5]
      rw [this]; exact h5
    go_loopw [44] (fun iv wr => ∃ (k : Nat) (own6 : Nat → Option Tag) (rv6 : Tag → Value), k ≤ n ∧ iv = .int .i64 k ∧ Rep cx wr own6 rv6 { S5 with has := hasF S.n S.has (zs.take k) } ∧ Frm own own6 w wr ∧ rv6 (.cl S.n) = .slice va n vcap) (fun iv _ => n - (intOf iv).toNat)
    case atStart => exact ⟨0, own5, rv5, Nat.zero_le _, rfl, h5', hfr5, hcl5⟩
    case round =>
      obtain ⟨k, own6, rv6, hk, rfl, h6, hfr6, hcl6⟩ := hrel
      clear h5 h5' hfr5 d1 d2 h3 hfr3
      by_cases hlt : k < n
      · have hlt0 := hlt
        have hl6 : ({ S5 with has := hasF S.n S.has (zs.take k) } : St).lits S.n = zs := hl5
        obtain ⟨g, ccap, hcv, hgo, hccell⟩ := h6.clause (i := S.n) (by rw [hl6]; omega)
        rw [hcl6, hl6, hn] at hcv
        cases hcv
        rw [hl6] at hccell
        have ck0 := (hccell k (by omega)).1
        have htk := take_snoc (zs := zs) (k := k) (by omega)
        have hym : zs.getD k 0 ∈ zs := by rw [List.getD_eq_getElem?_getD, List.getElem?_eq_getElem (by omega)]; exact List.getElem_mem _
        obtain ⟨y, hy⟩ : ∃ y, zs.getD k 0 = y := ⟨_, rfl⟩
        rw [hy] at ck0 htk hym
        obtain ⟨hy0, hyV⟩ := hlz y hym
        have ck : wr.cell? ⟨g, k, none⟩ = some (.int .i64 y) := ck0
        clear hccell ck0
        obtain ⟨c, hc⟩ : ∃ c, codeZ y = c := ⟨_, rfl⟩
        have hcV : c < 2 * cx.V + 2 := by rw [← hc]; exact codeZ_lt hyV
        have hcI : (c : Int) < (2 * cx.V + 2 : Nat) := by omega
        have hcJ : (c : Int) < 2 * (cx.V : Int) + 2 := by omega
        have hc0 : (0 : Int) ≤ (c : Int) := by omega
        have hltI : (k : Int) < n := by omega
        have x3 : wr.cell? ⟨cx.xb, 3, none⟩ = some (.slice (some ⟨cx.hb, 0, none⟩) (2 * cx.V + 2) cx.hc) := (h6.x.cell 3 (by decide)).1
        obtain ⟨hl, hhl⟩ : ∃ l, hasF S.n S.has (zs.take k) c = l := ⟨_, rfl⟩
        have hhl9 : hl.length ≤ S.n + 1 := by
          rw [← hhl]
          refine nodup_len (hasF_nodup S.n _ S.has (fun l hl => (hlz l (List.mem_of_mem_take hl)).1) ((List.take_sublist k zs).nodup hrise.nodup) hp.core.hd (fun c => .inl fun e => by have := ((hp.core.hs c _).1 e).1; omega) c) fun j hj => ?_
          rcases (hasF_mem _ _ _ _ _).1 hj with e | ⟨e, _⟩
          · have := ((hp.core.hs c j).1 e).1; omega
          · omega
        obtain ⟨hvv, hhv⟩ : ∃ u, rv6 (.hr c) = u := ⟨_, rfl⟩
        have tb : wr.cell? ⟨cx.hb, c, none⟩ = some hvv := by rw [← hhv]; exact (h6.ht.cell c hcV).1
        have own2 : wr.ownsRow cx.lo 3 1 hvv hl.length (natC hl) := by
          have e : wr.ownsRow cx.lo 3 1 (rv6 (.hr c)) (hasF S.n S.has (zs.take k) c).length (natC (hasF S.n S.has (zs.take k) c)) := (h6.rows (.hr c) rfl).row
          rwa [hhv, hhl] at e
        have hcd := fun u => code_walk y (by omega) (by omega) u
        rw [hc] at hcd
        have hlo6 := h6.lo_le
        have key : ∀ o gg cp w7, w7.ownsRow cx.lo 3 1 (.slice (some ⟨gg, 0, none⟩) (hl.length + 1) cp) (hl.length + 1) (natC hl ++ [.int .i64 (S.n : Int)]) → (wr.alloc o).drew.grownBy w7 hvv.ownBlock → (hvv.ownBlock = some gg ∨ gg = wr.heap.size + 1) → gg < w7.heap.size →
            (w7.cell? ⟨cx.xb, 3, none⟩ = some (.slice (some ⟨cx.hb, 0, none⟩) (2 * cx.V + 2) cx.hc) ∧ w7.cell? ⟨cx.hb, c, none⟩ = some hvv ∧ w7.frozen? ⟨cx.hb, c, none⟩ = false) ∧ ∃ own7 rv7, Rep cx (w7.setCell ⟨cx.hb, c, none⟩ (.slice (some ⟨gg, 0, none⟩) (hl.length + 1) cp)) own7 rv7 { S5 with has := hasF S.n S.has (zs.take (k + 1)) } ∧ Frm own own7 w (w7.setCell ⟨cx.hb, c, none⟩ (.slice (some ⟨gg, 0, none⟩) (hl.length + 1) cp)) ∧ rv7 (.cl S.n) = .slice (some ⟨g, 0, none⟩) n vcap := by
          intro o gg cp w7 a1 a2 a3 a4
          have h7 := (h6.alloc o).drew
          have A : AppOut cx.lo (wr.alloc o).drew (.hr c) (rv6 (.hr c)) gg cp ((({ S5 with has := hasF S.n S.has (zs.take k) } : St).has c).length + 1) (natC (({ S5 with has := hasF S.n S.has (zs.take k) } : St).has c) ++ [.int .i64 (S.n : Int)]) w7 := by
            show AppOut cx.lo (wr.alloc o).drew (.hr c) (rv6 (.hr c)) gg cp ((hasF S.n S.has (zs.take k) c).length + 1) (natC (hasF S.n S.has (zs.take k) c) ++ [.int .i64 (S.n : Int)]) w7
            rw [hhl, hhv]
            exact ⟨a1, a2, a3.imp id fun e => e.trans (by show _ = (wr.alloc o).heap.size; simp), a4⟩
          obtain ⟨b1, b2, b3⟩ := h7.hasOut hcV A
          have e1 : (({ S5 with has := hasF S.n S.has (zs.take k) } : St).has c).length = hl.length := by rw [← hhl]
          rw [e1] at b2 b3
          have d1 := b1 cx.xb _ h6.x.lab (by intro e; cases e) 3
          have d3 := b1 cx.hb _ h6.ht.lab (by intro e; cases e) c
          refine ⟨⟨d1.1.trans (h7.x.cell 3 (by decide)).1, d3.1.trans ((h7.ht.cell c hcV).1.trans (congrArg some hhv)), d3.2.trans (h7.ht.cell c hcV).2⟩, lab own6 gg (.hr c), upd rv6 (.hr c) (.slice (some ⟨gg, 0, none⟩) (hl.length + 1) cp), ?_, ((hfr6.alloc o).drew).trans b3, (upd_other _ _ (by intro e; cases e)).trans hcl6⟩
          rw [htk, hasF_snoc, hc]
          exact b2
        have tbA : ∀ o, (wr.alloc o).cell? ⟨cx.hb, c, none⟩ = some hvv := fun o => (World.cell?_alloc_some wr _ o (by rw [tb]; rfl)).trans tb
        have tbB : ∀ o, (wr.alloc o).drew.cell? ⟨cx.hb, c, none⟩ = some hvv := tbA
        have nw1 := World.new_ne wr _ tb
        have nw3 := World.new_ne wr _ x3
        have hxw : cx.xb ≠ cx.hb := Rep.apart h6.x.lab h6.ht.lab (by intro e; cases e)
        have kst : ∀ {w1 : World} (u : Value), w1.cell? ⟨cx.xb, 3, none⟩ = some (.slice (some ⟨cx.hb, 0, none⟩) (2 * cx.V + 2) cx.hc) → (w1.setCell ⟨cx.hb, c, none⟩ u).cell? ⟨cx.xb, 3, none⟩ = some (.slice (some ⟨cx.hb, 0, none⟩) (2 * cx.V + 2) cx.hc) := fun u e1 => (World.cell?_setCell_other _ ⟨cx.hb, c, none⟩ ⟨cx.xb, 3, none⟩ _ (by intro e; injection e; omega)).trans e1
        clear htk hrise hsame hlz hll hz9 h h6 hfr6 hp hS5 hS3 hm hkl ht hks hhl hh5 hl5 hl6 hg3 hn3
        go_wp2_with fail
        refine wp_region_noPanic ?_
        refine wp_region_held_drew (S := (fun w' => w'.cell? ⟨cx.xb, 3, none⟩ = some (.slice (some ⟨cx.hb, 0, none⟩) (2 * cx.V + 2) cx.hc))) (by kernel_rfl) ?_ (fun hHeld => ?_)
        · (try dsimp only); first | go_keep | exact q.1.1 | exact kst _ q.1.1
        refine wpAnyH_take (i := 0) (oi := { dst := some 48, op := Op.move (Operand.tmp 0), type := 54, pos := "drat.go:74", after := #[], guard := none }) (v := ?_) rfl (by kernel_rfl) (by kernel_rfl) (by kernel_rfl) (fun _ _ _ h => h) (Or.inl ⟨by rfl, ?_⟩) (by assumption) ?_
        rotate_left
        · intro w hSw; (try dsimp only at hSw); go_simp; all_goals with_reducible rfl
        try simp only [Act.put, List.setIfInBounds_toArray, List.set_cons_zero, List.set_cons_succ]
        refine wpAnyH_take (i := 1) (oi := { dst := some 49, op := Op.nilCheck (Operand.tmp 48), type := 0, pos := "drat.go:74", after := #[{ on := 0, ground := Ground.data }], guard := none }) (v := ?_) rfl (by kernel_rfl) (by kernel_rfl) (by kernel_rfl) (fun _ _ _ h => h) (Or.inl ⟨by rfl, ?_⟩) (by assumption) ?_
        rotate_left
        · intro w hSw; (try dsimp only at hSw); go_simp; all_goals with_reducible rfl
        try simp only [Act.put, List.setIfInBounds_toArray, List.set_cons_zero, List.set_cons_succ]
        refine wpAnyH_take (i := 2) (oi := { dst := some 50, op := Op.fieldAddr 60 (Operand.tmp 49) 3, type := 0, pos := "drat.go:74", after := #[{ on := 1, ground := Ground.data }], guard := none }) (v := ?_) rfl (by kernel_rfl) (by kernel_rfl) (by kernel_rfl) (fun _ _ _ h => h) (Or.inl ⟨by rfl, ?_⟩) (by assumption) ?_
        rotate_left
        · intro w hSw; (try dsimp only at hSw); go_simp; all_goals with_reducible rfl
        try simp only [Act.put, List.setIfInBounds_toArray, List.set_cons_zero, List.set_cons_succ]
        refine wpAnyH_take (i := 3) (oi := { dst := some 51, op := Op.load 22 (Operand.tmp 50), type := 22, pos := "drat.go:74", after := #[{ on := 2, ground := Ground.data }], guard := none }) (v := ?_) rfl (by kernel_rfl) (by kernel_rfl) (by kernel_rfl) (fun _ _ _ h => h) (Or.inl ⟨by rfl, ?_⟩) (by assumption) ?_
        rotate_left
        · intro w hSw; (try dsimp only at hSw); go_simp; all_goals with_reducible rfl
        try simp only [Act.put, List.setIfInBounds_toArray, List.set_cons_zero, List.set_cons_succ]
        refine wpAnyH_take (i := 4) (oi := { dst := some 52, op := Op.move (Operand.tmp 7), type := 3, pos := "drat.go:74", after := #[], guard := none }) (v := ?_) rfl (by kernel_rfl) (by kernel_rfl) (by kernel_rfl) (fun _ _ _ h => h) (Or.inl ⟨by rfl, ?_⟩) (by assumption) ?_
        rotate_left
        · intro w hSw; (try dsimp only at hSw); go_simp; all_goals with_reducible rfl
        try simp only [Act.put, List.setIfInBounds_toArray, List.set_cons_zero, List.set_cons_succ]
        refine wpAnyH_take (i := 6) (oi := { dst := some 54, op := Op.move (Operand.tmp 0), type := 54, pos := "drat.go:74", after := #[], guard := none }) (v := ?_) rfl (by kernel_rfl) (by kernel_rfl) (by kernel_rfl) (fun _ _ _ h => h) (Or.inl ⟨by rfl, ?_⟩) (by assumption) ?_
        rotate_left
        · intro w hSw; (try dsimp only at hSw); go_simp; all_goals with_reducible rfl
        try simp only [Act.put, List.setIfInBounds_toArray, List.set_cons_zero, List.set_cons_succ]
        refine wpAnyH_take (i := 7) (oi := { dst := some 55, op := Op.nilCheck (Operand.tmp 54), type := 0, pos := "drat.go:74", after := #[{ on := 6, ground := Ground.data }], guard := none }) (v := ?_) rfl (by kernel_rfl) (by kernel_rfl) (by kernel_rfl) (fun _ _ _ h => h) (Or.inl ⟨by rfl, ?_⟩) (by assumption) ?_
        rotate_left
        · intro w hSw; (try dsimp only at hSw); go_simp; all_goals with_reducible rfl
        try simp only [Act.put, List.setIfInBounds_toArray, List.set_cons_zero, List.set_cons_succ]
        refine wpAnyH_take (i := 8) (oi := { dst := some 56, op := Op.fieldAddr 60 (Operand.tmp 55) 3, type := 0, pos := "drat.go:74", after := #[{ on := 7, ground := Ground.data }], guard := none }) (v := ?_) rfl (by kernel_rfl) (by kernel_rfl) (by kernel_rfl) (fun _ _ _ h => h) (Or.inl ⟨by rfl, ?_⟩) (by assumption) ?_
        rotate_left
        · intro w hSw; (try dsimp only at hSw); go_simp; all_goals with_reducible rfl
        try simp only [Act.put, List.setIfInBounds_toArray, List.set_cons_zero, List.set_cons_succ]
        refine wpAnyH_take (i := 9) (oi := { dst := some 57, op := Op.load 22 (Operand.tmp 56), type := 22, pos := "drat.go:74", after := #[{ on := 8, ground := Ground.data }], guard := none }) (v := ?_) rfl (by kernel_rfl) (by kernel_rfl) (by kernel_rfl) (fun _ _ _ h => h) (Or.inl ⟨by rfl, ?_⟩) (by assumption) ?_
        rotate_left
        · intro w hSw; (try dsimp only at hSw); go_simp; all_goals with_reducible rfl
        try simp only [Act.put, List.setIfInBounds_toArray, List.set_cons_zero, List.set_cons_succ]
        refine wpAnyH_take (i := 10) (oi := { dst := some 58, op := Op.move (Operand.tmp 7), type := 3, pos := "drat.go:74", after := #[], guard := none }) (v := ?_) rfl (by kernel_rfl) (by kernel_rfl) (by kernel_rfl) (fun _ _ _ h => h) (Or.inl ⟨by rfl, ?_⟩) (by assumption) ?_
        rotate_left
        · intro w hSw; (try dsimp only at hSw); go_simp; all_goals with_reducible rfl
        try simp only [Act.put, List.setIfInBounds_toArray, List.set_cons_zero, List.set_cons_succ]
        refine wpAnyH_take (i := 14) (oi := { dst := some 62, op := Op.move (Operand.tmp 4), type := 3, pos := "drat.go:74", after := #[], guard := none }) (v := ?_) rfl (by kernel_rfl) (by kernel_rfl) (by kernel_rfl) (fun _ _ _ h => h) (Or.inl ⟨by rfl, ?_⟩) (by assumption) ?_
        rotate_left
        · intro w hSw; (try dsimp only at hSw); go_simp; all_goals with_reducible rfl
        try simp only [Act.put, List.setIfInBounds_toArray, List.set_cons_zero, List.set_cons_succ]
        refine wpAnyH_ready (rs := [5, 15]) (by kernel_rfl) (by simp) ?_
        refine AllReadyH.cons (o := { dst := some 53, op := Op.call { callee := Callee.value (Operand.func 38), args := #[Operand.tmp 52], argTypes := #[3] }, type := 3, pos := "drat.go:74", after := #[{ on := 4, ground := Ground.data }], guard := none }) rfl (fun K hK => ?_) ?_
        · go_simp
          go_at_call 38; refine (hcd _).mono ?_; rintro e w' ⟨p1, p2⟩; rw [p1, p2]; clear p1 p2
          go_wp2_with fail
          refine hK.out _ _ ?_ (fun hHeld2 => ?_)
          · (try dsimp only); first | go_keep | exact q.1.1 | exact kst _ q.1.1
          clear hK K hHeld
          have hHeld := hHeld2
          clear hHeld2
          try simp only [Act.put, List.setIfInBounds_toArray, List.set_cons_zero, List.set_cons_succ]
          refine wpAnyH_ready (rs := [11, 15]) (by kernel_rfl) (by simp) ?_
          refine AllReadyH.cons (o := { dst := some 59, op := Op.call { callee := Callee.value (Operand.func 38), args := #[Operand.tmp 58], argTypes := #[3] }, type := 3, pos := "drat.go:74", after := #[{ on := 10, ground := Ground.data }, { on := 5, ground := Ground.chain }], guard := none }) rfl (fun K hK => ?_) ?_
          · go_simp
            go_at_call 38; refine (hcd _).mono ?_; rintro e w' ⟨p1, p2⟩; rw [p1, p2]; clear p1 p2
            go_wp2_with fail
            refine hK.out _ _ ?_ (fun hHeld2 => ?_)
            · (try dsimp only); first | go_keep | exact q.1.1 | exact kst _ q.1.1
            clear hK K hHeld
            have hHeld := hHeld2
            clear hHeld2
            try simp only [Act.put, List.setIfInBounds_toArray, List.set_cons_zero, List.set_cons_succ]
            refine wpAnyH_take (i := 12) (oi := { dst := some 60, op := Op.indexAddr 22 (Operand.tmp 57) (Operand.tmp 59), type := 0, pos := "drat.go:74", after := #[{ on := 9, ground := Ground.data }, { on := 11, ground := Ground.data }], guard := none }) (v := ?_) rfl (by kernel_rfl) (by kernel_rfl) (by kernel_rfl) (fun _ _ _ h => h) (Or.inl ⟨by rfl, ?_⟩) (by assumption) ?_
            rotate_left
            · intro w hSw; (try dsimp only at hSw); go_simp; all_goals with_reducible rfl
            try simp only [Act.put, List.setIfInBounds_toArray, List.set_cons_zero, List.set_cons_succ]
            refine wpAnyH_ready (rs := [13, 15]) (by kernel_rfl) (by simp) ?_
            refine AllReadyH.cons (o := { dst := some 61, op := Op.load 33 (Operand.tmp 60), type := 33, pos := "drat.go:74", after := #[{ on := 12, ground := Ground.data }], guard := none }) rfl (fun K hK => ?_) ?_
            · go_simp
              refine hK.out _ _ ?_ (fun hHeld2 => ?_)
              · (try dsimp only); first | go_keep | exact q.1.1 | exact kst _ q.1.1
              clear hK K hHeld
              have hHeld := hHeld2
              clear hHeld2
              try simp only [Act.put, List.setIfInBounds_toArray, List.set_cons_zero, List.set_cons_succ]
              refine wpAnyH_ready (rs := [15]) (by kernel_rfl) (by simp) ?_
              refine AllReadyH.cons (o := { dst := some 63, op := Op.buildSlice 33 1 #[(0, Operand.tmp 62)], type := 33, pos := "drat.go:74", after := #[{ on := 14, ground := Ground.data }], guard := none }) rfl (fun K hK => ?_) ?_
              · go_simp
                refine hK.out _ _ ?_ (fun hHeld2 => ?_)
                · (try dsimp only); first | go_keep | exact q.1.1 | exact kst _ q.1.1
                clear hK K hHeld
                have hHeld := hHeld2
                clear hHeld2
                try simp only [Act.put, List.setIfInBounds_toArray, List.set_cons_zero, List.set_cons_succ]
                refine wpAnyH_ready (rs := [16]) (by kernel_rfl) (by simp) ?_
                refine AllReadyH.cons (o := { dst := some 64, op := Op.call { callee := Callee.builtin Builtin.append, args := #[Operand.tmp 61, Operand.tmp 63], argTypes := #[33, 33] }, type := 33, pos := "drat.go:74", after := #[{ on := 13, ground := Ground.data }, { on := 15, ground := Ground.data }, { on := 11, ground := Ground.chain }], guard := none }) rfl (fun K hK => ?_) ?_
                · refine step_append_lies _ (by rfl) _ _ _ (by rfl) cx.lo 3 i0 _ 1 8 Tryd.underlying33 hi0 hz0 hz1 hz2 rfl (by decide) hvv _ _ (by rfl) ((own2.alloc _).drew) ⟨wr.heap.size, 0, none⟩ 1 1 [.int .i64 (S.n : Int)] (by rfl) (by rfl) (World.news_of_block (cs := #[.int .i64 (S.n : Int)]) (t := 3) (fr := (0, 0)) (heap_alloc_new wr _)) (by simp [Value.oneCell']) (by decide) (by unfold maxLen; omega) (by omega) (by simp; omega) (wr.heap.size + 1) (by simp) ?_
                  intro gg cp w7 hown7 hgrow hat hlt
                  have q := key _ gg cp w7 hown7 hgrow hat hlt
                  have qf := q.1.2.2
                  refine hK.out _ _ ?_ (fun hHeld2 => ?_)
                  · (try dsimp only); first | go_keep | exact q.1.1 | exact kst _ q.1.1
                  clear hK K hHeld
                  have hHeld := hHeld2
                  clear hHeld2
                  try simp only [Act.put, List.setIfInBounds_toArray, List.set_cons_zero, List.set_cons_succ]
                  refine wpAnyH_take (i := 17) (oi := { dst := some 65, op := Op.indexAddr 22 (Operand.tmp 51) (Operand.tmp 53), type := 0, pos := "drat.go:74", after := #[{ on := 3, ground := Ground.data }, { on := 5, ground := Ground.data }, { on := 0, ground := Ground.phase }, { on := 1, ground := Ground.phase }, { on := 2, ground := Ground.phase }, { on := 3, ground := Ground.phase }, { on := 4, ground := Ground.phase }, { on := 5, ground := Ground.phase }, { on := 6, ground := Ground.phase }, { on := 7, ground := Ground.phase }, { on := 8, ground := Ground.phase }, { on := 9, ground := Ground.phase }, { on := 10, ground := Ground.phase }, { on := 11, ground := Ground.phase }, { on := 12, ground := Ground.phase }, { on := 13, ground := Ground.phase }, { on := 14, ground := Ground.phase }, { on := 15, ground := Ground.phase }, { on := 16, ground := Ground.phase }], guard := none }) (v := ?_) rfl (by kernel_rfl) (by kernel_rfl) (by kernel_rfl) (fun _ _ _ h => h) (Or.inl ⟨by rfl, ?_⟩) (by assumption) ?_
                  rotate_left
                  · intro w hSw; (try dsimp only at hSw); go_simp; all_goals with_reducible rfl
                  try simp only [Act.put, List.setIfInBounds_toArray, List.set_cons_zero, List.set_cons_succ]
                  refine wpAnyH_ready (rs := [18]) (by kernel_rfl) (by simp) ?_
                  refine AllReadyH.cons (o := { dst := none, op := Op.store 33 (Operand.tmp 65) (Operand.tmp 64), type := 0, pos := "drat.go:74", after := #[{ on := 17, ground := Ground.data }, { on := 16, ground := Ground.data }, { on := 16, ground := Ground.chain }, { on := 0, ground := Ground.phase }, { on := 1, ground := Ground.phase }, { on := 2, ground := Ground.phase }, { on := 3, ground := Ground.phase }, { on := 4, ground := Ground.phase }, { on := 5, ground := Ground.phase }, { on := 6, ground := Ground.phase }, { on := 7, ground := Ground.phase }, { on := 8, ground := Ground.phase }, { on := 9, ground := Ground.phase }, { on := 10, ground := Ground.phase }, { on := 11, ground := Ground.phase }, { on := 12, ground := Ground.phase }, { on := 13, ground := Ground.phase }, { on := 14, ground := Ground.phase }, { on := 15, ground := Ground.phase }, { on := 16, ground := Ground.phase }], guard := none }) rfl (fun K hK => ?_) ?_
                  · go_simp
                    refine hK.out _ _ ?_ (fun hHeld2 => ?_)
                    · (try dsimp only); first | go_keep | exact q.1.1 | exact kst _ q.1.1
                    clear hK K hHeld
                    have hHeld := hHeld2
                    clear hHeld2
                    try simp only [Act.put, List.setIfInBounds_toArray, List.set_cons_zero, List.set_cons_succ]
                    refine wpAnyH_done (by kernel_rfl) ?_ _
                    refine NoPanic.normal ?_
                    go_wp2_with fail
                    go_roundw
                    case rel =>
                      obtain ⟨own7, rv7, q1, q2, q3⟩ := q.2
                      exact ⟨k + 1, own7, rv7, hlt0, (by simp), q1, q2, q3⟩
                    case measure => simp [intOf]; omega
                  exact AllReadyH.nil
                exact AllReadyH.nil
              exact AllReadyH.nil
            refine AllReadyH.cons (o := { dst := some 63, op := Op.buildSlice 33 1 #[(0, Operand.tmp 62)], type := 33, pos := "drat.go:74", after := #[{ on := 14, ground := Ground.data }], guard := none }) rfl (fun K hK => ?_) ?_
            · go_simp
              refine hK.out _ _ ?_ (fun hHeld2 => ?_)
              · (try dsimp only); first | go_keep | exact q.1.1 | exact kst _ q.1.1
              clear hK K hHeld
              have hHeld := hHeld2
              clear hHeld2
              try simp only [Act.put, List.setIfInBounds_toArray, List.set_cons_zero, List.set_cons_succ]
              refine wpAnyH_ready (rs := [13]) (by kernel_rfl) (by simp) ?_
              refine AllReadyH.cons (o := { dst := some 61, op := Op.load 33 (Operand.tmp 60), type := 33, pos := "drat.go:74", after := #[{ on := 12, ground := Ground.data }], guard := none }) rfl (fun K hK => ?_) ?_
              · go_simp
                refine hK.out _ _ ?_ (fun hHeld2 => ?_)
                · (try dsimp only); first | go_keep | exact q.1.1 | exact kst _ q.1.1
                clear hK K hHeld
                have hHeld := hHeld2
                clear hHeld2
                try simp only [Act.put, List.setIfInBounds_toArray, List.set_cons_zero, List.set_cons_succ]
                refine wpAnyH_ready (rs := [16]) (by kernel_rfl) (by simp) ?_
                refine AllReadyH.cons (o := { dst := some 64, op := Op.call { callee := Callee.builtin Builtin.append, args := #[Operand.tmp 61, Operand.tmp 63], argTypes := #[33, 33] }, type := 33, pos := "drat.go:74", after := #[{ on := 13, ground := Ground.data }, { on := 15, ground := Ground.data }, { on := 11, ground := Ground.chain }], guard := none }) rfl (fun K hK => ?_) ?_
                · refine step_append_lies _ (by rfl) _ _ _ (by rfl) cx.lo 3 i0 _ 1 8 Tryd.underlying33 hi0 hz0 hz1 hz2 rfl (by decide) hvv _ _ (by rfl) ((own2.alloc _).drew) ⟨wr.heap.size, 0, none⟩ 1 1 [.int .i64 (S.n : Int)] (by rfl) (by rfl) (World.news_of_block (cs := #[.int .i64 (S.n : Int)]) (t := 3) (fr := (0, 0)) (heap_alloc_new wr _)) (by simp [Value.oneCell']) (by decide) (by unfold maxLen; omega) (by omega) (by simp; omega) (wr.heap.size + 1) (by simp) ?_
                  intro gg cp w7 hown7 hgrow hat hlt
                  have q := key _ gg cp w7 hown7 hgrow hat hlt
                  have qf := q.1.2.2
                  refine hK.out _ _ ?_ (fun hHeld2 => ?_)
                  · (try dsimp only); first | go_keep | exact q.1.1 | exact kst _ q.1.1
                  clear hK K hHeld
                  have hHeld := hHeld2
                  clear hHeld2
                  try simp only [Act.put, List.setIfInBounds_toArray, List.set_cons_zero, List.set_cons_succ]
                  refine wpAnyH_take (i := 17) (oi := { dst := some 65, op := Op.indexAddr 22 (Operand.tmp 51) (Operand.tmp 53), type := 0, pos := "drat.go:74", after := #[{ on := 3, ground := Ground.data }, { on := 5, ground := Ground.data }, { on := 0, ground := Ground.phase }, { on := 1, ground := Ground.phase }, { on := 2, ground := Ground.phase }, { on := 3, ground := Ground.phase }, { on := 4, ground := Ground.phase }, { on := 5, ground := Ground.phase }, { on := 6, ground := Ground.phase }, { on := 7, ground := Ground.phase }, { on := 8, ground := Ground.phase }, { on := 9, ground := Ground.phase }, { on := 10, ground := Ground.phase }, { on := 11, ground := Ground.phase }, { on := 12, ground := Ground.phase }, { on := 13, ground := Ground.phase }, { on := 14, ground := Ground.phase }, { on := 15, ground := Ground.phase }, { on := 16, ground := Ground.phase }], guard := none }) (v := ?_) rfl (by kernel_rfl) (by kernel_rfl) (by kernel_rfl) (fun _ _ _ h => h) (Or.inl ⟨by rfl, ?_⟩) (by assumption) ?_
                  rotate_left
                  · intro w hSw; (try dsimp only at hSw); go_simp; all_goals with_reducible rfl
                  try simp only [Act.put, List.setIfInBounds_toArray, List.set_cons_zero, List.set_cons_succ]
                  refine wpAnyH_ready (rs := [18]) (by kernel_rfl) (by simp) ?_
                  refine AllReadyH.cons (o := { dst := none, op := Op.store 33 (Operand.tmp 65) (Operand.tmp 64), type := 0, pos := "drat.go:74", after := #[{ on := 17, ground := Ground.data }, { on := 16, ground := Ground.data }, { on := 16, ground := Ground.chain }, { on := 0, ground := Ground.phase }, { on := 1, ground := Ground.phase }, { on := 2, ground := Ground.phase }, { on := 3, ground := Ground.phase }, { on := 4, ground := Ground.phase }, { on := 5, ground := Ground.phase }, { on := 6, ground := Ground.phase }, { on := 7, ground := Ground.phase }, { on := 8, ground := Ground.phase }, { on := 9, ground := Ground.phase }, { on := 10, ground := Ground.phase }, { on := 11, ground := Ground.phase }, { on := 12, ground := Ground.phase }, { on := 13, ground := Ground.phase }, { on := 14, ground := Ground.phase }, { on := 15, ground := Ground.phase }, { on := 16, ground := Ground.phase }], guard := none }) rfl (fun K hK => ?_) ?_
                  · go_simp
                    refine hK.out _ _ ?_ (fun hHeld2 => ?_)
                    · (try dsimp only); first | go_keep | exact q.1.1 | exact kst _ q.1.1
                    clear hK K hHeld
                    have hHeld := hHeld2
                    clear hHeld2
                    try simp only [Act.put, List.setIfInBounds_toArray, List.set_cons_zero, List.set_cons_succ]
                    refine wpAnyH_done (by kernel_rfl) ?_ _
                    refine NoPanic.normal ?_
                    go_wp2_with fail
                    go_roundw
                    case rel =>
                      obtain ⟨own7, rv7, q1, q2, q3⟩ := q.2
                      exact ⟨k + 1, own7, rv7, hlt0, (by simp), q1, q2, q3⟩
                    case measure => simp [intOf]; omega
                  exact AllReadyH.nil
                exact AllReadyH.nil
              exact AllReadyH.nil
            exact AllReadyH.nil
          refine AllReadyH.cons (o := { dst := some 63, op := Op.buildSlice 33 1 #[(0, Operand.tmp 62)], type := 33, pos := "drat.go:74", after := #[{ on := 14, ground := Ground.data }], guard := none }) rfl (fun K hK => ?_) ?_
          · go_simp
            refine hK.out _ _ ?_ (fun hHeld2 => ?_)
            · (try dsimp only); first | go_keep | exact q.1.1 | exact kst _ q.1.1
            clear hK K hHeld
            have hHeld := hHeld2
            clear hHeld2
            try simp only [Act.put, List.setIfInBounds_toArray, List.set_cons_zero, List.set_cons_succ]
            refine wpAnyH_ready (rs := [11]) (by kernel_rfl) (by simp) ?_
            refine AllReadyH.cons (o := { dst := some 59, op := Op.call { callee := Callee.value (Operand.func 38), args := #[Operand.tmp 58], argTypes := #[3] }, type := 3, pos := "drat.go:74", after := #[{ on := 10, ground := Ground.data }, { on := 5, ground := Ground.chain }], guard := none }) rfl (fun K hK => ?_) ?_
            · go_simp
              go_at_call 38; refine (hcd _).mono ?_; rintro e w' ⟨p1, p2⟩; rw [p1, p2]; clear p1 p2
              go_wp2_with fail
              refine hK.out _ _ ?_ (fun hHeld2 => ?_)
              · (try dsimp only); first | go_keep | exact q.1.1 | exact kst _ q.1.1
              clear hK K hHeld
              have hHeld := hHeld2
              clear hHeld2
              try simp only [Act.put, List.setIfInBounds_toArray, List.set_cons_zero, List.set_cons_succ]
              refine wpAnyH_take (i := 12) (oi := { dst := some 60, op := Op.indexAddr 22 (Operand.tmp 57) (Operand.tmp 59), type := 0, pos := "drat.go:74", after := #[{ on := 9, ground := Ground.data }, { on := 11, ground := Ground.data }], guard := none }) (v := ?_) rfl (by kernel_rfl) (by kernel_rfl) (by kernel_rfl) (fun _ _ _ h => h) (Or.inl ⟨by rfl, ?_⟩) (by assumption) ?_
              rotate_left
              · intro w hSw; (try dsimp only at hSw); go_simp; all_goals with_reducible rfl
              try simp only [Act.put, List.setIfInBounds_toArray, List.set_cons_zero, List.set_cons_succ]
              refine wpAnyH_ready (rs := [13]) (by kernel_rfl) (by simp) ?_
              refine AllReadyH.cons (o := { dst := some 61, op := Op.load 33 (Operand.tmp 60), type := 33, pos := "drat.go:74", after := #[{ on := 12, ground := Ground.data }], guard := none }) rfl (fun K hK => ?_) ?_
              · go_simp
                refine hK.out _ _ ?_ (fun hHeld2 => ?_)
                · (try dsimp only); first | go_keep | exact q.1.1 | exact kst _ q.1.1
                clear hK K hHeld
                have hHeld := hHeld2
                clear hHeld2
                try simp only [Act.put, List.setIfInBounds_toArray, List.set_cons_zero, List.set_cons_succ]
                refine wpAnyH_ready (rs := [16]) (by kernel_rfl) (by simp) ?_
                refine AllReadyH.cons (o := { dst := some 64, op := Op.call { callee := Callee.builtin Builtin.append, args := #[Operand.tmp 61, Operand.tmp 63], argTypes := #[33, 33] }, type := 33, pos := "drat.go:74", after := #[{ on := 13, ground := Ground.data }, { on := 15, ground := Ground.data }, { on := 11, ground := Ground.chain }], guard := none }) rfl (fun K hK => ?_) ?_
                · refine step_append_lies _ (by rfl) _ _ _ (by rfl) cx.lo 3 i0 _ 1 8 Tryd.underlying33 hi0 hz0 hz1 hz2 rfl (by decide) hvv _ _ (by rfl) ((own2.alloc _).drew) ⟨wr.heap.size, 0, none⟩ 1 1 [.int .i64 (S.n : Int)] (by rfl) (by rfl) (World.news_of_block (cs := #[.int .i64 (S.n : Int)]) (t := 3) (fr := (0, 0)) (heap_alloc_new wr _)) (by simp [Value.oneCell']) (by decide) (by unfold maxLen; omega) (by omega) (by simp; omega) (wr.heap.size + 1) (by simp) ?_
                  intro gg cp w7 hown7 hgrow hat hlt
                  have q := key _ gg cp w7 hown7 hgrow hat hlt
                  have qf := q.1.2.2
                  refine hK.out _ _ ?_ (fun hHeld2 => ?_)
                  · (try dsimp only); first | go_keep | exact q.1.1 | exact kst _ q.1.1
                  clear hK K hHeld
                  have hHeld := hHeld2
                  clear hHeld2
                  try simp only [Act.put, List.setIfInBounds_toArray, List.set_cons_zero, List.set_cons_succ]
                  refine wpAnyH_take (i := 17) (oi := { dst := some 65, op := Op.indexAddr 22 (Operand.tmp 51) (Operand.tmp 53), type := 0, pos := "drat.go:74", after := #[{ on := 3, ground := Ground.data }, { on := 5, ground := Ground.data }, { on := 0, ground := Ground.phase }, { on := 1, ground := Ground.phase }, { on := 2, ground := Ground.phase }, { on := 3, ground := Ground.phase }, { on := 4, ground := Ground.phase }, { on := 5, ground := Ground.phase }, { on := 6, ground := Ground.phase }, { on := 7, ground := Ground.phase }, { on := 8, ground := Ground.phase }, { on := 9, ground := Ground.phase }, { on := 10, ground := Ground.phase }, { on := 11, ground := Ground.phase }, { on := 12, ground := Ground.phase }, { on := 13, ground := Ground.phase }, { on := 14, ground := Ground.phase }, { on := 15, ground := Ground.phase }, { on := 16, ground := Ground.phase }], guard := none }) (v := ?_) rfl (by kernel_rfl) (by kernel_rfl) (by kernel_rfl) (fun _ _ _ h => h) (Or.inl ⟨by rfl, ?_⟩) (by assumption) ?_
                  rotate_left
                  · intro w hSw; (try dsimp only at hSw); go_simp; all_goals with_reducible rfl
                  try simp only [Act.put, List.setIfInBounds_toArray, List.set_cons_zero, List.set_cons_succ]
                  refine wpAnyH_ready (rs := [18]) (by kernel_rfl) (by simp) ?_
                  refine AllReadyH.cons (o := { dst := none, op := Op.store 33 (Operand.tmp 65) (Operand.tmp 64), type := 0, pos := "drat.go:74", after := #[{ on := 17, ground := Ground.data }, { on := 16, ground := Ground.data }, { on := 16, ground := Ground.chain }, { on := 0, ground := Ground.phase }, { on := 1, ground := Ground.phase }, { on := 2, ground := Ground.phase }, { on := 3, ground := Ground.phase }, { on := 4, ground := Ground.phase }, { on := 5, ground := Ground.phase }, { on := 6, ground := Ground.phase }, { on := 7, ground := Ground.phase }, { on := 8, ground := Ground.phase }, { on := 9, ground := Ground.phase }, { on := 10, ground := Ground.phase }, { on := 11, ground := Ground.phase }, { on := 12, ground := Ground.phase }, { on := 13, ground := Ground.phase }, { on := 14, ground := Ground.phase }, { on := 15, ground := Ground.phase }, { on := 16, ground := Ground.phase }], guard := none }) rfl (fun K hK => ?_) ?_
                  · go_simp
                    refine hK.out _ _ ?_ (fun hHeld2 => ?_)
                    · (try dsimp only); first | go_keep | exact q.1.1 | exact kst _ q.1.1
                    clear hK K hHeld
                    have hHeld := hHeld2
                    clear hHeld2
                    try simp only [Act.put, List.setIfInBounds_toArray, List.set_cons_zero, List.set_cons_succ]
                    refine wpAnyH_done (by kernel_rfl) ?_ _
                    refine NoPanic.normal ?_
                    go_wp2_with fail
                    go_roundw
                    case rel =>
                      obtain ⟨own7, rv7, q1, q2, q3⟩ := q.2
                      exact ⟨k + 1, own7, rv7, hlt0, (by simp), q1, q2, q3⟩
                    case measure => simp [intOf]; omega
                  exact AllReadyH.nil
                exact AllReadyH.nil
              exact AllReadyH.nil
            exact AllReadyH.nil
          exact AllReadyH.nil
        refine AllReadyH.cons (o := { dst := some 63, op := Op.buildSlice 33 1 #[(0, Operand.tmp 62)], type := 33, pos := "drat.go:74", after := #[{ on := 14, ground := Ground.data }], guard := none }) rfl (fun K hK => ?_) ?_
        · go_simp
          refine hK.out _ _ ?_ (fun hHeld2 => ?_)
          · (try dsimp only); first | go_keep | exact q.1.1 | exact kst _ q.1.1
          clear hK K hHeld
          have hHeld := hHeld2
          clear hHeld2
          try simp only [Act.put, List.setIfInBounds_toArray, List.set_cons_zero, List.set_cons_succ]
          refine wpAnyH_ready (rs := [5]) (by kernel_rfl) (by simp) ?_
          refine AllReadyH.cons (o := { dst := some 53, op := Op.call { callee := Callee.value (Operand.func 38), args := #[Operand.tmp 52], argTypes := #[3] }, type := 3, pos := "drat.go:74", after := #[{ on := 4, ground := Ground.data }], guard := none }) rfl (fun K hK => ?_) ?_
          · go_simp
            go_at_call 38; refine (hcd _).mono ?_; rintro e w' ⟨p1, p2⟩; rw [p1, p2]; clear p1 p2
            go_wp2_with fail
            refine hK.out _ _ ?_ (fun hHeld2 => ?_)
            · (try dsimp only); first | go_keep | exact q.1.1 | exact kst _ q.1.1
            clear hK K hHeld
            have hHeld := hHeld2
            clear hHeld2
            try simp only [Act.put, List.setIfInBounds_toArray, List.set_cons_zero, List.set_cons_succ]
            refine wpAnyH_ready (rs := [11]) (by kernel_rfl) (by simp) ?_
            refine AllReadyH.cons (o := { dst := some 59, op := Op.call { callee := Callee.value (Operand.func 38), args := #[Operand.tmp 58], argTypes := #[3] }, type := 3, pos := "drat.go:74", after := #[{ on := 10, ground := Ground.data }, { on := 5, ground := Ground.chain }], guard := none }) rfl (fun K hK => ?_) ?_
            · go_simp
              go_at_call 38; refine (hcd _).mono ?_; rintro e w' ⟨p1, p2⟩; rw [p1, p2]; clear p1 p2
              go_wp2_with fail
              refine hK.out _ _ ?_ (fun hHeld2 => ?_)
              · (try dsimp only); first | go_keep | exact q.1.1 | exact kst _ q.1.1
              clear hK K hHeld
              have hHeld := hHeld2
              clear hHeld2
              try simp only [Act.put, List.setIfInBounds_toArray, List.set_cons_zero, List.set_cons_succ]
              refine wpAnyH_take (i := 12) (oi := { dst := some 60, op := Op.indexAddr 22 (Operand.tmp 57) (Operand.tmp 59), type := 0, pos := "drat.go:74", after := #[{ on := 9, ground := Ground.data }, { on := 11, ground := Ground.data }], guard := none }) (v := ?_) rfl (by kernel_rfl) (by kernel_rfl) (by kernel_rfl) (fun _ _ _ h => h) (Or.inl ⟨by rfl, ?_⟩) (by assumption) ?_
              rotate_left
              · intro w hSw; (try dsimp only at hSw); go_simp; all_goals with_reducible rfl
              try simp only [Act.put, List.setIfInBounds_toArray, List.set_cons_zero, List.set_cons_succ]
              refine wpAnyH_ready (rs := [13]) (by kernel_rfl) (by simp) ?_
              refine AllReadyH.cons (o := { dst := some 61, op := Op.load 33 (Operand.tmp 60), type := 33, pos := "drat.go:74", after := #[{ on := 12, ground := Ground.data }], guard := none }) rfl (fun K hK => ?_) ?_
              · go_simp
                refine hK.out _ _ ?_ (fun hHeld2 => ?_)
                · (try dsimp only); first | go_keep | exact q.1.1 | exact kst _ q.1.1
                clear hK K hHeld
                have hHeld := hHeld2
                clear hHeld2
                try simp only [Act.put, List.setIfInBounds_toArray, List.set_cons_zero, List.set_cons_succ]
                refine wpAnyH_ready (rs := [16]) (by kernel_rfl) (by simp) ?_
                refine AllReadyH.cons (o := { dst := some 64, op := Op.call { callee := Callee.builtin Builtin.append, args := #[Operand.tmp 61, Operand.tmp 63], argTypes := #[33, 33] }, type := 33, pos := "drat.go:74", after := #[{ on := 13, ground := Ground.data }, { on := 15, ground := Ground.data }, { on := 11, ground := Ground.chain }], guard := none }) rfl (fun K hK => ?_) ?_
                · refine step_append_lies _ (by rfl) _ _ _ (by rfl) cx.lo 3 i0 _ 1 8 Tryd.underlying33 hi0 hz0 hz1 hz2 rfl (by decide) hvv _ _ (by rfl) ((own2.alloc _).drew) ⟨wr.heap.size, 0, none⟩ 1 1 [.int .i64 (S.n : Int)] (by rfl) (by rfl) (World.news_of_block (cs := #[.int .i64 (S.n : Int)]) (t := 3) (fr := (0, 0)) (heap_alloc_new wr _)) (by simp [Value.oneCell']) (by decide) (by unfold maxLen; omega) (by omega) (by simp; omega) (wr.heap.size + 1) (by simp) ?_
                  intro gg cp w7 hown7 hgrow hat hlt
                  have q := key _ gg cp w7 hown7 hgrow hat hlt
                  have qf := q.1.2.2
                  refine hK.out _ _ ?_ (fun hHeld2 => ?_)
                  · (try dsimp only); first | go_keep | exact q.1.1 | exact kst _ q.1.1
                  clear hK K hHeld
                  have hHeld := hHeld2
                  clear hHeld2
                  try simp only [Act.put, List.setIfInBounds_toArray, List.set_cons_zero, List.set_cons_succ]
                  refine wpAnyH_take (i := 17) (oi := { dst := some 65, op := Op.indexAddr 22 (Operand.tmp 51) (Operand.tmp 53), type := 0, pos := "drat.go:74", after := #[{ on := 3, ground := Ground.data }, { on := 5, ground := Ground.data }, { on := 0, ground := Ground.phase }, { on := 1, ground := Ground.phase }, { on := 2, ground := Ground.phase }, { on := 3, ground := Ground.phase }, { on := 4, ground := Ground.phase }, { on := 5, ground := Ground.phase }, { on := 6, ground := Ground.phase }, { on := 7, ground := Ground.phase }, { on := 8, ground := Ground.phase }, { on := 9, ground := Ground.phase }, { on := 10, ground := Ground.phase }, { on := 11, ground := Ground.phase }, { on := 12, ground := Ground.phase }, { on := 13, ground := Ground.phase }, { on := 14, ground := Ground.phase }, { on := 15, ground := Ground.phase }, { on := 16, ground := Ground.phase }], guard := none }) (v := ?_) rfl (by kernel_rfl) (by kernel_rfl) (by kernel_rfl) (fun _ _ _ h => h) (Or.inl ⟨by rfl, ?_⟩) (by assumption) ?_
                  rotate_left
                  · intro w hSw; (try dsimp only at hSw); go_simp; all_goals with_reducible rfl
                  try simp only [Act.put, List.setIfInBounds_toArray, List.set_cons_zero, List.set_cons_succ]
                  refine wpAnyH_ready (rs := [18]) (by kernel_rfl) (by simp) ?_
                  refine AllReadyH.cons (o := { dst := none, op := Op.store 33 (Operand.tmp 65) (Operand.tmp 64), type := 0, pos := "drat.go:74", after := #[{ on := 17, ground := Ground.data }, { on := 16, ground := Ground.data }, { on := 16, ground := Ground.chain }, { on := 0, ground := Ground.phase }, { on := 1, ground := Ground.phase }, { on := 2, ground := Ground.phase }, { on := 3, ground := Ground.phase }, { on := 4, ground := Ground.phase }, { on := 5, ground := Ground.phase }, { on := 6, ground := Ground.phase }, { on := 7, ground := Ground.phase }, { on := 8, ground := Ground.phase }, { on := 9, ground := Ground.phase }, { on := 10, ground := Ground.phase }, { on := 11, ground := Ground.phase }, { on := 12, ground := Ground.phase }, { on := 13, ground := Ground.phase }, { on := 14, ground := Ground.phase }, { on := 15, ground := Ground.phase }, { on := 16, ground := Ground.phase }], guard := none }) rfl (fun K hK => ?_) ?_
                  · go_simp
                    refine hK.out _ _ ?_ (fun hHeld2 => ?_)
                    · (try dsimp only); first | go_keep | exact q.1.1 | exact kst _ q.1.1
                    clear hK K hHeld
                    have hHeld := hHeld2
                    clear hHeld2
                    try simp only [Act.put, List.setIfInBounds_toArray, List.set_cons_zero, List.set_cons_succ]
                    refine wpAnyH_done (by kernel_rfl) ?_ _
                    refine NoPanic.normal ?_
                    go_wp2_with fail
                    go_roundw
                    case rel =>
                      obtain ⟨own7, rv7, q1, q2, q3⟩ := q.2
                      exact ⟨k + 1, own7, rv7, hlt0, (by simp), q1, q2, q3⟩
                    case measure => simp [intOf]; omega
                  exact AllReadyH.nil
                exact AllReadyH.nil
              exact AllReadyH.nil
            exact AllReadyH.nil
          exact AllReadyH.nil
        exact AllReadyH.nil
      · have e0 : k = n := by omega
        have hfull : zs.take k = zs := List.take_of_length_le (by omega)
        rw [hfull] at h6
        have hend : ∀ wz, (∃ own9 rv9, Rep cx wz own9 rv9 (addS S zs) ∧ Frm own own9 w wz) → AddOut cx own (addS S zs) w (.returned (.tuple #[])) wz := fun wz hz => ⟨rfl, hz⟩
        have hnlt : ¬ (k : Int) < n := by omega
        rcases (show n = 0 ∨ n = 1 ∨ 2 ≤ n by omega) with hn0 | hn1 | hn2
        · obtain rfl : zs = [] := List.eq_nil_of_length_eq_zero (hn.trans hn0)
          subst hn0
          have x5 : wr.cell? ⟨cx.xb, 5, none⟩ = some (.int .i64 S.empty) := by
            have := (h6.x.cell 5 (by decide)).1
            rw [hS5, hS3] at this; exact this
          have f5 := (h6.x.cell 5 (by decide)).2
          have hemp : S.empty ≤ S.n := by
            rw [hp.core.em]
            unfold empties
            refine Nat.le_trans (List.length_filter_le _ _) (Nat.le_trans (List.length_filter_le _ _) (Nat.le_of_eq List.length_range))
          have hR : Rep cx (wr.setCell ⟨cx.xb, 5, none⟩ (.int .i64 ((S.empty : Int) + 1))) own6 rv6 (addS S []) := by
            have h7 := h6.setFld (S' := addS S []) (rv' := rv6) (i := 5) (by decide) (.int .i64 ((S.empty : Int) + 1)) (by show Value.int .i64 ((S.empty + 1 : Nat) : Int) = _; simp) (fun j hj hne => by
              match j, hj, hne with
              | 0, _, _ => rfl
              | 1, _, _ => rfl
              | 2, _, _ => rfl
              | 3, _, _ => rfl
              | 4, _, _ => rfl
              | 5, _, hne => exact absurd rfl hne
              | 6, _, _ => rfl
              | 7, _, _ => rfl
              | 8, _, _ => rfl) (fun _ => rfl) (fun _ => rfl) (fun _ => rfl) (by rw [hS5, hS3]; rfl) (by rw [hS5, hS3]; rfl) (fun t ht => .inl ⟨rfl, by rw [hS5, hS3]; cases t <;> rfl, by rw [hS5, hS3]; cases t <;> rfl⟩)
            exact h7
          have hE := hend _ ⟨own6, rv6, hR, hfr6.setCell (p := ⟨cx.xb, 5, none⟩) h6.x.lab _⟩
          clear hR
          go_wp2
          go_end0
          exact hE
        · obtain ⟨a, rfl⟩ : ∃ a, zs = [a] := by
            match zs, hn.trans hn1 with
            | [a], _ => exact ⟨a, rfl⟩
          subst hn1
          obtain ⟨uv, huv⟩ : ∃ u, rv6 .units = u := ⟨_, rfl⟩
          have hu5 : S5.units = S.units := by rw [hS5, hS3]
          have ownU : wr.ownsRow cx.lo 3 1 uv S.units.length (natC S.units) := by
            have e : wr.ownsRow cx.lo 3 1 (rv6 .units) S5.units.length (natC S5.units) := (h6.rows .units rfl).row
            rwa [huv, hu5] at e
          have hu9 : S.units.length ≤ S.n := nodup_len hp.core.ud fun j hj => ((hp.core.un j).1 hj).1
          have x4 : wr.cell? ⟨cx.xb, 4, none⟩ = some uv := by rw [← huv]; exact (h6.x.cell 4 (by decide)).1
          have hlo6 := h6.lo_le
          have hU : ∀ o gg cp w7, w7.ownsRow cx.lo 3 1 (.slice (some ⟨gg, 0, none⟩) (S.units.length + 1) cp) (S.units.length + 1) (natC S.units ++ [.int .i64 (S.n : Int)]) → (wr.alloc o).grownBy w7 uv.ownBlock → (uv.ownBlock = some gg ∨ gg = wr.heap.size + 1) → gg < w7.heap.size →
              (w7.cell? ⟨cx.xb, 4, none⟩ = some uv ∧ w7.frozen? ⟨cx.xb, 4, none⟩ = false) ∧ AddOut cx own (addS S [a]) w (.returned (.tuple #[])) (w7.setCell ⟨cx.xb, 4, none⟩ (.slice (some ⟨gg, 0, none⟩) (S.units.length + 1) cp)) := by
            intro o gg cp w7 a1 a2 a3 a4
            have h7 := h6.alloc o
            have A : AppOut cx.lo (wr.alloc o) .units (rv6 .units) gg cp (S5.units.length + 1) (natC S5.units ++ [.int .i64 (S.n : Int)]) w7 := by
              rw [hu5, huv]
              exact ⟨a1, a2, a3.imp id fun e => e.trans (by simp), a4⟩
            have F := A.facts h7 rfl
            have hx1 := h7.x.keep F.ext fun k hk => F.kept k _ hk (by intro e; cases e)
            have h8 := h7.appUnits (i := S.n) A
            rw [show ({ S5 with has := hasF S.n S.has [a] } : St).units.length = S.units.length by rw [← hu5]] at h8
            refine ⟨⟨(hx1.cell 4 (by decide)).1.trans (congrArg some huv), (hx1.cell 4 (by decide)).2⟩, hend _ ⟨lab own6 gg .units, upd rv6 .units (.slice (some ⟨gg, 0, none⟩) (S.units.length + 1) cp), ?_, ((hfr6.alloc o).trans (A.frm h7 rfl)).setCell (p := ⟨cx.xb, 4, none⟩) (F.ext _ _ h6.x.lab) _⟩⟩
            have e : ({ ({ S5 with has := hasF S.n S.has [a] } : St) with units := ({ S5 with has := hasF S.n S.has [a] } : St).units ++ [S.n] } : St) = addS S [a] := by rw [hS5, hS3]; rfl
            rw [e] at h8
            exact h8
          have cn := fun k => cell_new wr #[.int .i64 (S.n : Int)] 3 (0, 0) k
          clear h6 hfr6 hend hS5 hS3
          go_wp2_with (at_builtin; refine wpList_append_lies _ rfl _ _ 33 rfl cx.lo 3 i0 (.int .i64 0) 1 8 Tryd.underlying33 hi0 hz0 hz1 hz2 rfl (by decide) _ _ _ rfl (ownU.alloc _) ⟨wr.heap.size, 0, none⟩ 1 1 [.int .i64 (S.n : Int)] rfl rfl ?c1 ?c2 (by decide) ?c3 ?c4 ?c5 _ rfl ?_)
          try case c1 =>
            intro j u hj
            rw [add_plain, Nat.zero_add]
            match j, hj with
            | 0, hj => exact (cn 0).trans hj
            | j + 1, hj => simp at hj
          case c2 => first | rfl | (intro u hu; simp at hu; subst hu; rfl)
          case c3 => unfold maxLen; omega
          case c4 => omega
          case c5 => first | omega | (simp; omega)
          intro gg cp w7 hown7 hgrow hat hlt7
          obtain ⟨⟨y1, y2⟩, hE⟩ := hU _ gg cp w7 hown7 hgrow (hat.imp id fun e => e.trans (by simp)) hlt7
          clear hU hown7 hgrow
          go_wp2
          go_end0
          exact hE
        · obtain ⟨a, b, r, rfl⟩ : ∃ a b r, zs = a :: b :: r := by
            match zs, (show 2 ≤ zs.length by omega) with
            | a :: b :: r, _ => exact ⟨a, b, r, rfl⟩
          have hb0 : ((n : Int) == 0) = false := beq_false_of_ne (by omega)
          have hb1' : ((n : Int) == 1) = false := beq_false_of_ne (by omega)
          have hn0I : (0 : Int) < n := by omega
          have hn0N : 0 < n := by omega
          have hn1I : (1 : Int) < n := by omega
          have hl0 := hlz a (by simp)
          have hl1 := hlz b (by simp)
          have hl6 : ({ S5 with has := hasF S.n S.has (a :: b :: r) } : St).lits S.n = a :: b :: r := hl5
          obtain ⟨g, ccap, hcv, hgo6, hccell⟩ := h6.clause (i := S.n) (by rw [hl6]; simp)
          rw [hcl6, hl6, hn] at hcv
          cases hcv
          rw [hl6] at hccell
          have ck0' := (hccell 0 (by simp)).1
          have ck0 : wr.cell? ⟨g, 0, none⟩ = some (.int .i64 a) := ck0'
          clear hccell ck0'
          have hw5 : S5.watch = S.watch := by rw [hS5, hS3]
          have hxw : cx.xb ≠ cx.wb := Rep.apart h6.x.lab h6.wt.lab (by intro e; cases e)
          have hgw : g ≠ cx.wb := Rep.apart hgo6 h6.wt.lab (by intro e; cases e)
          have hw9 : ∀ c, (S.watch c).length ≤ S.n := fun c => nodup_len (hp.wt.wn c) fun j hj => hp.wt.wi c j hj
          have hnd := hrise.nodup
          have hab : codeZ b ≠ codeZ a := fun e => by
            have := codeZ_inj hl1.1 hl0.1 e
            exact (List.nodup_cons.1 hnd).1 (by rw [← this]; simp)
          go_wp2_with fail
          go_cut [] from 8 (fun wx => ∃ own8 rv8, Rep cx wx own8 rv8 { ({ S5 with has := hasF S.n S.has (a :: b :: r) } : St) with watch := upd S.watch (codeZ a) (S.watch (codeZ a) ++ [S.n]) } ∧ Frm own own8 w wx ∧ ∀ t, t ≠ .wr (codeZ a) → rv8 t = rv6 t)
          case first =>
            obtain ⟨c0, hc0⟩ : ∃ c, codeZ a = c := ⟨_, rfl⟩
            have hcV0 : c0 < 2 * cx.V + 2 := by rw [← hc0]; exact codeZ_lt hl0.2
            have hcI0 : (c0 : Int) < (2 * cx.V + 2 : Nat) := by omega
            have hcJ0 : (c0 : Int) < 2 * (cx.V : Int) + 2 := by omega
            have hcZ0 : (0 : Int) ≤ (c0 : Int) := by omega
            have hcd0 := fun u => code_walk a (by omega) (by omega) u
            rw [hc0] at hcd0
            obtain ⟨wl0, hwl0⟩ : ∃ l, S5.watch c0 = l := ⟨_, rfl⟩
            obtain ⟨wv0, hwv0⟩ : ∃ u, rv6 (.wr c0) = u := ⟨_, rfl⟩
            have tb0 : wr.cell? ⟨cx.wb, c0, none⟩ = some wv0 := by rw [← hwv0]; exact (h6.wt.cell c0 hcV0).1
            have x20 : wr.cell? ⟨cx.xb, 2, none⟩ = some (.slice (some ⟨cx.wb, 0, none⟩) (2 * cx.V + 2) cx.wc) := (h6.x.cell 2 (by decide)).1
            have ow0 : wr.ownsRow cx.lo 3 1 wv0 wl0.length (natC wl0) := by
              have e : wr.ownsRow cx.lo 3 1 (rv6 (.wr c0)) (S5.watch c0).length (natC (S5.watch c0)) := (h6.rows (.wr c0) rfl).row
              rwa [hwv0, hwl0] at e
            have tbA0 : ∀ o, (wr.alloc o).cell? ⟨cx.wb, c0, none⟩ = some wv0 := fun o => (World.cell?_alloc_some wr _ o (by rw [tb0]; rfl)).trans tb0
            have tbB0 : ∀ o, (wr.alloc o).drew.cell? ⟨cx.wb, c0, none⟩ = some wv0 := tbA0
            have key0 := h6.watchStage (i := S.n) (j := S.n) hfr6 hcV0 hgo6 ck0 hwv0 hwl0
            have kst0 : ∀ {w1 : World} (u : Value), w1.cell? ⟨cx.xb, 2, none⟩ = some (.slice (some ⟨cx.wb, 0, none⟩) (2 * cx.V + 2) cx.wc) → w1.cell? ⟨g, 0, none⟩ = some (.int .i64 a) → (w1.setCell ⟨cx.wb, c0, none⟩ u).cell? ⟨cx.xb, 2, none⟩ = some (.slice (some ⟨cx.wb, 0, none⟩) (2 * cx.V + 2) cx.wc) ∧ (w1.setCell ⟨cx.wb, c0, none⟩ u).cell? ⟨g, 0, none⟩ = some (.int .i64 a) := fun u e1 e2 =>
              ⟨(World.cell?_setCell_other _ ⟨cx.wb, c0, none⟩ ⟨cx.xb, 2, none⟩ _ (by intro e; injection e; omega)).trans e1, (World.cell?_setCell_other _ ⟨cx.wb, c0, none⟩ ⟨g, 0, none⟩ _ (by intro e; injection e; omega)).trans e2⟩
            have nwa0 := World.new_ne wr _ tb0
            have nwb0 := World.new_ne wr _ ck0
            have nwc0 := World.new_ne wr _ x20
            have hwl9 : wl0.length ≤ S.n := by rw [← hwl0, hw5]; exact hw9 _
            rw [hw5] at hwl0
            have key0' := key0
            rw [show ({ S5 with has := hasF S.n S.has (a :: b :: r) } : St).watch = S.watch from hw5] at key0'
            clear key0
            have key0 := key0'
            clear key0' hend hrise hsame hlz hll hz9 hp hS5 hS3 hm hkl ht hks hh5 hl5 hl6 hg3 hn3 hcl6 hw9 hnd
            refine wp_region_noPanic ?_
            refine wp_region_held_drew (S := (fun w' => w'.cell? ⟨cx.xb, 2, none⟩ = some (.slice (some ⟨cx.wb, 0, none⟩) (2 * cx.V + 2) cx.wc) ∧ w'.cell? ⟨g, 0, none⟩ = some (.int .i64 a))) (by kernel_rfl) ?_ (fun hHeld => ?_)
            · (try dsimp only); first | go_keep | exact ⟨q0.1.1, q0.1.2.1⟩ | exact kst0 _ q0.1.1 q0.1.2.1
            refine wpAnyH_take (i := 0) (oi := { dst := some 69, op := Op.move (Operand.tmp 0), type := 54, pos := "drat.go:82", after := #[], guard := none }) (v := ?_) rfl (by kernel_rfl) (by kernel_rfl) (by kernel_rfl) (fun _ _ _ h => h) (Or.inl ⟨by rfl, ?_⟩) (by assumption) ?_
            rotate_left
            · intro w hSw; (try dsimp only at hSw); go_simp; all_goals with_reducible rfl
            try simp only [Act.put, List.setIfInBounds_toArray, List.set_cons_zero, List.set_cons_succ]
            refine wpAnyH_take (i := 1) (oi := { dst := some 70, op := Op.nilCheck (Operand.tmp 69), type := 0, pos := "drat.go:82", after := #[{ on := 0, ground := Ground.data }], guard := none }) (v := ?_) rfl (by kernel_rfl) (by kernel_rfl) (by kernel_rfl) (fun _ _ _ h => h) (Or.inl ⟨by rfl, ?_⟩) (by assumption) ?_
            rotate_left
            · intro w hSw; (try dsimp only at hSw); go_simp; all_goals with_reducible rfl
            try simp only [Act.put, List.setIfInBounds_toArray, List.set_cons_zero, List.set_cons_succ]
            refine wpAnyH_take (i := 2) (oi := { dst := some 71, op := Op.fieldAddr 60 (Operand.tmp 70) 2, type := 0, pos := "drat.go:82", after := #[{ on := 1, ground := Ground.data }], guard := none }) (v := ?_) rfl (by kernel_rfl) (by kernel_rfl) (by kernel_rfl) (fun _ _ _ h => h) (Or.inl ⟨by rfl, ?_⟩) (by assumption) ?_
            rotate_left
            · intro w hSw; (try dsimp only at hSw); go_simp; all_goals with_reducible rfl
            try simp only [Act.put, List.setIfInBounds_toArray, List.set_cons_zero, List.set_cons_succ]
            refine wpAnyH_take (i := 3) (oi := { dst := some 72, op := Op.load 22 (Operand.tmp 71), type := 22, pos := "drat.go:82", after := #[{ on := 2, ground := Ground.data }], guard := none }) (v := ?_) rfl (by kernel_rfl) (by kernel_rfl) (by kernel_rfl) (fun _ _ _ h => h) (Or.inl ⟨by rfl, ?_⟩) (by assumption) ?_
            rotate_left
            · intro w hSw; (try dsimp only at hSw); go_simp; all_goals with_reducible rfl
            try simp only [Act.put, List.setIfInBounds_toArray, List.set_cons_zero, List.set_cons_succ]
            refine wpAnyH_take (i := 4) (oi := { dst := some 73, op := Op.move (Operand.tmp 1), type := 33, pos := "drat.go:82", after := #[], guard := none }) (v := ?_) rfl (by kernel_rfl) (by kernel_rfl) (by kernel_rfl) (fun _ _ _ h => h) (Or.inl ⟨by rfl, ?_⟩) (by assumption) ?_
            rotate_left
            · intro w hSw; (try dsimp only at hSw); go_simp; all_goals with_reducible rfl
            try simp only [Act.put, List.setIfInBounds_toArray, List.set_cons_zero, List.set_cons_succ]
            refine wpAnyH_take (i := 5) (oi := { dst := some 74, op := Op.indexAddr 33 (Operand.tmp 73) (Operand.const (Value.int IntKind.i64 0)), type := 0, pos := "drat.go:82", after := #[{ on := 4, ground := Ground.data }], guard := none }) (v := ?_) rfl (by kernel_rfl) (by kernel_rfl) (by kernel_rfl) (fun _ _ _ h => h) (Or.inl ⟨by rfl, ?_⟩) (by assumption) ?_
            rotate_left
            · intro w hSw; (try dsimp only at hSw); go_simp; all_goals with_reducible rfl
            try simp only [Act.put, List.setIfInBounds_toArray, List.set_cons_zero, List.set_cons_succ]
            refine wpAnyH_take (i := 6) (oi := { dst := some 75, op := Op.load 3 (Operand.tmp 74), type := 3, pos := "drat.go:82", after := #[{ on := 5, ground := Ground.data }], guard := none }) (v := ?_) rfl (by kernel_rfl) (by kernel_rfl) (by kernel_rfl) (fun _ _ _ h => h) (Or.inl ⟨by rfl, ?_⟩) (by assumption) ?_
            rotate_left
            · intro w hSw; (try dsimp only at hSw); go_simp; all_goals with_reducible rfl
            try simp only [Act.put, List.setIfInBounds_toArray, List.set_cons_zero, List.set_cons_succ]
            refine wpAnyH_take (i := 8) (oi := { dst := some 77, op := Op.move (Operand.tmp 0), type := 54, pos := "drat.go:82", after := #[], guard := none }) (v := ?_) rfl (by kernel_rfl) (by kernel_rfl) (by kernel_rfl) (fun _ _ _ h => h) (Or.inl ⟨by rfl, ?_⟩) (by assumption) ?_
            rotate_left
            · intro w hSw; (try dsimp only at hSw); go_simp; all_goals with_reducible rfl
            try simp only [Act.put, List.setIfInBounds_toArray, List.set_cons_zero, List.set_cons_succ]
            refine wpAnyH_take (i := 9) (oi := { dst := some 78, op := Op.nilCheck (Operand.tmp 77), type := 0, pos := "drat.go:82", after := #[{ on := 8, ground := Ground.data }], guard := none }) (v := ?_) rfl (by kernel_rfl) (by kernel_rfl) (by kernel_rfl) (fun _ _ _ h => h) (Or.inl ⟨by rfl, ?_⟩) (by assumption) ?_
            rotate_left
            · intro w hSw; (try dsimp only at hSw); go_simp; all_goals with_reducible rfl
            try simp only [Act.put, List.setIfInBounds_toArray, List.set_cons_zero, List.set_cons_succ]
            refine wpAnyH_take (i := 10) (oi := { dst := some 79, op := Op.fieldAddr 60 (Operand.tmp 78) 2, type := 0, pos := "drat.go:82", after := #[{ on := 9, ground := Ground.data }], guard := none }) (v := ?_) rfl (by kernel_rfl) (by kernel_rfl) (by kernel_rfl) (fun _ _ _ h => h) (Or.inl ⟨by rfl, ?_⟩) (by assumption) ?_
            rotate_left
            · intro w hSw; (try dsimp only at hSw); go_simp; all_goals with_reducible rfl
            try simp only [Act.put, List.setIfInBounds_toArray, List.set_cons_zero, List.set_cons_succ]
            refine wpAnyH_take (i := 11) (oi := { dst := some 80, op := Op.load 22 (Operand.tmp 79), type := 22, pos := "drat.go:82", after := #[{ on := 10, ground := Ground.data }], guard := none }) (v := ?_) rfl (by kernel_rfl) (by kernel_rfl) (by kernel_rfl) (fun _ _ _ h => h) (Or.inl ⟨by rfl, ?_⟩) (by assumption) ?_
            rotate_left
            · intro w hSw; (try dsimp only at hSw); go_simp; all_goals with_reducible rfl
            try simp only [Act.put, List.setIfInBounds_toArray, List.set_cons_zero, List.set_cons_succ]
            refine wpAnyH_take (i := 12) (oi := { dst := some 81, op := Op.move (Operand.tmp 1), type := 33, pos := "drat.go:82", after := #[], guard := none }) (v := ?_) rfl (by kernel_rfl) (by kernel_rfl) (by kernel_rfl) (fun _ _ _ h => h) (Or.inl ⟨by rfl, ?_⟩) (by assumption) ?_
            rotate_left
            · intro w hSw; (try dsimp only at hSw); go_simp; all_goals with_reducible rfl
            try simp only [Act.put, List.setIfInBounds_toArray, List.set_cons_zero, List.set_cons_succ]
            refine wpAnyH_take (i := 13) (oi := { dst := some 82, op := Op.indexAddr 33 (Operand.tmp 81) (Operand.const (Value.int IntKind.i64 0)), type := 0, pos := "drat.go:82", after := #[{ on := 12, ground := Ground.data }], guard := none }) (v := ?_) rfl (by kernel_rfl) (by kernel_rfl) (by kernel_rfl) (fun _ _ _ h => h) (Or.inl ⟨by rfl, ?_⟩) (by assumption) ?_
            rotate_left
            · intro w hSw; (try dsimp only at hSw); go_simp; all_goals with_reducible rfl
            try simp only [Act.put, List.setIfInBounds_toArray, List.set_cons_zero, List.set_cons_succ]
            refine wpAnyH_take (i := 14) (oi := { dst := some 83, op := Op.load 3 (Operand.tmp 82), type := 3, pos := "drat.go:82", after := #[{ on := 13, ground := Ground.data }], guard := none }) (v := ?_) rfl (by kernel_rfl) (by kernel_rfl) (by kernel_rfl) (fun _ _ _ h => h) (Or.inl ⟨by rfl, ?_⟩) (by assumption) ?_
            rotate_left
            · intro w hSw; (try dsimp only at hSw); go_simp; all_goals with_reducible rfl
            try simp only [Act.put, List.setIfInBounds_toArray, List.set_cons_zero, List.set_cons_succ]
            refine wpAnyH_take (i := 18) (oi := { dst := some 87, op := Op.move (Operand.tmp 4), type := 3, pos := "drat.go:82", after := #[], guard := none }) (v := ?_) rfl (by kernel_rfl) (by kernel_rfl) (by kernel_rfl) (fun _ _ _ h => h) (Or.inl ⟨by rfl, ?_⟩) (by assumption) ?_
            rotate_left
            · intro w hSw; (try dsimp only at hSw); go_simp; all_goals with_reducible rfl
            try simp only [Act.put, List.setIfInBounds_toArray, List.set_cons_zero, List.set_cons_succ]
            refine wpAnyH_ready (rs := [7, 19]) (by kernel_rfl) (by simp) ?_
            refine AllReadyH.cons (o := { dst := some 76, op := Op.call { callee := Callee.value (Operand.func 38), args := #[Operand.tmp 75], argTypes := #[3] }, type := 3, pos := "drat.go:82", after := #[{ on := 6, ground := Ground.data }], guard := none }) rfl (fun K hK => ?_) ?_
            · go_simp
              go_at_call 38; refine (hcd0 _).mono ?_; rintro e w' ⟨p1, p2⟩; rw [p1, p2]; clear p1 p2
              go_wp2_with fail
              refine hK.out _ _ ?_ (fun hHeld2 => ?_)
              · (try dsimp only); first | go_keep | exact ⟨q0.1.1, q0.1.2.1⟩ | exact kst0 _ q0.1.1 q0.1.2.1
              clear hK K hHeld
              have hHeld := hHeld2
              clear hHeld2
              try simp only [Act.put, List.setIfInBounds_toArray, List.set_cons_zero, List.set_cons_succ]
              refine wpAnyH_ready (rs := [15, 19]) (by kernel_rfl) (by simp) ?_
              refine AllReadyH.cons (o := { dst := some 84, op := Op.call { callee := Callee.value (Operand.func 38), args := #[Operand.tmp 83], argTypes := #[3] }, type := 3, pos := "drat.go:82", after := #[{ on := 14, ground := Ground.data }, { on := 7, ground := Ground.chain }], guard := none }) rfl (fun K hK => ?_) ?_
              · go_simp
                go_at_call 38; refine (hcd0 _).mono ?_; rintro e w' ⟨p1, p2⟩; rw [p1, p2]; clear p1 p2
                go_wp2_with fail
                refine hK.out _ _ ?_ (fun hHeld2 => ?_)
                · (try dsimp only); first | go_keep | exact ⟨q0.1.1, q0.1.2.1⟩ | exact kst0 _ q0.1.1 q0.1.2.1
                clear hK K hHeld
                have hHeld := hHeld2
                clear hHeld2
                try simp only [Act.put, List.setIfInBounds_toArray, List.set_cons_zero, List.set_cons_succ]
                refine wpAnyH_take (i := 16) (oi := { dst := some 85, op := Op.indexAddr 22 (Operand.tmp 80) (Operand.tmp 84), type := 0, pos := "drat.go:82", after := #[{ on := 11, ground := Ground.data }, { on := 15, ground := Ground.data }], guard := none }) (v := ?_) rfl (by kernel_rfl) (by kernel_rfl) (by kernel_rfl) (fun _ _ _ h => h) (Or.inl ⟨by rfl, ?_⟩) (by assumption) ?_
                rotate_left
                · intro w hSw; (try dsimp only at hSw); go_simp; all_goals with_reducible rfl
                try simp only [Act.put, List.setIfInBounds_toArray, List.set_cons_zero, List.set_cons_succ]
                refine wpAnyH_ready (rs := [17, 19]) (by kernel_rfl) (by simp) ?_
                refine AllReadyH.cons (o := { dst := some 86, op := Op.load 33 (Operand.tmp 85), type := 33, pos := "drat.go:82", after := #[{ on := 16, ground := Ground.data }], guard := none }) rfl (fun K hK => ?_) ?_
                · go_simp
                  refine hK.out _ _ ?_ (fun hHeld2 => ?_)
                  · (try dsimp only); first | go_keep | exact ⟨q0.1.1, q0.1.2.1⟩ | exact kst0 _ q0.1.1 q0.1.2.1
                  clear hK K hHeld
                  have hHeld := hHeld2
                  clear hHeld2
                  try simp only [Act.put, List.setIfInBounds_toArray, List.set_cons_zero, List.set_cons_succ]
                  refine wpAnyH_ready (rs := [19]) (by kernel_rfl) (by simp) ?_
                  refine AllReadyH.cons (o := { dst := some 88, op := Op.buildSlice 33 1 #[(0, Operand.tmp 87)], type := 33, pos := "drat.go:82", after := #[{ on := 18, ground := Ground.data }], guard := none }) rfl (fun K hK => ?_) ?_
                  · go_simp
                    refine hK.out _ _ ?_ (fun hHeld2 => ?_)
                    · (try dsimp only); first | go_keep | exact ⟨q0.1.1, q0.1.2.1⟩ | exact kst0 _ q0.1.1 q0.1.2.1
                    clear hK K hHeld
                    have hHeld := hHeld2
                    clear hHeld2
                    try simp only [Act.put, List.setIfInBounds_toArray, List.set_cons_zero, List.set_cons_succ]
                    refine wpAnyH_ready (rs := [20]) (by kernel_rfl) (by simp) ?_
                    refine AllReadyH.cons (o := { dst := some 89, op := Op.call { callee := Callee.builtin Builtin.append, args := #[Operand.tmp 86, Operand.tmp 88], argTypes := #[33, 33] }, type := 33, pos := "drat.go:82", after := #[{ on := 17, ground := Ground.data }, { on := 19, ground := Ground.data }, { on := 15, ground := Ground.chain }], guard := none }) rfl (fun K hK => ?_) ?_
                    · refine step_append_lies _ (by rfl) _ _ _ (by rfl) cx.lo 3 i0 _ 1 8 Tryd.underlying33 hi0 hz0 hz1 hz2 rfl (by decide) wv0 _ _ (by rfl) ((ow0.alloc _).drew) ⟨wr.heap.size, 0, none⟩ 1 1 [.int .i64 (S.n : Int)] (by rfl) (by rfl) (World.news_of_block (cs := #[.int .i64 (S.n : Int)]) (t := 3) (fr := (0, 0)) (heap_alloc_new wr _)) (by simp [Value.oneCell']) (by decide) (by unfold maxLen; omega) (by omega) (by have := h6.lo_le; simp; omega) (wr.heap.size + 1) (by simp) ?_
                      intro gg cp w9 hown9 hgrow hat hlt9
                      have q0 := key0 _ gg cp w9 hown9 hgrow hat hlt9
                      have kf := q0.1.2.2.2
                      refine hK.out _ _ ?_ (fun hHeld2 => ?_)
                      · (try dsimp only); first | go_keep | exact ⟨q0.1.1, q0.1.2.1⟩ | exact kst0 _ q0.1.1 q0.1.2.1
                      clear hK K hHeld
                      have hHeld := hHeld2
                      clear hHeld2
                      try simp only [Act.put, List.setIfInBounds_toArray, List.set_cons_zero, List.set_cons_succ]
                      refine wpAnyH_take (i := 21) (oi := { dst := some 90, op := Op.indexAddr 22 (Operand.tmp 72) (Operand.tmp 76), type := 0, pos := "drat.go:82", after := #[{ on := 3, ground := Ground.data }, { on := 7, ground := Ground.data }, { on := 0, ground := Ground.phase }, { on := 1, ground := Ground.phase }, { on := 2, ground := Ground.phase }, { on := 3, ground := Ground.phase }, { on := 4, ground := Ground.phase }, { on := 5, ground := Ground.phase }, { on := 6, ground := Ground.phase }, { on := 7, ground := Ground.phase }, { on := 8, ground := Ground.phase }, { on := 9, ground := Ground.phase }, { on := 10, ground := Ground.phase }, { on := 11, ground := Ground.phase }, { on := 12, ground := Ground.phase }, { on := 13, ground := Ground.phase }, { on := 14, ground := Ground.phase }, { on := 15, ground := Ground.phase }, { on := 16, ground := Ground.phase }, { on := 17, ground := Ground.phase }, { on := 18, ground := Ground.phase }, { on := 19, ground := Ground.phase }, { on := 20, ground := Ground.phase }], guard := none }) (v := ?_) rfl (by kernel_rfl) (by kernel_rfl) (by kernel_rfl) (fun _ _ _ h => h) (Or.inl ⟨by rfl, ?_⟩) (by assumption) ?_
                      rotate_left
                      · intro w hSw; (try dsimp only at hSw); go_simp; all_goals with_reducible rfl
                      try simp only [Act.put, List.setIfInBounds_toArray, List.set_cons_zero, List.set_cons_succ]
                      refine wpAnyH_ready (rs := [22]) (by kernel_rfl) (by simp) ?_
                      refine AllReadyH.cons (o := { dst := none, op := Op.store 33 (Operand.tmp 90) (Operand.tmp 89), type := 0, pos := "drat.go:82", after := #[{ on := 21, ground := Ground.data }, { on := 20, ground := Ground.data }, { on := 20, ground := Ground.chain }, { on := 0, ground := Ground.phase }, { on := 1, ground := Ground.phase }, { on := 2, ground := Ground.phase }, { on := 3, ground := Ground.phase }, { on := 4, ground := Ground.phase }, { on := 5, ground := Ground.phase }, { on := 6, ground := Ground.phase }, { on := 7, ground := Ground.phase }, { on := 8, ground := Ground.phase }, { on := 9, ground := Ground.phase }, { on := 10, ground := Ground.phase }, { on := 11, ground := Ground.phase }, { on := 12, ground := Ground.phase }, { on := 13, ground := Ground.phase }, { on := 14, ground := Ground.phase }, { on := 15, ground := Ground.phase }, { on := 16, ground := Ground.phase }, { on := 17, ground := Ground.phase }, { on := 18, ground := Ground.phase }, { on := 19, ground := Ground.phase }, { on := 20, ground := Ground.phase }], guard := none }) rfl (fun K hK => ?_) ?_
                      · go_simp
                        refine hK.out _ _ ?_ (fun hHeld2 => ?_)
                        · (try dsimp only); first | go_keep | exact ⟨q0.1.1, q0.1.2.1⟩ | exact kst0 _ q0.1.1 q0.1.2.1
                        clear hK K hHeld
                        have hHeld := hHeld2
                        clear hHeld2
                        try simp only [Act.put, List.setIfInBounds_toArray, List.set_cons_zero, List.set_cons_succ]
                        refine wpAnyH_done (by kernel_rfl) ?_ _
                        refine NoPanic.normal ?_
                        go_wp2_with fail
                        go_meet
                        case rel =>
                          obtain ⟨own8, rv8, q1, q2, q3⟩ := q0.2; rw [hc0]
                          exact ⟨own8, rv8, q1, q2, fun t ht => q3 t ht⟩
                      exact AllReadyH.nil
                    exact AllReadyH.nil
                  exact AllReadyH.nil
                refine AllReadyH.cons (o := { dst := some 88, op := Op.buildSlice 33 1 #[(0, Operand.tmp 87)], type := 33, pos := "drat.go:82", after := #[{ on := 18, ground := Ground.data }], guard := none }) rfl (fun K hK => ?_) ?_
                · go_simp
                  refine hK.out _ _ ?_ (fun hHeld2 => ?_)
                  · (try dsimp only); first | go_keep | exact ⟨q0.1.1, q0.1.2.1⟩ | exact kst0 _ q0.1.1 q0.1.2.1
                  clear hK K hHeld
                  have hHeld := hHeld2
                  clear hHeld2
                  try simp only [Act.put, List.setIfInBounds_toArray, List.set_cons_zero, List.set_cons_succ]
                  refine wpAnyH_ready (rs := [17]) (by kernel_rfl) (by simp) ?_
                  refine AllReadyH.cons (o := { dst := some 86, op := Op.load 33 (Operand.tmp 85), type := 33, pos := "drat.go:82", after := #[{ on := 16, ground := Ground.data }], guard := none }) rfl (fun K hK => ?_) ?_
                  · go_simp
                    refine hK.out _ _ ?_ (fun hHeld2 => ?_)
                    · (try dsimp only); first | go_keep | exact ⟨q0.1.1, q0.1.2.1⟩ | exact kst0 _ q0.1.1 q0.1.2.1
                    clear hK K hHeld
                    have hHeld := hHeld2
                    clear hHeld2
                    try simp only [Act.put, List.setIfInBounds_toArray, List.set_cons_zero, List.set_cons_succ]
                    refine wpAnyH_ready (rs := [20]) (by kernel_rfl) (by simp) ?_
                    refine AllReadyH.cons (o := { dst := some 89, op := Op.call { callee := Callee.builtin Builtin.append, args := #[Operand.tmp 86, Operand.tmp 88], argTypes := #[33, 33] }, type := 33, pos := "drat.go:82", after := #[{ on := 17, ground := Ground.data }, { on := 19, ground := Ground.data }, { on := 15, ground := Ground.chain }], guard := none }) rfl (fun K hK => ?_) ?_
                    · refine step_append_lies _ (by rfl) _ _ _ (by rfl) cx.lo 3 i0 _ 1 8 Tryd.underlying33 hi0 hz0 hz1 hz2 rfl (by decide) wv0 _ _ (by rfl) ((ow0.alloc _).drew) ⟨wr.heap.size, 0, none⟩ 1 1 [.int .i64 (S.n : Int)] (by rfl) (by rfl) (World.news_of_block (cs := #[.int .i64 (S.n : Int)]) (t := 3) (fr := (0, 0)) (heap_alloc_new wr _)) (by simp [Value.oneCell']) (by decide) (by unfold maxLen; omega) (by omega) (by have := h6.lo_le; simp; omega) (wr.heap.size + 1) (by simp) ?_
                      intro gg cp w9 hown9 hgrow hat hlt9
                      have q0 := key0 _ gg cp w9 hown9 hgrow hat hlt9
                      have kf := q0.1.2.2.2
                      refine hK.out _ _ ?_ (fun hHeld2 => ?_)
                      · (try dsimp only); first | go_keep | exact ⟨q0.1.1, q0.1.2.1⟩ | exact kst0 _ q0.1.1 q0.1.2.1
                      clear hK K hHeld
                      have hHeld := hHeld2
                      clear hHeld2
                      try simp only [Act.put, List.setIfInBounds_toArray, List.set_cons_zero, List.set_cons_succ]
                      refine wpAnyH_take (i := 21) (oi := { dst := some 90, op := Op.indexAddr 22 (Operand.tmp 72) (Operand.tmp 76), type := 0, pos := "drat.go:82", after := #[{ on := 3, ground := Ground.data }, { on := 7, ground := Ground.data }, { on := 0, ground := Ground.phase }, { on := 1, ground := Ground.phase }, { on := 2, ground := Ground.phase }, { on := 3, ground := Ground.phase }, { on := 4, ground := Ground.phase }, { on := 5, ground := Ground.phase }, { on := 6, ground := Ground.phase }, { on := 7, ground := Ground.phase }, { on := 8, ground := Ground.phase }, { on := 9, ground := Ground.phase }, { on := 10, ground := Ground.phase }, { on := 11, ground := Ground.phase }, { on := 12, ground := Ground.phase }, { on := 13, ground := Ground.phase }, { on := 14, ground := Ground.phase }, { on := 15, ground := Ground.phase }, { on := 16, ground := Ground.phase }, { on := 17, ground := Ground.phase }, { on := 18, ground := Ground.phase }, { on := 19, ground := Ground.phase }, { on := 20, ground := Ground.phase }], guard := none }) (v := ?_) rfl (by kernel_rfl) (by kernel_rfl) (by kernel_rfl) (fun _ _ _ h => h) (Or.inl ⟨by rfl, ?_⟩) (by assumption) ?_
                      rotate_left
                      · intro w hSw; (try dsimp only at hSw); go_simp; all_goals with_reducible rfl
                      try simp only [Act.put, List.setIfInBounds_toArray, List.set_cons_zero, List.set_cons_succ]
                      refine wpAnyH_ready (rs := [22]) (by kernel_rfl) (by simp) ?_
                      refine AllReadyH.cons (o := { dst := none, op := Op.store 33 (Operand.tmp 90) (Operand.tmp 89), type := 0, pos := "drat.go:82", after := #[{ on := 21, ground := Ground.data }, { on := 20, ground := Ground.data }, { on := 20, ground := Ground.chain }, { on := 0, ground := Ground.phase }, { on := 1, ground := Ground.phase }, { on := 2, ground := Ground.phase }, { on := 3, ground := Ground.phase }, { on := 4, ground := Ground.phase }, { on := 5, ground := Ground.phase }, { on := 6, ground := Ground.phase }, { on := 7, ground := Ground.phase }, { on := 8, ground := Ground.phase }, { on := 9, ground := Ground.phase }, { on := 10, ground := Ground.phase }, { on := 11, ground := Ground.phase }, { on := 12, ground := Ground.phase }, { on := 13, ground := Ground.phase }, { on := 14, ground := Ground.phase }, { on := 15, ground := Ground.phase }, { on := 16, ground := Ground.phase }, { on := 17, ground := Ground.phase }, { on := 18, ground := Ground.phase }, { on := 19, ground := Ground.phase }, { on := 20, ground := Ground.phase }], guard := none }) rfl (fun K hK => ?_) ?_
                      · go_simp
                        refine hK.out _ _ ?_ (fun hHeld2 => ?_)
                        · (try dsimp only); first | go_keep | exact ⟨q0.1.1, q0.1.2.1⟩ | exact kst0 _ q0.1.1 q0.1.2.1
                        clear hK K hHeld
                        have hHeld := hHeld2
                        clear hHeld2
                        try simp only [Act.put, List.setIfInBounds_toArray, List.set_cons_zero, List.set_cons_succ]
                        refine wpAnyH_done (by kernel_rfl) ?_ _
                        refine NoPanic.normal ?_
                        go_wp2_with fail
                        go_meet
                        case rel =>
                          obtain ⟨own8, rv8, q1, q2, q3⟩ := q0.2; rw [hc0]
                          exact ⟨own8, rv8, q1, q2, fun t ht => q3 t ht⟩
                      exact AllReadyH.nil
                    exact AllReadyH.nil
                  exact AllReadyH.nil
                exact AllReadyH.nil
              refine AllReadyH.cons (o := { dst := some 88, op := Op.buildSlice 33 1 #[(0, Operand.tmp 87)], type := 33, pos := "drat.go:82", after := #[{ on := 18, ground := Ground.data }], guard := none }) rfl (fun K hK => ?_) ?_
              · go_simp
                refine hK.out _ _ ?_ (fun hHeld2 => ?_)
                · (try dsimp only); first | go_keep | exact ⟨q0.1.1, q0.1.2.1⟩ | exact kst0 _ q0.1.1 q0.1.2.1
                clear hK K hHeld
                have hHeld := hHeld2
                clear hHeld2
                try simp only [Act.put, List.setIfInBounds_toArray, List.set_cons_zero, List.set_cons_succ]
                refine wpAnyH_ready (rs := [15]) (by kernel_rfl) (by simp) ?_
                refine AllReadyH.cons (o := { dst := some 84, op := Op.call { callee := Callee.value (Operand.func 38), args := #[Operand.tmp 83], argTypes := #[3] }, type := 3, pos := "drat.go:82", after := #[{ on := 14, ground := Ground.data }, { on := 7, ground := Ground.chain }], guard := none }) rfl (fun K hK => ?_) ?_
                · go_simp
                  go_at_call 38; refine (hcd0 _).mono ?_; rintro e w' ⟨p1, p2⟩; rw [p1, p2]; clear p1 p2
                  go_wp2_with fail
                  refine hK.out _ _ ?_ (fun hHeld2 => ?_)
                  · (try dsimp only); first | go_keep | exact ⟨q0.1.1, q0.1.2.1⟩ | exact kst0 _ q0.1.1 q0.1.2.1
                  clear hK K hHeld
                  have hHeld := hHeld2
                  clear hHeld2
                  try simp only [Act.put, List.setIfInBounds_toArray, List.set_cons_zero, List.set_cons_succ]
                  refine wpAnyH_take (i := 16) (oi := { dst := some 85, op := Op.indexAddr 22 (Operand.tmp 80) (Operand.tmp 84), type := 0, pos := "drat.go:82", after := #[{ on := 11, ground := Ground.data }, { on := 15, ground := Ground.data }], guard := none }) (v := ?_) rfl (by kernel_rfl) (by kernel_rfl) (by kernel_rfl) (fun _ _ _ h => h) (Or.inl ⟨by rfl, ?_⟩) (by assumption) ?_
                  rotate_left
                  · intro w hSw; (try dsimp only at hSw); go_simp; all_goals with_reducible rfl
                  try simp only [Act.put, List.setIfInBounds_toArray, List.set_cons_zero, List.set_cons_succ]
                  refine wpAnyH_ready (rs := [17]) (by kernel_rfl) (by simp) ?_
                  refine AllReadyH.cons (o := { dst := some 86, op := Op.load 33 (Operand.tmp 85), type := 33, pos := "drat.go:82", after := #[{ on := 16, ground := Ground.data }], guard := none }) rfl (fun K hK => ?_) ?_
                  · go_simp
                    refine hK.out _ _ ?_ (fun hHeld2 => ?_)
                    · (try dsimp only); first | go_keep | exact ⟨q0.1.1, q0.1.2.1⟩ | exact kst0 _ q0.1.1 q0.1.2.1
                    clear hK K hHeld
                    have hHeld := hHeld2
                    clear hHeld2
                    try simp only [Act.put, List.setIfInBounds_toArray, List.set_cons_zero, List.set_cons_succ]
                    refine wpAnyH_ready (rs := [20]) (by kernel_rfl) (by simp) ?_
                    refine AllReadyH.cons (o := { dst := some 89, op := Op.call { callee := Callee.builtin Builtin.append, args := #[Operand.tmp 86, Operand.tmp 88], argTypes := #[33, 33] }, type := 33, pos := "drat.go:82", after := #[{ on := 17, ground := Ground.data }, { on := 19, ground := Ground.data }, { on := 15, ground := Ground.chain }], guard := none }) rfl (fun K hK => ?_) ?_
                    · refine step_append_lies _ (by rfl) _ _ _ (by rfl) cx.lo 3 i0 _ 1 8 Tryd.underlying33 hi0 hz0 hz1 hz2 rfl (by decide) wv0 _ _ (by rfl) ((ow0.alloc _).drew) ⟨wr.heap.size, 0, none⟩ 1 1 [.int .i64 (S.n : Int)] (by rfl) (by rfl) (World.news_of_block (cs := #[.int .i64 (S.n : Int)]) (t := 3) (fr := (0, 0)) (heap_alloc_new wr _)) (by simp [Value.oneCell']) (by decide) (by unfold maxLen; omega) (by omega) (by have := h6.lo_le; simp; omega) (wr.heap.size + 1) (by simp) ?_
                      intro gg cp w9 hown9 hgrow hat hlt9
                      have q0 := key0 _ gg cp w9 hown9 hgrow hat hlt9
                      have kf := q0.1.2.2.2
                      refine hK.out _ _ ?_ (fun hHeld2 => ?_)
                      · (try dsimp only); first | go_keep | exact ⟨q0.1.1, q0.1.2.1⟩ | exact kst0 _ q0.1.1 q0.1.2.1
                      clear hK K hHeld
                      have hHeld := hHeld2
                      clear hHeld2
                      try simp only [Act.put, List.setIfInBounds_toArray, List.set_cons_zero, List.set_cons_succ]
                      refine wpAnyH_take (i := 21) (oi := { dst := some 90, op := Op.indexAddr 22 (Operand.tmp 72) (Operand.tmp 76), type := 0, pos := "drat.go:82", after := #[{ on := 3, ground := Ground.data }, { on := 7, ground := Ground.data }, { on := 0, ground := Ground.phase }, { on := 1, ground := Ground.phase }, { on := 2, ground := Ground.phase }, { on := 3, ground := Ground.phase }, { on := 4, ground := Ground.phase }, { on := 5, ground := Ground.phase }, { on := 6, ground := Ground.phase }, { on := 7, ground := Ground.phase }, { on := 8, ground := Ground.phase }, { on := 9, ground := Ground.phase }, { on := 10, ground := Ground.phase }, { on := 11, ground := Ground.phase }, { on := 12, ground := Ground.phase }, { on := 13, ground := Ground.phase }, { on := 14, ground := Ground.phase }, { on := 15, ground := Ground.phase }, { on := 16, ground := Ground.phase }, { on := 17, ground := Ground.phase }, { on := 18, ground := Ground.phase }, { on := 19, ground := Ground.phase }, { on := 20, ground := Ground.phase }], guard := none }) (v := ?_) rfl (by kernel_rfl) (by kernel_rfl) (by kernel_rfl) (fun _ _ _ h => h) (Or.inl ⟨by rfl, ?_⟩) (by assumption) ?_
                      rotate_left
                      · intro w hSw; (try dsimp only at hSw); go_simp; all_goals with_reducible rfl
                      try simp only [Act.put, List.setIfInBounds_toArray, List.set_cons_zero, List.set_cons_succ]
                      refine wpAnyH_ready (rs := [22]) (by kernel_rfl) (by simp) ?_
                      refine AllReadyH.cons (o := { dst := none, op := Op.store 33 (Operand.tmp 90) (Operand.tmp 89), type := 0, pos := "drat.go:82", after := #[{ on := 21, ground := Ground.data }, { on := 20, ground := Ground.data }, { on := 20, ground := Ground.chain }, { on := 0, ground := Ground.phase }, { on := 1, ground := Ground.phase }, { on := 2, ground := Ground.phase }, { on := 3, ground := Ground.phase }, { on := 4, ground := Ground.phase }, { on := 5, ground := Ground.phase }, { on := 6, ground := Ground.phase }, { on := 7, ground := Ground.phase }, { on := 8, ground := Ground.phase }, { on := 9, ground := Ground.phase }, { on := 10, ground := Ground.phase }, { on := 11, ground := Ground.phase }, { on := 12, ground := Ground.phase }, { on := 13, ground := Ground.phase }, { on := 14, ground := Ground.phase }, { on := 15, ground := Ground.phase }, { on := 16, ground := Ground.phase }, { on := 17, ground := Ground.phase }, { on := 18, ground := Ground.phase }, { on := 19, ground := Ground.phase }, { on := 20, ground := Ground.phase }], guard := none }) rfl (fun K hK => ?_) ?_
                      · go_simp
                        refine hK.out _ _ ?_ (fun hHeld2 => ?_)
                        · (try dsimp only); first | go_keep | exact ⟨q0.1.1, q0.1.2.1⟩ | exact kst0 _ q0.1.1 q0.1.2.1
                        clear hK K hHeld
                        have hHeld := hHeld2
                        clear hHeld2
                        try simp only [Act.put, List.setIfInBounds_toArray, List.set_cons_zero, List.set_cons_succ]
                        refine wpAnyH_done (by kernel_rfl) ?_ _
                        refine NoPanic.normal ?_
                        go_wp2_with fail
                        go_meet
                        case rel =>
                          obtain ⟨own8, rv8, q1, q2, q3⟩ := q0.2; rw [hc0]
                          exact ⟨own8, rv8, q1, q2, fun t ht => q3 t ht⟩
                      exact AllReadyH.nil
                    exact AllReadyH.nil
                  exact AllReadyH.nil
                exact AllReadyH.nil
              exact AllReadyH.nil
            refine AllReadyH.cons (o := { dst := some 88, op := Op.buildSlice 33 1 #[(0, Operand.tmp 87)], type := 33, pos := "drat.go:82", after := #[{ on := 18, ground := Ground.data }], guard := none }) rfl (fun K hK => ?_) ?_
            · go_simp
              refine hK.out _ _ ?_ (fun hHeld2 => ?_)
              · (try dsimp only); first | go_keep | exact ⟨q0.1.1, q0.1.2.1⟩ | exact kst0 _ q0.1.1 q0.1.2.1
              clear hK K hHeld
              have hHeld := hHeld2
              clear hHeld2
              try simp only [Act.put, List.setIfInBounds_toArray, List.set_cons_zero, List.set_cons_succ]
              refine wpAnyH_ready (rs := [7]) (by kernel_rfl) (by simp) ?_
              refine AllReadyH.cons (o := { dst := some 76, op := Op.call { callee := Callee.value (Operand.func 38), args := #[Operand.tmp 75], argTypes := #[3] }, type := 3, pos := "drat.go:82", after := #[{ on := 6, ground := Ground.data }], guard := none }) rfl (fun K hK => ?_) ?_
              · go_simp
                go_at_call 38; refine (hcd0 _).mono ?_; rintro e w' ⟨p1, p2⟩; rw [p1, p2]; clear p1 p2
                go_wp2_with fail
                refine hK.out _ _ ?_ (fun hHeld2 => ?_)
                · (try dsimp only); first | go_keep | exact ⟨q0.1.1, q0.1.2.1⟩ | exact kst0 _ q0.1.1 q0.1.2.1
                clear hK K hHeld
                have hHeld := hHeld2
                clear hHeld2
                try simp only [Act.put, List.setIfInBounds_toArray, List.set_cons_zero, List.set_cons_succ]
                refine wpAnyH_ready (rs := [15]) (by kernel_rfl) (by simp) ?_
                refine AllReadyH.cons (o := { dst := some 84, op := Op.call { callee := Callee.value (Operand.func 38), args := #[Operand.tmp 83], argTypes := #[3] }, type := 3, pos := "drat.go:82", after := #[{ on := 14, ground := Ground.data }, { on := 7, ground := Ground.chain }], guard := none }) rfl (fun K hK => ?_) ?_
                · go_simp
                  go_at_call 38; refine (hcd0 _).mono ?_; rintro e w' ⟨p1, p2⟩; rw [p1, p2]; clear p1 p2
                  go_wp2_with fail
                  refine hK.out _ _ ?_ (fun hHeld2 => ?_)
                  · (try dsimp only); first | go_keep | exact ⟨q0.1.1, q0.1.2.1⟩ | exact kst0 _ q0.1.1 q0.1.2.1
                  clear hK K hHeld
                  have hHeld := hHeld2
                  clear hHeld2
                  try simp only [Act.put, List.setIfInBounds_toArray, List.set_cons_zero, List.set_cons_succ]
                  refine wpAnyH_take (i := 16) (oi := { dst := some 85, op := Op.indexAddr 22 (Operand.tmp 80) (Operand.tmp 84), type := 0, pos := "drat.go:82", after := #[{ on := 11, ground := Ground.data }, { on := 15, ground := Ground.data }], guard := none }) (v := ?_) rfl (by kernel_rfl) (by kernel_rfl) (by kernel_rfl) (fun _ _ _ h => h) (Or.inl ⟨by rfl, ?_⟩) (by assumption) ?_
                  rotate_left
                  · intro w hSw; (try dsimp only at hSw); go_simp; all_goals with_reducible rfl
                  try simp only [Act.put, List.setIfInBounds_toArray, List.set_cons_zero, List.set_cons_succ]
                  refine wpAnyH_ready (rs := [17]) (by kernel_rfl) (by simp) ?_
                  refine AllReadyH.cons (o := { dst := some 86, op := Op.load 33 (Operand.tmp 85), type := 33, pos := "drat.go:82", after := #[{ on := 16, ground := Ground.data }], guard := none }) rfl (fun K hK => ?_) ?_
                  · go_simp
                    refine hK.out _ _ ?_ (fun hHeld2 => ?_)
                    · (try dsimp only); first | go_keep | exact ⟨q0.1.1, q0.1.2.1⟩ | exact kst0 _ q0.1.1 q0.1.2.1
                    clear hK K hHeld
                    have hHeld := hHeld2
                    clear hHeld2
                    try simp only [Act.put, List.setIfInBounds_toArray, List.set_cons_zero, List.set_cons_succ]
                    refine wpAnyH_ready (rs := [20]) (by kernel_rfl) (by simp) ?_
                    refine AllReadyH.cons (o := { dst := some 89, op := Op.call { callee := Callee.builtin Builtin.append, args := #[Operand.tmp 86, Operand.tmp 88], argTypes := #[33, 33] }, type := 33, pos := "drat.go:82", after := #[{ on := 17, ground := Ground.data }, { on := 19, ground := Ground.data }, { on := 15, ground := Ground.chain }], guard := none }) rfl (fun K hK => ?_) ?_
                    · refine step_append_lies _ (by rfl) _ _ _ (by rfl) cx.lo 3 i0 _ 1 8 Tryd.underlying33 hi0 hz0 hz1 hz2 rfl (by decide) wv0 _ _ (by rfl) ((ow0.alloc _).drew) ⟨wr.heap.size, 0, none⟩ 1 1 [.int .i64 (S.n : Int)] (by rfl) (by rfl) (World.news_of_block (cs := #[.int .i64 (S.n : Int)]) (t := 3) (fr := (0, 0)) (heap_alloc_new wr _)) (by simp [Value.oneCell']) (by decide) (by unfold maxLen; omega) (by omega) (by have := h6.lo_le; simp; omega) (wr.heap.size + 1) (by simp) ?_
                      intro gg cp w9 hown9 hgrow hat hlt9
                      have q0 := key0 _ gg cp w9 hown9 hgrow hat hlt9
                      have kf := q0.1.2.2.2
                      refine hK.out _ _ ?_ (fun hHeld2 => ?_)
                      · (try dsimp only); first | go_keep | exact ⟨q0.1.1, q0.1.2.1⟩ | exact kst0 _ q0.1.1 q0.1.2.1
                      clear hK K hHeld
                      have hHeld := hHeld2
                      clear hHeld2
                      try simp only [Act.put, List.setIfInBounds_toArray, List.set_cons_zero, List.set_cons_succ]
                      refine wpAnyH_take (i := 21) (oi := { dst := some 90, op := Op.indexAddr 22 (Operand.tmp 72) (Operand.tmp 76), type := 0, pos := "drat.go:82", after := #[{ on := 3, ground := Ground.data }, { on := 7, ground := Ground.data }, { on := 0, ground := Ground.phase }, { on := 1, ground := Ground.phase }, { on := 2, ground := Ground.phase }, { on := 3, ground := Ground.phase }, { on := 4, ground := Ground.phase }, { on := 5, ground := Ground.phase }, { on := 6, ground := Ground.phase }, { on := 7, ground := Ground.phase }, { on := 8, ground := Ground.phase }, { on := 9, ground := Ground.phase }, { on := 10, ground := Ground.phase }, { on := 11, ground := Ground.phase }, { on := 12, ground := Ground.phase }, { on := 13, ground := Ground.phase }, { on := 14, ground := Ground.phase }, { on := 15, ground := Ground.phase }, { on := 16, ground := Ground.phase }, { on := 17, ground := Ground.phase }, { on := 18, ground := Ground.phase }, { on := 19, ground := Ground.phase }, { on := 20, ground := Ground.phase }], guard := none }) (v := ?_) rfl (by kernel_rfl) (by kernel_rfl) (by kernel_rfl) (fun _ _ _ h => h) (Or.inl ⟨by rfl, ?_⟩) (by assumption) ?_
                      rotate_left
                      · intro w hSw; (try dsimp only at hSw); go_simp; all_goals with_reducible rfl
                      try simp only [Act.put, List.setIfInBounds_toArray, List.set_cons_zero, List.set_cons_succ]
                      refine wpAnyH_ready (rs := [22]) (by kernel_rfl) (by simp) ?_
                      refine AllReadyH.cons (o := { dst := none, op := Op.store 33 (Operand.tmp 90) (Operand.tmp 89), type := 0, pos := "drat.go:82", after := #[{ on := 21, ground := Ground.data }, { on := 20, ground := Ground.data }, { on := 20, ground := Ground.chain }, { on := 0, ground := Ground.phase }, { on := 1, ground := Ground.phase }, { on := 2, ground := Ground.phase }, { on := 3, ground := Ground.phase }, { on := 4, ground := Ground.phase }, { on := 5, ground := Ground.phase }, { on := 6, ground := Ground.phase }, { on := 7, ground := Ground.phase }, { on := 8, ground := Ground.phase }, { on := 9, ground := Ground.phase }, { on := 10, ground := Ground.phase }, { on := 11, ground := Ground.phase }, { on := 12, ground := Ground.phase }, { on := 13, ground := Ground.phase }, { on := 14, ground := Ground.phase }, { on := 15, ground := Ground.phase }, { on := 16, ground := Ground.phase }, { on := 17, ground := Ground.phase }, { on := 18, ground := Ground.phase }, { on := 19, ground := Ground.phase }, { on := 20, ground := Ground.phase }], guard := none }) rfl (fun K hK => ?_) ?_
                      · go_simp
                        refine hK.out _ _ ?_ (fun hHeld2 => ?_)
                        · (try dsimp only); first | go_keep | exact ⟨q0.1.1, q0.1.2.1⟩ | exact kst0 _ q0.1.1 q0.1.2.1
                        clear hK K hHeld
                        have hHeld := hHeld2
                        clear hHeld2
                        try simp only [Act.put, List.setIfInBounds_toArray, List.set_cons_zero, List.set_cons_succ]
                        refine wpAnyH_done (by kernel_rfl) ?_ _
                        refine NoPanic.normal ?_
                        go_wp2_with fail
                        go_meet
                        case rel =>
                          obtain ⟨own8, rv8, q1, q2, q3⟩ := q0.2; rw [hc0]
                          exact ⟨own8, rv8, q1, q2, fun t ht => q3 t ht⟩
                      exact AllReadyH.nil
                    exact AllReadyH.nil
                  exact AllReadyH.nil
                exact AllReadyH.nil
              exact AllReadyH.nil
            exact AllReadyH.nil
          case rest =>
            obtain ⟨own8, rv8, h8, hfr8, hrv8⟩ := hcut
            have hgo8 : own8 g = some (.cl S.n) := by
              have := (h8.rows (.cl S.n) rfl).lab g
              rw [hrv8 _ (by intro e; cases e), hcl6] at this
              exact this rfl
            have hcell8 := h8.clauseAt (i := S.n) (g := g) (n := n) (cap := vcap) (by rw [hrv8 _ (by intro e; cases e)]; exact hcl6)
            have ck1 : wc.cell? ⟨g, 1, none⟩ = some (.int .i64 b) := by
              have := (hcell8 1 (by rw [show ({ ({ S5 with has := hasF S.n S.has (a :: b :: r) } : St) with watch := upd S.watch (codeZ a) (S.watch (codeZ a) ++ [S.n]) } : St).lits S.n = a :: b :: r from hl5]; simp)).1
              rw [show ({ ({ S5 with has := hasF S.n S.has (a :: b :: r) } : St) with watch := upd S.watch (codeZ a) (S.watch (codeZ a) ++ [S.n]) } : St).lits S.n = a :: b :: r from hl5] at this
              exact this
            clear hcell8
            obtain ⟨c1, hc1⟩ : ∃ c, codeZ b = c := ⟨_, rfl⟩
            have hcV1 : c1 < 2 * cx.V + 2 := by rw [← hc1]; exact codeZ_lt hl1.2
            have hcI1 : (c1 : Int) < (2 * cx.V + 2 : Nat) := by omega
            have hcJ1 : (c1 : Int) < 2 * (cx.V : Int) + 2 := by omega
            have hcZ1 : (0 : Int) ≤ (c1 : Int) := by omega
            have hcd1 := fun u => code_walk b (by omega) (by omega) u
            rw [hc1] at hcd1
            obtain ⟨wl1, hwl1⟩ : ∃ l, (upd S.watch (codeZ a) (S.watch (codeZ a) ++ [S.n])) c1 = l := ⟨_, rfl⟩
            obtain ⟨wv1, hwv1⟩ : ∃ u, rv8 (.wr c1) = u := ⟨_, rfl⟩
            have tb1 : wc.cell? ⟨cx.wb, c1, none⟩ = some wv1 := by rw [← hwv1]; exact (h8.wt.cell c1 hcV1).1
            have x21 : wc.cell? ⟨cx.xb, 2, none⟩ = some (.slice (some ⟨cx.wb, 0, none⟩) (2 * cx.V + 2) cx.wc) := (h8.x.cell 2 (by decide)).1
            have ow1 : wc.ownsRow cx.lo 3 1 wv1 wl1.length (natC wl1) := by
              have e : wc.ownsRow cx.lo 3 1 (rv8 (.wr c1)) ((upd S.watch (codeZ a) (S.watch (codeZ a) ++ [S.n])) c1).length (natC ((upd S.watch (codeZ a) (S.watch (codeZ a) ++ [S.n])) c1)) := (h8.rows (.wr c1) rfl).row
              rwa [hwv1, hwl1] at e
            have tbA1 : ∀ o, (wc.alloc o).cell? ⟨cx.wb, c1, none⟩ = some wv1 := fun o => (World.cell?_alloc_some wc _ o (by rw [tb1]; rfl)).trans tb1
            have tbB1 : ∀ o, (wc.alloc o).drew.cell? ⟨cx.wb, c1, none⟩ = some wv1 := tbA1
            have key1 := h8.watchStage (i := S.n) (j := S.n) hfr8 hcV1 hgo8 ck1 hwv1 hwl1
            have kst1 : ∀ {w1 : World} (u : Value), w1.cell? ⟨cx.xb, 2, none⟩ = some (.slice (some ⟨cx.wb, 0, none⟩) (2 * cx.V + 2) cx.wc) → w1.cell? ⟨g, 1, none⟩ = some (.int .i64 b) → (w1.setCell ⟨cx.wb, c1, none⟩ u).cell? ⟨cx.xb, 2, none⟩ = some (.slice (some ⟨cx.wb, 0, none⟩) (2 * cx.V + 2) cx.wc) ∧ (w1.setCell ⟨cx.wb, c1, none⟩ u).cell? ⟨g, 1, none⟩ = some (.int .i64 b) := fun u e1 e2 =>
              ⟨(World.cell?_setCell_other _ ⟨cx.wb, c1, none⟩ ⟨cx.xb, 2, none⟩ _ (by intro e; injection e; omega)).trans e1, (World.cell?_setCell_other _ ⟨cx.wb, c1, none⟩ ⟨g, 1, none⟩ _ (by intro e; injection e; omega)).trans e2⟩
            have nwa1 := World.new_ne wc _ tb1
            have nwb1 := World.new_ne wc _ ck1
            have nwc1 := World.new_ne wc _ x21
            have hwl9 : wl1.length ≤ S.n := by rw [← hwl1, ← hc1, upd_other _ _ hab]; exact hw9 _
            have hfin : ∀ wz, (∃ own7 rv7, Rep cx wz own7 rv7 { ({ ({ S5 with has := hasF S.n S.has (a :: b :: r) } : St) with watch := upd S.watch (codeZ a) (S.watch (codeZ a) ++ [S.n]) } : St) with watch := upd (upd S.watch (codeZ a) (S.watch (codeZ a) ++ [S.n])) c1 (upd S.watch (codeZ a) (S.watch (codeZ a) ++ [S.n]) c1 ++ [S.n]) } ∧ Frm own own7 w wz ∧ ∀ t, t ≠ .wr c1 → rv7 t = rv8 t) → AddOut cx own (addS S (a :: b :: r)) w (.returned (.tuple #[])) wz := by
              rintro wz ⟨own9, rv9, q1, q2, _⟩
              refine hend wz ⟨own9, rv9, ?_, q2⟩
              have e : ({ ({ ({ S5 with has := hasF S.n S.has (a :: b :: r) } : St) with watch := upd S.watch (codeZ a) (S.watch (codeZ a) ++ [S.n]) } : St) with watch := upd (upd S.watch (codeZ a) (S.watch (codeZ a) ++ [S.n])) c1 (upd S.watch (codeZ a) (S.watch (codeZ a) ++ [S.n]) c1 ++ [S.n]) } : St) = addS S (a :: b :: r) := by rw [← hc1, hS5, hS3]; rfl
              rw [e] at q1
              exact q1
            clear hend hrise hsame hlz hll hz9 hp hS5 hS3 hm hkl ht hks hh5 hl5 hl6 hg3 hn3 hcl6 hw9 hnd h6 hfr6
            go_wp2_with fail
            refine wp_region_noPanic ?_
            refine wp_region_held_drew (S := (fun w' => w'.cell? ⟨cx.xb, 2, none⟩ = some (.slice (some ⟨cx.wb, 0, none⟩) (2 * cx.V + 2) cx.wc) ∧ w'.cell? ⟨g, 1, none⟩ = some (.int .i64 b))) (by kernel_rfl) ?_ (fun hHeld => ?_)
            · (try dsimp only); first | go_keep | exact ⟨q1.1.1, q1.1.2.1⟩ | exact kst1 _ q1.1.1 q1.1.2.1
            refine wpAnyH_take (i := 0) (oi := { dst := some 91, op := Op.move (Operand.tmp 0), type := 54, pos := "drat.go:83", after := #[], guard := none }) (v := ?_) rfl (by kernel_rfl) (by kernel_rfl) (by kernel_rfl) (fun _ _ _ h => h) (Or.inl ⟨by rfl, ?_⟩) (by assumption) ?_
            rotate_left
            · intro w hSw; (try dsimp only at hSw); go_simp; all_goals with_reducible rfl
            try simp only [Act.put, List.setIfInBounds_toArray, List.set_cons_zero, List.set_cons_succ]
            refine wpAnyH_take (i := 1) (oi := { dst := some 92, op := Op.nilCheck (Operand.tmp 91), type := 0, pos := "drat.go:83", after := #[{ on := 0, ground := Ground.data }], guard := none }) (v := ?_) rfl (by kernel_rfl) (by kernel_rfl) (by kernel_rfl) (fun _ _ _ h => h) (Or.inl ⟨by rfl, ?_⟩) (by assumption) ?_
            rotate_left
            · intro w hSw; (try dsimp only at hSw); go_simp; all_goals with_reducible rfl
            try simp only [Act.put, List.setIfInBounds_toArray, List.set_cons_zero, List.set_cons_succ]
            refine wpAnyH_take (i := 2) (oi := { dst := some 93, op := Op.fieldAddr 60 (Operand.tmp 92) 2, type := 0, pos := "drat.go:83", after := #[{ on := 1, ground := Ground.data }], guard := none }) (v := ?_) rfl (by kernel_rfl) (by kernel_rfl) (by kernel_rfl) (fun _ _ _ h => h) (Or.inl ⟨by rfl, ?_⟩) (by assumption) ?_
            rotate_left
            · intro w hSw; (try dsimp only at hSw); go_simp; all_goals with_reducible rfl
            try simp only [Act.put, List.setIfInBounds_toArray, List.set_cons_zero, List.set_cons_succ]
            refine wpAnyH_take (i := 3) (oi := { dst := some 94, op := Op.load 22 (Operand.tmp 93), type := 22, pos := "drat.go:83", after := #[{ on := 2, ground := Ground.data }], guard := none }) (v := ?_) rfl (by kernel_rfl) (by kernel_rfl) (by kernel_rfl) (fun _ _ _ h => h) (Or.inl ⟨by rfl, ?_⟩) (by assumption) ?_
            rotate_left
            · intro w hSw; (try dsimp only at hSw); go_simp; all_goals with_reducible rfl
            try simp only [Act.put, List.setIfInBounds_toArray, List.set_cons_zero, List.set_cons_succ]
            refine wpAnyH_take (i := 4) (oi := { dst := some 95, op := Op.move (Operand.tmp 1), type := 33, pos := "drat.go:83", after := #[], guard := none }) (v := ?_) rfl (by kernel_rfl) (by kernel_rfl) (by kernel_rfl) (fun _ _ _ h => h) (Or.inl ⟨by rfl, ?_⟩) (by assumption) ?_
            rotate_left
            · intro w hSw; (try dsimp only at hSw); go_simp; all_goals with_reducible rfl
            try simp only [Act.put, List.setIfInBounds_toArray, List.set_cons_zero, List.set_cons_succ]
            refine wpAnyH_take (i := 5) (oi := { dst := some 96, op := Op.indexAddr 33 (Operand.tmp 95) (Operand.const (Value.int IntKind.i64 1)), type := 0, pos := "drat.go:83", after := #[{ on := 4, ground := Ground.data }], guard := none }) (v := ?_) rfl (by kernel_rfl) (by kernel_rfl) (by kernel_rfl) (fun _ _ _ h => h) (Or.inl ⟨by rfl, ?_⟩) (by assumption) ?_
            rotate_left
            · intro w hSw; (try dsimp only at hSw); go_simp; all_goals with_reducible rfl
            try simp only [Act.put, List.setIfInBounds_toArray, List.set_cons_zero, List.set_cons_succ]
            refine wpAnyH_take (i := 6) (oi := { dst := some 97, op := Op.load 3 (Operand.tmp 96), type := 3, pos := "drat.go:83", after := #[{ on := 5, ground := Ground.data }], guard := none }) (v := ?_) rfl (by kernel_rfl) (by kernel_rfl) (by kernel_rfl) (fun _ _ _ h => h) (Or.inl ⟨by rfl, ?_⟩) (by assumption) ?_
            rotate_left
            · intro w hSw; (try dsimp only at hSw); go_simp; all_goals with_reducible rfl
            try simp only [Act.put, List.setIfInBounds_toArray, List.set_cons_zero, List.set_cons_succ]
            refine wpAnyH_take (i := 8) (oi := { dst := some 99, op := Op.move (Operand.tmp 0), type := 54, pos := "drat.go:83", after := #[], guard := none }) (v := ?_) rfl (by kernel_rfl) (by kernel_rfl) (by kernel_rfl) (fun _ _ _ h => h) (Or.inl ⟨by rfl, ?_⟩) (by assumption) ?_
            rotate_left
            · intro w hSw; (try dsimp only at hSw); go_simp; all_goals with_reducible rfl
            try simp only [Act.put, List.setIfInBounds_toArray, List.set_cons_zero, List.set_cons_succ]
            refine wpAnyH_take (i := 9) (oi := { dst := some 100, op := Op.nilCheck (Operand.tmp 99), type := 0, pos := "drat.go:83", after := #[{ on := 8, ground := Ground.data }], guard := none }) (v := ?_) rfl (by kernel_rfl) (by kernel_rfl) (by kernel_rfl) (fun _ _ _ h => h) (Or.inl ⟨by rfl, ?_⟩) (by assumption) ?_
            rotate_left
            · intro w hSw; (try dsimp only at hSw); go_simp; all_goals with_reducible rfl
            try simp only [Act.put, List.setIfInBounds_toArray, List.set_cons_zero, List.set_cons_succ]
            refine wpAnyH_take (i := 10) (oi := { dst := some 101, op := Op.fieldAddr 60 (Operand.tmp 100) 2, type := 0, pos := "drat.go:83", after := #[{ on := 9, ground := Ground.data }], guard := none }) (v := ?_) rfl (by kernel_rfl) (by kernel_rfl) (by kernel_rfl) (fun _ _ _ h => h) (Or.inl ⟨by rfl, ?_⟩) (by assumption) ?_
            rotate_left
            · intro w hSw; (try dsimp only at hSw); go_simp; all_goals with_reducible rfl
            try simp only [Act.put, List.setIfInBounds_toArray, List.set_cons_zero, List.set_cons_succ]
            refine wpAnyH_take (i := 11) (oi := { dst := some 102, op := Op.load 22 (Operand.tmp 101), type := 22, pos := "drat.go:83", after := #[{ on := 10, ground := Ground.data }], guard := none }) (v := ?_) rfl (by kernel_rfl) (by kernel_rfl) (by kernel_rfl) (fun _ _ _ h => h) (Or.inl ⟨by rfl, ?_⟩) (by assumption) ?_
            rotate_left
            · intro w hSw; (try dsimp only at hSw); go_simp; all_goals with_reducible rfl
            try simp only [Act.put, List.setIfInBounds_toArray, List.set_cons_zero, List.set_cons_succ]
            refine wpAnyH_take (i := 12) (oi := { dst := some 103, op := Op.move (Operand.tmp 1), type := 33, pos := "drat.go:83", after := #[], guard := none }) (v := ?_) rfl (by kernel_rfl) (by kernel_rfl) (by kernel_rfl) (fun _ _ _ h => h) (Or.inl ⟨by rfl, ?_⟩) (by assumption) ?_
            rotate_left
            · intro w hSw; (try dsimp only at hSw); go_simp; all_goals with_reducible rfl
            try simp only [Act.put, List.setIfInBounds_toArray, List.set_cons_zero, List.set_cons_succ]
            refine wpAnyH_take (i := 13) (oi := { dst := some 104, op := Op.indexAddr 33 (Operand.tmp 103) (Operand.const (Value.int IntKind.i64 1)), type := 0, pos := "drat.go:83", after := #[{ on := 12, ground := Ground.data }], guard := none }) (v := ?_) rfl (by kernel_rfl) (by kernel_rfl) (by kernel_rfl) (fun _ _ _ h => h) (Or.inl ⟨by rfl, ?_⟩) (by assumption) ?_
            rotate_left
            · intro w hSw; (try dsimp only at hSw); go_simp; all_goals with_reducible rfl
            try simp only [Act.put, List.setIfInBounds_toArray, List.set_cons_zero, List.set_cons_succ]
            refine wpAnyH_take (i := 14) (oi := { dst := some 105, op := Op.load 3 (Operand.tmp 104), type := 3, pos := "drat.go:83", after := #[{ on := 13, ground := Ground.data }], guard := none }) (v := ?_) rfl (by kernel_rfl) (by kernel_rfl) (by kernel_rfl) (fun _ _ _ h => h) (Or.inl ⟨by rfl, ?_⟩) (by assumption) ?_
            rotate_left
            · intro w hSw; (try dsimp only at hSw); go_simp; all_goals with_reducible rfl
            try simp only [Act.put, List.setIfInBounds_toArray, List.set_cons_zero, List.set_cons_succ]
            refine wpAnyH_take (i := 18) (oi := { dst := some 109, op := Op.move (Operand.tmp 4), type := 3, pos := "drat.go:83", after := #[], guard := none }) (v := ?_) rfl (by kernel_rfl) (by kernel_rfl) (by kernel_rfl) (fun _ _ _ h => h) (Or.inl ⟨by rfl, ?_⟩) (by assumption) ?_
            rotate_left
            · intro w hSw; (try dsimp only at hSw); go_simp; all_goals with_reducible rfl
            try simp only [Act.put, List.setIfInBounds_toArray, List.set_cons_zero, List.set_cons_succ]
            refine wpAnyH_ready (rs := [7, 19]) (by kernel_rfl) (by simp) ?_
            refine AllReadyH.cons (o := { dst := some 98, op := Op.call { callee := Callee.value (Operand.func 38), args := #[Operand.tmp 97], argTypes := #[3] }, type := 3, pos := "drat.go:83", after := #[{ on := 6, ground := Ground.data }], guard := none }) rfl (fun K hK => ?_) ?_
            · go_simp
              go_at_call 38; refine (hcd1 _).mono ?_; rintro e w' ⟨p1, p2⟩; rw [p1, p2]; clear p1 p2
              go_wp2_with fail
              refine hK.out _ _ ?_ (fun hHeld2 => ?_)
              · (try dsimp only); first | go_keep | exact ⟨q1.1.1, q1.1.2.1⟩ | exact kst1 _ q1.1.1 q1.1.2.1
              clear hK K hHeld
              have hHeld := hHeld2
              clear hHeld2
              try simp only [Act.put, List.setIfInBounds_toArray, List.set_cons_zero, List.set_cons_succ]
              refine wpAnyH_ready (rs := [15, 19]) (by kernel_rfl) (by simp) ?_
              refine AllReadyH.cons (o := { dst := some 106, op := Op.call { callee := Callee.value (Operand.func 38), args := #[Operand.tmp 105], argTypes := #[3] }, type := 3, pos := "drat.go:83", after := #[{ on := 14, ground := Ground.data }, { on := 7, ground := Ground.chain }], guard := none }) rfl (fun K hK => ?_) ?_
              · go_simp
                go_at_call 38; refine (hcd1 _).mono ?_; rintro e w' ⟨p1, p2⟩; rw [p1, p2]; clear p1 p2
                go_wp2_with fail
                refine hK.out _ _ ?_ (fun hHeld2 => ?_)
                · (try dsimp only); first | go_keep | exact ⟨q1.1.1, q1.1.2.1⟩ | exact kst1 _ q1.1.1 q1.1.2.1
                clear hK K hHeld
                have hHeld := hHeld2
                clear hHeld2
                try simp only [Act.put, List.setIfInBounds_toArray, List.set_cons_zero, List.set_cons_succ]
                refine wpAnyH_take (i := 16) (oi := { dst := some 107, op := Op.indexAddr 22 (Operand.tmp 102) (Operand.tmp 106), type := 0, pos := "drat.go:83", after := #[{ on := 11, ground := Ground.data }, { on := 15, ground := Ground.data }], guard := none }) (v := ?_) rfl (by kernel_rfl) (by kernel_rfl) (by kernel_rfl) (fun _ _ _ h => h) (Or.inl ⟨by rfl, ?_⟩) (by assumption) ?_
                rotate_left
                · intro w hSw; (try dsimp only at hSw); go_simp; all_goals with_reducible rfl
                try simp only [Act.put, List.setIfInBounds_toArray, List.set_cons_zero, List.set_cons_succ]
                refine wpAnyH_ready (rs := [17, 19]) (by kernel_rfl) (by simp) ?_
                refine AllReadyH.cons (o := { dst := some 108, op := Op.load 33 (Operand.tmp 107), type := 33, pos := "drat.go:83", after := #[{ on := 16, ground := Ground.data }], guard := none }) rfl (fun K hK => ?_) ?_
                · go_simp
                  refine hK.out _ _ ?_ (fun hHeld2 => ?_)
                  · (try dsimp only); first | go_keep | exact ⟨q1.1.1, q1.1.2.1⟩ | exact kst1 _ q1.1.1 q1.1.2.1
                  clear hK K hHeld
                  have hHeld := hHeld2
                  clear hHeld2
                  try simp only [Act.put, List.setIfInBounds_toArray, List.set_cons_zero, List.set_cons_succ]
                  refine wpAnyH_ready (rs := [19]) (by kernel_rfl) (by simp) ?_
                  refine AllReadyH.cons (o := { dst := some 110, op := Op.buildSlice 33 1 #[(0, Operand.tmp 109)], type := 33, pos := "drat.go:83", after := #[{ on := 18, ground := Ground.data }], guard := none }) rfl (fun K hK => ?_) ?_
                  · go_simp
                    refine hK.out _ _ ?_ (fun hHeld2 => ?_)
                    · (try dsimp only); first | go_keep | exact ⟨q1.1.1, q1.1.2.1⟩ | exact kst1 _ q1.1.1 q1.1.2.1
                    clear hK K hHeld
                    have hHeld := hHeld2
                    clear hHeld2
                    try simp only [Act.put, List.setIfInBounds_toArray, List.set_cons_zero, List.set_cons_succ]
                    refine wpAnyH_ready (rs := [20]) (by kernel_rfl) (by simp) ?_
                    refine AllReadyH.cons (o := { dst := some 111, op := Op.call { callee := Callee.builtin Builtin.append, args := #[Operand.tmp 108, Operand.tmp 110], argTypes := #[33, 33] }, type := 33, pos := "drat.go:83", after := #[{ on := 17, ground := Ground.data }, { on := 19, ground := Ground.data }, { on := 15, ground := Ground.chain }], guard := none }) rfl (fun K hK => ?_) ?_
                    · refine step_append_lies _ (by rfl) _ _ _ (by rfl) cx.lo 3 i0 _ 1 8 Tryd.underlying33 hi0 hz0 hz1 hz2 rfl (by decide) wv1 _ _ (by rfl) ((ow1.alloc _).drew) ⟨wc.heap.size, 0, none⟩ 1 1 [.int .i64 (S.n : Int)] (by rfl) (by rfl) (World.news_of_block (cs := #[.int .i64 (S.n : Int)]) (t := 3) (fr := (0, 0)) (heap_alloc_new wc _)) (by simp [Value.oneCell']) (by decide) (by unfold maxLen; omega) (by omega) (by have := h8.lo_le; simp; omega) (wc.heap.size + 1) (by simp) ?_
                      intro gg cp w9 hown9 hgrow hat hlt9
                      have q1 := key1 _ gg cp w9 hown9 hgrow hat hlt9
                      have kf := q1.1.2.2.2
                      refine hK.out _ _ ?_ (fun hHeld2 => ?_)
                      · (try dsimp only); first | go_keep | exact ⟨q1.1.1, q1.1.2.1⟩ | exact kst1 _ q1.1.1 q1.1.2.1
                      clear hK K hHeld
                      have hHeld := hHeld2
                      clear hHeld2
                      try simp only [Act.put, List.setIfInBounds_toArray, List.set_cons_zero, List.set_cons_succ]
                      refine wpAnyH_take (i := 21) (oi := { dst := some 112, op := Op.indexAddr 22 (Operand.tmp 94) (Operand.tmp 98), type := 0, pos := "drat.go:83", after := #[{ on := 3, ground := Ground.data }, { on := 7, ground := Ground.data }, { on := 0, ground := Ground.phase }, { on := 1, ground := Ground.phase }, { on := 2, ground := Ground.phase }, { on := 3, ground := Ground.phase }, { on := 4, ground := Ground.phase }, { on := 5, ground := Ground.phase }, { on := 6, ground := Ground.phase }, { on := 7, ground := Ground.phase }, { on := 8, ground := Ground.phase }, { on := 9, ground := Ground.phase }, { on := 10, ground := Ground.phase }, { on := 11, ground := Ground.phase }, { on := 12, ground := Ground.phase }, { on := 13, ground := Ground.phase }, { on := 14, ground := Ground.phase }, { on := 15, ground := Ground.phase }, { on := 16, ground := Ground.phase }, { on := 17, ground := Ground.phase }, { on := 18, ground := Ground.phase }, { on := 19, ground := Ground.phase }, { on := 20, ground := Ground.phase }], guard := none }) (v := ?_) rfl (by kernel_rfl) (by kernel_rfl) (by kernel_rfl) (fun _ _ _ h => h) (Or.inl ⟨by rfl, ?_⟩) (by assumption) ?_
                      rotate_left
                      · intro w hSw; (try dsimp only at hSw); go_simp; all_goals with_reducible rfl
                      try simp only [Act.put, List.setIfInBounds_toArray, List.set_cons_zero, List.set_cons_succ]
                      refine wpAnyH_ready (rs := [22]) (by kernel_rfl) (by simp) ?_
                      refine AllReadyH.cons (o := { dst := none, op := Op.store 33 (Operand.tmp 112) (Operand.tmp 111), type := 0, pos := "drat.go:83", after := #[{ on := 21, ground := Ground.data }, { on := 20, ground := Ground.data }, { on := 20, ground := Ground.chain }, { on := 0, ground := Ground.phase }, { on := 1, ground := Ground.phase }, { on := 2, ground := Ground.phase }, { on := 3, ground := Ground.phase }, { on := 4, ground := Ground.phase }, { on := 5, ground := Ground.phase }, { on := 6, ground := Ground.phase }, { on := 7, ground := Ground.phase }, { on := 8, ground := Ground.phase }, { on := 9, ground := Ground.phase }, { on := 10, ground := Ground.phase }, { on := 11, ground := Ground.phase }, { on := 12, ground := Ground.phase }, { on := 13, ground := Ground.phase }, { on := 14, ground := Ground.phase }, { on := 15, ground := Ground.phase }, { on := 16, ground := Ground.phase }, { on := 17, ground := Ground.phase }, { on := 18, ground := Ground.phase }, { on := 19, ground := Ground.phase }, { on := 20, ground := Ground.phase }], guard := none }) rfl (fun K hK => ?_) ?_
                      · go_simp
                        refine hK.out _ _ ?_ (fun hHeld2 => ?_)
                        · (try dsimp only); first | go_keep | exact ⟨q1.1.1, q1.1.2.1⟩ | exact kst1 _ q1.1.1 q1.1.2.1
                        clear hK K hHeld
                        have hHeld := hHeld2
                        clear hHeld2
                        try simp only [Act.put, List.setIfInBounds_toArray, List.set_cons_zero, List.set_cons_succ]
                        refine wpAnyH_done (by kernel_rfl) ?_ _
                        refine NoPanic.normal ?_
                        go_wp2_with fail
                        go_end0
                        exact hfin _ q1.2
                      exact AllReadyH.nil
                    exact AllReadyH.nil
                  exact AllReadyH.nil
                refine AllReadyH.cons (o := { dst := some 110, op := Op.buildSlice 33 1 #[(0, Operand.tmp 109)], type := 33, pos := "drat.go:83", after := #[{ on := 18, ground := Ground.data }], guard := none }) rfl (fun K hK => ?_) ?_
                · go_simp
                  refine hK.out _ _ ?_ (fun hHeld2 => ?_)
                  · (try dsimp only); first | go_keep | exact ⟨q1.1.1, q1.1.2.1⟩ | exact kst1 _ q1.1.1 q1.1.2.1
                  clear hK K hHeld
                  have hHeld := hHeld2
                  clear hHeld2
                  try simp only [Act.put, List.setIfInBounds_toArray, List.set_cons_zero, List.set_cons_succ]
                  refine wpAnyH_ready (rs := [17]) (by kernel_rfl) (by simp) ?_
                  refine AllReadyH.cons (o := { dst := some 108, op := Op.load 33 (Operand.tmp 107), type := 33, pos := "drat.go:83", after := #[{ on := 16, ground := Ground.data }], guard := none }) rfl (fun K hK => ?_) ?_
                  · go_simp
                    refine hK.out _ _ ?_ (fun hHeld2 => ?_)
                    · (try dsimp only); first | go_keep | exact ⟨q1.1.1, q1.1.2.1⟩ | exact kst1 _ q1.1.1 q1.1.2.1
                    clear hK K hHeld
                    have hHeld := hHeld2
                    clear hHeld2
                    try simp only [Act.put, List.setIfInBounds_toArray, List.set_cons_zero, List.set_cons_succ]
                    refine wpAnyH_ready (rs := [20]) (by kernel_rfl) (by simp) ?_
                    refine AllReadyH.cons (o := { dst := some 111, op := Op.call { callee := Callee.builtin Builtin.append, args := #[Operand.tmp 108, Operand.tmp 110], argTypes := #[33, 33] }, type := 33, pos := "drat.go:83", after := #[{ on := 17, ground := Ground.data }, { on := 19, ground := Ground.data }, { on := 15, ground := Ground.chain }], guard := none }) rfl (fun K hK => ?_) ?_
                    · refine step_append_lies _ (by rfl) _ _ _ (by rfl) cx.lo 3 i0 _ 1 8 Tryd.underlying33 hi0 hz0 hz1 hz2 rfl (by decide) wv1 _ _ (by rfl) ((ow1.alloc _).drew) ⟨wc.heap.size, 0, none⟩ 1 1 [.int .i64 (S.n : Int)] (by rfl) (by rfl) (World.news_of_block (cs := #[.int .i64 (S.n : Int)]) (t := 3) (fr := (0, 0)) (heap_alloc_new wc _)) (by simp [Value.oneCell']) (by decide) (by unfold maxLen; omega) (by omega) (by have := h8.lo_le; simp; omega) (wc.heap.size + 1) (by simp) ?_
                      intro gg cp w9 hown9 hgrow hat hlt9
                      have q1 := key1 _ gg cp w9 hown9 hgrow hat hlt9
                      have kf := q1.1.2.2.2
                      refine hK.out _ _ ?_ (fun hHeld2 => ?_)
                      · (try dsimp only); first | go_keep | exact ⟨q1.1.1, q1.1.2.1⟩ | exact kst1 _ q1.1.1 q1.1.2.1
                      clear hK K hHeld
                      have hHeld := hHeld2
                      clear hHeld2
                      try simp only [Act.put, List.setIfInBounds_toArray, List.set_cons_zero, List.set_cons_succ]
                      refine wpAnyH_take (i := 21) (oi := { dst := some 112, op := Op.indexAddr 22 (Operand.tmp 94) (Operand.tmp 98), type := 0, pos := "drat.go:83", after := #[{ on := 3, ground := Ground.data }, { on := 7, ground := Ground.data }, { on := 0, ground := Ground.phase }, { on := 1, ground := Ground.phase }, { on := 2, ground := Ground.phase }, { on := 3, ground := Ground.phase }, { on := 4, ground := Ground.phase }, { on := 5, ground := Ground.phase }, { on := 6, ground := Ground.phase }, { on := 7, ground := Ground.phase }, { on := 8, ground := Ground.phase }, { on := 9, ground := Ground.phase }, { on := 10, ground := Ground.phase }, { on := 11, ground := Ground.phase }, { on := 12, ground := Ground.phase }, { on := 13, ground := Ground.phase }, { on := 14, ground := Ground.phase }, { on := 15, ground := Ground.phase }, { on := 16, ground := Ground.phase }, { on := 17, ground := Ground.phase }, { on := 18, ground := Ground.phase }, { on := 19, ground := Ground.phase }, { on := 20, ground := Ground.phase }], guard := none }) (v := ?_) rfl (by kernel_rfl) (by kernel_rfl) (by kernel_rfl) (fun _ _ _ h => h) (Or.inl ⟨by rfl, ?_⟩) (by assumption) ?_
                      rotate_left
                      · intro w hSw; (try dsimp only at hSw); go_simp; all_goals with_reducible rfl
                      try simp only [Act.put, List.setIfInBounds_toArray, List.set_cons_zero, List.set_cons_succ]
                      refine wpAnyH_ready (rs := [22]) (by kernel_rfl) (by simp) ?_
                      refine AllReadyH.cons (o := { dst := none, op := Op.store 33 (Operand.tmp 112) (Operand.tmp 111), type := 0, pos := "drat.go:83", after := #[{ on := 21, ground := Ground.data }, { on := 20, ground := Ground.data }, { on := 20, ground := Ground.chain }, { on := 0, ground := Ground.phase }, { on := 1, ground := Ground.phase }, { on := 2, ground := Ground.phase }, { on := 3, ground := Ground.phase }, { on := 4, ground := Ground.phase }, { on := 5, ground := Ground.phase }, { on := 6, ground := Ground.phase }, { on := 7, ground := Ground.phase }, { on := 8, ground := Ground.phase }, { on := 9, ground := Ground.phase }, { on := 10, ground := Ground.phase }, { on := 11, ground := Ground.phase }, { on := 12, ground := Ground.phase }, { on := 13, ground := Ground.phase }, { on := 14, ground := Ground.phase }, { on := 15, ground := Ground.phase }, { on := 16, ground := Ground.phase }, { on := 17, ground := Ground.phase }, { on := 18, ground := Ground.phase }, { on := 19, ground := Ground.phase }, { on := 20, ground := Ground.phase }], guard := none }) rfl (fun K hK => ?_) ?_
                      · go_simp
                        refine hK.out _ _ ?_ (fun hHeld2 => ?_)
                        · (try dsimp only); first | go_keep | exact ⟨q1.1.1, q1.1.2.1⟩ | exact kst1 _ q1.1.1 q1.1.2.1
                        clear hK K hHeld
                        have hHeld := hHeld2
                        clear hHeld2
                        try simp only [Act.put, List.setIfInBounds_toArray, List.set_cons_zero, List.set_cons_succ]
                        refine wpAnyH_done (by kernel_rfl) ?_ _
                        refine NoPanic.normal ?_
                        go_wp2_with fail
                        go_end0
                        exact hfin _ q1.2
                      exact AllReadyH.nil
                    exact AllReadyH.nil
                  exact AllReadyH.nil
                exact AllReadyH.nil
              refine AllReadyH.cons (o := { dst := some 110, op := Op.buildSlice 33 1 #[(0, Operand.tmp 109)], type := 33, pos := "drat.go:83", after := #[{ on := 18, ground := Ground.data }], guard := none }) rfl (fun K hK => ?_) ?_
              · go_simp
                refine hK.out _ _ ?_ (fun hHeld2 => ?_)
                · (try dsimp only); first | go_keep | exact ⟨q1.1.1, q1.1.2.1⟩ | exact kst1 _ q1.1.1 q1.1.2.1
                clear hK K hHeld
                have hHeld := hHeld2
                clear hHeld2
                try simp only [Act.put, List.setIfInBounds_toArray, List.set_cons_zero, List.set_cons_succ]
                refine wpAnyH_ready (rs := [15]) (by kernel_rfl) (by simp) ?_
                refine AllReadyH.cons (o := { dst := some 106, op := Op.call { callee := Callee.value (Operand.func 38), args := #[Operand.tmp 105], argTypes := #[3] }, type := 3, pos := "drat.go:83", after := #[{ on := 14, ground := Ground.data }, { on := 7, ground := Ground.chain }], guard := none }) rfl (fun K hK => ?_) ?_
                · go_simp
                  go_at_call 38; refine (hcd1 _).mono ?_; rintro e w' ⟨p1, p2⟩; rw [p1, p2]; clear p1 p2
                  go_wp2_with fail
                  refine hK.out _ _ ?_ (fun hHeld2 => ?_)
                  · (try dsimp only); first | go_keep | exact ⟨q1.1.1, q1.1.2.1⟩ | exact kst1 _ q1.1.1 q1.1.2.1
                  clear hK K hHeld
                  have hHeld := hHeld2
                  clear hHeld2
                  try simp only [Act.put, List.setIfInBounds_toArray, List.set_cons_zero, List.set_cons_succ]
                  refine wpAnyH_take (i := 16) (oi := { dst := some 107, op := Op.indexAddr 22 (Operand.tmp 102) (Operand.tmp 106), type := 0, pos := "drat.go:83", after := #[{ on := 11, ground := Ground.data }, { on := 15, ground := Ground.data }], guard := none }) (v := ?_) rfl (by kernel_rfl) (by kernel_rfl) (by kernel_rfl) (fun _ _ _ h => h) (Or.inl ⟨by rfl, ?_⟩) (by assumption) ?_
                  rotate_left
                  · intro w hSw; (try dsimp only at hSw); go_simp; all_goals with_reducible rfl
                  try simp only [Act.put, List.setIfInBounds_toArray, List.set_cons_zero, List.set_cons_succ]
                  refine wpAnyH_ready (rs := [17]) (by kernel_rfl) (by simp) ?_
                  refine AllReadyH.cons (o := { dst := some 108, op := Op.load 33 (Operand.tmp 107), type := 33, pos := "drat.go:83", after := #[{ on := 16, ground := Ground.data }], guard := none }) rfl (fun K hK => ?_) ?_
                  · go_simp
                    refine hK.out _ _ ?_ (fun hHeld2 => ?_)
                    · (try dsimp only); first | go_keep | exact ⟨q1.1.1, q1.1.2.1⟩ | exact kst1 _ q1.1.1 q1.1.2.1
                    clear hK K hHeld
                    have hHeld := hHeld2
                    clear hHeld2
                    try simp only [Act.put, List.setIfInBounds_toArray, List.set_cons_zero, List.set_cons_succ]
                    refine wpAnyH_ready (rs := [20]) (by kernel_rfl) (by simp) ?_
                    refine AllReadyH.cons (o := { dst := some 111, op := Op.call { callee := Callee.builtin Builtin.append, args := #[Operand.tmp 108, Operand.tmp 110], argTypes := #[33, 33] }, type := 33, pos := "drat.go:83", after := #[{ on := 17, ground := Ground.data }, { on := 19, ground := Ground.data }, { on := 15, ground := Ground.chain }], guard := none }) rfl (fun K hK => ?_) ?_
                    · refine step_append_lies _ (by rfl) _ _ _ (by rfl) cx.lo 3 i0 _ 1 8 Tryd.underlying33 hi0 hz0 hz1 hz2 rfl (by decide) wv1 _ _ (by rfl) ((ow1.alloc _).drew) ⟨wc.heap.size, 0, none⟩ 1 1 [.int .i64 (S.n : Int)] (by rfl) (by rfl) (World.news_of_block (cs := #[.int .i64 (S.n : Int)]) (t := 3) (fr := (0, 0)) (heap_alloc_new wc _)) (by simp [Value.oneCell']) (by decide) (by unfold maxLen; omega) (by omega) (by have := h8.lo_le; simp; omega) (wc.heap.size + 1) (by simp) ?_
                      intro gg cp w9 hown9 hgrow hat hlt9
                      have q1 := key1 _ gg cp w9 hown9 hgrow hat hlt9
                      have kf := q1.1.2.2.2
                      refine hK.out _ _ ?_ (fun hHeld2 => ?_)
                      · (try dsimp only); first | go_keep | exact ⟨q1.1.1, q1.1.2.1⟩ | exact kst1 _ q1.1.1 q1.1.2.1
                      clear hK K hHeld
                      have hHeld := hHeld2
                      clear hHeld2
                      try simp only [Act.put, List.setIfInBounds_toArray, List.set_cons_zero, List.set_cons_succ]
                      refine wpAnyH_take (i := 21) (oi := { dst := some 112, op := Op.indexAddr 22 (Operand.tmp 94) (Operand.tmp 98), type := 0, pos := "drat.go:83", after := #[{ on := 3, ground := Ground.data }, { on := 7, ground := Ground.data }, { on := 0, ground := Ground.phase }, { on := 1, ground := Ground.phase }, { on := 2, ground := Ground.phase }, { on := 3, ground := Ground.phase }, { on := 4, ground := Ground.phase }, { on := 5, ground := Ground.phase }, { on := 6, ground := Ground.phase }, { on := 7, ground := Ground.phase }, { on := 8, ground := Ground.phase }, { on := 9, ground := Ground.phase }, { on := 10, ground := Ground.phase }, { on := 11, ground := Ground.phase }, { on := 12, ground := Ground.phase }, { on := 13, ground := Ground.phase }, { on := 14, ground := Ground.phase }, { on := 15, ground := Ground.phase }, { on := 16, ground := Ground.phase }, { on := 17, ground := Ground.phase }, { on := 18, ground := Ground.phase }, { on := 19, ground := Ground.phase }, { on := 20, ground := Ground.phase }], guard := none }) (v := ?_) rfl (by kernel_rfl) (by kernel_rfl) (by kernel_rfl) (fun _ _ _ h => h) (Or.inl ⟨by rfl, ?_⟩) (by assumption) ?_
                      rotate_left
                      · intro w hSw; (try dsimp only at hSw); go_simp; all_goals with_reducible rfl
                      try simp only [Act.put, List.setIfInBounds_toArray, List.set_cons_zero, List.set_cons_succ]
                      refine wpAnyH_ready (rs := [22]) (by kernel_rfl) (by simp) ?_
                      refine AllReadyH.cons (o := { dst := none, op := Op.store 33 (Operand.tmp 112) (Operand.tmp 111), type := 0, pos := "drat.go:83", after := #[{ on := 21, ground := Ground.data }, { on := 20, ground := Ground.data }, { on := 20, ground := Ground.chain }, { on := 0, ground := Ground.phase }, { on := 1, ground := Ground.phase }, { on := 2, ground := Ground.phase }, { on := 3, ground := Ground.phase }, { on := 4, ground := Ground.phase }, { on := 5, ground := Ground.phase }, { on := 6, ground := Ground.phase }, { on := 7, ground := Ground.phase }, { on := 8, ground := Ground.phase }, { on := 9, ground := Ground.phase }, { on := 10, ground := Ground.phase }, { on := 11, ground := Ground.phase }, { on := 12, ground := Ground.phase }, { on := 13, ground := Ground.phase }, { on := 14, ground := Ground.phase }, { on := 15, ground := Ground.phase }, { on := 16, ground := Ground.phase }, { on := 17, ground := Ground.phase }, { on := 18, ground := Ground.phase }, { on := 19, ground := Ground.phase }, { on := 20, ground := Ground.phase }], guard := none }) rfl (fun K hK => ?_) ?_
                      · go_simp
                        refine hK.out _ _ ?_ (fun hHeld2 => ?_)
                        · (try dsimp only); first | go_keep | exact ⟨q1.1.1, q1.1.2.1⟩ | exact kst1 _ q1.1.1 q1.1.2.1
                        clear hK K hHeld
                        have hHeld := hHeld2
                        clear hHeld2
                        try simp only [Act.put, List.setIfInBounds_toArray, List.set_cons_zero, List.set_cons_succ]
                        refine wpAnyH_done (by kernel_rfl) ?_ _
                        refine NoPanic.normal ?_
                        go_wp2_with fail
                        go_end0
                        exact hfin _ q1.2
                      exact AllReadyH.nil
                    exact AllReadyH.nil
                  exact AllReadyH.nil
                exact AllReadyH.nil
              exact AllReadyH.nil
            refine AllReadyH.cons (o := { dst := some 110, op := Op.buildSlice 33 1 #[(0, Operand.tmp 109)], type := 33, pos := "drat.go:83", after := #[{ on := 18, ground := Ground.data }], guard := none }) rfl (fun K hK => ?_) ?_
            · go_simp
              refine hK.out _ _ ?_ (fun hHeld2 => ?_)
              · (try dsimp only); first | go_keep | exact ⟨q1.1.1, q1.1.2.1⟩ | exact kst1 _ q1.1.1 q1.1.2.1
              clear hK K hHeld
              have hHeld := hHeld2
              clear hHeld2
              try simp only [Act.put, List.setIfInBounds_toArray, List.set_cons_zero, List.set_cons_succ]
              refine wpAnyH_ready (rs := [7]) (by kernel_rfl) (by simp) ?_
              refine AllReadyH.cons (o := { dst := some 98, op := Op.call { callee := Callee.value (Operand.func 38), args := #[Operand.tmp 97], argTypes := #[3] }, type := 3, pos := "drat.go:83", after := #[{ on := 6, ground := Ground.data }], guard := none }) rfl (fun K hK => ?_) ?_
              · go_simp
                go_at_call 38; refine (hcd1 _).mono ?_; rintro e w' ⟨p1, p2⟩; rw [p1, p2]; clear p1 p2
                go_wp2_with fail
                refine hK.out _ _ ?_ (fun hHeld2 => ?_)
                · (try dsimp only); first | go_keep | exact ⟨q1.1.1, q1.1.2.1⟩ | exact kst1 _ q1.1.1 q1.1.2.1
                clear hK K hHeld
                have hHeld := hHeld2
                clear hHeld2
                try simp only [Act.put, List.setIfInBounds_toArray, List.set_cons_zero, List.set_cons_succ]
                refine wpAnyH_ready (rs := [15]) (by kernel_rfl) (by simp) ?_
                refine AllReadyH.cons (o := { dst := some 106, op := Op.call { callee := Callee.value (Operand.func 38), args := #[Operand.tmp 105], argTypes := #[3] }, type := 3, pos := "drat.go:83", after := #[{ on := 14, ground := Ground.data }, { on := 7, ground := Ground.chain }], guard := none }) rfl (fun K hK => ?_) ?_
                · go_simp
                  go_at_call 38; refine (hcd1 _).mono ?_; rintro e w' ⟨p1, p2⟩; rw [p1, p2]; clear p1 p2
                  go_wp2_with fail
                  refine hK.out _ _ ?_ (fun hHeld2 => ?_)
                  · (try dsimp only); first | go_keep | exact ⟨q1.1.1, q1.1.2.1⟩ | exact kst1 _ q1.1.1 q1.1.2.1
                  clear hK K hHeld
                  have hHeld := hHeld2
                  clear hHeld2
                  try simp only [Act.put, List.setIfInBounds_toArray, List.set_cons_zero, List.set_cons_succ]
                  refine wpAnyH_take (i := 16) (oi := { dst := some 107, op := Op.indexAddr 22 (Operand.tmp 102) (Operand.tmp 106), type := 0, pos := "drat.go:83", after := #[{ on := 11, ground := Ground.data }, { on := 15, ground := Ground.data }], guard := none }) (v := ?_) rfl (by kernel_rfl) (by kernel_rfl) (by kernel_rfl) (fun _ _ _ h => h) (Or.inl ⟨by rfl, ?_⟩) (by assumption) ?_
                  rotate_left
                  · intro w hSw; (try dsimp only at hSw); go_simp; all_goals with_reducible rfl
                  try simp only [Act.put, List.setIfInBounds_toArray, List.set_cons_zero, List.set_cons_succ]
                  refine wpAnyH_ready (rs := [17]) (by kernel_rfl) (by simp) ?_
                  refine AllReadyH.cons (o := { dst := some 108, op := Op.load 33 (Operand.tmp 107), type := 33, pos := "drat.go:83", after := #[{ on := 16, ground := Ground.data }], guard := none }) rfl (fun K hK => ?_) ?_
                  · go_simp
                    refine hK.out _ _ ?_ (fun hHeld2 => ?_)
                    · (try dsimp only); first | go_keep | exact ⟨q1.1.1, q1.1.2.1⟩ | exact kst1 _ q1.1.1 q1.1.2.1
                    clear hK K hHeld
                    have hHeld := hHeld2
                    clear hHeld2
                    try simp only [Act.put, List.setIfInBounds_toArray, List.set_cons_zero, List.set_cons_succ]
                    refine wpAnyH_ready (rs := [20]) (by kernel_rfl) (by simp) ?_
                    refine AllReadyH.cons (o := { dst := some 111, op := Op.call { callee := Callee.builtin Builtin.append, args := #[Operand.tmp 108, Operand.tmp 110], argTypes := #[33, 33] }, type := 33, pos := "drat.go:83", after := #[{ on := 17, ground := Ground.data }, { on := 19, ground := Ground.data }, { on := 15, ground := Ground.chain }], guard := none }) rfl (fun K hK => ?_) ?_
                    · refine step_append_lies _ (by rfl) _ _ _ (by rfl) cx.lo 3 i0 _ 1 8 Tryd.underlying33 hi0 hz0 hz1 hz2 rfl (by decide) wv1 _ _ (by rfl) ((ow1.alloc _).drew) ⟨wc.heap.size, 0, none⟩ 1 1 [.int .i64 (S.n : Int)] (by rfl) (by rfl) (World.news_of_block (cs := #[.int .i64 (S.n : Int)]) (t := 3) (fr := (0, 0)) (heap_alloc_new wc _)) (by simp [Value.oneCell']) (by decide) (by unfold maxLen; omega) (by omega) (by have := h8.lo_le; simp; omega) (wc.heap.size + 1) (by simp) ?_
                      intro gg cp w9 hown9 hgrow hat hlt9
                      have q1 := key1 _ gg cp w9 hown9 hgrow hat hlt9
                      have kf := q1.1.2.2.2
                      refine hK.out _ _ ?_ (fun hHeld2 => ?_)
                      · (try dsimp only); first | go_keep | exact ⟨q1.1.1, q1.1.2.1⟩ | exact kst1 _ q1.1.1 q1.1.2.1
                      clear hK K hHeld
                      have hHeld := hHeld2
                      clear hHeld2
                      try simp only [Act.put, List.setIfInBounds_toArray, List.set_cons_zero, List.set_cons_succ]
                      refine wpAnyH_take (i := 21) (oi := { dst := some 112, op := Op.indexAddr 22 (Operand.tmp 94) (Operand.tmp 98), type := 0, pos := "drat.go:83", after := #[{ on := 3, ground := Ground.data }, { on := 7, ground := Ground.data }, { on := 0, ground := Ground.phase }, { on := 1, ground := Ground.phase }, { on := 2, ground := Ground.phase }, { on := 3, ground := Ground.phase }, { on := 4, ground := Ground.phase }, { on := 5, ground := Ground.phase }, { on := 6, ground := Ground.phase }, { on := 7, ground := Ground.phase }, { on := 8, ground := Ground.phase }, { on := 9, ground := Ground.phase }, { on := 10, ground := Ground.phase }, { on := 11, ground := Ground.phase }, { on := 12, ground := Ground.phase }, { on := 13, ground := Ground.phase }, { on := 14, ground := Ground.phase }, { on := 15, ground := Ground.phase }, { on := 16, ground := Ground.phase }, { on := 17, ground := Ground.phase }, { on := 18, ground := Ground.phase }, { on := 19, ground := Ground.phase }, { on := 20, ground := Ground.phase }], guard := none }) (v := ?_) rfl (by kernel_rfl) (by kernel_rfl) (by kernel_rfl) (fun _ _ _ h => h) (Or.inl ⟨by rfl, ?_⟩) (by assumption) ?_
                      rotate_left
                      · intro w hSw; (try dsimp only at hSw); go_simp; all_goals with_reducible rfl
                      try simp only [Act.put, List.setIfInBounds_toArray, List.set_cons_zero, List.set_cons_succ]
                      refine wpAnyH_ready (rs := [22]) (by kernel_rfl) (by simp) ?_
                      refine AllReadyH.cons (o := { dst := none, op := Op.store 33 (Operand.tmp 112) (Operand.tmp 111), type := 0, pos := "drat.go:83", after := #[{ on := 21, ground := Ground.data }, { on := 20, ground := Ground.data }, { on := 20, ground := Ground.chain }, { on := 0, ground := Ground.phase }, { on := 1, ground := Ground.phase }, { on := 2, ground := Ground.phase }, { on := 3, ground := Ground.phase }, { on := 4, ground := Ground.phase }, { on := 5, ground := Ground.phase }, { on := 6, ground := Ground.phase }, { on := 7, ground := Ground.phase }, { on := 8, ground := Ground.phase }, { on := 9, ground := Ground.phase }, { on := 10, ground := Ground.phase }, { on := 11, ground := Ground.phase }, { on := 12, ground := Ground.phase }, { on := 13, ground := Ground.phase }, { on := 14, ground := Ground.phase }, { on := 15, ground := Ground.phase }, { on := 16, ground := Ground.phase }, { on := 17, ground := Ground.phase }, { on := 18, ground := Ground.phase }, { on := 19, ground := Ground.phase }, { on := 20, ground := Ground.phase }], guard := none }) rfl (fun K hK => ?_) ?_
                      · go_simp
                        refine hK.out _ _ ?_ (fun hHeld2 => ?_)
                        · (try dsimp only); first | go_keep | exact ⟨q1.1.1, q1.1.2.1⟩ | exact kst1 _ q1.1.1 q1.1.2.1
                        clear hK K hHeld
                        have hHeld := hHeld2
                        clear hHeld2
                        try simp only [Act.put, List.setIfInBounds_toArray, List.set_cons_zero, List.set_cons_succ]
                        refine wpAnyH_done (by kernel_rfl) ?_ _
                        refine NoPanic.normal ?_
                        go_wp2_with fail
                        go_end0
                        exact hfin _ q1.2
                      exact AllReadyH.nil
                    exact AllReadyH.nil
                  exact AllReadyH.nil
                exact AllReadyH.nil
              exact AllReadyH.nil
            exact AllReadyH.nil
end Go.Proofs.YtagfnjpjmmleiaaDoor

/- Sat: propagating (spread): the watched rows in memory. -/
import Derived.Test.YtkpppmldbhgcgaaSbFtoSbG
import Derived.Test.YtkpppmldbhgcgaaSbE
import Derived.Test.YtkpppmldbhgcgaaSbAtoSaS
import Derived.BigRegion
import Derived.Deep.LoopGhost
set_option linter.unusedVariables false
set_option linter.unusedSimpArgs false
set_option autoImplicit false
set_option linter.unusedVariables false
set_option linter.unusedSimpArgs false
namespace Go.Proofs.Ytkpppmldbhgcgaa
open Go Go.RowKit
/-- append within the capacity, in terms of cells -/
theorem wpList_append_cells {P : Program} (w : World) {ops : Array Oper} {rest : List Oper} {o : Oper} {a : Act} {Q : Exit → Act → World → Prop}
    (hg : o.guard = none) (s x : Operand) (t : TypeId) (hop : o.op = Op.call { callee := Callee.builtin Builtin.append, args := #[s, x], argTypes := #[t, t] })
    (e : TypeId) (i : TypeInfo) (h1 : P.underlying t = some (.slice e)) (h2 : P.info? e = some i) (h4 : i.size = 1)
    (g k cap : Nat) (hs : a.eval s = .slice (some ⟨g, 0, none⟩) k cap) (ad : Addr) (m c : Nat) (news : List Value) (hx : a.eval x = .slice (some ad) m c) (hn : news.length = m)
    (hc : ∀ j u, news[j]? = some u → w.cell? (ad.add j) = some u) (h1c : ∀ u ∈ news, u.oneCell' = true) (b1 : k + m ≤ cap) (hthere : ∀ j, j < m → (w.cell? ⟨g, k + j, none⟩).isSome = true ∧ w.frozen? ⟨g, k + j, none⟩ = false)
    (hK : wpList P ops Q rest (a.put o.dst (.slice (some ⟨g, 0, none⟩) (k + m) cap)) (w.setCells g k news)) :
    wpList P ops Q (o :: rest) a w := by
  refine wpList_plain hg fun K hK' => ?_
  have hrun := run_append_room_cells (P := P) w t o.type e i h1 h2 g 0 k cap ad m c news (by rw [h4, hn, Nat.mul_one]) hc h1c b1 (fun j hj => by rw [h4, Nat.mul_one, Nat.zero_add]; exact (hthere j (by omega)).1) (fun j hj => by rw [h4, Nat.mul_one, Nat.zero_add]; exact (hthere j (by omega)).2)
  rw [h4, Nat.mul_one, Nat.zero_add] at hrun
  unfold Oper.wp
  simp [execOp, hop, resolve, invoke, builtin, hs, hx, hrun, Result.andThen]
  exact hK' _ _ hK
variable {lo n : Nat} {w : World} {own : Nat → Option Tg} {rv : Tg → Value} {S : Sz}
/-- where a watched row's head lies -/
theorem Rep.wrHead (h : Sol lo w own rv S) {b p W N : Nat} {ws : List Nat} (hb : rv .x = .pointer (some ⟨b, 0, none⟩)) (hw : S.watch[p]? = some ws) (hW : S.watch.length = W) (hN : ws.length = N) :
    ∃ gt ct a c, HeadAt w own rv .wt .x b 5 W (some ⟨gt, 0, none⟩) ct ∧ HeadAt w own rv (.wr p) .wt gt p N a c ∧ own gt = some .wt := by
  have hpl : p < S.watch.length := len_of hw
  have hn : (mem S .wt).n = W := by show ((List.range S.watch.length).map _).length = W; rw [List.length_map, List.length_range, hW]
  obtain ⟨a5, c5, H5⟩ := h.headX (T := .wt) (m := 5) hb rfl rfl hn
  obtain ⟨gw, rfl, hlw, _⟩ := H5.at_ (by omega)
  have hcw : (mem S .wt).cs[p]? = some (AC.ref (.wr p)) := by
    show ((List.range S.watch.length).map fun c => (AC.ref (Tg.wr c) : AC Tg))[p]? = _
    rw [List.getElem?_map, List.getElem?_range hpl]; rfl
  have hnr : (mem S (.wr p)).n = N := by rw [mem_wr hw]; show (ws.map pr).length = _; rw [List.length_map, hN]
  obtain ⟨ar, cr, HR⟩ := h.headAt (T := .wr p) (p := .wt) (b := gw) (m := p) rfl (by rw [H5.val]; rfl) hcw (by intro e; cases e) hnr
  exact ⟨gw, c5, ar, cr, H5, HR, hlw⟩
theorem wt_ref (S : Sz) {p : Nat} (hp : p < S.watch.length) : (mem S .wt).cs[p]? = some (AC.ref (.wr p)) := by
  show ((List.range S.watch.length).map fun c => (AC.ref (Tg.wr c) : AC Tg))[p]? = _
  rw [List.getElem?_map, List.getElem?_range hp]; rfl
/-- a clause is kept: written where the kept ones end -/
theorem Rep.keepW (h : Sol lo w own rv S) {own0 : Nat → Option Tg} {w0 : World} (hF : Frm own0 own w0 w) {p j c g N cw : Nat} {ws : List Nat} (hw : S.watch[p]? = some ws) (hv : rv (.wr p) = .slice (some ⟨g, 0, none⟩) N cw) (hj : j < ws.length) {cb : Nat} (hc : rv (.cl c) = .pointer (some ⟨cb, 0, none⟩)) (o : Obj) :
    Sol lo ((w.alloc o).setCell ⟨g, j, none⟩ (.pointer (some ⟨cb, 0, none⟩))) own rv (setW S p j c) ∧ Frm own0 own w0 ((w.alloc o).setCell ⟨g, j, none⟩ (.pointer (some ⟨cb, 0, none⟩))) := by
  have := (h.alloc o).wr (T := .wr p) (g := g) (m := j) (a := pr c) (S' := setW S p j c) (by rw [hv]; rfl) (by rw [mem_wr hw]; show j < (ws.map pr).length; rw [List.length_map]; exact hj) (by
    unfold setW
    rw [mem_watch_ S p _ (len_of hw), List.map_set, List.getD_eq_getElem?_getD, hw, mem_wr hw]
    rfl) (mem_n _ _ (by intro e; cases e)) (hF.alloc o)
  rw [show conc rv (pr c) = rv (.cl c) from rfl, hc] at this
  exact this
/-- the row that is kept is stored -/
theorem Rep.cutW (h : Sol lo w own rv S) {own0 : Nat → Option Tg} {w0 : World} (hF : Frm own0 own w0 w) {p j gt W ct N cw : Nat} {ws : List Nat} {aw : Option Addr} (hw : S.watch[p]? = some ws) (hN : ws.length = N) (hvt : rv .wt = .slice (some ⟨gt, 0, none⟩) W ct) (hgt : own gt = some .wt) (hv : rv (.wr p) = .slice aw N cw) (hj : j ≤ N) :
    Sol lo (w.setCell ⟨gt, p, none⟩ (.slice aw j cw)) own (upd rv (.wr p) (.slice aw j cw)) { S with watch := S.watch.set p (ws.take j) } ∧ Frm own0 own w0 (w.setCell ⟨gt, p, none⟩ (.slice aw j cw)) := by
  have hpl := len_of hw
  have hn : (mem S (.wr p)).n = N := by rw [mem_wr hw]; show (ws.map pr).length = _; rw [List.length_map, hN]
  have hmem : mem { S with watch := S.watch.set p (ws.take j) } = upd (mem S) (.wr p) ⟨j, (mem S (.wr p)).cs.take (j * 1)⟩ := by
    rw [mem_watch_ S p _ hpl, List.map_take, mem_wr hw]
    unfold Ytkpppmldbhgcgaa.row
    rw [List.length_take, List.length_map, hN, Nat.min_eq_left hj, Nat.mul_one]
  refine ⟨?_, hF.setCell hgt _⟩
  rcases h.row (t := .wr p) rfl with ⟨e1, e2, e3⟩ | ⟨g, cap, e1, _⟩
  · -- a row that is nil
    rw [e1] at hv
    cases hv
    obtain rfl : j = 0 := by omega
    have hput := h.put (t := .wt) (b := gt) (m := p) hgt (by rw [hvt]; rfl) (AC.ref (.wr p)) (fun e => by
      have e' := wt_ref S hpl
      rw [e] at e'; cases e')
    have e4 : (⟨(mem S .wt).n, (mem S .wt).cs.set p (AC.ref (.wr p))⟩ : Ob Tg) = mem S .wt := by
      have : (mem S .wt).cs.set p (AC.ref (.wr p)) = (mem S .wt).cs := by
        apply List.ext_getElem?
        intro k
        rw [List.getElem?_set]
        split
        · rename_i e; subst e
          split
          · exact (wt_ref S hpl).symm
          · rename_i hx; exact absurd (len_of (wt_ref S hpl)) hx
        · rfl
      rw [this]
    rw [e4] at hput
    have e5 : upd (mem S) .wt (mem S .wt) = mem S := by
      funext t
      by_cases e : t = .wt
      · subst e; exact upd_same ..
      · exact upd_other _ _ e
    rw [e5, show conc rv (AC.ref (Tg.wr p)) = _ from e1] at hput
    have e6 : upd rv (.wr p) (.slice none 0 0) = rv := by
      funext t
      by_cases e : t = .wr p
      · subst e; rw [upd_same, e1]
      · exact upd_other _ _ e
    rw [e6, Sol, hmem]
    have e7 : upd (mem S) (.wr p) ⟨0, (mem S (.wr p)).cs.take (0 * 1)⟩ = mem S := by
      funext t
      by_cases e : t = .wr p
      · subst e
        rw [upd_same]
        have e8 : mem S (.wr p) = ⟨(mem S (.wr p)).n, (mem S (.wr p)).cs⟩ := rfl
        rw [e8, e2, e3]
        rfl
      · exact upd_other _ _ e
    rw [e7]
    exact hput
  · rw [hn] at e1
    rw [e1] at hv
    cases hv
    have := h.cut (T := .wr p) (p := .wt) (b := gt) (m := p) (g := g) (cap := cw) (k := j) rfl (by rw [hn]; exact e1) (by rw [hn]; exact hj) (by intro e; cases e) (by rw [hvt]; rfl) (wt_ref S hpl) (ref_uniq S rfl rfl)
    rw [Sol, hmem]
    exact this
/-- a row that was made anew in its own block is stored -/
theorem Rep.newW (h : Sol lo w own rv S) {own0 : Nat → Option Tg} {w0 : World} (hF : Frm own0 own w0 w) {p gt W ct N cw n' g : Nat} {ws ws' : List Nat} (hw : S.watch[p]? = some ws) (hvt : rv .wt = .slice (some ⟨gt, 0, none⟩) W ct) (hgt : own gt = some .wt) (hv : rv (.wr p) = .slice (some ⟨g, 0, none⟩) N cw) {w1 : World}
    (q1 : w1.ownsRow lo 76 1 (.slice (some ⟨g, 0, none⟩) n' cw) n' (concs rv (ws'.map pr))) (q2 : w.grownBy w1 (some g)) (hn' : ws'.length = n') :
    (w1.cell? ⟨gt, p, none⟩ = w.cell? ⟨gt, p, none⟩ ∧ w1.frozen? ⟨gt, p, none⟩ = false) ∧ Sol lo (w1.setCell ⟨gt, p, none⟩ (.slice (some ⟨g, 0, none⟩) n' cw)) own (upd rv (.wr p) (.slice (some ⟨g, 0, none⟩) n' cw)) { S with watch := S.watch.set p ws' } ∧ Frm own0 own w0 (w1.setCell ⟨gt, p, none⟩ (.slice (some ⟨g, 0, none⟩) n' cw)) := by
  have hpl := len_of hw
  obtain ⟨b', e, hlb, hlo, hbw, k1, k2⟩ := h.cell (wt_ref S hpl)
  rw [hvt] at e
  cases e
  have hlg : own g = some (.wr p) := ((h.part (.wr p)).1 rfl).lab g (by rw [hv]; rfl)
  have hne : gt ≠ g := apart hgt hlg (by intro e; cases e)
  have hblk := q2.block gt hbw (by intro e; exact hne (Option.some.inj e))
  have hm := h.move (T := .wr p) (p := .wt) (b := gt) (m := p) (g := g) (cap := cw) (n' := n') (cs' := ws'.map pr) rfl ⟨q1, by rw [hv]; exact q2, .inl (by rw [hv]; rfl)⟩ (by intro e; cases e) (by rw [hvt]; rfl) (wt_ref S hpl) (ref_uniq S rfl rfl) (fun k hk => by
    rw [List.getElem?_map] at hk
    cases e : ws'[k]? with
    | none => rw [e] at hk; cases hk
    | some a => rw [e] at hk; cases hk)
  rw [lab_self hlg] at hm
  refine ⟨⟨World.cell?_of_block (a := ⟨gt, p, none⟩) hblk, (World.frozen?_of_block (a := ⟨gt, p, none⟩) hblk).trans k2⟩, ?_, ?_⟩
  · rw [Sol, mem_watch_ S p _ hpl]
    have e : (⟨n', ws'.map pr⟩ : Ob Tg) = Ytkpppmldbhgcgaa.row (ws'.map pr) := by unfold Ytkpppmldbhgcgaa.row; rw [List.length_map, hn']
    rw [← e]
    exact hm
  · have h2 : Frm own0 own w0 w1 := ⟨q2.os.trans hF.os, q2.tape.trans hF.tape, q2.output.trans hF.output, Nat.le_trans hF.size q2.size, hF.lab, fun k hk e => (q2.block k (Nat.lt_of_lt_of_le hk hF.size) (by
      intro e2
      have e3 := Option.some.inj e2
      have := hF.lab k hk
      rw [e3, hlg, ← e3, e] at this
      cases this)).trans (hF.keep k hk e)⟩
    exact h2.setCell hgt _
end Go.Proofs.Ytkpppmldbhgcgaa
/- Sat: a variable was in a conflict (raise). -/
set_option autoImplicit false
set_option linter.unusedVariables false
set_option linter.unusedSimpArgs false
namespace Go.Proofs.Ytkpppmldbhgcgaa
open Go Go.RowKit
variable {lo n : Nat} {w : World} {own : Nat → Option Tg} {rv : Tg → Value} {S : Sz}
theorem cm100_read : ∃ k f, Ieee.double.read cm100 = .number false k f ∧ k ≠ 0 := ⟨_, _, rfl, by decide⟩
theorem c95_read : ∃ k f, Ieee.double.read c95 = .number false k f ∧ k ≠ 0 := ⟨_, _, rfl, by decide⟩
theorem fMul_cm {a : Nat} (ha : PosW a) : floatBits .mul .f64 a cm100 = some (fMul a cm100) ∧ PosW (fMul a cm100) := by
  obtain ⟨k, f, h1, h2⟩ := cm100_read
  exact fMul_ok ha h1 h2
theorem fDiv_95 {a : Nat} (ha : PosW a) : floatBits .quo .f64 a c95 = some (fDiv a c95) ∧ PosW (fDiv a c95) := by
  obtain ⟨k, f, h1, h2⟩ := c95_read
  exact fDiv_ok ha h1 h2
/-- a score is written -/
theorem Rep.putSc (h : Sol lo w own rv S) {g k c i : Nat} (hv : rv .sc = .slice (some ⟨g, 0, none⟩) k c) (hi : i < S.sc.length) (x : Nat) {own0 : Nat → Option Tg} {w0 : World} (hF : Frm own0 own w0 w) : Sol lo (w.setCell ⟨g, i, none⟩ (.float .f64 x)) own rv { S with sc := S.sc.set i x } ∧ Frm own0 own w0 (w.setCell ⟨g, i, none⟩ (.float .f64 x)) :=
  h.wr (T := .sc) (g := g) (m := i) (a := .val (.float .f64 x)) (by rw [hv]; rfl) (by show i < (S.sc.map _).length; rw [List.length_map]; exact hi) (by rw [mem_sc_, List.map_set]; rfl) rfl hF
theorem Rep.putBump (h : Sol lo w own rv S) {b : Nat} (hb : rv .x = .pointer (some ⟨b, 0, none⟩)) (x : Nat) {own0 : Nat → Option Tg} {w0 : World} (hF : Frm own0 own w0 w) : Sol lo (w.setCell ⟨b, 13, none⟩ (.float .f64 x)) own rv { S with bump := x } ∧ Frm own0 own w0 (w.setCell ⟨b, 13, none⟩ (.float .f64 x)) :=
  h.wr (T := .x) (g := b) (m := 13) (a := .val (.float .f64 x)) (by rw [hb]; rfl) (by show 13 < 18; omega) (by rw [mem_bump_]; rfl) rfl hF
/-- the scores, of which the first i are turned -/
def scAt (sc : List Nat) (i : Nat) : List Nat := (sc.take i).map (fun x => fMul x cm100) ++ sc.drop i
theorem scAt_len (sc : List Nat) (i : Nat) : (scAt sc i).length = sc.length := by unfold scAt; simp; omega
theorem scAt_get {sc : List Nat} {i : Nat} {x : Nat} (h : sc[i]? = some x) : (scAt sc i)[i]? = some x := by
  unfold scAt
  rw [List.getElem?_append_right (by simp; omega)]
  simp only [List.length_map, List.length_take, List.getElem?_drop]
  have := len_of h
  rw [Nat.min_eq_left (by omega), Nat.sub_self, Nat.add_zero]
  exact h
theorem scAt_succ {sc : List Nat} {i : Nat} {x : Nat} (h : sc[i]? = some x) : (scAt sc i).set i (fMul x cm100) = scAt sc (i + 1) := by
  have hlt := len_of h
  apply List.ext_getElem?
  intro k
  unfold scAt
  rw [List.getElem?_set]
  by_cases e : i = k
  · subst e
    rw [if_pos rfl, if_pos (by simp; omega), List.getElem?_append_left (by simp; omega), List.getElem?_map, List.getElem?_take, if_pos (by omega), h]
    rfl
  · rw [if_neg e]
    simp only [List.getElem?_append, List.length_map, List.length_take, List.getElem?_map, List.getElem?_take, List.getElem?_drop]
    by_cases h1 : k < i
    · rw [if_pos (by omega), if_pos (by omega), if_pos (by omega), if_pos (by omega)]
    · rw [if_neg (by omega), if_neg (by omega)]
      congr 1
      omega
theorem scAt_zero (sc : List Nat) : scAt sc 0 = sc := by unfold scAt; simp
theorem scAt_end (sc : List Nat) : scAt sc sc.length = sc.map (fun x => fMul x cm100) := by unfold scAt; simp
/-- the order alone has turned -/
def SameO (S S' : Sz) : Prop := S' = { S with ov := S'.ov, pl := S'.pl }
theorem SameO.refl (S : Sz) : SameO S S := rfl
theorem SameO.trans {a b c : Sz} (h : SameO a b) (k : SameO b c) : SameO a c := by
  unfold SameO at *
  rw [k, h]
theorem swap_same (S : Sz) (i j : Nat) : SameO S (swapZ S i j) := rfl
theorem downF_same : ∀ (f : Nat) (S : Sz) (i m : Nat), SameO S (downF f S i m).1
  | 0, S, i, m => rfl
  | f + 1, S, i, m => by
    unfold downF
    split
    · exact SameO.refl S
    · split
      · exact (swap_same S _ _).trans (downF_same f _ _ _)
      · exact SameO.refl S
theorem upF_same : ∀ (f : Nat) (S : Sz) (i : Nat), SameO S (upF f S i)
  | 0, S, i => rfl
  | f + 1, S, i => by
    unfold upF
    split
    · exact SameO.refl S
    · split
      · exact (swap_same S _ _).trans (upF_same f _ _)
      · exact SameO.refl S
theorem down_same (S : Sz) (i m : Nat) : SameO S (downZ S i m).1 := downF_same _ S i m
theorem up_same (S : Sz) (i : Nat) : SameO S (upZ S i) := upF_same _ S i
theorem fix_same (S : Sz) (i : Nat) : SameO S (fixZ S i) := by
  unfold fixZ
  split
  · exact down_same S i _
  · exact (down_same S i _).trans (up_same _ i)
theorem pop_same (S : Sz) : SameO S (popZ S) := rfl
theorem push_same (S : Sz) (v : Nat) : SameO S (pushZ S v) := rfl
theorem wf_same {S S' : Sz} (wf : WF n S) (h : SameO S S') (ho : OrdOK n S') : WF n S' := by
  have e : S' = { S with ov := S'.ov, pl := S'.pl } := h
  exact ⟨ho, by rw [e]; exact wf.vals, by rw [e]; exact wf.lev, by rw [e]; exact wf.rea, by rw [e]; exact wf.sav, by rw [e]; exact wf.seen, by rw [e]; exact wf.watch, by rw [e]; exact wf.bump, by rw [e]; exact wf.scp⟩
theorem raiseS_wf (wf : WF n S) {v s : Nat} (hs : S.sc[v]? = some s) : WF n (raiseS S v s) := by
  have hps : PosW s := wf.scp s (List.mem_of_getElem? hs)
  have hA := (fAdd_ok hps wf.bump).2
  have w1 : WF n { S with sc := S.sc.set v (fAdd s S.bump) } :=
    ⟨⟨wf.ord.big, by show (S.sc.set _ _).length = n; rw [List.length_set]; exact wf.ord.sc, wf.ord.pl, wf.ord.ov, wf.ord.ovl⟩, wf.vals, wf.lev, wf.rea, wf.sav, wf.seen, wf.watch, wf.bump, fun x hx => by
      rcases List.mem_or_eq_of_mem_set hx with h | h
      · exact wf.scp x h
      · rw [h]; exact hA⟩
  unfold raiseS
  split
  · exact ⟨⟨wf.ord.big, by show (List.map _ _).length = n; rw [List.length_map]; exact w1.ord.sc, wf.ord.pl, wf.ord.ov, wf.ord.ovl⟩, wf.vals, wf.lev, wf.rea, wf.sav, wf.seen, wf.watch, (fMul_cm wf.bump).2, fun x hx => by
        obtain ⟨y, hy, rfl⟩ := List.mem_map.1 hx
        exact (fMul_cm (w1.scp y hy)).2⟩
  · exact w1
theorem raiseS_ov (S : Sz) (v s : Nat) : (raiseS S v s).ov = S.ov ∧ (raiseS S v s).pl = S.pl := by unfold raiseS; split <;> exact ⟨rfl, rfl⟩
theorem raiseO_wf (wf : WF n S) {v : Nat} {S' : Sz} (h : raiseO S v = some S') : WF n S' := by
  unfold raiseO at h
  obtain ⟨s, hs, h⟩ := Option.bind_eq_some_iff.1 h
  obtain ⟨p, hp, h⟩ := Option.bind_eq_some_iff.1 h
  have w3 := raiseS_wf wf hs
  split at h
  · split at h
    · rename_i hlt
      cases h
      exact wf_same w3 (fix_same _ _) (fix_ok w3.ord (by rw [(raiseS_ov S v s).1]; exact hlt))
    · cases h
  · cases h; exact w3
end Go.Proofs.Ytkpppmldbhgcgaa
/- Sat: the next variable (decide). -/
set_option autoImplicit false
set_option linter.unusedVariables false
set_option linter.unusedSimpArgs false
namespace Go.Proofs.Ytkpppmldbhgcgaa
open Go Go.RowKit
variable {lo n : Nat} {w : World} {own : Nat → Option Tg} {rv : Tg → Value} {S : Sz}
theorem hpopO_wf (wf : WF n S) {r : Int × Sz} (h : hpopO S = some r) : WF n r.2 ∧ SameO S r.2 ∧ r.2.ov.length + 1 = S.ov.length ∧ 0 ≤ r.1 ∧ r.1 < n := by
  unfold hpopO at h
  split at h
  · cases h
  · rename_i h0
    cases h
    obtain ⟨L, hL⟩ : ∃ L, S.ov.length = L + 1 := ⟨S.ov.length - 1, by omega⟩
    rw [hL, Nat.add_sub_cancel]
    have ho1 := swap_ok wf.ord (i := 0) (j := L) (by omega) (by omega)
    have hl1 := swap_len S 0 L
    have hd := down_ok ho1 (i := 0) (m := L) (by omega) (by omega)
    have hs : SameO S (popZ (downZ (swapZ S 0 L) 0 L).1) := ((swap_same S 0 L).trans (down_same _ 0 L)).trans (pop_same _)
    have hov := hd.1.ov ((downZ (swapZ S 0 L) 0 L).1.ov.length - 1) (by omega)
    refine ⟨wf_same wf hs (pop_ok hd.1), hs, ?_, hov.1, hov.2⟩
    show ((downZ (swapZ S 0 L) 0 L).1.ov.take _).length + 1 = _
    rw [List.length_take]; omega
set_option maxHeartbeats 16000000 in
set_option maxRecDepth 1000000 in
theorem decide_walk (h : Sol lo w own rv S) (wf : WF n S) {r : Int × Sz} (hf : decideO S = some r) :
    Calls Try.prog 35 #[rv .x] w fun e w' => e = .returned (.int .i64 r.1) ∧ (∃ v', Sol lo w' own (upd rv .ov v') r.2) ∧ Frm own own w w' := by
  obtain ⟨b, hb, hlx, hlob, hbw⟩ := h.xb
  unfold decideO at hf
  have hbig := wf.ord.big
  have hid : upd rv .ov (rv .ov) = rv := by
    funext t
    by_cases e : t = .ov
    · subst e; exact upd_same ..
    · exact upd_other _ _ e
  have hupd : ∀ a c, upd (upd rv .ov a) .ov c = upd rv .ov c := fun a c => by
    funext t
    by_cases e : t = .ov
    · subst e; rw [upd_same, upd_same]
    · rw [upd_other _ _ e, upd_other _ _ e, upd_other _ _ e]
  have hx : ∀ v', upd rv .ov v' .x = .pointer (some ⟨b, 0, none⟩) := fun v' => by rw [upd_other _ _ (by intro e; cases e)]; exact hb
  have hstep : ∀ (f : Nat) (S1 : Sz) (v1 : Value) (w1 : World), Sol lo w1 own (upd rv .ov v1) S1 → WF n S1 → Frm own own w w1 → decideF f S1 = some r →
      Calls Try.prog 53 #[.pointer (some ⟨b, 0, none⟩)] w1 (fun e w' => e = .returned (.int .i64 S1.ov.length) ∧ w' = w1) ∧
      (S1.ov.length = 0 → r.1 = 0 ∧ (∃ v', Sol lo w1 own (upd rv .ov v') r.2)) ∧
      (S1.ov.length ≠ 0 → ∃ (q : Int × Sz) (u : Int) (f' : Nat) (m : Nat), f = f' + 1 ∧ q.1 = m ∧ m < n ∧ q.2.ov.length + 1 = S1.ov.length ∧ Calls Try.prog 54 #[.iface 69 (.pointer (some ⟨b, 0, none⟩))] w1 (fun e w' => e = .returned (.iface 3 (.int .i64 m)) ∧ (∃ g6 c6, n ≤ c6 ∧ w'.cell? ⟨b, 6, none⟩ = some (.slice (some ⟨g6, 0, none⟩) n c6) ∧ w'.cell? ⟨g6, m, none⟩ = some (.int .i8 u)) ∧ (∃ v', Sol lo w' own (upd rv .ov v') q.2) ∧ Frm own own w w') ∧ WF n q.2 ∧
        (u = 0 → r = ((m : Int), q.2)) ∧ (u ≠ 0 → decideF f' q.2 = some r)) := by
    intro f S1 v1 w1 hs wf1 hF hd
    have hl := len_walk hs wf1.ord
    rw [hx] at hl
    refine ⟨hl, fun h0 => ?_, fun h0 => ?_⟩
    · cases f with
      | zero => cases hd
      | succ f =>
        unfold decideF at hd
        rw [if_pos h0] at hd
        cases hd
        exact ⟨rfl, _, hs⟩
    · cases f with
      | zero => cases hd
      | succ f =>
        unfold decideF at hd
        rw [if_neg h0] at hd
        obtain ⟨q, hq, hd⟩ := Option.bind_eq_some_iff.1 hd
        obtain ⟨u, hu, hd⟩ := Option.bind_eq_some_iff.1 hd
        obtain ⟨wf2, hsm, hlen, hp0, hp1⟩ := hpopO_wf wf1 hq
        obtain ⟨m, hm⟩ : ∃ m : Nat, q.1 = m := ⟨q.1.toNat, by omega⟩
        have hpw := hpop_walk hs wf1.ord hq
        rw [hx, hm] at hpw
        refine ⟨q, u, f, m, rfl, hm, by omega, hlen, ?_, wf2, fun hu0 => ?_, fun hu0 => ?_⟩
        · refine hpw.mono ?_
          rintro e w' ⟨p1, ⟨v', p2⟩, p3⟩
          have hn6 : (mem q.2 .vals).n = n := by show (q.2.vals.map _).length = n; rw [List.length_map]; exact wf2.vals.1
          have hb' : upd (upd rv .ov v1) .ov v' .x = .pointer (some ⟨b, 0, none⟩) := by rw [hupd]; exact hx v'
          obtain ⟨a6, c6, H6⟩ := p2.headX (T := .vals) (m := 6) hb' rfl rfl hn6
          obtain ⟨g6, rfl, _⟩ := H6.at_ (by omega)
          refine ⟨p1, ⟨g6, c6, H6.le, H6.cell, (p2.hcell H6.val (u := .val (.int .i8 u)) (map_get (by rw [hm] at hu; exact hu))).1⟩, ⟨v', ?_⟩, hF.trans p3⟩
          rw [hupd] at p2
          exact p2
        · rw [if_pos hu0] at hd
          cases hd
          rw [hm]
        · rw [if_neg hu0] at hd
          exact hd
  have hH := Hid'.mk hstep
  have hself : Sol lo w own (upd rv .ov (rv .ov)) S := by rw [hid]; exact h
  rw [hb]
  clear h hlx hstep hid hx hupd
  go_enter Try.func35, Try.ntmps35
  go_wp2
  go_loopg [] (S.ov.length + 1) (fun k wr => ∃ (S1 : Sz) (v1 : Value), Sol lo wr own (upd rv .ov v1) S1 ∧ WF n S1 ∧ Frm own own w wr ∧ decideF k S1 = some r)
  case atStart => exact ⟨S, _, hself, wf, Frm.refl _ _, hf⟩
  case round =>
    obtain ⟨S1, v1, hs, wf1, hF, hd⟩ := hrel
    obtain ⟨k1, k2, k3⟩ := hH.h gk S1 v1 wr hs wf1 hF hd
    obtain ⟨L, hL⟩ : ∃ L, S1.ov.length = L := ⟨_, rfl⟩
    rw [hL] at k1 k2 k3
    by_cases h0 : L = 0
    · obtain ⟨e1, e2⟩ := k2 h0
      subst h0
      have hE := Hid'.mk (And.intro e1 (And.intro e2 hF))
      clear k2 k3 hs hd e1 e2 hF hf hH hself wf1 wf hL
      go_wp2_with (go_at_call 53; refine k1.mono ?_; rintro e w2 ⟨p1, p2⟩; rw [p1, p2]; clear p1 p2)
      go_ret
      exact ⟨by rw [hE.h.1]; rfl, hE.h.2.1, hE.h.2.2⟩
    · obtain ⟨q, u, f', m, hgk, hm, hmn, hlen, hpop, wf2, t1, t2⟩ := k3 h0
      have hL0 : (0 : Int) < L := by omega
      have hta : ∀ W : World, (Instr.typeAssert (.iface 3 (.int .i64 (m : Int))) 20 3 false).run Try.prog W = .ok (.int .i64 m) W := fun W => by first | rfl | kernel_rfl | simp [Instr.typeAssert]
      have hmI : (m : Int) < n := by omega
      by_cases hu0 : u = 0
      · have t3 := Hid'.mk (t1 hu0)
        subst hu0
        clear t1 hm hgk k2 k3 hs hd hF hf hH hself wf1 wf hL t2 hlen
        go_wp2_with (first | (go_at_call 53; refine k1.mono ?_; rintro e w2 ⟨p1, p2⟩; rw [p1, p2]; clear p1 p2) | (go_at_call 54; refine hpop.mono ?_; rintro e w3 ⟨p1, ⟨g6, c6, p2, p3, p4⟩, p5, p6⟩; rw [p1]; clear p1))
        go_ret
        exact ⟨by rw [t3.h]; rfl, by rw [t3.h]; exact p5, p6⟩
      · have t3 := Hid'.mk (And.intro (t2 hu0) (And.intro hgk wf2))
        clear t1 t2 hm hgk k2 k3 hs hd hF hf hH hself wf1 wf hL hlen wf2
        go_wp2_with (first | (go_at_call 53; refine k1.mono ?_; rintro e w2 ⟨p1, p2⟩; rw [p1, p2]; clear p1 p2) | (go_at_call 54; refine hpop.mono ?_; rintro e w3 ⟨p1, ⟨g6, c6, p2, p3, p4⟩, p5, p6⟩; rw [p1]; clear p1))
        obtain ⟨t4, t5, t6⟩ := t3.h
        obtain ⟨v5, p5⟩ := p5
        go_roundg f'
        case measure => omega
        case rel => exact ⟨q.2, v5, p5, t6, p6, t4⟩
end Go.Proofs.Ytkpppmldbhgcgaa

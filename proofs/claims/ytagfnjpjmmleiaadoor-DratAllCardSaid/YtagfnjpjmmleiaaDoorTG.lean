/- Drat: the checker propagates. -/
import Derived.Test.YtagfnjpjmmleiaaDoorTF
import Derived.ArgAppend
set_option linter.unusedVariables false
set_option linter.unusedSimpArgs false
set_option autoImplicit false
set_option linter.unusedVariables false
set_option linter.unusedSimpArgs false
namespace Go.Proofs.YtagfnjpjmmleiaaDoor
open Go.Shelf Go.RowKit
/-- append within the capacity, in terms of cells -/
theorem wpList_append_cells {P : Program} (w : World) {ops : Array Oper} {rest : List Oper} {o : Oper} {a : Act} {Q : Exit → Act → World → Prop}
    (hg : o.guard = none) (s x : Operand) (t : TypeId) (hop : o.op = Op.call { callee := Callee.builtin Builtin.append, args := #[s, x], argTypes := #[t, t] })
    (e : TypeId) (i : TypeInfo) (h1 : P.underlying t = some (.slice e)) (h2 : P.info? e = some i) (h4 : i.size = 1)
    (g k cap : Nat) (hs : a.eval s = .slice (some ⟨g, 0, none⟩) k cap) (ad : Addr) (m c : Nat) (news : List Value) (hx : a.eval x = .slice (some ad) m c) (hn : news.length = m)
    (hc : ∀ j u, news[j]? = some u → w.cell? (ad.add j) = some u) (h1c : ∀ u ∈ news, u.oneCell' = true) (b1 : k + m ≤ cap) (hthere : ∀ j, j < m → (w.cell? ⟨g, k + j, none⟩).isSome = true ∧ w.frozen? ⟨g, k + j, none⟩ = false)
    (hK : wpList P ops Q rest (a.put o.dst (.slice (some ⟨g, 0, none⟩) (k + m) cap)) (w.setCells g k news)) :
    wpList P ops Q (o :: rest) a w := by
  refine wpList_plain hg fun K hK' => ?_
  have hrun := run_append_room_cells (P := P) w t o.type e i h1 h2 g 0 k cap ad m c news (by rw [h4, hn, Nat.mul_one]) hc h1c b1 (fun j hj => by rw [h4, Nat.mul_one, Nat.zero_add]; exact (hthere j (by omega)).1) (fun j hj => by rw [h4, Nat.mul_one, Nat.zero_add]; exact (hthere j (by omega)).2)
  rw [h4, Nat.mul_one, Nat.zero_add] at hrun
  unfold Oper.wp
  simp [execOp, hop, resolve, invoke, builtin, hs, hx, hrun, Result.andThen]
  exact hK' _ _ hK
section
variable {cx : Cx} {w : World} {own : Nat → Option Tag} {rv : Tag → Value} {S : St}
/-- a watch list, where it lies -/
theorem Rep.watchRow (h : Rep cx w own rv S) (c : Nat) : ∃ a cap, rv (.wr c) = .slice a (S.watch c).length cap ∧ (S.watch c).length ≤ cap ∧ (a = none → S.watch c = [] ∧ cap = 0) ∧ ∀ ad, a = some ad → ∃ g, ad = ⟨g, 0, none⟩ ∧ own g = some (.wr c) ∧ w.ownsRow cx.lo 3 1 (.slice (some ⟨g, 0, none⟩) (S.watch c).length cap) (S.watch c).length (natC (S.watch c)) := by
  have hr := h.rows (.wr c) rfl
  have hrow : w.ownsRow cx.lo 3 1 (rv (.wr c)) (S.watch c).length (natC (S.watch c)) := hr.row
  rcases hrow.2 with ⟨e1, e2⟩ | ⟨g, cap, cur, e1, hb, hg, hcap, _⟩
  · refine ⟨none, 0, by rw [e1, e2], by omega, fun _ => ⟨List.eq_nil_of_length_eq_zero e2, rfl⟩, fun ad e => (by cases e)⟩
  · refine ⟨_, cap, e1, hcap, fun e => (by cases e), fun ad e => ?_⟩
    cases e
    refine ⟨g, rfl, hr.lab g (by rw [e1]; rfl), ?_⟩
    rw [e1] at hrow; exact hrow
theorem Rep.watchSet {w' : World} {own' : Nat → Option Tag} (h : Rep cx w own rv S) {c : Nat} (hc : c < 2 * cx.V + 2) {v : Value} {zs : List Nat} (he : Ext own own') (hd : ∀ k t, own' k = some t → cx.lo ≤ k ∧ k < w'.heap.size) (hk : Kept own (· ≠ .wr c) w w') (hrow : RowAt cx.lo w' own' (.wr c) v zs.length (natC zs)) :
    Rep cx (w'.setCell ⟨cx.wb, c, none⟩ v) own' (upd rv (.wr c) v) { S with watch := upd S.watch c zs } := by
  have hx1 := h.wt.keep he fun k e => hk k _ e (by intro e; cases e)
  have hK := kept_setCell (w := w') (m := c) (u := v) hx1.lab
  refine h.master (fun t => t ≠ .wr c ∧ t ≠ .watch) he (fun k t e => by rw [World.size_setCell]; exact hd k t e) (fun k t e ht => (hK k t (he k t e) ht.2).trans (hk k t e ht.1)) (.inl ⟨⟨(by intro e; cases e), (by intro e; cases e)⟩, fun j hj => ?_⟩) (.inr (tab_set hx1 hc _ (upd_same ..) fun m _ hne => upd_other _ _ (by intro e; cases e; exact hne rfl))) (.inl ⟨⟨(by intro e; cases e), (by intro e; cases e)⟩, fun m _ => upd_other _ _ (by intro e; cases e)⟩) (.inl ⟨⟨(by intro e; cases e), (by intro e; cases e)⟩, rfl⟩) (fun t ht => ?_) (.inl ⟨⟨(by intro e; cases e), (by intro e; cases e)⟩, rfl, fun k => upd_other _ _ (by intro e; cases e)⟩)
  · match j, hj with
    | 0, _ => rfl
    | 1, _ => exact upd_other _ _ (by intro e; cases e)
    | 2, _ => rfl
    | 3, _ => rfl
    | 4, _ => exact upd_other _ _ (by intro e; cases e)
    | 5, _ => rfl
    | 6, _ => rfl
    | 7, _ => rfl
    | 8, _ => exact upd_other _ _ (by intro e; cases e)
  · by_cases e : t = .wr c
    · subst e
      rw [upd_same]
      have e1 : elen { S with watch := upd S.watch c zs } (.wr c) = zs.length := by show (upd S.watch c _ c).length = _; rw [upd_same]
      have e2 : cont (upd rv (.wr c) v) { S with watch := upd S.watch c zs } (.wr c) = natC zs := by show natC (upd S.watch c _ c) = _; rw [upd_same]
      rw [e1, e2]
      exact .inr (hrow.keep (Ext.refl _) fun k hk => hK k _ hk (by intro e; cases e))
    · exact .inl ⟨⟨e, fun e => by subst e; cases ht⟩, upd_other _ _ e, elen_of (.wr c) e (fun _ => rfl) (fun _ _ => rfl) (fun k hk => upd_other _ _ fun e => hk (by rw [e])) (fun _ _ => rfl) (fun _ _ => rfl) (fun _ => rfl) (fun _ => rfl), cont_of (.wr c) e (fun _ => ⟨rfl, rfl, fun i _ => upd_other _ _ (by intro e; cases e)⟩) (fun _ _ => rfl) (fun k hk => upd_other _ _ fun e => hk (by rw [e])) (fun _ _ => rfl) (fun _ _ => rfl) (fun _ => rfl) (fun _ => rfl)⟩
/-- a watch list is cut -/
theorem Rep.cutWatch (h : Rep cx w own rv S) {c : Nat} (hc : c < 2 * cx.V + 2) {a : Option Addr} {n cap k : Nat} (hv : rv (.wr c) = .slice a n cap) (hk : k ≤ (S.watch c).length) :
    Rep cx (w.setCell ⟨cx.wb, c, none⟩ (.slice a k cap)) own (upd rv (.wr c) (.slice a k cap)) { S with watch := upd S.watch c ((S.watch c).take k) } := by
  refine h.watchSet hc (Ext.refl _) h.dom (fun _ _ _ _ => rfl) ⟨⟨by rw [natC_length]; show _ = _ * 1; omega, ?_⟩, fun g hg => (h.rows (.wr c) rfl).lab g (by rw [hv]; cases a <;> exact hg)⟩
  have hrow : w.ownsRow cx.lo 3 1 (rv (.wr c)) (S.watch c).length (natC (S.watch c)) := (h.rows (.wr c) rfl).row
  rw [hv] at hrow
  have hlen : ((S.watch c).take k).length = k := by rw [List.length_take]; omega
  rw [hlen]
  rcases hrow.2 with ⟨e1, e2⟩ | ⟨g, cap', cur, e1, hb, hg, h1, h2, h3, h4⟩
  · cases e1
    exact .inl ⟨by congr 1; omega, by omega⟩
  · cases e1
    refine .inr ⟨g, cap, cur, rfl, hb, hg, by omega, h2, h3, ?_⟩
    show cur.toList.take (k * 1) = _
    have : cur.toList.take ((S.watch c).length * 1) = natC (S.watch c) := h4
    rw [Nat.mul_one] at this ⊢
    unfold natC at this ⊢
    rw [List.map_take, ← this, List.take_take]
    congr 1; omega
end
/-- what propagating leaves -/
def SpreadOut (V : Nat) (As : Int → Prop) (S0 : St) (cx : Cx) (own : Nat → Option Tag) (rv : Tag → Value) (w : World) (e : Ending) (w' : World) : Prop :=
  ∃ b S' own' rv' q, e = .returned (.bool b) ∧ Rep cx w' own' rv' S' ∧ Frm own own' w w' ∧ HK rv rv' ∧ Pr V As S0 S' q ∧ (b = false → Confl (cls S0) As) ∧ (b = true → ∀ l, l ≠ 0 → litV S'.vals l = -1 → q l)
def Bnd (S : St) : Prop := S.n ≤ 1000000
theorem nodup_len : ∀ {l : List Nat} {n : Nat}, l.Nodup → (∀ i ∈ l, i < n) → l.length ≤ n
  | l, 0, h, hb => by
    cases l with
    | nil => exact Nat.le_refl _
    | cons a l => have := hb a (List.mem_cons_self ..); omega
  | l, n + 1, h, hb => by
    have h1 := nodup_len (l := l.filter (· ≠ n)) (n := n) (h.filter _) fun i hi => by
      obtain ⟨a, b⟩ := List.mem_filter.1 hi
      have := hb i a
      have : i ≠ n := by simpa using b
      omega
    have h2 : l.length ≤ (l.filter (· ≠ n)).length + 1 := by
      clear h1 hb
      induction l with
      | nil => simp
      | cons a l ih =>
        obtain ⟨h3, h4⟩ := List.nodup_cons.1 h
        by_cases e : a = n
        · subst e
          have : l.filter (· ≠ a) = l := List.filter_eq_self.2 fun x hx => by
            have : x ≠ a := fun e => h3 (e ▸ hx)
            simpa using this
          rw [List.filter_cons_of_neg (by simp), this]; simp
        · rw [List.filter_cons_of_pos (by simpa using e)]
          have := ih h4
          simp only [List.length_cons]; omega
    omega
/-- one round: which two literals stand first -/
theorem Inn.two {V : Nat} {As : Int → Prop} {S0 S : St} {q : Int → Prop} {l : Int} {kept rest : List Nat} {i : Nat} (h : Inn V As S0 S q l kept (i :: rest)) (hg : S.gone i = false) : i < S.n ∧ ∃ a r, Two (S.lits i) a l r ∧ a ≠ l := by
  have hiw : i ∈ S.watch (codeZ l) := by rw [h.w]; simp
  have hi : i < S.n := h.pr.wt.wi _ i hiw
  have hli := h.pr.core.li i hi
  have hnd := h.pr.core.nd i hi
  obtain ⟨a, b, r, e, hc⟩ := h.pr.wt.w2 _ i hiw hg
  rw [e] at hli hnd
  have hab : a ≠ b := by
    rintro rfl
    exact (List.nodup_cons.1 hnd).1 (List.mem_cons_self ..)
  rcases hc with hc | hc
  · have := codeZ_inj h.l0 (hli a (by simp)).1 hc
    subst this
    exact ⟨hi, b, r, .inr e, fun e => hab e.symm⟩
  · have := codeZ_inj h.l0 (hli b (by simp)).1 hc
    subst this
    exact ⟨hi, a, r, .inl e, hab⟩
theorem drop_cons {W : List Nat} {k : Nat} (h : k < W.length) : W.drop k = W.getD k 0 :: W.drop (k + 1) := by
  rw [List.drop_eq_getElem_cons h, List.getD_eq_getElem?_getD, List.getElem?_eq_getElem h]; rfl
/-- the lists as they lie while a list is gone through -/
noncomputable def raw (S : St) (c : Nat) (kept W : List Nat) : St := { S with watch := upd S.watch c (kept ++ W.drop kept.length) }
theorem raw_watch (S : St) (c : Nat) (kept W : List Nat) : (raw S c kept W).watch c = kept ++ W.drop kept.length := upd_same ..
theorem St.watch_self {S : St} {c : Nat} {u : List Nat} (h : S.watch c = u) : ({ S with watch := upd S.watch c u } : St) = S := by
  rw [← h, upd_self]
theorem VisitR.trail {S S' : St} {i : Nat} {l : Int} {st ok : Bool} (h : VisitR S i l S' st ok) : ∃ t, S'.trail = S.trail ++ t := by
  cases h with
  | tr => exact ⟨[], (List.append_nil _).symm⟩
  | mv => exact ⟨[], (List.append_nil _).symm⟩
  | no => exact ⟨[], (List.append_nil _).symm⟩
  | un a => exact ⟨[a], rfl⟩
/-- one round, put together -/
theorem round_step {V : Nat} {As : Int → Prop} {S0 S' S2 : St} {q : Int → Prop} {l : Int} {kept W : List Nat} {k i : Nat} {st ok : Bool} (h : Inn V As S0 S' q l kept (i :: W.drop (k + 1))) (hg : S'.gone i = false) (hv : VisitR (raw S' (codeZ l) kept W) i l S2 st ok) :
    S2.watch (codeZ l) = kept ++ W.drop kept.length ∧ (∃ t, S2.trail = S'.trail ++ t) ∧ ∃ S3, (∀ u : List Nat, ({ S3 with watch := upd S3.watch (codeZ l) u } : St) = { S2 with watch := upd S2.watch (codeZ l) u }) ∧
      (ok = true → (st = true ∧ Inn V As S0 S3 q l (kept ++ [i]) (W.drop (k + 1))) ∨ (st = false ∧ Inn V As S0 S3 q l kept (W.drop (k + 1)))) ∧
      (ok = false → st = true ∧ Confl (cls S0) As ∧ Pr V As S0 { S2 with watch := upd S2.watch (codeZ l) (kept ++ [i] ++ W.drop (k + 1)) } q) := by
  obtain ⟨hi, _⟩ := h.two hg
  obtain ⟨hv2, hw⟩ := hv.watch (V := V) (h.pr.core.nd i hi) (h.pr.core.li i hi) (kept ++ i :: W.drop (k + 1))
  have e1 : ({ (raw S' (codeZ l) kept W) with watch := upd (raw S' (codeZ l) kept W).watch (codeZ l) (kept ++ i :: W.drop (k + 1)) } : St) = S' := by
    unfold raw
    simp only [upd_upd]
    exact St.watch_self h.w
  rw [e1] at hv2
  obtain ⟨v1, v2⟩ := h.visit hg hv2
  refine ⟨by rw [hw]; exact raw_watch .., hv.trail, ?_⟩
  cases ok with
  | true =>
    rcases v1 rfl with ⟨rfl, hI⟩ | ⟨rfl, hI⟩
    · refine ⟨_, fun u => ?_, fun _ => .inl ⟨rfl, hI⟩, fun e => (by cases e)⟩
      simp only [upd_upd]
    · refine ⟨_, fun u => ?_, fun _ => .inr ⟨rfl, hI⟩, fun e => (by cases e)⟩
      simp only [upd_upd]
  | false =>
    obtain ⟨rfl, hC, hP⟩ := v2 rfl
    refine ⟨S2, fun u => rfl, fun e => (by cases e), fun _ => ⟨rfl, hC, ?_⟩⟩
    have : kept ++ [i] ++ W.drop (k + 1) = kept ++ i :: W.drop (k + 1) := by simp
    rw [this]; exact hP
/-- a row of numbers: what its first cells own -/
theorem owns_cut {w : World} {lo g n cap : Nat} {zs : List Nat} (h : w.ownsRow lo 3 1 (.slice (some ⟨g, 0, none⟩) n cap) n (natC zs)) {k : Nat} (hk : k ≤ n) : w.ownsRow lo 3 1 (.slice (some ⟨g, 0, none⟩) k cap) k (natC (zs.take k)) := by
  have hl : zs.length = n := by have := h.1; rw [natC_length] at this; omega
  refine ⟨by rw [natC_length, List.length_take]; omega, ?_⟩
  rcases h.2 with ⟨e1, e2⟩ | ⟨g', cap', cur, e1, hb, hg, h1, h2, h3, h4⟩
  · cases e1
  · cases e1
    refine .inr ⟨g, cap, cur, rfl, hb, hg, by omega, h2, h3, ?_⟩
    rw [Nat.mul_one] at h4 ⊢
    unfold natC at h4 ⊢
    rw [List.map_take, ← h4, List.take_take]
    congr 1; omega
theorem owns_nat {w : World} {lo g n cap : Nat} {zs : List Nat} (h : w.ownsRow lo 3 1 (.slice (some ⟨g, 0, none⟩) n cap) n (natC zs)) {j : Nat} (hj : j < n) : w.cell? ⟨g, j, none⟩ = some (.int .i64 ((zs.getD j 0 : Nat) : Int)) ∧ w.frozen? ⟨g, j, none⟩ = false := by
  have hl : zs.length = n := by have := h.1; rw [natC_length] at this; omega
  refine ⟨?_, h.frozenAt j⟩
  rw [h.cellAt j (by omega)]
  unfold natC
  rw [List.getElem?_map, List.getD_eq_getElem?_getD, List.getElem?_eq_getElem (by omega)]; rfl
theorem raw_get {kept W : List Nat} {k : Nat} (h : kept.length ≤ k) : (kept ++ W.drop kept.length).getD k 0 = W.getD k 0 := by
  rw [List.getD_eq_getElem?_getD, List.getElem?_append_right h, List.getElem?_drop, List.getD_eq_getElem?_getD]
  congr 2; omega
theorem raw_set {kept W : List Nat} {i : Nat} (h : kept.length < W.length) : (kept ++ W.drop kept.length).set kept.length i = (kept ++ [i]) ++ W.drop (kept.length + 1) := by
  rw [drop_cons h, List.set_append_right _ _ (Nat.le_refl _), Nat.sub_self]
  simp
theorem raw_len {kept W : List Nat} {n : Nat} (h : kept.length ≤ n) (hn : W.length = n) : (kept ++ W.drop kept.length).length = n := by
  rw [List.length_append, List.length_drop]; omega
set_option maxHeartbeats 32000000 in
set_option maxRecDepth 1000000 in
theorem spread_walk (As : Int → Prop) (S0 : St) (cx : Cx) (own : Nat → Option Tag) (rv : Tag → Value) (S : St) (w : World) (h : Rep cx w own rv S) (hp : Pr cx.V As S0 S (fun _ => False)) (hN : S0.n ≤ 1000000000) (hL : ∀ i, i < S0.n → (S0.lits i).length ≤ 1000000000) (hV : cx.V ≤ 999999990) :
    Calls Tryd.prog 50 #[.pointer (some ⟨cx.xb, 0, none⟩), .int .i64 0] w (SpreadOut cx.V As S0 cx own rv w) := by
  obtain ⟨i0, hi0, hz0, hz1, hz2⟩ := info_parts info3
  go_enter Tryd.func50, Tryd.ntmps50
  go_wp2
  go_loopw [5] (fun atv wr => ∃ (at' : Nat) (S1 : St) (own1 : Nat → Option Tag) (rv1 : Tag → Value) (q : Int → Prop), at' ≤ S1.trail.length ∧ atv = .int .i64 at' ∧ Rep cx wr own1 rv1 S1 ∧ Frm own own1 w wr ∧ HK rv rv1 ∧ Pr cx.V As S0 S1 q ∧ ∀ j, j < at' → q (-(S1.trail.getD j 0))) (fun atv _ => cx.V + 2 - (intOf atv).toNat)
  case atStart => exact ⟨0, S, own, rv, _, Nat.zero_le _, rfl, h, Frm.refl _ _, fun _ => rfl, hp, fun j hj => by omega⟩
  case round =>
    obtain ⟨at', S1, own1, rv1, q, hat, rfl, hrep, hfr, hkr, hpr, hq⟩ := hrel
    have htz := hpr.tz
    have htr : wr.ownsRow cx.lo 3 1 (rv1 .trail) S1.trail.length (intC S1.trail) := (hrep.rows .trail rfl).row
    have c8 : wr.cell? ⟨cx.xb, 8, none⟩ = some (rv1 .trail) := (hrep.x.cell 8 (by decide)).1
    by_cases hlt : at' < S1.trail.length
    · obtain ⟨tg, tcap, htv, _, _⟩ := htr.form (by omega)
      rw [htv] at htr c8
      have ct0 := htr.cellAt at' (by omega)
      have hxm : S1.trail.getD at' 0 ∈ S1.trail := by rw [List.getD_eq_getElem?_getD, List.getElem?_eq_getElem hlt]; exact List.getElem_mem _
      have ct : wr.cell? ⟨tg, at', none⟩ = some (.int .i64 (S1.trail.getD at' 0)) := by
        rw [ct0]
        unfold intC
        rw [List.getElem?_map, List.getD_eq_getElem?_getD, List.getElem?_eq_getElem hlt]; rfl
      clear ct0
      obtain ⟨x, hx⟩ : ∃ x, S1.trail.getD at' 0 = x := ⟨_, rfl⟩
      rw [hx] at ct hxm
      obtain ⟨hx0, hxV⟩ := hpr.tl x hxm
      have hxt := (hpr.tr x hx0).2 hxm
      obtain ⟨l, hl⟩ : ∃ l, -x = l := ⟨_, rfl⟩
      have hl0 : l ≠ 0 := by omega
      have hlV : l.natAbs < cx.V + 1 := by omega
      have hlf : litV S1.vals l = -1 := by rw [← hl, litV_neg hx0, hxt]
      obtain ⟨c, hc⟩ : ∃ c, codeZ l = c := ⟨_, rfl⟩
      have hcV : c < 2 * cx.V + 2 := by rw [← hc]; exact codeZ_lt hlV
      have hcd := fun u => code_walk l (by omega) (by omega) u
      rw [hc] at hcd
      obtain ⟨a, cap, hwv, hcap, hnone, hsome⟩ := hrep.watchRow c
      obtain ⟨W, hW⟩ : ∃ W, S1.watch c = W := ⟨_, rfl⟩
      rw [hW] at hwv hcap hnone hsome
      obtain ⟨n, hn⟩ : ∃ n, W.length = n := ⟨_, rfl⟩
      rw [hn] at hwv hcap hsome
      have c2 : wr.cell? ⟨cx.xb, 2, none⟩ = some (.slice (some ⟨cx.wb, 0, none⟩) (2 * cx.V + 2) cx.wc) := (hrep.x.cell 2 (by decide)).1
      have cw : wr.cell? ⟨cx.wb, c, none⟩ = some (.slice a n cap) := by rw [← hwv]; exact (hrep.wt.cell c hcV).1
      have hcI : (c : Int) < (2 * cx.V + 2 : Nat) := by omega
      have hcJ : (c : Int) < 2 * (cx.V : Int) + 2 := by omega
      have hatI : (at' : Int) < S1.trail.length := by omega
      have hnW : n ≤ S0.n := by
        rw [← hn, ← hW, ← hpr.sim.n]
        exact nodup_len (hpr.wt.wn c) fun i hi => hpr.wt.wi c i hi
      go_wp2
      go_quiet (first | (go_at_call 38; refine Calls.quiet_of_same (hcd _)))
      go_wp2
      go_loopw [8, 43] (fun kv iv wx => ∃ (k : Nat) (S2 : St) (own2 : Nat → Option Tag) (rv2 : Tag → Value) (kept : List Nat), k ≤ n ∧ iv = .int .i64 k ∧ kv = .slice a kept.length cap ∧ kept.length ≤ k ∧ Rep cx wx own2 rv2 (raw S2 c kept W) ∧ Inn cx.V As S0 S2 q l kept (W.drop k) ∧ Frm own own2 w wx ∧ HK rv rv2 ∧ rv2 (.wr c) = .slice a n cap ∧ ∃ t, S2.trail = S1.trail ++ t) (fun _ iv _ => n - (intOf iv).toNat)
      case atStart =>
        refine ⟨0, S1, own1, rv1, [], Nat.zero_le _, rfl, rfl, Nat.le_refl _, ?_, ?_, hfr.drewN _, hkr, hwv, [], (List.append_nil _).symm⟩
        · have : raw S1 c [] W = S1 := St.watch_self (by rw [hW]; rfl)
          rw [this]; exact hrep.drewN _
        · have := Inn.start hpr hl0 hlV hlf
          rw [hc, hW] at this
          exact this
      case round =>
        obtain ⟨k, S2, own2, rv2, kept, hk, rfl, rfl, hkk, hrep2, hinn, hfr2, hkr2, hwv2, tt, htt⟩ := hrel
        clear htr c8 ct c2 cw hrep hfr hpr
        have c2 : wr.cell? ⟨cx.xb, 2, none⟩ = some (.slice (some ⟨cx.wb, 0, none⟩) (2 * cx.V + 2) cx.wc) := (hrep2.x.cell 2 (by decide)).1
        by_cases hltk : k < n
        · have hltI : (k : Int) < n := by omega
          obtain ⟨g, rfl⟩ : ∃ g, a = some ⟨g, 0, none⟩ := by
            cases a with
            | none => have := (hnone rfl).1; rw [this] at hn; simp at hn; omega
            | some ad => obtain ⟨g, rfl, _⟩ := hsome ad rfl; exact ⟨g, rfl⟩
          clear hsome hnone
          have hrw := hrep2.rows (.wr c) rfl
          rw [hwv2] at hrw
          have hgo := hrw.lab g rfl
          have hro : wr.ownsRow cx.lo 3 1 (.slice (some ⟨g, 0, none⟩) n cap) n (natC (kept ++ W.drop kept.length)) := by
            have e : wr.ownsRow cx.lo 3 1 (.slice (some ⟨g, 0, none⟩) n cap) ((raw S2 c kept W).watch c).length (natC ((raw S2 c kept W).watch c)) := hrw.row
            rw [raw_watch, raw_len (by omega) hn] at e
            exact e
          have ck := (owns_nat hro hltk).1
          rw [raw_get hkk] at ck
          rw [drop_cons (by omega)] at hinn
          obtain ⟨i, hi⟩ : ∃ i, W.getD k 0 = i := ⟨_, rfl⟩
          rw [hi] at ck hinn
          have hiw : i ∈ S2.watch (codeZ l) := by rw [hinn.w]; simp
          have hin : i < S2.n := hinn.pr.wt.wi _ i hiw
          have hnn : S2.n = S0.n := hinn.pr.sim.n
          obtain ⟨ab, acap, hav, hao, hacell⟩ := hrep2.allRow (show 0 < S2.n by omega)
          have c1 : wr.cell? ⟨cx.xb, 1, none⟩ = some (.slice (some ⟨ab, 0, none⟩) S2.n acap) := by
            have := (hrep2.x.cell 1 (by decide)).1
            rw [show fld cx rv2 (raw S2 c kept W) 1 = rv2 .all from rfl, hav] at this; exact this
          have cg : wr.cell? ⟨ab, i * 2 + 1, none⟩ = some (.bool (S2.gone i)) := (hacell i hin).2.1
          have hinI : (i : Int) < S2.n := by omega
          clear hacell
          cases hg : S2.gone i with
          | true =>
            rw [hg] at cg
            have hI2 := hinn.gone hg
            have hcc := hc
            rw [hc] at hI2
            go_wp2
            go_roundw
            case rel =>
              refine ⟨k + 1, { S2 with watch := upd S2.watch c (kept ++ W.drop (k + 1)) }, own2, rv2, kept, hltk, (by simp), rfl, by omega, ?_, hI2, hfr2, hkr2, hwv2, tt, htt⟩
              have : raw { S2 with watch := upd S2.watch c (kept ++ W.drop (k + 1)) } c kept W = raw S2 c kept W := by unfold raw; simp only [upd_upd]
              rw [this]; exact hrep2
            case measure => simp [intOf]; omega
          | false =>
            rw [hg] at cg
            obtain ⟨_, a', r, ht, hal⟩ := hinn.two hg
            have hrl : r.length + 2 = (S0.lits i).length := by rw [← two_len ht, (hinn.pr.sim.lits i).length_eq]
            have hLi := hL i (by omega)
            have htz2 := hinn.pr.tz
            have hv := visit_walk cx own2 rv2 (raw S2 c kept W) i a' l r wr hrep2 hinn.pr.core.vl hin (show S2.n ≤ 1000000000 by omega) ht hal (hinn.pr.core.li i hin) (by omega) (by omega) (show S2.trail.length ≤ 1000000000 by omega) (fun c' => by
              by_cases e : c' = c
              · subst e; rw [raw_watch, raw_len (by omega) hn]; omega
              · show (upd S2.watch c _ c').length ≤ _
                rw [upd_other _ _ e]
                have := nodup_len (hinn.pr.wt.wn c') (n := S2.n) fun j hj => hinn.pr.wt.wi c' j hj
                omega)
            have hrs := fun S3 st ok (e : VisitR (raw S2 c kept W) i l S3 st ok) => round_step (k := k) (W := W) (kept := kept) hinn hg (by rw [hc]; exact e)
            rw [hc] at hrs
            go_wp2_with (go_at_call 56; refine hv.mono ?_)
            rintro e w2 ⟨S3, own3, rv3, st, ok, hVR, p1, hrep3, hfr3, hrv3, hk3⟩
            rw [p1]
            clear p1 hv
            obtain ⟨hw3, ⟨tt3, htt3⟩, S4, hS4, hok, hno⟩ := hrs S3 st ok hVR
            clear hrs c2 c1 cg ck hro hrw
            have hfr4 := hfr2.trans hfr3
            have hkr4 : HK rv rv3 := fun c' => (hk3 c').trans (hkr2 c')
            have hwv3 : rv3 (.wr c) = .slice (some ⟨g, 0, none⟩) n cap := (hrv3 c (hw3.trans (raw_watch ..).symm)).trans hwv2
            have hrw3 := hrep3.rows (.wr c) rfl
            rw [hwv3] at hrw3
            have hgo3 := hrw3.lab g rfl
            have hro3 : w2.ownsRow cx.lo 3 1 (.slice (some ⟨g, 0, none⟩) n cap) n (natC (kept ++ W.drop kept.length)) := by
              have e : w2.ownsRow cx.lo 3 1 (.slice (some ⟨g, 0, none⟩) n cap) (S3.watch c).length (natC (S3.watch c)) := hrw3.row
              rw [hw3, raw_len (by omega) hn] at e
              exact e
            have htt4 : ∃ t, S4.trail = S1.trail ++ t := by
              have e1 := congrArg St.trail (hS4 [])
              have e1 : S4.trail = S3.trail := e1
              exact ⟨tt ++ tt3, by rw [e1, htt3, htt, List.append_assoc]⟩
            have hgo4 : w2.heap.size ≠ g := by
              have := (hrep3.dom g _ hgo3).2
              omega
            have hklc : kept.length + 1 ≤ cap := by omega
            cases st with
            | false =>
              cases ok with
              | false => exact absurd (hno rfl).1 (by decide)
              | true =>
                obtain ⟨_, hI⟩ | ⟨_, hI⟩ := hok rfl
                · rename_i hh; cases hh
                go_wp2
                go_roundw
                case rel =>
                  refine ⟨k + 1, S4, own3, rv3, kept, hltk, (by simp), rfl, by omega, ?_, hI, hfr4, hkr4, hwv3, htt4⟩
                  have : raw S4 c kept W = S3 := (hS4 _).trans (St.watch_self hw3)
                  rw [this]; exact hrep3
                case measure => simp [intOf]; omega
            | true =>
              have cn := fun (o : Obj) (hgc : (w2.cell? ⟨g, kept.length, none⟩).isSome = true) => World.cell?_alloc_some w2 ⟨g, kept.length, none⟩ o hgc
              obtain ⟨cgk, cfk⟩ := owns_nat hro3 (show kept.length < n by omega)
              have hst : ({ S3 with watch := upd S3.watch c ((S3.watch c).set kept.length i) } : St) = raw S4 c (kept ++ [i]) W := by
                rw [hw3, raw_set (by omega), ← hS4]
                unfold raw
                rw [List.length_append]; rfl
              cases ok with
              | true =>
                obtain ⟨_, hI⟩ | ⟨hh, _⟩ := hok rfl
                · go_wp2_with (at_builtin; refine wpList_append_cells _ rfl _ _ 33 rfl 3 i0 Tryd.underlying33 hi0 hz1 g kept.length cap rfl ⟨w2.heap.size, 0, none⟩ 1 1 [.int .i64 (i : Int)] rfl rfl ?c1 ?c2 hklc ?c3 ?_)
                  case c1 =>
                    intro j u hj
                    match j, hj with
                    | 0, hj =>
                      simp at hj
                      subst hj
                      rw [add_plain]
                      exact cell_new _ _ _ _ 0
                  case c2 => intro u hu; simp at hu; subst hu; rfl
                  case c3 =>
                    intro j hj
                    obtain rfl : j = 0 := by omega
                    rw [Nat.add_zero, cn _ (by rw [cgk]; rfl), cgk]
                    refine ⟨rfl, ?_⟩
                    rw [World.frozen?_of_block (w := w2) (a := ⟨g, kept.length, none⟩) (Below.heap_alloc _ _ _ (hrep3.dom g _ hgo3).2)]
                    exact cfk
                  go_wp2
                  go_roundw
                  case rel =>
                    refine ⟨k + 1, S4, own3, rv3, kept ++ [i], hltk, (by simp), (by simp), (by simp; omega), ?_, hI, ?_, hkr4, hwv3, htt4⟩
                    · rw [← hst]
                      exact (hrep3.alloc _).setWatch hwv3 kept.length i
                    · exact (hfr4.alloc _).setCell (p := ⟨g, kept.length, none⟩) hgo3 _
                  case measure => simp [intOf]; omega
                · cases hh
              | false =>
                obtain ⟨_, hC, hP⟩ := hno rfl
                have hlenk : (kept ++ [i]).length = kept.length + 1 := by rw [List.length_append]; rfl
                by_cases hck : cap = k + 1
                · subst hck
                  have hk1I : (k : Int) + 1 ≤ n := by omega
                  have hk2I : (k : Int) + 1 ≤ (k + 1) := by omega
                  have hncI : (n : Int) ≤ (k + 1) := by omega
                  -- what the second append owns and reads
                  have own5 : ∀ o, ((w2.alloc o).setCells g kept.length [.int .i64 (i : Int)]).ownsRow cx.lo 3 1 (.slice (some ⟨g, 0, none⟩) (kept.length + 1) (k + 1)) (kept.length + 1) (natC (kept ++ [i])) ∧ ∀ j, j < n - (k + 1) → ((w2.alloc o).setCells g kept.length [.int .i64 (i : Int)]).cell? ⟨g, k + 1 + j, none⟩ = some (.int .i64 ((W.getD (k + 1 + j) 0 : Nat) : Int)) := by
                    intro o
                    have h5 := (hrep3.alloc o).setWatch hwv3 kept.length i
                    rw [hst] at h5
                    have hr5 := (h5.rows (.wr c) rfl).row
                    rw [hwv3] at hr5
                    have e : ((w2.alloc o).setCell ⟨g, kept.length, none⟩ (.int .i64 (i : Int))).ownsRow cx.lo 3 1 (.slice (some ⟨g, 0, none⟩) n (k + 1)) ((raw S4 c (kept ++ [i]) W).watch c).length (natC ((raw S4 c (kept ++ [i]) W).watch c)) := hr5
                    rw [raw_watch, raw_len (by rw [hlenk]; omega) hn] at e
                    refine ⟨?_, fun j hj => ?_⟩
                    · have e2 := owns_cut e (k := kept.length + 1) (by omega)
                      rw [List.take_append_of_le_length (by rw [hlenk]; exact Nat.le_refl _), List.take_of_length_le (by rw [hlenk]; exact Nat.le_refl _)] at e2
                      exact e2
                    · have e2 := (owns_nat e (j := k + 1 + j) (by omega)).1
                      rw [raw_get (by rw [hlenk]; omega)] at e2
                      exact e2
                  obtain ⟨own6, cells6⟩ := own5 (.cells #[.int .i64 (i : Int)] 3)
                  have h5 := (hrep3.alloc (.cells #[.int .i64 (i : Int)] 3)).setWatch hwv3 kept.length i
                  rw [hst] at h5
                  have hfr5 := (hfr4.alloc (.cells #[.int .i64 (i : Int)] 3)).setCell (p := ⟨g, kept.length, none⟩) hgo3 (.int .i64 (i : Int))
                  clear own5
                  have hzl : (natC (kept ++ [i] ++ W.drop (k + 1))).length = (kept.length + 1 + (n - (k + 1))) * 1 := by
                    rw [natC_length, List.length_append, hlenk, List.length_drop]; omega
                  have hfin : ∀ w6, w6.ownsRow cx.lo 3 1 (.slice (some ⟨g, 0, none⟩) (kept.length + 1 + (n - (k + 1))) (k + 1)) (kept.length + 1 + (n - (k + 1))) (natC (kept ++ [i]) ++ natC (W.drop (k + 1))) → ((w2.alloc (.cells #[.int .i64 (i : Int)] 3)).setCell ⟨g, kept.length, none⟩ (.int .i64 (i : Int))).grownBy w6 (some g) →
                      (w6.cell? ⟨cx.xb, 2, none⟩ = some (.slice (some ⟨cx.wb, 0, none⟩) (2 * cx.V + 2) cx.wc) ∧ (∃ u, w6.cell? ⟨cx.wb, c, none⟩ = some u) ∧ w6.frozen? ⟨cx.wb, c, none⟩ = false) ∧ SpreadOut cx.V As S0 cx own rv w (.returned (.bool false)) (w6.setCell ⟨cx.wb, c, none⟩ (.slice (some ⟨g, 0, none⟩) (kept.length + 1 + (n - (k + 1))) (k + 1))).drew := by
                    intro w6 o1 o2
                    rw [← natC_append] at o1
                    have A : AppOut cx.lo ((w2.alloc (.cells #[.int .i64 (i : Int)] 3)).setCell ⟨g, kept.length, none⟩ (.int .i64 (i : Int))) (.wr c) (rv3 (.wr c)) g (k + 1) (kept.length + 1 + (n - (k + 1))) (natC (kept ++ [i] ++ W.drop (k + 1))) w6 := by
                      rw [hwv3]
                      exact ⟨o1, o2, .inl rfl, (o1.lt g rfl).2⟩
                    have F := A.facts h5 rfl
                    have e1 := World.cell?_of_block (a := ⟨cx.xb, 2, none⟩) (F.kept _ _ h5.x.lab (by intro e; cases e))
                    have e2 := World.cell?_of_block (a := ⟨cx.wb, c, none⟩) (F.kept _ _ h5.wt.lab (by intro e; cases e))
                    have e3 := World.frozen?_of_block (a := ⟨cx.wb, c, none⟩) (F.kept _ _ h5.wt.lab (by intro e; cases e))
                    refine ⟨⟨e1.trans (h5.x.cell 2 (by decide)).1, ⟨_, e2.trans (h5.wt.cell c hcV).1⟩, e3.trans (h5.wt.cell c hcV).2⟩, false, _, lab own3 g (.wr c), upd rv3 (.wr c) (.slice (some ⟨g, 0, none⟩) (kept.length + 1 + (n - (k + 1))) (k + 1)), q, rfl, ?_, ((hfr5.trans (A.frm h5 rfl)).setCell (p := ⟨cx.wb, c, none⟩) (F.ext _ _ h5.wt.lab) _).drew, (fun c' => (upd_other _ _ (by intro e; cases e)).trans (hkr4 c')), hP, fun _ => hC, fun e => (by cases e)⟩
                    have hF := F.row
                    have hzl2 : (kept ++ [i] ++ W.drop (k + 1)).length = kept.length + 1 + (n - (k + 1)) := by rw [natC_length] at hzl; omega
                    rw [← hzl2] at hF
                    have hR := h5.watchSet hcV F.ext F.dom F.kept hF
                    have e4 : ({ (raw S4 c (kept ++ [i]) W) with watch := upd (raw S4 c (kept ++ [i]) W).watch c (kept ++ [i] ++ W.drop (k + 1)) } : St) = { S3 with watch := upd S3.watch c (kept ++ [i] ++ W.drop (k + 1)) } := by
                      rw [← hS4]
                      unfold raw
                      simp only [upd_upd]
                    rw [e4] at hR
                    rw [← hzl2]
                    exact hR.drew
                  clear hok hno hP hC hst hS4 htt4 hrw3 hro3
                  go_wp2_with (first | (at_builtin; refine wpList_append_cells _ rfl _ _ 33 rfl 3 i0 Tryd.underlying33 hi0 hz1 g kept.length (k + 1) rfl ⟨w2.heap.size, 0, none⟩ 1 1 [.int .i64 (i : Int)] rfl rfl ?c1 ?c2 hklc ?c3 ?_) | (at_builtin; refine wpList_append_fits_any _ rfl _ _ 33 rfl cx.lo 3 i0 1 Tryd.underlying33 hi0 hz1 g (kept.length + 1) (k + 1) (natC (kept ++ [i])) rfl own6 _ (n - (k + 1)) _ (natC (W.drop (k + 1))) rfl ?d0 ?d1 ?d2 ?d3 ?d4 ?_))
                  case c1 =>
                    intro j u hj
                    match j, hj with
                    | 0, hj =>
                      simp at hj
                      subst hj
                      rw [add_plain]
                      exact cell_new _ _ _ _ 0
                  case c2 => intro u hu; simp at hu; subst hu; rfl
                  case c3 =>
                    intro j hj
                    obtain rfl : j = 0 := by omega
                    rw [Nat.add_zero, cn _ (by rw [cgk]; rfl), cgk]
                    refine ⟨rfl, ?_⟩
                    rw [World.frozen?_of_block (w := w2) (a := ⟨g, kept.length, none⟩) (Below.heap_alloc _ _ _ (hrep3.dom g _ hgo3).2)]
                    exact cfk
                  have hn1 : n - (k + 1) = 0 := by omega
                  have hd : W.drop (k + 1) = [] := List.drop_of_length_le (by omega)
                  have own7 : ((w2.alloc (.cells #[.int .i64 (i : Int)] 3)).setCells g kept.length [.int .i64 (i : Int)]).ownsRow cx.lo 3 1 (.slice (some ⟨g, 0, none⟩) (kept.length + 1 + (n - (k + 1))) (k + 1)) (kept.length + 1 + (n - (k + 1))) (natC (kept ++ [i]) ++ natC (W.drop (k + 1))) := by
                    rw [hn1, hd, Nat.add_zero]
                    simpa [natC] using own6
                  obtain ⟨⟨x2, ⟨u6, xw⟩, xf⟩, hE⟩ := hfin _ own7 (World.grownBy.refl _ _)
                  rw [hn1, Nat.add_zero] at hE
                  generalize (w2.alloc (.cells #[.int .i64 (i : Int)] 3)).setCells g kept.length [.int .i64 (i : Int)] = w6 at x2 xw xf hE own7 own6 cells6 ⊢
                  have hxw : cx.xb ≠ cx.wb := Rep.apart hrep3.x.lab hrep3.wt.lab (by intro e; cases e)
                  have kst : ∀ {w1 : World} (u : Value), w1.cell? ⟨cx.xb, 2, none⟩ = some (.slice (some ⟨cx.wb, 0, none⟩) (2 * cx.V + 2) cx.wc) → (w1.setCell ⟨cx.wb, c, none⟩ u).cell? ⟨cx.xb, 2, none⟩ = some (.slice (some ⟨cx.wb, 0, none⟩) (2 * cx.V + 2) cx.wc) := fun u e1 => (World.cell?_setCell_other _ ⟨cx.wb, c, none⟩ ⟨cx.xb, 2, none⟩ _ (by intro e; injection e; omega)).trans e1
                  clear hfin own7 own6 cells6 h5 hfr5 cgk cfk cn
                  go_wp2_with fail
                  go_region_held3 (fun w' => w'.cell? ⟨cx.xb, 2, none⟩ = some (.slice (some ⟨cx.wb, 0, none⟩) (2 * cx.V + 2) cx.wc)) (first | go_keep | exact kst _ hHeld | exact kst _ x2)
                    (first | (go_at_call 38; refine (hcd _).mono ?_; rintro e w' ⟨p1, p2⟩; rw [p1, p2]; clear p1 p2))
                  all_goals (go_wp2_with fail)
                  all_goals go_ret
                  all_goals exact hE
                · skip
                  have hk1I : (k : Int) + 1 ≤ n := by omega
                  have hk2I : (k : Int) + 1 ≤ cap := by omega
                  have hncI : (n : Int) ≤ cap := by omega
                  -- what the second append owns and reads
                  have own5 : ∀ o, ((w2.alloc o).setCells g kept.length [.int .i64 (i : Int)]).ownsRow cx.lo 3 1 (.slice (some ⟨g, 0, none⟩) (kept.length + 1) cap) (kept.length + 1) (natC (kept ++ [i])) ∧ ∀ j, j < n - (k + 1) → ((w2.alloc o).setCells g kept.length [.int .i64 (i : Int)]).cell? ⟨g, k + 1 + j, none⟩ = some (.int .i64 ((W.getD (k + 1 + j) 0 : Nat) : Int)) := by
                    intro o
                    have h5 := (hrep3.alloc o).setWatch hwv3 kept.length i
                    rw [hst] at h5
                    have hr5 := (h5.rows (.wr c) rfl).row
                    rw [hwv3] at hr5
                    have e : ((w2.alloc o).setCell ⟨g, kept.length, none⟩ (.int .i64 (i : Int))).ownsRow cx.lo 3 1 (.slice (some ⟨g, 0, none⟩) n cap) ((raw S4 c (kept ++ [i]) W).watch c).length (natC ((raw S4 c (kept ++ [i]) W).watch c)) := hr5
                    rw [raw_watch, raw_len (by rw [hlenk]; omega) hn] at e
                    refine ⟨?_, fun j hj => ?_⟩
                    · have e2 := owns_cut e (k := kept.length + 1) (by omega)
                      rw [List.take_append_of_le_length (by rw [hlenk]; exact Nat.le_refl _), List.take_of_length_le (by rw [hlenk]; exact Nat.le_refl _)] at e2
                      exact e2
                    · have e2 := (owns_nat e (j := k + 1 + j) (by omega)).1
                      rw [raw_get (by rw [hlenk]; omega)] at e2
                      exact e2
                  obtain ⟨own6, cells6⟩ := own5 (.cells #[.int .i64 (i : Int)] 3)
                  have h5 := (hrep3.alloc (.cells #[.int .i64 (i : Int)] 3)).setWatch hwv3 kept.length i
                  rw [hst] at h5
                  have hfr5 := (hfr4.alloc (.cells #[.int .i64 (i : Int)] 3)).setCell (p := ⟨g, kept.length, none⟩) hgo3 (.int .i64 (i : Int))
                  clear own5
                  have hzl : (natC (kept ++ [i] ++ W.drop (k + 1))).length = (kept.length + 1 + (n - (k + 1))) * 1 := by
                    rw [natC_length, List.length_append, hlenk, List.length_drop]; omega
                  have hfin : ∀ w6, w6.ownsRow cx.lo 3 1 (.slice (some ⟨g, 0, none⟩) (kept.length + 1 + (n - (k + 1))) cap) (kept.length + 1 + (n - (k + 1))) (natC (kept ++ [i]) ++ natC (W.drop (k + 1))) → ((w2.alloc (.cells #[.int .i64 (i : Int)] 3)).setCell ⟨g, kept.length, none⟩ (.int .i64 (i : Int))).grownBy w6 (some g) →
                      (w6.cell? ⟨cx.xb, 2, none⟩ = some (.slice (some ⟨cx.wb, 0, none⟩) (2 * cx.V + 2) cx.wc) ∧ (∃ u, w6.cell? ⟨cx.wb, c, none⟩ = some u) ∧ w6.frozen? ⟨cx.wb, c, none⟩ = false) ∧ SpreadOut cx.V As S0 cx own rv w (.returned (.bool false)) (w6.setCell ⟨cx.wb, c, none⟩ (.slice (some ⟨g, 0, none⟩) (kept.length + 1 + (n - (k + 1))) cap)).drew := by
                    intro w6 o1 o2
                    rw [← natC_append] at o1
                    have A : AppOut cx.lo ((w2.alloc (.cells #[.int .i64 (i : Int)] 3)).setCell ⟨g, kept.length, none⟩ (.int .i64 (i : Int))) (.wr c) (rv3 (.wr c)) g cap (kept.length + 1 + (n - (k + 1))) (natC (kept ++ [i] ++ W.drop (k + 1))) w6 := by
                      rw [hwv3]
                      exact ⟨o1, o2, .inl rfl, (o1.lt g rfl).2⟩
                    have F := A.facts h5 rfl
                    have e1 := World.cell?_of_block (a := ⟨cx.xb, 2, none⟩) (F.kept _ _ h5.x.lab (by intro e; cases e))
                    have e2 := World.cell?_of_block (a := ⟨cx.wb, c, none⟩) (F.kept _ _ h5.wt.lab (by intro e; cases e))
                    have e3 := World.frozen?_of_block (a := ⟨cx.wb, c, none⟩) (F.kept _ _ h5.wt.lab (by intro e; cases e))
                    refine ⟨⟨e1.trans (h5.x.cell 2 (by decide)).1, ⟨_, e2.trans (h5.wt.cell c hcV).1⟩, e3.trans (h5.wt.cell c hcV).2⟩, false, _, lab own3 g (.wr c), upd rv3 (.wr c) (.slice (some ⟨g, 0, none⟩) (kept.length + 1 + (n - (k + 1))) cap), q, rfl, ?_, ((hfr5.trans (A.frm h5 rfl)).setCell (p := ⟨cx.wb, c, none⟩) (F.ext _ _ h5.wt.lab) _).drew, (fun c' => (upd_other _ _ (by intro e; cases e)).trans (hkr4 c')), hP, fun _ => hC, fun e => (by cases e)⟩
                    have hF := F.row
                    have hzl2 : (kept ++ [i] ++ W.drop (k + 1)).length = kept.length + 1 + (n - (k + 1)) := by rw [natC_length] at hzl; omega
                    rw [← hzl2] at hF
                    have hR := h5.watchSet hcV F.ext F.dom F.kept hF
                    have e4 : ({ (raw S4 c (kept ++ [i]) W) with watch := upd (raw S4 c (kept ++ [i]) W).watch c (kept ++ [i] ++ W.drop (k + 1)) } : St) = { S3 with watch := upd S3.watch c (kept ++ [i] ++ W.drop (k + 1)) } := by
                      rw [← hS4]
                      unfold raw
                      simp only [upd_upd]
                    rw [e4] at hR
                    rw [← hzl2]
                    exact hR.drew
                  clear hok hno hP hC hst hS4 htt4 hrw3 hro3
                  go_wp2_with (first | (at_builtin; refine wpList_append_cells _ rfl _ _ 33 rfl 3 i0 Tryd.underlying33 hi0 hz1 g kept.length cap rfl ⟨w2.heap.size, 0, none⟩ 1 1 [.int .i64 (i : Int)] rfl rfl ?c1 ?c2 hklc ?c3 ?_) | (at_builtin; refine wpList_append_fits_any _ rfl _ _ 33 rfl cx.lo 3 i0 1 Tryd.underlying33 hi0 hz1 g (kept.length + 1) cap (natC (kept ++ [i])) rfl own6 _ (n - (k + 1)) _ (natC (W.drop (k + 1))) rfl ?d0 ?d1 ?d2 ?d3 ?d4 ?_))
                  case c1 =>
                    intro j u hj
                    match j, hj with
                    | 0, hj =>
                      simp at hj
                      subst hj
                      rw [add_plain]
                      exact cell_new _ _ _ _ 0
                  case c2 => intro u hu; simp at hu; subst hu; rfl
                  case c3 =>
                    intro j hj
                    obtain rfl : j = 0 := by omega
                    rw [Nat.add_zero, cn _ (by rw [cgk]; rfl), cgk]
                    refine ⟨rfl, ?_⟩
                    rw [World.frozen?_of_block (w := w2) (a := ⟨g, kept.length, none⟩) (Below.heap_alloc _ _ _ (hrep3.dom g _ hgo3).2)]
                    exact cfk
                  case d0 => rw [natC_length, List.length_drop]; omega
                  case d1 =>
                    intro e
                    cases e
                  case d2 =>
                    intro ad e j u hj
                    have hjl : j < n - (k + 1) := by
                      have := (List.getElem?_eq_some_iff.1 hj).1
                      rw [natC_length, List.length_drop] at this; omega
                    cases e
                    rw [add_plain, cells6 j hjl]
                    unfold natC at hj
                    rw [List.getElem?_map, List.getElem?_drop, List.getElem?_eq_getElem (by omega)] at hj
                    rw [List.getD_eq_getElem?_getD, List.getElem?_eq_getElem (by omega)]
                    exact hj
                  case d3 => intro u hu; obtain ⟨y, _, rfl⟩ := List.mem_map.1 hu; rfl
                  case d4 => omega
                  intro w6 own7 grow7
                  obtain ⟨⟨x2, ⟨u6, xw⟩, xf⟩, hE⟩ := hfin w6 own7 grow7
                  have hxw : cx.xb ≠ cx.wb := Rep.apart hrep3.x.lab hrep3.wt.lab (by intro e; cases e)
                  have kst : ∀ {w1 : World} (u : Value), w1.cell? ⟨cx.xb, 2, none⟩ = some (.slice (some ⟨cx.wb, 0, none⟩) (2 * cx.V + 2) cx.wc) → (w1.setCell ⟨cx.wb, c, none⟩ u).cell? ⟨cx.xb, 2, none⟩ = some (.slice (some ⟨cx.wb, 0, none⟩) (2 * cx.V + 2) cx.wc) := fun u e1 => (World.cell?_setCell_other _ ⟨cx.wb, c, none⟩ ⟨cx.xb, 2, none⟩ _ (by intro e; injection e; omega)).trans e1
                  clear hfin own7 grow7 own6 cells6 h5 hfr5 cgk cfk cn
                  go_wp2_with fail
                  go_region_held3 (fun w' => w'.cell? ⟨cx.xb, 2, none⟩ = some (.slice (some ⟨cx.wb, 0, none⟩) (2 * cx.V + 2) cx.wc)) (first | go_keep | exact kst _ hHeld | exact kst _ x2)
                    (first | (go_at_call 38; refine (hcd _).mono ?_; rintro e w' ⟨p1, p2⟩; rw [p1, p2]; clear p1 p2))
                  all_goals (go_wp2_with fail)
                  all_goals go_ret
                  all_goals exact hE
        · have e0 : k = n := by omega
          subst e0
          have hWn : W.drop k = [] := List.drop_of_length_le (by omega)
          rw [hWn] at hinn
          have hP := hinn.finish
          have hwk : S2.watch c = kept := by have := hinn.w; rw [hc, List.append_nil] at this; exact this
          have hkl : kept.length ≤ ((raw S2 c kept W).watch c).length := by rw [raw_watch, raw_len hkk hn]; exact hkk
          have hcut := hrep2.cutWatch hcV hwv2 hkl
          have hst : ({ (raw S2 c kept W) with watch := upd (raw S2 c kept W).watch c (((raw S2 c kept W).watch c).take kept.length) } : St) = S2 := by
            rw [raw_watch, List.take_left]
            unfold raw
            simp only [upd_upd]
            exact St.watch_self hwk
          simp only [hst] at hcut
          obtain ⟨cw, fw⟩ := hrep2.wt.cell c hcV
          have hxw : cx.xb ≠ cx.wb := Rep.apart hrep2.x.lab hrep2.wt.lab (by intro e; cases e)
          have kst : ∀ {w1 : World} (u : Value), w1.cell? ⟨cx.xb, 2, none⟩ = some (.slice (some ⟨cx.wb, 0, none⟩) (2 * cx.V + 2) cx.wc) → (w1.setCell ⟨cx.wb, c, none⟩ u).cell? ⟨cx.xb, 2, none⟩ = some (.slice (some ⟨cx.wb, 0, none⟩) (2 * cx.V + 2) cx.wc) := fun u e1 => (World.cell?_setCell_other _ ⟨cx.wb, c, none⟩ ⟨cx.xb, 2, none⟩ _ (by intro e; injection e; omega)).trans e1
          go_wp2_with fail
          go_region_held3 (fun w' => w'.cell? ⟨cx.xb, 2, none⟩ = some (.slice (some ⟨cx.wb, 0, none⟩) (2 * cx.V + 2) cx.wc)) (first | go_keep | exact kst _ hHeld | exact kst _ c2)
            (first | (go_at_call 38; refine (hcd _).mono ?_; rintro e w' ⟨p1, p2⟩; rw [p1, p2]; clear p1 p2))
          all_goals (go_wp2_with fail)
          all_goals go_roundw
          case rel =>
            refine ⟨at' + 1, S2, own2, upd rv2 (.wr c) (.slice a kept.length cap), fun y => q y ∨ y = l, ?_, (by simp), hcut.drew, (hfr2.setCell (p := ⟨cx.wb, c, none⟩) hrep2.wt.lab _).drew, (fun c' => (upd_other _ _ (by intro e; cases e)).trans (hkr2 c')), hP, fun j hj => ?_⟩
            · rw [htt, List.length_append]; omega
            · rw [htt, List.getD_eq_getElem?_getD, List.getElem?_append_left (by omega), ← List.getD_eq_getElem?_getD]
              rcases Nat.lt_or_ge j at' with h1 | h1
              · exact .inl (hq j h1)
              · obtain rfl : j = at' := by omega
                rw [hx]; exact .inr hl
          case measure => simp [intOf]; omega
    · have e0 : at' = S1.trail.length := by omega
      have hE : SpreadOut cx.V As S0 cx own rv w (.returned (.bool true)) wr := ⟨true, S1, own1, rv1, q, rfl, hrep, hfr, hkr, hpr, fun e => (by cases e), fun _ l l0 lf => by
        have h1 : litV S1.vals (-l) = 1 := by rw [litV_neg l0, lf]; rfl
        have h2 := (hpr.tr (-l) (by omega)).1 h1
        obtain ⟨j, hj, hjl⟩ := List.mem_iff_getElem.1 h2
        have := hq j (by omega)
        rw [List.getD_eq_getElem?_getD, List.getElem?_eq_getElem hj] at this
        have e : (some S1.trail[j]).getD 0 = -l := hjl
        rw [e, Int.neg_neg] at this
        exact this⟩
      obtain ⟨ta, tn, tcap, htv, htn⟩ : ∃ a n cap, rv1 .trail = .slice a n cap ∧ n = S1.trail.length := by
        rcases htr.2 with ⟨e1, e2⟩ | ⟨g, cap, cur, e1, _⟩
        · exact ⟨none, 0, 0, e1, e2.symm⟩
        · exact ⟨_, _, cap, e1, rfl⟩
      rw [htv] at c8
      have hnl : ¬ (at' : Int) < tn := by omega
      go_wp2
      go_ret
      exact hE
end Go.Proofs.YtagfnjpjmmleiaaDoor

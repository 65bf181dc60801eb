/- Drat: a proof in memory of its own. -/
import Derived.Test.YtagfnjpjmmleiaaDoorWA
import Derived.Test.YtagfnjpjmmleiaaDoorQB
import Derived.Test.YtagfnjpjmmleiaaDoorUE
import Derived.Deep.CutRange
import Derived.Deep.Onto
set_option linter.unusedVariables false
set_option linter.unusedSimpArgs false
set_option autoImplicit false
set_option linter.unusedVariables false
set_option linter.unusedSimpArgs false
namespace Go.Proofs.YtagfnjpjmmleiaaDoor
open Go.Shelf Go.RowKit
theorem step_append_any {P : Program} {w : World} {ops : Array Oper} {o : Oper} {a : Act} {K : Act → World → Prop} {Q : Exit → Act → World → Prop} {E : Prop} (hgd : o.guard = none) (s x : Operand) (t : TypeId)
    (ho : o.op = .call { callee := .builtin .append, args := #[s, x], argTypes := #[t, t] })
    (base : Nat) (e : TypeId) (i : TypeInfo) (z : Value) (size bytes : Nat) (ht : P.underlying t = some (.slice e)) (hi : P.info? e = some i) (hz : i.zero = some z)
    (hsize : i.size = size) (hby : i.bytes = bytes) (hzs : z.cells.size = size) (hsz : 0 < size)
    (v : Value) (n : Nat) (xs : List Value) (hs : a.eval s = v) (hown : w.ownsRow base e size v n xs)
    (A : Option Addr) (m c : Nat) (news : List Value) (hx : a.eval x = .slice A m c) (hA : A = none → m = 0 ∧ c = 0) (hl : news.length = m * size) (hnews : ∀ ad, A = some ad → ∀ j u, news[j]? = some u → w.cell? (ad.add j) = some u) (h1 : ∀ u ∈ news, u.oneCell' = true)
    (h63 : n + m ≤ maxLen) (hbytes : (n + m) * bytes ≤ 140737488355328) (hbase : base ≤ w.heap.size)
    (h : ∀ v' w', w'.ownsRow base e size v' (n + m) (xs ++ news) → w.grownBy w' v.ownBlock → K (a.put o.dst v') w') :
    if Region.wanted o (yielded ops a.tmps) = true then Oper.wp P o a w K Q else E := by
  have hw : Region.wanted o (yielded ops a.tmps) = true := by simp [Region.wanted, hgd]
  rw [if_pos hw]
  cases A with
  | none =>
    obtain ⟨rfl, rfl⟩ := hA rfl
    have hn : news = [] := List.eq_nil_of_length_eq_zero (by omega)
    subst hn
    have hrun := run_append_owned_none (P := P) (w := w) base t o.type e i size ht hi v n xs hown
    unfold Oper.wp
    simp [execOp, ho, resolve, invoke, builtin, hs, hx, hrun, Result.andThen]
    exact h v w (by rw [List.append_nil]; exact hown) (World.grownBy.refl _ _)
  | some ad => exact wp_append_own w s x t ho base e i z size bytes ht hi hz hsize hby hzs hsz v n xs hs hown ad m c news hx hl (hnews ad rfl) h1 h63 hbytes hbase fun v' w' a b _ => h v' w' a b
def lnV (x : Ln) : List Value := [.bool x.gone, .slice x.cl.a x.cl.zs.length x.cl.c]
theorem lnV_len (ls : List Ln) : (ls.flatMap lnV).length = ls.length * 2 := by
  induction ls with
  | nil => rfl
  | cons x ls ih => rw [List.flatMap_cons, List.length_append, ih, List.length_cons]; simp [lnV]; omega
/-- a clause in memory of its own, with -71 behind it -/
def Tail (w : World) (base : Nat) (x : Ln) : Prop := ∃ g, x.cl.a = some ⟨g, 0, none⟩ ∧ w.ownsRow base 3 1 (.slice (some ⟨g, 0, none⟩) (x.cl.zs.length + 1) x.cl.c) (x.cl.zs.length + 1) (intC (x.cl.zs ++ [-71]))
def LState (w : World) (base : Nat) (v : Value) (ls : List Ln) : Prop := w.ownsRow base 35 2 v ls.length (ls.flatMap lnV) ∧ ∀ x ∈ ls, Tail w base x
theorem Tail.below {w w' : World} {base : Nat} {x : Ln} (h : Tail w base x) (hb : Below w.heap.size w w') : Tail w' base x := by
  obtain ⟨g, h1, h2⟩ := h
  exact ⟨g, h1, own_below h2 hb⟩
theorem LState.below {w w' : World} {base : Nat} {v : Value} {ls : List Ln} (h : LState w base v ls) (hb : Below w.heap.size w w') : LState w' base v ls := ⟨own_below h.1 hb, fun x hx => (h.2 x hx).below hb⟩
/-- a row of lines grows: the clauses' rows lie apart from it -/
theorem Tail.grown {w w' : World} {base n : Nat} {v : Value} {xs : List Value} {x : Ln} (h : Tail w base x) (hv : w.ownsRow base 35 2 v n xs) (hg : w.grownBy w' v.ownBlock) : Tail w' base x := by
  obtain ⟨g, h1, h2⟩ := h
  refine ⟨g, h1, h2.1, h2.2.imp (fun e => e) ?_⟩
  rintro ⟨g', cap, cur, e1, e2, e3, r⟩
  cases e1
  refine ⟨g, _, cur, rfl, e2, (hg.block g (Array.getElem?_eq_some_iff.1 e3).1 fun e => ?_).trans e3, r⟩
  rcases hv.2 with ⟨e4, _⟩ | ⟨g2, cap2, cur2, e4, _, e5, _⟩
  · rw [e4] at e; cases e
  · rw [e4] at e
    cases e
    rw [e3] at e5
    cases e5
theorem LState.lines {w : World} {base : Nat} {v : Value} {ls : List Ln} (h : LState w base v ls) : ∃ a c, v = .slice a ls.length c ∧ Lines w a ls := by
  have hr := h.1
  rcases hr.2 with ⟨e1, e2⟩ | ⟨g, cap, cur, e1, hb, hg, hc, _⟩
  · exact ⟨none, 0, by rw [e1, e2], fun j hj => by omega⟩
  · refine ⟨_, cap, e1, fun j hj => ?_⟩
    rw [e1] at hr
    have key : ∀ (ls : List Ln) (j : Nat), j < ls.length → (ls.flatMap lnV)[j * 2]? = some (.bool (ls.getD j default).gone) ∧ (ls.flatMap lnV)[j * 2 + 1]? = some (.slice (ls.getD j default).cl.a (ls.getD j default).cl.zs.length (ls.getD j default).cl.c) := by
      intro ls
      induction ls with
      | nil => intro j hj; cases hj
      | cons x ls ih =>
        intro j hj
        cases j with
        | zero => exact ⟨rfl, rfl⟩
        | succ j =>
          obtain ⟨a1, a2⟩ := ih j (by simpa using hj)
          refine ⟨?_, ?_⟩
          · rw [List.flatMap_cons, List.getElem?_append_right (by simp [lnV]; omega), show (j + 1) * 2 - (lnV x).length = j * 2 by simp [lnV]; omega]; exact a1
          · rw [List.flatMap_cons, List.getElem?_append_right (by simp [lnV]; omega), show (j + 1) * 2 + 1 - (lnV x).length = j * 2 + 1 by simp [lnV]; omega]; exact a2
    obtain ⟨k1, k2⟩ := key ls j hj
    have c1 := hr.cellAt (j * 2) (by omega)
    have c2 := hr.cellAt (j * 2 + 1) (by omega)
    rw [k1] at c1
    rw [k2] at c2
    refine ⟨g, 0, rfl, cellLt c1, by rw [Nat.zero_add]; exact c1, by rw [Nat.zero_add]; exact c2, ?_⟩
    obtain ⟨g2, e3, h3⟩ := h.2 (ls.getD j default) (by rw [List.getD_eq_getElem?_getD, List.getElem?_eq_getElem hj]; exact List.getElem_mem _)
    clear k1 k2 c1 c2
    generalize ls.getD j default = x at e3 h3 ⊢
    rw [e3]
    intro i hi
    have := h3.cellAt i (by omega)
    unfold intC at this
    rw [List.getElem?_map, List.getElem?_append_left hi] at this
    refine ⟨g2, 0, rfl, cellLt (this.trans (by rw [List.getElem?_eq_getElem hi]; rfl)), ?_⟩
    rw [Nat.zero_add, this, List.getElem?_eq_getElem hi, List.getD_eq_getElem?_getD, List.getElem?_eq_getElem hi]; rfl
theorem Tail.last {w : World} {base : Nat} {x : Ln} (h : Tail w base x) : ∃ g, x.cl.a = some ⟨g, 0, none⟩ ∧ w.cell? ⟨g, x.cl.zs.length, none⟩ = some (.int .i64 (-71)) ∧ x.cl.zs.length + 1 ≤ x.cl.c := by
  obtain ⟨g, e, h⟩ := h
  refine ⟨g, e, ?_, ?_⟩
  · rw [h.cellAt x.cl.zs.length (by omega)]
    unfold intC
    rw [List.getElem?_map, List.getElem?_append_right (Nat.le_refl _)]
    simp
  · rcases h.2 with ⟨e1, _⟩ | ⟨g', cap, cur, e1, _, _, hc, _⟩
    · cases e1
    · cases e1; exact hc
theorem info35 : (Tryd.prog.info? 35).map (fun i => (i.zero, i.size, i.bytes)) = some (some (.agg #[.bool false, .slice none 0 0]), 2, 32) := by kernel_rfl
def LentOut (ls : List Ln) (w : World) (e : Ending) (w' : World) : Prop := ∃ v ls', e = .returned v ∧ LState w' w.heap.size v ls' ∧ ls'.map lnz = ls.map lnz ∧ Below w.heap.size w w'
set_option maxHeartbeats 32000000 in
set_option maxRecDepth 1000000 in
theorem lent_walk (pa : Option Addr) (pn pc : Nat) (ls : List Ln) (w : World) (hpn : ls.length = pn) (hp9 : pn ≤ 100000000) (hpl : ∀ j, j < pn → (ls.getD j default).cl.zs.length ≤ 100000000 ∧ ((ls.getD j default).cl.a = none → (ls.getD j default).cl.c = 0)) (hpz : Lines w pa ls) :
    Calls Tryd.prog 11 #[.slice pa pn pc] w (LentOut ls w) := by
  obtain ⟨i3, hi3, hz30, hz31, hz32⟩ := info_parts info3
  obtain ⟨i5, hi5, hz50, hz51, hz52⟩ := info_parts info35
  go_enter Tryd.func11, Tryd.ntmps11
  go_wp2
  go_loopw [3, 4] (fun v iv wr => ∃ (k : Nat) (ls' : List Ln), k ≤ pn ∧ iv = .int .i64 k ∧ LState wr w.heap.size v ls' ∧ ls'.length = k ∧ ls'.map lnz = (ls.map lnz).take k ∧ Below w.heap.size w wr) (fun _ iv _ => pn - (intOf iv).toNat)
  case atStart => exact ⟨0, [], Nat.zero_le _, rfl, ⟨World.ownsRow_nil _ _ _ _, fun x hx => by cases hx⟩, rfl, rfl, Below.refl _ _⟩
  case round =>
    obtain ⟨k, ls', hk, rfl, hst, hlk, hmz, hbw⟩ := hrel
    obtain ⟨v, hv⟩ : ∃ x, x = u3 := ⟨_, rfl⟩
    subst hv
    by_cases hlt : k < pn
    · have hS2' : ∀ W, Below w.heap.size w W → ∃ b off, pa = some ⟨b, off, none⟩ ∧ W.cell? ⟨b, off + k * 2, none⟩ = some (.bool (ls.getD k default).gone) ∧ W.cell? ⟨b, off + k * 2 + 1, none⟩ = some (.slice (ls.getD k default).cl.a (ls.getD k default).cl.zs.length (ls.getD k default).cl.c) := fun W hW => by
        obtain ⟨b, off, e, _, h1, h2, _⟩ := (hpz.below hW) k (by omega)
        exact ⟨b, off, e, h1, h2⟩
      obtain ⟨b, off, rfl, hb, hgc, hcc, hci⟩ := (hpz.below hbw) k (by omega)
      obtain ⟨hll, hnone⟩ := hpl k hlt
      have htk : (ls.map lnz).take (k + 1) = (ls.map lnz).take k ++ [((ls.getD k default).gone, (ls.getD k default).cl.zs)] := by
        rw [List.take_add_one, List.getElem?_map, List.getElem?_eq_getElem (by omega), List.getD_eq_getElem?_getD, List.getElem?_eq_getElem (by omega)]; rfl
      obtain ⟨x, hx⟩ : ∃ x, ls.getD k default = x := ⟨_, rfl⟩
      simp only [hx] at hS2'
      rw [hx] at hgc hcc hci hll htk hnone
      obtain ⟨g, hg⟩ : ∃ t, x.gone = t := ⟨_, rfl⟩
      obtain ⟨la, hla⟩ : ∃ t, x.cl.a = t := ⟨_, rfl⟩
      obtain ⟨lc, hlc⟩ : ∃ t, x.cl.c = t := ⟨_, rfl⟩
      obtain ⟨zl, hzl⟩ : ∃ t, x.cl.zs = t := ⟨_, rfl⟩
      rw [hg] at hgc htk
      rw [hla, hlc, hzl] at hcc
      rw [hla, hzl] at hci
      rw [hla, hlc] at hnone
      rw [hzl] at hll htk
      obtain ⟨ln, hln⟩ : ∃ t, zl.length = t := ⟨_, rfl⟩
      rw [hln] at hcc hll
      have hS2 : ∀ W, Below w.heap.size w W → W.cell? ⟨b, off + k * 2, none⟩ = some (.bool g) ∧ W.cell? ⟨b, off + k * 2 + 1, none⟩ = some (.slice la ln lc) := fun W hW => by
        obtain ⟨b', o', e, h1, h2⟩ := hS2' W hW
        cases e
        rw [hg] at h1
        rw [hla, hlc, hzl, hln] at h2
        exact ⟨h1, h2⟩
      clear hx hg hla hlc hzl hS2'
      have hkI : (k : Int) < pn := by omega
      have hb1 : Below wr.heap.size wr wr.drew := below_drewN (Below.refl _ _) 1
      have hS : ∀ W, Below wr.heap.size wr W → W.cell? ⟨b, off + k * 2, none⟩ = some (.bool g) ∧ W.cell? ⟨b, off + k * 2 + 1, none⟩ = some (.slice la ln lc) := fun W hW =>
        ⟨(hW.cell (p := ⟨b, off + k * 2, none⟩) hb).trans hgc, (hW.cell (p := ⟨b, off + k * 2 + 1, none⟩) hb).trans hcc⟩
      have hnA : ∀ W, Below wr.heap.size wr W → ∀ ad, la = some ad → ∀ i u, (intC zl)[i]? = some u → W.cell? (ad.add i) = some u := fun W hW ad e i u hu => by
        unfold intC at hu
        rw [List.getElem?_map, Option.map_eq_some_iff] at hu
        obtain ⟨z, hz, rfl⟩ := hu
        have hi := (List.getElem?_eq_some_iff.1 hz).1
        obtain ⟨b', o', e1, e2, e3⟩ := hci i hi
        rw [e] at e1
        cases e1
        rw [add_plain]
        refine (hW.cell (p := ⟨b', o' + i, none⟩) e2).trans (e3.trans ?_)
        rw [List.getD_eq_getElem?_getD, hz]; rfl
      have hA0 : la = none → ln = 0 ∧ lc = 0 := fun e => by
        refine ⟨?_, hnone e⟩
        rcases Nat.eq_zero_or_pos ln with h | h
        · exact h
        · obtain ⟨b', o', e1, _⟩ := hci 0 (by omega)
          rw [e] at e1
          cases e1
      have lenA : (intC zl).length = ln * 1 := by rw [intC_length, hln]; omega
      have oneA : ∀ u ∈ intC zl, u.oneCell' = true := fun u hu => by
        obtain ⟨y, _, rfl⟩ := List.mem_map.1 hu; rfl
      have one71 : ∀ u ∈ [Value.int .i64 (-71)], u.oneCell' = true := fun u hu => by simp at hu; subst hu; rfl
      have oneL : ∀ (a' : Option Addr) (n' c' : Nat), ∀ u ∈ [Value.bool g, .slice a' n' c'], u.oneCell' = true := fun a' n' c' u hu => by simp at hu; rcases hu with rfl | rfl <;> rfl
      have hmA : 0 + ln ≤ maxLen := by unfold maxLen; omega
      have hbA : (0 + ln) * 8 ≤ 140737488355328 := by omega
      have hmB : 0 + ln + 1 ≤ maxLen := by unfold maxLen; omega
      have hbB : (0 + ln + 1) * 8 ≤ 140737488355328 := by omega
      have hmC : ls'.length + 1 ≤ maxLen := by unfold maxLen; omega
      have hbC : (ls'.length + 1) * 32 ≤ 140737488355328 := by omega
      have h71N : ∀ (W : World) (bb : Nat), W.cell? ⟨bb, 0, none⟩ = some (.int .i64 (-71)) → ∀ j u, [Value.int .i64 (-71)][j]? = some u → W.cell? ((⟨bb, 0, none⟩ : Addr).add j) = some u := fun W bb h j u hu => by
        match j, hu with
        | 0, hu =>
          simp at hu
          subst hu
          rw [add_plain]
          exact h
      have h71X : ∀ w5, (wr.drew.alloc (.cells #[.int .i64 (-71)] 3)).grownBy w5 none → w5.cell? ⟨wr.heap.size, 0, none⟩ = some (.int .i64 (-71)) := fun w5 h => h.cell (cell_new wr.drew #[.int .i64 (-71)] 3 (0, 0) 0) (by simp)
      have h71Y : ∀ W : World, (W.alloc (.cells #[.int .i64 (-71)] 3)).cell? ⟨W.heap.size, 0, none⟩ = some (.int .i64 (-71)) := fun W => cell_new W _ _ _ 0
      have hnL : ∀ (W : World) (a' : Option Addr) (n' c' : Nat), ∀ j u, [Value.bool g, .slice a' n' c'][j]? = some u → (W.alloc (.cells #[.bool g, .slice a' n' c'] 35)).cell? ((⟨W.heap.size, 0, none⟩ : Addr).add j) = some u := fun W a' n' c' j u hu => by
        rw [add_plain, Nat.zero_add]
        match j, hu with
        | 0, hu => exact (cell_new W _ _ _ 0).trans hu
        | 1, hu => exact (cell_new W _ _ _ 1).trans hu
        | j + 2, hu => simp at hu
      have hcap : ∀ {W : World} {gg cp : Nat} {xs : List Value}, W.ownsRow wr.heap.size 3 1 (.slice (some ⟨gg, 0, none⟩) (0 + ln + 1) cp) (0 + ln + 1) xs → ln + 1 ≤ cp := fun {W gg cp xs} h => by
        rcases h.2 with ⟨e1, _⟩ | ⟨g', cap, cur, e1, _, _, hc, _⟩
        · cases e1
        · cases e1; omega
      have hfin : ∀ gg cp w7 v8 w8, w7.ownsRow wr.heap.size 3 1 (.slice (some ⟨gg, 0, none⟩) (0 + ln + 1) cp) (0 + ln + 1) ([] ++ intC zl ++ [.int .i64 (-71)]) → Below wr.heap.size wr w7 → w8.ownsRow w.heap.size 35 2 v8 (ls'.length + 1) (ls'.flatMap lnV ++ [.bool g, .slice (some ⟨gg, 0, none⟩) ln cp]) → (w7.alloc (.cells #[.bool g, .slice (some ⟨gg, 0, none⟩) ln cp] 35)).grownBy w8 v.ownBlock → LState w8 w.heap.size v8 (ls' ++ [⟨g, ⟨some ⟨gg, 0, none⟩, cp, zl⟩⟩]) ∧ Below w.heap.size w w8 := by
        intro gg cp w7 v8 w8 h1 h2 h3 h4
        have hb7 := Below.alloc (Below.refl w7.heap.size w7) (Nat.le_refl _) (.cells #[.bool g, .slice (some ⟨gg, 0, none⟩) ln cp] 35)
        have hs7 := (hst.below h2).below hb7
        have hbw7 : Below w.heap.size w (w7.alloc (.cells #[.bool g, .slice (some ⟨gg, 0, none⟩) ln cp] 35)) := (hbw.trans (h2.mono hbw.size)).trans (hb7.mono (by have := hbw.size; have := h2.size; omega))
        refine ⟨⟨?_, fun y hy => ?_⟩, hbw7.grown h4 hbw7.size fun g hg => (hs7.1.lt g hg).1⟩
        · rw [List.length_append, List.flatMap_append]
          have e : [(⟨g, ⟨some ⟨gg, 0, none⟩, cp, zl⟩⟩ : Ln)].flatMap lnV = [.bool g, .slice (some ⟨gg, 0, none⟩) ln cp] := by simp [lnV, hln]
          rw [e]
          exact h3
        · rcases List.mem_append.1 hy with h | h
          · exact (hs7.2 y h).grown hs7.1 h4
          · rw [List.mem_singleton.1 h]
            refine Tail.grown (x := ⟨g, ⟨some ⟨gg, 0, none⟩, cp, zl⟩⟩) ⟨gg, rfl, own_below (World.ownsRow.mono ?_ hbw.size) hb7⟩ hs7.1 h4
            show w7.ownsRow wr.heap.size 3 1 (.slice (some ⟨gg, 0, none⟩) (zl.length + 1) cp) (zl.length + 1) (intC (zl ++ [-71]))
            have e : ([] ++ intC zl ++ [Value.int .i64 (-71)]) = intC (zl ++ [-71]) := by rw [intC_append]; rfl
            rw [e, Nat.zero_add] at h1
            rw [hln]
            exact h1
      have hst1 := hst.1
      go_wp2_with fail
      go_region_held3 (fun w' => w'.cell? ⟨b, off + k * 2, none⟩ = some (.bool g) ∧ w'.cell? ⟨b, off + k * 2 + 1, none⟩ = some (.slice la ln lc))
        (first | exact hS2 _ hE8.2 | exact hS _ hb1 | exact hS _ (hb1.alloc (Nat.le_refl _) _) | exact hS _ hb7 | exact hS _ (hb7.alloc hb7.size _) | exact hS _ hb5 | exact hS _ (hb5.alloc hb5.size _))
        (first | (refine step_append_any (by rfl) _ _ _ (by rfl) wr.heap.size 3 i3 _ 1 8 Tryd.underlying33 hi3 hz30 hz31 hz32 rfl (by decide) (.slice none 0 0) 0 [] (by rfl) (World.ownsRow_nil _ _ _ _) la ln lc (intC zl) (by rfl) hA0 lenA (hnA _ hb1) oneA hmA hbA (Nat.le_refl _) ?_; intro v5 w5 ho5 hg5; have hb5 := hb1.grown hg5 (Nat.le_refl _) (fun g hg => by cases hg)) | (refine step_append_any (by rfl) _ _ _ (by rfl) wr.heap.size 3 i3 _ 1 8 Tryd.underlying33 hi3 hz30 hz31 hz32 rfl (by decide) (.slice none 0 0) 0 [] (by rfl) (World.ownsRow_nil _ _ _ _) la ln lc (intC zl) (by rfl) hA0 lenA (hnA _ (hb1.alloc (Nat.le_refl _) _)) oneA hmA hbA (hb1.alloc (Nat.le_refl _) _).size ?_; intro v5 w5 ho5 hg5; have hb5 := (hb1.alloc (Nat.le_refl _) _).grown hg5 (hb1.alloc (Nat.le_refl _) _).size (fun g hg => by cases hg); have h71 := h71X _ hg5) | (refine step_append_lies _ (by rfl) _ _ _ (by rfl) wr.heap.size 3 i3 _ 1 8 Tryd.underlying33 hi3 hz30 hz31 hz32 rfl (by decide) _ _ _ (by rfl) (ho5.alloc _) ⟨w5.heap.size, 0, none⟩ 1 1 [.int .i64 (-71)] (by rfl) (by rfl) (h71N _ _ (h71Y w5)) one71 (by decide) hmB hbB (hb5.alloc hb5.size _).size _ rfl ?_; intro gg cp w7 ho7 hg7 hat7 hlt7; have hb7 := (hb5.alloc hb5.size _).grown hg7 (hb5.alloc hb5.size _).size (fun g hg => (ho5.lt g hg).1); have hc7 := hcap ho7; have hc8 : ln ≤ cp := Nat.le_of_succ_le hc7; have hc9 : (ln : Int) ≤ cp := Int.ofNat_le.2 hc8) | (refine step_append_lies _ (by rfl) _ _ _ (by rfl) wr.heap.size 3 i3 _ 1 8 Tryd.underlying33 hi3 hz30 hz31 hz32 rfl (by decide) _ _ _ (by rfl) ho5 ⟨wr.heap.size, 0, none⟩ 1 1 [.int .i64 (-71)] (by rfl) (by rfl) (h71N _ _ h71) one71 (by decide) hmB hbB hb5.size _ rfl ?_; intro gg cp w7 ho7 hg7 hat7 hlt7; have hb7 := hb5.grown hg7 hb5.size (fun g hg => (ho5.lt g hg).1); have hc7 := hcap ho7; have hc8 : ln ≤ cp := Nat.le_of_succ_le hc7; have hc9 : (ln : Int) ≤ cp := Int.ofNat_le.2 hc8) | (refine step_append_own (by rfl) _ _ _ (by rfl) w.heap.size 35 i5 _ 2 32 Tryd.underlying25 hi5 hz50 hz51 hz52 rfl (by decide) _ _ _ (by rfl) ((own_below hst1 hb7).alloc _) ⟨w7.heap.size, 0, none⟩ 1 1 [.bool g, .slice (some ⟨gg, 0, none⟩) ln cp] (by rfl) (by rfl) (hnL w7 _ _ _) (oneL _ _ _) hmC hbC (Nat.le_trans hbw.size (hb7.alloc hb7.size _).size) ?_; intro v8 w8 ho8 hg8; have hE8 := hfin gg cp w7 v8 w8 ho7 hb7 ho8 hg8))
      all_goals (go_wp2_with fail)
      all_goals go_roundw
      all_goals first
        | exact ⟨k + 1, _, hlt, (by simp), hE8.1, (by rw [List.length_append, hlk]; rfl), (by rw [htk, List.map_append, hmz]; rfl), hE8.2⟩
        | (simp [intOf]; omega)
    · have e0 : k = pn := by omega
      have hfull : (ls.map lnz).take k = ls.map lnz := List.take_of_length_le (by rw [List.length_map]; omega)
      rw [hfull] at hmz
      have hR : LentOut ls w (.returned v) wr := ⟨v, ls', rfl, hst, hmz, hbw⟩
      subst e0
      go_wp2
      go_ret
      exact hR
end Go.Proofs.YtagfnjpjmmleiaaDoor

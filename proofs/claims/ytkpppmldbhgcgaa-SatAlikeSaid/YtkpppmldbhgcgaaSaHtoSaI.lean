/- Sat: the order's Pop. -/
import Derived.Test.YtkpppmldbhgcgaaSaEtoSaC
import Derived.Maps.OwnSet
import Derived.Deep.AppendLies
import Derived.OwnWalk
import Derived.ArgAppend
import Derived.StillTailTactics
set_option linter.unusedVariables false
set_option linter.unusedSimpArgs false
set_option autoImplicit false
set_option linter.unusedVariables false
set_option linter.unusedSimpArgs false
namespace Go.Proofs.Ytkpppmldbhgcgaa
open Go Go.RowKit
theorem mem_ovTake (S : Sz) (k : Nat) (hk : k ≤ S.ov.length) : mem { S with ov := S.ov.take k } = upd (mem S) .ov ⟨k, (mem S .ov).cs.take (k * kd.esz .ov)⟩ := by
  funext t
  by_cases e : t = .ov
  · subst e
    rw [upd_same]
    have : k * kd.esz .ov = k := Nat.mul_one k
    rw [this]
    show (⟨((S.ov.take k).map vi).length, (S.ov.take k).map vi⟩ : Ob Tg) = ⟨k, (S.ov.map vi).take k⟩
    rw [List.length_map, List.length_take, Nat.min_eq_left hk, List.map_take]
  · rw [upd_other _ _ e]
    cases t <;> first | rfl | exact absurd rfl e
theorem mem_pl' (S : Sz) (i : Nat) (x : Int) : mem { S with pl := S.pl.set i x } = upd (mem S) .pl ⟨(mem S .pl).n, (mem S .pl).cs.set i (vi x)⟩ := by
  funext t
  by_cases e : t = .pl
  · subst e
    rw [upd_same]
    simp [mem, Ytkpppmldbhgcgaa.row, List.map_set]
  · rw [upd_other _ _ e]
    cases t <;> first | rfl | exact absurd rfl e
variable {lo n : Nat} {w : World} {own : Nat → Option Tg} {rv : Tg → Value} {S : Sz}
def popZ (S : Sz) : Sz := { S with ov := S.ov.take (S.ov.length - 1), pl := S.pl.set ((S.ov.getD (S.ov.length - 1) 0).toNat) (-1) }
set_option maxHeartbeats 8000000 in
set_option maxRecDepth 1000000 in
theorem opop_walk (h : Sol lo w own rv S) (ho : OrdOK n S) (h0 : 0 < S.ov.length) : Calls Try.prog 94 #[rv .x] w fun e w' => e = .returned (.iface 3 (.int .i64 (S.ov.getD (S.ov.length - 1) 0))) ∧ (∃ v, Sol lo w' own (upd rv .ov v) (popZ S)) ∧ Frm own own w w' := by
  obtain ⟨b, hb, hlx, _, hbw⟩ := h.xb
  have hbig := ho.big
  have hovl := ho.ovl
  obtain ⟨m, hm⟩ : ∃ m, S.ov.length = m + 1 := ⟨S.ov.length - 1, by omega⟩
  have hi : m < S.ov.length := by omega
  obtain ⟨g, c, g2, c2, g3, c3, v, f0, f1, f2, hv, hvn, k1, k2, k3, e1, e2, e3⟩ := ord_cells h ho hi hb
  have a1 : w.cell? ⟨g, m, none⟩ = some (.int .i64 v) := by rw [← hv]; exact (h.rcell e1 (map_get (list_get 0 hi))).1
  have z0 := (h.fld hb (m := 0) rfl).2
  obtain ⟨p1, p2⟩ := h.rcell (t := .pl) e2 (map_get (list_get 0 (by rw [ho.pl]; exact hvn)))
  have hlg2 : own g2 = some .pl := by
    obtain ⟨b', e, hl, _⟩ := h.cell (t := .pl) (m := v) (map_get (list_get 0 (by rw [ho.pl]; exact hvn)))
    rw [e2] at e; cases e; exact hl
  have hbg2 : b ≠ g2 := apart hlx hlg2 (by intro e; cases e)
  have hn1 : (mem S .ov).n = m + 1 := by show (S.ov.map _).length = _; rw [List.length_map, hm]
  have hcut := h.cut (T := .ov) (p := .x) (b := b) (m := 0) (g := g) (cap := c) (k := m) rfl (by rw [hn1, e1, hm]) (by omega) (by intro e; cases e) (by rw [hb]; rfl) rfl (ref_uniq S rfl rfl)
  rw [← mem_ovTake S m (by omega)] at hcut
  have hput := hcut.put (t := .pl) (b := g2) (m := v) hlg2 (by rw [upd_other _ _ (by intro e; cases e), e2]; rfl) (vi (-1)) (by
    intro e
    have e : S.pl.map vi = [] := e
    rw [List.map_eq_nil_iff] at e
    have := ho.pl
    rw [e] at this
    simp at this
    omega)
  rw [← mem_pl'] at hput
  have hP : popZ S = { { S with ov := S.ov.take m } with pl := S.pl.set v (-1) } := by unfold popZ; rw [hm, Nat.add_sub_cancel, hv]; rfl
  rw [show S.ov.length - 1 = m by omega, hv, hP, hb]
  rw [hm] at f0 k1 hovl
  have hmI : (m : Int) < (m : Int) + 1 := by omega
  have hvI : (v : Int) < n := by omega
  have hfr : Frm own own w ((w.setCell ⟨b, 0, none⟩ (.slice (some ⟨g, 0, none⟩) m c)).setCell ⟨g2, v, none⟩ (.int .i64 (-1))) := ((Frm.refl own w).setCell hlx _).setCell hlg2 _
  have hlen : (((m + 1 : Nat) : Int)) - 1 = m := by omega
  have hmc : m ≤ c := by omega
  have hmc2 : (m : Int) ≤ c := by omega
  clear hcut hv hm hn1 e1 e2 e3 hP
  go_enter Try.func94, Try.ntmps94
  go_wp2
  go_ret
  exact ⟨rfl, ⟨_, hput⟩, hfr⟩
end Go.Proofs.Ytkpppmldbhgcgaa
/- Sat: append to a row of one's own, which tells where the row lies behind it: where it lay, or in a new block. -/
set_option autoImplicit false
set_option linter.unusedVariables false
namespace Go.Proofs.Ytkpppmldbhgcgaa
open Go Go.RowKit
theorem grownBy_any {w w' : World} {row : Option Nat} (h : w.grownBy w' none) : w.grownBy w' row := ⟨h.os, h.tape, h.output, h.size, fun k hk _ => h.block k hk (by intro e; cases e)⟩
theorem owns_new {w : World} {base b2 : Nat} {e : TypeId} {size : Nat} {v : Value} {n : Nat} {xs : List Value} (h : w.ownsRow b2 e size v n xs) (hb : base ≤ b2) (hn : 0 < n) : w.ownsRow base e size v n xs ∧ ∃ g, v.ownBlock = some g ∧ b2 ≤ g := by
  obtain ⟨h1, h2⟩ := h
  rcases h2 with ⟨_, h0⟩ | ⟨g, cap, cur, rfl, hbg, r⟩
  · omega
  · exact ⟨⟨h1, .inr ⟨g, cap, cur, rfl, Nat.le_trans hb hbg, r⟩⟩, g, rfl, hbg⟩
theorem wpList_append_told {P : Program} (w : World) {ops : Array Oper} {rest : List Oper} {o : Oper} {a : Act} {Q : Exit → Act → World → Prop}
    (hgd : o.guard = none) (s x : Operand) (t : TypeId) (ho : o.op = .call { callee := .builtin .append, args := #[s, x], argTypes := #[t, t] })
    (base : Nat) (e : TypeId) (i : TypeInfo) (z : Value) (size bytes : Nat) (ht : P.underlying t = some (.slice e)) (hi : P.info? e = some i) (hz : i.zero = some z)
    (hsize : i.size = size) (hby : i.bytes = bytes) (hzs : z.cells.size = size) (hsz : 0 < size)
    (v : Value) (n : Nat) (xs : List Value) (hs : a.eval s = v) (hown : w.ownsRow base e size v n xs)
    (ad : Addr) (m c : Nat) (news : List Value) (hx : a.eval x = .slice (some ad) m c) (hl : news.length = m * size) (hnews : ∀ j u, news[j]? = some u → w.cell? (ad.add j) = some u) (h1 : ∀ u ∈ news, u.oneCell' = true)
    (hm : 0 < m) (h63 : n + m ≤ maxLen) (hbytes : (n + m) * bytes ≤ 140737488355328) (hbase : base ≤ w.heap.size)
    (h : ∀ v' w', w'.ownsRow base e size v' (n + m) (xs ++ news) → w.grownBy w' v.ownBlock → (∃ g, v'.ownBlock = some g ∧ (v.ownBlock = some g ∨ w.heap.size ≤ g)) → wpList P ops Q rest (a.put o.dst v') w') : wpList P ops Q (o :: rest) a w := by
  rcases hown.2 with ⟨e1, e2⟩ | ⟨g, cap, cur, e1, hbg, hg, hnc, hcm, hcs, htake⟩
  · subst e2
    have hxs : xs = [] := List.eq_nil_of_length_eq_zero (by simpa using hown.1)
    subst hxs
    refine wpList_append_grows w hgd s x t ho e i z size bytes ht hi hz hsize hby hzs hsz none 0 0 [] (hs.trans e1) (fun _ => ⟨rfl, rfl⟩) (by simp) (fun b hb => by cases hb) ad m c news hx hl hnews h1 (by omega) h63 hbytes fun v' w' k1 k2 => ?_
    obtain ⟨k3, g', k4, k5⟩ := owns_new k1 hbase (by omega)
    exact h v' w' k3 (grownBy_any k2) ⟨g', k4, .inr k5⟩
  · by_cases hroom : n + m ≤ cap
    · refine wpList_append_fits w hgd s x t ho base e i size ht hi hsize g n cap xs (hs.trans e1) (by rw [← e1]; exact hown) ad m c news hx hl hnews h1 hroom fun w' k1 k2 => ?_
      refine h _ w' k1 (by rw [e1]; exact k2) ⟨g, rfl, .inl (by rw [e1]; rfl)⟩
    · have hob : v.ownBlock = some g := by rw [e1]; rfl
      refine wpList_append_grows w hgd s x t ho e i z size bytes ht hi hz hsize hby hzs hsz (some ⟨g, 0, none⟩) n cap xs (hs.trans e1) (fun e => by cases e) hown.1 (fun b hb => by cases hb; exact hown.cells hob) ad m c news hx hl hnews h1 (by omega) h63 hbytes fun v' w' k1 k2 => ?_
      obtain ⟨k3, g', k4, k5⟩ := owns_new k1 hbase (by omega)
      exact h v' w' k3 (grownBy_any k2) ⟨g', k4, .inr k5⟩
end Go.Proofs.Ytkpppmldbhgcgaa
/- Sat: the order's Push. -/
set_option autoImplicit false
set_option linter.unusedVariables false
set_option linter.unusedSimpArgs false
namespace Go.Proofs.Ytkpppmldbhgcgaa
open Go Go.RowKit
theorem add_plain (b o j : Nat) : (⟨b, o, none⟩ : Addr).add j = ⟨b, o + j, none⟩ := by
  unfold Addr.add
  split <;> simp_all
theorem cell_new (w : World) (cs : Array Value) (t : TypeId) (fz : Nat × Nat) (k : Nat) : (w.alloc (.cells cs t fz)).cell? ⟨w.heap.size, k, none⟩ = cs[k]? := by
  have h : (w.alloc (.cells cs t fz)).heap[w.heap.size]? = some (.cells cs t fz) := by
    show (w.heap.push (.cells cs t fz))[w.heap.size]? = _
    simp
  unfold World.cell?
  rw [h]
  rfl
theorem info3 : (Try.prog.info? 3).map (fun i => (i.zero, i.size, i.bytes)) = some (some (.int .i64 0), 1, 8) := by kernel_rfl
theorem info_parts' {P : Program} {t : TypeId} {z : Option Value} {s b : Nat} (h : (P.info? t).map (fun i => (i.zero, i.size, i.bytes)) = some (z, s, b)) : ∃ i, P.info? t = some i ∧ i.zero = z ∧ i.size = s ∧ i.bytes = b := by
  cases e : P.info? t with
  | none => rw [e] at h; cases h
  | some i =>
    rw [e] at h
    simp at h
    exact ⟨i, rfl, h.1, h.2.1, h.2.2⟩
theorem Frm.grow {τ : Type} {a b : Nat → Option τ} {u v w1 : World} (h : Frm a b u v) {row : Option Nat} (hg : v.grownBy w1 row) {g : Nat} {T : τ} (hr : ∀ k, row = some k → b k = some T) (hl : row = some g ∨ v.heap.size ≤ g) : Frm a (Ytkpppmldbhgcgaa.lab b g T) u w1 :=
  ⟨hg.os.trans h.os, hg.tape.trans h.tape, hg.output.trans h.output, Nat.le_trans h.size hg.size, fun k hk => by
    by_cases e : k = g
    · subst e
      show Ytkpppmldbhgcgaa.lab b k T k = a k
      rw [lab_same, ← h.lab k hk]
      rcases hl with e2 | e2
      · exact (hr k e2).symm
      · have := h.size; omega
    · show Ytkpppmldbhgcgaa.lab b g T k = a k
      rw [lab_other _ _ e]; exact h.lab k hk, fun k hk e => (hg.block k (Nat.lt_of_lt_of_le hk h.size) (fun e2 => by
      have := hr k e2.symm
      rw [h.lab k hk, e] at this
      cases this)).trans (h.keep k hk e)⟩
theorem mem_ovSnoc (S : Sz) (x : Int) : mem { S with ov := S.ov ++ [x] } = upd (mem S) .ov ⟨S.ov.length + 1, S.ov.map vi ++ [vi x]⟩ := by
  funext t
  by_cases e : t = .ov
  · subst e
    rw [upd_same]
    show (⟨((S.ov ++ [x]).map vi).length, (S.ov ++ [x]).map vi⟩ : Ob Tg) = _
    rw [List.length_map, List.length_append, List.map_append]
    rfl
  · rw [upd_other _ _ e]
    cases t <;> first | rfl | exact absurd rfl e
variable {lo n : Nat} {w : World} {own : Nat → Option Tg} {rv : Tg → Value} {S : Sz}
def pushZ (S : Sz) (v : Nat) : Sz := { S with pl := S.pl.set v S.ov.length, ov := S.ov ++ [(v : Int)] }
set_option maxHeartbeats 8000000 in
set_option maxRecDepth 1000000 in
theorem opush_walk (h : Sol lo w own rv S) (ho : OrdOK n S) (v : Nat) (hv : v < n) (hL : S.ov.length < n) : Calls Try.prog 95 #[rv .x, .iface 3 (.int .i64 v)] w fun e w' => e = .returned (.tuple #[]) ∧ ∃ own' v', Sol lo w' own' (upd rv .ov v') (pushZ S v) ∧ Frm own own' w w' := by
  obtain ⟨i0, hi0, hz0, hz1, hz2⟩ := info_parts' info3
  obtain ⟨b, hb, hlx, hlob, hbw⟩ := h.xb
  have hbig := ho.big
  have f0 := (h.fld hb (m := 0) rfl).1
  have z0 := (h.fld hb (m := 0) rfl).2
  have f1 := (h.fld hb (m := 1) rfl).1
  have l2 : (mem S .pl).n = n := by show (S.pl.map _).length = _; rw [List.length_map]; exact ho.pl
  obtain ⟨g2, c2, e2, hlg2, _, _, k2, _⟩ := h.head (t := .pl) rfl (by omega)
  rw [l2] at e2 k2
  rw [show conc rv (AC.ref Tg.pl) = _ from e2] at f1
  replace f0 : w.cell? ⟨b, 0, none⟩ = some (rv .ov) := f0
  have hl : (mem S .ov).n = S.ov.length := by show (S.ov.map _).length = _; rw [List.length_map]
  obtain ⟨L, hLL⟩ : ∃ L, S.ov.length = L := ⟨_, rfl⟩
  have hform : ∃ a c, rv .ov = .slice a L c := by
    rcases h.row (t := .ov) rfl with ⟨e, e2, _⟩ | ⟨g, cap, e, _⟩
    · rw [hl, hLL] at e2; exact ⟨none, 0, by rw [e, e2]⟩
    · rw [hl, hLL] at e; exact ⟨_, _, e⟩
  obtain ⟨a, c, hv0⟩ := hform
  obtain ⟨p1, p2⟩ := h.rcell (t := .pl) e2 (map_get (list_get 0 (by rw [ho.pl]; exact hv)))
  obtain ⟨wA, hwA⟩ : ∃ x, x = (w.setCell ⟨g2, v, none⟩ (.int .i64 L)).drew := ⟨_, rfl⟩
  have hA : Sol lo wA own rv { S with pl := S.pl.set v (L : Int) } := by
    rw [hwA]
    have := (h.put (t := .pl) (b := g2) (m := v) hlg2 (by rw [e2]; rfl) (vi L) (by
      intro e
      have e : S.pl.map vi = [] := e
      rw [List.map_eq_nil_iff] at e
      have := ho.pl
      rw [e] at this
      simp at this
      omega)).drew
    rw [← mem_pl'] at this
    exact this
  have hfA : Frm own own w wA := by rw [hwA]; exact ((Frm.refl own w).setCell hlg2 _).drew
  have y0 : wA.cell? ⟨b, 0, none⟩ = some (rv .ov) := (hA.fld hb (m := 0) rfl).1
  have hB := hA.alloc (.cells #[.int .i64 v] 3)
  have hrow := (hB.part .ov).1 rfl
  have hlen : (mem { S with pl := S.pl.set v (L : Int) } .ov).n = L := by show (S.ov.map _).length = _; rw [List.length_map, hLL]
  have own2 : (wA.alloc (.cells #[.int .i64 v] 3)).ownsRow lo 3 1 (.slice a L c) L (concs rv (S.ov.map vi)) := by
    have := hrow.row
    rw [hlen, hv0] at this
    exact this
  have cn := cell_new wA #[.int .i64 (v : Int)] 3 (0, 0) 0
  have hloA : lo ≤ wA.heap.size := Nat.le_trans hlob (by have := hfA.size; omega)
  have hend : ∀ g' cap' (w1 : World), w1.ownsRow lo 3 1 (.slice (some ⟨g', 0, none⟩) (L + 1) cap') (L + 1) (concs rv (S.ov.map vi) ++ [.int .i64 v]) → (wA.alloc (.cells #[.int .i64 v] 3)).grownBy w1 (Value.slice a L c).ownBlock → ((Value.slice a L c).ownBlock = some g' ∨ (wA.alloc (.cells #[.int .i64 v] 3)).heap.size ≤ g') →
      (w1.cell? ⟨b, 0, none⟩ = some (rv .ov) ∧ w1.frozen? ⟨b, 0, none⟩ = false) ∧ Sol lo (w1.setCell ⟨b, 0, none⟩ (.slice (some ⟨g', 0, none⟩) (L + 1) cap')) (lab own g' .ov) (upd rv .ov (.slice (some ⟨g', 0, none⟩) (L + 1) cap')) (pushZ S v) ∧ Frm own (lab own g' .ov) w (w1.setCell ⟨b, 0, none⟩ (.slice (some ⟨g', 0, none⟩) (L + 1) cap')) := by
    intro g' cap' w1 q1 q2 q3
    have A : Moved kd lo (wA.alloc (.cells #[.int .i64 v] 3)) w1 own rv .ov g' cap' (L + 1) (S.ov.map vi ++ [vi v]) := ⟨by
      have : concs rv (S.ov.map vi ++ [vi v]) = concs rv (S.ov.map vi) ++ [.int .i64 v] := by unfold concs; rw [List.map_append]; rfl
      rw [this]; exact q1, by rw [hv0]; exact q2, by rw [hv0]; exact q3⟩
    have hm := hB.move (T := .ov) (p := .x) (b := b) (m := 0) rfl A (by intro e; cases e) (by rw [hb]; rfl) rfl (ref_uniq _ rfl rfl) (fun k hk => by
      have hk : ((S.ov ++ [(v : Int)]).map vi)[k]? = some (AC.ref Tg.ov) := by rw [List.map_append]; exact hk
      exact map_val hk)
    have hS : pushZ S v = { { S with pl := S.pl.set v (L : Int) } with ov := S.ov ++ [(v : Int)] } := by unfold pushZ; rw [hLL]
    have hmem := mem_ovSnoc { S with pl := S.pl.set v (L : Int) } v
    rw [hS]
    have hlb : ∀ k, (Value.slice a L c).ownBlock = some k → own k = some .ov := fun k hk => hrow.lab k (by rw [hv0]; exact hk)
    have hne : (Value.slice a L c).ownBlock ≠ some b := fun e => by
      have := hlb b e
      rw [hlx] at this
      cases this
    have hbA : b < (wA.alloc (.cells #[.int .i64 v] 3)).heap.size := by have := hfA.size; simp; omega
    have hblk := (q2.block b hbA (fun e => hne e.symm)).trans (Below.heap_alloc wA _ b (by have := hfA.size; omega))
    have hfr := (hfA.alloc (.cells #[.int .i64 v] 3)).grow q2 (g := g') (T := .ov) hlb q3
    refine ⟨⟨(World.cell?_of_block (a := ⟨b, 0, none⟩) hblk).trans y0, (World.frozen?_of_block (a := ⟨b, 0, none⟩) hblk).trans (hA.fld hb (m := 0) rfl).2⟩, ?_, ?_⟩
    · rw [Sol, hmem]
      show Rep kd lo _ _ _ (upd (mem { S with pl := S.pl.set v (L : Int) }) .ov ⟨S.ov.length + 1, S.ov.map vi ++ [vi v]⟩)
      rw [hLL]
      exact hm
    · refine hfr.setCell (t := .x) ?_ _
      show lab own g' .ov b = some .x
      by_cases e : b = g'
      · subst e
        rcases q3 with e | e
        · exact absurd e hne
        · omega
      · rw [lab_other _ _ e]; exact hlx
  rw [hb]
  rw [hv0] at f0 y0
  have hvI : (v : Int) < n := by omega
  have hLn : L < n := by omega
  clear hrow hB hA hfA hl hlen hLL
  have y1 : (w.setCell ⟨g2, v, none⟩ (.int .i64 L)).cell? ⟨b, 0, none⟩ = some (.slice a L c) := by rw [hwA] at y0; exact y0
  have y2 : (w.setCell ⟨g2, v, none⟩ (.int .i64 L)).heap.size = w.heap.size := by simp
  subst hwA
  have hta : ∀ W : World, (Instr.typeAssert (.iface 3 (.int .i64 (v : Int))) 20 3 false).run Try.prog W = .ok (.int .i64 v) W := fun W => by first | rfl | kernel_rfl | simp [Instr.typeAssert]
  go_enter Try.func95, Try.ntmps95
  go_wp2
  go_still_tail 10, (by kernel_rfl)
  go_wp2_with (first | (at_builtin; refine wpList_append_told _ rfl _ _ 40 rfl lo 3 i0 (.int .i64 0) 1 8 Try.underlying40 hi0 hz0 hz1 hz2 rfl (by decide) _ _ _ rfl own2 ⟨w.heap.size, 0, none⟩ 1 1 [.int .i64 (v : Int)] rfl rfl ?c1 ?c2 (by decide) ?c3 ?c4 ?c5 ?_))
  case c1 =>
    intro j u hj
    match j, hj with
    | 0, hj =>
      simp at hj
      subst hj
      rw [add_plain]
      have cn2 := cn
      rw [show (w.setCell ⟨g2, v, none⟩ (.int .i64 (L : Int))).drew.heap.size = w.heap.size from y2] at cn2
      exact cn2
  case c2 => intro u hu; simp at hu; subst hu; rfl
  case c3 => unfold maxLen; omega
  case c4 => omega
  case c5 => exact Nat.le_trans hloA (by simp)
  intro v' w1 hown' hgrow gg hl1 hl2
  rcases hown'.2 with ⟨_, e9⟩ | ⟨g9, cap9, cur9, rfl, _⟩
  · omega
  cases hl1
  obtain ⟨⟨d1, d2⟩, hS, hF⟩ := hend _ _ w1 hown' hgrow (hl2.imp id fun hh => by
    have e : ((w.setCell ⟨g2, v, none⟩ (.int .i64 (L : Int))).drew.alloc (.cells #[.int .i64 (v : Int)] 3)).heap.size = w.heap.size + 1 := by
      show ((w.setCell ⟨g2, v, none⟩ (.int .i64 (L : Int))).heap.push _).size = _
      rw [Array.size_push, y2]
    rw [e]; exact hh)
  rw [hv0] at d1
  clear hend hgrow hl2 hown'
  go_wp2
  go_end0
  exact ⟨rfl, _, _, hS, hF⟩
end Go.Proofs.Ytkpppmldbhgcgaa

/- Sat: append to a row of one's own, which tells where the row lies behind it: where it lay, or in a new block. -/
import Derived.Test.YtkpppmldbhgcgaaSaGtoSaH
import Derived.Maps.OwnSet
import Derived.Deep.AppendLies
import Derived.OwnWalk
import Derived.ArgAppend
import Derived.StillTailTactics
import Derived.Deep.RegionLaw
set_option linter.unusedVariables false
set_option linter.unusedSimpArgs false
set_option autoImplicit false
set_option linter.unusedVariables false
namespace Go.Proofs.Ytkpppmldbhgcgaa
open Go Go.RowKit
theorem grownBy_any {w w' : World} {row : Option Nat} (h : w.grownBy w' none) : w.grownBy w' row := ⟨h.os, h.tape, h.output, h.size, fun k hk _ => h.block k hk (by intro e; cases e)⟩
theorem owns_new {w : World} {base b2 : Nat} {e : TypeId} {size : Nat} {v : Value} {n : Nat} {xs : List Value} (h : w.ownsRow b2 e size v n xs) (hb : base ≤ b2) (hn : 0 < n) : w.ownsRow base e size v n xs ∧ ∃ g, v.ownBlock = some g ∧ b2 ≤ g := by
  obtain ⟨h1, h2⟩ := h
  rcases h2 with ⟨_, h0⟩ | ⟨g, cap, cur, rfl, hbg, r⟩
  · omega
  · exact ⟨⟨h1, .inr ⟨g, cap, cur, rfl, Nat.le_trans hb hbg, r⟩⟩, g, rfl, hbg⟩
theorem wpList_append_told {P : Program} (w : World) {ops : Array Oper} {rest : List Oper} {o : Oper} {a : Act} {Q : Exit → Act → World → Prop}
    (hgd : o.guard = none) (s x : Operand) (t : TypeId) (ho : o.op = .call { callee := .builtin .append, args := #[s, x], argTypes := #[t, t] })
    (base : Nat) (e : TypeId) (i : TypeInfo) (z : Value) (size bytes : Nat) (ht : P.underlying t = some (.slice e)) (hi : P.info? e = some i) (hz : i.zero = some z)
    (hsize : i.size = size) (hby : i.bytes = bytes) (hzs : z.cells.size = size) (hsz : 0 < size)
    (v : Value) (n : Nat) (xs : List Value) (hs : a.eval s = v) (hown : w.ownsRow base e size v n xs)
    (ad : Addr) (m c : Nat) (news : List Value) (hx : a.eval x = .slice (some ad) m c) (hl : news.length = m * size) (hnews : ∀ j u, news[j]? = some u → w.cell? (ad.add j) = some u) (h1 : ∀ u ∈ news, u.oneCell' = true)
    (hm : 0 < m) (h63 : n + m ≤ maxLen) (hbytes : (n + m) * bytes ≤ 140737488355328) (hbase : base ≤ w.heap.size)
    (h : ∀ v' w', w'.ownsRow base e size v' (n + m) (xs ++ news) → w.grownBy w' v.ownBlock → (∃ g, v'.ownBlock = some g ∧ (v.ownBlock = some g ∨ w.heap.size ≤ g)) → wpList P ops Q rest (a.put o.dst v') w') : wpList P ops Q (o :: rest) a w := by
  rcases hown.2 with ⟨e1, e2⟩ | ⟨g, cap, cur, e1, hbg, hg, hnc, hcm, hcs, htake⟩
  · subst e2
    have hxs : xs = [] := List.eq_nil_of_length_eq_zero (by simpa using hown.1)
    subst hxs
    refine wpList_append_grows w hgd s x t ho e i z size bytes ht hi hz hsize hby hzs hsz none 0 0 [] (hs.trans e1) (fun _ => ⟨rfl, rfl⟩) (by simp) (fun b hb => by cases hb) ad m c news hx hl hnews h1 (by omega) h63 hbytes fun v' w' k1 k2 => ?_
    obtain ⟨k3, g', k4, k5⟩ := owns_new k1 hbase (by omega)
    exact h v' w' k3 (grownBy_any k2) ⟨g', k4, .inr k5⟩
  · by_cases hroom : n + m ≤ cap
    · refine wpList_append_fits w hgd s x t ho base e i size ht hi hsize g n cap xs (hs.trans e1) (by rw [← e1]; exact hown) ad m c news hx hl hnews h1 hroom fun w' k1 k2 => ?_
      refine h _ w' k1 (by rw [e1]; exact k2) ⟨g, rfl, .inl (by rw [e1]; rfl)⟩
    · have hob : v.ownBlock = some g := by rw [e1]; rfl
      refine wpList_append_grows w hgd s x t ho e i z size bytes ht hi hz hsize hby hzs hsz (some ⟨g, 0, none⟩) n cap xs (hs.trans e1) (fun e => by cases e) hown.1 (fun b hb => by cases hb; exact hown.cells hob) ad m c news hx hl hnews h1 (by omega) h63 hbytes fun v' w' k1 k2 => ?_
      obtain ⟨k3, g', k4, k5⟩ := owns_new k1 hbase (by omega)
      exact h v' w' k3 (grownBy_any k2) ⟨g', k4, .inr k5⟩
end Go.Proofs.Ytkpppmldbhgcgaa
/- Sat: the order's Push. -/
set_option autoImplicit false
set_option linter.unusedVariables false
set_option linter.unusedSimpArgs false
namespace Go.Proofs.Ytkpppmldbhgcgaa
open Go Go.RowKit
theorem add_plain (b o j : Nat) : (⟨b, o, none⟩ : Addr).add j = ⟨b, o + j, none⟩ := by
  unfold Addr.add
  split <;> simp_all
theorem cell_new (w : World) (cs : Array Value) (t : TypeId) (fz : Nat × Nat) (k : Nat) : (w.alloc (.cells cs t fz)).cell? ⟨w.heap.size, k, none⟩ = cs[k]? := by
  have h : (w.alloc (.cells cs t fz)).heap[w.heap.size]? = some (.cells cs t fz) := by
    show (w.heap.push (.cells cs t fz))[w.heap.size]? = _
    simp
  unfold World.cell?
  rw [h]
  rfl
theorem info3 : (Try.prog.info? 3).map (fun i => (i.zero, i.size, i.bytes)) = some (some (.int .i64 0), 1, 8) := by kernel_rfl
theorem info_parts' {P : Program} {t : TypeId} {z : Option Value} {s b : Nat} (h : (P.info? t).map (fun i => (i.zero, i.size, i.bytes)) = some (z, s, b)) : ∃ i, P.info? t = some i ∧ i.zero = z ∧ i.size = s ∧ i.bytes = b := by
  cases e : P.info? t with
  | none => rw [e] at h; cases h
  | some i =>
    rw [e] at h
    simp at h
    exact ⟨i, rfl, h.1, h.2.1, h.2.2⟩
theorem Frm.grow {τ : Type} {a b : Nat → Option τ} {u v w1 : World} (h : Frm a b u v) {row : Option Nat} (hg : v.grownBy w1 row) {g : Nat} {T : τ} (hr : ∀ k, row = some k → b k = some T) (hl : row = some g ∨ v.heap.size ≤ g) : Frm a (Ytkpppmldbhgcgaa.lab b g T) u w1 :=
  ⟨hg.os.trans h.os, hg.tape.trans h.tape, hg.output.trans h.output, Nat.le_trans h.size hg.size, fun k hk => by
    by_cases e : k = g
    · subst e
      show Ytkpppmldbhgcgaa.lab b k T k = a k
      rw [lab_same, ← h.lab k hk]
      rcases hl with e2 | e2
      · exact (hr k e2).symm
      · have := h.size; omega
    · show Ytkpppmldbhgcgaa.lab b g T k = a k
      rw [lab_other _ _ e]; exact h.lab k hk, fun k hk e => (hg.block k (Nat.lt_of_lt_of_le hk h.size) (fun e2 => by
      have := hr k e2.symm
      rw [h.lab k hk, e] at this
      cases this)).trans (h.keep k hk e)⟩
theorem mem_ovSnoc (S : Sz) (x : Int) : mem { S with ov := S.ov ++ [x] } = upd (mem S) .ov ⟨S.ov.length + 1, S.ov.map vi ++ [vi x]⟩ := by
  funext t
  by_cases e : t = .ov
  · subst e
    rw [upd_same]
    show (⟨((S.ov ++ [x]).map vi).length, (S.ov ++ [x]).map vi⟩ : Ob Tg) = _
    rw [List.length_map, List.length_append, List.map_append]
    rfl
  · rw [upd_other _ _ e]
    cases t <;> first | rfl | exact absurd rfl e
variable {lo n : Nat} {w : World} {own : Nat → Option Tg} {rv : Tg → Value} {S : Sz}
def pushZ (S : Sz) (v : Nat) : Sz := { S with pl := S.pl.set v S.ov.length, ov := S.ov ++ [(v : Int)] }
set_option maxHeartbeats 8000000 in
set_option maxRecDepth 1000000 in
theorem opush_walk (h : Sol lo w own rv S) (ho : OrdOK n S) (v : Nat) (hv : v < n) (hL : S.ov.length < n) : Calls Try.prog 95 #[rv .x, .iface 3 (.int .i64 v)] w fun e w' => e = .returned (.tuple #[]) ∧ ∃ own' v', Sol lo w' own' (upd rv .ov v') (pushZ S v) ∧ Frm own own' w w' := by
  obtain ⟨i0, hi0, hz0, hz1, hz2⟩ := info_parts' info3
  obtain ⟨b, hb, hlx, hlob, hbw⟩ := h.xb
  have hbig := ho.big
  have f0 := (h.fld hb (m := 0) rfl).1
  have z0 := (h.fld hb (m := 0) rfl).2
  have f1 := (h.fld hb (m := 1) rfl).1
  have l2 : (mem S .pl).n = n := by show (S.pl.map _).length = _; rw [List.length_map]; exact ho.pl
  obtain ⟨g2, c2, e2, hlg2, _, _, k2, _⟩ := h.head (t := .pl) rfl (by omega)
  rw [l2] at e2 k2
  rw [show conc rv (AC.ref Tg.pl) = _ from e2] at f1
  replace f0 : w.cell? ⟨b, 0, none⟩ = some (rv .ov) := f0
  have hl : (mem S .ov).n = S.ov.length := by show (S.ov.map _).length = _; rw [List.length_map]
  obtain ⟨L, hLL⟩ : ∃ L, S.ov.length = L := ⟨_, rfl⟩
  have hform : ∃ a c, rv .ov = .slice a L c := by
    rcases h.row (t := .ov) rfl with ⟨e, e2, _⟩ | ⟨g, cap, e, _⟩
    · rw [hl, hLL] at e2; exact ⟨none, 0, by rw [e, e2]⟩
    · rw [hl, hLL] at e; exact ⟨_, _, e⟩
  obtain ⟨a, c, hv0⟩ := hform
  obtain ⟨p1, p2⟩ := h.rcell (t := .pl) e2 (map_get (list_get 0 (by rw [ho.pl]; exact hv)))
  obtain ⟨wA, hwA⟩ : ∃ x, x = (w.setCell ⟨g2, v, none⟩ (.int .i64 L)).drew := ⟨_, rfl⟩
  have hA : Sol lo wA own rv { S with pl := S.pl.set v (L : Int) } := by
    rw [hwA]
    have := (h.put (t := .pl) (b := g2) (m := v) hlg2 (by rw [e2]; rfl) (vi L) (by
      intro e
      have e : S.pl.map vi = [] := e
      rw [List.map_eq_nil_iff] at e
      have := ho.pl
      rw [e] at this
      simp at this
      omega)).drew
    rw [← mem_pl'] at this
    exact this
  have hfA : Frm own own w wA := by rw [hwA]; exact ((Frm.refl own w).setCell hlg2 _).drew
  have y0 : wA.cell? ⟨b, 0, none⟩ = some (rv .ov) := (hA.fld hb (m := 0) rfl).1
  have hB := hA.alloc (.cells #[.int .i64 v] 3)
  have hrow := (hB.part .ov).1 rfl
  have hlen : (mem { S with pl := S.pl.set v (L : Int) } .ov).n = L := by show (S.ov.map _).length = _; rw [List.length_map, hLL]
  have own2 : (wA.alloc (.cells #[.int .i64 v] 3)).ownsRow lo 3 1 (.slice a L c) L (concs rv (S.ov.map vi)) := by
    have := hrow.row
    rw [hlen, hv0] at this
    exact this
  have cn := cell_new wA #[.int .i64 (v : Int)] 3 (0, 0) 0
  have hloA : lo ≤ wA.heap.size := Nat.le_trans hlob (by have := hfA.size; omega)
  have hend : ∀ g' cap' (w1 : World), w1.ownsRow lo 3 1 (.slice (some ⟨g', 0, none⟩) (L + 1) cap') (L + 1) (concs rv (S.ov.map vi) ++ [.int .i64 v]) → (wA.alloc (.cells #[.int .i64 v] 3)).grownBy w1 (Value.slice a L c).ownBlock → ((Value.slice a L c).ownBlock = some g' ∨ (wA.alloc (.cells #[.int .i64 v] 3)).heap.size ≤ g') →
      (w1.cell? ⟨b, 0, none⟩ = some (rv .ov) ∧ w1.frozen? ⟨b, 0, none⟩ = false) ∧ Sol lo (w1.setCell ⟨b, 0, none⟩ (.slice (some ⟨g', 0, none⟩) (L + 1) cap')) (lab own g' .ov) (upd rv .ov (.slice (some ⟨g', 0, none⟩) (L + 1) cap')) (pushZ S v) ∧ Frm own (lab own g' .ov) w (w1.setCell ⟨b, 0, none⟩ (.slice (some ⟨g', 0, none⟩) (L + 1) cap')) := by
    intro g' cap' w1 q1 q2 q3
    have A : Moved kd lo (wA.alloc (.cells #[.int .i64 v] 3)) w1 own rv .ov g' cap' (L + 1) (S.ov.map vi ++ [vi v]) := ⟨by
      have : concs rv (S.ov.map vi ++ [vi v]) = concs rv (S.ov.map vi) ++ [.int .i64 v] := by unfold concs; rw [List.map_append]; rfl
      rw [this]; exact q1, by rw [hv0]; exact q2, by rw [hv0]; exact q3⟩
    have hm := hB.move (T := .ov) (p := .x) (b := b) (m := 0) rfl A (by intro e; cases e) (by rw [hb]; rfl) rfl (ref_uniq _ rfl rfl) (fun k hk => by
      have hk : ((S.ov ++ [(v : Int)]).map vi)[k]? = some (AC.ref Tg.ov) := by rw [List.map_append]; exact hk
      exact map_val hk)
    have hS : pushZ S v = { { S with pl := S.pl.set v (L : Int) } with ov := S.ov ++ [(v : Int)] } := by unfold pushZ; rw [hLL]
    have hmem := mem_ovSnoc { S with pl := S.pl.set v (L : Int) } v
    rw [hS]
    have hlb : ∀ k, (Value.slice a L c).ownBlock = some k → own k = some .ov := fun k hk => hrow.lab k (by rw [hv0]; exact hk)
    have hne : (Value.slice a L c).ownBlock ≠ some b := fun e => by
      have := hlb b e
      rw [hlx] at this
      cases this
    have hbA : b < (wA.alloc (.cells #[.int .i64 v] 3)).heap.size := by have := hfA.size; simp; omega
    have hblk := (q2.block b hbA (fun e => hne e.symm)).trans (Below.heap_alloc wA _ b (by have := hfA.size; omega))
    have hfr := (hfA.alloc (.cells #[.int .i64 v] 3)).grow q2 (g := g') (T := .ov) hlb q3
    refine ⟨⟨(World.cell?_of_block (a := ⟨b, 0, none⟩) hblk).trans y0, (World.frozen?_of_block (a := ⟨b, 0, none⟩) hblk).trans (hA.fld hb (m := 0) rfl).2⟩, ?_, ?_⟩
    · rw [Sol, hmem]
      show Rep kd lo _ _ _ (upd (mem { S with pl := S.pl.set v (L : Int) }) .ov ⟨S.ov.length + 1, S.ov.map vi ++ [vi v]⟩)
      rw [hLL]
      exact hm
    · refine hfr.setCell (t := .x) ?_ _
      show lab own g' .ov b = some .x
      by_cases e : b = g'
      · subst e
        rcases q3 with e | e
        · exact absurd e hne
        · omega
      · rw [lab_other _ _ e]; exact hlx
  rw [hb]
  rw [hv0] at f0 y0
  have hvI : (v : Int) < n := by omega
  have hLn : L < n := by omega
  clear hrow hB hA hfA hl hlen hLL
  have y1 : (w.setCell ⟨g2, v, none⟩ (.int .i64 L)).cell? ⟨b, 0, none⟩ = some (.slice a L c) := by rw [hwA] at y0; exact y0
  have y2 : (w.setCell ⟨g2, v, none⟩ (.int .i64 L)).heap.size = w.heap.size := by simp
  subst hwA
  have hta : ∀ W : World, (Instr.typeAssert (.iface 3 (.int .i64 (v : Int))) 20 3 false).run Try.prog W = .ok (.int .i64 v) W := fun W => by first | rfl | kernel_rfl | simp [Instr.typeAssert]
  go_enter Try.func95, Try.ntmps95
  go_wp2
  go_still_tail 10, (by kernel_rfl)
  go_wp2_with (first | (at_builtin; refine wpList_append_told _ rfl _ _ 40 rfl lo 3 i0 (.int .i64 0) 1 8 Try.underlying40 hi0 hz0 hz1 hz2 rfl (by decide) _ _ _ rfl own2 ⟨w.heap.size, 0, none⟩ 1 1 [.int .i64 (v : Int)] rfl rfl ?c1 ?c2 (by decide) ?c3 ?c4 ?c5 ?_))
  case c1 =>
    intro j u hj
    match j, hj with
    | 0, hj =>
      simp at hj
      subst hj
      rw [add_plain]
      have cn2 := cn
      rw [show (w.setCell ⟨g2, v, none⟩ (.int .i64 (L : Int))).drew.heap.size = w.heap.size from y2] at cn2
      exact cn2
  case c2 => intro u hu; simp at hu; subst hu; rfl
  case c3 => unfold maxLen; omega
  case c4 => omega
  case c5 => exact Nat.le_trans hloA (by simp)
  intro v' w1 hown' hgrow gg hl1 hl2
  rcases hown'.2 with ⟨_, e9⟩ | ⟨g9, cap9, cur9, rfl, _⟩
  · omega
  cases hl1
  obtain ⟨⟨d1, d2⟩, hS, hF⟩ := hend _ _ w1 hown' hgrow (hl2.imp id fun hh => by
    have e : ((w.setCell ⟨g2, v, none⟩ (.int .i64 (L : Int))).drew.alloc (.cells #[.int .i64 (v : Int)] 3)).heap.size = w.heap.size + 1 := by
      show ((w.setCell ⟨g2, v, none⟩ (.int .i64 (L : Int))).heap.push _).size = _
      rw [Array.size_push, y2]
    rw [e]; exact hh)
  rw [hv0] at d1
  clear hend hgrow hl2 hown'
  go_wp2
  go_end0
  exact ⟨rfl, _, _, hS, hF⟩
end Go.Proofs.Ytkpppmldbhgcgaa
/- Sat: the order's Swap. -/
set_option autoImplicit false
set_option linter.unusedVariables false
set_option linter.unusedSimpArgs false
namespace Go.Proofs.Ytkpppmldbhgcgaa
open Go Go.RowKit
theorem mem_ov (S : Sz) (i : Nat) (x : Int) : mem { S with ov := S.ov.set i x } = upd (mem S) .ov ⟨(mem S .ov).n, (mem S .ov).cs.set i (vi x)⟩ := by
  funext t
  by_cases e : t = .ov
  · subst e
    rw [upd_same]
    simp [mem, Ytkpppmldbhgcgaa.row, List.map_set]
  · rw [upd_other _ _ e]
    cases t <;> first | rfl | exact absurd rfl e
theorem mem_pl (S : Sz) (i : Nat) (x : Int) : mem { S with pl := S.pl.set i x } = upd (mem S) .pl ⟨(mem S .pl).n, (mem S .pl).cs.set i (vi x)⟩ := by
  funext t
  by_cases e : t = .pl
  · subst e
    rw [upd_same]
    simp [mem, Ytkpppmldbhgcgaa.row, List.map_set]
  · rw [upd_other _ _ e]
    cases t <;> first | rfl | exact absurd rfl e
variable {lo n : Nat} {w : World} {own : Nat → Option Tg} {rv : Tg → Value} {S : Sz}
theorem Rep.putOv (h : Sol lo w own rv S) {g k c i : Nat} (hv : rv .ov = .slice (some ⟨g, 0, none⟩) k c) (hi : i < S.ov.length) (x : Int) : Sol lo (w.setCell ⟨g, i, none⟩ (.int .i64 x)) own rv { S with ov := S.ov.set i x } := by
  have hne : (mem S .ov).cs ≠ [] := fun e => by
    have : S.ov.map vi = [] := e
    rw [List.map_eq_nil_iff] at this
    rw [this] at hi; cases hi
  obtain ⟨b, e, hl, _⟩ := h.cell (t := .ov) (m := i) (map_get (list_get 0 hi))
  rw [hv] at e
  cases e
  have := h.put (t := .ov) (b := g) (m := i) hl (by rw [hv]; rfl) (vi x) hne
  rw [← mem_ov] at this
  exact this
theorem Rep.putPl (h : Sol lo w own rv S) {g k c i : Nat} (hv : rv .pl = .slice (some ⟨g, 0, none⟩) k c) (hi : i < S.pl.length) (x : Int) : Sol lo (w.setCell ⟨g, i, none⟩ (.int .i64 x)) own rv { S with pl := S.pl.set i x } := by
  have hne : (mem S .pl).cs ≠ [] := fun e => by
    have : S.pl.map vi = [] := e
    rw [List.map_eq_nil_iff] at this
    rw [this] at hi; cases hi
  obtain ⟨b, e, hl, _⟩ := h.cell (t := .pl) (m := i) (map_get (list_get 0 hi))
  rw [hv] at e
  cases e
  have := h.put (t := .pl) (b := g) (m := i) hl (by rw [hv]; rfl) (vi x) hne
  rw [← mem_pl] at this
  exact this
def swapV (l : List Int) (i j : Nat) : List Int := (l.set i (l.getD j 0)).set j (l.getD i 0)
def swapZ (S : Sz) (i j : Nat) : Sz := { S with ov := swapV S.ov i j, pl := (S.pl.set ((S.ov.getD j 0).toNat) i).set ((S.ov.getD i 0).toNat) j }
/-- a fact that the walk does not take as a rule -/
structure Hid' (P : Prop) : Prop where
  h : P
set_option maxHeartbeats 8000000 in
set_option maxRecDepth 1000000 in
theorem swap_code (b g c g2 c2 L n i j u v : Nat) (X : Value) (w w2 : World) (hi : i < L) (hj : j < L) (hu : u < n) (hv : v < n) (k1 : L ≤ c) (k2 : n ≤ c2) (hL : L ≤ 1000000) (hn : n ≤ 1000000)
    (f0 : w.cell? ⟨b, 0, none⟩ = some (.slice (some ⟨g, 0, none⟩) L c)) (a1 : w.cell? ⟨g, i, none⟩ = some (.int .i64 v)) (a2 : w.cell? ⟨g, j, none⟩ = some (.int .i64 u)) (z1 : w.frozen? ⟨g, i, none⟩ = false)
    (y1 : (w.setCell ⟨g, i, none⟩ (.int .i64 u)).cell? ⟨g, j, none⟩ = some (.int .i64 u)) (y2 : (w.setCell ⟨g, i, none⟩ (.int .i64 u)).frozen? ⟨g, j, none⟩ = false)
    (hw2 : w2 = ((w.setCell ⟨g, i, none⟩ (.int .i64 u)).setCell ⟨g, j, none⟩ (.int .i64 v)).drew)
    (x1 : w2.cell? ⟨g, i, none⟩ = some (.int .i64 u)) (x2 : w2.cell? ⟨g, j, none⟩ = some (.int .i64 v)) (x3 : w2.cell? ⟨b, 0, none⟩ = some (.slice (some ⟨g, 0, none⟩) L c)) (x4 : w2.cell? ⟨b, 1, none⟩ = some (.slice (some ⟨g2, 0, none⟩) n c2))
    (p3 : ∃ Y, w2.cell? ⟨g2, u, none⟩ = some Y) (p4 : w2.frozen? ⟨g2, u, none⟩ = false) (y3 : (w2.setCell ⟨g2, u, none⟩ (.int .i64 i)).cell? ⟨g2, v, none⟩ = some X) (y4 : (w2.setCell ⟨g2, u, none⟩ (.int .i64 i)).frozen? ⟨g2, v, none⟩ = false) :
    Calls Try.prog 96 #[.pointer (some ⟨b, 0, none⟩), .int .i64 i, .int .i64 j] w fun e w' => e = .returned (.tuple #[]) ∧ w' = ((w2.setCell ⟨g2, u, none⟩ (.int .i64 i)).setCell ⟨g2, v, none⟩ (.int .i64 j)).drew := by
  obtain ⟨Y, p3⟩ := p3
  have hiI : (i : Int) < L := by omega
  have hjI : (j : Int) < L := by omega
  have hvI : (v : Int) < n := by omega
  have huI : (u : Int) < n := by omega
  have hH : Hid' (w2 = ((w.setCell ⟨g, i, none⟩ (.int .i64 u)).setCell ⟨g, j, none⟩ (.int .i64 v)).drew ∧ w2.cell? ⟨g, i, none⟩ = some (.int .i64 u) ∧ w2.cell? ⟨g, j, none⟩ = some (.int .i64 v) ∧ w2.cell? ⟨b, 0, none⟩ = some (.slice (some ⟨g, 0, none⟩) L c) ∧ w2.cell? ⟨b, 1, none⟩ = some (.slice (some ⟨g2, 0, none⟩) n c2) ∧ w2.cell? ⟨g2, u, none⟩ = some Y ∧ w2.frozen? ⟨g2, u, none⟩ = false ∧ (w2.setCell ⟨g2, u, none⟩ (.int .i64 i)).cell? ⟨g2, v, none⟩ = some X ∧ (w2.setCell ⟨g2, u, none⟩ (.int .i64 i)).frozen? ⟨g2, v, none⟩ = false) := ⟨⟨hw2, x1, x2, x3, x4, p3, p4, y3, y4⟩⟩
  clear hw2 x1 x2 x3 x4 p3 p4 y3 y4
  go_enter Try.func96, Try.ntmps96
  go_wp2
  go_region
  go_upto_region 1 with (fail)
  obtain ⟨⟨hw2, x1, x2, x3, x4, p3, p4, y3, y4⟩⟩ := hH
  rw [← hw2]
  clear hw2 f0 a1 a2 z1 y1 y2
  go_wp2
  go_region
  go_wp2
  go_end0
  exact ⟨rfl, rfl⟩
set_option maxHeartbeats 8000000 in
set_option maxRecDepth 1000000 in
theorem swap_walk (h : Sol lo w own rv S) (ho : OrdOK n S) (i j : Nat) (hi : i < S.ov.length) (hj : j < S.ov.length) : Calls Try.prog 96 #[rv .x, .int .i64 i, .int .i64 j] w fun e w' => e = .returned (.tuple #[]) ∧ Sol lo w' own rv (swapZ S i j) ∧ Frm own own w w' := by
  obtain ⟨b, hb, hlx, _, hbw⟩ := h.xb
  have hbig := ho.big
  have hovl := ho.ovl
  obtain ⟨g, c, g2, c2, g3, c3, v, f0, f1, f2, hv, hvn, k1, k2, k3, e1, e2, e3⟩ := ord_cells h ho hi hb
  obtain ⟨u, hu, hun⟩ : ∃ u : Nat, S.ov.getD j 0 = u ∧ u < n := ⟨(S.ov.getD j 0).toNat, by have := ho.ov j hj; omega, by have := ho.ov j hj; omega⟩
  have a1 : w.cell? ⟨g, i, none⟩ = some (.int .i64 v) := by rw [← hv]; exact (h.rcell e1 (map_get (list_get 0 hi))).1
  have a2 : w.cell? ⟨g, j, none⟩ = some (.int .i64 u) := by rw [← hu]; exact (h.rcell e1 (map_get (list_get 0 hj))).1
  have z1 := (h.rcell e1 (map_get (list_get 0 hi))).2
  have z2 := (h.rcell e1 (map_get (list_get 0 hj))).2
  rw [hb]
  obtain ⟨L, hLL⟩ : ∃ L, S.ov.length = L := ⟨_, rfl⟩
  have hi' := hi
  have hj' := hj
  rw [hLL] at f0 k1 hovl hi' hj'
  have hiI : (i : Int) < L := by omega
  have hjI : (j : Int) < L := by omega
  have hvI : (v : Int) < n := by omega
  have huI : (u : Int) < n := by omega
  have hlg : own g = some .ov := by
    obtain ⟨b', e, hl, _⟩ := h.cell (t := .ov) (m := i) (map_get (list_get 0 hi))
    rw [e1] at e; cases e; exact hl
  have hlg2 : own g2 = some .pl := by
    obtain ⟨b', e, hl, _⟩ := h.cell (t := .pl) (m := v) (map_get (list_get 0 (by rw [ho.pl]; exact hvn)))
    rw [e2] at e; cases e; exact hl
  have hswap : ∃ w2, w2 = ((w.setCell ⟨g, i, none⟩ (.int .i64 u)).setCell ⟨g, j, none⟩ (.int .i64 v)).drew := ⟨_, rfl⟩
  obtain ⟨w2, hw2⟩ := hswap
  have hd := ((h.putOv e1 hi u).putOv e1 (i := j) (by rw [List.length_set]; exact hj) v).drew
  have hS2 : (({ { S with ov := S.ov.set i (u : Int) } with ov := (S.ov.set i (u : Int)).set j (v : Int) }) : Sz) = { S with ov := swapV S.ov i j } := by unfold swapV; rw [hu, hv]
  have hd : Sol lo w2 own rv { S with ov := swapV S.ov i j } := by rw [hw2, ← hS2]; exact hd
  have y1 : (w.setCell ⟨g, i, none⟩ (.int .i64 u)).cell? ⟨g, j, none⟩ = some (.int .i64 u) := by
    by_cases e : i = j
    · subst e
      exact World.cell?_setCell_same _ _ _ a1
    · rw [World.cell?_setCell_other _ ⟨g, i, none⟩ ⟨g, j, none⟩ _ (by intro e2; injection e2; omega)]
      exact a2
  have y2 : (w.setCell ⟨g, i, none⟩ (.int .i64 u)).frozen? ⟨g, j, none⟩ = false := by rw [World.frozen?_setCell]; exact z2
  have hsl : (swapV S.ov i j).length = S.ov.length := by unfold swapV; rw [List.length_set, List.length_set]
  have q1 : (swapV S.ov i j)[i]? = some (u : Int) := by
    unfold swapV
    rw [List.getElem?_set]
    by_cases e : j = i
    · subst e
      rw [if_pos rfl, if_pos (by rw [List.length_set]; exact hi), hu]
    · rw [if_neg e, List.getElem?_set_self hi, hu]
  have q2 : (swapV S.ov i j)[j]? = some (v : Int) := by
    unfold swapV
    rw [List.getElem?_set_self (by rw [List.length_set]; exact hj), hv]
  have x1 : w2.cell? ⟨g, i, none⟩ = some (.int .i64 u) := (hd.rcell e1 (map_get q1)).1
  have x2 : w2.cell? ⟨g, j, none⟩ = some (.int .i64 v) := (hd.rcell e1 (map_get q2)).1
  have x3 : w2.cell? ⟨b, 0, none⟩ = some (.slice (some ⟨g, 0, none⟩) L c) := by
    have := (hd.fld hb (m := 0) rfl).1
    rw [show conc rv (AC.ref Tg.ov) = _ from e1, hLL] at this
    exact this
  have x4 : w2.cell? ⟨b, 1, none⟩ = some (.slice (some ⟨g2, 0, none⟩) n c2) := by
    have := (hd.fld hb (m := 1) rfl).1
    rw [show conc rv (AC.ref Tg.pl) = _ from e2] at this
    exact this
  have p1 := hd.rcell (t := .pl) e2 (map_get (list_get 0 (by show u < S.pl.length; rw [ho.pl]; exact hun)))
  have p2 := hd.rcell (t := .pl) e2 (map_get (list_get 0 (by show v < S.pl.length; rw [ho.pl]; exact hvn)))
  obtain ⟨p3, p4⟩ := p1
  obtain ⟨X, y3⟩ : ∃ X, (w2.setCell ⟨g2, u, none⟩ (.int .i64 i)).cell? ⟨g2, v, none⟩ = some X := by
    by_cases e : u = v
    · subst e
      exact ⟨_, World.cell?_setCell_same _ _ _ p3⟩
    · rw [World.cell?_setCell_other _ ⟨g2, u, none⟩ ⟨g2, v, none⟩ _ (by intro e2; injection e2; omega)]
      exact ⟨_, p2.1⟩
  have y4 : (w2.setCell ⟨g2, u, none⟩ (.int .i64 i)).frozen? ⟨g2, v, none⟩ = false := by rw [World.frozen?_setCell]; exact p2.2
  have hend := ((hd.putPl e2 (i := u) (by show u < S.pl.length; rw [ho.pl]; exact hun) i).putPl e2 (i := v) (by show v < (S.pl.set _ _).length; rw [List.length_set, ho.pl]; exact hvn) j).drew
  have hS3 : ({ { { S with ov := swapV S.ov i j } with pl := S.pl.set u (i : Int) } with pl := (S.pl.set u (i : Int)).set v (j : Int) } : Sz) = swapZ S i j := by unfold swapZ; rw [hu, hv]; rfl
  have hend : Sol lo ((w2.setCell ⟨g2, u, none⟩ (.int .i64 i)).setCell ⟨g2, v, none⟩ (.int .i64 j)).drew own rv (swapZ S i j) := by rw [← hS3]; exact hend
  have hfr : Frm own own w ((w2.setCell ⟨g2, u, none⟩ (.int .i64 i)).setCell ⟨g2, v, none⟩ (.int .i64 j)).drew := by
    rw [hw2]
    exact ((((((Frm.refl own w).setCell hlg _).setCell hlg _).drew).setCell hlg2 _).setCell hlg2 _).drew
  obtain ⟨p5, p6⟩ := p2
  clear hS2 hS3 hd hsl q1 q2 hu hv hlg hlg2 e1 e2 e3 hLL
  refine (swap_code b g c g2 c2 L n i j u v X w w2 hi' hj' hun hvn k1 k2 (by omega) hbig f0 a1 a2 z1 y1 y2 hw2 x1 x2 x3 x4 ⟨_, p3⟩ p4 y3 y4).mono ?_
  rintro e w' ⟨r1, r2⟩
  rw [r2]
  exact ⟨r1, hend, hfr⟩
end Go.Proofs.Ytkpppmldbhgcgaa
/- Sat: the order's methods, called through the heap's interface. -/
set_option autoImplicit false
set_option linter.unusedVariables false
set_option linter.unusedSimpArgs false
namespace Go.Proofs.Ytkpppmldbhgcgaa
open Go Go.RowKit
theorem m_len (b : Nat) (w : World) : (method 242 69 (.pointer (some ⟨b, 0, none⟩)) "Len").run Try.prog w = .ok (53, .pointer (some ⟨b, 0, none⟩)) w := by kernel_rfl
theorem m_less (b : Nat) (w : World) : (method 242 69 (.pointer (some ⟨b, 0, none⟩)) "Less").run Try.prog w = .ok (93, .pointer (some ⟨b, 0, none⟩)) w := by kernel_rfl
theorem m_pop (b : Nat) (w : World) : (method 242 69 (.pointer (some ⟨b, 0, none⟩)) "Pop").run Try.prog w = .ok (94, .pointer (some ⟨b, 0, none⟩)) w := by kernel_rfl
theorem m_push (b : Nat) (w : World) : (method 242 69 (.pointer (some ⟨b, 0, none⟩)) "Push").run Try.prog w = .ok (95, .pointer (some ⟨b, 0, none⟩)) w := by kernel_rfl
theorem m_swap (b : Nat) (w : World) : (method 242 69 (.pointer (some ⟨b, 0, none⟩)) "Swap").run Try.prog w = .ok (96, .pointer (some ⟨b, 0, none⟩)) w := by kernel_rfl
end Go.Proofs.Ytkpppmldbhgcgaa

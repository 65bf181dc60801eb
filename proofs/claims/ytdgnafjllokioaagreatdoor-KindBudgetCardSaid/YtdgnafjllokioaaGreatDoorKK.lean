/- Kind: inputs by number (input), walked. -/
import Derived.Test.YtdgnafjllokioaaGreatDoorKI
import Derived.Deep.RegionHeld3
set_option linter.unusedVariables false
set_option linter.unusedSimpArgs false
set_option autoImplicit false
set_option linter.unusedVariables false
set_option linter.unusedSimpArgs false
namespace Go.Proofs.YtdgnafjllokioaaGreatDoor
open Go.Proofs Go
open Go.RowKit Kb
theorem step_append_own {P : Program} {w : World} {ops : Array Oper} {o : Oper} {a : Act} {K : Act → World → Prop} {Q : Exit → Act → World → Prop} {E : Prop} (hgd : o.guard = none) (s x : Operand) (t : TypeId)
    (ho : o.op = .call { callee := .builtin .append, args := #[s, x], argTypes := #[t, t] })
    (base : Nat) (e : TypeId) (i : TypeInfo) (z : Value) (size bytes : Nat) (ht : P.underlying t = some (.slice e)) (hi : P.info? e = some i) (hz : i.zero = some z)
    (hsize : i.size = size) (hby : i.bytes = bytes) (hzs : z.cells.size = size) (hsz : 0 < size)
    (v : Value) (n : Nat) (xs : List Value) (hs : a.eval s = v) (hown : w.ownsRow base e size v n xs)
    (ad : Addr) (m c : Nat) (news : List Value) (hx : a.eval x = .slice (some ad) m c) (hl : news.length = m * size) (hnews : ∀ j u, news[j]? = some u → w.cell? (ad.add j) = some u) (h1 : ∀ u ∈ news, u.oneCell' = true)
    (h63 : n + m ≤ maxLen) (hbytes : (n + m) * bytes ≤ 140737488355328) (hbase : base ≤ w.heap.size)
    (h : ∀ v' w', w'.ownsRow base e size v' (n + m) (xs ++ news) → w.grownBy w' v.ownBlock → K (a.put o.dst v') w') :
    if Region.wanted o (yielded ops a.tmps) = true then Oper.wp P o a w K Q else E := by
  have hw : Region.wanted o (yielded ops a.tmps) = true := by simp [Region.wanted, hgd]
  rw [if_pos hw]
  exact wp_append_own w s x t ho base e i z size bytes ht hi hz hsize hby hzs hsz v n xs hs hown ad m c news hx hl hnews h1 h63 hbytes hbase fun v' w' a b _ => h v' w' a b
/-- two rows that grow side by side -/
structure II (lo : Nat) (W0 : World) (lv : Value) (kl : Nat) (xl : List Value) (tv : Value) (kt : Nat) (xt : List Value) (W : World) : Prop where
  l : W.ownsRow lo 4 1 lv kl xl
  t : W.ownsRow lo 3 1 tv kt xt
  bel : Below lo W0 W
  le : lo ≤ W.heap.size
section
variable {lo kl kt : Nat} {W0 W : World} {lv tv : Value} {xl xt : List Value}
theorem II.below (h : II lo W0 lv kl xl tv kt xt W) {W' : World} (hb : Below W.heap.size W W') : II lo W0 lv kl xl tv kt xt W' :=
  ⟨own_below' h.l hb, own_below' h.t hb, h.bel.trans (hb.mono h.le), Nat.le_trans h.le hb.size⟩
theorem II.alloc (h : II lo W0 lv kl xl tv kt xt W) (o : Obj) : II lo W0 lv kl xl tv kt xt (W.alloc o) := h.below ((Below.refl _ _).alloc (Nat.le_refl _) o)
theorem II.drew (h : II lo W0 lv kl xl tv kt xt W) : II lo W0 lv kl xl tv kt xt W.drew := h.below (below_drew (Below.refl _ _))
theorem II.drewN (h : II lo W0 lv kl xl tv kt xt W) (q : Nat) : II lo W0 lv kl xl tv kt xt (W.drewN q) := h.below (below_drewN (Below.refl _ _) q)
theorem II.pushL (h : II lo W0 lv kl xl tv kt xt W) {w5 : World} {v5 x : Value} (ho : w5.ownsRow lo 4 1 v5 (kl + 1) (xl ++ [x])) (hg : W.grownBy w5 lv.ownBlock) : II lo W0 v5 (kl + 1) (xl ++ [x]) tv kt xt w5 :=
  ⟨ho, own_grown h.t h.l (by decide) hg, h.bel.grown hg h.le fun g e => (h.l.lt g e).1, (h.bel.grown hg h.le fun g e => (h.l.lt g e).1).size |> fun _ => by have := ((Below.refl lo W).grown hg h.le fun g e => (h.l.lt g e).1).size; exact Nat.le_trans h.le this⟩
theorem II.pushT (h : II lo W0 lv kl xl tv kt xt W) {w5 : World} {v5 x : Value} (ho : w5.ownsRow lo 3 1 v5 (kt + 1) (xt ++ [x])) (hg : W.grownBy w5 tv.ownBlock) : II lo W0 lv kl xl v5 (kt + 1) (xt ++ [x]) w5 :=
  ⟨own_grown h.l h.t (by decide) hg, ho, h.bel.grown hg h.le fun g e => (h.t.lt g e).1, by have := ((Below.refl lo W).grown hg h.le fun g e => (h.t.lt g e).1).size; exact Nat.le_trans h.le this⟩
/-- a cell of a block that came later stays where a row grows -/
theorem cell_grown {b m : Nat} {u : Value} {w5 : World} (hg : W.grownBy w5 lv.ownBlock) (hl : ∀ g, lv.ownBlock = some g → g ≠ b) (hc : W.cell? ⟨b, m, none⟩ = some u) : w5.cell? ⟨b, m, none⟩ = some u :=
  (World.cell?_of_block (a := ⟨b, m, none⟩) (hg.block b (cellLt hc) fun e => hl b e.symm rfl)).trans hc
end
theorem one_new2 (w : World) (u : Value) (e : TypeId) (o : Obj) : ∀ (j : Nat) (x : Value), [u][j]? = some x → ((w.alloc (.cells #[u] e)).alloc o).cell? ((⟨w.heap.size, 0, none⟩ : Addr).add j) = some x := by
  intro j x hj
  have h := one_new w u e j x hj
  rw [add_plain] at h ⊢
  exact (((Below.refl (w.alloc (.cells #[u] e)).heap.size _).alloc (Nat.le_refl _) o).cell (p := ⟨w.heap.size, 0 + j, none⟩) (cellLt h)).trans h
theorem grown_new {W w5 : World} {lv u : Value} {b : Nat} (hn : ∀ (j : Nat) (x : Value), [u][j]? = some x → W.cell? ((⟨b, 0, none⟩ : Addr).add j) = some x) (hg : W.grownBy w5 lv.ownBlock) (hl : ∀ g, lv.ownBlock = some g → g ≠ b) : ∀ (j : Nat) (x : Value), [u][j]? = some x → w5.cell? ((⟨b, 0, none⟩ : Addr).add j) = some x := fun j x hj => by
  have h := hn j x hj
  rw [add_plain] at h ⊢
  exact cell_grown hg hl h
theorem old_ne {w : World} {g : Nat} (o : Obj) (h : g < w.heap.size) : g ≠ (w.alloc o).heap.size := by
  show g ≠ (w.heap.push _).size
  simp
  omega
theorem new_a (w : World) (u : Value) (e : TypeId) : ∀ (j : Nat) (x : Value), [u][j]? = some x → (w.alloc (.cells #[u] e)).drew.cell? ((⟨w.heap.size, 0, none⟩ : Addr).add j) = some x := one_new w u e
theorem new_b (w : World) (u : Value) (e : TypeId) (o : Obj) : ∀ (j : Nat) (x : Value), [u][j]? = some x → ((w.alloc (.cells #[u] e)).alloc o).drew.cell? ((⟨w.heap.size, 0, none⟩ : Addr).add j) = some x := one_new2 w u e o
theorem new_c (w : World) (u : Value) (e : TypeId) (o : Obj) : ∀ (j : Nat) (x : Value), [u][j]? = some x → ((w.alloc o).alloc (.cells #[u] e)).drew.cell? ((⟨w.heap.size + 1, 0, none⟩ : Addr).add j) = some x := by
  have h := one_new (w.alloc o) u e
  have hs : (w.alloc o).heap.size = w.heap.size + 1 := by show (w.heap.push _).size = _; simp
  rw [hs] at h
  exact h
def bvs (l : List Bool) : List Value := l.map Value.bool
def nvs (l : List Bool) : List Value := l.map fun b => Value.int .i64 (if b then 1 else 0)
/-- inputs by number -/
def InputOut (w : World) (us : List Bool) (e : Ending) (w' : World) : Prop := ∃ lv tv, e = .returned (.tuple #[lv, tv]) ∧ w'.ownsRow w.heap.size 4 1 lv us.length (bvs us) ∧ w'.ownsRow w.heap.size 3 1 tv us.length (nvs us) ∧ Below w.heap.size w w'
set_option maxHeartbeats 8000000 in
set_option maxRecDepth 1000000 in
theorem input_walk (cb : Nat) (d : SA) (gn nn im n : Nat) (ok asm : Int) (w : World) (hsb : SB cb d gn nn im ok asm w) (hi9 : im ≤ 3) (hn9 : n < 8) :
    Calls Tryz.prog 37 #[.pointer (some ⟨cb, 0, none⟩), .int .i64 (n : Int)] w (InputOut w (bitsZ im n)) := by
  obtain ⟨lo, hlo⟩ : ∃ n, w.heap.size = n := ⟨_, rfl⟩
  have hI : II lo w (.slice none 0 0) 0 (bvs (bitsZ 0 n)) (.slice none 0 0) 0 (nvs (bitsZ 0 n)) w := ⟨World.ownsRow_nil _ _ _ _, World.ownsRow_nil _ _ _ _, Below.refl _ _, by omega⟩
  have c3 := hsb.c3
  obtain ⟨i4, hi4, hz40, hz41, hz42⟩ := info_parts' info4
  obtain ⟨i3, hi3, hz30, hz31, hz32⟩ := info_parts' info3
  unfold InputOut
  rw [hlo, bitsZ_len]
  go_enter Tryz.func37, Tryz.ntmps37
  clear hlo
  go_wp2
  go_loopw [6, 7, 15] (fun lv tv i wr => ∃ k : Nat, k ≤ im ∧ i = .int .i64 k ∧ II lo w lv k (bvs (bitsZ k n)) tv k (nvs (bitsZ k n)) wr) (fun _ _ i _ => im - (intOf i).toNat)
  case atStart => exact ⟨0, Nat.zero_le _, rfl, hI⟩
  case round =>
    clear hI c3
    obtain ⟨k, hk, rfl, hI⟩ := hrel
    by_cases hlt : k < im
    · have hltI : (k : Int) < im := by omega
      have hsh := shr_small ⟨k, by omega⟩ ⟨n, by omega⟩
      dsimp only at hsh
      have hbs := bits_snoc k n
      obtain ⟨m, hm⟩ : ∃ m, n / 2 ^ k % 2 = m := ⟨_, rfl⟩
      rw [hm] at hsh hbs
      obtain ⟨u, hu⟩ : ∃ u : Bool, ((m : Int) == 1) = u := ⟨_, rfl⟩
      go_wp2
      have hK : Aside ((∀ x ∈ [Value.bool u], x.oneCell' = true) ∧ (∀ x ∈ [Value.int .i64 (m : Int)], x.oneCell' = true) ∧ k + 1 ≤ maxLen ∧ (k + 1) * 8 ≤ 140737488355328 ∧ (k + 1) * 1 ≤ 140737488355328) := ⟨fun x hx => by rw [List.mem_singleton.1 hx]; rfl, fun x hx => by rw [List.mem_singleton.1 hx]; rfl, by unfold maxLen; omega, by omega, by omega⟩
      have hA : Aside (bitsZ (k + 1) n = bitsZ k n ++ [u] ∧ (m : Int) = if u then 1 else 0) := by
        refine ⟨?_, ?_⟩
        · rw [hbs, ← hu]
          congr 2
          have : m = 0 ∨ m = 1 := by omega
          rcases this with e | e <;> rw [e] <;> rfl
        · rw [← hu]
          have : m = 0 ∨ m = 1 := by omega
          rcases this with e | e <;> rw [e] <;> rfl
      have hN : ∀ W, (Below wr.heap.size wr W) → II lo w u6 k (bvs (bitsZ k n)) u7 k (nvs (bitsZ k n)) W := fun W hb => hI.below hb
      clear hbs hm
      go_region_held3 (fun w' => True) (exact trivial) (first | (refine step_append_own (by rfl) _ _ _ (by rfl) lo 4 i4 (.bool false) 1 1 Tryz.underlying26 hi4 hz40 hz41 hz42 rfl (by decide) u6 k (bvs (bitsZ k n)) (by rfl) (II.l (W0 := w) (tv := u7) (kt := k) (xt := nvs (bitsZ k n)) (by first | exact (hI.alloc _).drew | exact ((hI.alloc _).alloc _).drew | exact hI.drew.alloc _ | exact (hI.drew.alloc _).alloc _ | exact (hI.alloc _).drew.alloc _)) _ 1 1 [.bool u] (by rfl) (by rfl) (by first | exact new_a _ _ _ | exact new_b _ _ _ _ | exact new_c _ _ _ _) hK.out.1 hK.out.2.2.1 hK.out.2.2.2.2 (II.le (W0 := w) (lv := u6) (kl := k) (xl := bvs (bitsZ k n)) (tv := u7) (kt := k) (xt := nvs (bitsZ k n)) (by first | exact (hI.alloc _).drew | exact ((hI.alloc _).alloc _).drew | exact hI.drew.alloc _ | exact (hI.drew.alloc _).alloc _ | exact (hI.alloc _).drew.alloc _)) ?_; intro v5 w5 ho5 hg5; have hJ := II.pushL (W0 := w) (tv := u7) (kt := k) (xt := nvs (bitsZ k n)) (by first | exact (hI.alloc _).drew | exact ((hI.alloc _).alloc _).drew | exact hI.drew.alloc _ | exact (hI.drew.alloc _).alloc _ | exact (hI.alloc _).drew.alloc _) ho5 hg5) | (refine step_append_own (by rfl) _ _ _ (by rfl) lo 3 i3 (.int .i64 0) 1 8 Tryz.underlying25 hi3 hz30 hz31 hz32 rfl (by decide) u7 k (nvs (bitsZ k n)) (by rfl) (by first | exact hJ.t | exact (hJ.alloc _).t | exact (hJ.alloc _).drew.t | exact hJ.drew.t) _ 1 1 [.int .i64 (m : Int)] (by rfl) (by rfl) (by first | exact one_new _ _ _ | exact new_a _ _ _ | exact grown_new (new_c _ _ _ _) hg5 (fun g e => by have := (hI.l.lt g e).2; omega) | exact grown_new (new_b _ _ _ _) hg5 (fun g e => by have := (hI.l.lt g e).2; omega)) hK.out.2.1 hK.out.2.2.1 hK.out.2.2.2.1 (by first | exact hJ.le | exact (hJ.alloc _).le | exact (hJ.alloc _).drew.le) ?_; intro v6 w6 ho6 hg6; have hL := II.pushT (by first | exact hJ | exact hJ.alloc _ | exact (hJ.alloc _).drew) ho6 hg6))
      all_goals (
        have hL' : II lo w v5 (k + 1) (bvs (bitsZ (k + 1) n)) v6 (k + 1) (nvs (bitsZ (k + 1) n)) w6 := by
          rw [hA.out.1]
          unfold bvs nvs at hL ⊢
          rw [List.map_append, List.map_append, List.map_cons, List.map_cons, ← hA.out.2]
          exact hL
        clear hL hJ ho5 hg5 ho6 hg6 hN hK hA hI
        go_wp2
        go_roundw
        case rel => exact ⟨k + 1, hlt, by go_num, hL'⟩
        case measure => simp only [intOf]; omega)
    · have hkn : k = im := by omega
      subst hkn
      have hlt' : ¬ (k : Int) < k := by omega
      go_wp2
      refine bodyPost_ret (v := .tuple #[u6, u7]) (by simp [results, Tryz.f37, go_sem]) rfl ?_
      exact ⟨u6, u7, rfl, hI.l, hI.t, hI.bel⟩
end Go.Proofs.YtdgnafjllokioaaGreatDoor

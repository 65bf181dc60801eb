/- Kind: a system's beginning (Start), smallness (small), walked. -/
import Derived.Test.YtdgnafjllokioaaGreatDoorKK
set_option linter.unusedVariables false
set_option linter.unusedSimpArgs false
set_option autoImplicit false
set_option linter.unusedVariables false
set_option linter.unusedSimpArgs false
namespace Go.Proofs.YtdgnafjllokioaaGreatDoor
open Go.Proofs Go
open Go.RowKit Kb
theorem one_bvs (l : List Bool) : ∀ u ∈ l.map Value.bool, u.oneCell' = true := fun u hu => by
  obtain ⟨b, _, rfl⟩ := List.mem_map.1 hu
  rfl
theorem one_ivs' (l : List Int) : ∀ u ∈ l.map (Value.int .i64), u.oneCell' = true := fun u hu => by
  obtain ⟨b, _, rfl⟩ := List.mem_map.1 hu
  rfl
theorem bools_news {w : World} {a : Option Addr} {l : List Bool} (h : Bools w a l) : ∀ ad, a = some ad → ∀ j u, (l.map Value.bool)[j]? = some u → w.cell? (ad.add j) = some u := by
  intro ad ha j u hu
  rw [List.getElem?_map] at hu
  obtain ⟨b, hb, rfl⟩ := Option.map_eq_some_iff.1 hu
  have hj := (List.getElem?_eq_some_iff.1 hb).1
  obtain ⟨bb, off, e1, _, e3⟩ := h j hj
  rw [ha] at e1
  cases e1
  rw [add_plain, e3, List.getD_eq_getElem?_getD, hb]
  rfl
theorem ints_news {w : World} {a : Option Addr} {l : List Int} (h : Ints w a l) : ∀ ad, a = some ad → ∀ j u, (l.map (Value.int .i64))[j]? = some u → w.cell? (ad.add j) = some u := by
  intro ad ha j u hu
  rw [List.getElem?_map] at hu
  obtain ⟨b, hb, rfl⟩ := Option.map_eq_some_iff.1 hu
  have hj := (List.getElem?_eq_some_iff.1 hb).1
  obtain ⟨bb, off, e1, _, e3⟩ := h j hj
  rw [ha] at e1
  cases e1
  rw [add_plain, e3, List.getD_eq_getElem?_getD, hb]
  rfl
set_option maxHeartbeats 4000000 in
set_option maxRecDepth 1000000 in
theorem start_walk (d : SA) (y : Sy) (gn nn im : Nat) (w : World) (hbl : y.init.length = nn) (hn9 : nn ≤ 100) (hbi : Bools w d.ba y.init) (hba : d.ba = none → nn = 0 ∧ d.bc = 0) :
    Calls Tryz.prog 35 #[.agg (sysC d gn nn im y.ok y.asm)] w fun e w' => ∃ v, e = .returned v ∧ w'.ownsRow w.heap.size 4 1 v nn (y.init.map Value.bool) ∧ Below w.heap.size w w' := by
  obtain ⟨s, hs⟩ : ∃ s, w.heap.size = s := ⟨_, rfl⟩
  obtain ⟨W1, hW1⟩ : ∃ W, w.alloc (.cells (sysC d gn nn im y.ok y.asm) 28) = W := ⟨_, rfl⟩
  have hb0 : Below s w W1 := by rw [← hW1, ← hs]; exact (Below.refl w.heap.size w).alloc (Nat.le_refl _) _
  have hsb : SB s d gn nn im y.ok y.asm W1 := by rw [← hW1, ← hs]; exact sb_new ..
  have c4 := hsb.c4
  have hbi1 : Bools W1 d.ba y.init := hbi.below (hs ▸ hb0)
  have hle : s ≤ W1.heap.size := hb0.size |> fun h => Nat.le_of_lt hsb.lt
  have hA : Aside ((∀ u ∈ y.init.map Value.bool, u.oneCell' = true) ∧ (y.init.map Value.bool).length = nn * 1 ∧ 0 + nn ≤ maxLen ∧ (0 + nn) * 1 ≤ 140737488355328 ∧ (∀ ad, d.ba = some ad → ∀ j u, (y.init.map Value.bool)[j]? = some u → W1.cell? (ad.add j) = some u) ∧ (d.ba = none → nn = 0 ∧ d.bc = 0)) := ⟨one_bvs _, by rw [List.length_map, hbl, Nat.mul_one], by unfold maxLen; omega, by omega, bools_news hbi1, hba⟩
  obtain ⟨i4, hi4, hz40, hz41, hz42⟩ := info_parts' info4
  obtain ⟨l, hl⟩ : ∃ l, y.init.map Value.bool = l := ⟨_, rfl⟩
  rw [hl] at hA ⊢
  rw [hs]
  obtain ⟨ok, hok⟩ : ∃ x, y.ok = x := ⟨_, rfl⟩
  obtain ⟨asm, hasm⟩ : ∃ x, y.asm = x := ⟨_, rfl⟩
  rw [hok, hasm] at hW1 hsb ⊢
  clear hbi hbi1 hbl hsb hba hl
  unfold sysC at hW1 ⊢
  go_enter Tryz.func35, Tryz.ntmps35
  go_wp2_with (first | (at_builtin; refine wpList_append_any rfl _ _ 26 rfl s 4 i4 (.bool false) 1 1 Tryz.underlying26 hi4 hz40 hz41 hz42 rfl (by decide) (.slice none 0 0) 0 [] rfl (World.ownsRow_nil _ _ _ _) d.ba nn d.bc l rfl hA.out.2.2.2.2.2 hA.out.2.1 hA.out.2.2.2.2.1 hA.out.1 hA.out.2.2.1 hA.out.2.2.2.1 hle ?_))
  intro v5 w5 ho5 hg5
  have hR : Aside (w5.ownsRow s 4 1 v5 nn l ∧ Below s w w5) := by
    refine ⟨?_, hb0.grown hg5 hle fun g e => by cases e⟩
    first
      | exact ho5
      | (rw [Nat.zero_add, List.nil_append] at ho5; exact ho5)
  clear ho5 hg5 hA
  go_wp2
  go_ret
  exact ⟨_, rfl, hR.out.1, hR.out.2⟩
def smallB (gn nn im : Nat) : Bool := decide (nn ≤ 10 ∧ im ≤ 4 ∧ gn ≤ 400)
set_option maxHeartbeats 4000000 in
set_option maxRecDepth 1000000 in
theorem small_walk (cb : Nat) (d : SA) (gn nn im : Nat) (ok asm : Int) (w : World) (hsb : SB cb d gn nn im ok asm w) (hg : gn ≤ 400) (hn : nn ≤ 8) (hi : im ≤ 3) :
    Calls Tryz.prog 16 #[.pointer (some ⟨cb, 0, none⟩)] w fun e w' => e = .returned (.bool true) ∧ w' = w := by
  have c0 := hsb.c0
  have c1 := hsb.c1
  have c3 := hsb.c3
  have h1 : (nn : Int) ≤ 10 := by omega
  have h2 : (im : Int) ≤ 4 := by omega
  have h3 : (gn : Int) ≤ 400 := by omega
  go_enter Tryz.func16, Tryz.ntmps16
  go_wp2
  go_ret
  exact ⟨rfl, rfl⟩
end Go.Proofs.YtdgnafjllokioaaGreatDoor
/- Kind: is a system good? as the document tells it (Good), walked. -/
set_option autoImplicit false
set_option linter.unusedVariables false
set_option linter.unusedSimpArgs false
namespace Go.Proofs.YtdgnafjllokioaaGreatDoor
open Go.Proofs Go
open Go.RowKit Kb
theorem step_append_any {P : Program} {w : World} {ops : Array Oper} {o : Oper} {a : Act} {K : Act → World → Prop} {Q : Exit → Act → World → Prop} {E : Prop} (hgd : o.guard = none) (s x : Operand) (t : TypeId)
    (ho : o.op = .call { callee := .builtin .append, args := #[s, x], argTypes := #[t, t] })
    (base : Nat) (e : TypeId) (i : TypeInfo) (z : Value) (size bytes : Nat) (ht : P.underlying t = some (.slice e)) (hi : P.info? e = some i) (hz : i.zero = some z)
    (hsize : i.size = size) (hby : i.bytes = bytes) (hzs : z.cells.size = size) (hsz : 0 < size)
    (v : Value) (n : Nat) (xs : List Value) (hs : a.eval s = v) (hown : w.ownsRow base e size v n xs)
    (A : Option Addr) (m c : Nat) (news : List Value) (hx : a.eval x = .slice A m c) (hA : A = none → m = 0 ∧ c = 0) (hl : news.length = m * size) (hnews : ∀ ad, A = some ad → ∀ j u, news[j]? = some u → w.cell? (ad.add j) = some u) (h1 : ∀ u ∈ news, u.oneCell' = true)
    (h63 : n + m ≤ maxLen) (hbytes : (n + m) * bytes ≤ 140737488355328) (hbase : base ≤ w.heap.size)
    (h : ∀ v' w', w'.ownsRow base e size v' (n + m) (xs ++ news) → w.grownBy w' v.ownBlock → K (a.put o.dst v') w') :
    if Region.wanted o (yielded ops a.tmps) = true then Oper.wp P o a w K Q else E := by
  have hw : Region.wanted o (yielded ops a.tmps) = true := by simp [Region.wanted, hgd]
  rw [if_pos hw]
  cases A with
  | none =>
    obtain ⟨rfl, rfl⟩ := hA rfl
    have hn : news = [] := List.eq_nil_of_length_eq_zero (by omega)
    subst hn
    have hrun := run_append_owned_none (P := P) (w := w) base t o.type e i size ht hi v n xs hown
    unfold Oper.wp
    simp [execOp, ho, resolve, invoke, builtin, hs, hx, hrun, Result.andThen]
    refine h v w ?_ (World.grownBy.refl _ _)
    rw [List.append_nil]
    exact hown
  | some ad => exact wp_append_own w s x t ho base e i z size bytes ht hi hz hsize hby hzs hsz v n xs hs hown ad m c news hx hl (hnews ad rfl) h1 h63 hbytes hbase fun v' w' a b _ => h v' w' a b
theorem all_new (w : World) (l : List Value) (e : TypeId) : ∀ (j : Nat) (x : Value), l[j]? = some x → (w.alloc (.cells l.toArray e)).cell? ((⟨w.heap.size, 0, none⟩ : Addr).add j) = some x := by
  intro j x hj
  rw [add_plain, Nat.zero_add, cell_new]
  simpa using hj
theorem all_grown {W w5 : World} {b : Nat} {l : List Value} (hn : ∀ (j : Nat) (x : Value), l[j]? = some x → W.cell? ((⟨b, 0, none⟩ : Addr).add j) = some x) (hg : W.grownBy w5 none) : ∀ (j : Nat) (x : Value), l[j]? = some x → w5.cell? ((⟨b, 0, none⟩ : Addr).add j) = some x := fun j x hj => by
  have h := hn j x hj
  rw [add_plain] at h ⊢
  exact cell_grown (lv := .slice none 0 0) hg (fun g e => by cases e) h
/-- which inputs were seen -/
def seenL (n : Nat) (l : List Int) : List Bool := (List.range n).map fun (p : Nat) => decide ((2 * (p : Int)) ∈ l)
theorem seenL_nil (n : Nat) : seenL n [] = List.replicate n false := by
  unfold seenL
  apply List.ext_getElem?
  intro j
  rw [List.getElem?_map, List.getElem?_replicate]
  by_cases h : j < n
  · rw [List.getElem?_range h, if_pos h]; rfl
  · rw [List.getElem?_eq_none (by simpa using Nat.le_of_not_lt h), if_neg h]; rfl
theorem seenL_get {n p : Nat} (l : List Int) (h : p < n) : (seenL n l).getD p false = decide ((2 * (p : Int)) ∈ l) := by
  unfold seenL
  rw [List.getD_eq_getElem?_getD, List.getElem?_map, List.getElem?_range h]
  rfl
theorem seenL_snoc {n p : Nat} (l : List Int) (h : p < n) : (seenL n l).set p true = seenL n (l ++ [2 * (p : Int)]) := by
  unfold seenL
  apply List.ext_getElem?
  intro j
  rw [List.getElem?_set, List.getElem?_map, List.getElem?_map]
  by_cases hj : j < n
  · rw [List.getElem?_range hj]
    by_cases e : p = j
    · subst e
      rw [if_pos rfl, if_pos (by simpa using hj)]
      simp
    · rw [if_neg e]
      have : ¬ (2 * (j : Int) = 2 * (p : Int)) := by omega
      simp [this]
  · rw [List.getElem?_eq_none (by simpa using Nat.le_of_not_lt hj)]
    by_cases e : p = j
    · omega
    · rw [if_neg e]
      rfl
/-- a system's first place is an input that is even, and no other before -/
structure InOK (gs : GL) (l : List Int) : Prop where
  ok : ∀ x ∈ l, wOK gs.length x ∧ x % 2 = 0 ∧ opZ gs (x / 2).toNat = 2
  nd : l.Nodup
theorem InOK.snoc {gs : GL} {l : List Int} {p : Nat} (h : InOK gs l) (hp : p < gs.length) (ho : opZ gs p = 2) (hn : ¬ (2 * (p : Int)) ∈ l) : InOK gs (l ++ [2 * (p : Int)]) := by
  refine ⟨fun x hx => ?_, ?_⟩
  · rcases List.mem_append.1 hx with e | e
    · exact h.ok x e
    · rw [List.mem_singleton.1 e]
      have e2 : (2 * (p : Int) / 2).toNat = p := by omega
      exact ⟨⟨by omega, by omega⟩, by omega, by rw [e2]; exact ho⟩
  · rw [List.nodup_append]
    refine ⟨h.nd, by simp, fun a ha b hb e => ?_⟩
    rw [List.mem_singleton.1 hb] at e
    rw [e] at ha
    exact hn ha
theorem SB.alloc {s : Nat} {d : SA} {gn nn im : Nat} {ok asm : Int} {w : World} (h : SB s d gn nn im ok asm w) (o : Obj) : SB s d gn nn im ok asm (w.alloc o) := h.below h.lt ((Below.refl _ _).alloc (Nat.le_refl _) o)
theorem SB.drew {s : Nat} {d : SA} {gn nn im : Nat} {ok asm : Int} {w : World} (h : SB s d gn nn im ok asm w) : SB s d gn nn im ok asm w.drew := h.below h.lt (below_drew (Below.refl _ _))
theorem SB.three {s : Nat} {d : SA} {gn nn im : Nat} {ok asm : Int} {w : World} (h : SB s d gn nn im ok asm w) : w.cell? ⟨s, 2, none⟩ = some (.slice d.xa nn d.xc) ∧ w.cell? ⟨s, 5, none⟩ = some (.int .i64 ok) ∧ w.cell? ⟨s, 6, none⟩ = some (.int .i64 asm) := ⟨h.c2, h.c5, h.c6⟩
theorem SB.two {s : Nat} {d : SA} {gn nn im : Nat} {ok asm : Int} {w : World} (h : SB s d gn nn im ok asm w) : w.cell? ⟨s, 1, none⟩ = some (.slice d.na nn d.nc) ∧ w.cell? ⟨s, 3, none⟩ = some (.slice d.ia im d.ic) := ⟨h.c1, h.c3⟩
theorem WR.drewN {s g n : Nat} {vs : List Bool} {w wr : World} (h : WR s g n vs w wr) (q : Nat) : WR s g n vs w (wr.drewN q) := ⟨h.row, below_drewN h.bel q, h.size, h.len⟩
theorem take_snoc {l : List Int} {k : Nat} (h : k < l.length) : l.take (k + 1) = l.take k ++ [l.getD k 0] := by
  rw [List.take_add_one, List.getElem?_eq_getElem h, getD_lt h]
  rfl
theorem wOK_snoc {n : Nat} {l : List Int} {k : Nat} (h : k < l.length) (ha : ∀ x ∈ l.take k, wOK n x) (hx : wOK n (l.getD k 0)) : ∀ x ∈ l.take (k + 1), wOK n x := fun x hm => by
  rw [take_snoc h] at hm
  rcases List.mem_append.1 hm with e | e
  · exact ha x e
  · rw [List.mem_singleton.1 e]; exact hx
theorem good_mk {y : Sy} {gn nn im : Nat} (hgn : y.gates.length = gn) (hnn : y.now.length = nn) (hx : y.next.length = nn) (him : y.ins.length = im) (hi : y.init.length = nn) (hnet : netOK y.gates) (hw : ∀ x ∈ y.next ++ [y.ok, y.asm], wOK gn x) (hin : InOK y.gates (y.now ++ y.ins)) (hall : (inputsZ y.gates).length = nn + im) : Kb.Good y :=
  ⟨hnet, hx.trans hnn.symm, hi.trans hnn.symm, fun w h => hgn ▸ hw w h, hin.ok, hin.nd, by rw [hall, List.length_append, hnn, him]⟩
def GoodR (w : World) (y : Sy) (e : Ending) (w' : World) : Prop := ∃ b : Bool, e = .returned (.bool b) ∧ (b = true → Kb.Good y) ∧ Below w.heap.size w w'
theorem good_no {w w' : World} {y : Sy} (hb : Below w.heap.size w w') : GoodR w y (.returned (.bool false)) w' := ⟨false, rfl, fun h => (by cases h), hb⟩
end Go.Proofs.YtdgnafjllokioaaGreatDoor

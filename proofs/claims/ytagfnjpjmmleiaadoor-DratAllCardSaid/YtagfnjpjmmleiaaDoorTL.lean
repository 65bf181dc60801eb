/- Drat: a clause more: what is kept (plain law). -/
import Derived.Test.YtagfnjpjmmleiaaDoorTK
import Derived.Lib.AppendIntMem
set_option linter.unusedVariables false
set_option linter.unusedSimpArgs false
set_option autoImplicit false
set_option linter.unusedVariables false
set_option linter.unusedSimpArgs false
namespace Go.Proofs.YtagfnjpjmmleiaaDoor
theorem Rise.nodup {zs : List Int} (h : Rise zs) : zs.Nodup := h.imp fun {a b} hab => by omega
theorem addS_n (S : St) (zs : List Int) : (addS S zs).n = S.n + 1 ∧ (addS S zs).gone = upd S.gone S.n false ∧ (addS S zs).lits = upd S.lits S.n zs ∧ (addS S zs).K = upd S.K (keyL zs) (S.K (keyL zs) ++ [S.n]) ∧ (addS S zs).vals = S.vals ∧ (addS S zs).trail = S.trail ∧ (addS S zs).m = S.m + 1 := by
  match zs with
  | [] => exact ⟨rfl, rfl, rfl, rfl, rfl, rfl, rfl⟩
  | [a] => exact ⟨rfl, rfl, rfl, rfl, rfl, rfl, rfl⟩
  | a :: b :: r => exact ⟨rfl, rfl, rfl, rfl, rfl, rfl, rfl⟩
theorem addS_alive (S : St) (zs : List Int) : alive (addS S zs) = alive S ++ [S.n] := by
  obtain ⟨h1, h2, _⟩ := addS_n S zs
  unfold alive
  rw [h1, h2, List.range_succ, List.filter_append]
  congr 1
  · apply List.filter_congr
    intro i hi
    rw [upd_other _ _ (by have := List.mem_range.1 hi; omega)]
  · rw [List.filter_cons_of_pos (by rw [upd_same]; rfl)]; rfl
theorem addS_lits (S : St) (zs : List Int) {i : Nat} (hi : i ≠ S.n) : (addS S zs).lits i = S.lits i := by
  rw [(addS_n S zs).2.2.1, upd_other _ _ hi]
theorem addS_new (S : St) (zs : List Int) : (addS S zs).lits S.n = zs := by
  rw [(addS_n S zs).2.2.1, upd_same]
theorem addS_cls (S : St) (zs : List Int) : cls (addS S zs) = cls S ++ [zs] := by
  unfold cls
  rw [addS_alive, List.map_append]
  congr 1
  · apply List.map_congr_left
    intro i hi
    exact addS_lits S zs (by have := (mem_alive.1 hi).1; omega)
  · rw [List.map_singleton, addS_new]
theorem addS_units (S : St) (zs : List Int) : (addS S zs).units = if zs.length = 1 then S.units ++ [S.n] else S.units := by
  match zs with
  | [] => rfl
  | [a] => rfl
  | a :: b :: r => rfl
theorem addS_empty (S : St) (zs : List Int) : (addS S zs).empty = if zs.length = 0 then S.empty + 1 else S.empty := by
  match zs with
  | [] => rfl
  | [a] => rfl
  | a :: b :: r => rfl
theorem addS_gone (S : St) (zs : List Int) (i : Nat) : (addS S zs).gone i = if i = S.n then false else S.gone i := by
  rw [(addS_n S zs).2.1]
  by_cases e : i = S.n
  · rw [e, upd_same, if_pos rfl]
  · rw [upd_other _ _ e, if_neg e]
theorem add_core {V : Nat} {S : St} (h : Core V S) {zs : List Int} (hz : Lits (V + 1) zs) (hr : Rise zs) : Core V (addS S zs) := by
  obtain ⟨e1, e2, e3, e4, e5, e6, e7⟩ := addS_n S zs
  refine ⟨by rw [e5]; exact h.vl, fun i hi => ?_, fun i hi => ?_, fun i => ?_, fun c i => ?_, ?_, fun k => ?_, fun k i => ?_, ?_, fun c => ?_⟩
  · by_cases e : i = S.n
    · rw [e, addS_new]; exact hr.nodup
    · rw [addS_lits _ _ e]; exact h.nd i (by rw [e1] at hi; omega)
  · by_cases e : i = S.n
    · rw [e, addS_new]; exact hz
    · rw [addS_lits _ _ e]; exact h.li i (by rw [e1] at hi; omega)
  · rw [addS_units, e1]
    by_cases e : i = S.n
    · rw [e, addS_new]
      have hno : S.n ∉ S.units := fun e => by have := ((h.un _).1 e).1; omega
      by_cases hl : zs.length = 1
      · rw [if_pos hl]; simp [hl]
      · rw [if_neg hl]; exact ⟨fun e => absurd e hno, fun e => absurd e.2 hl⟩
    · rw [addS_lits _ _ e]
      have : i ∈ S.units ↔ i < S.n + 1 ∧ (S.lits i).length = 1 := by
        rw [h.un]
        exact ⟨fun ⟨a, b⟩ => ⟨by omega, b⟩, fun ⟨a, b⟩ => ⟨by omega, b⟩⟩
      by_cases hl : zs.length = 1
      · rw [if_pos hl, List.mem_append, List.mem_singleton, this]
        exact ⟨fun e2 => e2.elim id fun e3 => absurd e3 e, .inl⟩
      · rw [if_neg hl]; exact this
  · rw [addS_has, hasF_mem, e1]
    by_cases e : i = S.n
    · rw [e, addS_new]
      have hno : S.n ∉ S.has c := fun e => by have := ((h.hs c _).1 e).1; omega
      exact ⟨fun e2 => e2.elim (fun e3 => absurd e3 hno) fun e3 => ⟨by omega, e3.2⟩, fun e2 => .inr ⟨rfl, e2.2⟩⟩
    · rw [addS_lits _ _ e, h.hs]
      exact ⟨fun e2 => e2.elim (fun e3 => ⟨by omega, e3.2⟩) fun e3 => absurd e3.1 e, fun e2 => .inl ⟨by omega, e2.2⟩⟩
  · rw [addS_empty]
    unfold empties
    rw [addS_alive, List.filter_append, List.length_append]
    have hold : ((alive S).filter fun i => ((addS S zs).lits i).length == 0) = (alive S).filter fun i => (S.lits i).length == 0 := by
      apply List.filter_congr
      intro i hi
      rw [addS_lits S zs (by have := (mem_alive.1 hi).1; omega)]
    rw [hold, h.em]
    unfold empties
    by_cases hl : zs.length = 0
    · rw [if_pos hl, List.filter_cons_of_pos (by rw [addS_new, hl]; rfl)]; rfl
    · rw [if_neg hl, List.filter_cons_of_neg (by rw [addS_new]; simpa using hl)]; simp
  · rw [e4]
    by_cases e : k = keyL zs
    · rw [e, upd_same]
      exact List.nodup_append.2 ⟨h.kn _, by simp, fun p hp q hq e => by
        rw [List.mem_singleton] at hq
        have := ((h.ks _ p).1 hp).1
        omega⟩
    · rw [upd_other _ _ e]; exact h.kn k
  · rw [e4, e1, addS_gone]
    by_cases ei : i = S.n
    · rw [if_pos ei, ei, addS_new]
      have hno : S.n ∉ S.K k := fun e => by have := ((h.ks _ _).1 e).1; omega
      have hx : (∃ ys, Rise ys ∧ SameM ys zs ∧ k = keyL ys) ↔ k = keyL zs := by
        constructor
        · rintro ⟨ys, a, b, c⟩
          rw [c, rise_ext a hr b]
        · intro e; exact ⟨zs, hr, fun _ => Iff.rfl, e⟩
      by_cases e : k = keyL zs
      · rw [e, upd_same, List.mem_append]
        exact ⟨fun _ => ⟨by omega, rfl, zs, hr, fun _ => Iff.rfl, rfl⟩, fun _ => .inr (by simp)⟩
      · rw [upd_other _ _ e]
        exact ⟨fun e2 => absurd e2 hno, fun e2 => absurd (hx.1 e2.2.2) e⟩
    · rw [if_neg ei, addS_lits _ _ ei]
      have hb : i ∈ S.K k ↔ i < S.n + 1 ∧ S.gone i = false ∧ ∃ ys, Rise ys ∧ SameM ys (S.lits i) ∧ k = keyL ys := by
        rw [h.ks]
        exact ⟨fun ⟨a, b⟩ => ⟨by omega, b⟩, fun ⟨a, b⟩ => ⟨by omega, b⟩⟩
      by_cases e : k = keyL zs
      · rw [← hb, e, upd_same, List.mem_append, List.mem_singleton]
        exact ⟨fun e2 => e2.elim id fun e3 => absurd e3 ei, .inl⟩
      · rw [upd_other _ _ e]; exact hb
  · rw [addS_units]
    by_cases hl : zs.length = 1
    · rw [if_pos hl]
      exact List.nodup_append.2 ⟨h.ud, by simp, fun p hp q hq e => by
        rw [List.mem_singleton] at hq
        have := ((h.un p).1 hp).1
        omega⟩
    · rw [if_neg hl]; exact h.ud
  · rw [addS_has]
    exact hasF_nodup S.n zs S.has (fun l hl => (hz l hl).1) hr.nodup h.hd (fun c => .inl fun e => by have := ((h.hs c _).1 e).1; omega) c
theorem addS_watch (S : St) (zs : List Int) (c j : Nat) (hz : ∀ l ∈ zs, l ≠ 0) (hnd : zs.Nodup) : j ∈ (addS S zs).watch c ↔ j ∈ S.watch c ∨ (j = S.n ∧ ∃ a b r, zs = a :: b :: r ∧ (c = codeZ a ∨ c = codeZ b)) := by
  match zs, hz, hnd with
  | [], _, _ => exact ⟨.inl, fun e => e.elim id fun ⟨_, a, b, r, e, _⟩ => by cases e⟩
  | [x], _, _ => exact ⟨.inl, fun e => e.elim id fun ⟨_, a, b, r, e, _⟩ => by cases e⟩
  | a :: b :: r, hz, hnd =>
    show j ∈ upd (upd S.watch (codeZ a) (S.watch (codeZ a) ++ [S.n])) (codeZ b) (upd S.watch (codeZ a) (S.watch (codeZ a) ++ [S.n]) (codeZ b) ++ [S.n]) c ↔ _
    have hab : codeZ b ≠ codeZ a := fun e => by
      have := codeZ_inj (hz b (by simp)) (hz a (by simp)) e
      exact (List.nodup_cons.1 hnd).1 (by rw [← this]; simp)
    by_cases e : c = codeZ b
    · rw [e, upd_same, upd_other _ _ hab, List.mem_append, List.mem_singleton]
      constructor
      · rintro (h | h)
        · exact .inl h
        · exact .inr ⟨h, a, b, r, rfl, .inr rfl⟩
      · rintro (h | ⟨h, _⟩)
        · exact .inl h
        · exact .inr h
    · rw [upd_other _ _ e]
      by_cases e2 : c = codeZ a
      · rw [e2, upd_same, List.mem_append, List.mem_singleton]
        constructor
        · rintro (h | h)
          · exact .inl h
          · exact .inr ⟨h, a, b, r, rfl, .inl rfl⟩
        · rintro (h | ⟨h, _⟩)
          · exact .inl h
          · exact .inr h
      · rw [upd_other _ _ e2]
        refine ⟨.inl, fun h => h.elim id ?_⟩
        rintro ⟨_, a', b', r', e3, e4⟩
        cases e3
        exact e4.elim (fun e5 => absurd e5 e2) fun e5 => absurd e5 e
theorem add_wt {V : Nat} {S : St} (hc : Core V S) (h : Wt S) {zs : List Int} (hz : Lits (V + 1) zs) (hr : Rise zs) : Wt (addS S zs) := by
  obtain ⟨e1, e2, e3, e4, e5, e6, e7⟩ := addS_n S zs
  have hz0 : ∀ l ∈ zs, l ≠ 0 := fun l hl => (hz l hl).1
  have mem := fun c j => addS_watch S zs c j hz0 hr.nodup
  have hno : ∀ c, S.n ∉ S.watch c := fun c e => by have := h.wi c _ e; omega
  refine ⟨fun c => ?_, fun c j hj => ?_, fun j hj hg a b r e => ?_, fun c j hj hg => ?_⟩
  · have key : ∀ (l : List Nat), l.Nodup → S.n ∉ l → (l ++ [S.n]).Nodup := fun l h1 h2 => List.nodup_append.2 ⟨h1, by simp, fun p hp q hq e => h2 (by rw [List.mem_singleton] at hq; rw [← hq, ← e]; exact hp)⟩
    match zs, hz0, hr.nodup with
    | [], _, _ => exact h.wn c
    | [x], _, _ => exact h.wn c
    | a :: b :: r, hz0, hnd =>
      show (upd (upd S.watch (codeZ a) (S.watch (codeZ a) ++ [S.n])) (codeZ b) (upd S.watch (codeZ a) (S.watch (codeZ a) ++ [S.n]) (codeZ b) ++ [S.n]) c).Nodup
      have hab : codeZ b ≠ codeZ a := fun e => by
        have := codeZ_inj (hz0 b (by simp)) (hz0 a (by simp)) e
        exact (List.nodup_cons.1 hnd).1 (by rw [← this]; simp)
      by_cases e : c = codeZ b
      · rw [e, upd_same, upd_other _ _ hab]; exact key _ (h.wn _) (hno _)
      · rw [upd_other _ _ e]
        by_cases e2 : c = codeZ a
        · rw [e2, upd_same]; exact key _ (h.wn _) (hno _)
        · rw [upd_other _ _ e2]; exact h.wn c
  · rw [e1]
    rcases (mem c j).1 hj with e | e
    · have := h.wi c j e; omega
    · omega
  · rw [addS_gone] at hg
    by_cases ej : j = S.n
    · rw [ej, addS_new] at e
      rw [mem, mem]
      exact ⟨.inr ⟨ej, a, b, r, e, .inl rfl⟩, .inr ⟨ej, a, b, r, e, .inr rfl⟩⟩
    · rw [if_neg ej] at hg
      rw [addS_lits _ _ ej] at e
      obtain ⟨h1, h2⟩ := h.w1 j (by rw [e1] at hj; omega) hg a b r e
      rw [mem, mem]
      exact ⟨.inl h1, .inl h2⟩
  · rcases (mem c j).1 hj with e | ⟨e, a, b, r, e2, e3⟩
    · have ej : j ≠ S.n := fun e2 => hno c (e2 ▸ e)
      rw [addS_gone, if_neg ej] at hg
      rw [addS_lits _ _ ej]
      exact h.w2 c j e hg
    · rw [e, addS_new]
      exact ⟨a, b, r, e2, e3⟩
theorem add_rest {V : Nat} {S : St} (h : RestS V S) {zs : List Int} (hz : Lits (V + 1) zs) (hr : Rise zs) : RestS V (addS S zs) := by
  obtain ⟨e1, e2, e3, e4, e5, e6, e7⟩ := addS_n S zs
  exact ⟨add_core h.core hz hr, add_wt h.core h.wt hz hr, by rw [e6]; exact h.tr, by rw [e5]; exact h.z⟩
end Go.Proofs.YtagfnjpjmmleiaaDoor
/- Drat: what it is to add a clause. -/
set_option autoImplicit false
set_option linter.unusedVariables false
set_option linter.unusedSimpArgs false
namespace Go.Proofs.YtagfnjpjmmleiaaDoor
open Go.Shelf Go.RowKit
abbrev Tab (B : Nat) (w : World) : Prop := Lib.TabBelow Tryd.prog B w "internal/strconv.uint64pow10" .u64 Lib.pow10Tab
theorem Tab.below {B : Nat} {w w' : World} (h : Tab B w) (hb : Below B w w') : Tab B w' := fun v hv => h v (hb.trans hv)
def AddOut (cx : Cx) (own : Nat → Option Tag) (S' : St) (w : World) (e : Ending) (w' : World) : Prop :=
  e = .returned (.tuple #[]) ∧ ∃ own' rv', Rep cx w' own' rv' S' ∧ Frm own own' w w'
/-- the law of add, as its caller uses it -/
def AddLaw : Prop := ∀ (cx : Cx) (own : Nat → Option Tag) (rv : Tag → Value) (S : St) (w : World) (la : Option Addr) (ln lc : Nat) (zl : List Int) (h : Rep cx w own rv S) (hp : RestS cx.V S) (hln : zl.length = ln) (hl9 : ln ≤ 1000000) (hi : Ints w la zl) (hll : Lits (cx.V + 1) zl) (hV : cx.V ≤ 900000) (hN : S.n ≤ 1000000) (hm : S.m ≤ 10000000) (ht : Tab cx.lo w),
    Calls Tryd.prog 29 #[.pointer (some ⟨cx.xb, 0, none⟩), .slice la ln lc] w (AddOut cx own (addS S (setZ zl)) w)
end Go.Proofs.YtagfnjpjmmleiaaDoor

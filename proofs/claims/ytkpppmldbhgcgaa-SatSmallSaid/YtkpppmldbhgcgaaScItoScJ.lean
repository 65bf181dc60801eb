/- Sat: is an answer one that may be (right), walked. -/
import Derived.Test.YtkpppmldbhgcgaaScH
import Derived.Test.YtkpppmldbhgcgaaDpWB
set_option linter.unusedVariables false
set_option linter.unusedSimpArgs false
set_option autoImplicit false
set_option linter.unusedVariables false
set_option linter.unusedSimpArgs false
namespace Go.Proofs.Ytkpppmldbhgcgaa
open Go Go.Shelf Go.RowKit
/-- an answer that may be, in words of lists -/
def RightZ (V : Int) (cs : List (List Int)) (ans : Ans) : Prop :=
  (ans.what = 1 ∧ ans.proof = [] ∧ (ans.model.length : Int) = V + 1 ∧ cs.all (fun c => D.satC ans.model c) = true) ∨
  (ans.what = 2 ∧ ans.model = [] ∧ (D.answerZ V cs 0 ans.proof).2 = 0) ∨ (ans.what = 3 ∧ ans.model = [] ∧ ans.proof = [])
theorem below2 (w : World) (o o' : Obj) : Below w.heap.size w ((w.alloc o).alloc o') := by
  have h := (Below.refl w.heap.size w).alloc (Nat.le_refl _) o
  exact h.alloc h.size o'
theorem right_boxes (w : World) (vars what : Int) (v mv pv : Value) : (((w.alloc (.cells #[.int .i64 vars, v] 24)).alloc (.cells #[.int .i64 what, mv, pv] 30)).cell? ⟨w.heap.size, 0, none⟩ = some (.int .i64 vars) ∧ ((w.alloc (.cells #[.int .i64 vars, v] 24)).alloc (.cells #[.int .i64 what, mv, pv] 30)).cell? ⟨w.heap.size, 0 + 1, none⟩ = some v) ∧
    ((w.alloc (.cells #[.int .i64 vars, v] 24)).alloc (.cells #[.int .i64 what, mv, pv] 30)).cell? ⟨w.heap.size + 1, 0, none⟩ = some (.int .i64 what) ∧ ((w.alloc (.cells #[.int .i64 vars, v] 24)).alloc (.cells #[.int .i64 what, mv, pv] 30)).cell? ⟨w.heap.size + 1, 1, none⟩ = some mv ∧ ((w.alloc (.cells #[.int .i64 vars, v] 24)).alloc (.cells #[.int .i64 what, mv, pv] 30)).cell? ⟨w.heap.size + 1, 2, none⟩ = some pv := by
  have s1 : (w.alloc (.cells #[Value.int .i64 vars, v] 24)).heap.size = w.heap.size + 1 := by show (w.heap.push _).size = _; simp
  have h1 : ((w.alloc (.cells #[Value.int .i64 vars, v] 24)).alloc (.cells #[.int .i64 what, mv, pv] 30)).heap[w.heap.size]? = some (.cells #[Value.int .i64 vars, v] 24) := (heap_old (heap_new w _)).1
  have h2 := heap_new (w.alloc (.cells #[Value.int .i64 vars, v] 24)) (.cells #[.int .i64 what, mv, pv] 30)
  rw [s1] at h2
  exact ⟨⟨(block_cell h1 0).1.trans rfl, (block_cell h1 1).1.trans rfl⟩, (block_cell h2 0).1.trans rfl, (block_cell h2 1).1.trans rfl, (block_cell h2 2).1.trans rfl⟩
set_option maxHeartbeats 8000000 in
set_option maxRecDepth 1000000 in
theorem right_walk (a : Option Addr) (n c : Nat) (cs : List D.Cl) (V : Int) (w : World) (hn : cs.length = n) (hlen : n ≤ 1000000) (hl : ∀ j, j < n → (cs.getD j default).zs.length ≤ 1000000) (hz : D.Rows' w a cs) (hc : D.checkZ V cs = 0)
    (ans : Ans) (am : Option Addr) (nm cm : Nat) (hnm : ans.model.length = nm) (hml : nm ≤ 1000000) (hms : D.Bools w am ans.model) (pa : Option Addr) (pn pc : Nat) (ls : List D.Ln) (hpl : ls.map D.lnz = ans.proof) (hpn : ls.length = pn) (hp9 : pn ≤ 1000000) (hpz : D.Lines w pa ls) (hpc : ∀ j, j < pn → (ls.getD j default).cl.zs.length ≤ 1000000)
    (hR : RightZ V (cs.map D.Cl.zs) ans) :
    Calls Try.prog 13 #[.agg #[.int .i64 V, .slice a n c], .agg #[.int .i64 ans.what, .slice am nm cm, .slice pa pn pc]] w fun e w' => e = .returned (.bool true) ∧ Below w.heap.size w w' := by
  have hb2 := below2 w (.cells #[.int .i64 V, .slice a n c] 24) (.cells #[.int .i64 ans.what, .slice am nm cm, .slice pa pn pc] 30)
  obtain ⟨⟨c0, c1⟩, r0, r1, r2⟩ := right_boxes w V ans.what (.slice a n c) (.slice am nm cm) (.slice pa pn pc)
  have hpn' : ans.proof.length = pn := by rw [← hpl, List.length_map]; exact hpn
  rcases hR with ⟨e1, e2, e3, e4⟩ | ⟨e1, e2, e3⟩ | ⟨e1, e2, e3⟩
  · have hp0 : pn = 0 := by rw [← hpn', e2]; rfl
    subst hp0
    have hh := D.holds_walk a am n c nm cm cs ans.model V _ hn (by omega) (fun j hj => by have := hl j hj; omega) (hz.below hb2) hnm (by omega) (hms.below hb2)
    have he : D.holdsZ V cs ans.model = true := by
      unfold D.holdsZ
      rw [hc, e3]
      simp only [decide_true, Bool.true_and, List.all_map] at e4 ⊢
      exact e4
    rw [he] at hh
    rw [e1] at hh hb2 r0 r1 r2 c0 c1 ⊢
    have hh2 := hh.mono (R' := fun e w' => e = .returned (.bool true) ∧ Below w.heap.size w w') (by
      rintro e w' ⟨p1, p2⟩
      exact ⟨p1, hb2.trans (p2.mono hb2.size)⟩)
    clear hh hb2
    go_enter Try.func13, Try.ntmps13
    go_wp2_with (go_at_call 20; refine hh2.mono ?_; rintro e w1 ⟨p1, p2⟩; rw [p1]; clear p1)
    (try simp only [Exit.inBlock, Exit.then, Exit.jump])
    go_ret
    exact ⟨rfl, p2⟩
  · have hm0 : nm = 0 := by rw [← hnm, e2]; rfl
    subst hm0
    have hh := D.proof_walk a n c cs V pa pn pc ls _ hn (by omega) (fun j hj => by have := hl j hj; omega) (hz.below hb2) hpn (by omega) (fun j hj => by have := hpc j hj; omega) (hpz.below hb2)
    rw [hc, hpl] at hh
    rw [e1] at hh hb2 r0 r1 r2 c0 c1 ⊢
    obtain ⟨x, y, hxy⟩ : ∃ x y, D.answerZ V (cs.map D.Cl.zs) 0 ans.proof = (x, y) := ⟨_, _, rfl⟩
    rw [hxy] at hh e3
    have e3 : y = 0 := e3
    subst e3
    have hh2 := hh.mono (R' := fun e w' => e = .returned (.tuple #[.int .i64 x, .int .i64 0]) ∧ Below w.heap.size w w' ∧ w'.cell? ⟨w.heap.size + 1, 1, none⟩ = some (.slice am 0 cm)) (by
      rintro e w' ⟨p1, p2⟩
      exact ⟨p1, hb2.trans (p2.mono hb2.size), (p2.cell (p := ⟨w.heap.size + 1, 1, none⟩) (by show w.heap.size + 1 < (Array.push _ _).size; rw [Array.size_push]; show _ < (w.heap.push _).size + 1; simp)).trans r1⟩)
    clear hh hb2
    go_enter Try.func13, Try.ntmps13
    go_wp2_with (go_at_call 21; refine hh2.mono ?_; rintro e w1 ⟨p1, p2, p3⟩; rw [p1]; clear p1)
    (try simp only [Exit.inBlock, Exit.then, Exit.jump])
    go_ret
    exact ⟨rfl, p2⟩
  · have hp0 : pn = 0 := by rw [← hpn', e3]; rfl
    have hm0 : nm = 0 := by rw [← hnm, e2]; rfl
    subst hp0 hm0
    rw [e1] at hb2 r0 r1 r2 c0 c1 ⊢
    go_enter Try.func13, Try.ntmps13
    go_wp2
    (try simp only [Exit.inBlock, Exit.then, Exit.jump])
    go_ret
    exact ⟨rfl, hb2⟩
end Go.Proofs.Ytkpppmldbhgcgaa
/- Sat: a proof whose lines follow by propagating is taken; a check of it that the kernel runs; things and holes (plain). -/
set_option autoImplicit false
set_option linter.unusedVariables false
set_option linter.unusedSimpArgs false
namespace Go.Proofs.Ytkpppmldbhgcgaa
open Go
/-- each line follows from what is there, the last one is empty -/
def Rup (V : Int) : Nat → List (List Int) → List (Bool × List Int) → Prop
  | _, _, [] => False
  | n, N, p :: r => p.1 = false ∧ n + 1 + p.2.length ≤ 200000 ∧ D.fairZ V p.2 = true ∧ D.Fol N p.2 ∧ (p.2 = [] ∨ Rup V (n + 1 + p.2.length) (N ++ [p.2]) r)
theorem play_rup (V : Int) (found : Bool) : ∀ (ls : List (Bool × List Int)) (i n : Nat) (N : List (List Int)), Rup V n N ls → D.playZ V found ls i n (N.map D.setZ) = (-1, 0)
  | [], i, n, N, h => h.elim
  | (g, c) :: r, i, n, N, ⟨h1, h2, h3, h4, h5⟩ => by
    have h1 : g = false := h1
    subst h1
    have hl : D.Line1 (N.map D.setZ) c := D.line1_set.2 (.inl h4)
    have h2' : ¬ 200000 < n + 1 + c.length := by have : n + 1 + c.length ≤ 200000 := h2; omega
    by_cases hc : c = []
    · subst hc
      exact D.play_here h2' hl
    · rw [D.play_add h2' h3 hl hc]
      have e : N.map D.setZ ++ [D.setZ c] = (N ++ [c]).map D.setZ := by rw [List.map_append]; rfl
      rw [e]
      exact play_rup V found r (i + 1) _ _ (h5.resolve_left hc)
theorem answer_rup {V : Int} {cs : List (List Int)} {ls : List (Bool × List Int)} (h : Rup V 0 cs ls) : D.answerZ V cs 0 ls = (-1, 0) := by
  unfold D.answerZ
  rw [if_pos rfl]
  exact play_rup V _ ls 0 0 cs h
/-! ### a check that the kernel runs -/
/-- do literals that hold lead to a conflict? -/
def prop1 : Nat → List (List Int) → List Int → Bool
  | 0, _, _ => false
  | f + 1, cs, L =>
    if cs.any (fun c => c.all fun y => L.contains (-y)) then true else
      match cs.findSome? (fun c => match c.filter (fun y => !L.contains (-y)) with | x :: r => if r.all (fun y => y == x) && !L.contains x then some x else none | [] => none) with
      | some x => prop1 f cs (x :: L)
      | none => false
theorem prop1_sound {H : Int → Prop} : ∀ (f : Nat) (cs : List (List Int)) (L : List Int), (∀ x ∈ L, D.Der cs H x) → prop1 f cs L = true → D.Confl cs H
  | 0, _, _, _, h => by cases h
  | f + 1, cs, L, hL, h => by
    unfold prop1 at h
    split at h
    · rename_i h1
      obtain ⟨c, hc, h2⟩ := List.any_eq_true.1 h1
      exact ⟨c, hc, fun y hy => hL _ (by simpa using List.all_eq_true.1 h2 y hy)⟩
    · split at h
      · rename_i x hx
        refine prop1_sound f cs (x :: L) (fun z hz => ?_) h
        rcases List.mem_cons.1 hz with rfl | hz
        · obtain ⟨c, hc, h2⟩ := List.exists_of_findSome?_eq_some hx
          split at h2
          · rename_i x' r hf
            split at h2
            · rename_i h3
              cases h2
              rw [Bool.and_eq_true] at h3
              have hmem : ∀ y ∈ c, L.contains (-y) = false → y = z := fun y hy h4 => by
                have : y ∈ c.filter (fun y => !L.contains (-y)) := List.mem_filter.2 ⟨hy, by rw [h4]; rfl⟩
                rw [hf] at this
                rcases List.mem_cons.1 this with h5 | h5
                · exact h5
                · simpa using List.all_eq_true.1 h3.1 y h5
              have hzc : z ∈ c := by
                have : z ∈ c.filter (fun y => !L.contains (-y)) := by rw [hf]; simp
                exact (List.mem_filter.1 this).1
              refine .unit c z hc hzc fun y hy hne => ?_
              cases h4 : L.contains (-y) with
              | true => exact hL _ (by simpa using h4)
              | false => exact absurd (hmem y hy h4) hne
            · cases h2
          · cases h2
        · exact hL z hz
      · cases h
def rupB (V : Int) : Nat → List (List Int) → List (Bool × List Int) → Bool
  | _, _, [] => false
  | n, N, p :: r => !p.1 && decide (n + 1 + p.2.length ≤ 200000) && D.fairZ V p.2 && (p.2.all (fun x => x != 0) && prop1 100 N (p.2.map fun x => -x)) && (p.2.isEmpty || rupB V (n + 1 + p.2.length) (N ++ [p.2]) r)
theorem rupB_sound {V : Int} : ∀ (ls : List (Bool × List Int)) (n : Nat) (N : List (List Int)), rupB V n N ls = true → Rup V n N ls
  | [], n, N, h => by cases h
  | p :: r, n, N, h => by
    unfold rupB at h
    simp only [Bool.and_eq_true, Bool.or_eq_true, Bool.not_eq_true', decide_eq_true_eq] at h
    obtain ⟨⟨⟨⟨h1, h2⟩, h3⟩, h4, h5⟩, h6⟩ := h
    refine ⟨h1, h2, h3, .inr (prop1_sound _ _ _ (fun x hx => ?_) h5), h6.imp (fun e => List.isEmpty_iff.1 e) (rupB_sound r _ _)⟩
    obtain ⟨y, hy, rfl⟩ := List.mem_map.1 hx
    have h0 : y ≠ 0 := by simpa using List.all_eq_true.1 h4 y hy
    exact .init _ ⟨by omega, by rw [Int.neg_neg]; exact hy⟩
/-- an answer that may be, as the kernel checks it -/
def rightB (V : Int) (cs : List (List Int)) (ans : Ans) : Bool :=
  (decide (ans.what = 1) && ans.proof.isEmpty && decide ((ans.model.length : Int) = V + 1) && cs.all fun c => D.satC ans.model c) || (decide (ans.what = 2) && ans.model.isEmpty && rupB V 0 cs ans.proof)
theorem rightB_sound {V : Int} {cs : List (List Int)} {ans : Ans} (h : rightB V cs ans = true) : RightZ V cs ans := by
  unfold rightB at h
  simp only [Bool.and_eq_true, Bool.or_eq_true, decide_eq_true_eq, List.isEmpty_iff] at h
  rcases h with ⟨⟨⟨h1, h2⟩, h3⟩, h4⟩ | ⟨⟨h1, h2⟩, h3⟩
  · exact .inl ⟨h1, h2, h3, h4⟩
  · exact .inr (.inl ⟨h1, h2, by rw [answer_rup (rupB_sound _ _ _ h3)]⟩)
/-! ### things and holes -/
def pairZ (n i k j : Nat) : List Int := [-((i : Int) * n + k + 1), -((j : Int) * n + k + 1)]
def pairs (n i k j : Nat) : List (List Int) := (List.range j).map (pairZ n i k)
def mids (n i k : Nat) : List (List Int) := (List.range k).flatMap fun k => pairs n i k i
def holeC (n i k : Nat) : List Int := (List.range k).map fun (k : Nat) => (i : Int) * n + k + 1
def holes (n i : Nat) : List (List Int) := (List.range i).flatMap fun i => mids n i n ++ [holeC n i n]
theorem pairs_succ (n i k j : Nat) : pairs n i k (j + 1) = pairs n i k j ++ [pairZ n i k j] := by unfold pairs; rw [List.range_succ, List.map_append]; rfl
theorem mids_succ (n i k : Nat) : mids n i (k + 1) = mids n i k ++ pairs n i k i := by unfold mids; rw [List.range_succ, List.flatMap_append]; simp
theorem holeC_succ (n i k : Nat) : holeC n i (k + 1) = holeC n i k ++ [(i : Int) * n + k + 1] := by unfold holeC; rw [List.range_succ, List.map_append]; rfl
theorem holes_succ (n i : Nat) : holes n (i + 1) = holes n i ++ (mids n i n ++ [holeC n i n]) := by unfold holes; rw [List.range_succ, List.flatMap_append]; simp
/-- how many of them are answered right -/
def holeB (n t : Nat) (want : Int) : Bool := match solveK 100000 (t * n) (holes n t) 1000000 with
  | some ans => decide (ans.what = want) && rightB ((t * n : Nat) : Int) (holes n t) ans && decide (ans.model.length ≤ 1000000) && decide (ans.proof.length ≤ 1000000) && ans.proof.all fun p => decide (p.2.length ≤ 1000000)
  | none => false
theorem hole1 : holeB 1 1 1 = true := by decide +kernel
theorem hole1' : holeB 1 2 2 = true := by decide +kernel
theorem hole2 : holeB 2 2 1 = true := by decide +kernel
theorem hole2' : holeB 2 3 2 = true := by decide +kernel
theorem hole3 : holeB 3 3 1 = true := by decide +kernel
theorem hole3' : holeB 3 4 2 = true := by decide +kernel
end Go.Proofs.Ytkpppmldbhgcgaa
/- Sat: the answers in memory; the program is alive. -/
set_option autoImplicit false
set_option linter.unusedVariables false
set_option linter.unusedSimpArgs false
namespace Go.Proofs.Ytkpppmldbhgcgaa
open Go Go.Shelf Go.RowKit
theorem bools_of {lo k : Nat} {w : World} {mv : Value} {ms : List Bool} (h : w.ownsRow lo 4 1 mv k (ms.map Value.bool)) (hk : ms.length = k) : ∃ am cm, mv = .slice am k cm ∧ k ≤ cm ∧ D.Bools w am ms ∧ (0 < k → ∃ g, am = some ⟨g, 0, none⟩ ∧ lo ≤ g) := by
  rcases h.2 with ⟨e1, e2⟩ | ⟨g, cap, cur, e1, hb, hg, hc, _⟩
  · exact ⟨none, 0, by rw [e1, e2], by omega, fun j hj => by omega, fun h => by omega⟩
  · rw [e1] at h
    refine ⟨_, cap, e1, hc, fun j hj => ⟨g, 0, rfl, (Array.getElem?_eq_some_iff.1 hg).1, ?_⟩, fun _ => ⟨g, rfl, hb⟩⟩
    rw [Nat.zero_add, h.cellAt j (by omega), List.getElem?_map, List.getD_eq_getElem?_getD, List.getElem?_eq_getElem hj]
    rfl
theorem pcv_get (f : Nat → Value) : ∀ (ls : List (Bool × List Int)) (k j : Nat) (p : Bool × List Int), ls[j]? = some p → (pcv f k ls)[j * 2]? = some (.bool p.1) ∧ (pcv f k ls)[j * 2 + 1]? = some (f (k + j))
  | [], k, j, p, h => by simp at h
  | q :: ls, k, 0, p, h => by
    have h : q = p := by simpa using h
    subst h
    exact ⟨rfl, rfl⟩
  | q :: ls, k, j + 1, p, h => by
    obtain ⟨h1, h2⟩ := pcv_get f ls (k + 1) j p (by simpa using h)
    refine ⟨?_, ?_⟩
    · rw [show (j + 1) * 2 = j * 2 + 2 by omega]
      exact h1
    · rw [show (j + 1) * 2 + 1 = j * 2 + 1 + 2 by omega, show k + (j + 1) = k + 1 + j by omega]
      exact h2
def adOf : Value → Option Addr
  | .slice a _ _ => a
  | _ => none
def cpOf : Value → Nat
  | .slice _ _ c => c
  | _ => 0
theorem ints_own {lo k : Nat} {w : World} {v : Value} {zs : List Int} (h : w.ownsRow lo 3 1 v k (zs.map (Value.int .i64))) (hk : zs.length = k) : v = .slice (adOf v) k (cpOf v) ∧ D.Ints w (adOf v) zs := by
  rcases h.2 with ⟨e1, e2⟩ | ⟨g, cap, cur, e1, hb, hg, hc, _⟩
  · rw [e1, e2]
    exact ⟨rfl, fun j hj => by omega⟩
  · rw [e1] at h ⊢
    refine ⟨rfl, fun j hj => ⟨g, 0, rfl, (Array.getElem?_eq_some_iff.1 hg).1, ?_⟩⟩
    rw [Nat.zero_add, h.cellAt j (by omega), List.getElem?_map, List.getD_eq_getElem?_getD, List.getElem?_eq_getElem hj]
    rfl
/-- the lines of a proof, as the document's check reads them -/
def lnOf (f : Nat → Value) (ls : List (Bool × List Int)) : List D.Ln := (List.range ls.length).map fun k => ⟨(ls.getD k default).1, ⟨adOf (f k), cpOf (f k), (ls.getD k default).2⟩⟩
theorem lnOf_lnz (f : Nat → Value) (ls : List (Bool × List Int)) : (lnOf f ls).map D.lnz = ls := by
  unfold lnOf
  rw [List.map_map]
  apply List.ext_getElem?
  intro k
  rw [List.getElem?_map]
  by_cases hk : k < ls.length
  · rw [List.getElem?_range hk, List.getElem?_eq_getElem hk]
    show some ((ls.getD k default).1, (ls.getD k default).2) = _
    rw [List.getD_eq_getElem?_getD, List.getElem?_eq_getElem hk]
    rfl
  · rw [List.getElem?_eq_none (by rw [List.length_range]; omega), List.getElem?_eq_none (by omega)]; rfl
theorem lines_of {lo : Nat} {w : World} {pv : Value} {ls : List (Bool × List Int)} (h : ProofAt lo w pv ls) : ∃ (pa : Option Addr) (pc : Nat) (lns : List D.Ln), pv = .slice pa ls.length pc ∧ ls.length ≤ pc ∧ lns.map D.lnz = ls ∧ D.Lines w pa lns := by
  obtain ⟨f, h1, h2, _⟩ := h
  rcases h1.2 with ⟨e1, e2⟩ | ⟨g, cap, cur, e1, hb, hg, hc, _⟩
  · have hl : ls = [] := List.eq_nil_of_length_eq_zero e2
    subst hl
    exact ⟨none, 0, [], e1, Nat.le_refl _, rfl, fun j hj => by cases hj⟩
  · rw [e1] at h1
    refine ⟨_, cap, lnOf f ls, e1, hc, lnOf_lnz f ls, fun j hj => ?_⟩
    have hj' : j < ls.length := by unfold lnOf at hj; simpa using hj
    have hget : (lnOf f ls).getD j default = ⟨(ls.getD j default).1, ⟨adOf (f j), cpOf (f j), (ls.getD j default).2⟩⟩ := by
      unfold lnOf
      rw [List.getD_eq_getElem?_getD, List.getElem?_map, List.getElem?_range hj']
      rfl
    have hp : ls[j]? = some (ls.getD j default) := by rw [List.getD_eq_getElem?_getD, List.getElem?_eq_getElem hj']; rfl
    obtain ⟨c1, c2⟩ := pcv_get f ls 0 j _ hp
    rw [Nat.zero_add] at c2
    obtain ⟨i1, i2⟩ := ints_own (h2 j _ hp) rfl
    rw [hget]
    refine ⟨g, 0, rfl, (Array.getElem?_eq_some_iff.1 hg).1, ?_, ?_, i2⟩
    · rw [Nat.zero_add, h1.cellAt (j * 2) (by omega)]; exact c1
    · rw [Nat.zero_add, h1.cellAt (j * 2 + 1) (by omega)]
      refine c2.trans (congrArg some ?_)
      exact i1
/-- two clauses in memory that is just made -/
theorem two_rows (w : World) (z1 z2 : List Int) (s : Nat) (hs : w.heap.size = s) : D.Rows' (((w.alloc (.cells (z1.map (Value.int .i64)).toArray 3)).alloc (.cells (z2.map (Value.int .i64)).toArray 3)).alloc (.cells #[.slice (some ⟨s, 0, none⟩) z1.length z1.length, .slice (some ⟨s + 1, 0, none⟩) z2.length z2.length] 40)) (some ⟨s + 2, 0, none⟩)
    [⟨some ⟨s, 0, none⟩, z1.length, z1⟩, ⟨some ⟨s + 1, 0, none⟩, z2.length, z2⟩] := by
  subst hs
  obtain ⟨o1, ho1⟩ : ∃ o, o = Obj.cells (z1.map (Value.int .i64)).toArray 3 := ⟨_, rfl⟩
  obtain ⟨o2, ho2⟩ : ∃ o, o = Obj.cells (z2.map (Value.int .i64)).toArray 3 := ⟨_, rfl⟩
  obtain ⟨o3, ho3⟩ : ∃ o, o = Obj.cells #[.slice (some ⟨w.heap.size, 0, none⟩) z1.length z1.length, .slice (some ⟨w.heap.size + 1, 0, none⟩) z2.length z2.length] 40 := ⟨_, rfl⟩
  have s1 : (w.alloc o1).heap.size = w.heap.size + 1 := by show (w.heap.push _).size = _; simp
  have s2 : ((w.alloc o1).alloc o2).heap.size = w.heap.size + 2 := by show (Array.push _ _).size = _; rw [Array.size_push, s1]
  have s3 : (((w.alloc o1).alloc o2).alloc o3).heap.size = w.heap.size + 3 := by show (Array.push _ _).size = _; rw [Array.size_push, s2]
  have h1 : (((w.alloc o1).alloc o2).alloc o3).heap[w.heap.size]? = some o1 := (heap_old (heap_old (heap_new w o1)).1).1
  have h2 : (((w.alloc o1).alloc o2).alloc o3).heap[w.heap.size + 1]? = some o2 := by
    have := heap_new (w.alloc o1) o2
    rw [s1] at this
    exact (heap_old this).1
  have h3 : (((w.alloc o1).alloc o2).alloc o3).heap[w.heap.size + 2]? = some o3 := by
    have := heap_new ((w.alloc o1).alloc o2) o3
    rw [s2] at this
    exact this
  rw [← ho1, ← ho2, ← ho3]
  have hi : ∀ (b : Nat) (zs : List Int), (((w.alloc o1).alloc o2).alloc o3).heap[b]? = some (.cells (zs.map (Value.int .i64)).toArray 3) → D.Ints (((w.alloc o1).alloc o2).alloc o3) (some ⟨b, 0, none⟩) zs := fun b zs hb j hj =>
    ⟨b, 0, rfl, (Array.getElem?_eq_some_iff.1 hb).1, by rw [Nat.zero_add, (block_cell hb j).1]; simp [hj]⟩
  have h1' : (((w.alloc o1).alloc o2).alloc o3).heap[w.heap.size]? = some (.cells (z1.map (Value.int .i64)).toArray 3) := by rw [h1, ho1]
  have h2' : (((w.alloc o1).alloc o2).alloc o3).heap[w.heap.size + 1]? = some (.cells (z2.map (Value.int .i64)).toArray 3) := by rw [h2, ho2]
  have h3' := h3.trans (congrArg some ho3)
  intro j hj
  match j, hj with
  | 0, _ => exact ⟨_, 0, rfl, by omega, (block_cell h3' 0).1.trans rfl, hi _ _ h1'⟩
  | 1, _ => exact ⟨_, 0, rfl, by omega, (block_cell h3' 1).1.trans rfl, hi _ _ h2'⟩
theorem alive1 : solveK 100 2 [[1, 2], [-1]] 1000000 = some ⟨1, [false, false, true], []⟩ := by decide +kernel
theorem alive2 : solveK 100 1 [[1], [-1]] 1000000 = some ⟨2, [], [(false, [])]⟩ := by decide +kernel
end Go.Proofs.Ytkpppmldbhgcgaa

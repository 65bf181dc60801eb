/- Drat: the formula of all clauses of n variables is proved by halving (plain law). -/
import Derived.Test.YtagfnjpjmmleiaaDoorUA
import Derived.Test.YtagfnjpjmmleiaaDoorTQ
import Derived.Test.YtagfnjpjmmleiaaDoorQA
import Derived.Test.YtagfnjpjmmleiaaDoorTP
set_option linter.unusedVariables false
set_option linter.unusedSimpArgs false
set_option autoImplicit false
set_option linter.unusedVariables false
set_option linter.unusedSimpArgs false
namespace Go.Proofs.YtagfnjpjmmleiaaDoor
def litB (b i : Nat) : Int := if b.testBit i = true then -((i : Int) + 1) else (i : Int) + 1
/-- the clause of the first k variables whose signs are a number's bits -/
def clauseZ (k b : Nat) : List Int := (List.range k).map (litB b)
def lvl (k : Nat) : List (List Int) := (List.range (2 ^ k)).map (clauseZ k)
/-- the proof: halved and halved again -/
def pl : Nat → List (List Int)
  | 0 => []
  | n + 1 => lvl n ++ pl n
theorem clauseZ_succ (k b : Nat) : clauseZ (k + 1) b = clauseZ k b ++ [litB b k] := by
  unfold clauseZ
  rw [List.range_succ, List.map_append, List.map_singleton]
theorem clauseZ_low {k b : Nat} (hb : b < 2 ^ k) : clauseZ (k + 1) b = clauseZ k b ++ [(k : Int) + 1] := by
  rw [clauseZ_succ]
  unfold litB
  rw [if_neg (by rw [Nat.testBit_lt_two_pow hb]; decide)]
theorem clauseZ_high {k b : Nat} (hb : b < 2 ^ k) : clauseZ (k + 1) (2 ^ k + b) = clauseZ k b ++ [-((k : Int) + 1)] := by
  rw [clauseZ_succ]
  congr 1
  · unfold clauseZ
    apply List.map_congr_left
    intro i hi
    have hi := List.mem_range.1 hi
    unfold litB
    rw [Nat.testBit_two_pow_add_gt hi]
  · unfold litB
    rw [if_pos (by rw [Nat.testBit_two_pow_add_eq, Nat.testBit_lt_two_pow hb]; rfl)]
theorem lvl_mem {k : Nat} {c : List Int} : c ∈ lvl k ↔ ∃ b, b < 2 ^ k ∧ clauseZ k b = c := by
  unfold lvl
  rw [List.mem_map]
  exact ⟨fun ⟨b, h1, h2⟩ => ⟨b, List.mem_range.1 h1, h2⟩, fun ⟨b, h1, h2⟩ => ⟨b, List.mem_range.2 h1, h2⟩⟩
theorem litB_ne (b i : Nat) : litB b i ≠ 0 := by
  unfold litB
  split <;> omega
/-- a clause follows from its two halves -/
theorem half_fol {N : List (List Int)} {k b : Nat} (hb : b < 2 ^ k) (h : ∀ c ∈ lvl (k + 1), c ∈ N) : Fol N (clauseZ k b) := by
  have hp : 2 ^ (k + 1) = 2 ^ k + 2 ^ k := by rw [Nat.pow_succ]; omega
  have h1 : clauseZ k b ++ [(k : Int) + 1] ∈ N := h _ (lvl_mem.2 ⟨b, by omega, clauseZ_low hb⟩)
  have h2 : clauseZ k b ++ [-((k : Int) + 1)] ∈ N := h _ (lvl_mem.2 ⟨2 ^ k + b, by omega, clauseZ_high hb⟩)
  have hn : ∀ y ∈ clauseZ k b, Der N (Negs (clauseZ k b)) (-y) := fun y hy => by
    refine .init _ ⟨?_, by rw [Int.neg_neg]; exact hy⟩
    obtain ⟨i, _, rfl⟩ := List.mem_map.1 hy
    have := litB_ne b i
    omega
  have hk : Der N (Negs (clauseZ k b)) ((k : Int) + 1) := .unit _ _ h1 (by simp) fun y hy hne => by
    rcases List.mem_append.1 hy with e | e
    · exact hn y e
    · exact absurd (List.mem_singleton.1 e) hne
  refine .inr ⟨_, h2, fun y hy => ?_⟩
  rcases List.mem_append.1 hy with e | e
  · exact hn y e
  · rw [List.mem_singleton.1 e, Int.neg_neg]; exact hk
/-- each line follows from what there is and the lines ahead of it -/
inductive GoodL : List (List Int) → List (List Int) → Prop
  | nil (N : List (List Int)) : GoodL N []
  | cons (N : List (List Int)) (c : List Int) (ls : List (List Int)) : Fol N c → GoodL (N ++ [c]) ls → GoodL N (c :: ls)
theorem good_app {k : Nat} : ∀ (cs : List (List Int)) (N rest : List (List Int)), (∀ c ∈ cs, c ∈ lvl k) → (∀ c ∈ lvl (k + 1), c ∈ N) → GoodL (N ++ cs) rest → GoodL N (cs ++ rest)
  | [], N, rest, _, _, h => by rw [List.append_nil] at h; exact h
  | c :: cs, N, rest, hc, hN, h => by
    obtain ⟨b, hb, e⟩ := lvl_mem.1 (hc c (List.mem_cons_self ..))
    refine .cons N c _ (by rw [← e]; exact half_fol hb hN) (good_app cs (N ++ [c]) rest (fun d hd => hc d (List.mem_cons_of_mem _ hd)) (fun d hd => List.mem_append_left _ (hN d hd)) ?_)
    rw [List.append_assoc]; exact h
theorem good_pl : ∀ (n : Nat) (N : List (List Int)), (∀ c ∈ lvl n, c ∈ N) → GoodL N (pl n)
  | 0, N, _ => .nil N
  | n + 1, N, h => good_app (lvl n) N (pl n) (fun c hc => hc) h (good_pl n _ fun c hc => List.mem_append_right _ hc)
theorem play_good {V : Nat} {fd : Bool} : ∀ (ls : List (List Int)) (i m : Nat) (N : List (List Int)), GoodL N ls → [] ∈ ls → (∀ c ∈ ls, fairZ (V : Int) c = true) → m + (ls.map fun c => 1 + c.length).sum ≤ 200000 → playZ (V : Int) fd (ls.map fun c => (false, c)) i m (N.map setZ) = (-1, 0)
  | [], i, m, N, _, h, _, _ => by cases h
  | c :: ls, i, m, N, hg, he, hf, hm => by
    cases hg with
    | cons _ _ _ h1 h2 =>
      simp only [List.map_cons, List.sum_cons] at hm
      have hl : Line1 (N.map setZ) c := line1_set.2 (.inl h1)
      have hfc := hf c (List.mem_cons_self ..)
      rw [List.map_cons]
      by_cases hc : c = []
      · subst hc
        exact play_here (by simp; omega) hl
      · rw [play_add (by omega) hfc hl hc]
        have e : N.map setZ ++ [setZ c] = (N ++ [c]).map setZ := by rw [List.map_append]; rfl
        rw [e]
        refine play_good ls _ _ _ h2 ?_ (fun d hd => hf d (List.mem_cons_of_mem _ hd)) (by omega)
        rcases List.mem_cons.1 he with e | e
        · exact absurd e.symm hc
        · exact e
theorem pl_nil : ∀ n, [] ∈ pl (n + 1)
  | 0 => by decide
  | n + 1 => List.mem_append_right _ (pl_nil n)
theorem pl_sum {n : Nat} (h : n ≤ 6) : ((pl n).map fun c => 1 + c.length).sum ≤ 1000 ∧ ((lvl n).map fun c => 1 + c.length).sum ≤ 1000 := by
  match n, h with
  | 0, _ => decide +kernel
  | 1, _ => decide +kernel
  | 2, _ => decide +kernel
  | 3, _ => decide +kernel
  | 4, _ => decide +kernel
  | 5, _ => decide +kernel
  | 6, _ => decide +kernel
theorem clauseZ_fair {n k b : Nat} (h : k ≤ n) : fairZ (n : Int) (clauseZ k b) = true := by
  unfold fairZ
  rw [List.all_eq_true]
  intro y hy
  obtain ⟨i, hi, rfl⟩ := List.mem_map.1 hy
  have hi := List.mem_range.1 hi
  unfold litB fair1
  split <;> simp <;> omega
theorem pl_fair {n m : Nat} : n ≤ m + 1 → ∀ c ∈ pl n, fairZ (m : Int) c = true := by
  induction n with
  | zero => intro _ c hc; cases hc
  | succ n ih =>
    intro h c hc
    rcases List.mem_append.1 hc with e | e
    · obtain ⟨b, _, rfl⟩ := lvl_mem.1 e
      exact clauseZ_fair (by omega)
    · exact ih (by omega) c e
theorem all_play {n : Nat} (h1 : 1 ≤ n) (h6 : n ≤ 6) {fd : Bool} : playZ (n : Int) fd ((pl n).map fun c => (false, c)) 0 0 ((lvl n).map setZ) = (-1, 0) := by
  obtain ⟨m, rfl⟩ : ∃ m, n = m + 1 := ⟨n - 1, by omega⟩
  refine play_good (pl (m + 1)) 0 0 (lvl (m + 1)) (good_pl _ _ fun c hc => hc) (pl_nil m) (pl_fair (by omega)) ?_
  have := (pl_sum h6).1
  omega
theorem total_take (cs : List Cl) : ∀ k, k ≤ cs.length → total cs k = (((cs.take k).map Cl.zs).map fun c => 1 + c.length).sum
  | 0, _ => by simp [total]
  | k + 1, h => by
    show total cs k + 1 + (cs.getD k default).zs.length = _
    rw [total_take cs k (by omega), List.take_add_one, List.getElem?_eq_getElem (by omega), List.getD_eq_getElem?_getD, List.getElem?_eq_getElem (by omega), List.map_append, List.map_append, List.sum_append]
    simp
    omega
theorem all_check {n : Nat} (h6 : n ≤ 6) {cs : List Cl} (h : cs.map Cl.zs = lvl n) : checkZ (n : Int) cs = 0 := by
  have ht : total cs cs.length ≤ 1000 := by
    rw [total_take cs _ (Nat.le_refl _), List.take_length, h]
    exact (pl_sum h6).2
  have hf : fairs (n : Int) cs = true := by
    unfold fairs
    rw [List.all_eq_true]
    intro c hc
    have : c.zs ∈ lvl n := by rw [← h]; exact List.mem_map_of_mem hc
    obtain ⟨b, _, e⟩ := lvl_mem.1 this
    rw [← e]
    exact clauseZ_fair (Nat.le_refl _)
  unfold checkZ
  rw [if_neg (by omega), if_neg (by omega), if_pos hf]
theorem all_answer {n : Nat} (h1 : 1 ≤ n) (h6 : n ≤ 6) {cs : List Cl} (h : cs.map Cl.zs = lvl n) : answerZ (n : Int) (cs.map Cl.zs) (checkZ (n : Int) cs) ((pl n).map fun c => (false, c)) = (-1, 0) := by
  unfold answerZ
  rw [if_pos (all_check h6 h), h]
  exact all_play h1 h6
theorem pl_len {n : Nat} (h : n ≤ 6) : (pl n).length ≤ 63 ∧ (lvl n).length ≤ 64 ∧ (∀ c ∈ pl n, c.length ≤ 6) ∧ (∀ c ∈ lvl n, c.length ≤ 6) := by
  have hp : ∀ n, (pl n).length + 1 = 2 ^ n := by
    intro n
    induction n with
    | zero => rfl
    | succ n ih => simp only [pl, List.length_append, lvl, List.length_map, List.length_range]; rw [Nat.pow_succ]; omega
  have hl : ∀ k, k ≤ 6 → ∀ c ∈ lvl k, c.length ≤ 6 := fun k hk c hc => by
    obtain ⟨b, _, rfl⟩ := lvl_mem.1 hc
    simp [clauseZ]; exact hk
  have h2 : 2 ^ n ≤ 64 := Nat.pow_le_pow_right (by decide) h
  refine ⟨by have := hp n; omega, by simp [lvl]; exact h2, ?_, hl n h⟩
  intro c hc
  have : ∀ m, m ≤ 6 → ∀ c ∈ pl m, c.length ≤ 6 := by
    intro m
    induction m with
    | zero => intro _ c hc; cases hc
    | succ m ih =>
      intro hm c hc
      rcases List.mem_append.1 hc with e | e
      · exact hl m (by omega) c e
      · exact ih (by omega) c e
  exact this n h c hc
end Go.Proofs.YtagfnjpjmmleiaaDoor
/- Drat: the clause of a number's bits, walked. -/
set_option autoImplicit false
set_option linter.unusedVariables false
set_option linter.unusedSimpArgs false
namespace Go.Proofs.YtagfnjpjmmleiaaDoor
open Go.Shelf Go.RowKit
theorem bit_all : ((List.range 64).all fun b => (List.range 6).all fun j => bits BinOp.and IntKind.i64 ((b : Int) / 2 ^ j) 1 == (if b.testBit j = true then 1 else 0)) = true := by decide +kernel
theorem bit_at {b j : Nat} (hb : b < 64) (hj : j < 6) : bits BinOp.and IntKind.i64 ((b : Int) / 2 ^ j) 1 = (if b.testBit j = true then 1 else 0) := by
  have h := List.all_eq_true.1 (List.all_eq_true.1 bit_all b (List.mem_range.2 hb)) j (List.mem_range.2 hj)
  simpa using h
def ClauseOut (k b : Nat) (w : World) (e : Ending) (w' : World) : Prop := ∃ v, e = .returned v ∧ w'.ownsRow w.heap.size 3 1 v k (intC (clauseZ k b)) ∧ Below w.heap.size w w'
set_option maxHeartbeats 8000000 in
set_option maxRecDepth 1000000 in
theorem clause_walk (k b : Nat) (w : World) (hk : k ≤ 6) (hb : b < 64) : Calls Tryd.prog 20 #[.int .i64 (k : Int), .int .i64 (b : Int)] w (ClauseOut k b w) := by
  obtain ⟨i0, hi0, hz0, hz1, hz2⟩ := info_parts info3
  go_enter Tryd.func20, Tryd.ntmps20
  go_wp2
  go_loopw [5, 6] (fun v iv wr => ∃ j : Nat, j ≤ k ∧ iv = .int .i64 j ∧ wr.ownsRow w.heap.size 3 1 v j (intC ((List.range j).map (litB b))) ∧ Below w.heap.size w wr) (fun _ iv _ => k - (intOf iv).toNat)
  case atStart => exact ⟨0, Nat.zero_le _, rfl, World.ownsRow_nil _ _ _ _, Below.refl _ _⟩
  case round =>
    obtain ⟨j, hj, rfl, hown, hbw⟩ := hrel
    by_cases hlt : j < k
    · have hjI : (j : Int) < k := by omega
      have hbit := bit_at hb (show j < 6 by omega)
      cases ht : b.testBit j with
      | true =>
        rw [ht, if_pos rfl] at hbit
        have hlit : litB b j = -((j : Int) + 1) := by unfold litB; rw [if_pos ht]
        go_wp2_with (first | (at_builtin; refine wpList_append_own _ rfl _ _ 33 rfl w.heap.size 3 i0 (.int .i64 0) 1 8 Tryd.underlying33 hi0 hz0 hz1 hz2 rfl (by decide) _ _ _ rfl (hown.alloc _) ⟨wr.heap.size, 0, none⟩ 1 1 [.int .i64 (-((j : Int) + 1))] rfl rfl ?c1 ?c2 ?c3 ?c4 ?c5 ?_))
        case c1 =>
          intro q u hq
          match q, hq with
          | 0, hq =>
            simp at hq
            subst hq
            rw [add_plain]
            exact cell_new wr _ _ _ 0
        case c2 => intro u hu; simp at hu; subst hu; rfl
        case c3 => unfold maxLen; omega
        case c4 => omega
        case c5 => have := hbw.size; simp; omega
        intro v' w1 hown' hgrow _
        have hlt' := hown.lt
        have hbx := (hbw.alloc hbw.size (.cells #[.int .i64 (-((j : Int) + 1))] 3)).grown hgrow (by have := hbw.size; simp; omega) (fun g hg => (hlt' g hg).1)
        have hown2 : w1.ownsRow w.heap.size 3 1 v' (j + 1) (intC ((List.range (j + 1)).map (litB b))) := by
          rw [List.range_succ, List.map_append, List.map_singleton, hlit, intC_append]
          exact hown'
        clear hgrow hown' hown hlt' hlit
        go_wp2
        go_roundw
        case rel => exact ⟨j + 1, hlt, (by simp), hown2, hbx⟩
        case measure => simp [intOf]; omega
      | false =>
        rw [ht, if_neg (by decide)] at hbit
        have hlit : litB b j = (j : Int) + 1 := by unfold litB; rw [if_neg (by rw [ht]; decide)]
        go_wp2_with (first | (at_builtin; refine wpList_append_own _ rfl _ _ 33 rfl w.heap.size 3 i0 (.int .i64 0) 1 8 Tryd.underlying33 hi0 hz0 hz1 hz2 rfl (by decide) _ _ _ rfl (hown.alloc _) ⟨wr.heap.size, 0, none⟩ 1 1 [.int .i64 ((j : Int) + 1)] rfl rfl ?c1 ?c2 ?c3 ?c4 ?c5 ?_))
        case c1 =>
          intro q u hq
          match q, hq with
          | 0, hq =>
            simp at hq
            subst hq
            rw [add_plain]
            exact cell_new wr _ _ _ 0
        case c2 => intro u hu; simp at hu; subst hu; rfl
        case c3 => unfold maxLen; omega
        case c4 => omega
        case c5 => have := hbw.size; simp; omega
        intro v' w1 hown' hgrow _
        have hlt' := hown.lt
        have hbx := (hbw.alloc hbw.size (.cells #[.int .i64 ((j : Int) + 1)] 3)).grown hgrow (by have := hbw.size; simp; omega) (fun g hg => (hlt' g hg).1)
        have hown2 : w1.ownsRow w.heap.size 3 1 v' (j + 1) (intC ((List.range (j + 1)).map (litB b))) := by
          rw [List.range_succ, List.map_append, List.map_singleton, hlit, intC_append]
          exact hown'
        clear hgrow hown' hown hlt' hlit
        go_wp2
        go_roundw
        case rel => exact ⟨j + 1, hlt, (by simp), hown2, hbx⟩
        case measure => simp [intOf]; omega
    · have e0 : k = j := by omega
      subst e0
      have hR : ClauseOut k b w (.returned u5) wr := ⟨u5, rfl, hown, hbw⟩
      go_wp2
      go_ret
      exact hR
end Go.Proofs.YtagfnjpjmmleiaaDoor
